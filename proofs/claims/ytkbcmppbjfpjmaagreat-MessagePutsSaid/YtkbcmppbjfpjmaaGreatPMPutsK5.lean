/- Part 5 of the proof of PMPuts. -/
import Derived.Test.YtkbcmppbjfpjmaaGreatPMPutsK4
namespace Go.Proofs.YtkbcmppbjfpjmaaGreat
open Go Go.RowKit
set_option linter.all false
theorem yBh (s : ByteArray) : (s.toList == (⟨#[]⟩ : ByteArray).toList) = yg4 s := by
 rw [yf2, yg4]
 apply Bool.eq_iff_iff.2
 simp only [decide_eq_true_eq]
 constructor
 ·rintro rfl; rfl
 ·intro h; exact ByteArray.ext (Array.eq_empty_of_size_eq_zero h)
theorem yJQ (x : Int) : decide (x = 0) = !(x != 0) := by
 by_cases h : x = 0 <;> simp [h]
theorem yKj (b : PBatch) (n : Nat) (hr : n = b.recs.length) : decide (b = ybS) = (!(b.prod != 0) && !(b.epoch != 0) && !(b.seq != 0) && !(decide ((n : Int) > 0))) := by
 obtain ⟨b1, b2, b3, b4⟩ := b
 subst hr
 by_cases h1 : b1 = 0 <;> by_cases h2 : b2 = 0 <;> by_cases h3 : b3 = 0 <;> cases b4 <;> simp [ybS, h1, h2, h3] <;> omega
theorem yC0 {o : POp} {rs ts : Sl} (hr : rs.n = o.b.recs.length) (ht : ts.n = o.topics.length) : yeA o = (((ha o.kind 112 || ha o.kind 116 || (o.part.t.toList == (⟨#[]⟩ : ByteArray).toList)) && (ha o.kind 112 || !(o.part.n != 0)) && (ha o.kind 110 || !(o.n != 0)) && (ha o.kind 111 || !(o.off != 0))) && (ha o.kind 98 || (!(o.b.prod != 0) && !(o.b.epoch != 0) && !(o.b.seq != 0) && !(decide ((rs.n : Int) > 0)))) && ((ha o.kind 103 || (o.g.toList == (⟨#[]⟩ : ByteArray).toList)) && (ha o.kind 109 || (o.m.toList == (⟨#[]⟩ : ByteArray).toList)) && (ha o.kind 101 || !(o.gen != 0))) && (ha o.kind 114 || (!o.robin && ((ts.n : Int) == 0)))) := by
 have ht0 : decide (o.topics = []) = ((ts.n : Int) == 0) := by
  rw [ht]
  cases o.topics <;> simp
  omega
 unfold yeA
 rw [yKj o.b rs.n hr, ht0, yBh, yBh, yBh, yJQ, yJQ, yJQ, yJQ]
 simp only [Bool.and_assoc]
set_option maxHeartbeats 4000000 in
theorem yFW {w : World} {o : POp} {rs ts : Sl} (h0 : 0 ≤ o.kind) (h1 : o.kind ≤ 12) (hr : rs.n = o.b.recs.length) (ht : ts.n = o.topics.length) :
  Calls pP 123 #[o.v rs ts] w fun e w' => e = .returned (.bool (yeA o)) ∧ Mod [] w w' := by
 have hO := yC0 hr ht
 have A112 : ∀ w, Calls pP 124 #[.string (yf4 o.kind), .int .u8 112] w fun e w' => e = .returned (.bool (ha o.kind 112)) ∧ w' = w := fun w => ybQ h0 h1 (c := 112) (by decide) w
 have A116 : ∀ w, Calls pP 124 #[.string (yf4 o.kind), .int .u8 116] w fun e w' => e = .returned (.bool (ha o.kind 116)) ∧ w' = w := fun w => ybQ h0 h1 (c := 116) (by decide) w
 have A110 : ∀ w, Calls pP 124 #[.string (yf4 o.kind), .int .u8 110] w fun e w' => e = .returned (.bool (ha o.kind 110)) ∧ w' = w := fun w => ybQ h0 h1 (c := 110) (by decide) w
 have A111 : ∀ w, Calls pP 124 #[.string (yf4 o.kind), .int .u8 111] w fun e w' => e = .returned (.bool (ha o.kind 111)) ∧ w' = w := fun w => ybQ h0 h1 (c := 111) (by decide) w
 have A98 : ∀ w, Calls pP 124 #[.string (yf4 o.kind), .int .u8 98] w fun e w' => e = .returned (.bool (ha o.kind 98)) ∧ w' = w := fun w => ybQ h0 h1 (c := 98) (by decide) w
 have A103 : ∀ w, Calls pP 124 #[.string (yf4 o.kind), .int .u8 103] w fun e w' => e = .returned (.bool (ha o.kind 103)) ∧ w' = w := fun w => ybQ h0 h1 (c := 103) (by decide) w
 have A109 : ∀ w, Calls pP 124 #[.string (yf4 o.kind), .int .u8 109] w fun e w' => e = .returned (.bool (ha o.kind 109)) ∧ w' = w := fun w => ybQ h0 h1 (c := 109) (by decide) w
 have A101 : ∀ w, Calls pP 124 #[.string (yf4 o.kind), .int .u8 101] w fun e w' => e = .returned (.bool (ha o.kind 101)) ∧ w' = w := fun w => ybQ h0 h1 (c := 101) (by decide) w
 have A114 : ∀ w, Calls pP 124 #[.string (yf4 o.kind), .int .u8 114] w fun e w' => e = .returned (.bool (ha o.kind 114)) ∧ w' = w := fun w => ybQ h0 h1 (c := 114) (by decide) w
 refine yaP (yHZ ?_)
 intro b1 f1 w2 A2
 refine (yBf h0 h1 w2).mono ?_
 rintro e w3 ⟨rfl, M3⟩
 refine ⟨_, rfl, yaE.of0 M3, ?_⟩
 have N3 := A2.mod.go0 M3 (by simp)
 have c6 : ((ha o.kind 112 || ha o.kind 116 || (o.part.t.toList == (⟨#[]⟩ : ByteArray).toList)) && (ha o.kind 112 || !(o.part.n != 0)) && (ha o.kind 110 || !(o.n != 0)) && (ha o.kind 111 || !(o.off != 0))) = true → (ha o.kind 98 || (!(o.b.prod != 0) && !(o.b.epoch != 0) && !(o.b.seq != 0) && !(decide ((rs.n : Int) > 0)))) = true → ((ha o.kind 103 || (o.g.toList == (⟨#[]⟩ : ByteArray).toList)) && (ha o.kind 109 || (o.m.toList == (⟨#[]⟩ : ByteArray).toList)) && (ha o.kind 101 || !(o.gen != 0))) = true → yz6 (yf4 o.kind) b1 o.kind o.part.t o.part.n o.n o.off o.b.prod o.b.epoch o.b.seq rs.a rs.n rs.c o.g o.m o.gen o.robin ts.a ts.n ts.c (fun v w' => v = .bool (yeA o) ∧ Mod [] w w') w3 := fun q1 q2 q3 => by
  rw [q1, q2, q3] at hO
  refine (A114 _).mono ?_
  rintro e w' ⟨rfl, rfl⟩
  refine ⟨_, rfl, yaE.of0 (Mod.refl _), ?_⟩
  refine yaB (fun g => ⟨?_, N3⟩) fun g => yaB (fun g2 => ⟨?_, N3⟩) fun g2 => ⟨?_, N3⟩
  ·rw [hO, g]; rfl
  ·rw [hO, g, g2]; rfl
  ·rw [hO, g, g2]; rfl
 have c5 : ∀ t : Bool, ((ha o.kind 112 || ha o.kind 116 || (o.part.t.toList == (⟨#[]⟩ : ByteArray).toList)) && (ha o.kind 112 || !(o.part.n != 0)) && (ha o.kind 110 || !(o.n != 0)) && (ha o.kind 111 || !(o.off != 0))) = true → (ha o.kind 98 || (!(o.b.prod != 0) && !(o.b.epoch != 0) && !(o.b.seq != 0) && !(decide ((rs.n : Int) > 0)))) = true → t = !((ha o.kind 103 || (o.g.toList == (⟨#[]⟩ : ByteArray).toList)) && (ha o.kind 109 || (o.m.toList == (⟨#[]⟩ : ByteArray).toList)) && (ha o.kind 101 || !(o.gen != 0))) → yz5 (yf4 o.kind) t b1 o.kind o.part.t o.part.n o.n o.off o.b.prod o.b.epoch o.b.seq rs.a rs.n rs.c o.g o.m o.gen o.robin ts.a ts.n ts.c (fun v w' => v = .bool (yeA o) ∧ Mod [] w w') w3 := fun t q1 q2 e => by
  subst e
  refine yaB (fun g => ⟨?_, N3⟩) fun g => yFb (c6 q1 q2 (yhJ g))
  rw [hO, q1, q2, yi1 g]; simp
 have c4 : ((ha o.kind 112 || ha o.kind 116 || (o.part.t.toList == (⟨#[]⟩ : ByteArray).toList)) && (ha o.kind 112 || !(o.part.n != 0)) && (ha o.kind 110 || !(o.n != 0)) && (ha o.kind 111 || !(o.off != 0))) = true → (ha o.kind 98 || (!(o.b.prod != 0) && !(o.b.epoch != 0) && !(o.b.seq != 0) && !(decide ((rs.n : Int) > 0)))) = true → ytY (yf4 o.kind) b1 o.kind o.part.t o.part.n o.n o.off o.b.prod o.b.epoch o.b.seq rs.a rs.n rs.c o.g o.m o.gen o.robin ts.a ts.n ts.c (fun v w' => v = .bool (yeA o) ∧ Mod [] w w') w3 := fun q1 q2 => by
  unfold ytY
  clear c6 N3 hO
  have c := fun t => c5 t q1 q2
  clear c5 q1 q2
  generalize ha o.kind 103 = G at *
  generalize ha o.kind 109 = M at *
  generalize ha o.kind 101 = E at *
  generalize (o.g.toList == (⟨#[]⟩ : ByteArray).toList) = eg at *
  generalize (o.m.toList == (⟨#[]⟩ : ByteArray).toList) = em at *
  generalize (o.gen != 0) = zg at *
  repeat' (first | ((with_reducible refine yaB (fun g => ?_) fun g => ?_) <;> first | exact absurd g (by decide) | subst g | (replace g := yi1 g; subst g) | (replace g := yhJ g; subst g) | clear g) | (with_reducible refine Calls.mono (A112 _) ?_; rintro e w' ⟨rfl, rfl⟩; refine ⟨_, rfl, yaE.of0 (Mod.refl _), ?_⟩) | (with_reducible refine Calls.mono (A116 _) ?_; rintro e w' ⟨rfl, rfl⟩; refine ⟨_, rfl, yaE.of0 (Mod.refl _), ?_⟩) | (with_reducible refine Calls.mono (A110 _) ?_; rintro e w' ⟨rfl, rfl⟩; refine ⟨_, rfl, yaE.of0 (Mod.refl _), ?_⟩) | (with_reducible refine Calls.mono (A111 _) ?_; rintro e w' ⟨rfl, rfl⟩; refine ⟨_, rfl, yaE.of0 (Mod.refl _), ?_⟩) | (with_reducible refine Calls.mono (A98 _) ?_; rintro e w' ⟨rfl, rfl⟩; refine ⟨_, rfl, yaE.of0 (Mod.refl _), ?_⟩) | (with_reducible refine Calls.mono (A103 _) ?_; rintro e w' ⟨rfl, rfl⟩; refine ⟨_, rfl, yaE.of0 (Mod.refl _), ?_⟩) | (with_reducible refine Calls.mono (A109 _) ?_; rintro e w' ⟨rfl, rfl⟩; refine ⟨_, rfl, yaE.of0 (Mod.refl _), ?_⟩) | (with_reducible refine Calls.mono (A101 _) ?_; rintro e w' ⟨rfl, rfl⟩; refine ⟨_, rfl, yaE.of0 (Mod.refl _), ?_⟩) | (with_reducible refine Calls.mono (A114 _) ?_; rintro e w' ⟨rfl, rfl⟩; refine ⟨_, rfl, yaE.of0 (Mod.refl _), ?_⟩))
  all_goals exact yFa (c _ (by first | rfl | simp))
 have c3 : ∀ t : Bool, ((ha o.kind 112 || ha o.kind 116 || (o.part.t.toList == (⟨#[]⟩ : ByteArray).toList)) && (ha o.kind 112 || !(o.part.n != 0)) && (ha o.kind 110 || !(o.n != 0)) && (ha o.kind 111 || !(o.off != 0))) = true → t = !(ha o.kind 98 || (!(o.b.prod != 0) && !(o.b.epoch != 0) && !(o.b.seq != 0) && !(decide ((rs.n : Int) > 0)))) → yz4 (yf4 o.kind) t b1 o.kind o.part.t o.part.n o.n o.off o.b.prod o.b.epoch o.b.seq rs.a rs.n rs.c o.g o.m o.gen o.robin ts.a ts.n ts.c (fun v w' => v = .bool (yeA o) ∧ Mod [] w w') w3 := fun t q1 e => by
  subst e
  refine yaB (fun g => ⟨?_, N3⟩) fun g => yE9 (c4 q1 (yhJ g))
  rw [hO, q1, yi1 g]; simp
 have c2 : ((ha o.kind 112 || ha o.kind 116 || (o.part.t.toList == (⟨#[]⟩ : ByteArray).toList)) && (ha o.kind 112 || !(o.part.n != 0)) && (ha o.kind 110 || !(o.n != 0)) && (ha o.kind 111 || !(o.off != 0))) = true → ytX (yf4 o.kind) b1 o.kind o.part.t o.part.n o.n o.off o.b.prod o.b.epoch o.b.seq rs.a rs.n rs.c o.g o.m o.gen o.robin ts.a ts.n ts.c (fun v w' => v = .bool (yeA o) ∧ Mod [] w w') w3 := fun q1 => by
  unfold ytX
  clear c6 N3 hO c4 c5
  have c := fun t => c3 t q1
  clear c3 q1
  generalize ha o.kind 98 = B at *
  generalize (o.b.prod != 0) = z5 at *
  generalize (o.b.epoch != 0) = z6 at *
  generalize (o.b.seq != 0) = z7 at *
  generalize decide ((rs.n : Int) > 0) = z8 at *
  repeat' (first | ((with_reducible refine yaB (fun g => ?_) fun g => ?_) <;> first | exact absurd g (by decide) | subst g | (replace g := yi1 g; subst g) | (replace g := yhJ g; subst g) | clear g) | (with_reducible refine Calls.mono (A112 _) ?_; rintro e w' ⟨rfl, rfl⟩; refine ⟨_, rfl, yaE.of0 (Mod.refl _), ?_⟩) | (with_reducible refine Calls.mono (A116 _) ?_; rintro e w' ⟨rfl, rfl⟩; refine ⟨_, rfl, yaE.of0 (Mod.refl _), ?_⟩) | (with_reducible refine Calls.mono (A110 _) ?_; rintro e w' ⟨rfl, rfl⟩; refine ⟨_, rfl, yaE.of0 (Mod.refl _), ?_⟩) | (with_reducible refine Calls.mono (A111 _) ?_; rintro e w' ⟨rfl, rfl⟩; refine ⟨_, rfl, yaE.of0 (Mod.refl _), ?_⟩) | (with_reducible refine Calls.mono (A98 _) ?_; rintro e w' ⟨rfl, rfl⟩; refine ⟨_, rfl, yaE.of0 (Mod.refl _), ?_⟩) | (with_reducible refine Calls.mono (A103 _) ?_; rintro e w' ⟨rfl, rfl⟩; refine ⟨_, rfl, yaE.of0 (Mod.refl _), ?_⟩) | (with_reducible refine Calls.mono (A109 _) ?_; rintro e w' ⟨rfl, rfl⟩; refine ⟨_, rfl, yaE.of0 (Mod.refl _), ?_⟩) | (with_reducible refine Calls.mono (A101 _) ?_; rintro e w' ⟨rfl, rfl⟩; refine ⟨_, rfl, yaE.of0 (Mod.refl _), ?_⟩) | (with_reducible refine Calls.mono (A114 _) ?_; rintro e w' ⟨rfl, rfl⟩; refine ⟨_, rfl, yaE.of0 (Mod.refl _), ?_⟩))
  all_goals exact yE8 (c _ (by first | rfl | simp))
 have c1 : ∀ t : Bool, t = !((ha o.kind 112 || ha o.kind 116 || (o.part.t.toList == (⟨#[]⟩ : ByteArray).toList)) && (ha o.kind 112 || !(o.part.n != 0)) && (ha o.kind 110 || !(o.n != 0)) && (ha o.kind 111 || !(o.off != 0))) → yz3 (yf4 o.kind) t b1 o.kind o.part.t o.part.n o.n o.off o.b.prod o.b.epoch o.b.seq rs.a rs.n rs.c o.g o.m o.gen o.robin ts.a ts.n ts.c (fun v w' => v = .bool (yeA o) ∧ Mod [] w w') w3 := fun t e => by
  subst e
  refine yaB (fun g => ⟨?_, N3⟩) fun g => yE7 (c2 (yhJ g))
  rw [hO, yi1 g]; simp
 clear c2 c3 c4 c5 c6 N3 hO
 generalize ha o.kind 112 = P at *
 generalize ha o.kind 116 = T at *
 generalize ha o.kind 110 = N at *
 generalize ha o.kind 111 = O at *
 generalize (o.part.t.toList == (⟨#[]⟩ : ByteArray).toList) = et at *
 generalize (o.part.n != 0) = z2 at *
 generalize (o.n != 0) = z3 at *
 generalize (o.off != 0) = z4 at *
 repeat' (first | ((with_reducible refine yaB (fun g => ?_) fun g => ?_) <;> first | exact absurd g (by decide) | subst g | (replace g := yi1 g; subst g) | (replace g := yhJ g; subst g) | clear g) | (with_reducible refine Calls.mono (A112 _) ?_; rintro e w' ⟨rfl, rfl⟩; refine ⟨_, rfl, yaE.of0 (Mod.refl _), ?_⟩) | (with_reducible refine Calls.mono (A116 _) ?_; rintro e w' ⟨rfl, rfl⟩; refine ⟨_, rfl, yaE.of0 (Mod.refl _), ?_⟩) | (with_reducible refine Calls.mono (A110 _) ?_; rintro e w' ⟨rfl, rfl⟩; refine ⟨_, rfl, yaE.of0 (Mod.refl _), ?_⟩) | (with_reducible refine Calls.mono (A111 _) ?_; rintro e w' ⟨rfl, rfl⟩; refine ⟨_, rfl, yaE.of0 (Mod.refl _), ?_⟩) | (with_reducible refine Calls.mono (A98 _) ?_; rintro e w' ⟨rfl, rfl⟩; refine ⟨_, rfl, yaE.of0 (Mod.refl _), ?_⟩) | (with_reducible refine Calls.mono (A103 _) ?_; rintro e w' ⟨rfl, rfl⟩; refine ⟨_, rfl, yaE.of0 (Mod.refl _), ?_⟩) | (with_reducible refine Calls.mono (A109 _) ?_; rintro e w' ⟨rfl, rfl⟩; refine ⟨_, rfl, yaE.of0 (Mod.refl _), ?_⟩) | (with_reducible refine Calls.mono (A101 _) ?_; rintro e w' ⟨rfl, rfl⟩; refine ⟨_, rfl, yaE.of0 (Mod.refl _), ?_⟩) | (with_reducible refine Calls.mono (A114 _) ?_; rintro e w' ⟨rfl, rfl⟩; refine ⟨_, rfl, yaE.of0 (Mod.refl _), ?_⟩))
 all_goals exact yE6 (c1 _ (by first | rfl | simp))
set_option maxHeartbeats 4000000 in
theorem yqM {w : World} {o : POp} {rs ts : Sl} (h1 : yb3 w 4 ye7 rs.a rs.n o.b.recs) (h2 : yb3 w 1 yiO ts.a ts.n o.topics) :
  Calls pP 100 #[o.v rs ts] w fun e w' => e = .returned (.int .i64 (opE o)) ∧ Mod [] w w' := by
 refine yaP (yH0 ?_)
 intro b1 f1
 refine yaC (fun g => fun w2 A2 => ⟨by rw [opE, if_pos (.inl g)], A2.mod⟩) fun k0 => ?_
 refine yaC (fun g => fun w2 A2 => ⟨by rw [opE, if_pos (.inr g)], A2.mod⟩) fun k1 => ?_
 have k0 : 0 ≤ o.kind := by omega
 have k1 : o.kind ≤ 12 := by omega
 have hE : opE o = if yp3 o = false then 40 else if (num o.part.n && num o.n && num o.off && num o.gen) = false then 1 else if o.kind = 2 then ybD o.b else 0 := by rw [opE, if_neg (by omega)]
 intro w4 A4
 refine (yBf k0 k1 w4).mono ?_
 rintro e w5 ⟨rfl, M5⟩
 refine ⟨_, rfl, yaE.of0 M5, ?_⟩
 have N5 := A4.mod.go0 M5 (by simp)
 refine (yFW k0 k1 h1.1 h2.1).mono ?_
 rintro e w7 ⟨rfl, M7⟩
 refine ⟨_, rfl, yaE.of0 M7, ?_⟩
 have N7 := N5.go0 M7 (by simp)
 have bad : ∀ w', yp3 o = false → Mod [] w w' → (Value.int .i64 40 = Value.int .i64 (opE o) ∧ Mod [] w w') := fun w' hf M => ⟨by rw [hE, if_pos hf], M⟩
 have c1 : ∀ w', yp3 o = true → Mod [] w w' → yz7 b1 o.kind o.part.t o.part.n o.n o.off o.b.prod o.b.epoch o.b.seq rs.a rs.n rs.c o.g o.m o.gen o.robin ts.a ts.n ts.c (fun v w' => v = .int .i64 (opE o) ∧ Mod [] w w') w' := fun w' hf N => by
  rw [if_neg (by rw [hf]; decide)] at hE
  have no : ∀ {k : Int} {w'' : World}, opE o = k → Mod [] w w'' → (Value.int .i64 k = Value.int .i64 (opE o) ∧ Mod [] w w'') := fun e M => ⟨by rw [e], M⟩
  refine (ycM o.part.n w').mono ?_
  rintro e w8 ⟨rfl, rfl⟩
  refine ⟨_, rfl, yaE.of0 (Mod.refl _), yaB (fun g => no (by rw [hE, if_pos (by rw [yi1 g]; rfl)]) N) fun g1 => ?_⟩
  refine (ycM o.n w8).mono ?_
  rintro e w9 ⟨rfl, rfl⟩
  refine ⟨_, rfl, yaE.of0 (Mod.refl _), yaB (fun g => no (by rw [hE, if_pos (by rw [yi1 g]; simp)]) N) fun g2 => ?_⟩
  refine (ycM o.off w9).mono ?_
  rintro e w10 ⟨rfl, rfl⟩
  refine ⟨_, rfl, yaE.of0 (Mod.refl _), yaB (fun g => no (by rw [hE, if_pos (by rw [yi1 g]; simp)]) N) fun g3 => ?_⟩
  refine (ycM o.gen w10).mono ?_
  rintro e w11 ⟨rfl, rfl⟩
  refine ⟨_, rfl, yaE.of0 (Mod.refl _), yaB (fun g => no (by rw [hE, if_pos (by rw [yi1 g]; simp)]) N) fun g4 => ?_⟩
  rw [if_neg (by rw [yhJ g1, yhJ g2, yhJ g3, yhJ g4]; decide)] at hE
  refine yaB (fun g => ?_) fun g => no (by rw [hE, if_neg (by simpa using g)]) N
  refine (yuY (b := o.b) (rs := rs) (h1.keep0 N)).mono ?_
  rintro e w12 ⟨rfl, M12⟩
  exact ⟨_, rfl, yaE.of0 M12, no (by rw [hE, if_pos (by simpa using g)]) (N.go0 M12 (by simp))⟩
 have hNs := fun w' (M : Mod [] w7 w') => yBg (l := o.topics) (ts := ts) (h2.keep0 (N7.go0 M (by simp)))
 have hN1 := yg2 o.part.t
 have hN2 := yg2 o.g
 have hN3 := yg2 o.m
 unfold yp3 at bad c1
 have A112 : ∀ w, Calls pP 124 #[.string (yf4 o.kind), .int .u8 112] w fun e w' => e = .returned (.bool (ha o.kind 112)) ∧ w' = w := fun w => ybQ k0 k1 (c := 112) (by decide) w
 have A116 : ∀ w, Calls pP 124 #[.string (yf4 o.kind), .int .u8 116] w fun e w' => e = .returned (.bool (ha o.kind 116)) ∧ w' = w := fun w => ybQ k0 k1 (c := 116) (by decide) w
 have A103 : ∀ w, Calls pP 124 #[.string (yf4 o.kind), .int .u8 103] w fun e w' => e = .returned (.bool (ha o.kind 103)) ∧ w' = w := fun w => ybQ k0 k1 (c := 103) (by decide) w
 have A109 : ∀ w, Calls pP 124 #[.string (yf4 o.kind), .int .u8 109] w fun e w' => e = .returned (.bool (ha o.kind 109)) ∧ w' = w := fun w => ybQ k0 k1 (c := 109) (by decide) w
 have A108 : ∀ w, Calls pP 124 #[.string (yf4 o.kind), .int .u8 108] w fun e w' => e = .returned (.bool (ha o.kind 108)) ∧ w' = w := fun w => ybQ k0 k1 (c := 108) (by decide) w
 clear hE h1 h2 N5 M7
 generalize ha o.kind 112 = P at *
 generalize ha o.kind 116 = T at *
 generalize ha o.kind 103 = G at *
 generalize ha o.kind 109 = M at *
 generalize ha o.kind 108 = L at *
 generalize ybO o.part.t = n1 at *
 generalize ybO o.g = n2 at *
 generalize ybO o.m = n3 at *
 generalize ycC o.topics = ns at *
 generalize yeA o = on at *
 repeat' (first | ((with_reducible refine yaB (fun g => ?_) fun g => ?_) <;> first | exact absurd g (by decide) | subst g | (replace g := yi1 g; subst g) | (replace g := yhJ g; subst g) | clear g) | (with_reducible refine Calls.mono (A112 _) ?_; rintro e w' ⟨rfl, rfl⟩; refine ⟨_, rfl, yaE.of0 (Mod.refl _), ?_⟩) | (with_reducible refine Calls.mono (A116 _) ?_; rintro e w' ⟨rfl, rfl⟩; refine ⟨_, rfl, yaE.of0 (Mod.refl _), ?_⟩) | (with_reducible refine Calls.mono (A103 _) ?_; rintro e w' ⟨rfl, rfl⟩; refine ⟨_, rfl, yaE.of0 (Mod.refl _), ?_⟩) | (with_reducible refine Calls.mono (A109 _) ?_; rintro e w' ⟨rfl, rfl⟩; refine ⟨_, rfl, yaE.of0 (Mod.refl _), ?_⟩) | (with_reducible refine Calls.mono (A108 _) ?_; rintro e w' ⟨rfl, rfl⟩; refine ⟨_, rfl, yaE.of0 (Mod.refl _), ?_⟩) | (with_reducible refine Calls.mono (hN1 _) ?_; rintro e w' ⟨rfl, rfl⟩; refine ⟨_, rfl, yaE.of0 (Mod.refl _), ?_⟩) | (with_reducible refine Calls.mono (hN2 _) ?_; rintro e w' ⟨rfl, rfl⟩; refine ⟨_, rfl, yaE.of0 (Mod.refl _), ?_⟩) | (with_reducible refine Calls.mono (hN3 _) ?_; rintro e w' ⟨rfl, rfl⟩; refine ⟨_, rfl, yaE.of0 (Mod.refl _), ?_⟩) | (with_reducible refine Calls.mono (hNs _ (Mod.refl _)) ?_; rintro e w8 ⟨rfl, M8⟩; have N8 := N7.go0 M8 (by simp); refine ⟨_, rfl, yaE.of0 M8, ?_⟩))
 all_goals first | exact bad _ (by first | rfl | simp) N7 | exact bad _ (by first | rfl | simp) N8 | exact yz8 (c1 _ (by first | rfl | simp) N7) | exact yz8 (c1 _ (by first | rfl | simp) N8)
end Go.Proofs.YtkbcmppbjfpjmaaGreat
namespace Go.Proofs.YtkbcmppbjfpjmaaGreat
open Go Go.RowKit Go.ChangeShapes Go.WideShapes Go.ChangeAt
set_option linter.unusedVariables false
set_option linter.unusedSimpArgs false
def ymH : Option TypeDesc → Bool
 | some (.int _) | some .bool | some .string | some (.slice _) | some (.struct _) => true
 | _ => false
inductive OkT (P : Program) (w : World) : TypeId → List Value → Prop
 | int {t : TypeId} {k : IntKind} {x : Int} (h : P.underlying t = some (.int k)) (hw : (Lit.int k x).wf = true) : OkT P w t [.int k x]
 | bool {t : TypeId} {b : Bool} (h : P.underlying t = some .bool) : OkT P w t [.bool b]
 | string {t : TypeId} {s : ByteArray} (h : P.underlying t = some .string) (hs : s.size ≤ maxLen) : OkT P w t [.string s]
 | nilSlice {t e : TypeId} (h : P.underlying t = some (.slice e)) : OkT P w t [.slice none 0 0]
 | slice {t e : TypeId} {ad : Addr} {len cap : Nat} (rows : Nat → List Value) (h : P.underlying t = some (.slice e)) (hl : len ≤ cap) (hc : cap ≤ maxLen) (h1 : ∀ i, i < len → (rows i).length = P.cellsOf e)
  (h2 : ∀ i, i < len → ∀ j v, (rows i)[j]? = some v → w.cell? ((ad.add (i * P.cellsOf e)).add j) = some v) (h3 : ∀ i, i < len → OkT P w e (rows i)) : OkT P w t [.slice (some ad) len cap]
 | struct {t : TypeId} {fs : Array Field} {cs : List Value} (h : P.underlying t = some (.struct fs)) (hn : cs.length = P.cellsOf t) (hf : ∀ f ∈ fs.toList, OkT P w f.type ((cs.drop f.offset).take (P.cellsOf f.type))) : OkT P w t cs
 | other {t : TypeId} {cs : List Value} (h : ymH (P.underlying t) = false) : OkT P w t cs
theorem ykI {α β : Type} {f : α → Option β} : ∀ {l : List α} {r : List β}, l.mapM f = some r → ∀ a ∈ l, ∃ b, f a = some b
 | [], _, _, a, ha => by cases ha
 | x :: l, r, h, a, ha => by
  rw [List.mapM_cons] at h
  simp only [Option.pure_def, Option.bind_eq_bind, Option.bind_eq_some_iff] at h
  obtain ⟨b, hb, r', hr, _⟩ := h
  rcases List.mem_cons.1 ha with rfl | ha
  ·exact ⟨b, hb⟩
  ·exact ykI hr a ha
theorem yuZ {α β : Type} {f : α → Option β} : ∀ {l : List α} {r : List β}, l.mapM f = some r → ∀ (j : Nat) (b : β), r[j]? = some b → ∃ a, l[j]? = some a ∧ f a = some b
 | [], r, h, j, b, hb => by simp at h; subst h; simp at hb
 | x :: l, r, h, j, b, hb => by
  rw [List.mapM_cons] at h
  simp only [Option.pure_def, Option.bind_eq_bind, Option.bind_eq_some_iff, Option.some.injEq] at h
  obtain ⟨b', hb', r', hr, rfl⟩ := h
  cases j with
  | zero => simp at hb; subst hb; exact ⟨x, rfl, hb'⟩
  | succ j => obtain ⟨a, h1, h2⟩ := yuZ hr j b (by simpa using hb); exact ⟨a, by simpa using h1, h2⟩
theorem yu0 {α β : Type} {f : α → Option β} : ∀ {l : List α} {r : List β}, l.mapM f = some r → r.length = l.length
 | [], r, h => by simp at h; subst h; rfl
 | x :: l, r, h => by
  rw [List.mapM_cons] at h
  simp only [Option.pure_def, Option.bind_eq_bind, Option.bind_eq_some_iff, Option.some.injEq] at h
  obtain ⟨b', hb', r', hr, rfl⟩ := h
  simp [yu0 hr]
theorem yBi {w : World} {base n : Nat} {a : Addr} {row : List Value} (h : w.cells? base a n = some row) : row.length = n := by
 unfold World.cells? at h
 split at h
 ·simpa using yu0 h
 ·cases h
theorem yBj {w : World} {base n : Nat} {a : Addr} {row : List Value} (h : w.cells? base a n = some row) : ∀ j v, row[j]? = some v → w.cell? (a.add j) = some v := by
 intro j v hv
 unfold World.cells? at h
 split at h
 ·obtain ⟨j', h1, h2⟩ := yuZ h j v hv
  obtain ⟨hj, rfl⟩ : j < n ∧ j = j' := by
   obtain ⟨x, y⟩ := List.getElem?_eq_some_iff.1 h1
   simp at x y; exact ⟨x, y⟩
  exact h2
 ·cases h
theorem yBk {H : Type} {enc : TypeId × Value → H} {P : Program} {w : World} {base : Nat} {sp : Nat → Bool} {held : Bool} : ∀ {fuel : Nat} {t : TypeId} {cs : List Value} {x : DataW H × List MemPlace}, DataW.trod enc P w base sp held fuel t cs = some x → OkT P w t cs := by
 intro fuel
 induction fuel with
 | zero => intro t cs x h; cases h
 | succ n ih =>
  intro t cs x h
  cases hu : P.underlying t with
  | none => exact .other (by rw [hu]; rfl)
  | some d =>
   cases d with
   | bool =>
     unfold DataW.trod at h
     rw [hu] at h
     split at h <;> simp_all
     exact .bool hu
   | int k =>
     unfold DataW.trod at h
     rw [hu] at h
     split at h <;> simp_all
     obtain ⟨⟨rfl, hw⟩, _⟩ := h
     exact .int hu hw
   | string =>
     unfold DataW.trod at h
     rw [hu] at h
     split at h <;> simp_all
     exact .string hu h.1
   | slice e =>
     rcases Go.Deep.open_slice hu h with ⟨rfl, _⟩ | ⟨a, len, cap, m, n', D, Pl, rfl, hb, hl, hc, hm, _, hel⟩
     ·exact .nilSlice hu
     ·unfold DataW.trod at h
      rw [hu] at h
      simp only at h
      split at h
      case isFalse => cases h
      rename_i hcond
      simp only [Option.bind_eq_some_iff] at h
      obtain ⟨elems, h1, _⟩ := h
      have key : ∀ i, i < len → ∃ row y, w.cells? base (a.add (i * P.cellsOf e)) (P.cellsOf e) = some row ∧ DataW.trod enc P w base sp held n e row = some y := fun i hi => by
       obtain ⟨y, hy⟩ := ykI h1 i (by simpa using hi)
       simp only [Option.bind_eq_some_iff] at hy
       obtain ⟨row, hr1, hr2⟩ := hy
       exact ⟨row, y, hr1, hr2⟩
      classical
      refine .slice (fun i => if hi : i < len then (key i hi).choose else []) hu hl hc (fun i hi => ?_) (fun i hi j v hv => ?_) (fun i hi => ?_)
      ·simp only [dif_pos hi]
       obtain ⟨y, hr1, hr2⟩ := (key i hi).choose_spec
       exact yBi hr1
      ·simp only [dif_pos hi] at hv
       obtain ⟨y, hr1, hr2⟩ := (key i hi).choose_spec
       exact yBj hr1 j v hv
      ·simp only [dif_pos hi]
       obtain ⟨y, hr1, hr2⟩ := (key i hi).choose_spec
       exact ih hr2
   | struct fs =>
    unfold DataW.trod at h
    rw [hu] at h
    simp only at h
    split at h
    ·rename_i hn
     simp only [Option.map_eq_some_iff] at h
     obtain ⟨xs, h1, _⟩ := h
     refine .struct hu hn fun f hf => ?_
     obtain ⟨y, hy⟩ := ykI h1 f hf
     exact ih hy
    ·cases h
   | _ => exact .other (by rw [hu]; rfl)
theorem OkT.int_inv {P : Program} {w : World} {t : TypeId} {k : IntKind} {cs : List Value} (h : OkT P w t cs) (hu : P.underlying t = some (.int k)) : ∃ x, cs = [.int k x] ∧ (Lit.int k x).wf = true := by
 cases h <;> simp_all [ymH]
theorem OkT.bool_inv {P : Program} {w : World} {t : TypeId} {cs : List Value} (h : OkT P w t cs) (hu : P.underlying t = some .bool) : ∃ b, cs = [.bool b] := by
 cases h <;> simp_all [ymH]
theorem OkT.string_inv {P : Program} {w : World} {t : TypeId} {cs : List Value} (h : OkT P w t cs) (hu : P.underlying t = some .string) : ∃ s, cs = [.string s] ∧ s.size ≤ maxLen := by
 cases h <;> simp_all [ymH]
theorem OkT.struct_inv {P : Program} {w : World} {t : TypeId} {fs : Array Field} {cs : List Value} (h : OkT P w t cs) (hu : P.underlying t = some (.struct fs)) : cs.length = P.cellsOf t ∧ ∀ f ∈ fs.toList, OkT P w f.type ((cs.drop f.offset).take (P.cellsOf f.type)) := by
 cases h with
 | struct h hn hf => rw [hu] at h; cases h; exact ⟨hn, hf⟩
 | _ => simp_all [ymH]
theorem OkT.slice_inv {P : Program} {w : World} {t e : TypeId} {cs : List Value} {α : Type} {enc : α → List Value} {good : α → Prop} (h : OkT P w t cs) (hu : P.underlying t = some (.slice e))
  (he : ∀ row, OkT P w e row → row.length = P.cellsOf e → ∃ x, row = enc x ∧ good x) : ∃ a len cap l, cs = [.slice a len cap] ∧ yb3 w (P.cellsOf e) enc a len l ∧ (∀ x ∈ l, good x) ∧ len ≤ cap ∧ cap ≤ maxLen := by
 cases h with
 | nilSlice h => exact ⟨none, 0, 0, [], rfl, ⟨rfl, by simp⟩, by simp, Nat.le_refl _, by decide⟩
 | @slice _ _ ad len cap rows h hl hc h1 h2 h3 =>
  rw [hu] at h; cases h
  have key : ∀ i, i < len → ∃ x, rows i = enc x ∧ good x := fun i hi => he _ (h3 i hi) (h1 i hi)
  classical
  by_cases h0 : len = 0
  ·subst h0
   exact ⟨_, _, _, [], rfl, ⟨rfl, by simp⟩, by simp, hl, hc⟩
  have x0 : α := (key 0 (by omega)).choose
  refine ⟨some ad, len, cap, (List.range len).map (fun i => if hi : i < len then (key i hi).choose else x0), rfl, ⟨by simp, fun i x hx => ⟨ad, rfl, fun j v hv => ?_⟩⟩, fun x hx => ?_, hl, hc⟩
  ·rw [List.getElem?_map] at hx
   simp only [Option.map_eq_some_iff] at hx
   obtain ⟨i', hi', rfl⟩ := hx
   obtain ⟨hil, rfl⟩ : i < len ∧ i = i' := by
    obtain ⟨a, b⟩ := List.getElem?_eq_some_iff.1 hi'
    simp at a b; exact ⟨a, b⟩
   simp only [dif_pos hil] at hv
   rw [← (key i hil).choose_spec.1] at hv
   exact h2 i hil j v hv
  ·simp only [List.mem_map, List.mem_range] at hx
   obtain ⟨i, hi, rfl⟩ := hx
   simp only [dif_pos hi]
   exact (key i hi).choose_spec.2
 | _ => simp_all [ymH]
end Go.Proofs.YtkbcmppbjfpjmaaGreat
namespace Go.Proofs.YtkbcmppbjfpjmaaGreat
open Go Go.RowKit Go.Maps Go.MapKept
set_option linter.unusedVariables false
set_option linter.unusedSimpArgs false
structure RepRd (w : World) (r : PRep) (f p : Sl) : Prop where
 found : yb3 w 5 yiM f.a f.n r.found
 parts : yb3 w 2 yjW p.a p.n r.parts
 wf : f.n ≤ maxLen
 wp : p.n ≤ maxLen
 sf : ∀ x ∈ r.found, x.r.key.size ≤ maxLen ∧ x.r.val.size ≤ maxLen
 sp : ∀ x ∈ r.parts, x.t.size ≤ maxLen
theorem RepRd.keep0 {w w' : World} {r : PRep} {f p : Sl} (h : RepRd w r f p) (M : Mod [] w w') : RepRd w' r f p := ⟨h.found.keep0 M, h.parts.keep0 M, h.wf, h.wp, h.sf, h.sp⟩
theorem cI : Tryz.prog.cellsOf 3 = 1 := by kernel_rfl
theorem cB : Tryz.prog.cellsOf 4 = 1 := by kernel_rfl
theorem cS : Tryz.prog.cellsOf 9 = 1 := by kernel_rfl
theorem cE : Tryz.prog.cellsOf 23 = 1 := by kernel_rfl
theorem cSF : Tryz.prog.cellsOf 24 = 1 := by kernel_rfl
theorem cSP : Tryz.prog.cellsOf 25 = 1 := by kernel_rfl
theorem cSR : Tryz.prog.cellsOf 44 = 1 := by kernel_rfl
theorem cSS : Tryz.prog.cellsOf 47 = 1 := by kernel_rfl
theorem cSC : Tryz.prog.cellsOf 22 = 1 := by kernel_rfl
theorem cRc : Tryz.prog.cellsOf 53 = 4 := by kernel_rfl
theorem cFd : Tryz.prog.cellsOf 55 = 5 := by kernel_rfl
theorem cPt : Tryz.prog.cellsOf 43 = 2 := by kernel_rfl
theorem cRp : Tryz.prog.cellsOf 27 = 6 := by kernel_rfl
theorem cBt : Tryz.prog.cellsOf 46 = 4 := by kernel_rfl
theorem cOp : Tryz.prog.cellsOf 49 = 14 := by kernel_rfl
theorem cCl : Tryz.prog.cellsOf 51 = 16 := by kernel_rfl
theorem cMl : Tryz.prog.cellsOf 29 = 17 := by kernel_rfl
theorem yBl (w : World) (row : List Value) (h : OkT pP w 53 row) (hl : row.length = Tryz.prog.cellsOf 53) : ∃ r : PRec, row = [.bool r.hk, .string r.key, .bool r.tomb, .string r.val] ∧ r.key.size ≤ maxLen ∧ r.val.size ≤ maxLen := by
 rw [cRc] at hl
 match row, hl with
 | [a, b, c, d], _ =>
  obtain ⟨_, hf⟩ := h.struct_inv Tryz.underlying53
  simp [cI, cB, cS, cE] at hf
  obtain ⟨ha, hb, hc, hd⟩ := hf
  obtain ⟨x1, e1⟩ := ha.bool_inv Tryz.underlying4
  obtain ⟨x2, e2, g2⟩ := hb.string_inv Tryz.underlying9
  obtain ⟨x3, e3⟩ := hc.bool_inv Tryz.underlying4
  obtain ⟨x4, e4, g4⟩ := hd.string_inv Tryz.underlying9
  simp at e1 e2 e3 e4
  subst e1 e2 e3 e4
  exact ⟨⟨x1, x2, x3, x4⟩, rfl, g2, g4⟩
theorem yBm (w : World) (row : List Value) (h : OkT pP w 55 row) (hl : row.length = Tryz.prog.cellsOf 55) : ∃ x : PFound, row = yiM x ∧ (x.r.key.size ≤ maxLen ∧ x.r.val.size ≤ maxLen) := by
 have hl' := hl
 rw [cFd] at hl
 match row, hl with
 | [a, b, c, d, e], _ =>
  obtain ⟨_, hf⟩ := h.struct_inv Tryz.underlying55
  simp [cI, cB, cS, cE, cSF, cSP, cSR, cSS, cSC, cPt, cRc, cFd, cRp] at hf
  obtain ⟨ha, hb⟩ := hf
  obtain ⟨x1, e1, _⟩ := ha.int_inv Tryz.underlying3
  obtain ⟨r, e2, g⟩ := yBl w _ hb cRc.symm
  simp at e1 e2
  obtain ⟨rfl, rfl, rfl, rfl⟩ := e2
  subst e1
  exact ⟨⟨x1, r⟩, rfl, g⟩
theorem yu1 (w : World) (row : List Value) (h : OkT pP w 43 row) (hl : row.length = Tryz.prog.cellsOf 43) : ∃ x : PPart, row = yjW x ∧ x.t.size ≤ maxLen := by
 rw [cPt] at hl
 match row, hl with
 | [a, b], _ =>
  obtain ⟨_, hf⟩ := h.struct_inv Tryz.underlying43
  simp [cI, cB, cS, cE, cSF, cSP, cSR, cSS, cSC, cPt, cRc, cFd, cRp] at hf
  obtain ⟨ha, hb⟩ := hf
  obtain ⟨x1, e1, g1⟩ := ha.string_inv Tryz.underlying9
  obtain ⟨x2, e2, _⟩ := hb.int_inv Tryz.underlying3
  simp at e1 e2
  subst e1 e2
  exact ⟨⟨x1, x2⟩, rfl, g1⟩
theorem yFX (w : World) (row : List Value) (h : OkT pP w 27 row) (hl : row.length = Tryz.prog.cellsOf 27) : ∃ (r : PRep) (f p : Sl), row = PRep.cs r f p ∧ RepRd w r f p := by
 rw [cRp] at hl
 match row, hl with
 | [a, b, c, d, e, f], _ =>
  obtain ⟨_, hf⟩ := h.struct_inv Tryz.underlying27
  simp [cI, cB, cS, cE, cSF, cSP, cSR, cSS, cSC, cPt, cRc, cFd, cRp] at hf
  obtain ⟨ha, hb, hc, hd, he, hg⟩ := hf
  obtain ⟨x1, e1, _⟩ := ha.int_inv Tryz.underlying23
  obtain ⟨x2, e2, _⟩ := hb.int_inv Tryz.underlying3
  obtain ⟨x3, e3, _⟩ := hc.int_inv Tryz.underlying3
  obtain ⟨x4, e4, _⟩ := hd.int_inv Tryz.underlying3
  obtain ⟨fa, fn, fc, fl, e5, s5, g5, u5, c5⟩ := he.slice_inv Tryz.underlying24 (yBm w)
  obtain ⟨pa, pn, pc, pl, e6, s6, g6, u6, c6⟩ := hg.slice_inv Tryz.underlying25 (yu1 w)
  simp at e1 e2 e3 e4 e5 e6
  subst e1 e2 e3 e4 e5 e6
  rw [cFd] at s5
  rw [cPt] at s6
  exact ⟨⟨x1, x2, x3, x4, fl, pl⟩, ⟨fa, fn, fc⟩, ⟨pa, pn, pc⟩, rfl, ⟨s5, s6, by show fn ≤ _; omega, by show pn ≤ _; omega, g5, g6⟩⟩
theorem yFY (w : World) (row : List Value) (h : OkT pP w 9 row) (hl : row.length = Tryz.prog.cellsOf 9) : ∃ s : ByteArray, row = yiO s ∧ s.size ≤ maxLen := by
 obtain ⟨s, rfl, g⟩ := h.string_inv Tryz.underlying9
 exact ⟨s, rfl, g⟩
structure OpRd (w : World) (o : POp) (rs ts : Sl) : Prop where
 recs : yb3 w 4 ye7 rs.a rs.n o.b.recs
 topics : yb3 w 1 yiO ts.a ts.n o.topics
 wr : rs.n ≤ maxLen
 wt : ts.n ≤ maxLen
 sr : ∀ r ∈ o.b.recs, r.key.size ≤ maxLen ∧ r.val.size ≤ maxLen
 st : ∀ s ∈ o.topics, s.size ≤ maxLen
 sp : o.part.t.size ≤ maxLen
 sg : o.g.size ≤ maxLen
 sm : o.m.size ≤ maxLen
theorem OpRd.keep0 {w w' : World} {o : POp} {rs ts : Sl} (h : OpRd w o rs ts) (M : Mod [] w w') : OpRd w' o rs ts := ⟨h.recs.keep0 M, h.topics.keep0 M, h.wr, h.wt, h.sr, h.st, h.sp, h.sg, h.sm⟩
structure OV where
 o : POp
 rs : Sl
 ts : Sl
def OV.cs (q : OV) : List Value := q.o.cs q.rs q.ts
theorem yBn (w : World) (row : List Value) (h : OkT pP w 46 row) (hl : row.length = Tryz.prog.cellsOf 46) : ∃ (b : PBatch) (rs : Sl), row = [.int .i64 b.prod, .int .i64 b.epoch, .int .i64 b.seq, .slice rs.a rs.n rs.c] ∧ yb3 w 4 ye7 rs.a rs.n b.recs ∧ rs.n ≤ maxLen ∧ ∀ r ∈ b.recs, r.key.size ≤ maxLen ∧ r.val.size ≤ maxLen := by
 rw [cBt] at hl
 match row, hl with
 | [a, b, c, d], _ =>
  obtain ⟨_, hf⟩ := h.struct_inv Tryz.underlying46
  simp [cI, cB, cS, cE, cSF, cSP, cSR, cSS, cSC, cPt, cRc, cFd, cRp, cBt, cOp, cCl] at hf
  obtain ⟨ha, hb, hc, hd⟩ := hf
  obtain ⟨x1, e1, _⟩ := ha.int_inv Tryz.underlying3
  obtain ⟨x2, e2, _⟩ := hb.int_inv Tryz.underlying3
  obtain ⟨x3, e3, _⟩ := hc.int_inv Tryz.underlying3
  obtain ⟨ra, rn, rc, rl, e5, s5, g5, u5, c5⟩ := hd.slice_inv (enc := ye7) Tryz.underlying44 (yBl w)
  simp at e1 e2 e3 e5
  subst e1 e2 e3 e5
  rw [cRc] at s5
  exact ⟨⟨x1, x2, x3, rl⟩, ⟨ra, rn, rc⟩, rfl, s5, by show rn ≤ _; omega, g5⟩
theorem yJC (w : World) (row : List Value) (h : OkT pP w 49 row) (hl : row.length = Tryz.prog.cellsOf 49) : ∃ x : OV, row = OV.cs x ∧ OpRd w x.o x.rs x.ts := by
 rw [cOp] at hl
 match row, hl with
 | [a, b, c, d, e, f, g, i, j, k, l, m, n, o], _ =>
  obtain ⟨_, hf⟩ := h.struct_inv Tryz.underlying49
  simp [cI, cB, cS, cE, cSF, cSP, cSR, cSS, cSC, cPt, cRc, cFd, cRp, cBt, cOp, cCl] at hf
  obtain ⟨h1, h2, h3, h4, h5, h6, h7, h8, h9, h10⟩ := hf
  obtain ⟨x1, e1, _⟩ := h1.int_inv Tryz.underlying3
  obtain ⟨x2, e2, g2⟩ := yu1 w _ h2 cPt.symm
  obtain ⟨x3, e3, _⟩ := h3.int_inv Tryz.underlying3
  obtain ⟨x4, e4, _⟩ := h4.int_inv Tryz.underlying3
  obtain ⟨x5, rs, e5, s5, w5, g5⟩ := yBn w _ h5 cBt.symm
  obtain ⟨x6, e6, g6⟩ := h6.string_inv Tryz.underlying9
  obtain ⟨x7, e7, g7⟩ := h7.string_inv Tryz.underlying9
  obtain ⟨x8, e8, _⟩ := h8.int_inv Tryz.underlying3
  obtain ⟨x9, e9⟩ := h9.bool_inv Tryz.underlying4
  obtain ⟨ta, tn, tc, tl, e10, s10, g10, u10, c10⟩ := h10.slice_inv (enc := yiO) Tryz.underlying47 (yFY w)
  simp [yjW] at e1 e2 e3 e4 e5 e6 e7 e8 e9 e10
  subst e1 e3 e4 e6 e7 e8 e9 e10
  obtain ⟨rfl, rfl⟩ := e2
  obtain ⟨rfl, rfl, rfl, rfl⟩ := e5
  rw [cS] at s10
  exact ⟨⟨⟨x1, x2, x3, x4, x5, x6, x7, x8, x9, tl⟩, rs, ⟨ta, tn, tc⟩⟩, rfl, ⟨s5, s10, w5, by show tn ≤ _; omega, g5, g10, g2, g6, g7⟩⟩
theorem yC1 (w : World) (row : List Value) (h : OkT pP w 51 row) (hl : row.length = Tryz.prog.cellsOf 51) : ∃ x : CV, row = CV.cs x ∧ OpRd w x.x.op x.rs x.ts := by
 rw [cCl] at hl
 match row, hl with
 | a :: b :: t, hl =>
  obtain ⟨_, hf⟩ := h.struct_inv Tryz.underlying51
  simp [cI, cB, cS, cE, cSF, cSP, cSR, cSS, cSC, cPt, cRc, cFd, cRp, cBt, cOp, cCl] at hf
  obtain ⟨h1, h2, h3⟩ := hf
  obtain ⟨x1, e1, _⟩ := h1.int_inv Tryz.underlying3
  obtain ⟨x2, e2, _⟩ := h2.int_inv Tryz.underlying3
  have ht : t.take 14 = t := List.take_of_length_le (by simp at hl; omega)
  rw [ht] at h3
  obtain ⟨x3, e3, g3⟩ := yJC w _ h3 (by rw [cOp]; simp at hl; omega)
  simp at e1 e2
  subst e1 e2 e3
  exact ⟨⟨⟨x1, x2, x3.o⟩, x3.rs, x3.ts⟩, rfl, g3⟩
structure MR where
 m : PMail
 s : Sl
 f : Sl
 p : Sl
def MR.cs (x : MR) : List Value := x.m.cs x.s x.f x.p
structure MailRd (w : World) (m : PMail) (s f p : Sl) : Prop where
 calls : ∃ ll : List CV, yb3 w 16 CV.cs s.a s.n ll ∧ (∀ q ∈ ll, OpRd w q.x.op q.rs q.ts) ∧ ll.map (·.x) = m.calls
 ws : s.n ≤ maxLen
 rep : RepRd w m.r f p
theorem yu2 (w : World) (row : List Value) (h : OkT pP w 29 row) (hl : row.length = Tryz.prog.cellsOf 29) : ∃ x : MR, row = MR.cs x ∧ MailRd w x.m x.s x.f x.p := by
 rw [cMl] at hl
 match row, hl with
 | [a, b, c, d, e, f, g, i, j, k, l, m, n, o, p, q, r], _ =>
  obtain ⟨_, hf⟩ := h.struct_inv Tryz.underlying29
  simp [cI, cB, cS, cE, cSF, cSP, cSR, cSS, cSC, cPt, cRc, cFd, cRp, cBt, cOp, cCl] at hf
  obtain ⟨h1, h2, h3, h4, h5, h6, h7, h8, h9, h10, h11, h12⟩ := hf
  obtain ⟨x1, e1, _⟩ := h1.int_inv Tryz.underlying3
  obtain ⟨x2, e2, _⟩ := h2.int_inv Tryz.underlying3
  obtain ⟨x3, e3, _⟩ := h3.int_inv Tryz.underlying3
  obtain ⟨x4, e4, _⟩ := h4.int_inv Tryz.underlying3
  obtain ⟨x5, e5, _⟩ := h5.int_inv Tryz.underlying3
  obtain ⟨x6, e6, _⟩ := h6.int_inv Tryz.underlying3
  obtain ⟨x7, e7, _⟩ := h7.int_inv Tryz.underlying3
  obtain ⟨x8, e8, _⟩ := h8.int_inv Tryz.underlying3
  obtain ⟨x9, e9, _⟩ := h9.int_inv Tryz.underlying3
  obtain ⟨x10, e10, _⟩ := h10.int_inv Tryz.underlying3
  obtain ⟨ca, cn, cc, cl, e11, s11, g11, u11, c11⟩ := h11.slice_inv Tryz.underlying22 (yC1 w)
  obtain ⟨x12, fs, ps, e12, g12⟩ := yFX w _ h12 cRp.symm
  simp [PRep.cs] at e1 e2 e3 e4 e5 e6 e7 e8 e9 e10 e11 e12
  subst e1 e2 e3 e4 e5 e6 e7 e8 e9 e10 e11
  obtain ⟨rfl, rfl, rfl, rfl, rfl, rfl⟩ := e12
  rw [cCl] at s11
  exact ⟨⟨⟨x1, x2, x3, x4, x5, x6, x7, x8, x9, x10, cl.map (·.x), x12⟩, ⟨ca, cn, cc⟩, fs, ps⟩, rfl, ⟨⟨cl, s11, g11, rfl⟩, by show cn ≤ _; omega, g12⟩⟩
end Go.Proofs.YtkbcmppbjfpjmaaGreat
namespace Go.Proofs.YtkbcmppbjfpjmaaGreat
open Go Go.RowKit
set_option linter.all false
section
set_option maxRecDepth 100000
variable {R : VWP} {w w0 : World} {m : Nat} {i0 i1 i2 i3 i4 i5 i6 i7 i8 i9 j0 j1 j2 j3 j4 j5 j6 j7 j8 j9 k0 k1 k2 k3 k4 k5 k6 k7 k8 k9 l0 l1 l2 l3 l4 l5 l6 l7 l8 l9 : Int} {s0 s1 s2 s3 s4 s5 s6 s7 s8 s9 t0 t1 t2 t3 t4 t5 t6 t7 t8 t9 : BA} {n0 n1 n2 n3 n4 n5 n6 n7 n8 n9 o0 o1 o2 o3 o4 o5 o6 o7 o8 o9 p0 p1 p2 p3 p4 p5 p6 p7 p8 p9 : Nat} {q0 q1 q2 q3 q4 q5 q6 q7 q8 q9 r0 r1 r2 r3 r4 r5 r6 r7 r8 r9 : OA} {B0 B1 B2 B3 B4 B5 B6 B7 B8 B9 : Bool} {M0 M1 M2 M3 : Option Nat} {V0 V1 V2 V3 V4 V5 : Value} {A0 A1 A2 : Addr}
theorem yFZ {a0 : BA} {a1 : BA} (h :
 ∀ b1, w.heap.size ≤ b1 →
 ∀ b2, w.heap.size ≤ b2 →
 slS a0 0 (if 80 < (a0.size : Int) then 80 else (a0.size : Int)) fun s3 =>
 slS a1 0 (if 600 < (a1.size : Int) then 600 else (a1.size : Int)) fun s4 =>
 ∀ w5, Adv [] [b2, b1] w w5 →
 R (.agg (Z7 B0 s3 B1 s4)) w5) :
 CR pP 116 #[(.agg (Z7 B0 a0 B1 a1))] w R :=
 yaA Tryz.wide_mixed (an := []) Tryz.func116 rfl rfl (by kernel_rfl) rfl (Eq.mpr (by kernel_rfl) h)
def yoD : LA := ⟨[0, 0, 1, 0, 1, 1], [1, 2, 3, 4], [(1, 0, 0), (2, 1, 0), (3, 2, 0)], 3, []⟩
def yoE : List LA := [yoD]
abbrev yEo := dnF pP yoE (code Tryz.f86)
abbrev yKJ := yaO pP yoE (code Tryz.f86)
abbrev yEp (p : List Nat) (K : List Kh) (R : VWP) := yaO pP yoE (code Tryz.f86) p K (ya4 pP Tryz.f86 [] R)
def yhW (bm0 : Nat) (a6 a7 a8 : Int) (a0 : OA) (a4 a2 bm1 bm2 : Nat) (a9 b0 b1 : Int) : Int × (Option Addr) × Nat × Nat → List Value × List TB := fun (b2, a1, a5, a3) => ([(.pointer (some ⟨bm0, 0, none⟩)), (.pointer (some ⟨bm1, 0, none⟩)), (.pointer (some ⟨bm2, 0, none⟩)), .int .i64 b2], [⟨bm0, 46, [.int .i64 a6, .int .i64 a7, .int .i64 a8, .slice a0 a4 a2], false⟩, ⟨bm1, 46, [.int .i64 0, .int .i64 0, .int .i64 0, .slice none 0 0], false⟩, ⟨bm2, 46, [.int .i64 a9, .int .i64 b0, .int .i64 b1, .slice a1 a5 a3], false⟩])
abbrev yBo (bm0 : Nat) (a3 a4 a5 : Int) (a0 : OA) (a2 a1 bm1 bm2 : Nat) (a6 a7 a8 : Int) (I : Nat → Int → Option Addr → Nat → Nat → World → Prop) (m : Nat) : Kh := KG (yhW bm0 a3 a4 a5 a0 a2 a1 bm1 bm2 a6 a7 a8) (U4 I) m
theorem ywK {I : Nat → Int → Option Addr → Nat → Nat → World → Prop} (m' : Nat) (h1 : m' < m) (h2 : I m' i6 q1 n5 n6 w) : KS (yBo n0 i0 i1 i2 q0 n1 n2 n3 n4 i3 i4 i5 I m) (yhW n0 i0 i1 i2 q0 n1 n2 n3 n4 i3 i4 i5 (i6, q1, n5, n6)) w := ⟨m', h1, _, rfl, rfl, h2⟩
theorem ywL {a7 : OA} {b3 : OA} (I : Nat → Int → Option Addr → Nat → Nat → World → Prop) (m0 : Nat) (h0 : I m0 i6 b3 n5 n6 w0)
 (hr : ∀ m b2 a0 a2 a1 w, I m b2 a0 a2 a1 w →
 brB (decide (b2 < (n1 : Int))) (
 brB (decide (b2 < 20)) (
 ixA a7 n1 b2 4 fun q4 =>
 ∀ w5, Adv [] [] w w5 →
 yaT w5 q4 fun t6 => yaQ w5 (Addr.add q4 1) fun s7 => yaT w5 (Addr.add q4 2) fun t8 => yaQ w5 (Addr.add q4 3) fun s9 =>
 Calls pP 116 #[(.agg (Z7 t6 s7 t8 s9))] w5 fun e c1 => ∃ b9 b7 c0 b8, e = .returned (.agg (Z7 b9 b7 c0 b8)) ∧ yaE [n0, n3, n4] w5 c1 ∧ (((.slice a0 a2 a1) : Value) = (.slice a0 a2 a1)) ∧
 al c1 (.cells (Z7 b9 b7 c0 b8) 53) fun c8 c2 =>
 yc6 pP (Builtin.append_ #[44, 44] 44 #[.slice a0 a2 a1, (.slice (some ⟨c8, 0, none⟩) 1 1)]) c2 fun c7 d0 c9 c3 => yaE [n0, n3, n4] c2 c3 ∧
 ∀ c4, Adv [n4] [] c3 c4 →
 KS (yBo n0 i0 i1 i2 a7 n1 n2 n3 n4 i3 i4 i5 I m) (yhW n0 i0 i1 i2 a7 n1 n2 n3 n4 i3 i4 i5 ((IntKind.wrap .i64 (b2 + 1)), c7, d0, c9)) c4)
 (
 ∀ c5, Adv [n3] [] w c5 →
 R (.agg (Z8 i3 i4 i5 a0 a2 a1)) c5))
 (
 ∀ c6, Adv [n3] [] w c6 →
 R (.agg (Z8 i3 i4 i5 a0 a2 a1)) c6)) :
 yaK yoD (yEo 396 [0, 0, 1, 0, 1, 1]) (yEp [1, 1, 0, 1, 0] [] R) (yhW n0 i0 i1 i2 a7 n1 n2 n3 n4 i3 i4 i5 (i6, b3, n5, n6)) w0 :=
 lrule (yhW n0 i0 i1 i2 a7 n1 n2 n3 n4 i3 i4 i5) (U4 I) h0 (by rintro m ⟨b2, a0, a2, a1⟩ w h; exact ⟨by kernel_rfl, by kernel_rfl, fun js => Eq.mpr (by kernel_rfl) (hr m b2 a0 a2 a1 w h)⟩)
theorem yF0 (h :
 ∀ b1, w.heap.size ≤ b1 →
 ∀ b2, w.heap.size ≤ b2 →
 ∀ b3, w.heap.size ≤ b3 →
 ∀ a6, Adv [] [b3, b2, b1] w a6 →
 yaK yoD (yEo 396 [0, 0, 1, 0, 1, 1]) (yEp [1, 1, 0, 1, 0] [] R) (yhW b1 i0 i1 i2 q0 n0 n1 b2 b3 i0 i1 i2 (0, none, 0, 0)) a6) :
 CR pP 86 #[(.agg (Z8 i0 i1 i2 q0 n0 n1))] w R :=
 yaA Tryz.wide_mixed (an := yoE) Tryz.func86 rfl rfl (by kernel_rfl) rfl (Eq.mpr (by kernel_rfl) h)
def yoF : LA := ⟨[0, 0, 1, 0, 1, 1, 1, 1, 1, 1, 1], [1, 2, 3, 4], [(1, 0, 0), (2, 1, 0), (3, 2, 0)], 3, []⟩
def yoG : List LA := [yoF]
abbrev yEq := dnF pP yoG (code Tryz.f52)
abbrev yKK := yaO pP yoG (code Tryz.f52)
abbrev yEr (p : List Nat) (K : List Kh) (R : VWP) := yaO pP yoG (code Tryz.f52) p K (ya4 pP Tryz.f52 [] R)
def yhX (bm0 : Nat) (c2 : Int) (b8 : BA) (c3 c4 c5 c6 c7 c8 : Int) (b2 : OA) (b6 b4 : Nat) (b9 a6 : BA) (b0 : Int) (a8 : Bool) (a0 : OA) (a4 a2 bm1 bm2 : Nat) (c9 : Int) (c0 : BA) (d0 d1 d2 d3 d4 d5 : Int) (b3 : OA) (b7 b5 : Nat) (c1 a7 : BA) (b1 : Int) (a9 : Bool) : Int × (Option Addr) × Nat × Nat → List Value × List TB := fun (d6, a1, a5, a3) => ([(.pointer (some ⟨bm0, 0, none⟩)), (.pointer (some ⟨bm1, 0, none⟩)), (.pointer (some ⟨bm2, 0, none⟩)), .int .i64 d6], [⟨bm0, 49, [.int .i64 c2, .string b8, .int .i64 c3, .int .i64 c4, .int .i64 c5, .int .i64 c6, .int .i64 c7, .int .i64 c8, .slice b2 b6 b4, .string b9, .string a6, .int .i64 b0, .bool a8, .slice a0 a4 a2], false⟩, ⟨bm1, 49, [.int .i64 0, .string ByteArray.empty, .int .i64 0, .int .i64 0, .int .i64 0, .int .i64 0, .int .i64 0, .int .i64 0, .slice none 0 0, .string ByteArray.empty, .string ByteArray.empty, .int .i64 0, .bool false, .slice none 0 0], false⟩, ⟨bm2, 49, [.int .i64 c9, .string c0, .int .i64 d0, .int .i64 d1, .int .i64 d2, .int .i64 d3, .int .i64 d4, .int .i64 d5, .slice b3 b7 b5, .string c1, .string a7, .int .i64 b1, .bool a9, .slice a1 a5 a3], false⟩])
abbrev yBp (bm0 : Nat) (b9 : Int) (b5 : BA) (c0 c1 c2 c3 c4 c5 : Int) (a9 : OA) (b3 b1 : Nat) (b6 a3 : BA) (a7 : Int) (a5 : Bool) (a0 : OA) (a2 a1 bm1 bm2 : Nat) (c6 : Int) (b7 : BA) (c7 c8 c9 d0 d1 d2 : Int) (b0 : OA) (b4 b2 : Nat) (b8 a4 : BA) (a8 : Int) (a6 : Bool) (I : Nat → Int → Option Addr → Nat → Nat → World → Prop) (m : Nat) : Kh := KG (yhX bm0 b9 b5 c0 c1 c2 c3 c4 c5 a9 b3 b1 b6 a3 a7 a5 a0 a2 a1 bm1 bm2 c6 b7 c7 c8 c9 d0 d1 d2 b0 b4 b2 b8 a4 a8 a6) (U4 I) m
theorem ywM {I : Nat → Int → Option Addr → Nat → Nat → World → Prop} (m' : Nat) (h1 : m' < m) (h2 : I m' j6 q3 n9 o0 w) : KS (yBp n0 i0 s0 i1 i2 i3 i4 i5 i6 q0 n1 n2 s1 s2 i7 B0 q1 n3 n4 n5 n6 i8 s3 i9 j0 j1 j2 j3 j4 q2 n7 n8 s4 s5 j5 B1 I m) (yhX n0 i0 s0 i1 i2 i3 i4 i5 i6 q0 n1 n2 s1 s2 i7 B0 q1 n3 n4 n5 n6 i8 s3 i9 j0 j1 j2 j3 j4 q2 n7 n8 s4 s5 j5 B1 (j6, q3, n9, o0)) w := ⟨m', h1, _, rfl, rfl, h2⟩
theorem ywN (I : Nat → Int → Option Addr → Nat → Nat → World → Prop) (m0 : Nat) (h0 : I m0 j6 q3 n9 o0 w0)
 (hr : ∀ m d6 a2 a4 a3 w, I m d6 a2 a4 a3 w →
 brB (decide (d6 < (n3 : Int))) (
 brB (decide (d6 < 12)) (
 ixA q1 n3 d6 1 fun f2 =>
 ∀ e0, Adv [] [] w e0 →
 yaQ e0 f2 fun f4 =>
 ixA q1 n3 d6 1 fun f3 =>
 yaQ e0 f3 fun e2 =>
 slS f4 0 (if 40 < (e2.size : Int) then 40 else (e2.size : Int)) fun f5 =>
 al e0 (.cells #[.string f5] 9) fun e9 e3 =>
 yc6 pP (Builtin.append_ #[47, 47] 47 #[.slice a2 a4 a3, (.slice (some ⟨e9, 0, none⟩) 1 1)]) e3 fun e8 f1 f0 e4 => yaE [n0, n5, n6] e3 e4 ∧
 ∀ e5, Adv [n6] [] e4 e5 →
 KS (yBp n0 i0 s0 i1 i2 i3 i4 i5 i6 q0 n1 n2 s1 s2 i7 B0 q1 n3 n4 n5 n6 i8 s3 i9 j0 j1 j2 j3 j4 q2 n7 n8 s4 s5 j5 B1 I m) (yhX n0 i0 s0 i1 i2 i3 i4 i5 i6 q0 n1 n2 s1 s2 i7 B0 q1 n3 n4 n5 n6 i8 s3 i9 j0 j1 j2 j3 j4 q2 n7 n8 s4 s5 j5 B1 ((IntKind.wrap .i64 (d6 + 1)), e8, f1, f0)) e5)
 (
 ∀ e6, Adv [n5] [] w e6 →
 R (.agg (Z1 i8 s3 i9 j0 j1 j2 j3 j4 q2 n7 n8 s4 s5 j5 B1 a2 a4 a3)) e6))
 (
 ∀ e7, Adv [n5] [] w e7 →
 R (.agg (Z1 i8 s3 i9 j0 j1 j2 j3 j4 q2 n7 n8 s4 s5 j5 B1 a2 a4 a3)) e7)) :
 yaK yoF (yEq 391 [0, 0, 1, 0, 1, 1, 1, 1, 1, 1, 1]) (yEr [1, 1, 1, 1, 1, 1, 1, 0, 1, 0] [] R) (yhX n0 i0 s0 i1 i2 i3 i4 i5 i6 q0 n1 n2 s1 s2 i7 B0 q1 n3 n4 n5 n6 i8 s3 i9 j0 j1 j2 j3 j4 q2 n7 n8 s4 s5 j5 B1 (j6, q3, n9, o0)) w0 :=
 lrule (yhX n0 i0 s0 i1 i2 i3 i4 i5 i6 q0 n1 n2 s1 s2 i7 B0 q1 n3 n4 n5 n6 i8 s3 i9 j0 j1 j2 j3 j4 q2 n7 n8 s4 s5 j5 B1) (U4 I) h0 (by rintro m ⟨d6, a2, a4, a3⟩ w h; exact ⟨by kernel_rfl, by kernel_rfl, fun js => Eq.mpr (by kernel_rfl) (hr m d6 a2 a4 a3 w h)⟩)
theorem yF1 {a1 : BA} {a2 a0 : BA} (h :
 ∀ b1, w.heap.size ≤ b1 →
 ∀ b2, w.heap.size ≤ b2 →
 ∀ b3, w.heap.size ≤ b3 →
 slS a1 0 (if 40 < (a1.size : Int) then 40 else (a1.size : Int)) fun s4 =>
 slS a2 0 (if 40 < (a2.size : Int) then 40 else (a2.size : Int)) fun s5 =>
 slS a0 0 (if 40 < (a0.size : Int) then 40 else (a0.size : Int)) fun s6 =>
 ∀ w7, Adv [] [b3, b2, b1] w w7 →
 Calls pP 86 #[(.agg (Z8 i4 i5 i6 q0 n0 n1))] w7 fun e w8 => ∃ x9 c5 c6 c1 c3 c2, e = .returned (.agg (Z8 x9 c5 c6 c1 c3 c2)) ∧ yaE [b1, b2, b3] w7 w8 ∧
 ∀ c4, Adv [b3] [] w8 c4 →
 yaK yoF (yEq 391 [0, 0, 1, 0, 1, 1, 1, 1, 1, 1, 1]) (yEr [1, 1, 1, 1, 1, 1, 1, 0, 1, 0] [] R) (yhX b1 i0 a1 i1 i2 i3 i4 i5 i6 q0 n0 n1 a2 a0 i7 B0 q1 n2 n3 b2 b3 i0 s4 i1 i2 i3 x9 c5 c6 c1 c3 c2 s5 s6 i7 B0 (0, none, 0, 0)) c4) :
 CR pP 52 #[(.agg (Z1 i0 a1 i1 i2 i3 i4 i5 i6 q0 n0 n1 a2 a0 i7 B0 q1 n2 n3))] w R :=
 yaA Tryz.wide_mixed (an := yoG) Tryz.func52 rfl rfl (by kernel_rfl) rfl (Eq.mpr (by kernel_rfl) h)
end
section
set_option maxRecDepth 100000
variable {R : VWP} {w w0 : World} {m : Nat} {i0 i1 i2 i3 i4 i5 i6 i7 i8 i9 j0 j1 j2 j3 j4 j5 j6 j7 j8 j9 k0 k1 k2 k3 k4 k5 k6 k7 k8 k9 l0 l1 l2 l3 l4 l5 l6 l7 l8 l9 : Int} {s0 s1 s2 s3 s4 s5 s6 s7 s8 s9 t0 t1 t2 t3 t4 t5 t6 t7 t8 t9 : BA} {n0 n1 n2 n3 n4 n5 n6 n7 n8 n9 o0 o1 o2 o3 o4 o5 o6 o7 o8 o9 p0 p1 p2 p3 p4 p5 p6 p7 p8 p9 : Nat} {q0 q1 q2 q3 q4 q5 q6 q7 q8 q9 r0 r1 r2 r3 r4 r5 r6 r7 r8 r9 : OA} {B0 B1 B2 B3 B4 B5 B6 B7 B8 B9 : Bool} {M0 M1 M2 M3 : Option Nat} {V0 V1 V2 V3 V4 V5 : Value} {A0 A1 A2 : Addr}
def yoH : LA := ⟨[0, 0, 1, 0, 1, 1], [0, 3, 4], [], 0, []⟩
def yoI : List LA := [yoH]
abbrev yEs := dnF pP yoI (code Tryz.f20)
abbrev yKL := yaO pP yoI (code Tryz.f20)
abbrev yEt (p : List Nat) (K : List Kh) (R : VWP) := yaO pP yoI (code Tryz.f20) p K (ya4 pP Tryz.f20 [] R)
def yhY (a0 : OA) (a4 a2 : Nat) : (Option Addr) × Nat × Nat × Int → List Value × List TB := fun (a1, a5, a3, a6) => ([.slice a0 a4 a2, .slice a1 a5 a3, .int .i64 a6], [])
abbrev yBq (a0 : OA) (a2 a1 : Nat) (I : Nat → Option Addr → Nat → Nat → Int → World → Prop) (m : Nat) : Kh := KG (yhY a0 a2 a1) (U4 I) m
theorem ywO {I : Nat → Option Addr → Nat → Nat → Int → World → Prop} (m' : Nat) (h1 : m' < m) (h2 : I m' q1 n2 n3 i0 w) : KS (yBq q0 n0 n1 I m) (yhY q0 n0 n1 (q1, n2, n3, i0)) w := ⟨m', h1, _, rfl, rfl, h2⟩
theorem ywP {a2 : OA} {a7 : OA} (I : Nat → Option Addr → Nat → Nat → Int → World → Prop) (m0 : Nat) (h0 : I m0 a7 n2 n3 i0 w0)
 (hr : ∀ m a3 a5 a4 a0 w, I m a3 a5 a4 a0 w →
 brB (decide (a0 < (n0 : Int))) (
 brB (decide (a0 < 12)) (
 ixA a2 n0 a0 16 fun q3 =>
 ∀ w4, Adv [] [] w w4 →
 yaI .i64 w4 q3 fun x5 =>
 ixA a2 n0 a0 16 fun q6 =>
 yaI .i64 w4 (Addr.add q6 1) fun x7 =>
 ixA a2 n0 a0 16 fun q8 =>
 yaI .i64 w4 (Addr.add q8 2) fun x9 => yaQ w4 (Addr.add (Addr.add q8 2) 1) fun e0 => yaI .i64 w4 (Addr.add (Addr.add q8 2) 2) fun e6 => yaI .i64 w4 (Addr.add (Addr.add q8 2) 3) fun e7 => yaI .i64 w4 (Addr.add (Addr.add q8 2) 4) fun e8 => yaI .i64 w4 (Addr.add (Addr.add q8 2) 5) fun e9 => yaI .i64 w4 (Addr.add (Addr.add q8 2) 6) fun f0 => yaI .i64 w4 (Addr.add (Addr.add q8 2) 7) fun f1 => yaU w4 (Addr.add (Addr.add q8 2) 8) fun d0 d7 d4 => yaQ w4 (Addr.add (Addr.add q8 2) 9) fun e1 => yaQ w4 (Addr.add (Addr.add q8 2) 10) fun e2 => yaI .i64 w4 (Addr.add (Addr.add q8 2) 11) fun f2 => yaT w4 (Addr.add (Addr.add q8 2) 12) fun e3 => yaU w4 (Addr.add (Addr.add q8 2) 13) fun d1 d8 d5 =>
 Calls pP 52 #[(.agg (Z1 x9 e0 e6 e7 e8 e9 f0 f1 d0 d7 d4 e1 e2 f2 e3 d1 d8 d5))] w4 fun e b0 => ∃ c2 b8 c3 c4 c5 c6 c7 c8 b2 b6 b4 b9 c0 c9 c1 b3 b7 b5, e = .returned (.agg (Z1 c2 b8 c3 c4 c5 c6 c7 c8 b2 b6 b4 b9 c0 c9 c1 b3 b7 b5)) ∧ (yaI .i64 b0 (Addr.add q6 1) fun f3 => ((.int .i64 f3) : Value) = (.int .i64 x7)) ∧ (yaI .i64 b0 q3 fun f4 => ((.int .i64 f4) : Value) = (.int .i64 x5)) ∧
 al b0 (.cells (Z5 x5 x7 c2 b8 c3 c4 c5 c6 c7 c8 b2 b6 b4 b9 c0 c9 c1 b3 b7 b5) 51) fun d3 e4 =>
 yc6 pP (Builtin.append_ #[22, 22] 22 #[.slice a3 a5 a4, (.slice (some ⟨d3, 0, none⟩) 1 1)]) e4 fun d2 d9 d6 e5 =>
 KS (yBq a2 n0 n1 I m) (yhY a2 n0 n1 (d2, d9, d6, (IntKind.wrap .i64 (a0 + 1)))) e5)
 (
 R (.slice a3 a5 a4) w))
 (
 R (.slice a3 a5 a4) w)) :
 yaK yoH (yEs 396 [0, 0, 1, 0, 1, 1]) (yEt [1, 1, 0, 1, 0] [] R) (yhY a2 n0 n1 (a7, n2, n3, i0)) w0 :=
 lrule (yhY a2 n0 n1) (U4 I) h0 (by rintro m ⟨a3, a5, a4, a0⟩ w h; exact ⟨by kernel_rfl, by kernel_rfl, fun js => Eq.mpr (by kernel_rfl) (hr m a3 a5 a4 a0 w h)⟩)
theorem yF2 (h :
 al w (.cells #[] 51) fun b1 w2 =>
 yaK yoH (yEs 396 [0, 0, 1, 0, 1, 1]) (yEt [1, 1, 0, 1, 0] [] R) (yhY q0 n0 n1 ((some ⟨b1, 0, none⟩), 0, 0, 0)) w2) :
 CR pP 20 #[.slice q0 n0 n1] w R :=
 yaA Tryz.wide_mixed (an := yoI) Tryz.func20 rfl rfl (by kernel_rfl) rfl (Eq.mpr (by kernel_rfl) h)
end
theorem yqN {x : Int} (h0 : 0 ≤ x) (h1 : x ≤ 1099511627776) : num x = true := by simp [num]; omega
section
set_option maxRecDepth 100000
variable {R : VWP} {w w0 : World} {m : Nat} {i0 i1 i2 i3 i4 i5 i6 i7 i8 i9 j0 j1 j2 j3 j4 j5 j6 j7 j8 j9 k0 k1 k2 k3 k4 k5 k6 k7 k8 k9 l0 l1 l2 l3 l4 l5 l6 l7 l8 l9 : Int} {s0 s1 s2 s3 s4 s5 s6 s7 s8 s9 t0 t1 t2 t3 t4 t5 t6 t7 t8 t9 : BA} {n0 n1 n2 n3 n4 n5 n6 n7 n8 n9 o0 o1 o2 o3 o4 o5 o6 o7 o8 o9 p0 p1 p2 p3 p4 p5 p6 p7 p8 p9 : Nat} {q0 q1 q2 q3 q4 q5 q6 q7 q8 q9 r0 r1 r2 r3 r4 r5 r6 r7 r8 r9 : OA} {B0 B1 B2 B3 B4 B5 B6 B7 B8 B9 : Bool} {M0 M1 M2 M3 : Option Nat} {V0 V1 V2 V3 V4 V5 : Value} {A0 A1 A2 : Addr}
theorem yF3 (h :
 brB (decide (i0 ≥ 1)) (
 R (.bool (decide (i0 ≤ 1099511627776))) w)
 (
 R (.bool false) w)) :
 CR pP 99 #[.int .i64 i0] w R :=
 yaA Tryz.wide_mixed (an := []) Tryz.func99 rfl rfl (by kernel_rfl) rfl (Eq.mpr (by kernel_rfl) h)
def yoJ : LA := ⟨[0, 0, 1, 0, 1], [0, 3], [], 0, []⟩
def yoK : LA := ⟨[0, 0, 1, 0, 1, 1], [0, 4], [], 0, []⟩
def yoL : List LA := [yoJ, yoK]
abbrev yu3 := dnF pP yoL (code Tryz.f63)
abbrev yKM := yaO pP yoL (code Tryz.f63)
abbrev yu4 (p : List Nat) (K : List Kh) (R : VWP) := yaO pP yoL (code Tryz.f63) p K (ya4 pP Tryz.f63 [] R)
def yhZ (a0 : OA) (a2 a1 : Nat) : Int → List Value × List TB := fun a3 => ([.slice a0 a2 a1, .int .i64 a3], [])
def yh0 (a0 : OA) (a2 a1 : Nat) : Int → List Value × List TB := fun a3 => ([.slice a0 a2 a1, .int .i64 a3], [])
abbrev yBr (a0 : OA) (a2 a1 : Nat) (I : Nat → Int → World → Prop) (m : Nat) : Kh := KG (yhZ a0 a2 a1) (U1 I) m
theorem ywQ {I : Nat → Int → World → Prop} (m' : Nat) (h1 : m' < m) (h2 : I m' i0 w) : KS (yBr q0 n0 n1 I m) (yhZ q0 n0 n1 i0) w := ⟨m', h1, _, rfl, rfl, h2⟩
theorem ymI {a1 : OA} (I : Nat → Int → World → Prop) (m0 : Nat) (h0 : I m0 i0 w0)
 (hr : ∀ m a2 w, I m a2 w →
 brB (decide (a2 < (n0 : Int))) (
 ixA a1 n0 a2 16 fun q1 =>
 yaI .i64 w q1 fun x2 =>
 Calls pP 99 #[.int .i64 x2] w fun e w3 => ∃ t4, e = .returned (.bool t4) ∧
 brB (!t4) (
 R (.int .i64 1) w3)
 (
 ixA a1 n0 a2 16 fun q5 =>
 yaI .i64 w3 (Addr.add q5 1) fun x6 =>
 Calls pP 99 #[.int .i64 x6] w3 fun e w7 => ∃ t8, e = .returned (.bool t8) ∧
 brB (!t8) (
 R (.int .i64 1) w7)
 (
 KS (yBr a1 n0 n1 I m) (yhZ a1 n0 n1 (IntKind.wrap .i64 (a2 + 1))) w7)))
 (
 yaK yoK (yu3 396 [0, 0, 1, 0, 1, 1]) (yu4 [1, 1, 0, 1, 0] [] R) (yh0 a1 n0 n1 0) w)) :
 yaK yoJ (yu3 397 [0, 0, 1, 0, 1]) (yu4 [1, 0, 1, 0] [] R) (yhZ a1 n0 n1 i0) w0 :=
 lrule (yhZ a1 n0 n1) (U1 I) h0 (by rintro m a2 w h; exact ⟨by kernel_rfl, by kernel_rfl, fun js => Eq.mpr (by kernel_rfl) (hr m a2 w h)⟩)
abbrev yBs (a0 : OA) (a2 a1 : Nat) (I : Nat → Int → World → Prop) (m : Nat) : Kh := KG (yh0 a0 a2 a1) (U1 I) m
theorem ywR {I : Nat → Int → World → Prop} (m' : Nat) (h1 : m' < m) (h2 : I m' i0 w) : KS (yBs q0 n0 n1 I m) (yh0 q0 n0 n1 i0) w := ⟨m', h1, _, rfl, rfl, h2⟩
theorem ymJ {a2 : OA} (I : Nat → Int → World → Prop) (m0 : Nat) (h0 : I m0 i0 w0)
 (hr : ∀ m a1 w, I m a1 w →
 brB (decide (a1 < (n0 : Int))) (
 ixA a2 n0 a1 16 fun q9 =>
 yaI .i64 w (Addr.add q9 2) fun b7 => yaQ w (Addr.add (Addr.add q9 2) 1) fun b3 => yaI .i64 w (Addr.add (Addr.add q9 2) 2) fun b8 => yaI .i64 w (Addr.add (Addr.add q9 2) 3) fun b9 => yaI .i64 w (Addr.add (Addr.add q9 2) 4) fun c0 => yaI .i64 w (Addr.add (Addr.add q9 2) 5) fun c1 => yaI .i64 w (Addr.add (Addr.add q9 2) 6) fun c2 => yaI .i64 w (Addr.add (Addr.add q9 2) 7) fun c3 => yaU w (Addr.add (Addr.add q9 2) 8) fun a7 b1 a9 => yaQ w (Addr.add (Addr.add q9 2) 9) fun b4 => yaQ w (Addr.add (Addr.add q9 2) 10) fun b5 => yaI .i64 w (Addr.add (Addr.add q9 2) 11) fun c4 => yaT w (Addr.add (Addr.add q9 2) 12) fun b6 => yaU w (Addr.add (Addr.add q9 2) 13) fun a8 b2 b0 =>
 Calls pP 100 #[(.agg (Z1 b7 b3 b8 b9 c0 c1 c2 c3 a7 b1 a9 b4 b5 c4 b6 a8 b2 b0))] w fun e a6 => ∃ a4, e = .returned (.int .i64 a4) ∧
 brB (a4 != 0) (
 R (.int .i64 a4) a6)
 (
 KS (yBs a2 n0 n1 I m) (yh0 a2 n0 n1 (IntKind.wrap .i64 (a1 + 1))) a6))
 (
 R (.int .i64 0) w)) :
 yaK yoK (yu3 396 [0, 0, 1, 0, 1, 1]) (yu4 [1, 1, 0, 1, 0] [] R) (yh0 a2 n0 n1 i0) w0 :=
 lrule (yh0 a2 n0 n1) (U1 I) h0 (by rintro m a1 w h; exact ⟨by kernel_rfl, by kernel_rfl, fun js => Eq.mpr (by kernel_rfl) (hr m a1 w h)⟩)
theorem yBt (h :
 yaK yoJ (yu3 397 [0, 0, 1, 0, 1]) (yu4 [1, 0, 1, 0] [] R) (yhZ q0 n0 n1 0) w) :
 CR pP 63 #[.slice q0 n0 n1] w R :=
 yaA Tryz.wide_mixed (an := yoL) Tryz.func63 rfl rfl (by kernel_rfl) rfl (Eq.mpr (by kernel_rfl) h)
end
theorem yBu (n : Int) (w : World) : Calls pP 99 #[.int .i64 n] w fun e w' => e = .returned (.bool (!yv7 n)) ∧ w' = w := by
 refine yaP (yF3 ?_)
 refine yaC (fun h => ⟨?_, rfl⟩) fun h => ⟨?_, rfl⟩
 ·congr 1; rw [Bool.eq_iff_iff]; simp [yv7]; omega
 ·congr 1; symm; rw [Bool.eq_false_iff]; simp [yv7]; omega
theorem yBv {w : World} {s : Sl} {ll : List CV} (h : CsAt w s ll) (hl : ll.length ≤ 1000000) :
  Calls pP 63 #[.slice s.a s.n s.c] w fun e w' => e = .returned (.int .i64 (ycZ (ll.map (·.x)))) ∧ Mod [] w w' := by
 have hn := h.sl.1
 have ea : ((ll.map (·.x)).any yhP) = ll.any fun q => yhP q.x := by rw [List.any_map]; rfl
 refine yaP (yBt ?_)
 refine ymI (fun mm x w' => ∃ k : Nat, x = k ∧ k ≤ ll.length ∧ w' = w ∧ ((ll.take k).any fun q => yhP q.x) = false ∧ mm = ll.length - k) ll.length ⟨0, rfl, by omega, rfl, by simp, rfl⟩ ?_
 rintro mm x w1 ⟨k, rfl, hk, rfl, ha, rfl⟩
 refine yaC (fun hlt => ?_) fun hge => ?_
 ·obtain ⟨q, hq⟩ : ∃ q, ll[k]? = some q := ⟨_, List.getElem?_eq_getElem (by omega)⟩
  have bad : yhP q.x = true → ycZ (ll.map (·.x)) = 1 := fun ho => by
   rw [ycZ, if_pos]
   rw [ea]
   exact List.any_eq_true.2 ⟨q, List.mem_of_getElem? hq, ho⟩
  refine h.sl.ix hq fun ad had => yaF (x := q.x.c) (by simpa [add_zero] using had 0 _ rfl) ?_
  refine (yBu q.x.c w1).mono ?_
  rintro _ w2 ⟨rfl, rfl⟩
  refine ⟨_, rfl, yaB (fun g => ⟨by rw [bad (by simp at g; simp [yhP, g])], Mod.refl _⟩) fun g => ?_⟩
  refine h.sl.ix hq fun ad had => yaF (x := q.x.n) (had 1 _ rfl) ?_
  refine (yBu q.x.n w2).mono ?_
  rintro _ w3 ⟨rfl, rfl⟩
  refine ⟨_, rfl, yaB (fun g2 => ⟨by rw [bad (by simp at g2; simp [yhP, g2])], Mod.refl _⟩) fun g2 => ?_⟩
  refine ywQ (ll.length - (k + 1)) (by omega) ⟨k + 1, by rw [yaH (by omega) (by omega)]; omega, by omega, rfl, ?_, rfl⟩
  rw [yuO hq, ha]
  simp at g g2
  simp [yhP, g, g2]
 have hk : k = ll.length := by omega
 subst hk
 rw [List.take_length] at ha
 have hE : ycZ (ll.map (·.x)) = match (ll.map (·.x)).find? fun x => opE x.op ≠ 0 with
   | none => 0
   | some x => opE x.op := by rw [ycZ, ea, ha]; rfl
 refine ymJ (fun mm x w' => ∃ k : Nat, x = k ∧ k ≤ ll.length ∧ Mod [] w1 w' ∧ (∀ q ∈ ll.take k, opE q.x.op = 0) ∧ mm = ll.length - k) ll.length ⟨0, rfl, by omega, Mod.refl _, by simp, rfl⟩ ?_
 rintro mm x w4 ⟨k, rfl, hk, M4, hz, rfl⟩
 refine yaC (fun hlt => ?_) fun hge => ?_
 ·obtain ⟨q, hq⟩ : ∃ q, ll[k]? = some q := ⟨_, List.getElem?_eq_getElem (by omega)⟩
  refine (h.sl.keep0 M4).ix hq fun ad had => yoC (yi4 had) ?_
  have ho4 := (h.op q (List.mem_of_getElem? hq)).keep0 M4
  refine (yqM ho4.recs ho4.topics).mono ?_
  rintro _ w6 ⟨rfl, M6⟩
  have N6 := M4.go0 M6 (by simp)
  refine ⟨_, rfl, yaB (fun g2 => ?_) fun g2 => ?_⟩
  ·have g2 : opE q.x.op ≠ 0 := by simpa using g2
   refine ⟨?_, N6⟩
   rw [hE, yqJ hz hq g2]
  ·have g2 : opE q.x.op = 0 := by simpa using g2
   refine ywR (ll.length - (k + 1)) (by omega) ⟨k + 1, by rw [yaH (by omega) (by omega)]; omega, by omega, N6, ?_, rfl⟩
   intro q' hq'
   rw [List.take_add_one, hq] at hq'
   simp at hq'
   rcases hq' with hq' | rfl
   ·exact hz q' hq'
   ·exact g2
 ·have hk : k = ll.length := by omega
  subst hk
  rw [List.take_length] at hz
  refine ⟨?_, M4⟩
  rw [hE]
  have : (ll.map (·.x)).find? (fun x => opE x.op ≠ 0) = none := by
   rw [List.find?_eq_none]
   intro x hx
   obtain ⟨q', hq', rfl⟩ := List.mem_map.1 hx
   simpa using hz q' hq'
  rw [this]
section
set_option maxRecDepth 100000
variable {R : VWP} {w w0 : World} {m : Nat} {i0 i1 i2 i3 i4 i5 i6 i7 i8 i9 j0 j1 j2 j3 j4 j5 j6 j7 j8 j9 k0 k1 k2 k3 k4 k5 k6 k7 k8 k9 l0 l1 l2 l3 l4 l5 l6 l7 l8 l9 : Int} {s0 s1 s2 s3 s4 s5 s6 s7 s8 s9 t0 t1 t2 t3 t4 t5 t6 t7 t8 t9 : BA} {n0 n1 n2 n3 n4 n5 n6 n7 n8 n9 o0 o1 o2 o3 o4 o5 o6 o7 o8 o9 p0 p1 p2 p3 p4 p5 p6 p7 p8 p9 : Nat} {q0 q1 q2 q3 q4 q5 q6 q7 q8 q9 r0 r1 r2 r3 r4 r5 r6 r7 r8 r9 : OA} {B0 B1 B2 B3 B4 B5 B6 B7 B8 B9 : Bool} {M0 M1 M2 M3 : Option Nat} {V0 V1 V2 V3 V4 V5 : Value} {A0 A1 A2 : Addr}
def yoM : LA := ⟨[0, 0, 1, 0, 1, 1, 1, 1, 1], [0, 5, 6], [], 0, []⟩
def yoN : List LA := [yoM]
abbrev yEu := dnF pP yoN (code Tryz.f32)
abbrev yKN := yaO pP yoN (code Tryz.f32)
abbrev yEv (p : List Nat) (K : List Kh) (R : VWP) := yaO pP yoN (code Tryz.f32) p K (ya4 pP Tryz.f32 [] R)
def yh1 (a0 : OA) (a2 a1 : Nat) : ByteArray × Int → List Value × List TB := fun (a3, a4) => ([.slice a0 a2 a1, .string a3, .int .i64 a4], [])
abbrev yBw (a0 : OA) (a2 a1 : Nat) (I : Nat → ByteArray → Int → World → Prop) (m : Nat) : Kh := KG (yh1 a0 a2 a1) (U2 I) m
theorem ywS {I : Nat → ByteArray → Int → World → Prop} (m' : Nat) (h1 : m' < m) (h2 : I m' s0 i0 w) : KS (yBw q0 n0 n1 I m) (yh1 q0 n0 n1 (s0, i0)) w := ⟨m', h1, _, rfl, rfl, h2⟩
theorem ymK {a2 : OA} {a6 : BA} (I : Nat → ByteArray → Int → World → Prop) (m0 : Nat) (h0 : I m0 a6 i0 w0)
 (hr : ∀ m a3 a1 w, I m a3 a1 w →
 brB (decide (a1 < (n0 : Int))) (
 ixA a2 n0 a1 16 fun q5 =>
 yaI .i64 w (Addr.add q5 2) fun x6 => yaQ w (Addr.add (Addr.add q5 2) 1) fun s7 => yaI .i64 w (Addr.add (Addr.add q5 2) 2) fun x8 => yaI .i64 w (Addr.add (Addr.add q5 2) 3) fun x9 => yaI .i64 w (Addr.add (Addr.add q5 2) 4) fun d3 => yaI .i64 w (Addr.add (Addr.add q5 2) 5) fun d4 => yaI .i64 w (Addr.add (Addr.add q5 2) 6) fun d5 => yaI .i64 w (Addr.add (Addr.add q5 2) 7) fun d6 => yaU w (Addr.add (Addr.add q5 2) 8) fun b6 c0 b8 => yaQ w (Addr.add (Addr.add q5 2) 9) fun c3 => yaQ w (Addr.add (Addr.add q5 2) 10) fun c4 => yaI .i64 w (Addr.add (Addr.add q5 2) 11) fun d7 => yaT w (Addr.add (Addr.add q5 2) 12) fun c8 => yaU w (Addr.add (Addr.add q5 2) 13) fun b7 c1 b9 =>
 Calls pP 64 #[(.agg (Z1 x6 s7 x8 x9 d3 d4 d5 d6 b6 c0 b8 c3 c4 d7 c8 b7 c1 b9))] w fun e c9 => ∃ a9 d8, e = .returned (.tuple #[.string a9, .int .i64 d8]) ∧
 ixA a2 n0 a1 16 fun c2 =>
 ∀ a5, Adv [] [] c9 a5 →
 yaI .i64 a5 c2 fun d9 =>
 ixA a2 n0 a1 16 fun a8 =>
 yaI .i64 a5 (Addr.add a8 1) fun b5 =>
 Calls pP 31 #[(.int .u64 (IntKind.wrap .u64 d9))] a5 fun e b4 => ∃ b0, e = .returned (.string b0) ∧ (yaI .i64 b4 (Addr.add a8 1) fun e0 => ((.int .i64 e0) : Value) = (.int .i64 b5)) ∧
 Calls pP 31 #[(.int .u64 (IntKind.wrap .u64 b5))] b4 fun e d0 => ∃ b1, e = .returned (.string b1) ∧
 yeS b0 b1 fun c5 =>
 Calls pP 34 #[.string a9] d0 fun e d1 => ∃ b2, e = .returned (.string b2) ∧
 yeS c5 b2 fun c6 =>
 Calls pP 35 #[.string c6] d1 fun e d2 => ∃ b3, e = .returned (.string b3) ∧
 yeS a3 b3 fun c7 =>
 KS (yBw a2 n0 n1 I m) (yh1 a2 n0 n1 (c7, (IntKind.wrap .i64 (a1 + 1)))) d2)
 (
 R (.tuple #[.string a3, .int .i64 0]) w)) :
 yaK yoM (yEu 393 [0, 0, 1, 0, 1, 1, 1, 1, 1]) (yEv [1, 1, 1, 1, 1, 0, 1, 0] [] R) (yh1 a2 n0 n1 (a6, i0)) w0 :=
 lrule (yh1 a2 n0 n1) (U2 I) h0 (by rintro m ⟨a3, a1⟩ w h; exact ⟨by kernel_rfl, by kernel_rfl, fun js => Eq.mpr (by kernel_rfl) (hr m a3 a1 w h)⟩)
theorem yBx (h :
 brB (decide ((n0 : Int) > 4096)) (
 R (.tuple #[(.string (⟨#[]⟩ : BA)), .int .i64 2]) w)
 (
 Calls pP 63 #[.slice q0 n0 n1] w fun e w1 => ∃ x2, e = .returned (.int .i64 x2) ∧
 brB (x2 != 0) (
 R (.tuple #[(.string (⟨#[]⟩ : BA)), .int .i64 x2]) w1)
 (
 Calls pP 31 #[(.int .u64 (IntKind.wrap .u64 (n0 : Int)))] w1 fun e w3 => ∃ s4, e = .returned (.string s4) ∧
 yaK yoM (yEu 393 [0, 0, 1, 0, 1, 1, 1, 1, 1]) (yEv [1, 1, 1, 1, 1, 0, 1, 0] [] R) (yh1 q0 n0 n1 (s4, 0)) w3))) :
 CR pP 32 #[.slice q0 n0 n1] w R :=
 yaA Tryz.wide_mixed (an := yoN) Tryz.func32 rfl rfl (by kernel_rfl) rfl (Eq.mpr (by kernel_rfl) h)
end
theorem yqO (r : PRec) (hr : yfQ r = 0) (w : World) : Calls pP 67 #[r.v] w fun e w' => e = .returned (.string (bs (yf7 r))) ∧ Mod [] w w' := by
 obtain ⟨hk, hv⟩ := yfT hr
 obtain ⟨k, key, t, val⟩ := r
 refine yaP (yFL ?_)
 intro b1 f1
 have hkt : t = true → k = true ∧ val.size = 0 := fun h => by
  subst h
  unfold yfQ yGt at hr
  split at hr
  ·omega
  ·rename_i h; simp at h; cases k <;> simp_all
 have cat1 : ∀ (x : UInt8) (s : ByteArray), s.size ≤ 1000 → (⟨#[x]⟩ : ByteArray).size + (bs (ybU s)).size ≤ 9223372036854775807 := fun x s hs => by
  have := (yaW s (by omega)).2
  rw [yaD]; show 1 + _ ≤ _; omega
 have one : ∀ (x : UInt8) (l : List UInt8), (⟨#[x]⟩ : ByteArray) ++ bs l = bs (x :: l) := fun x l => ya9 [x] l
 refine yaB (fun g => ?_) fun g => ?_
 ·obtain ⟨rfl, _⟩ := hkt g
  have g : t = true := g
  subst g
  intro w2 A2
  refine (ybG key (by simp at hk; omega) w2).mono ?_
  rintro e w3 ⟨rfl, M3⟩
  refine ⟨_, rfl, yaE.of0 M3, cat1 _ _ (by simp at hk; omega), ?_, A2.mod.go0 M3 (by simp)⟩
  rw [one]; simp [yf7, ygF]
 ·have g : t = false := g
  subst g
  refine yaB (fun g2 => ?_) fun g2 => ?_
  ·have g2 : k = true := g2
   subst g2
   intro w2 A2
   refine (ybG key (by simp at hk; omega) w2).mono ?_
   rintro e w3 ⟨rfl, M3⟩
   refine ⟨_, rfl, yaE.of0 M3, rfl, cat1 _ _ (by simp at hk; omega), ?_⟩
   refine (ybG val (by simp at hv; omega) w3).mono ?_
   rintro e w4 ⟨rfl, M4⟩
   have l1 := (yaW key (by simp at hk; omega)).2
   have l2 := (yaW val (by simp at hv; omega)).2
   refine ⟨_, rfl, yaE.of0 M4, by rw [one, yaD, yaD, List.length_cons]; simp at hk hv; omega, ?_, (A2.mod.go0 M3 (by simp)).go0 M4 (by simp)⟩
   rw [one, ya9]; simp [yf7, ygF]
  ·have g2 : k = false := g2
   subst g2
   intro w2 A2
   refine (ybG val (by simp at hv; omega) w2).mono ?_
   rintro e w3 ⟨rfl, M3⟩
   refine ⟨_, rfl, yaE.of0 M3, cat1 _ _ (by simp at hv; omega), ?_, A2.mod.go0 M3 (by simp)⟩
   rw [one]; simp [yf7, ygF]
theorem ywT {w : World} {b : PBatch} {rs : Sl} (h : yb3 w 4 ye7 rs.a rs.n b.recs) :
  Calls pP 127 #[b.v rs] w fun e w' => e = .returned (.tuple #[.string (if ybD b = 0 then bs (ydH b) else bs []), .int .i64 (ybD b)]) ∧ Mod [] w w' := by
 refine yaP (yFM ?_)
 have hn := h.1
 intro b1 f1 w2 A2
 refine (yuY (b := b) (rs := rs) (h.keep0 A2.mod)).mono ?_
 rintro e w3 ⟨rfl, M3⟩
 have N3 := A2.mod.go0 M3 (by simp)
 refine ⟨_, rfl, yaE.of0 M3, yaB (fun g1 => ?_) fun g1 => ?_⟩
 ·have g : ¬ ybD b = 0 := by simpa using g1
  rw [if_neg g]; exact ⟨rfl, N3⟩
 have g : ybD b = 0 := by simpa using g1
 have G := BatGood.of g
 obtain ⟨p1, p2, e1, e2, q1, q2⟩ := G.hd
 have hlr := G.lr
 rw [if_pos g, g]
 obtain ⟨pN, hp⟩ := Int.eq_ofNat_of_zero_le p1
 obtain ⟨eN, he⟩ := Int.eq_ofNat_of_zero_le e1
 obtain ⟨sN, hq⟩ := Int.eq_ofNat_of_zero_le q1
 intro w5 A5
 rw [hp, he, hq, yd8 (by omega), yd8 (by omega), yd8 (by omega), yd8 (by omega)]
 have v1 := (yaL pN (by omega)).2
 have v2 := (yaL eN (by omega)).2
 have v3 := (yaL sN (by omega)).2
 have v4 := (yaL rs.n (by omega)).2
 refine (yb1 (n := pN) (by omega) w5).mono ?_
 rintro e w6 ⟨rfl, M6⟩
 refine ⟨_, rfl, yaE.of0 M6, rfl, rfl, rfl, ?_⟩
 refine (yb1 (n := eN) (by omega) w6).mono ?_
 rintro e w7 ⟨rfl, M7⟩
 refine ⟨_, rfl, yaE.of0 M7, rfl, rfl, by rw [yaD, yaD]; omega, ?_⟩
 rw [ya9]
 refine (yb1 (n := sN) (by omega) w7).mono ?_
 rintro e w8 ⟨rfl, M8⟩
 refine ⟨_, rfl, yaE.of0 M8, rfl, by rw [yaD, yaD, List.length_append]; omega, ?_⟩
 rw [ya9]
 refine (yb1 (n := rs.n) (by omega) w8).mono ?_
 rintro e w9 ⟨rfl, M9⟩
 refine ⟨_, rfl, yaE.of0 M9, by rw [yaD, yaD, List.length_append, List.length_append]; omega, ?_⟩
 rw [ya9]
 have N9 : Mod [] w w9 := ((((N3.go0 A5.mod (by simp)).go0 M6 (by simp)).go0 M7 (by simp)).go0 M8 (by simp)).go0 M9 (by simp)
 have eh : yaJ pN ++ yaJ eN ++ yaJ sN ++ yaJ rs.n = (ycH b).flatMap yaJ := by
  simp [ycH, hp, he, hq, hn]
 rw [eh]
 refine ywF (fun mm s x w' => ∃ k : Nat, x = k ∧ k ≤ b.recs.length ∧ s = bs ((ycH b).flatMap yaJ ++ (b.recs.take k).flatMap yf7) ∧ Mod [] w w' ∧ mm = b.recs.length - k) b.recs.length ⟨0, rfl, by omega, by simp, N9, rfl⟩ ?_
 rintro mm s x w10 ⟨k, rfl, hk, rfl, M10, rfl⟩
 refine yaC (fun hlt => ?_) fun hge => ?_
 ·obtain ⟨y, hy⟩ : ∃ y, b.recs[k]? = some y := ⟨_, List.getElem?_eq_getElem (by omega)⟩
  have gy := G.r y (List.mem_of_getElem? hy)
  refine (h.keep0 M10).ix hy fun q hq => yaN (by simpa [add_zero] using hq 0 _ rfl) (yaG (hq 1 _ rfl) (yaN (hq 2 _ rfl) (yaG (hq 3 _ rfl) ?_)))
  refine (yqO y gy w10).mono ?_
  rintro e w11 ⟨rfl, M11⟩
  have l1 := G.len1 4
  rw [List.take_of_length_le (by simp [ycH])] at l1
  have l2 := G.len2 k
  have l3 := yg3 gy
  refine ⟨_, rfl, yaE.of0 M11, by rw [yaD, yaD, List.length_append]; omega, ?_⟩
  rw [ya9]
  refine ywE (b.recs.length - (k + 1)) (by omega) ⟨k + 1, by rw [yaH (by omega) (by omega)]; omega, by omega, ?_, M10.go0 M11 (by simp), rfl⟩
  rw [ybB hy, ← List.append_assoc]
 ·have : k = b.recs.length := by omega
  subst this
  rw [List.take_length]
  exact ⟨rfl, M10⟩
theorem yb7 {x : Int} (hx : num x = true) (w : World) : Calls pP 66 #[.int .i64 x] w fun e w' => e = .returned (.string (bs (yaJ x.toNat))) ∧ Mod [] w w' := by
 have := ye8 hx
 obtain ⟨n, rfl⟩ := Int.eq_ofNat_of_zero_le this.1
 refine yaP (yFN ?_)
 rw [yd8 (by omega)]
 refine (yb1 (n := n) (by omega) w).mono ?_
 rintro e w1 ⟨rfl, M1⟩
 exact ⟨_, rfl, rfl, M1⟩
theorem yu5 (t : Bool) : yaJ (ygI t) = [if t then 1 else 0] := by
 cases t <;> (unfold yaJ; rw [yc2 (by decide)]; rfl)
def yu6 (o : POp) (c : Nat) : List UInt8 :=
 if c = 116 then ybU o.part.t else if c = 112 then ycW o.part else if c = 110 then yaJ o.n.toNat else if c = 111 then yaJ o.off.toNat else if c = 98 then ydH o.b
 else if c = 103 then ybU o.g else if c = 109 then ybU o.m else if c = 101 then yaJ o.gen.toNat else if c = 114 then yaJ (ygI o.robin) else yfH o.topics
theorem yF4 {k : Int} (h0 : 0 ≤ k) (h1 : k ≤ 12) {c : Nat} (h : ha k c = true) : c ∈ [112, 116, 110, 111, 98, 103, 109, 101, 114, 108] := by
 rcases ycP h0 h1 with rfl | rfl | rfl | rfl | rfl | rfl | rfl | rfl | rfl | rfl | rfl | rfl | rfl <;> simp [ha, ypB] at h <;> simp [h] <;> omega
theorem yLy {k : Int} (h0 : 0 ≤ k) (h1 : k ≤ 12) (h : ha k 98 = true) : k = 2 := by
 rcases ycP h0 h1 with rfl | rfl | rfl | rfl | rfl | rfl | rfl | rfl | rfl | rfl | rfl | rfl | rfl <;> simp [ha, ypB] at h <;> rfl
theorem ysW {l : List ByteArray} (h : ycC l = true) : l.length ≤ 8 ∧ (∀ s ∈ l, s.size ≤ 16) := by
 simp only [ycC, Bool.and_eq_true, decide_eq_true_eq] at h
 obtain ⟨⟨⟨l1', l2'⟩, l3'⟩, _⟩ := h
 exact ⟨l2', fun s hs => (ycD (List.all_eq_true.1 l3' s hs)).1⟩
theorem yC2 {w : World} {o : POp} {rs ts : Sl} {c : Nat} (h : OpAt w o rs ts) (G : OpGood o) (hc : ha o.kind c = true) :
  Calls pP 102 #[o.v rs ts, .int .u8 (c : Nat)] w fun e w' => e = .returned (.string (bs (yu6 o c))) ∧ Mod [] w w' := by
 obtain ⟨n1, n2, n3, n4⟩ := G.nn
 have yKy := fun {x : Int} (h : num x = true) => (yaL x.toNat (by have := ye8 h; omega)).2
 refine yaP (yFO ?_)
 intro b1 f1
 refine yaB (fun g => ?_) fun g => ?_
 ·have g : c = 116 := by simp at g; omega
  subst g
  intro w2 A2
  refine (ybG o.part.t (by have := (ycD (G.nt (by rw [hc]; simp))).1; omega) w2).mono ?_
  rintro e w3 ⟨rfl, M3⟩
  exact ⟨_, rfl, yaE.of0 M3, rfl, A2.mod.go0 M3 (by simp)⟩
 have g116 : c ≠ 116 := by simp at g; omega
 refine yaB (fun g => ?_) fun g => ?_
 ·have g : c = 112 := by simp at g; omega
  subst g
  intro w2 A2
  have hs := (ycD (G.nt (by rw [hc]; simp))).1
  refine (ybG o.part.t (by omega) w2).mono ?_
  rintro e w3 ⟨rfl, M3⟩
  refine ⟨_, rfl, yaE.of0 M3, rfl, ?_⟩
  refine (yb7 n1 w3).mono ?_
  rintro e w4 ⟨rfl, M4⟩
  have := yKy n1
  have := (yaW o.part.t (by omega)).2
  refine ⟨_, rfl, yaE.of0 M4, by rw [yaD, yaD]; omega, ?_, (A2.mod.go0 M3 (by simp)).go0 M4 (by simp)⟩
  rw [ya9]; rfl
 have g112 : c ≠ 112 := by simp at g; omega
 refine yaB (fun g => ?_) fun g => ?_
 ·have g : c = 110 := by simp at g; omega
  subst g
  intro w2 A2
  refine (yb7 n2 w2).mono ?_
  rintro e w3 ⟨rfl, M3⟩
  exact ⟨_, rfl, yaE.of0 M3, rfl, A2.mod.go0 M3 (by simp)⟩
 have g110 : c ≠ 110 := by simp at g; omega
 refine yaB (fun g => ?_) fun g => ?_
 ·have g : c = 111 := by simp at g; omega
  subst g
  intro w2 A2
  refine (yb7 n3 w2).mono ?_
  rintro e w3 ⟨rfl, M3⟩
  exact ⟨_, rfl, yaE.of0 M3, rfl, A2.mod.go0 M3 (by simp)⟩
 have g111 : c ≠ 111 := by simp at g; omega
 refine yaB (fun g => ?_) fun g => ?_
 ·have g : c = 98 := by simp at g; omega
  subst g
  intro w2 A2
  refine (ywT (b := o.b) (rs := rs) (h.recs.keep0 A2.mod)).mono ?_
  rintro e w3 ⟨rfl, M3⟩
  rw [if_pos (G.b (yLy G.k.1 G.k.2 hc))]
  exact ⟨_, _, rfl, yaE.of0 M3, rfl, A2.mod.go0 M3 (by simp)⟩
 have g98 : c ≠ 98 := by simp at g; omega
 refine yaB (fun g => ?_) fun g => ?_
 ·have g : c = 103 := by simp at g; omega
  subst g
  intro w2 A2
  refine (ybG o.g (by have := (ycD (G.ng hc)).1; omega) w2).mono ?_
  rintro e w3 ⟨rfl, M3⟩
  exact ⟨_, rfl, yaE.of0 M3, rfl, A2.mod.go0 M3 (by simp)⟩
 have g103 : c ≠ 103 := by simp at g; omega
 refine yaB (fun g => ?_) fun g => ?_
 ·have g : c = 109 := by simp at g; omega
  subst g
  intro w2 A2
  refine (ybG o.m (by have := (ycD (G.nm hc)).1; omega) w2).mono ?_
  rintro e w3 ⟨rfl, M3⟩
  exact ⟨_, rfl, yaE.of0 M3, rfl, A2.mod.go0 M3 (by simp)⟩
 have g109 : c ≠ 109 := by simp at g; omega
 refine yaB (fun g => ?_) fun g => ?_
 ·have g : c = 101 := by simp at g; omega
  subst g
  intro w2 A2
  refine (yb7 n4 w2).mono ?_
  rintro e w3 ⟨rfl, M3⟩
  exact ⟨_, rfl, yaE.of0 M3, rfl, A2.mod.go0 M3 (by simp)⟩
 have g101 : c ≠ 101 := by simp at g; omega
 refine yaB (fun g => ?_) fun g => ?_
 ·have g : c = 114 := by simp at g; omega
  subst g
  refine yaB (fun g => ?_) fun g => ?_
  ·have g : o.robin = true := g
   intro w2 A2
   exact ⟨by rw [show yu6 o 114 = yaJ (ygI o.robin) from rfl, g, yu5]; rfl, A2.mod⟩
  ·have g : o.robin = false := g
   intro w2 A2
   exact ⟨by rw [show yu6 o 114 = yaJ (ygI o.robin) from rfl, g, yu5]; rfl, A2.mod⟩
 have g114 : c ≠ 114 := by simp at g; omega
 have hc8 : c = 108 := by have := yF4 G.k.1 G.k.2 hc; simp at this; omega
 subst hc8
 intro w2 A2
 obtain ⟨hl8, hs16⟩ := ysW (G.nl hc)
 have hts := h.topics.1
 refine (yb7 (x := (ts.n : Int)) (by simp [num]; omega) w2).mono ?_
 rintro e w3 ⟨rfl, M3⟩
 refine ⟨_, rfl, yaE.of0 M3, ?_⟩
 rw [Int.toNat_natCast]
 refine ywH (fun mm s x w' => ∃ k : Nat, x = k ∧ k ≤ o.topics.length ∧ s = bs (yaJ ts.n ++ (o.topics.take k).flatMap ybU) ∧ Mod [] w w' ∧ mm = o.topics.length - k) o.topics.length ⟨0, rfl, by omega, by simp, A2.mod.go0 M3 (by simp), rfl⟩ ?_
 rintro mm s x w10 ⟨k, rfl, hk, rfl, M10, rfl⟩
 refine yaC (fun hlt => ?_) fun hge => ?_
 ·obtain ⟨y, hy⟩ : ∃ y, o.topics[k]? = some y := ⟨_, List.getElem?_eq_getElem (by omega)⟩
  have gy := hs16 y (List.mem_of_getElem? hy)
  refine (h.topics.keep0 M10).ix hy fun q hq => yaG (by simpa [add_zero] using hq 0 _ rfl) ?_
  refine (ybG y (by omega) w10).mono ?_
  rintro e w11 ⟨rfl, M11⟩
  have l1 := (yaL ts.n (by omega)).2
  have l2 := ydF (f := ybU) (c := 26) (l := o.topics.take k) fun s hs => by
   have := hs16 s (List.mem_of_mem_take hs); have := (yaW s (by omega)).2; omega
  have l3 : (o.topics.take k).length * 26 ≤ 8 * 26 := Nat.mul_le_mul_right _ (by rw [List.length_take]; omega)
  have l4 := (yaW y (by omega)).2
  refine ⟨_, rfl, yaE.of0 M11, by rw [yaD, yaD, List.length_append]; omega, ?_⟩
  rw [ya9]
  refine ywG (o.topics.length - (k + 1)) (by omega) ⟨k + 1, by rw [yaH (by omega) (by omega)]; omega, by omega, ?_, M10.go0 M11 (by simp), rfl⟩
  rw [ybB hy, ← List.append_assoc]
 ·have : k = o.topics.length := by omega
  subst this
  rw [List.take_length]
  exact ⟨by rw [show yu6 o 108 = yfH o.topics from rfl, yfH, hts], M10⟩
theorem yf9 {o : POp} (h0 : 0 ≤ o.kind) (h1 : o.kind ≤ 12) : ybF o = (ypB o.kind).flatMap (yu6 o) := by
 obtain ⟨kd, pt, n, off, b, g, m, gen, robin, topics⟩ := o
 rcases ycP h0 h1 with h | h | h | h | h | h | h | h | h | h | h | h | h <;> (have h : kd = _ := h; subst h; simp [ybF, ypB, yu6])
theorem yqP {k : Int} (h0 : 0 ≤ k) (h1 : k ≤ 12) : (yf4 k).size ≤ 5 := by
 rcases ycP h0 h1 with rfl | rfl | rfl | rfl | rfl | rfl | rfl | rfl | rfl | rfl | rfl | rfl | rfl <;> decide
theorem yF5 {k : Int} (h0 : 0 ≤ k) (h1 : k ≤ 12) {i : Nat} (hi : i < (yf4 k).size) : ∃ c, (ypB k)[i]? = some c ∧ yk0 (yf4 k) i = (c : Nat) ∧ ha k c = true := by
  have hi5 : i < 5 := Nat.lt_of_lt_of_le hi (yqP h0 h1)
  rcases ycP h0 h1 with rfl | rfl | rfl | rfl | rfl | rfl | rfl | rfl | rfl | rfl | rfl | rfl | rfl <;>
    (have h5 : i = 0 ∨ i = 1 ∨ i = 2 ∨ i = 3 ∨ i = 4 := by omega
     rcases h5 with rfl | rfl | rfl | rfl | rfl <;> first | exact absurd hi (by decide) | exact ⟨_, rfl, by decide, by decide⟩)
theorem yC3 {k : Int} : (yf4 k).size = (ypB k).length := by simp [yf4, ByteArray.size]
theorem yC4 {w : World} {o : POp} {rs ts : Sl} (h : OpAt w o rs ts) :
  Calls pP 64 #[o.v rs ts] w fun e w' => e = .returned (.tuple #[.string (if opE o = 0 then bs (opB o) else bs []), .int .i64 (opE o)]) ∧ Mod [] w w' := by
 refine yaP (yFP ?_)
 intro b1 f1 w2 A2
 refine (yqM (o := o) (rs := rs) (ts := ts) (h.keep0 A2.mod).recs (h.keep0 A2.mod).topics).mono ?_
 rintro _ w3 ⟨rfl, M3⟩
 have N3 := A2.mod.go0 M3 (by simp)
 refine ⟨_, rfl, yaE.of0 M3, yaB (fun g => ?_) fun g => ?_⟩
 ·have g : opE o ≠ 0 := by simpa using g
  rw [if_neg g]
  exact ⟨rfl, N3⟩
 have g : opE o = 0 := by simpa using g
 have G := OpGood.of g
 obtain ⟨k0, k1⟩ := G.k
 rw [if_pos g, g]
 intro w5 A5
 refine (yb7 (x := o.kind) (by simp [num]; omega) w5).mono ?_
 rintro _ w6 ⟨rfl, M6⟩
 refine ⟨_, rfl, yaE.of0 M6, rfl, ?_⟩
 refine (yBf k0 k1 w6).mono ?_
 rintro _ w7 ⟨rfl, M7⟩
 refine ⟨_, rfl, yaE.of0 M7, ?_⟩
 have N7 := ((N3.go0 A5.mod (by simp)).go0 M6 (by simp)).go0 M7 (by simp)
 have hlen := yC3 (k := o.kind)
 have h5 := yqP k0 k1
 refine ywJ (fun mm s x w' => ∃ k : Nat, x = k ∧ k ≤ (yf4 o.kind).size ∧ s = bs (yaJ o.kind.toNat ++ ((ypB o.kind).take k).flatMap (yu6 o)) ∧ Mod [] w w' ∧ mm = (yf4 o.kind).size - k) (yf4 o.kind).size ⟨0, rfl, by omega, by simp, N7, rfl⟩ ?_
 rintro mm s x w10 ⟨k, rfl, hk, rfl, M10, rfl⟩
 refine yaC (fun hlt => ?_) fun hge => ?_
 ·obtain ⟨c, hc1, hc2, hc3⟩ := yF5 k0 k1 (i := k) (by omega)
  refine ⟨by omega, by omega, ?_⟩
  rw [Int.toNat_natCast, hc2]
  intro w11 A11
  have N11 := M10.go0 A11.mod (by simp)
  refine (yC2 (rs := rs) (ts := ts) (h.keep0 N11) G hc3).mono ?_
  rintro _ w12 ⟨rfl, M12⟩
  have lo := ykF G
  have e1 : (yaJ o.kind.toNat ++ ((ypB o.kind).take k).flatMap (yu6 o)) ++ yu6 o c = yaJ o.kind.toNat ++ ((ypB o.kind).take (k + 1)).flatMap (yu6 o) := by
   rw [ybB hc1, ← List.append_assoc]
  have e2 : (yaJ o.kind.toNat ++ ((ypB o.kind).take (k + 1)).flatMap (yu6 o)).length ≤ (opB o).length := by
   rw [opB, yf9 k0 k1, List.length_append, List.length_append]
   have : (ypB o.kind).flatMap (yu6 o) = ((ypB o.kind).take (k + 1)).flatMap (yu6 o) ++ ((ypB o.kind).drop (k + 1)).flatMap (yu6 o) := by
    rw [← List.flatMap_append, List.take_append_drop]
   rw [this, List.length_append]; omega
  refine ⟨_, rfl, yaE.of0 M12, by rw [yaD, yaD, ← List.length_append, e1]; omega, ?_⟩
  rw [ya9, e1]
  exact ywI ((yf4 o.kind).size - (k + 1)) (by omega) ⟨k + 1, by rw [yaH (by omega) (by omega)]; omega, by omega, rfl, N11.go0 M12 (by simp), rfl⟩
 ·have hk : k = (ypB o.kind).length := by omega
  subst hk
  rw [List.take_length]
  exact ⟨by rw [opB, yf9 k0 k1], M10⟩
theorem ymL {w : World} {s : Sl} {ll : List CV} (h : CsAt w s ll) (hl : ll.length ≤ 1000000) :
  Calls pP 32 #[.slice s.a s.n s.c] w fun e w' => e = .returned (.tuple #[.string (if yb8 (ll.map (·.x)) = 0 then bs (ybK (ll.map (·.x))) else bs []), .int .i64 (yb8 (ll.map (·.x)))]) ∧ Mod [] w w' := by
 have hn := h.sl.1
 have el : (ll.map (·.x)).length = ll.length := by simp
 refine yaP (yBx ?_)
 refine yaC (fun g => ?_) fun g => ?_
 ·have e : yb8 (ll.map (·.x)) = 2 := by rw [yb8, if_pos (by rw [el]; omega)]
  rw [e]; exact ⟨rfl, Mod.refl _⟩
 have e : yb8 (ll.map (·.x)) = ycZ (ll.map (·.x)) := by rw [yb8, if_neg (by rw [el]; omega)]
 refine (yBv h hl).mono ?_
 rintro _ w1 ⟨rfl, M1⟩
 refine ⟨_, rfl, yaB (fun g2 => ?_) fun g2 => ?_⟩
 ·have g2 : ycZ (ll.map (·.x)) ≠ 0 := by simpa using g2
  rw [e, if_neg g2]; exact ⟨rfl, M1⟩
 have g2 : ycZ (ll.map (·.x)) = 0 := by simpa using g2
 have good : ∀ q ∈ ll, yhP q.x = false ∧ opE q.x.op = 0 := fun q hq => ykE.1 g2 q.x (List.mem_map.2 ⟨q, hq, rfl⟩)
 rw [e, if_pos g2, g2, yd8 (by omega)]
 refine (yb1 (n := s.n) (by omega) w1).mono ?_
 rintro _ w5 ⟨rfl, M5⟩
 refine ⟨_, rfl, ?_⟩
 have v0 := yaL s.n (by omega)
 refine ymK (fun mm t x w' => ∃ k : Nat, x = k ∧ k ≤ ll.length ∧ t = bs (yaJ s.n ++ (ll.take k).flatMap fun q => ye4 q.x) ∧ Mod [] w w' ∧ mm = ll.length - k) ll.length ⟨0, rfl, by omega, by simp, M1.go0 M5 (by simp), rfl⟩ ?_
 rintro mm t x w9 ⟨k, rfl, hk, rfl, N9, rfl⟩
 refine yaC (fun hlt => ?_) fun hge => ?_
 ·obtain ⟨q, hq⟩ : ∃ q, ll[k]? = some q := ⟨_, List.getElem?_eq_getElem (by omega)⟩
  obtain ⟨gq1, gq2⟩ := good q (List.mem_of_getElem? hq)
  have hodd := yi3 gq1
  refine h.sl.ixW hq fun ad had => ?_
  have had9 := had w9 N9
  have c1 : ∀ j v, (CV.cs q)[j + 2]? = some v → w9.cell? ((ad.add 2).add j) = some v := fun j v hv => by
   rw [yeY]; have := had9 _ _ hv; rwa [Nat.add_comm] at this
  refine yaF (had9 2 _ rfl) (yaG (c1 1 _ rfl) (yaF (c1 2 _ rfl) (yaF (c1 3 _ rfl) (yaF (c1 4 _ rfl) (yaF (c1 5 _ rfl) (yaF (c1 6 _ rfl) (yaF (c1 7 _ rfl) (ybH (c1 8 _ rfl) (yaG (c1 9 _ rfl) (yaG (c1 10 _ rfl) (yaF (c1 11 _ rfl) (yaN (c1 12 _ rfl) (ybH (c1 13 _ rfl) ?_)))))))))))))
  refine (yC4 (o := q.x.op) (rs := q.rs) (ts := q.ts) ((h.op q (List.mem_of_getElem? hq)).keep0 N9)).mono ?_
  rintro _ w11 ⟨rfl, M11⟩
  rw [if_pos gq2]
  refine ⟨_, _, rfl, ?_⟩
  refine h.sl.ixW hq fun ad had => ?_
  intro w12 A12
  have N12 := (N9.go0 M11 (by simp)).go0 A12.mod (by simp)
  refine yaF (by have := had w12 N12 0 _ rfl; rwa [add_zero] at this) ?_
  refine h.sl.ixW hq fun ad had => yaF (had w12 N12 1 _ rfl) ?_
  obtain ⟨cN, hcN⟩ := Int.eq_ofNat_of_zero_le (show 0 ≤ q.x.c by omega)
  obtain ⟨nN, hnN⟩ := Int.eq_ofNat_of_zero_le (show 0 ≤ q.x.n by omega)
  rw [hcN, hnN, yd8 (by omega), yd8 (by omega)]
  refine (yb1 (n := cN) (by omega) w12).mono ?_
  rintro _ w13 ⟨rfl, M13⟩
  have N13 := N12.go0 M13 (by simp)
  refine ⟨_, rfl, yaF (had w13 N13 1 _ (by rw [← hnN]; rfl)) rfl, ?_⟩
  refine (yb1 (n := nN) (by omega) w13).mono ?_
  rintro _ w14 ⟨rfl, M14⟩
  have lc := yaL cN (by omega)
  have ln := yaL nN (by omega)
  have lo := ykF (OpGood.of gq2)
  refine ⟨_, rfl, by rw [yaD, yaD]; omega, ?_⟩
  rw [ya9]
  refine (ybG (bs (opB q.x.op)) (by rw [yaD]; omega) w14).mono ?_
  rintro _ w15 ⟨rfl, M15⟩
  have lp := (yaW (bs (opB q.x.op)) (by rw [yaD]; omega)).2
  rw [yaD] at lp
  refine ⟨_, rfl, by rw [yaD, yaD, List.length_append]; omega, ?_⟩
  have e2 : bs (yaJ cN ++ yaJ nN) ++ bs (ybU (bs (opB q.x.op))) = bs (yfI q.x) := by
   rw [ya9]; unfold yfI; rw [hcN, hnN]; rfl
  rw [e2]
  have lr := yg6 gq1 gq2
  refine (ykH (bs (yfI q.x)) (by rw [yaD]; omega) w15).mono ?_
  rintro _ w16 ⟨rfl, M16⟩
  have hlt2 : (yaJ s.n ++ (ll.take k).flatMap fun q => ye4 q.x).length ≤ 10 + 4096 * 40000 := by
   have e1 := ydF (f := fun q : CV => ye4 q.x) (c := 40000) (l := ll.take k) fun q hq => (yfJ (good q (List.mem_of_mem_take hq)).1 (good q (List.mem_of_mem_take hq)).2).1
   have e3 : (ll.take k).length * 40000 ≤ 4096 * 40000 := Nat.mul_le_mul_right _ (by rw [List.length_take]; omega)
   rw [List.length_append]; omega
  have lcb := yfJ gq1 gq2
  refine ⟨_, rfl, by rw [yaD, yaD]; show _ + (ye4 q.x).length ≤ _; omega, ?_⟩
  rw [ya9]
  refine ywS (ll.length - (k + 1)) (by omega) ⟨k + 1, by rw [yaH (by omega) (by omega)]; omega, by omega, ?_, (((N13.go0 M14 (by simp)).go0 M15 (by simp)).go0 M16 (by simp)), rfl⟩
  rw [ybB hq, ← List.append_assoc]; rfl
 ·have hk : k = ll.length := by omega
  subst hk
  rw [List.take_length]
  refine ⟨?_, N9⟩
  unfold ybK; rw [el, hn, List.flatMap_map]
def yb5 (m : PMail) : Int := if m.kind < 0 ∨ m.kind ≥ 12 then 180 else if ((yaR m).all num) = false then 1 else if yb8 m.calls ≠ 0 then yb8 m.calls else yfR m.r
theorem ycV {m : PMail} (h : yb5 m = 0) : (0 ≤ m.kind ∧ m.kind < 12) ∧ (yaR m).all num = true ∧ yb8 m.calls = 0 ∧ yfR m.r = 0 := by
 unfold yb5 at h
 split at h
 ·omega
 ·split at h
  ·omega
  ·split at h
   ·rename_i h3; exact absurd h h3
   ·rename_i h1 h2 h3; exact ⟨by omega, by simpa using h2, by simpa using h3, h⟩
structure MailW (w : World) (m : PMail) (s f p : Sl) : Prop where
 calls : ye2 w s m.calls
 lc : m.calls.length ≤ 100000
 rep : RepAtW w m.r f p
theorem MailAt.w {w : World} {m : PMail} {s f p : Sl} (h : MailAt w m s f p) (hl : m.calls.length ≤ 100000) : MailW w m s f p := ⟨h.calls, hl, h.rep.wide⟩
theorem ygM {w : World} {m : PMail} {s f p : Sl} (h : MailW w m s f p) :
  Calls pP 12 #[m.v s f p] w fun e w' => e = .returned (.int .i64 (yb5 m)) ∧ Mod [] w w' := by
 obtain ⟨ll, hll, hop, hcs⟩ := h.calls
 have hl : ll.length ≤ 1000000 := by have := congrArg List.length hcs; have := h.lc; simp at *; omega
 refine yaP (yIB ?_)
 intro b1 f1
 refine yaC (fun g1 => fun w2 A2 => ⟨by rw [yb5, if_pos (.inl g1)], A2.mod⟩) fun g1 => ?_
 refine yaC (fun g2 => fun w2 A2 => ⟨by rw [yb5, if_pos (.inr g2)], A2.mod⟩) fun g2 => ?_
 have hE : yb5 m = if ((yaR m).all num) = false then 1 else if yb8 m.calls ≠ 0 then yb8 m.calls else yfR m.r := by rw [yb5, if_neg (by omega)]
 intro w4 A4 h4
 refine (yqD b1 w4).mono ?_
 rintro e w5 ⟨rfl, M5⟩
 have N5 := A4.mod.go0 M5 (by simp)
 have h5 := M5.keep0 h4
 refine ⟨_, _, _, _, _, _, _, _, _, _, rfl, _, _, _, _, _, _, _, _, _, _, _, _, _, _, _, _, _, _, _, _, _, _, _, h5, ?_⟩
 refine yAk (fun mm x w' => ∃ k : Nat, x = k ∧ k ≤ 10 ∧ ((yaR m).take k).all num = true ∧ mm = 10 - k ∧ w' = w5) 10 ⟨0, rfl, by omega, by simp, rfl, rfl⟩ ?_
 rintro mm x w6 ⟨k, rfl, hk, hal, rfl, rfl⟩ h6
 refine yaC (fun hlt => ?_) fun hge => ?_
 ·have hk' : k < 10 := by omega
  obtain ⟨x, hx⟩ : ∃ x, (yaR m)[k]? = some x := ⟨_, List.getElem?_eq_getElem (by simpa [yaR] using hk')⟩
  have hc := yeJ (s := s) (f := f) (p := p) h6 hx
  have bad : ¬ (0 ≤ x ∧ x ≤ 1099511627776) → yb5 m = 1 := fun hn => by
   rw [hE, if_pos]
   apply Bool.eq_false_iff.2
   intro hh
   have := List.all_eq_true.1 hh x (List.mem_of_getElem? hx)
   exact hn (by simpa [num] using this)
  refine ⟨_, yFr b1 hk', yaF hc ?_⟩
  refine yaC (fun g3 => ⟨by rw [bad (by omega)], N5⟩) fun g3 => ?_
  refine yaF hc ?_
  refine yaC (fun g4 => ⟨by rw [bad (by omega)], N5⟩) fun g4 => ?_
  refine yAj (10 - (k + 1)) (by omega) ⟨k + 1, by rw [yaH (by omega) (by omega)]; omega, by omega, ?_, rfl, rfl⟩
  rw [yb6 hx, hal]; simp [num]; omega
 ·have hk' : k = 10 := by omega
  subst hk'
  rw [List.take_of_length_le (by simp [yaR])] at hal
  rw [hal, if_neg (by decide)] at hE
  refine (ysR (s := s) (ll := ll) ⟨hll.keep0 N5, fun q hq => (hop q hq).keep0 N5⟩ hl).mono ?_
  rw [hcs]
  rintro e w7 ⟨rfl, M7⟩
  refine ⟨_, _, rfl, _, _, _, _, _, _, _, _, _, _, _, _, _, _, _, _, _, _, _, _, _, _, _, M7.keep0 h6, ?_⟩
  have N7 := N5.go0 M7 (by simp)
  refine yaB (fun g => ?_) fun g => ?_
  ·have g : yb8 m.calls ≠ 0 := by simpa using g
   exact ⟨by rw [hE, if_pos g], N7⟩
  have g : yb8 m.calls = 0 := by simpa using g
  rw [if_neg (by simpa using g)] at hE
  refine (yqC (h.rep.keep0 N7)).mono ?_
  rintro e w8 ⟨rfl, M8⟩
  refine ⟨_, _, rfl, _, _, _, _, _, _, _, _, _, _, _, _, _, _, _, _, _, _, _, _, _, _, _, (M7.go0 M8 (by simp)).keep0 h6, ?_⟩
  exact ⟨by rw [hE], N7.go0 M8 (by simp)⟩
section
set_option maxRecDepth 100000
variable {R : VWP} {w w0 : World} {m : Nat} {i0 i1 i2 i3 i4 i5 i6 i7 i8 i9 j0 j1 j2 j3 j4 j5 j6 j7 j8 j9 k0 k1 k2 k3 k4 k5 k6 k7 k8 k9 l0 l1 l2 l3 l4 l5 l6 l7 l8 l9 : Int} {s0 s1 s2 s3 s4 s5 s6 s7 s8 s9 t0 t1 t2 t3 t4 t5 t6 t7 t8 t9 : BA} {n0 n1 n2 n3 n4 n5 n6 n7 n8 n9 o0 o1 o2 o3 o4 o5 o6 o7 o8 o9 p0 p1 p2 p3 p4 p5 p6 p7 p8 p9 : Nat} {q0 q1 q2 q3 q4 q5 q6 q7 q8 q9 r0 r1 r2 r3 r4 r5 r6 r7 r8 r9 : OA} {B0 B1 B2 B3 B4 B5 B6 B7 B8 B9 : Bool} {M0 M1 M2 M3 : Option Nat} {V0 V1 V2 V3 V4 V5 : Value} {A0 A1 A2 : Addr}
def yoO : LA := ⟨[0, 0, 1, 0, 1, 1, 1, 1], [1, 5, 6], [(1, 0, 0)], 1, []⟩
def yoP : LA := ⟨[0, 0, 1, 0, 1, 1, 1, 1, 1, 1], [1, 5, 7], [(1, 0, 0)], 1, []⟩
def yoQ : List LA := [yoO, yoP]
abbrev yu7 := dnF pP yoQ (code Tryz.f33)
abbrev yKO := yaO pP yoQ (code Tryz.f33)
abbrev yu8 (p : List Nat) (K : List Kh) (R : VWP) := yaO pP yoQ (code Tryz.f33) p K (ya4 pP Tryz.f33 [] R)
def yh2 (bm0 : Nat) (a6 a7 a8 a9 : Int) (a0 : OA) (a4 a2 : Nat) (a1 : OA) (a5 a3 : Nat) : ByteArray × Int → List Value × List TB := fun (b0, b1) => ([(.pointer (some ⟨bm0, 0, none⟩)), .string b0, .int .i64 b1], [⟨bm0, 27, [.int .i64 a6, .int .i64 a7, .int .i64 a8, .int .i64 a9, .slice a0 a4 a2, .slice a1 a5 a3], false⟩])
def yh3 (bm0 : Nat) (a6 a7 a8 a9 : Int) (a0 : OA) (a4 a2 : Nat) (a1 : OA) (a5 a3 : Nat) : ByteArray × Int → List Value × List TB := fun (b0, b1) => ([(.pointer (some ⟨bm0, 0, none⟩)), .string b0, .int .i64 b1], [⟨bm0, 27, [.int .i64 a6, .int .i64 a7, .int .i64 a8, .int .i64 a9, .slice a0 a4 a2, .slice a1 a5 a3], false⟩])
abbrev yBy (bm0 : Nat) (a6 a7 a8 a9 : Int) (a0 : OA) (a4 a2 : Nat) (a1 : OA) (a5 a3 : Nat) (I : Nat → ByteArray → Int → World → Prop) (m : Nat) : Kh := KG (yh2 bm0 a6 a7 a8 a9 a0 a4 a2 a1 a5 a3) (U2 I) m
theorem ywU {I : Nat → ByteArray → Int → World → Prop} (m' : Nat) (h1 : m' < m) (h2 : I m' s0 i4 w) : KS (yBy n0 i0 i1 i2 i3 q0 n1 n2 q1 n3 n4 I m) (yh2 n0 i0 i1 i2 i3 q0 n1 n2 q1 n3 n4 (s0, i4)) w := ⟨m', h1, _, rfl, rfl, h2⟩
theorem ywV (I : Nat → ByteArray → Int → World → Prop) (m0 : Nat) (h0 : I m0 s0 i4 w0)
 (hr : ∀ m b4 b3 w, I m b4 b3 w →
 brB (decide (b3 < (n1 : Int))) (
 ixA q0 n1 b3 5 fun c6 =>
 ∀ b1, Adv [] [] w b1 →
 yaI .i64 b1 c6 fun d4 =>
 ixA q0 n1 b3 5 fun b0 =>
 yaT b1 (Addr.add b0 1) fun c2 => yaQ b1 (Addr.add (Addr.add b0 1) 1) fun b7 => yaT b1 (Addr.add (Addr.add b0 1) 2) fun c3 => yaQ b1 (Addr.add (Addr.add b0 1) 3) fun b8 =>
 Calls pP 66 #[.int .i64 d4] b1 fun e b2 => ∃ b9, e = .returned (.string b9) ∧ yaE [n0] b1 b2 ∧ (yaT b2 (Addr.add b0 1) fun d2 => yaQ b2 (Addr.add (Addr.add b0 1) 1) fun c7 => yaT b2 (Addr.add (Addr.add b0 1) 2) fun d3 => yaQ b2 (Addr.add (Addr.add b0 1) 3) fun c8 => ((.agg (Z7 d2 c7 d3 c8)) : Value) = (.agg (Z7 c2 b7 c3 b8))) ∧ (((.slice q0 n1 n2) : Value) = (.slice q0 n1 n2)) ∧
 Calls pP 67 #[(.agg (Z7 c2 b7 c3 b8))] b2 fun e c4 => ∃ c0, e = .returned (.string c0) ∧ yaE [n0] b2 c4 ∧
 yeS b9 c0 fun c9 =>
 yeS b4 c9 fun d0 =>
 KS (yBy n0 i0 i1 i2 i3 q0 n1 n2 q1 n3 n4 I m) (yh2 n0 i0 i1 i2 i3 q0 n1 n2 q1 n3 n4 (d0, (IntKind.wrap .i64 (b3 + 1)))) c4)
 (
 Calls pP 66 #[(.int .i64 (n3 : Int))] w fun e c5 => ∃ c1, e = .returned (.string c1) ∧ yaE [n0] w c5 ∧
 yeS b4 c1 fun d1 =>
 yaK yoP (yu7 392 [0, 0, 1, 0, 1, 1, 1, 1, 1, 1]) (yu8 [1, 1, 1, 1, 1, 1, 0, 1, 0] [] R) (yh3 n0 i0 i1 i2 i3 q0 n1 n2 q1 n3 n4 (d1, 0)) c5)) :
 yaK yoO (yu7 394 [0, 0, 1, 0, 1, 1, 1, 1]) (yu8 [1, 1, 1, 1, 0, 1, 0] [] R) (yh2 n0 i0 i1 i2 i3 q0 n1 n2 q1 n3 n4 (s0, i4)) w0 :=
 lrule (yh2 n0 i0 i1 i2 i3 q0 n1 n2 q1 n3 n4) (U2 I) h0 (by rintro m ⟨b4, b3⟩ w h; exact ⟨by kernel_rfl, by kernel_rfl, fun js => Eq.mpr (by kernel_rfl) (hr m b4 b3 w h)⟩)
abbrev yBz (bm0 : Nat) (a6 a7 a8 a9 : Int) (a0 : OA) (a4 a2 : Nat) (a1 : OA) (a5 a3 : Nat) (I : Nat → ByteArray → Int → World → Prop) (m : Nat) : Kh := KG (yh3 bm0 a6 a7 a8 a9 a0 a4 a2 a1 a5 a3) (U2 I) m
theorem ywW {I : Nat → ByteArray → Int → World → Prop} (m' : Nat) (h1 : m' < m) (h2 : I m' s0 i4 w) : KS (yBz n0 i0 i1 i2 i3 q0 n1 n2 q1 n3 n4 I m) (yh3 n0 i0 i1 i2 i3 q0 n1 n2 q1 n3 n4 (s0, i4)) w := ⟨m', h1, _, rfl, rfl, h2⟩
theorem ywX (I : Nat → ByteArray → Int → World → Prop) (m0 : Nat) (h0 : I m0 s0 i4 w0)
 (hr : ∀ m b1 b0 w, I m b1 b0 w →
 brB (decide (b0 < (n3 : Int))) (
 ixA q1 n3 b0 2 fun c1 =>
 ∀ b2, Adv [] [] w b2 →
 yaQ b2 c1 fun c2 =>
 ixA q1 n3 b0 2 fun b6 =>
 yaI .i64 b2 (Addr.add b6 1) fun c0 =>
 Calls pP 34 #[.string c2] b2 fun e b3 => ∃ b7, e = .returned (.string b7) ∧ yaE [n0] b2 b3 ∧ (yaI .i64 b3 (Addr.add b6 1) fun c5 => ((.int .i64 c5) : Value) = (.int .i64 c0)) ∧ (((.slice q1 n3 n4) : Value) = (.slice q1 n3 n4)) ∧
 Calls pP 66 #[.int .i64 c0] b3 fun e b9 => ∃ b8, e = .returned (.string b8) ∧ yaE [n0] b3 b9 ∧
 yeS b7 b8 fun c3 =>
 yeS b1 c3 fun c4 =>
 KS (yBz n0 i0 i1 i2 i3 q0 n1 n2 q1 n3 n4 I m) (yh3 n0 i0 i1 i2 i3 q0 n1 n2 q1 n3 n4 (c4, (IntKind.wrap .i64 (b0 + 1)))) b9)
 (
 R (.tuple #[.string b1, .int .i64 0]) w)) :
 yaK yoP (yu7 392 [0, 0, 1, 0, 1, 1, 1, 1, 1, 1]) (yu8 [1, 1, 1, 1, 1, 1, 0, 1, 0] [] R) (yh3 n0 i0 i1 i2 i3 q0 n1 n2 q1 n3 n4 (s0, i4)) w0 :=
 lrule (yh3 n0 i0 i1 i2 i3 q0 n1 n2 q1 n3 n4) (U2 I) h0 (by rintro m ⟨b1, b0⟩ w h; exact ⟨by kernel_rfl, by kernel_rfl, fun js => Eq.mpr (by kernel_rfl) (hr m b1 b0 w h)⟩)
theorem yF6 (h :
 ∀ b1, w.heap.size ≤ b1 →
 ∀ w2, Adv [] [b1] w w2 →
 Calls pP 65 #[(.agg (Z3 i0 i1 i2 i3 q0 n0 n1 q1 n2 n3))] w2 fun e w3 => ∃ x4, e = .returned (.int .i64 x4) ∧ yaE [b1] w2 w3 ∧
 brB (x4 != 0) (
 R (.tuple #[(.string (⟨#[]⟩ : BA)), .int .i64 x4]) w3)
 (
 ∀ w5, Adv [] [] w3 w5 →
 Calls pP 66 #[.int .i64 i0] w5 fun e w6 => ∃ s7, e = .returned (.string s7) ∧ yaE [b1] w5 w6 ∧ (((.slice q0 n0 n1) : Value) = (.slice q0 n0 n1)) ∧ (((.int .i64 i3) : Value) = (.int .i64 i3)) ∧ (((.int .i64 i2) : Value) = (.int .i64 i2)) ∧ (((.int .i64 i1) : Value) = (.int .i64 i1)) ∧
 Calls pP 66 #[.int .i64 i1] w6 fun e w8 => ∃ s9, e = .returned (.string s9) ∧ yaE [b1] w6 w8 ∧ (((.slice q0 n0 n1) : Value) = (.slice q0 n0 n1)) ∧ (((.int .i64 i3) : Value) = (.int .i64 i3)) ∧ (((.int .i64 i2) : Value) = (.int .i64 i2)) ∧
 yeS s7 s9 fun b7 =>
 Calls pP 66 #[.int .i64 i2] w8 fun e b0 => ∃ b3, e = .returned (.string b3) ∧ yaE [b1] w8 b0 ∧ (((.slice q0 n0 n1) : Value) = (.slice q0 n0 n1)) ∧ (((.int .i64 i3) : Value) = (.int .i64 i3)) ∧
 yeS b7 b3 fun b8 =>
 Calls pP 66 #[.int .i64 i3] b0 fun e b2 => ∃ b4, e = .returned (.string b4) ∧ yaE [b1] b0 b2 ∧ (((.slice q0 n0 n1) : Value) = (.slice q0 n0 n1)) ∧
 yeS b8 b4 fun b9 =>
 Calls pP 66 #[(.int .i64 (n0 : Int))] b2 fun e b6 => ∃ b5, e = .returned (.string b5) ∧ yaE [b1] b2 b6 ∧
 yeS b9 b5 fun c0 =>
 yaK yoO (yu7 394 [0, 0, 1, 0, 1, 1, 1, 1]) (yu8 [1, 1, 1, 1, 0, 1, 0] [] R) (yh2 b1 i0 i1 i2 i3 q0 n0 n1 q1 n2 n3 (c0, 0)) b6)) :
 CR pP 33 #[(.agg (Z3 i0 i1 i2 i3 q0 n0 n1 q1 n2 n3))] w R :=
 yaA Tryz.wide_mixed (an := yoQ) Tryz.func33 rfl rfl (by kernel_rfl) rfl (Eq.mpr (by kernel_rfl) h)
def yoR : LA := ⟨[0, 0, 1, 0, 1, 1, 1], [1, 3, 4], [(1, 0, 0)], 1, []⟩
def yoS : List LA := [yoR]
abbrev yEw := dnF pP yoS (code Tryz.f13)
abbrev yKP := yaO pP yoS (code Tryz.f13)
abbrev yEx (p : List Nat) (K : List Kh) (R : VWP) := yaO pP yoS (code Tryz.f13) p K (ya4 pP Tryz.f13 [] R)
def yh4 (c3 : OA) (c5 c4 bm0 : Nat) (b3 b4 b5 b6 b7 b8 b9 c0 c1 c2 : Int) (a0 : OA) (a6 a3 : Nat) (a9 b0 b1 b2 : Int) (a1 : OA) (a7 a4 : Nat) (a2 : OA) (a8 a5 : Nat) : Int → List Value × List TB := fun c6 => ([(.pointer (some ⟨bm0, 0, none⟩)), .slice c3 c5 c4, .int .i64 c6], [⟨bm0, 29, [.int .i64 b3, .int .i64 b4, .int .i64 b5, .int .i64 b6, .int .i64 b7, .int .i64 b8, .int .i64 b9, .int .i64 c0, .int .i64 c1, .int .i64 c2, .slice a0 a6 a3, .int .i64 a9, .int .i64 b0, .int .i64 b1, .int .i64 b2, .slice a1 a7 a4, .slice a2 a8 a5], false⟩])
abbrev yBA (c3 : OA) (c5 c4 bm0 : Nat) (b3 b4 b5 b6 b7 b8 b9 c0 c1 c2 : Int) (a0 : OA) (a6 a3 : Nat) (a9 b0 b1 b2 : Int) (a1 : OA) (a7 a4 : Nat) (a2 : OA) (a8 a5 : Nat) (I : Nat → Int → World → Prop) (m : Nat) : Kh := KG (yh4 c3 c5 c4 bm0 b3 b4 b5 b6 b7 b8 b9 c0 c1 c2 a0 a6 a3 a9 b0 b1 b2 a1 a7 a4 a2 a8 a5) (U1 I) m
theorem ymM {I : Nat → Int → World → Prop} (m' : Nat) (h1 : m' < m) (h2 : I m' j4 w) : KS (yBA q0 n0 n1 n2 i0 i1 i2 i3 i4 i5 i6 i7 i8 i9 q1 n3 n4 j0 j1 j2 j3 q2 n5 n6 q3 n7 n8 I m) (yh4 q0 n0 n1 n2 i0 i1 i2 i3 i4 i5 i6 i7 i8 i9 q1 n3 n4 j0 j1 j2 j3 q2 n5 n6 q3 n7 n8 j4) w := ⟨m', h1, _, rfl, rfl, h2⟩
theorem ymN {c5 : OA} {a0 : OA} {a1 : OA} {a2 : OA} (I : Nat → Int → World → Prop) (m0 : Nat) (h0 : I m0 j4 w0)
 (hr : ∀ m c4 w, I m c4 w →
 brB (decide (c4 < (n0 : Int))) (
 ixA c5 n0 c4 1 fun q9 =>
 yaI .i64 w q9 fun d6 =>
 Calls pP 36 #[.int .i64 d6] w fun e c8 => ∃ d1, e = .returned (.bool d1) ∧ yaE [n2] w c8 ∧
 brB (!d1) (
 R (.int .i64 1) c8)
 (
 KS (yBA c5 n0 n1 n2 i0 i1 i2 i3 i4 i5 i6 i7 i8 i9 a0 n3 n4 j0 j1 j2 j3 a1 n5 n6 a2 n7 n8 I m) (yh4 c5 n0 n1 n2 i0 i1 i2 i3 i4 i5 i6 i7 i8 i9 a0 n3 n4 j0 j1 j2 j3 a1 n5 n6 a2 n7 n8 (IntKind.wrap .i64 (c4 + 1))) c8))
 (
 Calls pP 32 #[.slice a0 n3 n4] w fun e c7 => ∃ d4 c9, e = .returned (.tuple #[.string d4, .int .i64 c9]) ∧ yaE [n2] w c7 ∧
 brB (c9 != 0) (
 R (.int .i64 c9) c7)
 (
 Calls pP 33 #[(.agg (Z3 j0 j1 j2 j3 a1 n5 n6 a2 n7 n8))] c7 fun e d2 => ∃ d5 d3, e = .returned (.tuple #[.string d5, .int .i64 d3]) ∧ yaE [n2] c7 d2 ∧
 R (.int .i64 d3) d2))) :
 yaK yoR (yEw 395 [0, 0, 1, 0, 1, 1, 1]) (yEx [1, 1, 1, 0, 1, 0] [] R) (yh4 c5 n0 n1 n2 i0 i1 i2 i3 i4 i5 i6 i7 i8 i9 a0 n3 n4 j0 j1 j2 j3 a1 n5 n6 a2 n7 n8 j4) w0 :=
 lrule (yh4 c5 n0 n1 n2 i0 i1 i2 i3 i4 i5 i6 i7 i8 i9 a0 n3 n4 j0 j1 j2 j3 a1 n5 n6 a2 n7 n8) (U1 I) h0 (by rintro m c4 w h; exact ⟨by kernel_rfl, by kernel_rfl, fun js => Eq.mpr (by kernel_rfl) (hr m c4 w h)⟩)
theorem yBB {a3 a2 : Nat} {a7 a5 : Nat} {b0 a9 : Nat} (h :
 ∀ b1, w.heap.size ≤ b1 →
 brB (decide (i0 < 0)) (
 ∀ w2, Adv [] [b1] w w2 →
 R (.int .i64 180) w2)
 (
 brB (decide (i0 > 11)) (
 ∀ w3, Adv [] [b1] w w3 →
 R (.int .i64 180) w3)
 (
 ∀ w4, Adv [] [b1] w w4 →
 Calls pP 30 #[(.agg (Z0 i0 i1 i2 i3 i4 i5 i6 i7 i8 i9 q0 a3 a2 j0 j1 j2 j3 q1 a7 a5 q2 b0 a9))] w4 fun e w5 => ∃ a6 n7 c8, e = .returned (.slice a6 n7 c8) ∧ yaE [b1] w4 w5 ∧
 yaK yoR (yEw 395 [0, 0, 1, 0, 1, 1, 1]) (yEx [1, 1, 1, 0, 1, 0] [] R) (yh4 a6 n7 c8 b1 i0 i1 i2 i3 i4 i5 i6 i7 i8 i9 q0 a3 a2 j0 j1 j2 j3 q1 a7 a5 q2 b0 a9 0) w5))) :
 CR pP 13 #[(.agg (Z0 i0 i1 i2 i3 i4 i5 i6 i7 i8 i9 q0 a3 a2 j0 j1 j2 j3 q1 a7 a5 q2 b0 a9))] w R :=
 yaA Tryz.wide_mixed (an := yoS) Tryz.func13 rfl rfl (by kernel_rfl) rfl (Eq.mpr (by kernel_rfl) h)
def yoT : LA := ⟨[0, 0, 1, 0, 1, 1, 1, 1], [1, 5, 6, 7], [(1, 0, 0)], 1, []⟩
def yoU : List LA := [yoT]
abbrev yEy := dnF pP yoU (code Tryz.f11)
abbrev yKQ := yaO pP yoU (code Tryz.f11)
abbrev yEz (p : List Nat) (K : List Kh) (R : VWP) := yaO pP yoU (code Tryz.f11) p K (ya4 pP Tryz.f11 [] R)
def yh5 (c3 : OA) (c5 c4 bm0 : Nat) (b3 b4 b5 b6 b7 b8 b9 c0 c1 c2 : Int) (a0 : OA) (a6 a3 : Nat) (a9 b0 b1 b2 : Int) (a1 : OA) (a7 a4 : Nat) (a2 : OA) (a8 a5 : Nat) : ByteArray × Int → List Value × List TB := fun (c6, c7) => ([(.pointer (some ⟨bm0, 0, none⟩)), .string c6, .slice c3 c5 c4, .int .i64 c7], [⟨bm0, 29, [.int .i64 b3, .int .i64 b4, .int .i64 b5, .int .i64 b6, .int .i64 b7, .int .i64 b8, .int .i64 b9, .int .i64 c0, .int .i64 c1, .int .i64 c2, .slice a0 a6 a3, .int .i64 a9, .int .i64 b0, .int .i64 b1, .int .i64 b2, .slice a1 a7 a4, .slice a2 a8 a5], false⟩])
abbrev yBC (c3 : OA) (c5 c4 bm0 : Nat) (b3 b4 b5 b6 b7 b8 b9 c0 c1 c2 : Int) (a0 : OA) (a6 a3 : Nat) (a9 b0 b1 b2 : Int) (a1 : OA) (a7 a4 : Nat) (a2 : OA) (a8 a5 : Nat) (I : Nat → ByteArray → Int → World → Prop) (m : Nat) : Kh := KG (yh5 c3 c5 c4 bm0 b3 b4 b5 b6 b7 b8 b9 c0 c1 c2 a0 a6 a3 a9 b0 b1 b2 a1 a7 a4 a2 a8 a5) (U2 I) m
theorem ymO {I : Nat → ByteArray → Int → World → Prop} (m' : Nat) (h1 : m' < m) (h2 : I m' s0 j4 w) : KS (yBC q0 n0 n1 n2 i0 i1 i2 i3 i4 i5 i6 i7 i8 i9 q1 n3 n4 j0 j1 j2 j3 q2 n5 n6 q3 n7 n8 I m) (yh5 q0 n0 n1 n2 i0 i1 i2 i3 i4 i5 i6 i7 i8 i9 q1 n3 n4 j0 j1 j2 j3 q2 n5 n6 q3 n7 n8 (s0, j4)) w := ⟨m', h1, _, rfl, rfl, h2⟩
theorem ymP {c5 : OA} {a0 : OA} {a1 : OA} {a2 : OA} (I : Nat → ByteArray → Int → World → Prop) (m0 : Nat) (h0 : I m0 s0 j4 w0)
 (hr : ∀ m c6 c4 w, I m c6 c4 w →
 brB (decide (c4 < (n0 : Int))) (
 ixA c5 n0 c4 1 fun q9 =>
 yaI .i64 w q9 fun e5 =>
 Calls pP 31 #[(.int .u64 (IntKind.wrap .u64 e5))] w fun e e1 => ∃ d4, e = .returned (.string d4) ∧ yaE [n2] w e1 ∧
 yeS c6 d4 fun e3 =>
 KS (yBC c5 n0 n1 n2 i0 i1 i2 i3 i4 i5 i6 i7 i8 i9 a0 n3 n4 j0 j1 j2 j3 a1 n5 n6 a2 n7 n8 I m) (yh5 c5 n0 n1 n2 i0 i1 i2 i3 i4 i5 i6 i7 i8 i9 a0 n3 n4 j0 j1 j2 j3 a1 n5 n6 a2 n7 n8 (e3, (IntKind.wrap .i64 (c4 + 1)))) e1)
 (
 Calls pP 32 #[.slice a0 n3 n4] w fun e d0 => ∃ d5 e6, e = .returned (.tuple #[.string d5, .int .i64 e6]) ∧ yaE [n2] w d0 ∧
 Calls pP 33 #[(.agg (Z3 j0 j1 j2 j3 a1 n5 n6 a2 n7 n8))] d0 fun e d1 => ∃ d6 e7, e = .returned (.tuple #[.string d6, .int .i64 e7]) ∧ yaE [n2] d0 d1 ∧
 Calls pP 34 #[.string d5] d1 fun e d2 => ∃ d7, e = .returned (.string d7) ∧ yaE [n2] d1 d2 ∧
 Calls pP 34 #[.string d6] d2 fun e c8 => ∃ d8, e = .returned (.string d8) ∧ yaE [n2] d2 c8 ∧
 yeS d7 d8 fun e4 =>
 yeS c6 e4 fun d9 =>
 brB (decide ((d9.size : Int) > 1048576)) (
 R (.tuple #[(.string (⟨#[]⟩ : BA)), .int .i64 2]) c8)
 (
 Calls pP 35 #[.string d9] c8 fun e e2 => ∃ e0, e = .returned (.string e0) ∧ yaE [n2] c8 e2 ∧
 R (.tuple #[.string e0, .int .i64 0]) e2))) :
 yaK yoT (yEy 394 [0, 0, 1, 0, 1, 1, 1, 1]) (yEz [1, 1, 1, 1, 0, 1, 0] [] R) (yh5 c5 n0 n1 n2 i0 i1 i2 i3 i4 i5 i6 i7 i8 i9 a0 n3 n4 j0 j1 j2 j3 a1 n5 n6 a2 n7 n8 (s0, j4)) w0 :=
 lrule (yh5 c5 n0 n1 n2 i0 i1 i2 i3 i4 i5 i6 i7 i8 i9 a0 n3 n4 j0 j1 j2 j3 a1 n5 n6 a2 n7 n8) (U2 I) h0 (by rintro m ⟨c6, c4⟩ w h; exact ⟨by kernel_rfl, by kernel_rfl, fun js => Eq.mpr (by kernel_rfl) (hr m c6 c4 w h)⟩)
theorem yBD {a2 a1 : Nat} {a5 a4 : Nat} {a9 a8 : Nat} (h :
 ∀ b1, w.heap.size ≤ b1 →
 ∀ w2, Adv [] [b1] w w2 →
 Calls pP 13 #[(.agg (Z0 i0 i1 i2 i3 i4 i5 i6 i7 i8 i9 q0 a2 a1 j0 j1 j2 j3 q1 a5 a4 q2 a9 a8))] w2 fun e w3 => ∃ x4, e = .returned (.int .i64 x4) ∧ yaE [b1] w2 w3 ∧
 brB (x4 != 0) (
 R (.tuple #[(.string (⟨#[]⟩ : BA)), .int .i64 x4]) w3)
 (
 Calls pP 30 #[(.agg (Z0 i0 i1 i2 i3 i4 i5 i6 i7 i8 i9 q0 a2 a1 j0 j1 j2 j3 q1 a5 a4 q2 a9 a8))] w3 fun e w5 => ∃ a6 n7 c8, e = .returned (.slice a6 n7 c8) ∧ yaE [b1] w3 w5 ∧
 yaK yoT (yEy 394 [0, 0, 1, 0, 1, 1, 1, 1]) (yEz [1, 1, 1, 1, 0, 1, 0] [] R) (yh5 a6 n7 c8 b1 i0 i1 i2 i3 i4 i5 i6 i7 i8 i9 q0 a2 a1 j0 j1 j2 j3 q1 a5 a4 q2 a9 a8 ((⟨#[]⟩ : BA), 0)) w5)) :
 CR pP 11 #[(.agg (Z0 i0 i1 i2 i3 i4 i5 i6 i7 i8 i9 q0 a2 a1 j0 j1 j2 j3 q1 a5 a4 q2 a9 a8))] w R :=
 yaA Tryz.wide_mixed (an := yoU) Tryz.func11 rfl rfl (by kernel_rfl) rfl (Eq.mpr (by kernel_rfl) h)
def yoV : LA := ⟨[0, 0, 1, 0, 1, 1, 1], [1, 5, 18, 19], [(1, 0, 0), (5, 1, 0)], 2, [0, 1]⟩
def yoW : List LA := [yoV]
abbrev yEA := dnF pP yoW (code Tryz.f10)
abbrev yKR := yaO pP yoW (code Tryz.f10)
abbrev yEB (p : List Nat) (K : List Kh) (R : VWP) := yaO pP yoW (code Tryz.f10) p K (ya4 pP Tryz.f10 [] R)
def yh6 (b6 b7 b8 b9 c0 c1 c2 c3 c4 c5 : OA) (bm0 bm1 : Nat) : Int × Int × Int × Int × Int × Int × Int × Int × Int × Int × Int × (Option Addr) × Nat × Nat × Int × Int × Int × Int × (Option Addr) × Nat × Nat × (Option Addr) × Nat × Nat × (Option Addr) × (Option Addr) × Nat × Nat → List Value × List TB := fun (d7, c7, c8, c9, d0, d1, d2, d3, d4, d5, d6, a0, a6, a3, a9, b0, b1, b2, a1, a7, a4, a2, a8, a5, c6, b3, b5, b4) => ([(.pointer (some ⟨bm0, 0, none⟩)), (.pointer (some ⟨bm1, 0, none⟩)), (.agg (Z4 b6 b7 b8 b9 c0 c1 c2 c3 c4 c5)), .int .i64 d7], [⟨bm0, 29, [.int .i64 c7, .int .i64 c8, .int .i64 c9, .int .i64 d0, .int .i64 d1, .int .i64 d2, .int .i64 d3, .int .i64 d4, .int .i64 d5, .int .i64 d6, .slice a0 a6 a3, .int .i64 a9, .int .i64 b0, .int .i64 b1, .int .i64 b2, .slice a1 a7 a4, .slice a2 a8 a5], true⟩, ⟨bm1, 61, [.pointer c6, .slice b3 b5 b4], true⟩])
abbrev yBE (a0 a1 a2 a3 a4 a5 a6 a7 a8 a9 : OA) (bm0 bm1 : Nat) (I : Nat → Int → Int → Int → Int → Int → Int → Int → Int → Int → Int → Int → Option Addr → Nat → Nat → Int → Int → Int → Int → Option Addr → Nat → Nat → Option Addr → Nat → Nat → Option Addr → Option Addr → Nat → Nat → World → Prop) (m : Nat) : Kh := KG (yh6 a0 a1 a2 a3 a4 a5 a6 a7 a8 a9 bm0 bm1) (U28 I) m
theorem ywY {I : Nat → Int → Int → Int → Int → Int → Int → Int → Int → Int → Int → Int → Option Addr → Nat → Nat → Int → Int → Int → Int → Option Addr → Nat → Nat → Option Addr → Nat → Nat → Option Addr → Option Addr → Nat → Nat → World → Prop} (m' : Nat) (h1 : m' < m) (h2 : I m' i0 i1 i2 i3 i4 i5 i6 i7 i8 i9 j0 r0 n2 n3 j1 j2 j3 j4 r1 n4 n5 r2 n6 n7 r3 r4 n8 n9 w) : KS (yBE q0 q1 q2 q3 q4 q5 q6 q7 q8 q9 n0 n1 I m) (yh6 q0 q1 q2 q3 q4 q5 q6 q7 q8 q9 n0 n1 (i0, i1, i2, i3, i4, i5, i6, i7, i8, i9, j0, r0, n2, n3, j1, j2, j3, j4, r1, n4, n5, r2, n6, n7, r3, r4, n8, n9)) w := ⟨m', h1, _, rfl, rfl, h2⟩
theorem ywZ (I : Nat → Int → Int → Int → Int → Int → Int → Int → Int → Int → Int → Int → Option Addr → Nat → Nat → Int → Int → Int → Int → Option Addr → Nat → Nat → Option Addr → Nat → Nat → Option Addr → Option Addr → Nat → Nat → World → Prop) (m0 : Nat) (h0 : I m0 i0 i1 i2 i3 i4 i5 i6 i7 i8 i9 j0 r0 n2 n3 j1 j2 j3 j4 r1 n4 n5 r2 n6 n7 r3 r4 n8 n9 w0)
 (hr : ∀ m d7 c7 c8 c9 d0 d1 d2 d3 d4 d5 d6 a0 a2 a1 b9 c0 c1 c2 b3 b7 b5 b4 b8 b6 c6 c3 c5 c4 w, I m d7 c7 c8 c9 d0 d1 d2 d3 d4 d5 d6 a0 a2 a1 b9 c0 c1 c2 b3 b7 b5 b4 b8 b6 c6 c3 c5 c4 w →
 w.heap[n0]? = some (.cells (Z0 c7 c8 c9 d0 d1 d2 d3 d4 d5 d6 a0 a2 a1 b9 c0 c1 c2 b3 b7 b5 b4 b8 b6) 29) →
 w.heap[n1]? = some (.cells #[.pointer c6, .slice c3 c5 c4] 61) →
 brB (decide (d7 < 10)) (
 ∃ w6, (∀ w' : World, (Instr.index 63 (.agg (Z4 q0 q1 q2 q3 q4 q5 q6 q7 q8 q9)) (.int .i64 d7)).run pP w' = .ok (.pointer w6) w') ∧
 ymV w6 fun ge =>
 yaI .i64 w ge fun gg =>
 Calls pP 24 #[(.int .u64 (IntKind.wrap .u64 gg))] w fun e v0 => ∃ w8, e = .returned (.string w8) ∧ ∃ gh gi gj gk gl gm gn go gp gq fr fz fv gr gs gt gu fs ga fw ft gb fx, v0.heap[n0]? = some (.cells (Z0 gh gi gj gk gl gm gn go gp gq fr fz fv gr gs gt gu fs ga fw ft gb fx) 29) ∧ ∃ gd fu gc fy, v0.heap[n1]? = some (.cells #[.pointer gd, .slice fu gc fy] 61) ∧
 Calls pP 23 #[(.pointer (some ⟨n1, 0, none⟩)), .string w8] v0 fun e v1 => ∃ gv gf, e = .returned (.tuple #[.int .i64 gv, gf]) ∧ ∃ w9 x0 x1 x2 x3 x4 x5 x6 x7 x8 v6 w3 v9 x9 y0 y1 y2 v7 w4 w1 v8 w5 w2, v1.heap[n0]? = some (.cells (Z0 w9 x0 x1 x2 x3 x4 x5 x6 x7 x8 v6 w3 v9 x9 y0 y1 y2 v7 w4 w1 v8 w5 w2) 29) ∧ ∃ w7 h3 h9 h6, v1.heap[n1]? = some (.cells #[.pointer w7, .slice h3 h9 h6] 61) ∧
 KS (yBE q0 q1 q2 q3 q4 q5 q6 q7 q8 q9 n0 n1 I m) (yh6 q0 q1 q2 q3 q4 q5 q6 q7 q8 q9 n0 n1 ((IntKind.wrap .i64 (d7 + 1)), w9, x0, x1, x2, x3, x4, x5, x6, x7, x8, v6, w3, v9, x9, y0, y1, y2, v7, w4, w1, v8, w5, w2, w7, h3, h9, h6)) v1)
 (
 Calls pP 25 #[.slice a0 a2 a1] w fun e g6 => ∃ u2 ck, e = .returned (.tuple #[.string u2, .int .i64 ck]) ∧ ∃ cl cm cn co cp cq cr cs ct cu y3 be af v2 v3 v4 v5 h4 u0 h7 h5 u1 h8, g6.heap[n0]? = some (.cells (Z0 cl cm cn co cp cq cr cs ct cu y3 be af v2 v3 v4 v5 h4 u0 h7 h5 u1 h8) 29) ∧ ∃ cc y4 bf ag, g6.heap[n1]? = some (.cells #[.pointer cc, .slice y4 bf ag] 61) ∧
 Calls pP 26 #[(.agg (Z3 v2 v3 v4 v5 h4 u0 h7 h5 u1 h8))] g6 fun e g7 => ∃ u3 cv, e = .returned (.tuple #[.string u3, .int .i64 cv]) ∧ ∃ cw cx cy cz da db dc dd de df y5 bg ah dg dh di dj y6 bh ai y7 bi aj, g7.heap[n0]? = some (.cells (Z0 cw cx cy cz da db dc dd de df y5 bg ah dg dh di dj y6 bh ai y7 bi aj) 29) ∧ ∃ cd y8 bj ak, g7.heap[n1]? = some (.cells #[.pointer cd, .slice y8 bj ak] 61) ∧
 Calls pP 27 #[(.pointer (some ⟨n1, 0, none⟩))] g7 fun e g8 => ∃ u4, e = .returned (.string u4) ∧ ∃ dk dl dm dn dp dq dr ds dt du y9 bk am dv dw dx dy z0 bl an z1 bm ao, g8.heap[n0]? = some (.cells (Z0 dk dl dm dn dp dq dr ds dt du y9 bk am dv dw dx dy z0 bl an z1 bm ao) 29) ∧ ∃ ce z2 bn ap, g8.heap[n1]? = some (.cells #[.pointer ce, .slice z2 bn ap] 61) ∧
 Calls pP 28 #[.string u2] g8 fun e g9 => ∃ u5, e = .returned (.string u5) ∧ ∃ dz ea eb ec ed ee ef eg eh ei z3 bo aq ej ek el em z4 bp ar z5 bq au, g9.heap[n0]? = some (.cells (Z0 dz ea eb ec ed ee ef eg eh ei z3 bo aq ej ek el em z4 bp ar z5 bq au) 29) ∧ ∃ cf z6 br av, g9.heap[n1]? = some (.cells #[.pointer cf, .slice z6 br av] 61) ∧
 yeS u4 u5 fun cj =>
 Calls pP 28 #[.string u3] g9 fun e g5 => ∃ u6, e = .returned (.string u6) ∧ ∃ en eo ep eq er et eu ew ex ey z7 bt aw ez fa fb fc z8 bu ax z9 bv ay, g5.heap[n0]? = some (.cells (Z0 en eo ep eq er et eu ew ex ey z7 bt aw ez fa fb fc z8 bu ax z9 bv ay) 29) ∧ ∃ ch aa bw az, g5.heap[n1]? = some (.cells #[.pointer ch, .slice aa bw az] 61) ∧
 yeS cj u6 fun u7 =>
 brB (decide ((u7.size : Int) > 1048576)) (
 R (.tuple #[(.string (⟨#[]⟩ : BA)), .int .i64 2]) g5)
 (
 Calls pP 29 #[.string u7] g5 fun e h1 => ∃ u9, e = .returned (.string u9) ∧ ∃ fd fe ff fg fh fi fj fk fl fm ab bx ba fn fo fp fq ac bz bb ad ca bc, h1.heap[n0]? = some (.cells (Z0 fd fe ff fg fh fi fj fk fl fm ab bx ba fn fo fp fq ac bz bb ad ca bc) 29) ∧ ∃ ci ae cb bd, h1.heap[n1]? = some (.cells #[.pointer ci, .slice ae cb bd] 61) ∧
 R (.tuple #[.string u9, .int .i64 0]) h1))) :
 yaK yoV (yEA 395 [0, 0, 1, 0, 1, 1, 1]) (yEB [1, 1, 1, 0, 1, 0] [] R) (yh6 q0 q1 q2 q3 q4 q5 q6 q7 q8 q9 n0 n1 (i0, i1, i2, i3, i4, i5, i6, i7, i8, i9, j0, r0, n2, n3, j1, j2, j3, j4, r1, n4, n5, r2, n6, n7, r3, r4, n8, n9)) w0 :=
 lrule (yh6 q0 q1 q2 q3 q4 q5 q6 q7 q8 q9 n0 n1) (U28 I) h0 (by rintro m ⟨d7, c7, c8, c9, d0, d1, d2, d3, d4, d5, d6, a0, a2, a1, b9, c0, c1, c2, b3, b7, b5, b4, b8, b6, c6, c3, c5, c4⟩ w h; exact ⟨by kernel_rfl, by kernel_rfl, fun js => Eq.mpr (by kernel_rfl) (hr m d7 c7 c8 c9 d0 d1 d2 d3 d4 d5 d6 a0 a2 a1 b9 c0 c1 c2 b3 b7 b5 b4 b8 b6 c6 c3 c5 c4 w h)⟩)
theorem yF7 {a2 a1 : Nat} {a5 a4 : Nat} {a8 a7 : Nat} (h :
 ∀ b1, w.heap.size ≤ b1 →
 ∀ w2, Adv [] [b1] w w2 →
 Calls pP 12 #[(.agg (Z0 i0 i1 i2 i3 i4 i5 i6 i7 i8 i9 q0 a2 a1 j0 j1 j2 j3 q1 a5 a4 q2 a8 a7))] w2 fun e w3 => ∃ x4, e = .returned (.int .i64 x4) ∧ yaE [b1] w2 w3 ∧
 brB (x4 != 0) (
 R (.tuple #[(.string (⟨#[]⟩ : BA)), .int .i64 x4]) w3)
 (
 ∀ b5, w3.heap.size ≤ b5 →
 ∀ w6, Adv [] [b5] w3 w6 → w6.heap[b1]? = some (.cells (Z0 i0 i1 i2 i3 i4 i5 i6 i7 i8 i9 q0 a2 a1 j0 j1 j2 j3 q1 a5 a4 q2 a8 a7) 29) →
 Calls pP 22 #[(.pointer (some ⟨b1, 0, none⟩))] w6 fun e w7 => ∃ p8 p9 e9 f0 f1 f2 f3 f4 f5 f6, e = .returned (.agg (Z4 p8 p9 e9 f0 f1 f2 f3 f4 f5 f6)) ∧ ya2 [b1] [(b5, 61)] [b5] w6 w7 ∧ ∃ d5 d6 d7 d8 d9 e0 e1 e2 e3 e4 c6 d2 c9 e5 e6 e7 e8 c7 d3 d0 c8 d4 d1, w7.heap[b1]? = some (.cells (Z0 d5 d6 d7 d8 d9 e0 e1 e2 e3 e4 c6 d2 c9 e5 e6 e7 e8 c7 d3 d0 c8 d4 d1) 29) ∧
 ∀ c5, Adv [] [] w7 c5 → c5.heap[b1]? = some (.cells (Z0 d5 d6 d7 d8 d9 e0 e1 e2 e3 e4 c6 d2 c9 e5 e6 e7 e8 c7 d3 d0 c8 d4 d1) 29) →
 c5.heap[b5]? = some (.cells #[.pointer none, .slice none 0 0] 61) →
 yaK yoV (yEA 395 [0, 0, 1, 0, 1, 1, 1]) (yEB [1, 1, 1, 0, 1, 0] [] R) (yh6 p8 p9 e9 f0 f1 f2 f3 f4 f5 f6 b1 b5 (0, d5, d6, d7, d8, d9, e0, e1, e2, e3, e4, c6, d2, c9, e5, e6, e7, e8, c7, d3, d0, c8, d4, d1, none, none, 0, 0)) c5)) :
 CR pP 10 #[(.agg (Z0 i0 i1 i2 i3 i4 i5 i6 i7 i8 i9 q0 a2 a1 j0 j1 j2 j3 q1 a5 a4 q2 a8 a7))] w R :=
 yaA Tryz.wide_mixed (an := yoW) Tryz.func10 rfl rfl (by kernel_rfl) rfl (Eq.mpr (by kernel_rfl) h)
def yoX : LA := ⟨[0, 0, 1, 0, 1, 1], [2, 3, 5, 6, 10], [(2, 0, 0), (3, 1, 0), (5, 2, 0), (6, 3, 0)], 4, [0, 1, 2, 3]⟩
def yoY : List LA := [yoX]
abbrev yEC := dnF pP yoY (code Tryz.f14)
abbrev yKS := yaO pP yoY (code Tryz.f14)
abbrev yED (p : List Nat) (K : List Kh) (R : VWP) := yaO pP yoY (code Tryz.f14) p K (ya4 pP Tryz.f14 [] R)
def yh7 (bm0 : Nat) (e6 e7 e8 e9 f0 f1 f2 f3 f4 f5 : Int) (a0 : OA) (b2 a6 : Nat) (b8 b9 c0 c1 : Int) (a1 : OA) (b3 a7 : Nat) (a2 : OA) (b4 a8 bm1 : Nat) (f6 f7 f8 f9 g0 g1 g2 g3 g4 g5 : Int) (a3 : OA) (b5 a9 : Nat) (c2 c3 c4 c5 : Int) (a4 : OA) (b6 b0 : Nat) (a5 : OA) (b7 b1 bm2 : Nat) (c6 c7 c8 c9 d0 d1 d2 d3 d4 d5 : OA) (bm3 : Nat) (d6 d7 d8 d9 e0 e1 e2 e3 e4 e5 : OA) : Int → List Value × List TB := fun g6 => ([(.pointer (some ⟨bm0, 0, none⟩)), (.pointer (some ⟨bm1, 0, none⟩)), (.pointer (some ⟨bm2, 0, none⟩)), (.pointer (some ⟨bm3, 0, none⟩)), .int .i64 g6], [⟨bm0, 29, [.int .i64 e6, .int .i64 e7, .int .i64 e8, .int .i64 e9, .int .i64 f0, .int .i64 f1, .int .i64 f2, .int .i64 f3, .int .i64 f4, .int .i64 f5, .slice a0 b2 a6, .int .i64 b8, .int .i64 b9, .int .i64 c0, .int .i64 c1, .slice a1 b3 a7, .slice a2 b4 a8], true⟩, ⟨bm1, 29, [.int .i64 f6, .int .i64 f7, .int .i64 f8, .int .i64 f9, .int .i64 g0, .int .i64 g1, .int .i64 g2, .int .i64 g3, .int .i64 g4, .int .i64 g5, .slice a3 b5 a9, .int .i64 c2, .int .i64 c3, .int .i64 c4, .int .i64 c5, .slice a4 b6 b0, .slice a5 b7 b1], true⟩, ⟨bm2, 63, [.pointer c6, .pointer c7, .pointer c8, .pointer c9, .pointer d0, .pointer d1, .pointer d2, .pointer d3, .pointer d4, .pointer d5], true⟩, ⟨bm3, 63, [.pointer d6, .pointer d7, .pointer d8, .pointer d9, .pointer e0, .pointer e1, .pointer e2, .pointer e3, .pointer e4, .pointer e5], true⟩])
abbrev yBF (bm0 : Nat) (e6 e7 e8 e9 f0 f1 f2 f3 f4 f5 : Int) (a0 : OA) (b2 a6 : Nat) (b8 b9 c0 c1 : Int) (a1 : OA) (b3 a7 : Nat) (a2 : OA) (b4 a8 bm1 : Nat) (f6 f7 f8 f9 g0 g1 g2 g3 g4 g5 : Int) (a3 : OA) (b5 a9 : Nat) (c2 c3 c4 c5 : Int) (a4 : OA) (b6 b0 : Nat) (a5 : OA) (b7 b1 bm2 : Nat) (c6 c7 c8 c9 d0 d1 d2 d3 d4 d5 : OA) (bm3 : Nat) (d6 d7 d8 d9 e0 e1 e2 e3 e4 e5 : OA) (I : Nat → Int → World → Prop) (m : Nat) : Kh := KG (yh7 bm0 e6 e7 e8 e9 f0 f1 f2 f3 f4 f5 a0 b2 a6 b8 b9 c0 c1 a1 b3 a7 a2 b4 a8 bm1 f6 f7 f8 f9 g0 g1 g2 g3 g4 g5 a3 b5 a9 c2 c3 c4 c5 a4 b6 b0 a5 b7 b1 bm2 c6 c7 c8 c9 d0 d1 d2 d3 d4 d5 bm3 d6 d7 d8 d9 e0 e1 e2 e3 e4 e5) (U1 I) m
theorem yw0 {d6 d7 d8 d9 e0 e1 e2 e3 e4 e5 : OA} {I : Nat → Int → World → Prop} (m' : Nat) (h1 : m' < m) (h2 : I m' k8 w) : KS (yBF n0 i0 i1 i2 i3 i4 i5 i6 i7 i8 i9 q0 n1 n2 j0 j1 j2 j3 q1 n3 n4 q2 n5 n6 n7 j4 j5 j6 j7 j8 j9 k0 k1 k2 k3 q3 n8 n9 k4 k5 k6 k7 q4 o0 o1 q5 o2 o3 o4 q6 q7 q8 q9 r0 r1 r2 r3 r4 r5 o5 d6 d7 d8 d9 e0 e1 e2 e3 e4 e5 I m) (yh7 n0 i0 i1 i2 i3 i4 i5 i6 i7 i8 i9 q0 n1 n2 j0 j1 j2 j3 q1 n3 n4 q2 n5 n6 n7 j4 j5 j6 j7 j8 j9 k0 k1 k2 k3 q3 n8 n9 k4 k5 k6 k7 q4 o0 o1 q5 o2 o3 o4 q6 q7 q8 q9 r0 r1 r2 r3 r4 r5 o5 d6 d7 d8 d9 e0 e1 e2 e3 e4 e5 k8) w := ⟨m', h1, _, rfl, rfl, h2⟩
theorem yw1 {d6 d7 d8 d9 e0 e1 e2 e3 e4 e5 : OA} (I : Nat → Int → World → Prop) (m0 : Nat) (h0 : I m0 k8 w0)
 (hr : ∀ m e6 w, I m e6 w →
 w.heap[n0]? = some (.cells (Z0 i0 i1 i2 i3 i4 i5 i6 i7 i8 i9 q0 n1 n2 j0 j1 j2 j3 q1 n3 n4 q2 n5 n6) 29) →
 w.heap[n7]? = some (.cells (Z0 j4 j5 j6 j7 j8 j9 k0 k1 k2 k3 q3 n8 n9 k4 k5 k6 k7 q4 o0 o1 q5 o2 o3) 29) →
 w.heap[o4]? = some (.cells (Z4 q6 q7 q8 q9 r0 r1 r2 r3 r4 r5) 63) →
 w.heap[o5]? = some (.cells (Z4 d6 d7 d8 d9 e0 e1 e2 e3 e4 e5) 63) →
 brB (decide (e6 < 10)) (0 ≤ e6 ∧ e6 < ((10 : Nat) : Int) ∧
 ypC w (Addr.add ⟨o4, 0, none⟩ (Int.toNat e6 * 1)) fun db =>
 ymV db fun dc =>
 yaI .i64 w dc fun ba => 0 ≤ e6 ∧ e6 < ((10 : Nat) : Int) ∧
 ypC w (Addr.add ⟨o5, 0, none⟩ (Int.toNat e6 * 1)) fun y1 =>
 ymV y1 fun az =>
 yaI .i64 w az fun bb =>
 brB (ba != bb) (
 ∀ g7, Adv [] [] w g7 → g7.heap[n0]? = some (.cells (Z0 i0 i1 i2 i3 i4 i5 i6 i7 i8 i9 q0 n1 n2 j0 j1 j2 j3 q1 n3 n4 q2 n5 n6) 29) →
 g7.heap[n7]? = some (.cells (Z0 j4 j5 j6 j7 j8 j9 k0 k1 k2 k3 q3 n8 n9 k4 k5 k6 k7 q4 o0 o1 q5 o2 o3) 29) →
 g7.heap[o4]? = some (.cells (Z4 q6 q7 q8 q9 r0 r1 r2 r3 r4 r5) 63) →
 g7.heap[o5]? = some (.cells (Z4 d6 d7 d8 d9 e0 e1 e2 e3 e4 e5) 63) →
 R (.bool false) g7)
 (
 ∀ g8, Adv [] [] w g8 → g8.heap[n0]? = some (.cells (Z0 i0 i1 i2 i3 i4 i5 i6 i7 i8 i9 q0 n1 n2 j0 j1 j2 j3 q1 n3 n4 q2 n5 n6) 29) →
 g8.heap[n7]? = some (.cells (Z0 j4 j5 j6 j7 j8 j9 k0 k1 k2 k3 q3 n8 n9 k4 k5 k6 k7 q4 o0 o1 q5 o2 o3) 29) →
 g8.heap[o4]? = some (.cells (Z4 q6 q7 q8 q9 r0 r1 r2 r3 r4 r5) 63) →
 g8.heap[o5]? = some (.cells (Z4 d6 d7 d8 d9 e0 e1 e2 e3 e4 e5) 63) →
 KS (yBF n0 i0 i1 i2 i3 i4 i5 i6 i7 i8 i9 q0 n1 n2 j0 j1 j2 j3 q1 n3 n4 q2 n5 n6 n7 j4 j5 j6 j7 j8 j9 k0 k1 k2 k3 q3 n8 n9 k4 k5 k6 k7 q4 o0 o1 q5 o2 o3 o4 q6 q7 q8 q9 r0 r1 r2 r3 r4 r5 o5 d6 d7 d8 d9 e0 e1 e2 e3 e4 e5 I m) (yh7 n0 i0 i1 i2 i3 i4 i5 i6 i7 i8 i9 q0 n1 n2 j0 j1 j2 j3 q1 n3 n4 q2 n5 n6 n7 j4 j5 j6 j7 j8 j9 k0 k1 k2 k3 q3 n8 n9 k4 k5 k6 k7 q4 o0 o1 q5 o2 o3 o4 q6 q7 q8 q9 r0 r1 r2 r3 r4 r5 o5 d6 d7 d8 d9 e0 e1 e2 e3 e4 e5 (IntKind.wrap .i64 (e6 + 1))) g8))
 (
 Calls pP 37 #[.slice q0 n1 n2, .slice q3 n8 n9] w fun e g9 => ∃ u5, e = .returned (.bool u5) ∧ ∃ bc bd be bf bg bh bi bj bk bl v6 x3 w5 u7 u9 v0 v1 h3 u1 h7 h4 u2 h8, g9.heap[n0]? = some (.cells (Z0 bc bd be bf bg bh bi bj bk bl v6 x3 w5 u7 u9 v0 v1 h3 u1 h7 h4 u2 h8) 29) ∧ ∃ bm bn bo bp bq br bt bu bv bw v7 x4 w6 v2 v3 v4 v5 h5 u3 h9 h6 u4 u0, g9.heap[n7]? = some (.cells (Z0 bm bn bo bp bq br bt bu bv bw v7 x4 w6 v2 v3 v4 v5 h5 u3 h9 h6 u4 u0) 29) ∧ ∃ y2 y3 y4 y5 y6 y7 y8 y9 z0 z1, g9.heap[o4]? = some (.cells (Z4 y2 y3 y4 y5 y6 y7 y8 y9 z0 z1) 63) ∧ ∃ z2 z3 z4 z5 z6 z7 z8 z9 aa ab, g9.heap[o5]? = some (.cells (Z4 z2 z3 z4 z5 z6 z7 z8 z9 aa ab) 63) ∧
 brB u5 (
 Calls pP 38 #[(.agg (Z3 u7 u9 v0 v1 h3 u1 h7 h4 u2 h8)), (.agg (Z3 v2 v3 v4 v5 h5 u3 h9 h6 u4 u0))] g9 fun e h1 => ∃ u6, e = .returned (.bool u6) ∧ ∃ bx bz ca cb cc cd ce cf ch ci v8 x5 w7 cj ck cl cm v9 x6 w8 w1 x7 w9, h1.heap[n0]? = some (.cells (Z0 bx bz ca cb cc cd ce cf ch ci v8 x5 w7 cj ck cl cm v9 x6 w8 w1 x7 w9) 29) ∧ ∃ cn co cp cq cr cs ct cu cv cw w2 x8 x0 cx cy cz da w3 x9 x1 w4 y0 x2, h1.heap[n7]? = some (.cells (Z0 cn co cp cq cr cs ct cu cv cw w2 x8 x0 cx cy cz da w3 x9 x1 w4 y0 x2) 29) ∧ ∃ ac ad ae af ag ah ai aj ak am, h1.heap[o4]? = some (.cells (Z4 ac ad ae af ag ah ai aj ak am) 63) ∧ ∃ an ao ap aq ar au av aw ax ay, h1.heap[o5]? = some (.cells (Z4 an ao ap aq ar au av aw ax ay) 63) ∧
 R (.bool u6) h1)
 (
 R (.bool false) g9))) :
 yaK yoX (yEC 396 [0, 0, 1, 0, 1, 1]) (yED [1, 1, 0, 1, 0] [] R) (yh7 n0 i0 i1 i2 i3 i4 i5 i6 i7 i8 i9 q0 n1 n2 j0 j1 j2 j3 q1 n3 n4 q2 n5 n6 n7 j4 j5 j6 j7 j8 j9 k0 k1 k2 k3 q3 n8 n9 k4 k5 k6 k7 q4 o0 o1 q5 o2 o3 o4 q6 q7 q8 q9 r0 r1 r2 r3 r4 r5 o5 d6 d7 d8 d9 e0 e1 e2 e3 e4 e5 k8) w0 :=
 lrule (yh7 n0 i0 i1 i2 i3 i4 i5 i6 i7 i8 i9 q0 n1 n2 j0 j1 j2 j3 q1 n3 n4 q2 n5 n6 n7 j4 j5 j6 j7 j8 j9 k0 k1 k2 k3 q3 n8 n9 k4 k5 k6 k7 q4 o0 o1 q5 o2 o3 o4 q6 q7 q8 q9 r0 r1 r2 r3 r4 r5 o5 d6 d7 d8 d9 e0 e1 e2 e3 e4 e5) (U1 I) h0 (by rintro m e6 w h; exact ⟨by kernel_rfl, by kernel_rfl, fun js => Eq.mpr (by kernel_rfl) (hr m e6 w h)⟩)
theorem yF8 {a3 a2 : Nat} {a6 a5 : Nat} {a9 a8 : Nat} {b4 b3 : Nat} {b7 b6 : Nat} {c0 b9 : Nat} (h :
 ∀ b1, w.heap.size ≤ b1 →
 ∀ b2, w.heap.size ≤ b2 →
 ∀ w3, Adv [] [b2, b1] w w3 → w3.heap[b1]? = some (.cells (Z0 i0 i1 i2 i3 i4 i5 i6 i7 i8 i9 q0 a3 a2 j0 j1 j2 j3 q1 a6 a5 q2 a9 a8) 29) →
 Calls pP 22 #[(.pointer (some ⟨b1, 0, none⟩))] w3 fun e w4 => ∃ p5 p6 p7 p8 p9 h1 h2 h3 h4 h5, e = .returned (.agg (Z4 p5 p6 p7 p8 p9 h1 h2 h3 h4 h5)) ∧ ya2 [b1] [(b2, 29)] [b2] w3 w4 ∧ ∃ y6 y7 y8 y9 z0 z1 z2 z3 z4 z5 x7 y3 y0 z6 z7 z8 z9 x8 y4 y1 x9 y5 y2, w4.heap[b1]? = some (.cells (Z0 y6 y7 y8 y9 z0 z1 z2 z3 z4 z5 x7 y3 y0 z6 z7 z8 z9 x8 y4 y1 x9 y5 y2) 29) ∧
 ∀ f2, Adv [] [] w4 f2 → f2.heap[b1]? = some (.cells (Z0 y6 y7 y8 y9 z0 z1 z2 z3 z4 z5 x7 y3 y0 z6 z7 z8 z9 x8 y4 y1 x9 y5 y2) 29) →
 f2.heap[b2]? = some (.cells (Z0 j4 j5 j6 j7 j8 j9 k0 k1 k2 k3 q3 b4 b3 k4 k5 k6 k7 q4 b7 b6 q5 c0 b9) 29) →
 Calls pP 22 #[(.pointer (some ⟨b2, 0, none⟩))] f2 fun e e9 => ∃ h6 h7 h8 h9 u0 u1 u2 u3 u4 u5, e = .returned (.agg (Z4 h6 h7 h8 h9 u0 u1 u2 u3 u4 u5)) ∧ ∃ u6 u7 u9 v0 v1 v2 v3 v4 v5 v6 f3 g5 f9 v7 v8 v9 w0 f4 g6 g0 f5 g7 g1, e9.heap[b1]? = some (.cells (Z0 u6 u7 u9 v0 v1 v2 v3 v4 v5 v6 f3 g5 f9 v7 v8 v9 w0 f4 g6 g0 f5 g7 g1) 29) ∧ ∃ w1 w2 w5 w6 w7 w8 w9 x0 x1 x2 f6 g8 g2 x3 x4 x5 x6 f7 g9 g3 f8 h0 g4, e9.heap[b2]? = some (.cells (Z0 w1 w2 w5 w6 w7 w8 w9 x0 x1 x2 f6 g8 g2 x3 x4 x5 x6 f7 g9 g3 f8 h0 g4) 29) ∧
 ∀ f0, e9.heap.size ≤ f0 →
 ∀ f1, e9.heap.size ≤ f1 →
 ∀ a0, Adv [] [f1, f0] e9 a0 → a0.heap[b1]? = some (.cells (Z0 u6 u7 u9 v0 v1 v2 v3 v4 v5 v6 f3 g5 f9 v7 v8 v9 w0 f4 g6 g0 f5 g7 g1) 29) →
 a0.heap[b2]? = some (.cells (Z0 w1 w2 w5 w6 w7 w8 w9 x0 x1 x2 f6 g8 g2 x3 x4 x5 x6 f7 g9 g3 f8 h0 g4) 29) →
 a0.heap[f0]? = some (.cells (Z4 p5 p6 p7 p8 p9 h1 h2 h3 h4 h5) 63) →
 a0.heap[f1]? = some (.cells (Z4 h6 h7 h8 h9 u0 u1 u2 u3 u4 u5) 63) →
 yaK yoX (yEC 396 [0, 0, 1, 0, 1, 1]) (yED [1, 1, 0, 1, 0] [] R) (yh7 b1 u6 u7 u9 v0 v1 v2 v3 v4 v5 v6 f3 g5 f9 v7 v8 v9 w0 f4 g6 g0 f5 g7 g1 b2 w1 w2 w5 w6 w7 w8 w9 x0 x1 x2 f6 g8 g2 x3 x4 x5 x6 f7 g9 g3 f8 h0 g4 f0 p5 p6 p7 p8 p9 h1 h2 h3 h4 h5 f1 h6 h7 h8 h9 u0 u1 u2 u3 u4 u5 0) a0) :
 CR pP 14 #[(.agg (Z0 i0 i1 i2 i3 i4 i5 i6 i7 i8 i9 q0 a3 a2 j0 j1 j2 j3 q1 a6 a5 q2 a9 a8)), (.agg (Z0 j4 j5 j6 j7 j8 j9 k0 k1 k2 k3 q3 b4 b3 k4 k5 k6 k7 q4 b7 b6 q5 c0 b9))] w R :=
 yaA Tryz.wide_mixed (an := yoY) Tryz.func14 rfl rfl (by kernel_rfl) rfl (Eq.mpr (by kernel_rfl) h)
theorem yF9 {a2 a1 : Nat} {a5 a4 : Nat} {a9 a8 : Nat} (h :
 ∀ b1, w.heap.size ≤ b1 →
 ∀ b2, w.heap.size ≤ b2 →
 ∀ b3, w.heap.size ≤ b3 →
 ∀ w4, Adv [] [b3, b2, b1] w w4 →
 Calls pP 20 #[.slice q0 a2 a1] w4 fun e w5 => ∃ a6 n7 c8, e = .returned (.slice a6 n7 c8) ∧ yaE [b1, b2, b3] w4 w5 ∧
 ∀ w9, Adv [b3] [] w5 w9 →
 Calls pP 21 #[(.agg (Z3 j0 j1 j2 j3 q1 a5 a4 q2 a9 a8))] w9 fun e d4 => ∃ d6 d7 d8 d9 c7 d2 d0 c9 d3 d1, e = .returned (.agg (Z3 d6 d7 d8 d9 c7 d2 d0 c9 d3 d1)) ∧ yaE [b1, b2, b3] w9 d4 ∧
 ∀ d5, Adv [b2, b3] [] d4 d5 →
 R (.agg (Z0 i0 i1 i2 i3 i4 i5 i6 i7 i8 i9 a6 n7 c8 d6 d7 d8 d9 c7 d2 d0 c9 d3 d1)) d5) :
 CR pP 9 #[(.agg (Z0 i0 i1 i2 i3 i4 i5 i6 i7 i8 i9 q0 a2 a1 j0 j1 j2 j3 q1 a5 a4 q2 a9 a8))] w R :=
 yaA Tryz.wide_mixed (an := []) Tryz.func9 rfl rfl (by kernel_rfl) rfl (Eq.mpr (by kernel_rfl) h)
theorem yGa (h :
 ∀ b1, w.heap.size ≤ b1 →
 ∀ w2, Adv [] [b1] w w2 →
 Calls pP 10 #[(.agg (Z0 4 0 1 2 0 0 5 0 0 0 none 0 0 0 0 0 0 none 0 0 none 0 0))] w2 fun e w3 => ∃ s4 x5, e = .returned (.tuple #[.string s4, .int .i64 x5]) ∧ yaE [b1] w2 w3 ∧
 Calls pP 17 #[.string s4] w3 fun e w6 => ∃ x7 x8 x9 d0 d2 d3 d4 d5 d6 d7 a8 b5 b2 d8 d9 e0 e1 a9 b6 b3 b0 b7 b4 f5, e = .returned (.tuple #[(.agg (Z0 x7 x8 x9 d0 d2 d3 d4 d5 d6 d7 a8 b5 b2 d8 d9 e0 e1 a9 b6 b3 b0 b7 b4)), .int .i64 f5]) ∧ yaE [b1] w3 w6 ∧
 ∀ a0, w6.heap.size ≤ a0 →
 yeS s4 (⟨#[120]⟩ : BA) fun u2 =>
 ∀ c4, Adv [] [a0] w6 c4 →
 Calls pP 17 #[.string u2] c4 fun e c5 => ∃ u4 u5 u6 u7 u9 v0 v1 v2 v3 v4 h3 h9 h6 v5 v6 v7 v8 h4 u0 h7 h5 u1 h8 f6, e = .returned (.tuple #[(.agg (Z0 u4 u5 u6 u7 u9 v0 v1 v2 v3 v4 h3 h9 h6 v5 v6 v7 v8 h4 u0 h7 h5 u1 h8)), .int .i64 f6]) ∧ yaE [b1, a0] c4 c5 ∧
 ∀ a2, c5.heap.size ≤ a2 →
 ∀ c6, Adv [] [a2] c5 c6 →
 Calls pP 10 #[(.agg (Z0 12 0 0 0 0 0 0 0 0 0 none 0 0 0 0 0 0 none 0 0 none 0 0))] c6 fun e c7 => ∃ u3 f7, e = .returned (.tuple #[.string u3, .int .i64 f7]) ∧ yaE [b1, a0, a2] c6 c7 ∧
 Calls pP 11 #[(.agg (Z0 4 0 1 2 0 0 5 0 0 0 none 0 0 0 0 0 0 none 0 0 none 0 0))] c7 fun e c8 => ∃ f1 f8, e = .returned (.tuple #[.string f1, .int .i64 f8]) ∧ yaE [b1, a0, a2] c7 c8 ∧
 Calls pP 19 #[(.agg (Z0 4 0 1 2 0 0 5 0 0 0 none 0 0 0 0 0 0 none 0 0 none 0 0))] c8 fun e a3 => ∃ f9 g0 g1 g2 g3 g4 g5 g6 g7 g8 e2 e8 e5 g9 h0 h1 h2 e3 e9 e6 e4 f0 e7, e = .returned (.agg (Z0 f9 g0 g1 g2 g3 g4 g5 g6 g7 g8 e2 e8 e5 g9 h0 h1 h2 e3 e9 e6 e4 f0 e7)) ∧ yaE [b1, a0, a2] c8 a3 ∧
 ∀ a1, a3.heap.size ≤ a1 →
 brB (x5 == 0) (
 brB (s4.toList == f1.toList) (
 brB (f8 == 0) (
 brB (f5 == 0) (
 ∀ c9, Adv [] [a1] a3 c9 →
 Calls pP 15 #[(.agg (Z0 4 0 1 2 0 0 5 0 0 0 none 0 0 0 0 0 0 none 0 0 none 0 0)), (.agg (Z0 x7 x8 x9 d0 d2 d3 d4 d5 d6 d7 a8 b5 b2 d8 d9 e0 e1 a9 b6 b3 b0 b7 b4))] c9 fun e a4 => ∃ f2, e = .returned (.bool f2) ∧ yaE [b1, a0, a2, a1] c9 a4 ∧
 brB f2 (
 brB (f6 == 180) (
 brB (f7 == 180) (
 Calls pP 14 #[(.agg (Z0 4 0 1 2 0 0 5 0 0 0 none 0 0 0 0 0 0 none 0 0 none 0 0)), (.agg (Z0 x7 x8 x9 d0 d2 d3 d4 d5 d6 d7 a8 b5 b2 d8 d9 e0 e1 a9 b6 b3 b0 b7 b4))] a4 fun e a5 => ∃ f3, e = .returned (.bool f3) ∧ yaE [b1, a0, a2, a1] a4 a5 ∧
 brB f3 (
 Calls pP 14 #[(.agg (Z0 4 0 1 2 0 0 5 0 0 0 none 0 0 0 0 0 0 none 0 0 none 0 0)), (.agg (Z0 0 0 0 0 0 0 0 0 0 0 none 0 0 0 0 0 0 none 0 0 none 0 0))] a5 fun e a6 => ∃ f4, e = .returned (.bool f4) ∧ yaE [b1, a0, a2, a1] a5 a6 ∧
 brB (!f4) (
 Calls pP 15 #[(.agg (Z0 f9 g0 g1 g2 g3 g4 g5 g6 g7 g8 e2 e8 e5 g9 h0 h1 h2 e3 e9 e6 e4 f0 e7)), (.agg (Z0 4 0 1 2 0 0 5 0 0 0 none 0 0 0 0 0 0 none 0 0 none 0 0))] a6 fun e a7 => ∃ b8, e = .returned (.bool b8) ∧ yaE [b1, a0, a2, a1] a6 a7 ∧
 brB b8 (
 Calls pP 12 #[(.agg (Z0 0 0 0 (-1) 0 0 0 0 0 0 none 0 0 0 0 0 0 none 0 0 none 0 0))] a7 fun e b9 => ∃ d1, e = .returned (.int .i64 d1) ∧ yaE [b1, a0, a2, a1] a7 b9 ∧
 R (.bool (d1 == 1)) b9)
 (
 R (.bool false) a7))
 (
 R (.bool false) a6))
 (
 R (.bool false) a5))
 (
 R (.bool false) a4))
 (
 R (.bool false) a4))
 (
 R (.bool false) a4))
 (
 ∀ c0, Adv [] [a1] a3 c0 →
 R (.bool false) c0))
 (
 ∀ c1, Adv [] [a1] a3 c1 →
 R (.bool false) c1))
 (
 ∀ c2, Adv [] [a1] a3 c2 →
 R (.bool false) c2))
 (
 ∀ c3, Adv [] [a1] a3 c3 →
 R (.bool false) c3)) :
 CR pP 16 #[] w R :=
 yaA Tryz.wide_mixed (an := []) Tryz.func16 rfl rfl (by kernel_rfl) rfl (Eq.mpr (by kernel_rfl) h)
theorem yGb (h :
 ∀ b1, w.heap.size ≤ b1 →
 ∀ b2, w.heap.size ≤ b2 →
 ∀ w3, Adv [] [b2, b1] w w3 →
 Calls pP 9 #[(.agg (Z0 i0 i1 i2 i3 i4 i5 i6 i7 i8 i9 q0 n0 n1 j0 j1 j2 j3 q1 n2 n3 q2 n4 n5))] w3 fun e w4 => ∃ x5 x6 x7 x8 x9 a9 b0 b3 b4 b5 a0 a6 a3 b6 b7 b8 b9 a1 a7 a4 a2 a8 a5, e = .returned (.agg (Z0 x5 x6 x7 x8 x9 a9 b0 b3 b4 b5 a0 a6 a3 b6 b7 b8 b9 a1 a7 a4 a2 a8 a5)) ∧ yaE [b1, b2] w3 w4 ∧
 ∀ v6, Adv [b1] [] w4 v6 →
 Calls pP 9 #[(.agg (Z0 j4 j5 j6 j7 j8 j9 k0 k1 k2 k3 q3 n6 n7 k4 k5 k6 k7 q4 n8 n9 q5 o0 o1))] v6 fun e y6 => ∃ h6 h7 h8 h9 u0 u1 u2 u3 u4 u5 g7 h3 h0 u6 u7 u9 v0 g8 h4 h1 g9 h5 h2, e = .returned (.agg (Z0 h6 h7 h8 h9 u0 u1 u2 u3 u4 u5 g7 h3 h0 u6 u7 u9 v0 g8 h4 h1 g9 h5 h2)) ∧ yaE [b1, b2] v6 y6 ∧
 ∀ v7, Adv [b2] [] y6 v7 →
 Calls pP 9 #[(.agg (Z0 x5 x6 x7 x8 x9 a9 b0 b3 b4 b5 a0 a6 a3 b6 b7 b8 b9 a1 a7 a4 a2 a8 a5))] v7 fun e v8 => ∃ y9 z0 z1 z2 z3 z4 z5 z6 z7 z8 w6 x2 w9 z9 aa ab ac w7 x3 x0 w8 x4 x1, e = .returned (.agg (Z0 y9 z0 z1 z2 z3 z4 z5 z6 z7 z8 w6 x2 w9 z9 aa ab ac w7 x3 x0 w8 x4 x1)) ∧ yaE [b1, b2] v7 v8 ∧
 ∀ c0, v8.heap.size ≤ c0 →
 ∀ v9, Adv [] [c0] v8 v9 →
 Calls pP 10 #[(.agg (Z0 x5 x6 x7 x8 x9 a9 b0 b3 b4 b5 a0 a6 a3 b6 b7 b8 b9 a1 a7 a4 a2 a8 a5))] v9 fun e w0 => ∃ y0 ad, e = .returned (.tuple #[.string y0, .int .i64 ad]) ∧ yaE [b1, b2, c0] v9 w0 ∧
 Calls pP 11 #[(.agg (Z0 x5 x6 x7 x8 x9 a9 b0 b3 b4 b5 a0 a6 a3 b6 b7 b8 b9 a1 a7 a4 a2 a8 a5))] w0 fun e v1 => ∃ y1 ae, e = .returned (.tuple #[.string y1, .int .i64 ae]) ∧ yaE [b1, b2, c0] w0 v1 ∧
 brB (y0.toList == y1.toList) (
 brB (ad == ae) (
 ∀ w1, Adv [] [] v1 w1 →
 Calls pP 12 #[(.agg (Z0 x5 x6 x7 x8 x9 a9 b0 b3 b4 b5 a0 a6 a3 b6 b7 b8 b9 a1 a7 a4 a2 a8 a5))] w1 fun e w2 => ∃ af, e = .returned (.int .i64 af) ∧ yaE [b1, b2, c0] w1 w2 ∧ (((.agg (Z0 x5 x6 x7 x8 x9 a9 b0 b3 b4 b5 a0 a6 a3 b6 b7 b8 b9 a1 a7 a4 a2 a8 a5)) : Value) = (.agg (Z0 x5 x6 x7 x8 x9 a9 b0 b3 b4 b5 a0 a6 a3 b6 b7 b8 b9 a1 a7 a4 a2 a8 a5))) ∧
 Calls pP 13 #[(.agg (Z0 x5 x6 x7 x8 x9 a9 b0 b3 b4 b5 a0 a6 a3 b6 b7 b8 b9 a1 a7 a4 a2 a8 a5))] w2 fun e v2 => ∃ ag, e = .returned (.int .i64 ag) ∧ yaE [b1, b2, c0] w2 v2 ∧
 brB (af == ag) (
 Calls pP 14 #[(.agg (Z0 x5 x6 x7 x8 x9 a9 b0 b3 b4 b5 a0 a6 a3 b6 b7 b8 b9 a1 a7 a4 a2 a8 a5)), (.agg (Z0 h6 h7 h8 h9 u0 u1 u2 u3 u4 u5 g7 h3 h0 u6 u7 u9 v0 g8 h4 h1 g9 h5 h2))] v2 fun e w5 => ∃ y2, e = .returned (.bool y2) ∧ yaE [b1, b2, c0] v2 w5 ∧ (((.agg (Z0 h6 h7 h8 h9 u0 u1 u2 u3 u4 u5 g7 h3 h0 u6 u7 u9 v0 g8 h4 h1 g9 h5 h2)) : Value) = (.agg (Z0 h6 h7 h8 h9 u0 u1 u2 u3 u4 u5 g7 h3 h0 u6 u7 u9 v0 g8 h4 h1 g9 h5 h2))) ∧ (((.agg (Z0 x5 x6 x7 x8 x9 a9 b0 b3 b4 b5 a0 a6 a3 b6 b7 b8 b9 a1 a7 a4 a2 a8 a5)) : Value) = (.agg (Z0 x5 x6 x7 x8 x9 a9 b0 b3 b4 b5 a0 a6 a3 b6 b7 b8 b9 a1 a7 a4 a2 a8 a5))) ∧
 Calls pP 15 #[(.agg (Z0 x5 x6 x7 x8 x9 a9 b0 b3 b4 b5 a0 a6 a3 b6 b7 b8 b9 a1 a7 a4 a2 a8 a5)), (.agg (Z0 h6 h7 h8 h9 u0 u1 u2 u3 u4 u5 g7 h3 h0 u6 u7 u9 v0 g8 h4 h1 g9 h5 h2))] w5 fun e v3 => ∃ y3, e = .returned (.bool y3) ∧ yaE [b1, b2, c0] w5 v3 ∧
 brB (y2 == y3) (
 Calls pP 15 #[(.agg (Z0 x5 x6 x7 x8 x9 a9 b0 b3 b4 b5 a0 a6 a3 b6 b7 b8 b9 a1 a7 a4 a2 a8 a5)), (.agg (Z0 y9 z0 z1 z2 z3 z4 z5 z6 z7 z8 w6 x2 w9 z9 aa ab ac w7 x3 x0 w8 x4 x1))] v3 fun e v4 => ∃ y4, e = .returned (.bool y4) ∧ yaE [b1, b2, c0] v3 v4 ∧
 brB y4 (
 Calls pP 16 #[] v4 fun e y7 => ∃ y5, e = .returned (.bool y5) ∧ yaE [b1, b2, c0] v4 y7 ∧
 R (.bool y5) y7)
 (
 R (.bool false) v4))
 (
 R (.bool false) v3))
 (
 R (.bool false) v2))
 (
 ∀ y8, Adv [] [] v1 y8 →
 R (.bool false) y8))
 (
 ∀ v5, Adv [] [] v1 v5 →
 R (.bool false) v5)) :
 CR pP 3 #[(.agg (Z0 i0 i1 i2 i3 i4 i5 i6 i7 i8 i9 q0 n0 n1 j0 j1 j2 j3 q1 n2 n3 q2 n4 n5)), (.agg (Z0 j4 j5 j6 j7 j8 j9 k0 k1 k2 k3 q3 n6 n7 k4 k5 k6 k7 q4 n8 n9 q5 o0 o1))] w R :=
 yaA Tryz.wide_mixed (an := []) Tryz.func3 rfl rfl (by kernel_rfl) rfl (Eq.mpr (by kernel_rfl) h)
end
theorem yfM {x : Int} (h0 : 0 ≤ x) (h : x.toNat ≤ 1099511627776) : num x = true := yqN h0 (by omega)
theorem yfX {w : World} {r : PRep} {f p : Sl} (h : RepAt w r f p) :
  Calls pP 33 #[r.v f p] w fun e w' => e = .returned (.tuple #[.string (if yfR r = 0 then bs (ydK r) else bs []), .int .i64 (yfR r)]) ∧ Mod [] w w' := by
 refine yaP (yF6 ?_)
 intro b1 f1 w2 A2
 refine (yCx (h.keep0 A2.mod)).mono ?_
 rintro _ w3 ⟨rfl, M3⟩
 have N3 := A2.mod.go0 M3 (by simp)
 refine ⟨_, rfl, yaE.of0 M3, yaB (fun g => ?_) fun g => ?_⟩
 ·have g : yfR r ≠ 0 := by simpa using g
  rw [if_neg g]; exact ⟨rfl, N3⟩
 have g : yfR r = 0 := by simpa using g
 have G := RepGood.of g
 rw [if_pos g, g]
 have e4 := h.found.1
 have e5 := h.parts.1
 have lf := G.lf
 have lp := G.lp
 obtain ⟨n0, n1, n2, n3⟩ := G.nn
 have d0 := G.hd r.e.toNat (by simp [hdL])
 have d1 := G.hd r.off.toNat (by simp [hdL])
 have d2 := G.hd r.n.toNat (by simp [hdL])
 have d3 := G.hd r.gen.toNat (by simp [hdL])
 have v0 := (yaL r.e.toNat (by omega)).2
 have v1 := (yaL r.off.toNat (by omega)).2
 have v2 := (yaL r.n.toNat (by omega)).2
 have v3 := (yaL r.gen.toNat (by omega)).2
 have v4 := (yaL f.n (by omega)).2
 have v5 := (yaL p.n (by omega)).2
 intro w5 A5
 refine (yb7 (yfM n0 d0) w5).mono ?_
 rintro _ w6 ⟨rfl, M6⟩
 refine ⟨_, rfl, yaE.of0 M6, rfl, rfl, rfl, rfl, ?_⟩
 refine (yb7 (yfM n1 d1) w6).mono ?_
 rintro _ w7 ⟨rfl, M7⟩
 refine ⟨_, rfl, yaE.of0 M7, rfl, rfl, rfl, by rw [yaD, yaD]; omega, ?_⟩
 rw [ya9]
 refine (yb7 (yfM n2 d2) w7).mono ?_
 rintro _ w8 ⟨rfl, M8⟩
 refine ⟨_, rfl, yaE.of0 M8, rfl, rfl, by rw [yaD, yaD, List.length_append]; omega, ?_⟩
 rw [ya9]
 refine (yb7 (yfM n3 d3) w8).mono ?_
 rintro _ w9 ⟨rfl, M9⟩
 refine ⟨_, rfl, yaE.of0 M9, rfl, by rw [yaD, yaD, List.length_append, List.length_append]; omega, ?_⟩
 rw [ya9]
 refine (yb7 (x := (f.n : Nat)) (yqN (by omega) (by omega)) w9).mono ?_
 rintro _ w10 ⟨rfl, M10⟩
 refine ⟨_, rfl, yaE.of0 M10, by rw [yaD, yaD, List.length_append, List.length_append, List.length_append, Int.toNat_natCast]; omega, ?_⟩
 rw [ya9, Int.toNat_natCast]
 have N10 : Mod [] w w10 := (((((N3.go0 A5.mod (by simp)).go0 M6 (by simp)).go0 M7 (by simp)).go0 M8 (by simp)).go0 M9 (by simp)).go0 M10 (by simp)
 have eh : yaJ r.e.toNat ++ yaJ r.off.toNat ++ yaJ r.n.toNat ++ yaJ r.gen.toNat ++ yaJ f.n = ydE r 0 := by
  simp [ydE, hdL, e4]
 rw [eh]
 refine ywV (fun mm s x w' => ∃ k : Nat, x = k ∧ k ≤ r.found.length ∧ s = bs (ydE r k) ∧ Mod [] w w' ∧ mm = r.found.length - k) r.found.length ⟨0, rfl, by omega, rfl, N10, rfl⟩ ?_
 rintro mm s x w11 ⟨k, rfl, hk, rfl, M11, rfl⟩
 have l2 := G.len2 k
 refine yaC (fun hlt => ?_) fun hge => ?_
 ·obtain ⟨y, hy⟩ : ∃ y, r.found[k]? = some y := ⟨_, List.getElem?_eq_getElem (by omega)⟩
  obtain ⟨y1, y2⟩ := G.f y (List.mem_of_getElem? hy)
  have ly := G.lenF (List.mem_of_getElem? hy)
  have l2' := G.len2 (k + 1)
  refine (h.keep0 M11).found.ixW hy fun q hq => ?_
  intro w12 A12
  have N12 := M11.go0 A12.mod (by simp)
  refine yaF (x := y.off) (by simpa [add_zero] using hq w12 A12.mod 0 _ rfl) ?_
  refine (h.keep0 N12).found.ixW hy fun q hq => ?_
  have hc := hq w12 (Mod.refl _)
  rw [yeY, yeY, yeY]
  refine yaN (hc 1 _ rfl) (yaG (hc 2 _ rfl) (yaN (hc 3 _ rfl) (yaG (hc 4 _ rfl) ?_)))
  refine (yb7 y1 w12).mono ?_
  rintro _ w13 ⟨rfl, M13⟩
  have hd := hq w13 M13
  refine ⟨_, rfl, yaE.of0 M13, ?_, rfl, ?_⟩
  ·exact yaN (hd 1 _ rfl) (yaG (hd 2 _ rfl) (yaN (hd 3 _ rfl) (yaG (hd 4 _ rfl) rfl)))
  refine (yqO y.r y2 w13).mono ?_
  rintro _ w14 ⟨rfl, M14⟩
  have N14 := (N12.go0 M13 (by simp)).go0 M14 (by simp)
  have eF : yaJ y.off.toNat ++ yf7 y.r = yfG y := rfl
  refine ⟨_, rfl, yaE.of0 M14, by rw [yaD, yaD, ← List.length_append, eF]; omega, ?_⟩
  rw [ya9, eF]
  refine ⟨by rw [yaD, yaD]; omega, ?_⟩
  rw [ya9]
  refine ywU (r.found.length - (k + 1)) (by omega) ⟨k + 1, by rw [yaH (by omega) (by omega)]; omega, by omega, ?_, N14, rfl⟩
  rw [ydE, ydE, ybB hy, ← List.append_assoc]
 ·have hk : k = r.found.length := by omega
  subst hk
  refine (yb7 (x := (p.n : Nat)) (yqN (by omega) (by omega)) w11).mono ?_
  rintro _ w12 ⟨rfl, M12⟩
  refine ⟨_, rfl, yaE.of0 M12, by rw [yaD, yaD, Int.toNat_natCast]; omega, ?_⟩
  rw [ya9, Int.toNat_natCast]
  have e3 : ydE r r.found.length ++ yaJ p.n = ye9 r 0 := by rw [ydE, ye9, List.take_length, e5]; simp
  rw [e3]
  refine ywX (fun mm s x w' => ∃ k : Nat, x = k ∧ k ≤ r.parts.length ∧ s = bs (ye9 r k) ∧ Mod [] w w' ∧ mm = r.parts.length - k) r.parts.length ⟨0, rfl, by omega, rfl, M11.go0 M12 (by simp), rfl⟩ ?_
  rintro mm s x w13 ⟨k, rfl, hk, rfl, M13, rfl⟩
  have l3 := G.len3 k
  refine yaC (fun hlt => ?_) fun hge => ?_
  ·obtain ⟨y, hy⟩ : ∃ y, r.parts[k]? = some y := ⟨_, List.getElem?_eq_getElem (by omega)⟩
   obtain ⟨y1, y2⟩ := G.p y (List.mem_of_getElem? hy)
   have ly := G.lenP (List.mem_of_getElem? hy)
   refine (h.keep0 M13).parts.ixW hy fun q hq => ?_
   intro w14 A14
   have N14 := M13.go0 A14.mod (by simp)
   refine yaG (x := y.t) (by simpa [add_zero] using hq w14 A14.mod 0 _ rfl) ?_
   refine (h.keep0 N14).parts.ixW hy fun q hq => ?_
   refine yaF (x := y.n) (hq w14 (Mod.refl _) 1 _ rfl) ?_
   refine (ybG y.t (by omega) w14).mono ?_
   rintro _ w15 ⟨rfl, M15⟩
   refine ⟨_, rfl, yaE.of0 M15, yaF (x := y.n) (hq w15 M15 1 _ rfl) rfl, rfl, ?_⟩
   refine (yb7 y1 w15).mono ?_
   rintro _ w16 ⟨rfl, M16⟩
   have N16 := (N14.go0 M15 (by simp)).go0 M16 (by simp)
   have eP : ybU y.t ++ yaJ y.n.toNat = ycW y := rfl
   refine ⟨_, rfl, yaE.of0 M16, by rw [yaD, yaD, ← List.length_append, eP]; omega, ?_⟩
   rw [ya9, eP]
   refine ⟨by rw [yaD, yaD]; omega, ?_⟩
   rw [ya9]
   refine ywW (r.parts.length - (k + 1)) (by omega) ⟨k + 1, by rw [yaH (by omega) (by omega)]; omega, by omega, ?_, N16, rfl⟩
   rw [ye9, ye9, ybB hy, ← List.append_assoc]
  ·have hk : k = r.parts.length := by omega
   subst hk
   exact ⟨rfl, M13⟩
theorem ykJ {w : World} {m : PMail} {s f p : Sl} (h : MailAt w m s f p) (hlc : m.calls.length ≤ 100000) :
  Calls pP 13 #[m.v s f p] w fun e w' => e = .returned (.int .i64 (yb5 m)) ∧ Mod [] w w' := by
 obtain ⟨ll, hll, hop, hcs⟩ := h.calls
 have hl : ll.length ≤ 1000000 := by have := congrArg List.length hcs; simp at *; omega
 refine yaP (yBB ?_)
 intro b1 f1
 refine yaC (fun g1 => fun w2 A2 => ⟨by rw [yb5, if_pos (.inl g1)], A2.mod⟩) fun g1 => ?_
 refine yaC (fun g2 => fun w2 A2 => ⟨by rw [yb5, if_pos (.inr (by omega))], A2.mod⟩) fun g2 => ?_
 have hE : yb5 m = if ((yaR m).all num) = false then 1 else if yb8 m.calls ≠ 0 then yb8 m.calls else yfR m.r := by rw [yb5, if_neg (by omega)]
 intro w4 A4
 refine (yhV m s f p).mono ?_
 rintro e w5 ⟨_, rfl, c5, rfl, h5, M5⟩
 have N5 := A4.mod.go0 M5 (by simp)
 refine ⟨_, _, _, rfl, yaE.of0 M5, ?_⟩
 refine ymN (fun mm x w' => ∃ k : Nat, x = k ∧ k ≤ 10 ∧ ((yaR m).take k).all num = true ∧ mm = 10 - k ∧ Mod [] w5 w') 10 ⟨0, rfl, by omega, by simp, rfl, Mod.refl _⟩ ?_
 rintro mm x w6 ⟨k, rfl, hk, hal, rfl, M6⟩
 have N6 := N5.go0 M6 (by simp)
 refine yaC (fun hlt => ?_) fun hge => ?_
 ·have hk' : k < 10 := by omega
  obtain ⟨x, hx⟩ : ∃ x, (yaR m)[k]? = some x := ⟨_, List.getElem?_eq_getElem (by simpa [yaR] using hk')⟩
  refine (h5.keep0 M6).ix hx fun q hq => yaF (x := x) (by simpa [add_zero] using hq 0 _ rfl) ?_
  refine (ycM x w6).mono ?_
  rintro _ w7 ⟨rfl, rfl⟩
  refine ⟨_, rfl, yaE.of0 (Mod.refl _), yaB (fun g3 => ⟨?_, N6⟩) fun g3 => ?_⟩
  ·rw [hE, if_pos]
   apply Bool.eq_false_iff.2
   intro hh
   have := List.all_eq_true.1 hh x (List.mem_of_getElem? hx)
   rw [this] at g3; cases g3
  ·exact ymM (10 - (k + 1)) (by omega) ⟨k + 1, by rw [yaH (by omega) (by omega)]; omega, by omega, by rw [yb6 hx, hal, yhJ g3]; rfl, rfl, M6⟩
 ·have hk' : k = 10 := by omega
  subst hk'
  rw [List.take_of_length_le (by simp [yaR])] at hal
  rw [hal, if_neg (by decide)] at hE
  refine (ymL (s := s) (ll := ll) ⟨hll.keep0 N6, fun q hq => (hop q hq).keep0 N6⟩ hl).mono ?_
  rw [hcs]
  rintro e w7 ⟨rfl, M7⟩
  have N7 := N6.go0 M7 (by simp)
  refine ⟨_, _, rfl, yaE.of0 M7, yaB (fun g => ?_) fun g => ?_⟩
  ·have g : yb8 m.calls ≠ 0 := by simpa using g
   exact ⟨by rw [hE, if_pos g], N7⟩
  have g : yb8 m.calls = 0 := by simpa using g
  rw [if_neg (by simpa using g)] at hE
  refine (yfX (h.rep.keep0 N7)).mono ?_
  rintro e w8 ⟨rfl, M8⟩
  exact ⟨_, _, rfl, yaE.of0 M8, by rw [hE], N7.go0 M8 (by simp)⟩
def ykR (n : Int) : List UInt8 := yaJ n.toNat
def ybL (m : PMail) : List UInt8 := (yaR m).flatMap ykR ++ ybU (bs (ybK m.calls)) ++ ybU (bs (ydK m.r))
def ybT (m : PMail) : Int := if yb5 m ≠ 0 then yb5 m else if (ybL m).length > 1048576 then 2 else 0
def yeL (m : PMail) : ByteArray := bs (ydG (bs (ybL m)))
theorem ycI {m : PMail} (h : ybT m = 0) : yb5 m = 0 ∧ (ybL m).length ≤ 1048576 := by
 unfold ybT at h
 split at h
 ·rename_i g; exact absurd h g
 ·rename_i g
  split at h
  ·omega
  ·exact ⟨by simpa using g, by omega⟩
theorem yg7 {xs : List PCall} (h : yb8 xs = 0) : (ybK xs).length ≤ 200000000 := by
 obtain ⟨h1, h2⟩ := ykG h
 have h3 := ydF (f := ye4) (c := 40000) (l := xs) fun x hx => (yfJ (h2 x hx).1 (h2 x hx).2).1
 have h4 := (yaL xs.length (by omega)).2
 unfold ybK; rw [List.length_append]; omega
theorem yg8 (m : PMail) : (yaR m).length = 10 := rfl
theorem yeM {n : Int} (h : num n = true) : n.toNat < 18446744073709551616 ∧ (ykR n).length ≤ 10 := by
 have := ye8 h
 exact ⟨by omega, (yaL n.toNat (by omega)).2⟩
theorem yfY {m : PMail} (h : (yaR m).all num = true) {k : Nat} {n : Int} (hn : (yaR m)[k]? = some n) : num n = true := List.all_eq_true.1 h n (List.mem_of_getElem? hn)
theorem yeN {m : PMail} (h : (yaR m).all num = true) (k : Nat) : (((yaR m).take k).flatMap ykR).length ≤ 100 := by
 have := ydF (f := ykR) (c := 10) (l := (yaR m).take k) fun x hx => (yeM (List.all_eq_true.1 h x (List.mem_of_mem_take hx))).2
 have e : ((yaR m).take k).length ≤ 10 := by rw [List.length_take, yg8]; omega
 omega
theorem ykK {m : PMail} (h : yb5 m = 0) : (ybL m).length ≤ 300000000 := by
 obtain ⟨_, h1, h2, h3⟩ := ycV h
 have l1 := yeN h1 10
 rw [List.take_of_length_le (by rw [yg8]; omega)] at l1
 have l2 := yg7 h2
 have l3 := (RepGood.of h3).len3 m.r.parts.length
 have l3 : (ydK m.r).length ≤ 60000 := l3
 have p2 := (yaW (bs (ybK m.calls)) (by rw [yaD]; omega)).2
 have p3 := (yaW (bs (ydK m.r)) (by rw [yaD]; omega)).2
 rw [yaD] at p2 p3
 unfold ybL; rw [List.length_append, List.length_append]; omega
def yiQ (m : PMail) (k : Nat) : Nat := (((yaR m).take k).flatMap ykR).length
theorem yC5 {m : PMail} (h : (yaR m).all num = true) {k : Nat} {n : Int} (hn : (yaR m)[k]? = some n) : yfA (ybL m) (yiQ m k) = some (n.toNat, yiQ m (k + 1)) := by
 have hs := yeM (yfY h hn)
 have hk := (List.getElem?_eq_some_iff.1 hn).1
 have e : yaR m = (yaR m).take k ++ n :: (yaR m).drop (k + 1) := by
  have h2 := List.drop_eq_getElem_cons hk
  have h3 : (yaR m)[k] = n := (List.getElem?_eq_some_iff.1 hn).2
  rw [h3] at h2
  rw [← h2, List.take_append_drop]
 have hd : (ybL m).drop (yiQ m k) = ykR n ++ (((yaR m).drop (k + 1)).flatMap ykR ++ ybU (bs (ybK m.calls)) ++ ybU (bs (ydK m.r))) := by
  have e2 : (yaR m).flatMap ykR = ((yaR m).take k).flatMap ykR ++ (ykR n ++ ((yaR m).drop (k + 1)).flatMap ykR) := by
   conv => lhs; rw [e]
   rw [List.flatMap_append, List.flatMap_cons]
  unfold ybL yiQ
  rw [e2]
  simp only [List.append_assoc]
  rw [List.drop_left']
  rfl
 rw [yfV (n := n.toNat) hs.1 hd]
 congr 2
 unfold yiQ
 rw [ybB hn, List.length_append]; rfl
theorem yC6 {m : PMail} (h : ybT m = 0) : yl9 1048576 (ybL m) (yiQ m 10) = some (bs (ybK m.calls), yiQ m 10 + (ybU (bs (ybK m.calls))).length) ∧
  yl9 1048576 (ybL m) (yiQ m 10 + (ybU (bs (ybK m.calls))).length) = some (bs (ydK m.r), (ybL m).length) := by
 obtain ⟨_, hl⟩ := ycI h
 have e10 : yiQ m 10 = ((yaR m).flatMap ykR).length := by unfold yiQ; rw [List.take_of_length_le (by rw [yg8]; omega)]
 have hd1 : (ybL m).drop (yiQ m 10) = ybU (bs (ybK m.calls)) ++ ybU (bs (ydK m.r)) := by
  rw [e10]; unfold ybL; rw [List.append_assoc, List.drop_left']; rfl
 have hd2 : (ybL m).drop (yiQ m 10 + (ybU (bs (ybK m.calls))).length) = ybU (bs (ydK m.r)) ++ [] := by
  rw [List.append_nil, yaV hd1]
 have hlen : (ybL m).length = yiQ m 10 + (ybU (bs (ybK m.calls))).length + (ybU (bs (ydK m.r))).length := by
  rw [e10]; unfold ybL; rw [List.length_append, List.length_append]
 have z1 : (bs (ybK m.calls)).size ≤ (ybU (bs (ybK m.calls))).length := by unfold ybU; rw [List.length_append]; simp
 have z2 : (bs (ydK m.r)).size ≤ (ybU (bs (ydK m.r))).length := by unfold ybU; rw [List.length_append]; simp
 refine ⟨ye3 (by omega) (by omega) hd1, ?_⟩
 rw [ye3 (by omega) (by omega) hd2, hlen]
theorem yBG {x y : PMail} (hx : ybT x = 0) (hy : ybT y = 0) (h : yeL x = yeL y) : ybL x = ybL y := by
 have h := yj1 h
 obtain ⟨_, l1⟩ := ycI hx
 obtain ⟨_, l2⟩ := ycI hy
 have c1 := ylM (lim := 1048576) (bs (ybL x)) [] (by rw [yaD]; omega) (by rw [yaD]; omega)
 have c2 := ylM (lim := 1048576) (bs (ybL y)) [] (by rw [yaD]; omega) (by rw [yaD]; omega)
 rw [h, c2] at c1
 have := (Prod.mk.inj (Option.some.inj c1)).1
 exact (yj1 this).symm
theorem yGc {x : PMail} (hx : ybT x = 0) : cg 1048576 (yeL x).data.toList = some (bs (ybL x), (ydG (bs (ybL x))).length) := by
 obtain ⟨_, l1⟩ := ycI hx
 have := ylM (lim := 1048576) (bs (ybL x)) [] (by rw [yaD]; omega) (by rw [yaD]; omega)
 rw [List.append_nil] at this
 rw [yeL, yd9]; exact this
theorem yh8 {α : Type} {f : α → List UInt8} {l : List α} {k : Nat} {x : α} (h : l[k]? = some x) : l.flatMap f = (l.take k).flatMap f ++ (f x ++ (l.drop (k + 1)).flatMap f) := by
 have hk := (List.getElem?_eq_some_iff.1 h).1
 have h2 := List.drop_eq_getElem_cons hk
 have h3 : l[k] = x := (List.getElem?_eq_some_iff.1 h).2
 rw [h3] at h2
 conv => lhs; rw [← List.take_append_drop k l, h2]
 rw [List.flatMap_append, List.flatMap_cons]
theorem yoZ {p q l : List UInt8} (h : l = p ++ q) : l.drop p.length = q := by
 rw [h, List.drop_left']; rfl
theorem yJD {r : PRep} {k n : Nat} (h : (hdL r)[k]? = some n) : ∃ t, (ydK r).drop (yiP r k).length = yaJ n ++ t :=
 ⟨_, yoZ (p := yiP r k) (by unfold ydK ye9 yiP; rw [yh8 h]; simp only [List.append_assoc]; rfl)⟩
theorem yKk {r : PRep} {k : Nat} {y : PFound} (h : r.found[k]? = some y) : ∃ t, (ydK r).drop (ydE r k).length = yaJ y.off.toNat ++ (yf7 y.r ++ t) :=
 ⟨_, yoZ (p := ydE r k) (by unfold ydK ye9 ydE; rw [yh8 h, yfG]; simp only [List.append_assoc]; rfl)⟩
theorem yJE (r : PRep) : ∃ t, (ydK r).drop (ydE r r.found.length).length = yaJ r.parts.length ++ t :=
 ⟨_, yoZ (p := ydE r r.found.length) (by unfold ydK ye9 ydE; simp only [List.take_length, List.append_assoc]; rfl)⟩
theorem yKl {r : PRep} {k : Nat} {y : PPart} (h : r.parts[k]? = some y) : ∃ t, (ydK r).drop (ye9 r k).length = ycW y ++ t :=
 ⟨_, yoZ (p := ye9 r k) (by unfold ydK; rw [ye9, ye9, List.take_length, yh8 h]; simp only [List.append_assoc]; rfl)⟩
theorem yBH (r : PRep) : yiP r 5 = ydE r 0 := by rw [yiP, ydE, List.take_of_length_le (by simp [hdL])]; simp
theorem yJF (r : PRep) : ye9 r 0 = ydE r r.found.length ++ yaJ r.parts.length := by rw [ydE, ye9, List.take_length]; simp
theorem yBI {r : PRep} {k n : Nat} (h : (hdL r)[k]? = some n) : (yiP r (k + 1)).length = (yiP r k).length + (yaJ n).length := by rw [yiP, ybB h, List.length_append]; rfl
theorem yBJ {r : PRep} {k : Nat} {y : PFound} (h : r.found[k]? = some y) : (ydE r (k + 1)).length = (ydE r k).length + (yaJ y.off.toNat).length + (yf7 y.r).length := by
 have e : ydE r (k + 1) = ydE r k ++ yfG y := by rw [ydE, ydE, ybB h, ← List.append_assoc]
 rw [e, List.length_append, yfG, List.length_append]; omega
theorem yBK {r : PRep} {k : Nat} {y : PPart} (h : r.parts[k]? = some y) : (ye9 r (k + 1)).length = (ye9 r k).length + (ycW y).length := by
 rw [ye9, ye9, ybB h, ← List.append_assoc, List.length_append]
def hdI (r : PRep) : List Int := [r.e, r.off, r.n, r.gen, r.found.length]
theorem yJG {r : PRep} (G : RepGood r) {k : Nat} {n : Int} (h : (hdI r)[k]? = some n) : num n = true ∧ (hdL r)[k]? = some n.toNat := by
 obtain ⟨n0, n1, n2, n3⟩ := G.nn
 have lf := G.lf
 have d0 := G.hd r.e.toNat (by simp [hdL])
 have d1 := G.hd r.off.toNat (by simp [hdL])
 have d2 := G.hd r.n.toNat (by simp [hdL])
 have d3 := G.hd r.gen.toNat (by simp [hdL])
 have hk := (List.getElem?_eq_some_iff.1 h).1
 simp [hdI] at hk
 match k, hk, h with
 | 0, _, h => simp [hdI] at h; subst h; exact ⟨yfM n0 d0, rfl⟩
 | 1, _, h => simp [hdI] at h; subst h; exact ⟨yfM n1 d1, rfl⟩
 | 2, _, h => simp [hdI] at h; subst h; exact ⟨yfM n2 d2, rfl⟩
 | 3, _, h => simp [hdI] at h; subst h; exact ⟨yfM n3 d3, rfl⟩
 | 4, _, h => simp [hdI] at h; subst h; exact ⟨yqN (by omega) (by omega), by simp [hdL]⟩
def yfZ (s : ByteArray) (x : PRep) : Prop := yfR x = 0 ∧ s.data.toList = ydK x
theorem yfZ.eq {s : ByteArray} {x : PRep} (h : yfZ s x) : s = bs (ydK x) := by
 have := h.2; rw [← this, yp1]
theorem yfZ.of {s : ByteArray} {x : PRep} (h : yfR x = 0) (hs : s = bs (ydK x)) : yfZ s x := ⟨h, by rw [hs, yd9]⟩
theorem yfZ.hd {s : ByteArray} {x : PRep} (h : yfZ s x) {k : Nat} {n : Int} (hn : (hdI x)[k]? = some n) : ybJ s.data.toList (some (yiP x k).length) 0 = (some (yiP x (k + 1)).length, n) := by
 obtain ⟨h1, h2⟩ := yJG (RepGood.of h.1) hn
 obtain ⟨t, ht⟩ := yJD h2
 rw [h.2, ybP h1 ht, yBI h2]
theorem yfZ.f {s : ByteArray} {x : PRep} (h : yfZ s x) {k : Nat} {y : PFound} (hy : x.found[k]? = some y) :
  ybJ s.data.toList (some (ydE x k).length) 0 = (some ((ydE x k).length + (yaJ y.off.toNat).length), y.off) ∧ yqF s.data.toList ((ydE x k).length + (yaJ y.off.toNat).length) = some (y.r, (ydE x (k + 1)).length) := by
 obtain ⟨h1, h2⟩ := (RepGood.of h.1).f y (List.mem_of_getElem? hy)
 obtain ⟨t, ht⟩ := yKk hy
 rw [h.2, ybP h1 ht]
 refine ⟨rfl, ?_⟩
 rw [yuJ h2 (yaV ht), yBJ hy]
theorem yfZ.np {s : ByteArray} {x : PRep} (h : yfZ s x) : ybJ s.data.toList (some (ydE x x.found.length).length) 0 = (some (ye9 x 0).length, ((x.parts.length : Nat) : Int)) := by
 obtain ⟨t, ht⟩ := yJE x
 have lp := (RepGood.of h.1).lp
 rw [h.2, ybP (n := (x.parts.length : Nat)) (yqN (by omega) (by omega)) (by simpa using ht), yJF, List.length_append]
 rfl
theorem yfZ.p {s : ByteArray} {x : PRep} (h : yfZ s x) {k : Nat} {y : PPart} (hy : x.parts[k]? = some y) : yc4 s.data.toList (some (ye9 x k).length) = (some (ye9 x (k + 1)).length, y) := by
 obtain ⟨h1, h2⟩ := (RepGood.of h.1).p y (List.mem_of_getElem? hy)
 have h3 := (RepGood.of h.1).lenP (List.mem_of_getElem? hy)
 obtain ⟨t, ht⟩ := yKl hy
 rw [h.2, ydX h3.2 h1 ht, yBK hy]
theorem yu9 {x y : PRep} (hx : yfR x = 0) (hy : yfR y = 0) (h : ydK x = ydK y) : x = y := by
 have X : yfZ (bs (ydK x)) x := ⟨hx, yd9 _⟩
 have Y : yfZ (bs (ydK x)) y := ⟨hy, by rw [yd9, h]⟩
 have hd : ∀ k, k ≤ 5 → (yiP x k).length = (yiP y k).length ∧ (hdI x).take k = (hdI y).take k := by
  intro k
  induction k with
  | zero => intro _; exact ⟨rfl, rfl⟩
  | succ k ih =>
   intro hk
   obtain ⟨i1, i2⟩ := ih (by omega)
   obtain ⟨a, ha⟩ : ∃ a, (hdI x)[k]? = some a := ⟨_, List.getElem?_eq_getElem (by simp [hdI]; omega)⟩
   obtain ⟨b, hb⟩ : ∃ b, (hdI y)[k]? = some b := ⟨_, List.getElem?_eq_getElem (by simp [hdI]; omega)⟩
   have h1 := X.hd ha
   have h2 := Y.hd hb
   rw [i1, h2] at h1
   simp only [Prod.mk.injEq, Option.some.injEq] at h1
   exact ⟨h1.1.symm, by rw [List.take_add_one, List.take_add_one, ha, hb, i2, h1.2]⟩
 obtain ⟨h5, hI⟩ := hd 5 (Nat.le_refl _)
 rw [List.take_of_length_le (by simp [hdI]), List.take_of_length_le (by simp [hdI])] at hI
 simp only [hdI, List.cons.injEq, and_true] at hI
 obtain ⟨e1, e2, e3, e4, e5⟩ := hI
 have e5 : x.found.length = y.found.length := by omega
 rw [yBH, yBH] at h5
 have hf : ∀ k, k ≤ x.found.length → (ydE x k).length = (ydE y k).length ∧ x.found.take k = y.found.take k := by
  intro k
  induction k with
  | zero => intro _; exact ⟨h5, rfl⟩
  | succ k ih =>
   intro hk
   obtain ⟨i1, i2⟩ := ih (by omega)
   obtain ⟨a, ha⟩ : ∃ a, x.found[k]? = some a := ⟨_, List.getElem?_eq_getElem (by omega)⟩
   obtain ⟨b, hb⟩ : ∃ b, y.found[k]? = some b := ⟨_, List.getElem?_eq_getElem (by omega)⟩
   obtain ⟨h1, h2⟩ := X.f ha
   obtain ⟨h3, h4⟩ := Y.f hb
   rw [i1, h3] at h1
   simp only [Prod.mk.injEq, Option.some.injEq] at h1
   rw [i1, ← h1.1, h4] at h2
   simp only [Prod.mk.injEq, Option.some.injEq] at h2
   have : a = b := by
    obtain ⟨o1, q1⟩ := a
    obtain ⟨o2, q2⟩ := b
    simp only [PFound.mk.injEq]
    exact ⟨h1.2.symm, h2.1.symm⟩
   exact ⟨h2.2.symm, by rw [List.take_add_one, List.take_add_one, ha, hb, i2, this]⟩
 obtain ⟨h6, e6⟩ := hf _ (Nat.le_refl _)
 rw [List.take_length, e5, List.take_length] at e6
 have h7 := X.np
 have h8 := Y.np
 rw [h6, e5, h8] at h7
 simp only [Prod.mk.injEq, Option.some.injEq] at h7
 have e7 : x.parts.length = y.parts.length := by omega
 have hp : ∀ k, k ≤ x.parts.length → (ye9 x k).length = (ye9 y k).length ∧ x.parts.take k = y.parts.take k := by
  intro k
  induction k with
  | zero => intro _; exact ⟨h7.1.symm, rfl⟩
  | succ k ih =>
   intro hk
   obtain ⟨i1, i2⟩ := ih (by omega)
   obtain ⟨a, ha⟩ : ∃ a, x.parts[k]? = some a := ⟨_, List.getElem?_eq_getElem (by omega)⟩
   obtain ⟨b, hb⟩ : ∃ b, y.parts[k]? = some b := ⟨_, List.getElem?_eq_getElem (by omega)⟩
   have h1 := X.p ha
   have h2 := Y.p hb
   rw [i1, h2] at h1
   simp only [Prod.mk.injEq, Option.some.injEq] at h1
   exact ⟨h1.1.symm, by rw [List.take_add_one, List.take_add_one, ha, hb, i2, h1.2]⟩
 obtain ⟨_, e8⟩ := hp _ (Nat.le_refl _)
 rw [List.take_length, e7, List.take_length] at e8
 obtain ⟨x1, x2, x3, x4, x5, x6⟩ := x
 obtain ⟨y1, y2, y3, y4, y5, y6⟩ := y
 simp only [PRep.mk.injEq]
 exact ⟨e1, e2, e3, e4, e6, e8⟩
section
set_option maxRecDepth 100000
variable {R : VWP} {w w0 : World} {m : Nat} {i0 i1 i2 i3 i4 i5 i6 i7 i8 i9 j0 j1 j2 j3 j4 j5 j6 j7 j8 j9 k0 k1 k2 k3 k4 k5 k6 k7 k8 k9 l0 l1 l2 l3 l4 l5 l6 l7 l8 l9 : Int} {s0 s1 s2 s3 s4 s5 s6 s7 s8 s9 t0 t1 t2 t3 t4 t5 t6 t7 t8 t9 : BA} {n0 n1 n2 n3 n4 n5 n6 n7 n8 n9 o0 o1 o2 o3 o4 o5 o6 o7 o8 o9 p0 p1 p2 p3 p4 p5 p6 p7 p8 p9 : Nat} {q0 q1 q2 q3 q4 q5 q6 q7 q8 q9 r0 r1 r2 r3 r4 r5 r6 r7 r8 r9 : OA} {B0 B1 B2 B3 B4 B5 B6 B7 B8 B9 : Bool} {M0 M1 M2 M3 : Option Nat} {V0 V1 V2 V3 V4 V5 : Value} {A0 A1 A2 : Addr}
def yo0 : LA := ⟨[0, 0, 1, 0, 1, 1, 1, 1], [0, 2, 4, 5, 6, 7, 8, 26, 27, 28], [(2, 0, 0), (4, 1, 0), (5, 2, 0), (6, 3, 0), (7, 4, 0), (8, 5, 0)], 6, [1, 2, 3, 4]⟩
def yo1 : LA := ⟨[0, 0, 1, 0, 1, 1, 1, 1, 1, 1], [0, 2, 4, 5, 7, 8, 11], [(2, 0, 0), (4, 1, 0), (5, 2, 0), (7, 4, 0), (8, 5, 0)], 6, [1, 2, 3, 4]⟩
def yg9 : LA := ⟨[0, 0, 1, 0, 1, 1, 1, 1, 1, 1, 1, 1], [0, 2, 4, 5, 8, 16], [(2, 0, 0), (4, 1, 0), (5, 2, 0), (8, 5, 0)], 6, [1, 2, 3, 4, 5]⟩
def yo2 : List LA := [yo0, yo1, yg9]
abbrev yiK := dnF pP yo2 (code Tryz.f81)
abbrev yJH := yaO pP yo2 (code Tryz.f81)
abbrev ykL (p : List Nat) (K : List Kh) (R : VWP) := yaO pP yo2 (code Tryz.f81) p K (ya4 pP Tryz.f81 [] R)
def yh9 (b9 : BA) (b5 : OA) (b7 b6 bm0 bm1 bm2 bm3 bm4 bm5 : Nat) : Int × ByteArray × Int × Int × Int × Int × Int × Int × (Option Addr) × Nat × Nat × (Option Addr) × Nat × Nat × Int × Int → List Value × List TB := fun (b8, a6, a7, a8, a9, b0, b1, b2, a0, a4, a2, a1, a5, a3, b3, b4) => ([.string b9, (.pointer (some ⟨bm0, 0, none⟩)), (.pointer (some ⟨bm1, 0, none⟩)), (.pointer (some ⟨bm2, 0, none⟩)), (.pointer (some ⟨bm3, 0, none⟩)), (.pointer (some ⟨bm4, 0, none⟩)), (.pointer (some ⟨bm5, 0, none⟩)), .slice b5 b7 b6, (.int .i64 (5 : Int)), .int .i64 b8], [⟨bm0, 27, [.int .i64 0, .int .i64 0, .int .i64 0, .int .i64 0, .slice none 0 0, .slice none 0 0], false⟩, ⟨bm1, 151, [.string a6, .int .i64 a7, .int .i64 a8], true⟩, ⟨bm2, 27, [.int .i64 a9, .int .i64 b0, .int .i64 b1, .int .i64 b2, .slice a0 a4 a2, .slice a1 a5 a3], true⟩, ⟨bm3, 3, [.int .i64 b3], true⟩, ⟨bm4, 3, [.int .i64 b4], true⟩, ⟨bm5, 3, [.int .i64 0], false⟩])
def ye5 (b6 : BA) (bm0 bm1 bm2 bm3 bm4 bm5 : Nat) : Int × ByteArray × Int × Int × Int × Int × Int × Int × (Option Addr) × Nat × Nat × (Option Addr) × Nat × Nat × Int × Int → List Value × List TB := fun (b5, a6, a7, a8, a9, b0, b1, b2, a0, a4, a2, a1, a5, a3, b3, b4) => ([.string b6, (.pointer (some ⟨bm0, 0, none⟩)), (.pointer (some ⟨bm1, 0, none⟩)), (.pointer (some ⟨bm2, 0, none⟩)), (.pointer (some ⟨bm4, 0, none⟩)), (.pointer (some ⟨bm5, 0, none⟩)), .int .i64 b5], [⟨bm0, 27, [.int .i64 0, .int .i64 0, .int .i64 0, .int .i64 0, .slice none 0 0, .slice none 0 0], false⟩, ⟨bm1, 151, [.string a6, .int .i64 a7, .int .i64 a8], true⟩, ⟨bm2, 27, [.int .i64 a9, .int .i64 b0, .int .i64 b1, .int .i64 b2, .slice a0 a4 a2, .slice a1 a5 a3], true⟩, ⟨bm3, 3, [.int .i64 b3], true⟩, ⟨bm4, 3, [.int .i64 b4], true⟩, ⟨bm5, 3, [.int .i64 0], false⟩])
def yfN (b7 : BA) (bm0 bm1 bm2 bm3 bm4 bm5 : Nat) : Int × ByteArray × Int × Int × Int × Int × Int × Int × (Option Addr) × Nat × Nat × (Option Addr) × Nat × Nat × Int × Int × Int → List Value × List TB := fun (b6, a6, a7, a8, a9, b0, b1, b2, a0, a4, a2, a1, a5, a3, b3, b4, b5) => ([.string b7, (.pointer (some ⟨bm0, 0, none⟩)), (.pointer (some ⟨bm1, 0, none⟩)), (.pointer (some ⟨bm2, 0, none⟩)), (.pointer (some ⟨bm5, 0, none⟩)), .int .i64 b6], [⟨bm0, 27, [.int .i64 0, .int .i64 0, .int .i64 0, .int .i64 0, .slice none 0 0, .slice none 0 0], false⟩, ⟨bm1, 151, [.string a6, .int .i64 a7, .int .i64 a8], true⟩, ⟨bm2, 27, [.int .i64 a9, .int .i64 b0, .int .i64 b1, .int .i64 b2, .slice a0 a4 a2, .slice a1 a5 a3], true⟩, ⟨bm3, 3, [.int .i64 b3], true⟩, ⟨bm4, 3, [.int .i64 b4], true⟩, ⟨bm5, 3, [.int .i64 b5], true⟩])
abbrev yBL (a3 : BA) (a0 : OA) (a2 a1 bm0 bm1 bm2 bm3 bm4 bm5 : Nat) (I : Nat → Int → ByteArray → Int → Int → Int → Int → Int → Int → Option Addr → Nat → Nat → Option Addr → Nat → Nat → Int → Int → World → Prop) (m : Nat) : Kh := KG (yh9 a3 a0 a2 a1 bm0 bm1 bm2 bm3 bm4 bm5) (U16 I) m
theorem yeO {I : Nat → Int → ByteArray → Int → Int → Int → Int → Int → Int → Option Addr → Nat → Nat → Option Addr → Nat → Nat → Int → Int → World → Prop} (m' : Nat) (h1 : m' < m) (h2 : I m' i0 s1 i1 i2 i3 i4 i5 i6 q1 n8 n9 q2 o0 o1 i7 i8 w) : KS (yBL s0 q0 n0 n1 n2 n3 n4 n5 n6 n7 I m) (yh9 s0 q0 n0 n1 n2 n3 n4 n5 n6 n7 (i0, s1, i1, i2, i3, i4, i5, i6, q1, n8, n9, q2, o0, o1, i7, i8)) w := ⟨m', h1, _, rfl, rfl, h2⟩
theorem yw2 (I : Nat → Int → ByteArray → Int → Int → Int → Int → Int → Int → Option Addr → Nat → Nat → Option Addr → Nat → Nat → Int → Int → World → Prop) (m0 : Nat) (h0 : I m0 i0 s1 i1 i2 i3 i4 i5 i6 q1 n8 n9 q2 o0 o1 i7 i8 w0)
 (hr : ∀ m b6 a7 a8 a9 b4 b0 b1 b2 a1 a5 a3 a2 a6 a4 a0 b3 w, I m b6 a7 a8 a9 b4 b0 b1 b2 a1 a5 a3 a2 a6 a4 a0 b3 w →
 w.heap[n3]? = some (.cells (Z2 a7 a8 a9) 151) →
 w.heap[n4]? = some (.cells (Z3 b4 b0 b1 b2 a1 a5 a3 a2 a6 a4) 27) →
 w.heap[n5]? = some (.cells #[.int .i64 a0] 3) →
 w.heap[n6]? = some (.cells #[.int .i64 b3] 3) →
 brB (decide (b6 < (5 : Int))) (
 ixA q0 n0 b6 1 fun f4 =>
 ypC w f4 fun f3 =>
 Calls pP 112 #[(.pointer (some ⟨n3, 0, none⟩)), .pointer f3] w fun e c6 => e = .returned (.tuple #[]) ∧ ya2 [n3, n4, n5, n6] [(n2, 27), (n7, 3)] [n2, n7] w c6 ∧ ∃ e4 e5 e6, c6.heap[n3]? = some (.cells (Z2 e4 e5 e6) 151) ∧ ∃ e7 e8 e9 f0 d8 e2 e0 d9 e3 e1, c6.heap[n4]? = some (.cells (Z3 e7 e8 e9 f0 d8 e2 e0 d9 e3 e1) 27) ∧ ∃ f1, c6.heap[n5]? = some (.cells #[.int .i64 f1] 3) ∧ ∃ f2, c6.heap[n6]? = some (.cells #[.int .i64 f2] 3) ∧
 KS (yBL s0 q0 n0 n1 n2 n3 n4 n5 n6 n7 I m) (yh9 s0 q0 n0 n1 n2 n3 n4 n5 n6 n7 ((IntKind.wrap .i64 (b6 + 1)), e4, e5, e6, e7, e8, e9, f0, d8, e2, e0, d9, e3, e1, f1, f2)) c6)
 (
 ∀ b5, Adv [n4] [] w b5 → b5.heap[n3]? = some (.cells (Z2 a7 a8 a9) 151) →
 b5.heap[n4]? = some (.cells (Z3 a0 b0 b1 b2 a1 a5 a3 a2 a6 a4) 27) →
 b5.heap[n5]? = some (.cells #[.int .i64 a0] 3) →
 b5.heap[n6]? = some (.cells #[.int .i64 b3] 3) →
 yaK yo1 (yiK 392 [0, 0, 1, 0, 1, 1, 1, 1, 1, 1]) (ykL [1, 1, 1, 1, 1, 1, 0, 1, 0] [] R) (ye5 s0 n2 n3 n4 n5 n6 n7 (0, a7, a8, a9, a0, b0, b1, b2, a1, a5, a3, a2, a6, a4, a0, b3)) b5)) :
 yaK yo0 (yiK 394 [0, 0, 1, 0, 1, 1, 1, 1]) (ykL [1, 1, 1, 1, 0, 1, 0] [] R) (yh9 s0 q0 n0 n1 n2 n3 n4 n5 n6 n7 (i0, s1, i1, i2, i3, i4, i5, i6, q1, n8, n9, q2, o0, o1, i7, i8)) w0 :=
 lrule (yh9 s0 q0 n0 n1 n2 n3 n4 n5 n6 n7) (U16 I) h0 (by rintro m ⟨b6, a7, a8, a9, b4, b0, b1, b2, a1, a5, a3, a2, a6, a4, a0, b3⟩ w h; exact ⟨by kernel_rfl, by kernel_rfl, fun js => Eq.mpr (by kernel_rfl) (hr m b6 a7 a8 a9 b4 b0 b1 b2 a1 a5 a3 a2 a6 a4 a0 b3 w h)⟩)
abbrev ykM (a0 : BA) (bm0 bm1 bm2 bm3 bm4 bm5 : Nat) (I : Nat → Int → ByteArray → Int → Int → Int → Int → Int → Int → Option Addr → Nat → Nat → Option Addr → Nat → Nat → Int → Int → World → Prop) (m : Nat) : Kh := KG (ye5 a0 bm0 bm1 bm2 bm3 bm4 bm5) (U16 I) m
theorem yf0 {I : Nat → Int → ByteArray → Int → Int → Int → Int → Int → Int → Option Addr → Nat → Nat → Option Addr → Nat → Nat → Int → Int → World → Prop} (m' : Nat) (h1 : m' < m) (h2 : I m' i0 s1 i1 i2 i3 i4 i5 i6 q0 n6 n7 q1 n8 n9 i7 i8 w) : KS (ykM s0 n0 n1 n2 n3 n4 n5 I m) (ye5 s0 n0 n1 n2 n3 n4 n5 (i0, s1, i1, i2, i3, i4, i5, i6, q0, n6, n7, q1, n8, n9, i7, i8)) w := ⟨m', h1, _, rfl, rfl, h2⟩
theorem yw3 (I : Nat → Int → ByteArray → Int → Int → Int → Int → Int → Int → Option Addr → Nat → Nat → Option Addr → Nat → Nat → Int → Int → World → Prop) (m0 : Nat) (h0 : I m0 i0 s1 i1 i2 i3 i4 i5 i6 q0 n6 n7 q1 n8 n9 i7 i8 w0)
 (hr : ∀ m c3 a9 b0 a1 b1 b2 b3 b4 a3 a7 a5 a4 a8 a6 b5 a2 w, I m c3 a9 b0 a1 b1 b2 b3 b4 a3 a7 a5 a4 a8 a6 b5 a2 w →
 w.heap[n1]? = some (.cells (Z2 a9 b0 a1) 151) →
 w.heap[n2]? = some (.cells (Z3 b1 b2 b3 b4 a3 a7 a5 a4 a8 a6) 27) →
 w.heap[n3]? = some (.cells #[.int .i64 b5] 3) →
 w.heap[n4]? = some (.cells #[.int .i64 a2] 3) →
 brB (decide (c3 < a2)) (
 brB (a1 == 0) (
 ∀ a0, w.heap.size ≤ a0 →
 ∀ e8, Adv [] [a0] w e8 → e8.heap[n1]? = some (.cells (Z2 a9 b0 a1) 151) →
 e8.heap[n2]? = some (.cells (Z3 b1 b2 b3 b4 a3 a7 a5 a4 a8 a6) 27) →
 e8.heap[n3]? = some (.cells #[.int .i64 b5] 3) →
 e8.heap[n4]? = some (.cells #[.int .i64 a2] 3) →
 e8.heap[a0]? = some (.cells (Z6 0 false ByteArray.empty false ByteArray.empty) 55) →
 Calls pP 112 #[(.pointer (some ⟨n1, 0, none⟩)), (.pointer (some ⟨a0, 0, none⟩))] e8 fun e d3 => e = .returned (.tuple #[]) ∧ ya2 [n1, n2, n3, n4, a0] [(n0, 27), (n5, 3)] [n0, n5] e8 d3 ∧ ∃ v0 v1 ci, d3.heap[n1]? = some (.cells (Z2 v0 v1 ci) 151) ∧ ∃ cj ck cl cm x8 ac z0 x9 ad z1, d3.heap[n2]? = some (.cells (Z3 cj ck cl cm x8 ac z0 x9 ad z1) 27) ∧ ∃ cn, d3.heap[n3]? = some (.cells #[.int .i64 cn] 3) ∧ ∃ co, d3.heap[n4]? = some (.cells #[.int .i64 co] 3) ∧ ∃ cp ap aj aq ak, d3.heap[a0]? = some (.cells (Z6 cp ap aj aq ak) 55) ∧
 ((
 ∀ d2, d3.heap.size ≤ d2 →
 ∀ e9, Adv [] [d2] d3 e9 → e9.heap[n1]? = some (.cells (Z2 v0 v1 ci) 151) →
 e9.heap[n2]? = some (.cells (Z3 cj ck cl cm x8 ac z0 x9 ad z1) 27) →
 e9.heap[n3]? = some (.cells #[.int .i64 cn] 3) →
 e9.heap[n4]? = some (.cells #[.int .i64 co] 3) →
 e9.heap[a0]? = some (.cells (Z6 cp ap aj aq ak) 55) →
 Calls pP 113 #[.string v0, .int .i64 v1] e9 fun e f2 => ∃ w5 w3 w6 w4 dc dd, e = .returned (.tuple #[(.agg (Z7 w5 w3 w6 w4)), .int .i64 dc, .int .i64 dd]) ∧ ya2 [n1, n2, n3, n4, a0] [(n0, 27), (n5, 3), (d2, 53)] [n0, n5, d2] e9 f2 ∧ ∃ cw de df, f2.heap[n1]? = some (.cells (Z2 cw de df) 151) ∧ ∃ dg dh di dj cq cu cs cr cv ct, f2.heap[n2]? = some (.cells (Z3 dg dh di dj cq cu cs cr cv ct) 27) ∧ ∃ dk, f2.heap[n3]? = some (.cells #[.int .i64 dk] 3) ∧ ∃ dl, f2.heap[n4]? = some (.cells #[.int .i64 dl] 3) ∧ ∃ dm cz cx da cy, f2.heap[a0]? = some (.cells (Z6 dm cz cx da cy) 55) ∧
 ∀ f0, Adv [d2] [] f2 f0 → f0.heap[n1]? = some (.cells (Z2 cw de df) 151) →
 f0.heap[n2]? = some (.cells (Z3 dg dh di dj cq cu cs cr cv ct) 27) →
 f0.heap[n3]? = some (.cells #[.int .i64 dk] 3) →
 f0.heap[n4]? = some (.cells #[.int .i64 dl] 3) →
 f0.heap[a0]? = some (.cells (Z6 dm cz cx da cy) 55) →
 Calls pP 114 (Z10 (some ⟨n1, 0, none⟩) dc dd) f0 fun e f1 => ∃ db, e = .returned (.bool db) ∧ ya2 [n1, n2, n3, n4, a0] [(n0, 27), (n5, 3), (d2, 53)] [n0, n5, d2] f0 f1 ∧ ∃ g2 g4 g5, f1.heap[n1]? = some (.cells (Z2 g2 g4 g5) 151) ∧ ∃ g6 g7 g8 g9 v9 w2 w1 f3 f9 f6, f1.heap[n2]? = some (.cells (Z3 g6 g7 g8 g9 v9 w2 w1 f3 f9 f6) 27) ∧ ∃ h1, f1.heap[n3]? = some (.cells #[.int .i64 h1] 3) ∧ ∃ h2, f1.heap[n4]? = some (.cells #[.int .i64 h2] 3) ∧ ∃ h3 ar v2 v6 v3, f1.heap[a0]? = some (.cells (Z6 h3 ar v2 v6 v3) 55) ∧
 brB db (
 ∀ c4, Adv [a0] [] f1 c4 → c4.heap[n1]? = some (.cells (Z2 g2 g4 g5) 151) →
 c4.heap[n2]? = some (.cells (Z3 g6 g7 g8 g9 v9 w2 w1 f3 f9 f6) 27) →
 c4.heap[n3]? = some (.cells #[.int .i64 h1] 3) →
 c4.heap[n4]? = some (.cells #[.int .i64 h2] 3) →
 c4.heap[a0]? = some (.cells (Z6 h3 w5 w3 w6 w4) 55) →
 al c4 (.cells (Z6 h3 w5 w3 w6 w4) 55) fun dn au =>
 yc6 pP (Builtin.append_ #[24, 24] 24 #[.slice v9 w2 w1, (.slice (some ⟨dn, 0, none⟩) 1 1)]) au fun w8 z2 y0 av => yaE [n0, n1, n2, n3, n4, n5, a0, d2] au av ∧
 ∀ c5, Adv [n2] [] av c5 → c5.heap[n1]? = some (.cells (Z2 g2 g4 g5) 151) →
 c5.heap[n2]? = some (.cells (Z3 g6 g7 g8 g9 w8 z2 y0 f3 f9 f6) 27) →
 c5.heap[n3]? = some (.cells #[.int .i64 h1] 3) →
 c5.heap[n4]? = some (.cells #[.int .i64 h2] 3) →
 c5.heap[a0]? = some (.cells (Z6 h3 w5 w3 w6 w4) 55) →
 KS (ykM s0 n0 n1 n2 n3 n4 n5 I m) (ye5 s0 n0 n1 n2 n3 n4 n5 ((IntKind.wrap .i64 (c3 + 1)), g2, g4, g5, g6, g7, g8, g9, w8, z2, y0, f3, f9, f6, h1, h2)) c5)
 (
 al f1 (.cells (Z6 h3 ar v2 v6 v3) 55) fun dp aw =>
 yc6 pP (Builtin.append_ #[24, 24] 24 #[.slice v9 w2 w1, (.slice (some ⟨dp, 0, none⟩) 1 1)]) aw fun w9 z3 y1 ax => yaE [n0, n1, n2, n3, n4, n5, a0, d2] aw ax ∧
 ∀ c6, Adv [n2] [] ax c6 → c6.heap[n1]? = some (.cells (Z2 g2 g4 g5) 151) →
 c6.heap[n2]? = some (.cells (Z3 g6 g7 g8 g9 w9 z3 y1 f3 f9 f6) 27) →
 c6.heap[n3]? = some (.cells #[.int .i64 h1] 3) →
 c6.heap[n4]? = some (.cells #[.int .i64 h2] 3) →
 c6.heap[a0]? = some (.cells (Z6 h3 ar v2 v6 v3) 55) →
 KS (ykM s0 n0 n1 n2 n3 n4 n5 I m) (ye5 s0 n0 n1 n2 n3 n4 n5 ((IntKind.wrap .i64 (c3 + 1)), g2, g4, g5, g6, g7, g8, g9, w9, z3, y1, f3, f9, f6, h1, h2)) c6)) ∧
 (
 ∀ b7, Adv [] [] d3 b7 → b7.heap[n1]? = some (.cells (Z2 v0 v1 ci) 151) →
 b7.heap[n2]? = some (.cells (Z3 cj ck cl cm x8 ac z0 x9 ad z1) 27) →
 b7.heap[n3]? = some (.cells #[.int .i64 cn] 3) →
 b7.heap[n4]? = some (.cells #[.int .i64 co] 3) →
 b7.heap[a0]? = some (.cells (Z6 cp ap aj aq ak) 55) →
 Calls pP 113 #[.string v0, .int .i64 v1] b7 fun e b8 => ∃ u7 u5 u9 u6 bc bd, e = .returned (.tuple #[(.agg (Z7 u7 u5 u9 u6)), .int .i64 bc, .int .i64 bd]) ∧ ya2 [n1, n2, n3, n4, a0] [(n0, 27), (n5, 3)] [n0, n5] b7 b8 ∧ ∃ ae be bf, b8.heap[n1]? = some (.cells (Z2 ae be bf) 151) ∧ ∃ bg bh bi bj x0 z4 y2 x1 z5 y3, b8.heap[n2]? = some (.cells (Z3 bg bh bi bj x0 z4 y2 x1 z5 y3) 27) ∧ ∃ bk, b8.heap[n3]? = some (.cells #[.int .i64 bk] 3) ∧ ∃ bl, b8.heap[n4]? = some (.cells #[.int .i64 bl] 3) ∧ ∃ bm am af an ag, b8.heap[a0]? = some (.cells (Z6 bm am af an ag) 55) ∧
 ∀ d5, b8.heap.size ≤ d5 →
 ∀ b9, Adv [] [d5] b8 b9 → b9.heap[n1]? = some (.cells (Z2 ae be bf) 151) →
 b9.heap[n2]? = some (.cells (Z3 bg bh bi bj x0 z4 y2 x1 z5 y3) 27) →
 b9.heap[n3]? = some (.cells #[.int .i64 bk] 3) →
 b9.heap[n4]? = some (.cells #[.int .i64 bl] 3) →
 b9.heap[a0]? = some (.cells (Z6 bm am af an ag) 55) →
 Calls pP 114 (Z10 (some ⟨n1, 0, none⟩) bc bd) b9 fun e c0 => ∃ ao, e = .returned (.bool ao) ∧ ya2 [n1, n2, n3, n4, a0] [(n0, 27), (n5, 3), (d5, 53)] [n0, n5, d5] b9 c0 ∧ ∃ d8 d9 e0, c0.heap[n1]? = some (.cells (Z2 d8 d9 e0) 151) ∧ ∃ e1 e2 e3 e4 u2 u4 u3 d4 d7 d6, c0.heap[n2]? = some (.cells (Z3 e1 e2 e3 e4 u2 u4 u3 d4 d7 d6) 27) ∧ ∃ e5, c0.heap[n3]? = some (.cells #[.int .i64 e5] 3) ∧ ∃ e6, c0.heap[n4]? = some (.cells #[.int .i64 e6] 3) ∧ ∃ e7 v7 v4 v8 v5, c0.heap[a0]? = some (.cells (Z6 e7 v7 v4 v8 v5) 55) ∧
 brB ao (
 ∀ c7, Adv [a0] [] c0 c7 → c7.heap[n1]? = some (.cells (Z2 d8 d9 e0) 151) →
 c7.heap[n2]? = some (.cells (Z3 e1 e2 e3 e4 u2 u4 u3 d4 d7 d6) 27) →
 c7.heap[n3]? = some (.cells #[.int .i64 e5] 3) →
 c7.heap[n4]? = some (.cells #[.int .i64 e6] 3) →
 c7.heap[a0]? = some (.cells (Z6 e7 u7 u5 u9 u6) 55) →
 al c7 (.cells (Z6 e7 u7 u5 u9 u6) 55) fun dq ay =>
 yc6 pP (Builtin.append_ #[24, 24] 24 #[.slice u2 u4 u3, (.slice (some ⟨dq, 0, none⟩) 1 1)]) ay fun x2 z6 y4 az => yaE [n0, n1, n2, n3, n4, n5, a0, d5] ay az ∧
 ∀ c8, Adv [n2] [] az c8 → c8.heap[n1]? = some (.cells (Z2 d8 d9 e0) 151) →
 c8.heap[n2]? = some (.cells (Z3 e1 e2 e3 e4 x2 z6 y4 d4 d7 d6) 27) →
 c8.heap[n3]? = some (.cells #[.int .i64 e5] 3) →
 c8.heap[n4]? = some (.cells #[.int .i64 e6] 3) →
 c8.heap[a0]? = some (.cells (Z6 e7 u7 u5 u9 u6) 55) →
 KS (ykM s0 n0 n1 n2 n3 n4 n5 I m) (ye5 s0 n0 n1 n2 n3 n4 n5 ((IntKind.wrap .i64 (c3 + 1)), d8, d9, e0, e1, e2, e3, e4, x2, z6, y4, d4, d7, d6, e5, e6)) c8)
 (
 al c0 (.cells (Z6 e7 v7 v4 v8 v5) 55) fun dr ba =>
 yc6 pP (Builtin.append_ #[24, 24] 24 #[.slice u2 u4 u3, (.slice (some ⟨dr, 0, none⟩) 1 1)]) ba fun x3 z7 y5 bb => yaE [n0, n1, n2, n3, n4, n5, a0, d5] ba bb ∧
 ∀ c9, Adv [n2] [] bb c9 → c9.heap[n1]? = some (.cells (Z2 d8 d9 e0) 151) →
 c9.heap[n2]? = some (.cells (Z3 e1 e2 e3 e4 x3 z7 y5 d4 d7 d6) 27) →
 c9.heap[n3]? = some (.cells #[.int .i64 e5] 3) →
 c9.heap[n4]? = some (.cells #[.int .i64 e6] 3) →
 c9.heap[a0]? = some (.cells (Z6 e7 v7 v4 v8 v5) 55) →
 KS (ykM s0 n0 n1 n2 n3 n4 n5 I m) (ye5 s0 n0 n1 n2 n3 n4 n5 ((IntKind.wrap .i64 (c3 + 1)), d8, d9, e0, e1, e2, e3, e4, x3, z7, y5, d4, d7, d6, e5, e6)) c9))))
 (
 ∀ c1, Adv [] [] w c1 → c1.heap[n1]? = some (.cells (Z2 a9 b0 a1) 151) →
 c1.heap[n2]? = some (.cells (Z3 b1 b2 b3 b4 a3 a7 a5 a4 a8 a6) 27) →
 c1.heap[n3]? = some (.cells #[.int .i64 b5] 3) →
 c1.heap[n4]? = some (.cells #[.int .i64 a2] 3) →
 c1.heap[n5]? = some (.cells #[.int .i64 0] 3) →
 Calls pP 112 #[(.pointer (some ⟨n1, 0, none⟩)), (.pointer (some ⟨n5, 0, none⟩))] c1 fun e d0 => e = .returned (.tuple #[]) ∧ ya2 [n1, n2, n3, n4, n5] [(n0, 27)] [n0] c1 d0 ∧ ∃ ah bn bo, d0.heap[n1]? = some (.cells (Z2 ah bn bo) 151) ∧ ∃ bp bq br bt x4 z8 y6 x5 z9 y7, d0.heap[n2]? = some (.cells (Z3 bp bq br bt x4 z8 y6 x5 z9 y7) 27) ∧ ∃ bu, d0.heap[n3]? = some (.cells #[.int .i64 bu] 3) ∧ ∃ bv, d0.heap[n4]? = some (.cells #[.int .i64 bv] 3) ∧ ∃ bw, d0.heap[n5]? = some (.cells #[.int .i64 bw] 3) ∧
 yaK yg9 (yiK 390 [0, 0, 1, 0, 1, 1, 1, 1, 1, 1, 1, 1]) (ykL [1, 1, 1, 1, 1, 1, 1, 1, 0, 1, 0] [] R) (yfN s0 n0 n1 n2 n3 n4 n5 (0, ah, bn, bo, bp, bq, br, bt, x4, z8, y6, x5, z9, y7, bu, bv, bw)) d0))
 (
 ∀ c2, Adv [] [] w c2 → c2.heap[n1]? = some (.cells (Z2 a9 b0 a1) 151) →
 c2.heap[n2]? = some (.cells (Z3 b1 b2 b3 b4 a3 a7 a5 a4 a8 a6) 27) →
 c2.heap[n3]? = some (.cells #[.int .i64 b5] 3) →
 c2.heap[n4]? = some (.cells #[.int .i64 a2] 3) →
 c2.heap[n5]? = some (.cells #[.int .i64 0] 3) →
 Calls pP 112 #[(.pointer (some ⟨n1, 0, none⟩)), (.pointer (some ⟨n5, 0, none⟩))] c2 fun e d1 => e = .returned (.tuple #[]) ∧ ya2 [n1, n2, n3, n4, n5] [(n0, 27)] [n0] c2 d1 ∧ ∃ ai bx bz, d1.heap[n1]? = some (.cells (Z2 ai bx bz) 151) ∧ ∃ ca cb cc cd x6 aa y8 x7 ab y9, d1.heap[n2]? = some (.cells (Z3 ca cb cc cd x6 aa y8 x7 ab y9) 27) ∧ ∃ ce, d1.heap[n3]? = some (.cells #[.int .i64 ce] 3) ∧ ∃ cf, d1.heap[n4]? = some (.cells #[.int .i64 cf] 3) ∧ ∃ ch, d1.heap[n5]? = some (.cells #[.int .i64 ch] 3) ∧
 yaK yg9 (yiK 390 [0, 0, 1, 0, 1, 1, 1, 1, 1, 1, 1, 1]) (ykL [1, 1, 1, 1, 1, 1, 1, 1, 0, 1, 0] [] R) (yfN s0 n0 n1 n2 n3 n4 n5 (0, ai, bx, bz, ca, cb, cc, cd, x6, aa, y8, x7, ab, y9, ce, cf, ch)) d1)) :
 yaK yo1 (yiK 392 [0, 0, 1, 0, 1, 1, 1, 1, 1, 1]) (ykL [1, 1, 1, 1, 1, 1, 0, 1, 0] [] R) (ye5 s0 n0 n1 n2 n3 n4 n5 (i0, s1, i1, i2, i3, i4, i5, i6, q0, n6, n7, q1, n8, n9, i7, i8)) w0 :=
 lrule (ye5 s0 n0 n1 n2 n3 n4 n5) (U16 I) h0 (by rintro m ⟨c3, a9, b0, a1, b1, b2, b3, b4, a3, a7, a5, a4, a8, a6, b5, a2⟩ w h; exact ⟨by kernel_rfl, by kernel_rfl, fun js => Eq.mpr (by kernel_rfl) (hr m c3 a9 b0 a1 b1 b2 b3 b4 a3 a7 a5 a4 a8 a6 b5 a2 w h)⟩)
abbrev yBM (a0 : BA) (bm0 bm1 bm2 bm3 bm4 bm5 : Nat) (I : Nat → Int → ByteArray → Int → Int → Int → Int → Int → Int → Option Addr → Nat → Nat → Option Addr → Nat → Nat → Int → Int → Int → World → Prop) (m : Nat) : Kh := KG (yfN a0 bm0 bm1 bm2 bm3 bm4 bm5) (U17 I) m
theorem yw4 {I : Nat → Int → ByteArray → Int → Int → Int → Int → Int → Int → Option Addr → Nat → Nat → Option Addr → Nat → Nat → Int → Int → Int → World → Prop} (m' : Nat) (h1 : m' < m) (h2 : I m' i0 s1 i1 i2 i3 i4 i5 i6 q0 n6 n7 q1 n8 n9 i7 i8 i9 w) : KS (yBM s0 n0 n1 n2 n3 n4 n5 I m) (yfN s0 n0 n1 n2 n3 n4 n5 (i0, s1, i1, i2, i3, i4, i5, i6, q0, n6, n7, q1, n8, n9, i7, i8, i9)) w := ⟨m', h1, _, rfl, rfl, h2⟩
theorem yw5 (I : Nat → Int → ByteArray → Int → Int → Int → Int → Int → Int → Option Addr → Nat → Nat → Option Addr → Nat → Nat → Int → Int → Int → World → Prop) (m0 : Nat) (h0 : I m0 i0 s1 i1 i2 i3 i4 i5 i6 q0 n6 n7 q1 n8 n9 i7 i8 i9 w0)
 (hr : ∀ m g2 b6 b9 b2 a6 a7 a8 a9 a0 a4 a2 a1 a5 a3 c0 c1 b3 w, I m g2 b6 b9 b2 a6 a7 a8 a9 a0 a4 a2 a1 a5 a3 c0 c1 b3 w →
 w.heap[n1]? = some (.cells (Z2 b6 b9 b2) 151) →
 w.heap[n2]? = some (.cells (Z3 a6 a7 a8 a9 a0 a4 a2 a1 a5 a3) 27) →
 w.heap[n3]? = some (.cells #[.int .i64 c0] 3) →
 w.heap[n4]? = some (.cells #[.int .i64 c1] 3) →
 w.heap[n5]? = some (.cells #[.int .i64 b3] 3) →
 brB (decide (g2 < b3)) (
 brB (b2 == 0) (
 ∀ b5, w.heap.size ≤ b5 →
 ∀ b4, Adv [] [b5] w b4 → b4.heap[n1]? = some (.cells (Z2 b6 b9 b2) 151) →
 b4.heap[n2]? = some (.cells (Z3 a6 a7 a8 a9 a0 a4 a2 a1 a5 a3) 27) →
 b4.heap[n3]? = some (.cells #[.int .i64 c0] 3) →
 b4.heap[n4]? = some (.cells #[.int .i64 c1] 3) →
 b4.heap[n5]? = some (.cells #[.int .i64 b3] 3) →
 b4.heap[b5]? = some (.cells #[.string ByteArray.empty, .int .i64 0] 43) →
 Calls pP 60 #[(.iface 149 (.pointer (some ⟨n1, 0, none⟩))), (.pointer (some ⟨b5, 0, none⟩))] b4 fun e b7 => e = .returned (.tuple #[]) ∧ ya2 [n1, n2, n3, n4, n5, b5] [(n0, 27)] [n0] b4 b7 ∧ ∃ u4 u6 u7, b7.heap[n1]? = some (.cells (Z2 u4 u6 u7) 151) ∧ ∃ u9 v0 v1 v2 u1 u3 u2 v8 w3 w1, b7.heap[n2]? = some (.cells (Z3 u9 v0 v1 v2 u1 u3 u2 v8 w3 w1) 27) ∧ ∃ v3, b7.heap[n3]? = some (.cells #[.int .i64 v3] 3) ∧ ∃ v4, b7.heap[n4]? = some (.cells #[.int .i64 v4] 3) ∧ ∃ v5, b7.heap[n5]? = some (.cells #[.int .i64 v5] 3) ∧ ∃ u5 v6, b7.heap[b5]? = some (.cells #[.string u5, .int .i64 v6] 43) ∧
 al b7 (.cells #[.string u5, .int .i64 v6] 43) fun x1 w7 =>
 yc6 pP (Builtin.append_ #[25, 25] 25 #[.slice v8 w3 w1, (.slice (some ⟨x1, 0, none⟩) 1 1)]) w7 fun v9 w4 w2 w8 => yaE [n0, n1, n2, n3, n4, n5, b5] w7 w8 ∧
 ∀ b8, Adv [n2] [] w8 b8 → b8.heap[n1]? = some (.cells (Z2 u4 u6 u7) 151) →
 b8.heap[n2]? = some (.cells (Z3 u9 v0 v1 v2 u1 u3 u2 v9 w4 w2) 27) →
 b8.heap[n3]? = some (.cells #[.int .i64 v3] 3) →
 b8.heap[n4]? = some (.cells #[.int .i64 v4] 3) →
 b8.heap[n5]? = some (.cells #[.int .i64 v5] 3) →
 b8.heap[b5]? = some (.cells #[.string u5, .int .i64 v6] 43) →
 KS (yBM s0 n0 n1 n2 n3 n4 n5 I m) (yfN s0 n0 n1 n2 n3 n4 n5 ((IntKind.wrap .i64 (g2 + 1)), u4, u6, u7, u9, v0, v1, v2, u1, u3, u2, v9, w4, w2, v3, v4, v5)) b8)
 (
 Calls pP 26 #[(.agg (Z3 a6 a7 a8 a9 a0 a4 a2 a1 a5 a3))] w fun e b0 => ∃ w5 w9, e = .returned (.tuple #[.string w5, .int .i64 w9]) ∧ ya2 [n1, n2, n3, n4, n5] [(n0, 27)] [n0] w b0 ∧ ∃ f2 f4 e2, b0.heap[n1]? = some (.cells (Z2 f2 f4 e2) 151) ∧ ∃ e3 e4 e5 e6 d0 d8 d4 d1 d9 d5, b0.heap[n2]? = some (.cells (Z3 e3 e4 e5 e6 d0 d8 d4 d1 d9 d5) 27) ∧ ∃ f5, b0.heap[n3]? = some (.cells #[.int .i64 f5] 3) ∧ ∃ f6, b0.heap[n4]? = some (.cells #[.int .i64 f6] 3) ∧ ∃ f7, b0.heap[n5]? = some (.cells #[.int .i64 f7] 3) ∧
 brB (e2 != 0) (
 ∀ c2, Adv [n0] [] b0 c2 → c2.heap[n1]? = some (.cells (Z2 f2 f4 e2) 151) →
 c2.heap[n2]? = some (.cells (Z3 e3 e4 e5 e6 d0 d8 d4 d1 d9 d5) 27) →
 c2.heap[n3]? = some (.cells #[.int .i64 f5] 3) →
 c2.heap[n4]? = some (.cells #[.int .i64 f6] 3) →
 c2.heap[n5]? = some (.cells #[.int .i64 f7] 3) →
 R (.tuple #[(.agg (Z3 0 0 0 0 none 0 0 none 0 0)), .int .i64 40]) c2)
 (
 brB (w9 != 0) (
 ∀ c3, Adv [n0] [] b0 c3 → c3.heap[n1]? = some (.cells (Z2 f2 f4 e2) 151) →
 c3.heap[n2]? = some (.cells (Z3 e3 e4 e5 e6 d0 d8 d4 d1 d9 d5) 27) →
 c3.heap[n3]? = some (.cells #[.int .i64 f5] 3) →
 c3.heap[n4]? = some (.cells #[.int .i64 f6] 3) →
 c3.heap[n5]? = some (.cells #[.int .i64 f7] 3) →
 R (.tuple #[(.agg (Z3 0 0 0 0 none 0 0 none 0 0)), .int .i64 40]) c3)
 (
 brB (!(w5.toList == s0.toList)) (
 ∀ c4, Adv [n0] [] b0 c4 → c4.heap[n1]? = some (.cells (Z2 f2 f4 e2) 151) →
 c4.heap[n2]? = some (.cells (Z3 e3 e4 e5 e6 d0 d8 d4 d1 d9 d5) 27) →
 c4.heap[n3]? = some (.cells #[.int .i64 f5] 3) →
 c4.heap[n4]? = some (.cells #[.int .i64 f6] 3) →
 c4.heap[n5]? = some (.cells #[.int .i64 f7] 3) →
 R (.tuple #[(.agg (Z3 0 0 0 0 none 0 0 none 0 0)), .int .i64 40]) c4)
 (
 ∀ c5, Adv [n0] [] b0 c5 → c5.heap[n1]? = some (.cells (Z2 f2 f4 e2) 151) →
 c5.heap[n2]? = some (.cells (Z3 e3 e4 e5 e6 d0 d8 d4 d1 d9 d5) 27) →
 c5.heap[n3]? = some (.cells #[.int .i64 f5] 3) →
 c5.heap[n4]? = some (.cells #[.int .i64 f6] 3) →
 c5.heap[n5]? = some (.cells #[.int .i64 f7] 3) →
 R (.tuple #[(.agg (Z3 e3 e4 e5 e6 d0 d8 d4 d1 d9 d5)), .int .i64 0]) c5)))))
 (
 Calls pP 26 #[(.agg (Z3 a6 a7 a8 a9 a0 a4 a2 a1 a5 a3))] w fun e b1 => ∃ w6 x0, e = .returned (.tuple #[.string w6, .int .i64 x0]) ∧ ya2 [n1, n2, n3, n4, n5] [(n0, 27)] [n0] w b1 ∧ ∃ f3 f8 e7, b1.heap[n1]? = some (.cells (Z2 f3 f8 e7) 151) ∧ ∃ e8 e9 f0 f1 d2 e0 d6 d3 e1 d7, b1.heap[n2]? = some (.cells (Z3 e8 e9 f0 f1 d2 e0 d6 d3 e1 d7) 27) ∧ ∃ f9, b1.heap[n3]? = some (.cells #[.int .i64 f9] 3) ∧ ∃ g0, b1.heap[n4]? = some (.cells #[.int .i64 g0] 3) ∧ ∃ g1, b1.heap[n5]? = some (.cells #[.int .i64 g1] 3) ∧
 brB (e7 != 0) (
 ∀ c6, Adv [n0] [] b1 c6 → c6.heap[n1]? = some (.cells (Z2 f3 f8 e7) 151) →
 c6.heap[n2]? = some (.cells (Z3 e8 e9 f0 f1 d2 e0 d6 d3 e1 d7) 27) →
 c6.heap[n3]? = some (.cells #[.int .i64 f9] 3) →
 c6.heap[n4]? = some (.cells #[.int .i64 g0] 3) →
 c6.heap[n5]? = some (.cells #[.int .i64 g1] 3) →
 R (.tuple #[(.agg (Z3 0 0 0 0 none 0 0 none 0 0)), .int .i64 40]) c6)
 (
 brB (x0 != 0) (
 ∀ c7, Adv [n0] [] b1 c7 → c7.heap[n1]? = some (.cells (Z2 f3 f8 e7) 151) →
 c7.heap[n2]? = some (.cells (Z3 e8 e9 f0 f1 d2 e0 d6 d3 e1 d7) 27) →
 c7.heap[n3]? = some (.cells #[.int .i64 f9] 3) →
 c7.heap[n4]? = some (.cells #[.int .i64 g0] 3) →
 c7.heap[n5]? = some (.cells #[.int .i64 g1] 3) →
 R (.tuple #[(.agg (Z3 0 0 0 0 none 0 0 none 0 0)), .int .i64 40]) c7)
 (
 brB (!(w6.toList == s0.toList)) (
 ∀ c8, Adv [n0] [] b1 c8 → c8.heap[n1]? = some (.cells (Z2 f3 f8 e7) 151) →
 c8.heap[n2]? = some (.cells (Z3 e8 e9 f0 f1 d2 e0 d6 d3 e1 d7) 27) →
 c8.heap[n3]? = some (.cells #[.int .i64 f9] 3) →
 c8.heap[n4]? = some (.cells #[.int .i64 g0] 3) →
 c8.heap[n5]? = some (.cells #[.int .i64 g1] 3) →
 R (.tuple #[(.agg (Z3 0 0 0 0 none 0 0 none 0 0)), .int .i64 40]) c8)
 (
 ∀ c9, Adv [n0] [] b1 c9 → c9.heap[n1]? = some (.cells (Z2 f3 f8 e7) 151) →
 c9.heap[n2]? = some (.cells (Z3 e8 e9 f0 f1 d2 e0 d6 d3 e1 d7) 27) →
 c9.heap[n3]? = some (.cells #[.int .i64 f9] 3) →
 c9.heap[n4]? = some (.cells #[.int .i64 g0] 3) →
 c9.heap[n5]? = some (.cells #[.int .i64 g1] 3) →
 R (.tuple #[(.agg (Z3 e8 e9 f0 f1 d2 e0 d6 d3 e1 d7)), .int .i64 0]) c9))))) :
 yaK yg9 (yiK 390 [0, 0, 1, 0, 1, 1, 1, 1, 1, 1, 1, 1]) (ykL [1, 1, 1, 1, 1, 1, 1, 1, 0, 1, 0] [] R) (yfN s0 n0 n1 n2 n3 n4 n5 (i0, s1, i1, i2, i3, i4, i5, i6, q0, n6, n7, q1, n8, n9, i7, i8, i9)) w0 :=
 lrule (yfN s0 n0 n1 n2 n3 n4 n5) (U17 I) h0 (by rintro m ⟨g2, b6, b9, b2, a6, a7, a8, a9, a0, a4, a2, a1, a5, a3, c0, c1, b3⟩ w h; exact ⟨by kernel_rfl, by kernel_rfl, fun js => Eq.mpr (by kernel_rfl) (hr m g2 b6 b9 b2 a6 a7 a8 a9 a0 a4 a2 a1 a5 a3 c0 c1 b3 w h)⟩)
theorem yGd (h :
 ∀ b1, w.heap.size ≤ b1 →
 ∀ b2, w.heap.size ≤ b2 →
 ∀ b3, w.heap.size ≤ b3 →
 ∀ b4, w.heap.size ≤ b4 →
 ∀ b5, w.heap.size ≤ b5 →
 ∀ b6, w.heap.size ≤ b6 →
 ∀ w7, Adv [] [b6, b5, b4, b3, b2, b1] w w7 → w7.heap[b3]? = some (.cells (Z3 0 0 0 0 none 0 0 none 0 0) 27) →
 w7.heap[b4]? = some (.cells #[.int .i64 0] 3) →
 w7.heap[b5]? = some (.cells #[.int .i64 0] 3) →
 al w7 (.cells #[(.pointer (some ⟨b4, 0, none⟩)), (.pointer (some ⟨b3, 1, none⟩)), (.pointer (some ⟨b3, 2, none⟩)), (.pointer (some ⟨b3, 3, none⟩)), (.pointer (some ⟨b5, 0, none⟩))] 62) fun b8 w9 =>
 ∀ a0, Adv [] [] w9 a0 → a0.heap[b2]? = some (.cells (Z2 s0 0 0) 151) →
 a0.heap[b3]? = some (.cells (Z3 0 0 0 0 none 0 0 none 0 0) 27) →
 a0.heap[b4]? = some (.cells #[.int .i64 0] 3) →
 a0.heap[b5]? = some (.cells #[.int .i64 0] 3) →
 yaK yo0 (yiK 394 [0, 0, 1, 0, 1, 1, 1, 1]) (ykL [1, 1, 1, 1, 0, 1, 0] [] R) (yh9 s0 (some ⟨b8, 0, none⟩) 5 5 b1 b2 b3 b4 b5 b6 (0, s0, 0, 0, 0, 0, 0, 0, none, 0, 0, none, 0, 0, 0, 0)) a0) :
 CR pP 81 #[.string s0] w R :=
 yaA Tryz.wide_mixed (an := yo2) Tryz.func81 rfl rfl (by kernel_rfl) rfl (Eq.mpr (by kernel_rfl) h)
def yo3 : LA := ⟨[0, 0, 1, 0, 1, 1, 1], [0, 2, 3, 4, 15, 16], [(2, 0, 0), (3, 1, 0)], 2, [1]⟩
def yo4 : List LA := [yo3]
abbrev yEE := dnF pP yo4 (code Tryz.f42)
abbrev yKT := yaO pP yo4 (code Tryz.f42)
abbrev yEF (p : List Nat) (K : List Kh) (R : VWP) := yaO pP yo4 (code Tryz.f42) p K (ya4 pP Tryz.f42 [] R)
def yiA (d4 : BA) (b3 b4 b5 b6 b7 b8 b9 c0 c1 c2 : OA) (bm0 bm1 : Nat) : Int × Int × Int × Int × Int × Int × Int × Int × Int × Int × Int × Int × (Option Addr) × Nat × Nat × Int × Int × Int × Int × (Option Addr) × Nat × Nat × (Option Addr) × Nat × Nat → List Value × List TB := fun (d5, d3, c3, c4, c5, c6, c7, c8, c9, d0, d1, d2, a0, a6, a3, a9, b0, b1, b2, a1, a7, a4, a2, a8, a5) => ([.string d4, (.pointer (some ⟨bm0, 0, none⟩)), (.pointer (some ⟨bm1, 0, none⟩)), .int .i64 d5, (.agg (Z4 b3 b4 b5 b6 b7 b8 b9 c0 c1 c2)), .int .i64 d3], [⟨bm0, 29, [.int .i64 0, .int .i64 0, .int .i64 0, .int .i64 0, .int .i64 0, .int .i64 0, .int .i64 0, .int .i64 0, .int .i64 0, .int .i64 0, .slice none 0 0, .int .i64 0, .int .i64 0, .int .i64 0, .int .i64 0, .slice none 0 0, .slice none 0 0], false⟩, ⟨bm1, 29, [.int .i64 c3, .int .i64 c4, .int .i64 c5, .int .i64 c6, .int .i64 c7, .int .i64 c8, .int .i64 c9, .int .i64 d0, .int .i64 d1, .int .i64 d2, .slice a0 a6 a3, .int .i64 a9, .int .i64 b0, .int .i64 b1, .int .i64 b2, .slice a1 a7 a4, .slice a2 a8 a5], true⟩])
abbrev yBN (b0 : BA) (a0 a1 a2 a3 a4 a5 a6 a7 a8 a9 : OA) (bm0 bm1 : Nat) (I : Nat → Int → Int → Int → Int → Int → Int → Int → Int → Int → Int → Int → Int → Option Addr → Nat → Nat → Int → Int → Int → Int → Option Addr → Nat → Nat → Option Addr → Nat → Nat → World → Prop) (m : Nat) : Kh := KG (yiA b0 a0 a1 a2 a3 a4 a5 a6 a7 a8 a9 bm0 bm1) (U25 I) m
theorem yw6 {I : Nat → Int → Int → Int → Int → Int → Int → Int → Int → Int → Int → Int → Int → Option Addr → Nat → Nat → Int → Int → Int → Int → Option Addr → Nat → Nat → Option Addr → Nat → Nat → World → Prop} (m' : Nat) (h1 : m' < m) (h2 : I m' i0 i1 i2 i3 i4 i5 i6 i7 i8 i9 j0 j1 r0 n2 n3 j2 j3 j4 j5 r1 n4 n5 r2 n6 n7 w) : KS (yBN s0 q0 q1 q2 q3 q4 q5 q6 q7 q8 q9 n0 n1 I m) (yiA s0 q0 q1 q2 q3 q4 q5 q6 q7 q8 q9 n0 n1 (i0, i1, i2, i3, i4, i5, i6, i7, i8, i9, j0, j1, r0, n2, n3, j2, j3, j4, j5, r1, n4, n5, r2, n6, n7)) w := ⟨m', h1, _, rfl, rfl, h2⟩
theorem yw7 (I : Nat → Int → Int → Int → Int → Int → Int → Int → Int → Int → Int → Int → Int → Option Addr → Nat → Nat → Int → Int → Int → Int → Option Addr → Nat → Nat → Option Addr → Nat → Nat → World → Prop) (m0 : Nat) (h0 : I m0 i0 i1 i2 i3 i4 i5 i6 i7 i8 i9 j0 j1 r0 n2 n3 j2 j3 j4 j5 r1 n4 n5 r2 n6 n7 w0)
 (hr : ∀ m g2 d3 c3 c4 c5 c6 c7 c8 c9 d0 d1 d2 b0 b6 b3 b9 c0 c1 c2 b1 b7 b4 b2 b8 b5 w, I m g2 d3 c3 c4 c5 c6 c7 c8 c9 d0 d1 d2 b0 b6 b3 b9 c0 c1 c2 b1 b7 b4 b2 b8 b5 w →
 w.heap[n1]? = some (.cells (Z0 c3 c4 c5 c6 c7 c8 c9 d0 d1 d2 b0 b6 b3 b9 c0 c1 c2 b1 b7 b4 b2 b8 b5) 29) →
 brB (decide (d3 < 10)) (
 ∃ co, (∀ w' : World, (Instr.index 63 (.agg (Z4 q0 q1 q2 q3 q4 q5 q6 q7 q8 q9)) (.int .i64 d3)).run pP w' = .ok (.pointer co) w') ∧
 Calls pP 79 #[.string s0, .int .i64 g2] w fun e e9 => ∃ bm cq cr, e = .returned (.tuple #[.int .u64 bm, .int .i64 cq, .int .i64 cr]) ∧ ya2 [n1] [(n0, 29)] [n0] w e9 ∧ ∃ bn bo bp bq br bt bu bv bw bx w4 y8 x6 bz ca cb cc w5 y9 x7 w6 z0 x8, e9.heap[n1]? = some (.cells (Z0 bn bo bp bq br bt bu bv bw bx w4 y8 x6 bz ca cb cc w5 y9 x7 w6 z0 x8) 29) ∧
 brB (cr != 0) (
 ∀ z2, Adv [n0] [] e9 z2 → z2.heap[n1]? = some (.cells (Z0 bn bo bp bq br bt bu bv bw bx w4 y8 x6 bz ca cb cc w5 y9 x7 w6 z0 x8) 29) →
 R (.agg (Z0 0 0 0 0 0 0 0 0 0 0 none 0 0 0 0 0 0 none 0 0 none 0 0)) z2)
 (
 brB (decide (bm > 1099511627776)) (
 ∀ z3, Adv [n0] [] e9 z3 → z3.heap[n1]? = some (.cells (Z0 bn bo bp bq br bt bu bv bw bx w4 y8 x6 bz ca cb cc w5 y9 x7 w6 z0 x8) 29) →
 R (.agg (Z0 0 0 0 0 0 0 0 0 0 0 none 0 0 0 0 0 0 none 0 0 none 0 0)) z3)
 (
 ymV co fun ec =>
 st e9 ec [(.int .i64 (IntKind.wrap .i64 bm))] fun z4 => ya2 [n1] [(n0, 29)] [n0] e9 z4 ∧ ∃ cs ct cu cv cw cx cy cz da db ce cl ci dc dd de df cf cm cj ch cn ck, z4.heap[n1]? = some (.cells (Z0 cs ct cu cv cw cx cy cz da db ce cl ci dc dd de df cf cm cj ch cn ck) 29) ∧
 KS (yBN s0 q0 q1 q2 q3 q4 q5 q6 q7 q8 q9 n0 n1 I m) (yiA s0 q0 q1 q2 q3 q4 q5 q6 q7 q8 q9 n0 n1 (cq, (IntKind.wrap .i64 (d3 + 1)), cs, ct, cu, cv, cw, cx, cy, cz, da, db, ce, cl, ci, dc, dd, de, df, cf, cm, cj, ch, cn, ck)) z4)))
 (
 Calls pP 78 (Z2 s0 g2 1048576) w fun e g1 => ∃ cp dg dh, e = .returned (.tuple (Z2 cp dg dh)) ∧ ya2 [n1] [(n0, 29)] [n0] w g1 ∧ ∃ di dj dk z5 z6 z7 z8 z9 aa ab v4 x9 w7 ac ad ae af v5 y0 w8 v6 y1 w9, g1.heap[n1]? = some (.cells (Z0 di dj dk z5 z6 z7 z8 z9 aa ab v4 x9 w7 ac ad ae af v5 y0 w8 v6 y1 w9) 29) ∧
 brB (dh != 0) (
 ∀ h3, Adv [n0] [] g1 h3 → h3.heap[n1]? = some (.cells (Z0 di dj dk z5 z6 z7 z8 z9 aa ab v4 x9 w7 ac ad ae af v5 y0 w8 v6 y1 w9) 29) →
 R (.agg (Z0 0 0 0 0 0 0 0 0 0 0 none 0 0 0 0 0 0 none 0 0 none 0 0)) h3)
 (
 Calls pP 78 (Z2 s0 dg 1048576) g1 fun e e4 => ∃ z1 dv ag, e = .returned (.tuple (Z2 z1 dv ag)) ∧ ya2 [n1] [(n0, 29)] [n0] g1 e4 ∧ ∃ ah ai aj ak am an ao ap aq ar v7 y2 x0 au av aw ax v8 y3 x1 v9 y4 x2, e4.heap[n1]? = some (.cells (Z0 ah ai aj ak am an ao ap aq ar v7 y2 x0 au av aw ax v8 y3 x1 v9 y4 x2) 29) ∧
 brB (ag != 0) (
 ∀ h4, Adv [n0] [] e4 h4 → h4.heap[n1]? = some (.cells (Z0 ah ai aj ak am an ao ap aq ar v7 y2 x0 au av aw ax v8 y3 x1 v9 y4 x2) 29) →
 R (.agg (Z0 0 0 0 0 0 0 0 0 0 0 none 0 0 0 0 0 0 none 0 0 none 0 0)) h4)
 (
 Calls pP 80 #[.string cp] e4 fun e h5 => ∃ w1 y5 x3 dw, e = .returned (.tuple #[.slice w1 y5 x3, .int .i64 dw]) ∧ ya2 [n1] [(n0, 29)] [n0] e4 h5 ∧ ∃ ay az ba bb bc bd be bf bg bh dl ds dp bi bj bk bl w2 y6 x4 w3 y7 x5, h5.heap[n1]? = some (.cells (Z0 ay az ba bb bc bd be bf bg bh dl ds dp bi bj bk bl w2 y6 x4 w3 y7 x5) 29) ∧
 ∀ g0, Adv [n1] [] h5 g0 → g0.heap[n1]? = some (.cells (Z0 ay az ba bb bc bd be bf bg bh w1 y5 x3 bi bj bk bl w2 y6 x4 w3 y7 x5) 29) →
 Calls pP 81 #[.string z1] g0 fun e h6 => ∃ h8 h9 u0 u1 g3 g9 g6 g4 h1 g7 dx, e = .returned (.tuple #[(.agg (Z3 h8 h9 u0 u1 g3 g9 g6 g4 h1 g7)), .int .i64 dx]) ∧ ya2 [n1] [(n0, 29)] [n0] g0 h6 ∧ ∃ u2 u3 u4 u5 u6 u7 u9 v0 v1 v2 g5 h2 g8 dy dz ea eb dm dt dq dn du dr, h6.heap[n1]? = some (.cells (Z0 u2 u3 u4 u5 u6 u7 u9 v0 v1 v2 g5 h2 g8 dy dz ea eb dm dt dq dn du dr) 29) ∧
 ∀ h7, Adv [n0, n1] [] h6 h7 → h7.heap[n1]? = some (.cells (Z0 u2 u3 u4 u5 u6 u7 u9 v0 v1 v2 g5 h2 g8 h8 h9 u0 u1 g3 g9 g6 g4 h1 g7) 29) →
 R (.agg (Z0 u2 u3 u4 u5 u6 u7 u9 v0 v1 v2 g5 h2 g8 h8 h9 u0 u1 g3 g9 g6 g4 h1 g7)) h7)))) :
 yaK yo3 (yEE 395 [0, 0, 1, 0, 1, 1, 1]) (yEF [1, 1, 1, 0, 1, 0] [] R) (yiA s0 q0 q1 q2 q3 q4 q5 q6 q7 q8 q9 n0 n1 (i0, i1, i2, i3, i4, i5, i6, i7, i8, i9, j0, j1, r0, n2, n3, j2, j3, j4, j5, r1, n4, n5, r2, n6, n7)) w0 :=
 lrule (yiA s0 q0 q1 q2 q3 q4 q5 q6 q7 q8 q9 n0 n1) (U25 I) h0 (by rintro m ⟨g2, d3, c3, c4, c5, c6, c7, c8, c9, d0, d1, d2, b0, b6, b3, b9, c0, c1, c2, b1, b7, b4, b2, b8, b5⟩ w h; exact ⟨by kernel_rfl, by kernel_rfl, fun js => Eq.mpr (by kernel_rfl) (hr m g2 d3 c3 c4 c5 c6 c7 c8 c9 d0 d1 d2 b0 b6 b3 b9 c0 c1 c2 b1 b7 b4 b2 b8 b5 w h)⟩)
theorem yGe (h :
 ∀ b1, w.heap.size ≤ b1 →
 ∀ b2, w.heap.size ≤ b2 →
 ∀ w3, Adv [] [b2, b1] w w3 → w3.heap[b2]? = some (.cells (Z0 0 0 0 0 0 0 0 0 0 0 none 0 0 0 0 0 0 none 0 0 none 0 0) 29) →
 Calls pP 22 #[(.pointer (some ⟨b2, 0, none⟩))] w3 fun e w4 => ∃ p5 p6 p7 p8 p9 b0 b3 b4 b5 b6, e = .returned (.agg (Z4 p5 p6 p7 p8 p9 b0 b3 b4 b5 b6)) ∧ ya2 [b2] [(b1, 29)] [b1] w3 w4 ∧ ∃ b7 b8 b9 c0 c1 c2 c3 c4 c5 c6 a1 a7 a4 c7 c8 c9 d0 a2 a8 a5 a3 a9 a6, w4.heap[b2]? = some (.cells (Z0 b7 b8 b9 c0 c1 c2 c3 c4 c5 c6 a1 a7 a4 c7 c8 c9 d0 a2 a8 a5 a3 a9 a6) 29) ∧
 yaK yo3 (yEE 395 [0, 0, 1, 0, 1, 1, 1]) (yEF [1, 1, 1, 0, 1, 0] [] R) (yiA s0 p5 p6 p7 p8 p9 b0 b3 b4 b5 b6 b1 b2 (0, 0, b7, b8, b9, c0, c1, c2, c3, c4, c5, c6, a1, a7, a4, c7, c8, c9, d0, a2, a8, a5, a3, a9, a6)) w4) :
 CR pP 42 #[.string s0] w R :=
 yaA Tryz.wide_mixed (an := yo4) Tryz.func42 rfl rfl (by kernel_rfl) rfl (Eq.mpr (by kernel_rfl) h)
theorem yGf {a1 : BA} (h :
 ∀ b1, w.heap.size ≤ b1 →
 ∀ w2, Adv [] [b1] w w2 →
 Calls pP 41 (Z2 a1 0 1048576) w2 fun e w3 => ∃ s4 x5 x6, e = .returned (.tuple (Z2 s4 x5 x6)) ∧ yaE [b1] w2 w3 ∧
 Calls pP 42 #[.string s4] w3 fun e w7 => ∃ x8 x9 b4 b5 b6 b7 b8 b9 c0 c1 a2 a9 a6 c2 c3 c4 c5 a3 b0 a7 a4 b2 a8, e = .returned (.agg (Z0 x8 x9 b4 b5 b6 b7 b8 b9 c0 c1 a2 a9 a6 c2 c3 c4 c5 a3 b0 a7 a4 b2 a8)) ∧ yaE [b1] w3 w7 ∧
 ∀ a5, w7.heap.size ≤ a5 →
 ∀ b3, Adv [] [a5] w7 b3 →
 Calls pP 10 #[(.agg (Z0 x8 x9 b4 b5 b6 b7 b8 b9 c0 c1 a2 a9 a6 c2 c3 c4 c5 a3 b0 a7 a4 b2 a8))] b3 fun e a0 => ∃ c6 d1, e = .returned (.tuple #[.string c6, .int .i64 d1]) ∧ yaE [b1, a5] b3 a0 ∧
 brB (x6 != 0) (
 ∀ c7, Adv [b1] [] a0 c7 →
 R (.tuple #[(.agg (Z0 0 0 0 0 0 0 0 0 0 0 none 0 0 0 0 0 0 none 0 0 none 0 0)), .int .i64 180]) c7)
 (
 brB (d1 != 0) (
 ∀ c8, Adv [b1] [] a0 c8 →
 R (.tuple #[(.agg (Z0 0 0 0 0 0 0 0 0 0 0 none 0 0 0 0 0 0 none 0 0 none 0 0)), .int .i64 180]) c8)
 (
 brB (!(c6.toList == a1.toList)) (
 ∀ c9, Adv [b1] [] a0 c9 →
 R (.tuple #[(.agg (Z0 0 0 0 0 0 0 0 0 0 0 none 0 0 0 0 0 0 none 0 0 none 0 0)), .int .i64 180]) c9)
 (
 ∀ d0, Adv [b1] [] a0 d0 →
 R (.tuple #[(.agg (Z0 x8 x9 b4 b5 b6 b7 b8 b9 c0 c1 a2 a9 a6 c2 c3 c4 c5 a3 b0 a7 a4 b2 a8)), .int .i64 0]) d0)))) :
 CR pP 17 #[.string a1] w R :=
 yaA Tryz.wide_mixed (an := []) Tryz.func17 rfl rfl (by kernel_rfl) rfl (Eq.mpr (by kernel_rfl) h)
end
def yKm (o : Option (PRec × Nat)) (v : Value) : Prop := ∃ (x : PRec) (b : Nat) (e : Int), v = .tuple #[x.v, .int .i64 (b : Nat), .int .i64 e] ∧ ((e = 0 ∧ o = some (x, b)) ∨ (e ≠ 0 ∧ b = 0 ∧ o = none))
theorem ymQ (s : ByteArray) (a : Nat) (hs : s.size ≤ 1000000000000) (ha : a ≤ s.size) (w : World) :
  Calls pP 113 #[.string s, .int .i64 (a : Nat)] w fun e w' => ∃ v, e = .returned v ∧ yKm (yqF s.data.toList a) v ∧ Mod [] w w' := by
 refine yI9 ?_
 intro b1 f1 b2 f2 w3 A3 h3
 have s3 := A3.mod.size
 have l1 := A3.lt b1 (by simp)
 have hne : b1 ≠ b2 := by have := A3.nd; simp at this; exact fun h => this h.symm
 refine (ymA (st := some a) hs ⟨a, 0, h3, ha, rfl⟩).mono ?_
 rintro _ w4 ⟨_, rfl, x, rfl, M4, st, ⟨a4, e4, h4, ha4, he4⟩, q4⟩
 have s4 := M4.size
 refine ⟨_, _, _, _, rfl, yaE.ofE M4 fun k hk hl he => by simp at hk he ⊢; omega, _, _, _, h4, ?_⟩
 have q4 : yqF s.data.toList a = st.map fun a => (x, a) := q4
 intro b12 f12
 have N : ∀ {w'}, Adv [b1] [b12] w4 w' → Mod [] w w' := fun A => (A3.mod.go0 M4 (by simpa using f2)).go0 A.mod (by simpa using f1)
 refine yaB (fun g => ⟨rfl, fun w5 A5 _ => ⟨?_, N A5⟩⟩) fun g => ⟨rfl, fun w5 A5 _ => ⟨?_, N A5⟩⟩
 ·have g : e4 ≠ 0 := by simpa using g
  rw [if_neg g] at he4
  refine ⟨⟨false, ⟨#[]⟩, false, ⟨#[]⟩⟩, 0, e4, rfl, .inr ⟨g, rfl, ?_⟩⟩
  rw [q4, he4]; rfl
 ·have g : e4 = 0 := by simpa using g
  rw [if_pos g] at he4
  refine ⟨x, a4, 0, rfl, .inl ⟨rfl, ?_⟩⟩
  rw [q4, he4]; rfl
theorem yC7 {s : ByteArray} {br bp : Nat} {st : Option Nat} {w : World} (hs : s.size ≤ 1000000000000) (h : Rd QT s br st w) (hb : w.heap[bp]? = some (.cells #[.string ⟨#[]⟩, .int .i64 0] 43)) (hne : bp ≠ br) :
  Calls pP 60 #[.iface 149 (.pointer (some ⟨br, 0, none⟩)), .pointer (some ⟨bp, 0, none⟩)] w fun e w' => e = .returned (.tuple #[]) ∧ Rd QT s br (yc4 s.data.toList st).1 w' ∧ w'.heap[bp]? = some (.cells (yjW (yc4 s.data.toList st).2).toArray 43) ∧ Mod [br, bp] w w' := by
 refine yaP (yD6 ?_)
 intro w1 A1
 refine (ynR hs (h.keep0 A1.mod) (off := 0) (x := ⟨#[]⟩) (A1.mod.keep0 hb) rfl hne).mono ?_
 rintro _ w2 ⟨rfl, h2, hb2, M2⟩
 refine ⟨rfl, ?_⟩
 intro w3 A3
 refine (ybX hs (h2.keep0 A3.mod) (off := 1) (x := 0) (A3.mod.keep0 hb2) rfl hne).mono ?_
 rintro _ w4 ⟨rfl, h4, hb4, M4⟩
 refine ⟨rfl, rfl, h4, ?_, ?_⟩
 ·rw [hb4]; rfl
 ·refine (((A1.mod.trans M2).trans A3.mod).trans M4).less fun k hk hl => ?_
  simp at hk ⊢; omega
theorem yo5 {w : World} {B : Nat} {f : Sl} {l : List PFound} {y : PFound} {bs : List Nat} {F : Option Addr → Nat → Nat → World → Prop} (hR : Row w B 55 5 yiM f.a f.n f.c l) (hl : l.length ≤ 1000000) (hB : B ≤ w.heap.size) (hbs : ∀ b ∈ bs, b ∉ ykQ f.a)
  (hF : ∀ a' c' w', Row w' B 55 5 yiM a' (f.n + 1) c' (l ++ [y]) → Mod (ykQ f.a) w w' → F a' (f.n + 1) c' w') :
  al w (.cells (yiM y).toArray 55) fun b w1 => yc6 pP (Builtin.append_ #[24, 24] 24 #[.slice f.a f.n f.c, .slice (some ⟨b, 0, none⟩) 1 1]) w1 fun a n c w2 => yaE bs w1 w2 ∧ F a n c w2 := by
 refine ydB fun b w1 c1 M1 f1 => ?_
 have s1 := M1.size
 obtain ⟨i0, hi0, hz0, hz1, hz2⟩ := info_parts yEX
 refine yb0 (x := y) (hR.keep0 M1) Tryz.underlying24 hi0 hz0 hz1 hz2 rfl (by decide) c1 rfl (ynE _) (by omega) (by unfold maxLen; omega) (by omega) fun a' c' w8 hR8 hM8 => ?_
 have M8 := hM8 _ (ydC f.a)
 refine ⟨yaE.of M8 fun b hb _ => hbs b hb, hF a' c' w8 hR8 ?_⟩
 exact (M1.trans M8).less fun k hk _ => by simpa using hk
theorem yGg {w : World} {B : Nat} {f : Sl} {l : List PPart} {y : PPart} {bs : List Nat} {F : Option Addr → Nat → Nat → World → Prop} (hR : Row w B 43 2 yjW f.a f.n f.c l) (hl : l.length ≤ 1000000) (hB : B ≤ w.heap.size) (hbs : ∀ b ∈ bs, b ∉ ykQ f.a)
  (hF : ∀ a' c' w', Row w' B 43 2 yjW a' (f.n + 1) c' (l ++ [y]) → Mod (ykQ f.a) w w' → F a' (f.n + 1) c' w') :
  al w (.cells (yjW y).toArray 43) fun b w1 => yc6 pP (Builtin.append_ #[25, 25] 25 #[.slice f.a f.n f.c, .slice (some ⟨b, 0, none⟩) 1 1]) w1 fun a n c w2 => yaE bs w1 w2 ∧ F a n c w2 := by
 refine ydB fun b w1 c1 M1 f1 => ?_
 have s1 := M1.size
 obtain ⟨i0, hi0, hz0, hz1, hz2⟩ := info_parts yCt
 refine yb0 (x := y) (hR.keep0 M1) Tryz.underlying25 hi0 hz0 hz1 hz2 rfl (by decide) c1 rfl (yi0 _) (by omega) (by unfold maxLen; omega) (by omega) fun a' c' w8 hR8 hM8 => ?_
 have M8 := hM8 _ (ydC f.a)
 refine ⟨yaE.of M8 fun b hb _ => hbs b hb, hF a' c' w8 hR8 ?_⟩
 exact (M1.trans M8).less fun k hk _ => by simpa using hk
theorem yC8 {l : List UInt8} {st : Option Nat} {b : Nat} {n : Int} (h : ybJ l st 0 = (some b, n)) (x : Int) : ybJ l st x = (some b, n) := by
 unfold ybJ at *
 split at h
 ·rename_i p hp; simpa [hp] using h
 ·simp at h
theorem yBO {l : List UInt8} {a b : Nat} {x : Int} (h : (ybJ l (some a) x).1 = some b) : a < b ∧ b ≤ l.length := by
 unfold ybJ at h
 split at h
 ·rename_i p hp
  have := ygJ (n := p.1) (b := p.2) hp
  simp at h; omega
 ·simp at h
structure RPS (w0 w : World) (b0 b1 b2 b3 b4 b5 : Nat) (s : ByteArray) (a e : Int) (x : PRep) (f p : Sl) (ev fv : Int) : Prop where
 hr : w.heap[b1]? = some (.cells #[.string s, .int .i64 a, .int .i64 e] QT)
 hx : w.heap[b2]? = some (.cells #[.int .i64 x.e, .int .i64 x.off, .int .i64 x.n, .int .i64 x.gen, .slice f.a f.n f.c, .slice p.a p.n p.c] 27)
 he : w.heap[b3]? = some (.cells #[.int .i64 ev] 3)
 hn : w.heap[b4]? = some (.cells #[.int .i64 fv] 3)
 fr : Row w w0.heap.size 55 5 yiM f.a f.n f.c x.found
 pr : Row w w0.heap.size 43 2 yjW p.a p.n p.c x.parts
 m : Mod [b1, b2, b3, b4, b5] w0 w
 lt : b0 < w0.heap.size ∧ b1 < w0.heap.size ∧ b2 < w0.heap.size ∧ b3 < w0.heap.size ∧ b4 < w0.heap.size ∧ b5 < w0.heap.size
 nd : [b5, b4, b3, b2, b1, b0].Nodup
 pos : ∃ n : Nat, a = n ∧ n ≤ s.size
def ycX (a e : Int) : Option Nat := if e = 0 then some a.toNat else none
theorem RPS.rd {w0 w : World} {b0 b1 b2 b3 b4 b5 : Nat} {s : ByteArray} {a e : Int} {x : PRep} {f p : Sl} {ev fv : Int} (H : RPS w0 w b0 b1 b2 b3 b4 b5 s a e x f p ev fv) : Rd QT s b1 (ycX a e) w := by
 obtain ⟨n, h1, h2⟩ := H.pos
 have h3 := H.hr
 rw [h1] at h3
 refine ⟨n, e, h3, h2, ?_⟩
 unfold ycX; rw [h1, Int.toNat_natCast]
theorem RPS.go {w0 w w' : World} {b0 b1 b2 b3 b4 b5 : Nat} {s : ByteArray} {a e : Int} {x : PRep} {f p : Sl} {ev fv : Int} {st : Option Nat} (H : RPS w0 w b0 b1 b2 b3 b4 b5 s a e x f p ev fv) (M : Mod [b1] w w') (hr : Rd QT s b1 st w') :
  ∃ a' e', RPS w0 w' b0 b1 b2 b3 b4 b5 s a' e' x f p ev fv ∧ st = ycX a' e' := by
 obtain ⟨n, e', h1, h2, h3⟩ := hr
 have nd := H.nd
 have lt := H.lt
 simp at nd
 refine ⟨n, e', ⟨h1, M.keep H.hx (by simp; omega), M.keep H.he (by simp; omega), M.keep H.hn (by simp; omega), H.fr.keep M fun ad ha hk => ?_, H.pr.keep M fun ad ha hk => ?_, H.m.via M (by simp), H.lt, H.nd, n, rfl, h2⟩, ?_⟩
 ·have := H.fr.base ad ha; simp at hk; omega
 ·have := H.pr.base ad ha; simp at hk; omega
 ·rw [h3]; unfold ycX; rw [Int.toNat_natCast]
theorem RPS.keep0 {w0 w w' : World} {b0 b1 b2 b3 b4 b5 : Nat} {s : ByteArray} {a e : Int} {x : PRep} {f p : Sl} {ev fv : Int} (H : RPS w0 w b0 b1 b2 b3 b4 b5 s a e x f p ev fv) (M : Mod [] w w') : RPS w0 w' b0 b1 b2 b3 b4 b5 s a e x f p ev fv :=
 ⟨M.keep0 H.hr, M.keep0 H.hx, M.keep0 H.he, M.keep0 H.hn, H.fr.keep0 M, H.pr.keep0 M, H.m.via M (by simp), H.lt, H.nd, H.pos⟩
def yGh (w0 w : World) (s : ByteArray) (v : Value) : Prop :=
 (∃ (x : PRep) (f p : Sl), yfZ s x ∧ v = .tuple #[x.v f p, .int .i64 0] ∧ RepOwn w w0.heap.size x f p) ∨ ((∀ x, ¬ yfZ s x) ∧ v = .tuple #[ye1.v ybY ybY, .int .i64 40])
set_option maxHeartbeats 4000000 in
theorem yJI {wS w0 wX : World} {b0 b1 b2 b3 b4 b5 : Nat} {s : ByteArray} {a e : Int} {x : PRep} {f p : Sl} {ev fv pv : Int} (H : RPS w0 wX b0 b1 b2 b3 b4 b5 s a e x f p ev fv) (h5 : wX.heap[b5]? = some (.cells #[.int .i64 pv] 3))
  (N : Mod [] wS wX) (hb : wS.heap.size ≤ b0) (hl : x.found.length ≤ 1000000 ∧ x.parts.length ≤ 1000000) (hB : wS.heap.size ≤ w0.heap.size) (hsp : ∀ y, yfZ s y → e = 0 ∧ x = y) :
  Calls pP 26 #[(.agg #[.int .i64 x.e, .int .i64 x.off, .int .i64 x.n, .int .i64 x.gen, .slice f.a f.n f.c, .slice p.a p.n p.c])] wX fun e w254 => ∃ (s255 : ByteArray) (x256 : Int), e = .returned (.tuple #[.string s255, .int .i64 x256]) ∧ ya2 [b1, b2, b3, b4, b5] [(b0, 27)] [b0] wX w254 ∧ ∃ (s257 : ByteArray) (x258 x259 : Int), w254.heap[b1]? = some (.cells #[.string s257, .int .i64 x258, .int .i64 x259] 151) ∧ ∃ (x260 x261 x262 x263 : Int) (a264 : Option Addr) (n265 c266 : Nat) (a267 : Option Addr) (n268 c269 : Nat), w254.heap[b2]? = some (.cells #[.int .i64 x260, .int .i64 x261, .int .i64 x262, .int .i64 x263, .slice a264 n265 c266, .slice a267 n268 c269] 27) ∧ ∃ x270 : Int, w254.heap[b3]? = some (.cells #[.int .i64 x270] 3) ∧ ∃ x271 : Int, w254.heap[b4]? = some (.cells #[.int .i64 x271] 3) ∧ ∃ x272 : Int, w254.heap[b5]? = some (.cells #[.int .i64 x272] 3) ∧ brB (x259 != 0) ( ∀ w273, Adv [b0] [] w254 w273 → w273.heap[b1]? = some (.cells #[.string s257, .int .i64 x258, .int .i64 x259] 151) → w273.heap[b2]? = some (.cells #[.int .i64 x260, .int .i64 x261, .int .i64 x262, .int .i64 x263, .slice a264 n265 c266, .slice a267 n268 c269] 27) → w273.heap[b3]? = some (.cells #[.int .i64 x270] 3) → w273.heap[b4]? = some (.cells #[.int .i64 x271] 3) → w273.heap[b5]? = some (.cells #[.int .i64 x272] 3) → (fun v w' => yGh wS w' s v ∧ Mod [] wS w') (.tuple #[(.agg #[.int .i64 0, .int .i64 0, .int .i64 0, .int .i64 0, .slice none 0 0, .slice none 0 0]), .int .i64 40]) w273) ( brB (x256 != 0) ( ∀ w274, Adv [b0] [] w254 w274 → w274.heap[b1]? = some (.cells #[.string s257, .int .i64 x258, .int .i64 x259] 151) → w274.heap[b2]? = some (.cells #[.int .i64 x260, .int .i64 x261, .int .i64 x262, .int .i64 x263, .slice a264 n265 c266, .slice a267 n268 c269] 27) → w274.heap[b3]? = some (.cells #[.int .i64 x270] 3) → w274.heap[b4]? = some (.cells #[.int .i64 x271] 3) → w274.heap[b5]? = some (.cells #[.int .i64 x272] 3) → (fun v w' => yGh wS w' s v ∧ Mod [] wS w') (.tuple #[(.agg #[.int .i64 0, .int .i64 0, .int .i64 0, .int .i64 0, .slice none 0 0, .slice none 0 0]), .int .i64 40]) w274) ( brB (!(s255.toList == s.toList)) ( ∀ w275, Adv [b0] [] w254 w275 → w275.heap[b1]? = some (.cells #[.string s257, .int .i64 x258, .int .i64 x259] 151) → w275.heap[b2]? = some (.cells #[.int .i64 x260, .int .i64 x261, .int .i64 x262, .int .i64 x263, .slice a264 n265 c266, .slice a267 n268 c269] 27) → w275.heap[b3]? = some (.cells #[.int .i64 x270] 3) → w275.heap[b4]? = some (.cells #[.int .i64 x271] 3) → w275.heap[b5]? = some (.cells #[.int .i64 x272] 3) → (fun v w' => yGh wS w' s v ∧ Mod [] wS w') (.tuple #[(.agg #[.int .i64 0, .int .i64 0, .int .i64 0, .int .i64 0, .slice none 0 0, .slice none 0 0]), .int .i64 40]) w275) ( ∀ w276, Adv [b0] [] w254 w276 → w276.heap[b1]? = some (.cells #[.string s257, .int .i64 x258, .int .i64 x259] 151) → w276.heap[b2]? = some (.cells #[.int .i64 x260, .int .i64 x261, .int .i64 x262, .int .i64 x263, .slice a264 n265 c266, .slice a267 n268 c269] 27) → w276.heap[b3]? = some (.cells #[.int .i64 x270] 3) → w276.heap[b4]? = some (.cells #[.int .i64 x271] 3) → w276.heap[b5]? = some (.cells #[.int .i64 x272] 3) → (fun v w' => yGh wS w' s v ∧ Mod [] wS w') (.tuple #[(.agg #[.int .i64 x260, .int .i64 x261, .int .i64 x262, .int .i64 x263, .slice a264 n265 c266, .slice a267 n268 c269]), .int .i64 0]) w276))) := by
 have hA : RepOwn wX w0.heap.size x f p := ⟨H.fr, H.pr, hl.1, hl.2⟩
 refine (yuD hA.at).mono ?_
 rintro _ w1 ⟨rfl, M1⟩
 have H1 := H.keep0 M1
 have lt := H.lt
 refine ⟨_, _, rfl, yaE.of0 M1, _, _, _, H1.hr, _, _, _, _, _, _, _, _, _, _, H1.hx, _, H1.he, _, H1.hn, _, M1.keep0 h5, ?_⟩
 have no : ∀ {w'}, Adv [b0] [] w1 w' → (∀ y, ¬ yfZ s y) → yGh wS w' s (.tuple #[ye1.v ybY ybY, .int .i64 40]) ∧ Mod [] wS w' := fun {w'} A h => ⟨.inr ⟨h, rfl⟩, (N.go0 M1 (by simp)).go0 A.mod (by simpa using hb)⟩
 refine yaB (fun g => fun w2 A2 _ _ _ _ _ => no A2 fun y hy => ?_) fun g => ?_
 ·have := (hsp y hy).1; simp [this] at g
 refine yaB (fun g2 => fun w2 A2 _ _ _ _ _ => no A2 fun y hy => ?_) fun g2 => ?_
 ·have := (hsp y hy).2; subst this; simp [hy.1] at g2
 have g2 : yfR x = 0 := by simpa using g2
 rw [if_pos g2, yf2]
 refine yaB (fun g3 => fun w2 A2 _ _ _ _ _ => no A2 fun y hy => ?_) fun g3 => fun w2 A2 _ _ _ _ _ => ?_
 ·have := (hsp y hy).2; subst this; simp [hy.eq] at g3
 ·have g3 : bs (ydK x) = s := by simpa using g3
  exact ⟨.inl ⟨x, f, p, yfZ.of g2 g3.symm, rfl, ((hA.keep0 M1).keepB A2.mod (by simpa using lt.1)).rebase hB⟩, (N.go0 M1 (by simp)).go0 A2.mod (by simpa using hb)⟩
set_option maxHeartbeats 4000000 in
theorem yJJ {wS w0 wX : World} {b0 b1 b2 b3 b4 b5 : Nat} {s : ByteArray} {a e : Int} {x : PRep} {f : Sl} {ev fv : Int} (H : RPS w0 wX b0 b1 b2 b3 b4 b5 s a e x f ybY ev fv) (h5 : wX.heap[b5]? = some (.cells #[.int .i64 0] 3)) (hp0 : x.parts = [])
  (N : Mod [] wS w0) (hb : wS.heap.size ≤ b0 ∧ wS.heap.size ≤ b1 ∧ wS.heap.size ≤ b2 ∧ wS.heap.size ≤ b3 ∧ wS.heap.size ≤ b4 ∧ wS.heap.size ≤ b5) (hs : s.size ≤ 900000) (hl : x.found.length ≤ 1000000)
  (hsp : ∀ y, yfZ s y → e = 0 ∧ a = (ydE y y.found.length).length ∧ x = ⟨y.e, y.off, y.n, y.gen, y.found, []⟩) :
  Calls pP 112 #[(.pointer (some ⟨b1, 0, none⟩)), (.pointer (some ⟨b5, 0, none⟩))] wX fun e w278 => e = .returned (.tuple #[]) ∧ ya2 [b1, b2, b3, b4, b5] [(b0, 27)] [b0] wX w278 ∧ ∃ (s279 : ByteArray) (x280 x281 : Int), w278.heap[b1]? = some (.cells #[.string s279, .int .i64 x280, .int .i64 x281] 151) ∧ ∃ (x282 x283 x284 x285 : Int) (a286 : Option Addr) (n287 c288 : Nat) (a289 : Option Addr) (n290 c291 : Nat), w278.heap[b2]? = some (.cells #[.int .i64 x282, .int .i64 x283, .int .i64 x284, .int .i64 x285, .slice a286 n287 c288, .slice a289 n290 c291] 27) ∧ ∃ x292 : Int, w278.heap[b3]? = some (.cells #[.int .i64 x292] 3) ∧ ∃ x293 : Int, w278.heap[b4]? = some (.cells #[.int .i64 x293] 3) ∧ ∃ x294 : Int, w278.heap[b5]? = some (.cells #[.int .i64 x294] 3) ∧ yaK yg9 (yiK 390 [0, 0, 1, 0, 1, 1, 1, 1, 1, 1, 1, 1]) (yJH [1, 1, 1, 1, 1, 1, 1, 1, 0, 1, 0] [] (ya4 pP Tryz.f81 [] (fun v w' => yGh wS w' s v ∧ Mod [] wS w'))) (yfN s b0 b1 b2 b3 b4 b5 (0, s279, x280, x281, x282, x283, x284, x285, a286, n287, c288, a289, n290, c291, x292, x293, x294)) w278 := by
 have sB := N.size
 have nd := H.nd
 simp at nd
 have lt := H.lt
 have hss : s.data.toList.length = s.size := by simp
 refine (ybX (by omega) H.rd (off := 0) (x := 0) h5 rfl (by omega)).mono ?_
 rintro _ w1 ⟨rfl, hr1, hb1, M1⟩
 obtain ⟨pv, hpv⟩ : ∃ pv, pv = (ybJ s.data.toList (ycX a e) 0).2 := ⟨_, rfl⟩
 have hb1 : w1.heap[b5]? = some (.cells #[.int .i64 pv] 3) := by rw [hb1, hpv]; rfl
 obtain ⟨a1, e1, H1, hst1⟩ : ∃ a1 e1, RPS w0 w1 b0 b1 b2 b3 b4 b5 s a1 e1 x f ybY ev fv ∧ (ybJ s.data.toList (ycX a e) 0).1 = ycX a1 e1 := by
  obtain ⟨n, e', h1, h2, h3⟩ := hr1
  refine ⟨n, e', ⟨h1, M1.keep H.hx (by simp; omega), M1.keep H.he (by simp; omega), M1.keep H.hn (by simp; omega), H.fr.keep M1 fun ad ha hk => ?_, by rw [hp0]; exact Row.nil .., H.m.via M1 (by simp), H.lt, H.nd, n, rfl, h2⟩, ?_⟩
  ·have := H.fr.base ad ha; simp at hk; omega
  ·rw [h3]; unfold ycX; rw [Int.toNat_natCast]
 refine ⟨rfl, yaE.ofE M1 fun k hk hl he => by simp at hk he ⊢; omega, _, _, _, H1.hr, _, _, _, _, _, _, _, _, _, _, H1.hx, _, H1.he, _, H1.hn, _, hb1, ?_⟩
 have hsp1 : ∀ y, yfZ s y → e1 = 0 ∧ a1 = (ye9 y 0).length ∧ x = ⟨y.e, y.off, y.n, y.gen, y.found, []⟩ ∧ pv = y.parts.length := fun y hy => by
  obtain ⟨h1, h2, h3⟩ := hsp y hy
  have h4 := hy.np
  have h5 : ycX a e = some (ydE y y.found.length).length := by unfold ycX; rw [if_pos h1, h2, Int.toNat_natCast]
  rw [h5, h4] at hst1 hpv
  obtain ⟨n, hn1, hn2⟩ := H1.pos
  unfold ycX at hst1
  by_cases he : e1 = 0
  ·rw [if_pos he] at hst1
   simp only [Option.some.injEq] at hst1
   exact ⟨he, by omega, h3, hpv⟩
  ·rw [if_neg he] at hst1; cases hst1
 obtain ⟨ve, voff, vn, vgen, lf, lp⟩ := x
 have hp0 : lp = [] := hp0
 subst hp0
 refine yw5 (fun mm x16 s1 a e y0 y1 y2 y3 fa fn fc pa pn pc ev' fv' pv' w' => ∃ (i : Nat) (l : List PPart), x16 = i ∧ l.length = i ∧ i ≤ s.size + 1 ∧ (e = 0 → (i : Int) ≤ a) ∧ s1 = s ∧ y0 = ve ∧ y1 = voff ∧ y2 = vn ∧ y3 = vgen ∧ fa = f.a ∧ fn = f.n ∧ fc = f.c ∧ ev' = ev ∧ fv' = fv ∧ pv' = pv ∧ RPS w0 w' b0 b1 b2 b3 b4 b5 s a e ⟨ve, voff, vn, vgen, lf, l⟩ f ⟨pa, pn, pc⟩ ev fv ∧
  (∀ y, yfZ s y → e = 0 ∧ a = (ye9 y i).length ∧ l = y.parts.take i) ∧ mm = pv.toNat - i) pv.toNat
  ⟨0, [], rfl, rfl, by omega, fun h => by obtain ⟨n, h1, _⟩ := H1.pos; omega, rfl, rfl, rfl, rfl, rfl, rfl, rfl, rfl, rfl, rfl, rfl, H1, fun y hy => ⟨(hsp1 y hy).1, (hsp1 y hy).2.1, by simp⟩, by omega⟩ ?_
 rintro mm x16 s1 a2 e2 y0 y1 y2 y3 fa fn fc pa pn pc ev' fv' pv' w2 ⟨i, l, rfl, hli, his, hia, rfl, rfl, rfl, rfl, rfl, rfl, rfl, rfl, rfl, rfl, rfl, H2, hsp2, rfl⟩ _ _ _ _ h52
 have N2 : Mod [] wS w2 := (N.go0 H2.m (by simp; omega))
 have s2 := H2.m.size
 have ek : IntKind.wrap .i64 ((i : Int) + 1) = ((i + 1 : Nat) : Int) := by rw [yaH (by omega) (by omega)]; omega
 have fin : (∀ y, yfZ s1 y → l = y.parts) → _ := fun hd => yJI (a := a2) (pv := pv') H2 h52 N2 hb.1 ⟨hl, by show l.length ≤ _; omega⟩ sB fun y hy => ⟨(hsp2 y hy).1, by rw [hd y hy]; obtain ⟨h1, h2, h3, h4⟩ := hsp1 y hy; cases h3; rfl⟩
 refine yaC (fun hlt => ?_) fun hge => fin fun y hy => ?_
 rotate_left
 ·have h1 := (hsp1 y hy).2.2.2
  have h2 := (hsp2 y hy).2.2
  rw [h2, List.take_of_length_le (by omega)]
 refine yaB (fun g => ?_) fun g => fin fun y hy => ?_
 rotate_left
 ·have := (hsp2 y hy).1; simp [this] at g
 have g : e2 = 0 := by simpa using g
 intro b6 f6 w3 A3 _ _ _ _ _ hp3
 have l6 := A3.lt b6 (by simp)
 have s3 := A3.mod.size
 refine (yC7 (by omega) (H2.rd.keep0 A3.mod) hp3 (by omega)).mono ?_
 rintro _ w4 ⟨rfl, hr4, hp4, M4⟩
 have K4 : Mod [b1] w2 w4 := (A3.mod.trans M4).less fun k hk hl => by simp at hk ⊢; omega
 obtain ⟨a4, e4, H4, hst4⟩ := H2.go K4 hr4
 have s4 := M4.size
 generalize hyp : (yc4 s1.data.toList (ycX a2 e2)).2 = yp at hp4
 refine ⟨rfl, yaE.ofE M4 fun k hk hl he => by simp at hk he ⊢; omega, _, _, _, H4.hr, _, _, _, _, _, _, _, _, _, _, H4.hx, _, H4.he, _, H4.hn, _, K4.keep h52 (by simp; omega), _, _, hp4, ?_⟩
 have hrow : ∀ k ∈ ykQ pa, w0.heap.size ≤ k ∧ k < w2.heap.size := fun k hk => by
  have := ybM H2.pr k hk; exact ⟨this.1, this.2.1⟩
 refine yGg (f := ⟨pa, pn, pc⟩) (y := yp) H4.pr (by show l.length ≤ _; omega) (by have := H4.m.size; exact this) (fun b hb' hk => by have := hrow b hk; simp at hb'; omega) fun a' c' w5 hR5 M5 => ?_
 intro w6 A6 hr6 hx6 he6 hn6 h56 _
 have H6 : RPS w0 w6 b0 b1 b2 b3 b4 b5 s1 a4 e4 ⟨y0, y1, y2, y3, lf, l ++ [yp]⟩ f ⟨a', pn + 1, c'⟩ ev' fv' := by
  refine ⟨hr6, hx6, he6, hn6, ?_, hR5.keep A6.mod fun ad ha hk => ?_, (H4.m.via (M5.trans A6.mod) fun k hk hl => ?_), H4.lt, H4.nd, H4.pos⟩
  ·refine (H4.fr.keep M5 fun ad ha hk => ?_).keep A6.mod fun ad ha hk => ?_
   ·obtain ⟨_, cur, hc⟩ := H4.fr.block ad ha
    obtain ⟨_, _, cur2, hc2⟩ := ybM H4.pr _ hk
    rw [hc2] at hc; cases hc
   ·have := H4.fr.base ad ha; simp at hk; omega
  ·have := hR5.base ad ha; simp at hk; omega
  ·rcases List.mem_append.1 hk with hk | hk
   ·have := hrow k hk; omega
   ·simp at hk ⊢; omega
 refine yw4 (pv'.toNat - (i + 1)) (by omega) ⟨i + 1, l ++ [yp], ek, by simp [hli], ?_, fun he => ?_, rfl, rfl, rfl, rfl, rfl, rfl, rfl, rfl, rfl, rfl, rfl, H6, fun y hy => ?_, by omega⟩
 ·have := hia g
  obtain ⟨n, hn1, hn2⟩ := H2.pos
  omega
 ·
  have hst : ycX a4 e4 = some a4.toNat := by unfold ycX; rw [if_pos he]
  obtain ⟨n, hn1, hn2⟩ := H2.pos
  have h2 : ycX a2 e2 = some n := by unfold ycX; rw [if_pos g, hn1, Int.toNat_natCast]
  rw [hst, h2] at hst4
  unfold yc4 at hst4
  simp only at hst4
  have := hia g
  cases hq : (yfB s1.data.toList (some n) ⟨#[]⟩).1 with
  | none => rw [hq] at hst4; simp [ybJ] at hst4
  | some q =>
   have h5 := yAM hq
   rw [hq] at hst4
   have h6 := yBO hst4
   obtain ⟨n4, hn4, _⟩ := H4.pos
   omega
 ·obtain ⟨h1, h2, h3⟩ := hsp2 y hy
  have h4 := (hsp1 y hy).2.2.2
  obtain ⟨y0', hy0⟩ : ∃ z, y.parts[i]? = some z := ⟨_, List.getElem?_eq_getElem (by omega)⟩
  have h5 := hy.p hy0
  have h6 : ycX a2 e2 = some (ye9 y i).length := by unfold ycX; rw [if_pos h1, h2, Int.toNat_natCast]
  rw [h6, h5] at hst4 hyp
  obtain ⟨n4, hn4, _⟩ := H4.pos
  unfold ycX at hst4
  by_cases he : e4 = 0
  ·rw [if_pos he] at hst4
   simp only [Option.some.injEq] at hst4
   refine ⟨he, by omega, ?_⟩
   have hyp : y0' = yp := hyp
   rw [List.take_add_one, hy0, h3, hyp]; rfl
  ·rw [if_neg he] at hst4; cases hst4
theorem RPS.app {w0 w w1 w2 : World} {b0 b1 b2 b3 b4 b5 : Nat} {s : ByteArray} {a e : Int} {x : PRep} {f p : Sl} {ev fv : Int} {y : PFound} {a' : Option Addr} {n' c' : Nat} (H : RPS w0 w b0 b1 b2 b3 b4 b5 s a e x f p ev fv) (hp : p = ybY) (hx0 : x.parts = []) (hR : Row w1 w0.heap.size 55 5 yiM a' n' c' (x.found ++ [y])) (M : Mod (ykQ f.a) w w1) (A : Mod [b2] w1 w2)
  (hr : w2.heap[b1]? = some (.cells #[.string s, .int .i64 a, .int .i64 e] QT)) (hx : w2.heap[b2]? = some (.cells #[.int .i64 x.e, .int .i64 x.off, .int .i64 x.n, .int .i64 x.gen, .slice a' n' c', .slice p.a p.n p.c] 27))
  (he : w2.heap[b3]? = some (.cells #[.int .i64 ev] 3)) (hn : w2.heap[b4]? = some (.cells #[.int .i64 fv] 3)) :
  RPS w0 w2 b0 b1 b2 b3 b4 b5 s a e ⟨x.e, x.off, x.n, x.gen, x.found ++ [y], x.parts⟩ ⟨a', n', c'⟩ p ev fv := by
 have lt := H.lt
 have hrow : ∀ k ∈ ykQ f.a, w0.heap.size ≤ k := fun k hk => (ybM H.fr k hk).1
 refine ⟨hr, hx, he, hn, hR.keep A fun ad ha hk => ?_, by subst hp; rw [hx0]; exact Row.nil .., (H.m.via (M.trans A) fun k hk hl => ?_), H.lt, H.nd, H.pos⟩
 ·have := hR.base ad ha; simp at hk; omega
 ·rcases List.mem_append.1 hk with hk | hk
  ·have := hrow k hk; omega
  ·simp at hk ⊢; omega
set_option maxHeartbeats 8000000 in
theorem ysX {s : ByteArray} (hs : s.size ≤ 900000) (w : World) :
  Calls pP 81 #[.string s] w fun e w' => ∃ v, e = .returned v ∧ yGh w w' s v ∧ Mod [] w w' := by
 refine yGd ?_
 intro b0 g0 b1 g1 b2 g2 b3 g3 b4 g4 b5 g5 w7 A7 h2 h3 h4
 have s7 := A7.mod.size
 have nd := A7.nd
 have lt : b0 < w7.heap.size ∧ b1 < w7.heap.size ∧ b2 < w7.heap.size ∧ b3 < w7.heap.size ∧ b4 < w7.heap.size ∧ b5 < w7.heap.size := ⟨A7.lt b0 (by simp), A7.lt b1 (by simp), A7.lt b2 (by simp), A7.lt b3 (by simp), A7.lt b4 (by simp), A7.lt b5 (by simp)⟩
 refine ydB fun b8 w9 c9 M9 f9 => ?_
 intro w10 A10 hr10 hx10 he10 hn10
 have s9 := M9.size
 have s10 := A10.mod.size
 have l8 := yaX c9
 have c10 := A10.mod.keep0 c9
 have N10 : Mod [] w w10 := (A7.mod.go0 M9 (by simp)).go0 A10.mod (by simp)
 have H0 : RPS w10 w10 b0 b1 b2 b3 b4 b5 s 0 0 ye1 ybY ybY 0 0 := ⟨hr10, hx10, he10, hn10, Row.nil .., Row.nil .., (Mod.refl _).less (by simp), by omega, nd, 0, rfl, by omega⟩
 refine yw2 (fun mm x28 s1 a e y0 y1 y2 y3 fa fn fc pa pn pc ev fv w' => ∃ k : Nat, x28 = k ∧ k ≤ 5 ∧ s1 = s ∧ y0 = 0 ∧ fa = none ∧ fn = 0 ∧ fc = 0 ∧ pa = none ∧ pn = 0 ∧ pc = 0 ∧ RPS w10 w' b0 b1 b2 b3 b4 b5 s a e ⟨y0, y1, y2, y3, [], []⟩ ybY ybY ev fv ∧
  (∀ x, yfZ s x → e = 0 ∧ a = (yiP x k).length ∧ [ev, y1, y2, y3, fv].take k = (hdI x).take k) ∧ mm = 5 - k) 5
  ⟨0, rfl, by omega, rfl, rfl, rfl, rfl, rfl, rfl, rfl, rfl, H0, fun x _ => ⟨rfl, by simp [yiP], rfl⟩, rfl⟩ ?_
 rintro mm x28 s1 a e y0 y1 y2 y3 fa fn fc pa pn pc ev fv w11 ⟨k, rfl, hk, rfl, rfl, rfl, rfl, rfl, rfl, rfl, rfl, H, hsp, rfl⟩ _ _ _ _
 have nd' := nd
 simp at nd'
 have hss : s1.data.toList.length = s1.size := by simp
 refine yaC (fun hlt => ?_) fun hge => ?_
 ·have hk5 : k < 5 := by omega
  have c11 := H.m.keep c10 (show b8 ∉ [b1, b2, b3, b4, b5] by simp; omega)
  have ek : IntKind.wrap .i64 ((k : Int) + 1) = ((k + 1 : Nat) : Int) := by rw [yaH (by omega) (by omega)]; omega
  have step : ∀ (x0 : Int) (x : PRep), yfZ s1 x → ∃ n, (hdI x)[k]? = some n ∧ ybJ s1.data.toList (ycX a e) x0 = (some (yiP x (k + 1)).length, n) := fun x0 x hx => by
   obtain ⟨h1, h2, h3⟩ := hsp x hx
   obtain ⟨n, hn⟩ : ∃ n, (hdI x)[k]? = some n := ⟨_, List.getElem?_eq_getElem (by simpa [hdI] using hk5)⟩
   refine ⟨n, hn, ?_⟩
   have := hx.hd hn
   unfold ycX
   rw [if_pos h1, h2, Int.toNat_natCast]
   exact yC8 this x0
  have done : ∀ {st : Option Nat} {v x0 : Int} {n : Nat} {e' z1 z2 z3 ev' fv' : Int}, ybJ s1.data.toList (ycX a e) x0 = (st, v) → st = (if e' = 0 then some n else none) → ([ev', z1, z2, z3, fv'].take (k + 1) = [ev, y1, y2, y3, fv].take k ++ [v]) →
    ∀ x, yfZ s1 x → e' = 0 ∧ ((n : Nat) : Int) = (yiP x (k + 1)).length ∧ [ev', z1, z2, z3, fv'].take (k + 1) = (hdI x).take (k + 1) := fun {st v x0 n e' z1 z2 z3 ev' fv'} hv hst ht x hx => by
   obtain ⟨m, hm, hm2⟩ := step x0 x hx
   obtain ⟨_, _, hm3⟩ := hsp x hx
   rw [hv] at hm2
   simp only [Prod.mk.injEq] at hm2
   obtain ⟨e1, e2⟩ := hm2
   rw [e1] at hst
   have he : e' = 0 := by
    by_cases he : e' = 0
    ·exact he
    ·rw [if_neg he] at hst; cases hst
   rw [if_pos he] at hst
   refine ⟨he, by simp only [Option.some.injEq] at hst; omega, ?_⟩
   rw [ht, hm3, e2, List.take_add_one, hm]; rfl
  rcases (by omega : k = 0 ∨ k = 1 ∨ k = 2 ∨ k = 3 ∨ k = 4) with rfl | rfl | rfl | rfl | rfl
  ·refine ⟨_, rfl, by omega, by omega, yeU (x := some ⟨b3, 0, none⟩) (by rw [ya3, yaZ c11]; rfl) ?_⟩
   refine (ybX (by omega) H.rd (off := 0) (x := ev) H.he rfl (by omega)).mono ?_
   rintro _ w12 ⟨rfl, hr, hb, M12⟩
   obtain ⟨n, e', h1, h2', h3'⟩ := hr
   have hb : w12.heap[b3]? = some (.cells #[.int .i64 (ybJ s1.data.toList (ycX a e) ev).2] 3) := by rw [hb]; rfl
   have H' : RPS w10 w12 b0 b1 b2 b3 b4 b5 s1 n e' ⟨0, y1, y2, y3, [], []⟩ ybY ybY (ybJ s1.data.toList (ycX a e) ev).2 fv := ⟨h1, M12.keep H.hx (by simp; omega), hb, M12.keep H.hn (by simp; omega), Row.nil .., Row.nil .., H.m.via M12 (by simp), H.lt, H.nd, n, rfl, h2'⟩
   exact ⟨rfl, yaE.ofE M12 fun k hk hl he => by simp at hk he ⊢; omega, _, _, _, h1, _, _, _, _, _, _, _, _, _, _, H'.hx, _, H'.he, _, H'.hn, yeO (5 - (0 + 1)) (by omega) ⟨0 + 1, ek, by omega, rfl, rfl, rfl, rfl, rfl, rfl, rfl, rfl, H', done rfl h3' rfl, rfl⟩⟩
  ·refine ⟨_, rfl, by omega, by omega, yeU (x := some ⟨b2, 1, none⟩) (by rw [ya3, yaZ c11]; rfl) ?_⟩
   refine (ybX (by omega) H.rd (off := 1) (x := y1) H.hx rfl (by omega)).mono ?_
   rintro _ w12 ⟨rfl, hr, hb, M12⟩
   obtain ⟨n, e', h1, h2', h3'⟩ := hr
   have H' : RPS w10 w12 b0 b1 b2 b3 b4 b5 s1 n e' ⟨0, (ybJ s1.data.toList (ycX a e) y1).2, y2, y3, [], []⟩ ybY ybY ev fv := ⟨h1, by rw [hb]; rfl, M12.keep H.he (by simp; omega), M12.keep H.hn (by simp; omega), Row.nil .., Row.nil .., H.m.via M12 (by simp), H.lt, H.nd, n, rfl, h2'⟩
   exact ⟨rfl, yaE.ofE M12 fun k hk hl he => by simp at hk he ⊢; omega, _, _, _, h1, _, _, _, _, _, _, _, _, _, _, H'.hx, _, H'.he, _, H'.hn, yeO (5 - (1 + 1)) (by omega) ⟨1 + 1, ek, by omega, rfl, rfl, rfl, rfl, rfl, rfl, rfl, rfl, H', done rfl h3' rfl, rfl⟩⟩
  ·refine ⟨_, rfl, by omega, by omega, yeU (x := some ⟨b2, 2, none⟩) (by rw [ya3, yaZ c11]; rfl) ?_⟩
   refine (ybX (by omega) H.rd (off := 2) (x := y2) H.hx rfl (by omega)).mono ?_
   rintro _ w12 ⟨rfl, hr, hb, M12⟩
   obtain ⟨n, e', h1, h2', h3'⟩ := hr
   have H' : RPS w10 w12 b0 b1 b2 b3 b4 b5 s1 n e' ⟨0, y1, (ybJ s1.data.toList (ycX a e) y2).2, y3, [], []⟩ ybY ybY ev fv := ⟨h1, by rw [hb]; rfl, M12.keep H.he (by simp; omega), M12.keep H.hn (by simp; omega), Row.nil .., Row.nil .., H.m.via M12 (by simp), H.lt, H.nd, n, rfl, h2'⟩
   exact ⟨rfl, yaE.ofE M12 fun k hk hl he => by simp at hk he ⊢; omega, _, _, _, h1, _, _, _, _, _, _, _, _, _, _, H'.hx, _, H'.he, _, H'.hn, yeO (5 - (2 + 1)) (by omega) ⟨2 + 1, ek, by omega, rfl, rfl, rfl, rfl, rfl, rfl, rfl, rfl, H', done rfl h3' rfl, rfl⟩⟩
  ·refine ⟨_, rfl, by omega, by omega, yeU (x := some ⟨b2, 3, none⟩) (by rw [ya3, yaZ c11]; rfl) ?_⟩
   refine (ybX (by omega) H.rd (off := 3) (x := y3) H.hx rfl (by omega)).mono ?_
   rintro _ w12 ⟨rfl, hr, hb, M12⟩
   obtain ⟨n, e', h1, h2', h3'⟩ := hr
   have H' : RPS w10 w12 b0 b1 b2 b3 b4 b5 s1 n e' ⟨0, y1, y2, (ybJ s1.data.toList (ycX a e) y3).2, [], []⟩ ybY ybY ev fv := ⟨h1, by rw [hb]; rfl, M12.keep H.he (by simp; omega), M12.keep H.hn (by simp; omega), Row.nil .., Row.nil .., H.m.via M12 (by simp), H.lt, H.nd, n, rfl, h2'⟩
   exact ⟨rfl, yaE.ofE M12 fun k hk hl he => by simp at hk he ⊢; omega, _, _, _, h1, _, _, _, _, _, _, _, _, _, _, H'.hx, _, H'.he, _, H'.hn, yeO (5 - (3 + 1)) (by omega) ⟨3 + 1, ek, by omega, rfl, rfl, rfl, rfl, rfl, rfl, rfl, rfl, H', done rfl h3' rfl, rfl⟩⟩
  ·refine ⟨_, rfl, by omega, by omega, yeU (x := some ⟨b4, 0, none⟩) (by rw [ya3, yaZ c11]; rfl) ?_⟩
   refine (ybX (by omega) H.rd (off := 0) (x := fv) H.hn rfl (by omega)).mono ?_
   rintro _ w12 ⟨rfl, hr, hb, M12⟩
   obtain ⟨n, e', h1, h2', h3'⟩ := hr
   have hb : w12.heap[b4]? = some (.cells #[.int .i64 (ybJ s1.data.toList (ycX a e) fv).2] 3) := by rw [hb]; rfl
   have H' : RPS w10 w12 b0 b1 b2 b3 b4 b5 s1 n e' ⟨0, y1, y2, y3, [], []⟩ ybY ybY ev (ybJ s1.data.toList (ycX a e) fv).2 := ⟨h1, M12.keep H.hx (by simp; omega), M12.keep H.he (by simp; omega), hb, Row.nil .., Row.nil .., H.m.via M12 (by simp), H.lt, H.nd, n, rfl, h2'⟩
   exact ⟨rfl, yaE.ofE M12 fun k hk hl he => by simp at hk he ⊢; omega, _, _, _, h1, _, _, _, _, _, _, _, _, _, _, H'.hx, _, H'.he, _, H'.hn, yeO (5 - (4 + 1)) (by omega) ⟨4 + 1, ek, by omega, rfl, rfl, rfl, rfl, rfl, rfl, rfl, rfl, H', done rfl h3' rfl, rfl⟩⟩
 have hk5 : k = 5 := by omega
 subst hk5
 intro w13 A13 hr13 hx13 he13 hn13
 have hb0 : w.heap.size ≤ b0 ∧ w.heap.size ≤ b1 ∧ w.heap.size ≤ b2 ∧ w.heap.size ≤ b3 ∧ w.heap.size ≤ b4 ∧ w.heap.size ≤ b5 := ⟨g0, g1, g2, g3, g4, g5⟩
 have H13 : RPS w10 w13 b0 b1 b2 b3 b4 b5 s1 a e ⟨ev, y1, y2, y3, [], []⟩ ybY ybY ev fv := ⟨hr13, hx13, he13, hn13, Row.nil .., Row.nil .., H.m.via A13.mod (by simp), H.lt, H.nd, H.pos⟩
 have hsp13 : ∀ x, yfZ s1 x → e = 0 ∧ a = (ydE x 0).length ∧ [ev, y1, y2, y3, fv] = hdI x := fun x hx => by
  obtain ⟨h1, h2, h3⟩ := hsp x hx
  rw [yBH] at h2
  exact ⟨h1, h2, by simpa [hdI] using h3⟩
 clear hsp H
 refine yw3 (fun mm x11 s2 a e z0 z1 z2 z3 fa fn fc pa pn pc ev' fv' w' => ∃ (i : Nat) (l : List PFound), x11 = i ∧ l.length = i ∧ i ≤ s1.size + 1 ∧ (e = 0 → (i : Int) ≤ a) ∧ s2 = s1 ∧ z0 = ev ∧ z1 = y1 ∧ z2 = y2 ∧ z3 = y3 ∧ pa = none ∧ pn = 0 ∧ pc = 0 ∧ ev' = ev ∧ fv' = fv ∧ RPS w10 w' b0 b1 b2 b3 b4 b5 s1 a e ⟨ev, y1, y2, y3, l, []⟩ ⟨fa, fn, fc⟩ ybY ev fv ∧
  (∀ x, yfZ s1 x → e = 0 ∧ a = (ydE x i).length ∧ l = x.found.take i) ∧ mm = fv.toNat - i) fv.toNat
  ⟨0, [], rfl, rfl, by omega, fun h => by obtain ⟨n, h1, _⟩ := H13.pos; omega, rfl, rfl, rfl, rfl, rfl, rfl, rfl, rfl, rfl, rfl, H13, fun x hx => ⟨(hsp13 x hx).1, (hsp13 x hx).2.1, by simp⟩, by omega⟩ ?_
 rintro mm x11 s2 a2 e2 z0 z1 z2 z3 fa fn fc pa pn pc ev' fv' w14 ⟨i, l, rfl, hli, his, hia, rfl, rfl, rfl, rfl, rfl, rfl, rfl, rfl, rfl, rfl, H, hsp, rfl⟩ _ _ _ _
 have s14 := H.m.size
 have hd13 : ∀ x, yfZ s2 x → ev' = x.e ∧ z1 = x.off ∧ z2 = x.n ∧ z3 = x.gen ∧ fv' = x.found.length := fun x hx => by
  have := (hsp13 x hx).2.2
  simpa [hdI] using this
 have ek : IntKind.wrap .i64 ((i : Int) + 1) = ((i + 1 : Nat) : Int) := by rw [yaH (by omega) (by omega)]; omega
 have out : ∀ {w15}, Adv [] [] w14 w15 → w15.heap[b5]? = some (.cells #[.int .i64 0] 3) → (∀ x, yfZ s2 x → i = x.found.length) → _ := fun {w15} A15 h5 hd => yJJ (wS := w) (wX := w15) (H.keep0 A15.mod) h5 rfl N10 hb0 hs (show l.length ≤ _ by omega) fun x hx => by
  obtain ⟨h1, h2, h3⟩ := hsp x hx
  obtain ⟨q1, q2, q3, q4, q5⟩ := hd13 x hx
  have h4 := hd x hx
  refine ⟨h1, by rw [h2, h4], ?_⟩
  rw [h3, h4, List.take_length, q1, q2, q3, q4]
 refine yaC (fun hlt => ?_) fun hge => ?_
 rotate_left
 ·intro w15 A15 _ _ _ _ h5
  refine out A15 h5 fun x hx => ?_
  obtain ⟨_, _, h3⟩ := hsp x hx
  have := congrArg List.length h3
  have h4 := (hd13 x hx).2.2.2.2
  rw [List.length_take] at this; omega
 refine yaB (fun g => ?_) fun g => ?_
 rotate_left
 ·intro w15 A15 _ _ _ _ h5
  refine out A15 h5 fun x hx => ?_
  have := (hsp x hx).1; simp [this] at g
 have g : e2 = 0 := by simpa using g
 intro b6 f6 w15 A15 _ _ _ _ hf15
 have l6 := A15.lt b6 (by simp)
 have s15 := A15.mod.size
 refine (ybX (by omega) (H.rd.keep0 A15.mod) (off := 0) (x := 0) hf15 rfl (by omega)).mono ?_
 rintro _ w16 ⟨rfl, hr16, hf16, M16⟩
 have s16 := M16.size
 have K16 : Mod [b1] w14 w16 := (A15.mod.trans M16).less fun k hk hl => by simp at hk ⊢; omega
 obtain ⟨a16, e16, H16, hst16⟩ := H.go K16 hr16
 obtain ⟨n16, rfl, hn16⟩ := H16.pos
 obtain ⟨off, hoff⟩ : ∃ off, off = (ybJ s2.data.toList (ycX a2 e2) 0).2 := ⟨_, rfl⟩
 have hf16 : w16.heap[b6]? = some (.cells #[.int .i64 off, .bool false, .string ByteArray.empty, .bool false, .string ByteArray.empty] 55) := by rw [hf16, hoff]; rfl
 have hsp16 : ∀ x, yfZ s2 x → ∃ y, x.found[i]? = some y ∧ e16 = 0 ∧ off = y.off ∧ yqF s2.data.toList n16 = some (y.r, (ydE x (i + 1)).length) := fun x hx => by
  obtain ⟨h1, h2, h3⟩ := hsp x hx
  have h4 := (hd13 x hx).2.2.2.2
  obtain ⟨y, hy⟩ : ∃ y, x.found[i]? = some y := ⟨_, List.getElem?_eq_getElem (by omega)⟩
  obtain ⟨h5, h6⟩ := hx.f hy
  have h7 : ycX a2 e2 = some (ydE x i).length := by unfold ycX; rw [if_pos h1, h2, Int.toNat_natCast]
  rw [h7, h5] at hst16 hoff
  unfold ycX at hst16
  by_cases he : e16 = 0
  ·rw [if_pos he, Int.toNat_natCast] at hst16
   simp only [Option.some.injEq] at hst16
   exact ⟨y, hy, he, hoff, by rw [← hst16]; exact h6⟩
  ·rw [if_neg he] at hst16; cases hst16
 have hup16 : e16 = 0 → (i : Int) + 1 ≤ n16 := fun he => by
  have h1 : ycX ((n16 : Nat) : Int) e16 = some n16 := by unfold ycX; rw [if_pos he, Int.toNat_natCast]
  obtain ⟨n2, hn2, hn3⟩ := H.pos
  have h2 : ycX a2 e2 = some n2 := by unfold ycX; rw [if_pos g, hn2, Int.toNat_natCast]
  rw [h1, h2] at hst16
  have h3 := yBO hst16
  have := hia g
  omega
 have hrow : ∀ k ∈ ykQ fa, w10.heap.size ≤ k ∧ k < w14.heap.size := fun k hk => by
  have := ybM H.fr k hk; exact ⟨this.1, this.2.1⟩
 refine ⟨rfl, yaE.ofE M16 fun k hk hl he => by simp at hk he ⊢; omega, _, _, _, H16.hr, _, _, _, _, _, _, _, _, _, _, H16.hx, _, H16.he, _, H16.hn, _, _, _, _, _, hf16, ?_, ?_⟩
 ·intro b9 f9 w17 A17 _ _ _ _ _
  have l9 := A17.lt b9 (by simp)
  have s17 := A17.mod.size
  refine (ymQ s2 n16 (by omega) hn16 w17).mono ?_
  rintro _ w18 ⟨_, rfl, ⟨r, to, e18, rfl, hrec⟩, M18⟩
  have s18 := M18.size
  have K18 : Mod [b1] w14 w18 := ((K16.trans A17.mod).trans M18).less (by simp)
  have H18 := (H16.keep0 A17.mod).keep0 M18
  have hf18 := M18.keep0 (A17.mod.keep0 hf16)
  refine ⟨_, _, _, _, _, _, rfl, yaE.of0 M18, _, _, _, H18.hr, _, _, _, _, _, _, _, _, _, _, H18.hx, _, H18.he, _, H18.hn, _, _, _, _, _, hf18, ?_⟩
  intro w19 A19 _ _ _ _ _
  have s19 := A19.mod.size
  have K19 : Mod [b1] w14 w19 := (K18.trans A19.mod).less fun k hk hl => by simp at hk ⊢; omega
  have hf19 := A19.mod.keep hf18 (show b6 ∉ [b9] by simp; omega)
  have hr19 : Rd QT s2 b1 (ycX ((n16 : Nat) : Int) e16) w19 := H18.rd.keep A19.mod (by simp; omega)
  refine (ydW hr19 (to := to) (e1 := e18) (by
   rcases hrec with ⟨_, h⟩ | ⟨_, h, _⟩
   ·have := ykB h; omega
   ·omega)).mono ?_
  rintro _ w20 ⟨rfl, M20, hr20⟩
  have s20 := M20.size
  have K20 : Mod [b1] w14 w20 := (K19.trans M20).less (by simp)
  have hf20 := M20.keep hf19 (show b6 ∉ [b1] by simp; omega)
  obtain ⟨a20, e20, H20, hst20⟩ := H.go K20 hr20
  refine ⟨_, rfl, yaE.ofE M20 fun k hk hl he => by simp at hk he ⊢; omega, _, _, _, H20.hr, _, _, _, _, _, _, _, _, _, _, H20.hx, _, H20.he, _, H20.hn, _, _, _, _, _, hf20, ?_⟩
  have hc20 : e20 = 0 → e16 = 0 ∧ e18 = 0 ∧ a20 = to ∧ (i : Int) + 1 ≤ a20 := fun he => by
   obtain ⟨n20, hn20, _⟩ := H20.pos
   have h1 : ycX a20 e20 = some n20 := by unfold ycX; rw [if_pos he, hn20, Int.toNat_natCast]
   rw [h1] at hst20
   by_cases hc : (ycX ((n16 : Nat) : Int) e16).isSome = true ∧ e18 = 0
   ·rw [if_pos hc] at hst20
    have h16 : e16 = 0 := by
     by_cases h : e16 = 0
     ·exact h
     ·have := hc.1; unfold ycX at this; rw [if_neg h] at this; cases this
    rcases hrec with ⟨_, h⟩ | ⟨h, _, _⟩
    ·have h2 := ykB h
     have h3 := hup16 h16
     simp only [Option.some.injEq] at hst20
     exact ⟨h16, hc.2, by omega, by omega⟩
    ·exact absurd hc.2 h
   ·rw [if_neg hc] at hst20; cases hst20
  have hsp20 : ∀ x, yfZ s2 x → e20 = 0 ∧ a20 = (ydE x (i + 1)).length ∧ e16 = 0 ∧ e18 = 0 ∧ l ++ [⟨off, r⟩] = x.found.take (i + 1) := fun x hx => by
   obtain ⟨y, hy, h16, h1, h2⟩ := hsp16 x hx
   rcases hrec with ⟨h3, h4⟩ | ⟨_, _, h4⟩
   ·rw [h2] at h4
    simp only [Option.some.injEq, Prod.mk.injEq] at h4
    have h5 : (ycX ((n16 : Nat) : Int) e16).isSome = true := by unfold ycX; rw [if_pos h16]; rfl
    rw [if_pos ⟨h5, h3⟩] at hst20
    obtain ⟨n20, hn20, _⟩ := H20.pos
    unfold ycX at hst20
    by_cases he : e20 = 0
    ·rw [if_pos he] at hst20
     simp only [Option.some.injEq] at hst20
     refine ⟨he, by omega, h16, h3, ?_⟩
     rw [List.take_add_one, hy, (hsp x hx).2.2, h1, ← h4.1]; rfl
    ·rw [if_neg he] at hst20; cases hst20
   ·rw [h2] at h4; cases h4
  refine yaB (fun gm => ?_) fun gm => ?_
  rotate_left
  ·
   refine yo5 (f := ⟨fa, fn, fc⟩) (y := ⟨off, ⟨false, ByteArray.empty, false, ByteArray.empty⟩⟩) H20.fr (show l.length ≤ _ by omega) H20.m.size (fun b hb' hk => by have := hrow b hk; simp at hb'; omega) fun a' c' w22 hR M22 => ?_
   intro w23 A23 hr hx he hn _
   have H23 := H20.app rfl rfl hR M22 A23.mod hr hx he hn
   refine yf0 (fv'.toNat - (i + 1)) (by omega) ⟨i + 1, l ++ [⟨off, ⟨false, ByteArray.empty, false, ByteArray.empty⟩⟩], ek, by simp [hli], ?_, fun he => (hc20 he).2.2.2, rfl, rfl, rfl, rfl, rfl, rfl, rfl, rfl, rfl, rfl, H23, fun x hx => ?_, by omega⟩
   ·have := hia g
    obtain ⟨n, hn1, hn2⟩ := H.pos
    omega
   ·obtain ⟨_, _, h16, h18, _⟩ := hsp20 x hx
    have : (ycX ((n16 : Nat) : Int) e16).isSome = true := by unfold ycX; rw [if_pos h16]; rfl
    rw [this, h18] at gm; cases gm
  ·intro w21 A21 hr21 hx21 he21 hn21 hf21
   have K21 : Mod [b1] w14 w21 := (K20.trans A21.mod).less fun k hk hl => by simp at hk ⊢; omega
   have s21 := A21.mod.size
   refine yo5 (f := ⟨fa, fn, fc⟩) (y := ⟨off, r⟩) (H.fr.keep K21 fun ad ha hk => by have := H.fr.base ad ha; simp at hk; omega) (show l.length ≤ _ by omega) (by have := H.m.size; omega) (fun b hb' hk => by have := hrow b hk; simp at hb'; omega) fun a' c' w22 hR M22 => ?_
   intro w23 A23 hr hx he hn _
   have H21 : RPS w10 w21 b0 b1 b2 b3 b4 b5 s2 a20 e20 ⟨ev', z1, z2, z3, l, []⟩ ⟨fa, fn, fc⟩ ybY ev' fv' := ⟨hr21, hx21, he21, hn21, H.fr.keep K21 fun ad ha hk => by have := H.fr.base ad ha; simp at hk; omega, Row.nil .., H.m.via K21 (by simp), H.lt, H.nd, H20.pos⟩
   have H23 := H21.app rfl rfl hR M22 A23.mod hr hx he hn
   refine yf0 (fv'.toNat - (i + 1)) (by omega) ⟨i + 1, l ++ [⟨off, r⟩], ek, by simp [hli], ?_, fun he => (hc20 he).2.2.2, rfl, rfl, rfl, rfl, rfl, rfl, rfl, rfl, rfl, rfl, H23, fun x hx => ⟨(hsp20 x hx).1, (hsp20 x hx).2.1, (hsp20 x hx).2.2.2.2⟩, by omega⟩
   have := hia g
   obtain ⟨n, hn1, hn2⟩ := H.pos
   omega
 ·intro w17 A17 _ _ _ _ _
  have s17 := A17.mod.size
  refine (ymQ s2 n16 (by omega) hn16 w17).mono ?_
  rintro _ w18 ⟨_, rfl, ⟨r, to, e18, rfl, hrec⟩, M18⟩
  have s18 := M18.size
  have K18 : Mod [b1] w14 w18 := ((K16.trans A17.mod).trans M18).less (by simp)
  have H18 := (H16.keep0 A17.mod).keep0 M18
  have hf18 := M18.keep0 (A17.mod.keep0 hf16)
  refine ⟨_, _, _, _, _, _, rfl, yaE.of0 M18, _, _, _, H18.hr, _, _, _, _, _, _, _, _, _, _, H18.hx, _, H18.he, _, H18.hn, _, _, _, _, _, hf18, ?_⟩
  intro b9 f9 w19 A19 _ _ _ _ _
  have l9 := A19.lt b9 (by simp)
  have s19 := A19.mod.size
  have K19 : Mod [b1] w14 w19 := (K18.trans A19.mod).less fun k hk hl => by simp at hk ⊢; omega
  have hf19 := A19.mod.keep0 hf18
  have hr19 : Rd QT s2 b1 (ycX ((n16 : Nat) : Int) e16) w19 := H18.rd.keep0 A19.mod
  refine (ydW hr19 (to := to) (e1 := e18) (by
   rcases hrec with ⟨_, h⟩ | ⟨_, h, _⟩
   ·have := ykB h; omega
   ·omega)).mono ?_
  rintro _ w20 ⟨rfl, M20, hr20⟩
  have s20 := M20.size
  have K20 : Mod [b1] w14 w20 := (K19.trans M20).less (by simp)
  have hf20 := M20.keep hf19 (show b6 ∉ [b1] by simp; omega)
  obtain ⟨a20, e20, H20, hst20⟩ := H.go K20 hr20
  refine ⟨_, rfl, yaE.ofE M20 fun k hk hl he => by simp at hk he ⊢; omega, _, _, _, H20.hr, _, _, _, _, _, _, _, _, _, _, H20.hx, _, H20.he, _, H20.hn, _, _, _, _, _, hf20, ?_⟩
  have hc20 : e20 = 0 → e16 = 0 ∧ e18 = 0 ∧ a20 = to ∧ (i : Int) + 1 ≤ a20 := fun he => by
   obtain ⟨n20, hn20, _⟩ := H20.pos
   have h1 : ycX a20 e20 = some n20 := by unfold ycX; rw [if_pos he, hn20, Int.toNat_natCast]
   rw [h1] at hst20
   by_cases hc : (ycX ((n16 : Nat) : Int) e16).isSome = true ∧ e18 = 0
   ·rw [if_pos hc] at hst20
    have h16 : e16 = 0 := by
     by_cases h : e16 = 0
     ·exact h
     ·have := hc.1; unfold ycX at this; rw [if_neg h] at this; cases this
    rcases hrec with ⟨_, h⟩ | ⟨h, _, _⟩
    ·have h2 := ykB h
     have h3 := hup16 h16
     simp only [Option.some.injEq] at hst20
     exact ⟨h16, hc.2, by omega, by omega⟩
    ·exact absurd hc.2 h
   ·rw [if_neg hc] at hst20; cases hst20
  have hsp20 : ∀ x, yfZ s2 x → e20 = 0 ∧ a20 = (ydE x (i + 1)).length ∧ e16 = 0 ∧ e18 = 0 ∧ l ++ [⟨off, r⟩] = x.found.take (i + 1) := fun x hx => by
   obtain ⟨y, hy, h16, h1, h2⟩ := hsp16 x hx
   rcases hrec with ⟨h3, h4⟩ | ⟨_, _, h4⟩
   ·rw [h2] at h4
    simp only [Option.some.injEq, Prod.mk.injEq] at h4
    have h5 : (ycX ((n16 : Nat) : Int) e16).isSome = true := by unfold ycX; rw [if_pos h16]; rfl
    rw [if_pos ⟨h5, h3⟩] at hst20
    obtain ⟨n20, hn20, _⟩ := H20.pos
    unfold ycX at hst20
    by_cases he : e20 = 0
    ·rw [if_pos he] at hst20
     simp only [Option.some.injEq] at hst20
     refine ⟨he, by omega, h16, h3, ?_⟩
     rw [List.take_add_one, hy, (hsp x hx).2.2, h1, ← h4.1]; rfl
    ·rw [if_neg he] at hst20; cases hst20
   ·rw [h2] at h4; cases h4
  refine yaB (fun gm => ?_) fun gm => ?_
  rotate_left
  ·
   refine yo5 (f := ⟨fa, fn, fc⟩) (y := ⟨off, ⟨false, ByteArray.empty, false, ByteArray.empty⟩⟩) H20.fr (show l.length ≤ _ by omega) H20.m.size (fun b hb' hk => by have := hrow b hk; simp at hb'; omega) fun a' c' w22 hR M22 => ?_
   intro w23 A23 hr hx he hn _
   have H23 := H20.app rfl rfl hR M22 A23.mod hr hx he hn
   refine yf0 (fv'.toNat - (i + 1)) (by omega) ⟨i + 1, l ++ [⟨off, ⟨false, ByteArray.empty, false, ByteArray.empty⟩⟩], ek, by simp [hli], ?_, fun he => (hc20 he).2.2.2, rfl, rfl, rfl, rfl, rfl, rfl, rfl, rfl, rfl, rfl, H23, fun x hx => ?_, by omega⟩
   ·have := hia g
    obtain ⟨n, hn1, hn2⟩ := H.pos
    omega
   ·obtain ⟨_, _, h16, h18, _⟩ := hsp20 x hx
    have : (ycX ((n16 : Nat) : Int) e16).isSome = true := by unfold ycX; rw [if_pos h16]; rfl
    rw [this, h18] at gm; cases gm
  ·intro w21 A21 hr21 hx21 he21 hn21 hf21
   have K21 : Mod [b1] w14 w21 := (K20.trans A21.mod).less fun k hk hl => by simp at hk ⊢; omega
   have s21 := A21.mod.size
   refine yo5 (f := ⟨fa, fn, fc⟩) (y := ⟨off, r⟩) (H.fr.keep K21 fun ad ha hk => by have := H.fr.base ad ha; simp at hk; omega) (show l.length ≤ _ by omega) (by have := H.m.size; omega) (fun b hb' hk => by have := hrow b hk; simp at hb'; omega) fun a' c' w22 hR M22 => ?_
   intro w23 A23 hr hx he hn _
   have H21 : RPS w10 w21 b0 b1 b2 b3 b4 b5 s2 a20 e20 ⟨ev', z1, z2, z3, l, []⟩ ⟨fa, fn, fc⟩ ybY ev' fv' := ⟨hr21, hx21, he21, hn21, H.fr.keep K21 fun ad ha hk => by have := H.fr.base ad ha; simp at hk; omega, Row.nil .., H.m.via K21 (by simp), H.lt, H.nd, H20.pos⟩
   have H23 := H21.app rfl rfl hR M22 A23.mod hr hx he hn
   refine yf0 (fv'.toNat - (i + 1)) (by omega) ⟨i + 1, l ++ [⟨off, r⟩], ek, by simp [hli], ?_, fun he => (hc20 he).2.2.2, rfl, rfl, rfl, rfl, rfl, rfl, rfl, rfl, rfl, rfl, H23, fun x hx => ⟨(hsp20 x hx).1, (hsp20 x hx).2.1, (hsp20 x hx).2.2.2.2⟩, by omega⟩
   have := hia g
   obtain ⟨n, hn1, hn2⟩ := H.pos
   omega
theorem yGi {n : Int} (h : num n = true) : IntKind.wrap .u64 n = ((n.toNat : Nat) : Int) := by
 have := ye8 h
 obtain ⟨k, rfl⟩ := Int.eq_ofNat_of_zero_le this.1
 rw [yd8 (by omega), Int.toNat_natCast]
theorem ykN {l : List Int} {k : Nat} {n : Int} (h : l[k]? = some n) : (l.take (k + 1)).flatMap ykR = (l.take k).flatMap ykR ++ yaJ n.toNat := ybB h
set_option maxHeartbeats 4000000 in
theorem yo6 {w : World} {m : PMail} {s f p : Sl} (h : MailAt w m s f p) (hlc : m.calls.length ≤ 100000) :
  Calls pP 10 #[m.v s f p] w fun e w' => e = .returned (.tuple #[.string (if ybT m = 0 then yeL m else bs []), .int .i64 (ybT m)]) ∧ Mod [] w w' := by
 refine yaP (yF7 ?_)
 intro b1 f1 w2 A2
 have l1 := A2.lt b1 (by simp)
 refine (ygM ((h.keep0 A2.mod).w hlc)).mono ?_
 rintro _ w3 ⟨rfl, M3⟩
 have s3 := M3.size
 have N3 := A2.mod.go0 M3 (by simp)
 refine ⟨_, rfl, yaE.of0 M3, yaB (fun g => ?_) fun g => ?_⟩
 ·have g : yb5 m ≠ 0 := by simpa using g
  have e : ybT m = yb5 m := by rw [ybT, if_pos g]
  rw [e, if_neg g]; exact ⟨rfl, N3⟩
 have g : yb5 m = 0 := by simpa using g
 obtain ⟨_, hn, ht, hr⟩ := ycV g
 have hE : ybT m = if (ybL m).length > 1048576 then 2 else 0 := by rw [ybT, if_neg (by simpa using g)]
 intro b5 f5 w6 A6 h6
 have l5 := A6.lt b5 (by simp)
 refine (yqD b1 w6).mono ?_
 rintro _ w7 ⟨rfl, M7⟩
 refine ⟨_, _, _, _, _, _, _, _, _, _, rfl, yaE.of0 M7, _, _, _, _, _, _, _, _, _, _, _, _, _, _, _, _, _, _, _, _, _, _, _, M7.keep0 h6, ?_⟩
 intro w8 A8 h8 hb8
 have s6 := A6.mod.size
 have s7 := M7.size
 have s8 := A8.mod.size
 have N8 : Mod [] w w8 := ((N3.go0 A6.mod (by simp)).go0 M7 (by simp)).go0 A8.mod (by simp)
 have hB0 : Sb w3.heap.size b5 [] w8 := Sb.fresh f5 hb8
 have hsb : yb3 w8 1 (fun x : Int => [.int .i64 x]) (some ⟨b1, 0, none⟩) 10 (yaR m) := ⟨rfl, fun i x hx => ⟨_, rfl, fun j v hv => by
  have hj : j = 0 := by have := (List.getElem?_eq_some_iff.1 hv).1; simp at this; omega
  subst hj
  simp at hv; subst hv
  have := yeJ (s := s) (f := f) (p := p) h8 hx
  simpa [ya3, add_zero] using this⟩⟩
 refine ywZ (fun mm x19 k0 k1 k2 k3 k4 k5 k6 k7 k8 k9 sa sn sc r0 r1 r2 r3 fa fn fc pa pn pc p1 a1 n1 c1 w' => ∃ k : Nat, x19 = k ∧ k ≤ 10 ∧ k0 = m.kind ∧ k1 = m.fr ∧ k2 = m.to ∧ k3 = m.view ∧ k4 = m.normal ∧ k5 = m.last ∧ k6 = m.commit ∧ k7 = m.nonce ∧ k8 = m.base ∧ k9 = m.n ∧ sa = s.a ∧ sn = s.n ∧ sc = s.c ∧ r0 = m.r.e ∧ r1 = m.r.off ∧ r2 = m.r.n ∧ r3 = m.r.gen ∧ fa = f.a ∧ fn = f.n ∧ fc = f.c ∧ pa = p.a ∧ pn = p.n ∧ pc = p.c ∧ Sb w3.heap.size b5 (((yaR m).take k).flatMap ykR) w' ∧ Wr w3.heap.size b5 w8 w' ∧ mm = 10 - k) 10
  ⟨0, rfl, by omega, rfl, rfl, rfl, rfl, rfl, rfl, rfl, rfl, rfl, rfl, rfl, rfl, rfl, rfl, rfl, rfl, rfl, rfl, rfl, rfl, rfl, rfl, rfl, by simpa using hB0, Wr.of0 (Mod.refl _) (by omega), rfl⟩ ?_
 rintro mm x19 k0 k1 k2 k3 k4 k5 k6 k7 k8 k9 sa sn sc r0 r1 r2 r3 fa fn fc pa pn pc p1 a1 n1 c1 w9 ⟨k, rfl, hk, rfl, rfl, rfl, rfl, rfl, rfl, rfl, rfl, rfl, rfl, rfl, rfl, rfl, rfl, rfl, rfl, rfl, rfl, rfl, rfl, rfl, rfl, rfl, hB9, W9, rfl⟩ h9 hb9
 have lk := yeN hn k
 have lk1 := yeN hn (k + 1)
 have s9 := W9.bel.size
 have N9 : Mod [] w w9 := W9.mod N8 (by have := N3.size; omega)
 have sz3 : w3.heap.size ≤ w9.heap.size := by omega
 have ne : b1 ≠ b5 := by omega
 have M0 : ∀ {w'}, Wr w3.heap.size b5 w8 w' → Mod [] w w' := fun W => W.mod N8 (by have := N3.size; omega)
 refine yaC (fun hlt => ?_) fun hge => ?_
 ·have hk' : k < 10 := by omega
  obtain ⟨x, hx⟩ : ∃ x, (yaR m)[k]? = some x := ⟨_, List.getElem?_eq_getElem (by simpa [yaR] using hk')⟩
  have hc := yeJ (s := s) (f := f) (p := p) h9 hx
  have hx1 := yfY hn hx
  refine ⟨_, yFr b1 hk', yi2 (yaF hc ?_)⟩
  rw [yGi hx1]
  refine (yjV x.toNat (yeM hx1).1 w9).mono ?_
  rintro _ w10 ⟨rfl, M10⟩
  obtain ⟨q1, q2, q3, q4, hq⟩ := (hB9.keep0 M10).cells
  refine ⟨_, rfl, _, _, _, _, _, _, _, _, _, _, _, _, _, _, _, _, _, _, _, _, _, _, _, M10.keep0 h9, _, _, _, _, hq, ?_⟩
  have ls := yeM hx1
  have lv := (yaL x.toNat ls.1).2
  have s10 := M10.size
  refine (yAz (hB9.keep0 M10) (l2 := yaJ x.toNat) (by omega) (by omega)).mono ?_
  rintro _ w11 ⟨rfl, hB11, W11⟩
  obtain ⟨t1, t2, t3, t4, ht1⟩ := hB11.cells
  have W9' : Wr w3.heap.size b5 w8 w11 := (W9.trans (Wr.of0 M10 (by omega))).trans W11
  refine ⟨_, _, rfl, _, _, _, _, _, _, _, _, _, _, _, _, _, _, _, _, _, _, _, _, _, _, _, W11.keep (M10.keep0 h9) ne (by decide), _, _, _, _, ht1, ?_⟩
  refine ywY (10 - (k + 1)) (by omega) ⟨k + 1, by rw [yaH (by omega) (by omega)]; omega, by omega, rfl, rfl, rfl, rfl, rfl, rfl, rfl, rfl, rfl, rfl, rfl, rfl, rfl, rfl, rfl, rfl, rfl, rfl, rfl, rfl, rfl, rfl, rfl, ?_, W9', rfl⟩
  rw [ykN hx]; exact hB11
 ·have hk' : k = 10 := by omega
  subst hk'
  have e10 : (yaR m).take 10 = yaR m := List.take_of_length_le (by simp [yaR])
  rw [e10] at hB9 lk
  obtain ⟨ll, hll, hop, hcs⟩ := h.calls
  have hl : ll.length ≤ 1000000 := by have := congrArg List.length hcs; simp at *; omega
  refine (ysR (s := s) (ll := ll) ⟨hll.keep0 N9, fun q hq => (hop q hq).keep0 N9⟩ hl).mono ?_
  rw [hcs, ht, if_pos rfl]
  rintro _ w10 ⟨rfl, M10⟩
  obtain ⟨q1, q2, q3, q4, hq⟩ := (hB9.keep0 M10).cells
  refine ⟨_, _, rfl, _, _, _, _, _, _, _, _, _, _, _, _, _, _, _, _, _, _, _, _, _, _, _, M10.keep0 h9, _, _, _, _, hq, ?_⟩
  have N10 := N9.go0 M10 (by simp)
  refine (yuD (h.rep.keep0 N10)).mono ?_
  rw [hr, if_pos rfl]
  rintro _ w11 ⟨rfl, M11⟩
  obtain ⟨t1, t2, t3, t4, ht1⟩ := ((hB9.keep0 M10).keep0 M11).cells
  refine ⟨_, _, rfl, _, _, _, _, _, _, _, _, _, _, _, _, _, _, _, _, _, _, _, _, _, _, _, M11.keep0 (M10.keep0 h9), _, _, _, _, ht1, ?_⟩
  have hne : (yaR m).flatMap ykR ≠ [] := fun e => by
   have := (yaL m.kind.toNat (by have := ye8 (yfY hn (k := 0) (n := m.kind) rfl); omega)).1
   have e2 := congrArg List.length e
   simp only [yaR, List.flatMap_cons, List.length_append, List.length_nil] at e2
   unfold ykR at e2
   omega
  have s10 := M10.size
  have s11 := M11.size
  refine (yFg ((hB9.keep0 M10).keep0 M11) hne).mono ?_
  rintro _ w12 ⟨rfl, hB12, W12⟩
  have s12 := W12.bel.size
  obtain ⟨u1, u2, u3, u4, hu1⟩ := hB12.cells
  have h12 := W12.keep (M11.keep0 (M10.keep0 h9)) ne (by decide)
  refine ⟨_, rfl, _, _, _, _, _, _, _, _, _, _, _, _, _, _, _, _, _, _, _, _, _, _, _, h12, _, _, _, _, hu1, ?_⟩
  have lt := yg7 ht
  have lr : (ydK m.r).length ≤ 60000 := (RepGood.of hr).len3 m.r.parts.length
  have W8 : Wr w3.heap.size b5 w8 w12 := ((W9.trans (Wr.of0 M10 (by omega))).trans (Wr.of0 M11 (by omega))).trans W12
  refine (ycO (bs (ybK m.calls)) (by rw [yaD]; omega) w12).mono ?_
  rintro _ w13 ⟨rfl, M13⟩
  obtain ⟨v1, v2, v3, v4, hv1⟩ := (hB12.keep0 M13).cells
  have p1 := (yaW (bs (ybK m.calls)) (by rw [yaD]; omega)).2
  have p2 := (yaW (bs (ydK m.r)) (by rw [yaD]; omega)).2
  rw [yaD] at p1 p2
  refine ⟨_, rfl, _, _, _, _, _, _, _, _, _, _, _, _, _, _, _, _, _, _, _, _, _, _, _, M13.keep0 h12, _, _, _, _, hv1, by rw [yaD, yaD]; omega, ?_⟩
  rw [ya9]
  refine (ycO (bs (ydK m.r)) (by rw [yaD]; omega) w13).mono ?_
  rintro _ w14 ⟨rfl, M14⟩
  obtain ⟨y1, y2, y3, y4, hy1⟩ := ((hB12.keep0 M13).keep0 M14).cells
  refine ⟨_, rfl, _, _, _, _, _, _, _, _, _, _, _, _, _, _, _, _, _, _, _, _, _, _, _, M14.keep0 (M13.keep0 h12), _, _, _, _, hy1, by rw [yaD, yaD, List.length_append]; omega, ?_⟩
  rw [ya9]
  have eB : (yaR m).flatMap ykR ++ ybU (bs (ybK m.calls)) ++ ybU (bs (ydK m.r)) = ybL m := rfl
  rw [eB]
  have lB := ykK g
  have N14 : Mod [] w w14 := ((M0 W8).go0 M13 (by simp)).go0 M14 (by simp)
  refine yaC (fun hbig => ?_) fun hbig => ?_
  ·rw [yaD] at hbig
   have e : ybT m = 2 := by rw [hE, if_pos (by omega)]
   rw [e]; exact ⟨rfl, N14⟩
  ·rw [yaD] at hbig
   have e : ybT m = 0 := by rw [hE, if_neg (by omega)]
   refine (ytK (bs (ybL m)) (by rw [yaD]; omega) w14).mono ?_
   rintro _ w15 ⟨rfl, M15⟩
   obtain ⟨z1, z2, z3, z4, hz1⟩ := (((hB12.keep0 M13).keep0 M14).keep0 M15).cells
   refine ⟨_, rfl, _, _, _, _, _, _, _, _, _, _, _, _, _, _, _, _, _, _, _, _, _, _, _, M15.keep0 (M14.keep0 (M13.keep0 h12)), _, _, _, _, hz1, ?_⟩
   rw [e, if_pos rfl]; exact ⟨rfl, N14.go0 M15 (by simp)⟩
set_option maxHeartbeats 4000000 in
theorem yBP {w : World} {m : PMail} {s f p : Sl} (h : MailAt w m s f p) (hlc : m.calls.length ≤ 100000) :
  Calls pP 11 #[m.v s f p] w fun e w' => e = .returned (.tuple #[.string (if ybT m = 0 then yeL m else bs []), .int .i64 (ybT m)]) ∧ Mod [] w w' := by
 refine yaP (yBD ?_)
 intro b1 f1 w2 A2
 refine (ykJ (h.keep0 A2.mod) hlc).mono ?_
 rintro _ w3 ⟨rfl, M3⟩
 have N3 := A2.mod.go0 M3 (by simp)
 refine ⟨_, rfl, yaE.of0 M3, yaB (fun g => ?_) fun g => ?_⟩
 ·have g : yb5 m ≠ 0 := by simpa using g
  have e : ybT m = yb5 m := by rw [ybT, if_pos g]
  rw [e, if_neg g]; exact ⟨rfl, N3⟩
 have g : yb5 m = 0 := by simpa using g
 obtain ⟨_, hn, ht, hr⟩ := ycV g
 have hE : ybT m = if (ybL m).length > 1048576 then 2 else 0 := by rw [ybT, if_neg (by simpa using g)]
 refine (yhV m s f p).mono ?_
 rintro _ w4 ⟨_, rfl, c4, rfl, h4, M4⟩
 refine ⟨_, _, _, rfl, yaE.of0 M4, ?_⟩
 have N4 := N3.go0 M4 (by simp)
 refine ymP (fun mm s5 x7 w' => ∃ k : Nat, x7 = k ∧ k ≤ 10 ∧ s5 = bs (((yaR m).take k).flatMap ykR) ∧ Mod [] w4 w' ∧ mm = 10 - k) 10 ⟨0, rfl, by omega, by simp [yDG], Mod.refl _, rfl⟩ ?_
 rintro mm s5 x7 w5 ⟨k, rfl, hk, rfl, M5, rfl⟩
 have lk := yeN hn k
 have N5 := N4.go0 M5 (by simp)
 refine yaC (fun hlt => ?_) fun hge => ?_
 ·have hk' : k < 10 := by omega
  obtain ⟨x, hx⟩ : ∃ x, (yaR m)[k]? = some x := ⟨_, List.getElem?_eq_getElem (by simpa [yaR] using hk')⟩
  have hx1 := yfY hn hx
  have ls := yeM hx1
  have lv := (yaL x.toNat ls.1).2
  refine (h4.keep0 M5).ix hx fun q hq => yaF (x := x) (by simpa [add_zero] using hq 0 _ rfl) ?_
  rw [yGi hx1]
  refine (yb1 ls.1 w5).mono ?_
  rintro _ w6 ⟨rfl, M6⟩
  refine ⟨_, rfl, yaE.of0 M6, by rw [yaD, yaD]; omega, ?_⟩
  rw [ya9]
  exact ymO (10 - (k + 1)) (by omega) ⟨k + 1, by rw [yaH (by omega) (by omega)]; omega, by omega, by rw [ykN hx], M5.go0 M6 (by simp), rfl⟩
 ·have hk' : k = 10 := by omega
  subst hk'
  have e10 : (yaR m).take 10 = yaR m := List.take_of_length_le (by simp [yaR])
  rw [e10] at lk ⊢
  obtain ⟨ll, hll, hop, hcs⟩ := h.calls
  have hl : ll.length ≤ 1000000 := by have := congrArg List.length hcs; simp at *; omega
  refine (ymL (s := s) (ll := ll) ⟨hll.keep0 N5, fun q hq => (hop q hq).keep0 N5⟩ hl).mono ?_
  rw [hcs, ht, if_pos rfl]
  rintro _ w6 ⟨rfl, M6⟩
  have N6 := N5.go0 M6 (by simp)
  refine ⟨_, _, rfl, yaE.of0 M6, ?_⟩
  refine (yfX (h.rep.keep0 N6)).mono ?_
  rw [hr, if_pos rfl]
  rintro _ w7 ⟨rfl, M7⟩
  refine ⟨_, _, rfl, yaE.of0 M7, ?_⟩
  have lt := yg7 ht
  have lr : (ydK m.r).length ≤ 60000 := (RepGood.of hr).len3 m.r.parts.length
  refine (ybG (bs (ybK m.calls)) (by rw [yaD]; omega) w7).mono ?_
  rintro _ w8 ⟨rfl, M8⟩
  refine ⟨_, rfl, yaE.of0 M8, ?_⟩
  refine (ybG (bs (ydK m.r)) (by rw [yaD]; omega) w8).mono ?_
  rintro _ w9 ⟨rfl, M9⟩
  have p1 := (yaW (bs (ybK m.calls)) (by rw [yaD]; omega)).2
  have p2 := (yaW (bs (ydK m.r)) (by rw [yaD]; omega)).2
  rw [yaD] at p1 p2
  refine ⟨_, rfl, yaE.of0 M9, by rw [yaD, yaD]; omega, ?_⟩
  rw [ya9]
  refine ⟨by rw [yaD, yaD, List.length_append]; omega, ?_⟩
  rw [ya9]
  have eB : (yaR m).flatMap ykR ++ (ybU (bs (ybK m.calls)) ++ ybU (bs (ydK m.r))) = ybL m := by rw [← List.append_assoc]; rfl
  rw [eB]
  have lB := ykK g
  have N9 : Mod [] w w9 := ((N6.go0 M7 (by simp)).go0 M8 (by simp)).go0 M9 (by simp)
  refine yaC (fun hbig => ?_) fun hbig => ?_
  ·rw [yaD] at hbig
   have e : ybT m = 2 := by rw [hE, if_pos (by omega)]
   rw [e]; exact ⟨rfl, N9⟩
  ·rw [yaD] at hbig
   have e : ybT m = 0 := by rw [hE, if_neg (by omega)]
   refine (ykH (bs (ybL m)) (by rw [yaD]; omega) w9).mono ?_
   rintro _ w10 ⟨rfl, M10⟩
   refine ⟨_, rfl, yaE.of0 M10, ?_⟩
   rw [e, if_pos rfl]; exact ⟨rfl, N9.go0 M10 (by simp)⟩
theorem yJO.out {a : Nat} {o : Option (Nat × Nat)} {v : Value} (h : yJO a o v) : ∃ (n : Nat) (b e : Int), v = .tuple #[.int .u64 (n : Nat), .int .i64 b, .int .i64 e] ∧ ((e = 0 ∧ ∃ m : Nat, b = ((a + m : Nat) : Int) ∧ o = some (n, m)) ∨ (e ≠ 0 ∧ o = none)) := by
 cases o with
 | none => obtain ⟨e, he, rfl⟩ := h; exact ⟨0, _, _, rfl, .inr ⟨he, rfl⟩⟩
 | some p => obtain ⟨x, b⟩ := p; exact ⟨_, _, _, h, .inl ⟨rfl, b, rfl, rfl⟩⟩
theorem yCv.out {a : Nat} {o : Option (ByteArray × Nat)} {v : Value} (h : yCv a o v) : ∃ (n : ByteArray) (b e : Int), v = .tuple #[.string n, .int .i64 b, .int .i64 e] ∧ ((e = 0 ∧ ∃ m : Nat, b = ((a + m : Nat) : Int) ∧ o = some (n, m)) ∨ (e ≠ 0 ∧ o = none ∧ n = ⟨#[]⟩ ∧ b = 0)) := by
 cases o with
 | none => obtain ⟨e, he, rfl⟩ := h; exact ⟨_, _, _, rfl, .inr ⟨he, rfl, rfl, rfl⟩⟩
 | some p => obtain ⟨x, b⟩ := p; exact ⟨_, _, _, h, .inl ⟨rfl, b, rfl, rfl⟩⟩
end Go.Proofs.YtkbcmppbjfpjmaaGreat
