/- The document's check of a command is the checker's. -/
import Derived.Test.YtohgihgddknmmaaA12
namespace Go.Proofs.Ytohgihgddknmmaa
open Go Go.RowKit
set_option linter.unusedVariables false
set_option linter.unusedSimpArgs false

theorem emptyS (s : ByteArray) : (s.toList == (⟨#[]⟩ : ByteArray).toList) = emptyB s := by
  rw [strEq, emptyB]
  apply Bool.eq_iff_iff.2
  simp only [decide_eq_true_eq]
  constructor
  · rintro rfl; rfl
  · intro h; exact ByteArray.ext (Array.eq_empty_of_size_eq_zero h)
theorem decN (x : Int) : decide (x = 0) = !(x != 0) := by
  by_cases h : x = 0 <;> simp [h]
theorem yesT {t : Bool} {A B : Prop} (ht : t = true) (ha : A) : brB t A B := brB_of (fun _ => ha) fun h => by rw [ht] at h; cases h
theorem noT {t : Bool} {A B : Prop} (ht : t = false) (hb : B) : brB t A B := brB_of (fun h => by rw [ht] at h; cases h) fun _ => hb
theorem b0_eq (b : PBatch) (n : Nat) (hr : n = b.recs.length) : decide (b = batch0) = (!(b.prod != 0) && !(b.epoch != 0) && !(b.seq != 0) && !(decide ((n : Int) > 0))) := by
  obtain ⟨b1, b2, b3, b4⟩ := b
  subst hr
  by_cases h1 : b1 = 0 <;> by_cases h2 : b2 = 0 <;> by_cases h3 : b3 = 0 <;> cases b4 <;> simp [batch0, h1, h2, h3] <;> omega
theorem onlyB_eq {o : POp} {rs ts : Sl} (hr : rs.n = o.b.recs.length) (ht : ts.n = o.topics.length) : onlyB o = (((ha o.kind 112 || ha o.kind 116 || (o.part.t.toList == (⟨#[]⟩ : ByteArray).toList)) && (ha o.kind 112 || !(o.part.n != 0)) && (ha o.kind 110 || !(o.n != 0)) && (ha o.kind 111 || !(o.off != 0))) && (ha o.kind 98 || (!(o.b.prod != 0) && !(o.b.epoch != 0) && !(o.b.seq != 0) && !(decide ((rs.n : Int) > 0)))) && ((ha o.kind 103 || (o.g.toList == (⟨#[]⟩ : ByteArray).toList)) && (ha o.kind 109 || (o.m.toList == (⟨#[]⟩ : ByteArray).toList)) && (ha o.kind 101 || !(o.gen != 0))) && (ha o.kind 114 || (!o.robin && ((ts.n : Int) == 0)))) := by
  have ht0 : decide (o.topics = []) = ((ts.n : Int) == 0) := by
    rw [ht]
    cases o.topics <;> simp
    omega
  unfold onlyB
  rw [b0_eq o.b rs.n hr, ht0, emptyS, emptyS, emptyS, decN, decN, decN, decN]
  simp only [Bool.and_assoc]
set_option maxHeartbeats 4000000 in
theorem Only_ok {w : World} {o : POp} {rs ts : Sl} (h0 : 0 ≤ o.kind) (h1 : o.kind ≤ 12) (hr : rs.n = o.b.recs.length) (ht : ts.n = o.topics.length) :
    Calls Try.prog 22 #[o.v rs ts] w fun e w' => e = .returned (.bool (onlyB o)) ∧ Mod [] w w' := by
  have hO := onlyB_eq hr ht
  have A112 : ∀ w, Calls Try.prog 23 #[.string (hasS o.kind), .int .u8 112] w fun e w' => e = .returned (.bool (ha o.kind 112)) ∧ w' = w := fun w => AmongK_ok h0 h1 (c := 112) (by decide) w
  have A116 : ∀ w, Calls Try.prog 23 #[.string (hasS o.kind), .int .u8 116] w fun e w' => e = .returned (.bool (ha o.kind 116)) ∧ w' = w := fun w => AmongK_ok h0 h1 (c := 116) (by decide) w
  have A110 : ∀ w, Calls Try.prog 23 #[.string (hasS o.kind), .int .u8 110] w fun e w' => e = .returned (.bool (ha o.kind 110)) ∧ w' = w := fun w => AmongK_ok h0 h1 (c := 110) (by decide) w
  have A111 : ∀ w, Calls Try.prog 23 #[.string (hasS o.kind), .int .u8 111] w fun e w' => e = .returned (.bool (ha o.kind 111)) ∧ w' = w := fun w => AmongK_ok h0 h1 (c := 111) (by decide) w
  have A98 : ∀ w, Calls Try.prog 23 #[.string (hasS o.kind), .int .u8 98] w fun e w' => e = .returned (.bool (ha o.kind 98)) ∧ w' = w := fun w => AmongK_ok h0 h1 (c := 98) (by decide) w
  have A103 : ∀ w, Calls Try.prog 23 #[.string (hasS o.kind), .int .u8 103] w fun e w' => e = .returned (.bool (ha o.kind 103)) ∧ w' = w := fun w => AmongK_ok h0 h1 (c := 103) (by decide) w
  have A109 : ∀ w, Calls Try.prog 23 #[.string (hasS o.kind), .int .u8 109] w fun e w' => e = .returned (.bool (ha o.kind 109)) ∧ w' = w := fun w => AmongK_ok h0 h1 (c := 109) (by decide) w
  have A101 : ∀ w, Calls Try.prog 23 #[.string (hasS o.kind), .int .u8 101] w fun e w' => e = .returned (.bool (ha o.kind 101)) ∧ w' = w := fun w => AmongK_ok h0 h1 (c := 101) (by decide) w
  have A114 : ∀ w, Calls Try.prog 23 #[.string (hasS o.kind), .int .u8 114] w fun e w' => e = .returned (.bool (ha o.kind 114)) ∧ w' = w := fun w => AmongK_ok h0 h1 (c := 114) (by decide) w
  refine go_of (ref04_only_go ?_)
  intro b1 f1 w2 A2
  refine (has_ok h0 h1 w2).mono ?_
  rintro e w3 ⟨rfl, M3⟩
  refine ⟨_, rfl, Keep.of0 M3, ?_⟩
  have N3 := A2.mod.go0 M3 (by simp)
  have c6 : ((ha o.kind 112 || ha o.kind 116 || (o.part.t.toList == (⟨#[]⟩ : ByteArray).toList)) && (ha o.kind 112 || !(o.part.n != 0)) && (ha o.kind 110 || !(o.n != 0)) && (ha o.kind 111 || !(o.off != 0))) = true → (ha o.kind 98 || (!(o.b.prod != 0) && !(o.b.epoch != 0) && !(o.b.seq != 0) && !(decide ((rs.n : Int) > 0)))) = true → ((ha o.kind 103 || (o.g.toList == (⟨#[]⟩ : ByteArray).toList)) && (ha o.kind 109 || (o.m.toList == (⟨#[]⟩ : ByteArray).toList)) && (ha o.kind 101 || !(o.gen != 0))) = true → ref04_only_C6 (hasS o.kind) b1 o.kind o.part.t o.part.n o.n o.off o.b.prod o.b.epoch o.b.seq rs.a rs.n rs.c o.g o.m o.gen o.robin ts.a ts.n ts.c (fun v w' => v = .bool (onlyB o) ∧ Mod [] w w') w3 := fun q1 q2 q3 => by
    rw [q1, q2, q3] at hO
    refine (A114 _).mono ?_
    rintro e w' ⟨rfl, rfl⟩
    refine ⟨_, rfl, Keep.of0 (Mod.refl _), ?_⟩
    refine brB_of (fun g => ⟨?_, N3⟩) fun g => brB_of (fun g2 => ⟨?_, N3⟩) fun g2 => ⟨?_, N3⟩
    · rw [hO, g]; rfl
    · rw [hO, g, g2]; rfl
    · rw [hO, g, g2]; rfl
  have c5 : ∀ t : Bool, ((ha o.kind 112 || ha o.kind 116 || (o.part.t.toList == (⟨#[]⟩ : ByteArray).toList)) && (ha o.kind 112 || !(o.part.n != 0)) && (ha o.kind 110 || !(o.n != 0)) && (ha o.kind 111 || !(o.off != 0))) = true → (ha o.kind 98 || (!(o.b.prod != 0) && !(o.b.epoch != 0) && !(o.b.seq != 0) && !(decide ((rs.n : Int) > 0)))) = true → t = !((ha o.kind 103 || (o.g.toList == (⟨#[]⟩ : ByteArray).toList)) && (ha o.kind 109 || (o.m.toList == (⟨#[]⟩ : ByteArray).toList)) && (ha o.kind 101 || !(o.gen != 0))) → ref04_only_C5 (hasS o.kind) t b1 o.kind o.part.t o.part.n o.n o.off o.b.prod o.b.epoch o.b.seq rs.a rs.n rs.c o.g o.m o.gen o.robin ts.a ts.n ts.c (fun v w' => v = .bool (onlyB o) ∧ Mod [] w w') w3 := fun t q1 q2 e => by
    subst e
    refine brB_of (fun g => ⟨?_, N3⟩) fun g => ref04_only_at6 (c6 q1 q2 (notF g))
    rw [hO, q1, q2, notT g]; simp
  have c4 : ((ha o.kind 112 || ha o.kind 116 || (o.part.t.toList == (⟨#[]⟩ : ByteArray).toList)) && (ha o.kind 112 || !(o.part.n != 0)) && (ha o.kind 110 || !(o.n != 0)) && (ha o.kind 111 || !(o.off != 0))) = true → (ha o.kind 98 || (!(o.b.prod != 0) && !(o.b.epoch != 0) && !(o.b.seq != 0) && !(decide ((rs.n : Int) > 0)))) = true → ref04_only_C4 (hasS o.kind) b1 o.kind o.part.t o.part.n o.n o.off o.b.prod o.b.epoch o.b.seq rs.a rs.n rs.c o.g o.m o.gen o.robin ts.a ts.n ts.c (fun v w' => v = .bool (onlyB o) ∧ Mod [] w w') w3 := fun q1 q2 => by
    unfold ref04_only_C4
    clear c6 N3 hO
    have c := fun t => c5 t q1 q2
    clear c5 q1 q2
    generalize ha o.kind 103 = G at *
    generalize ha o.kind 109 = M at *
    generalize ha o.kind 101 = E at *
    generalize (o.g.toList == (⟨#[]⟩ : ByteArray).toList) = eg at *
    generalize (o.m.toList == (⟨#[]⟩ : ByteArray).toList) = em at *
    generalize (o.gen != 0) = zg at *
    repeat' (first | ((with_reducible refine brB_of (fun g => ?_) fun g => ?_) <;> first | exact absurd g (by decide) | subst g | (replace g := notT g; subst g) | (replace g := notF g; subst g) | clear g) | (with_reducible refine Calls.mono (A112 _) ?_; rintro e w' ⟨rfl, rfl⟩; refine ⟨_, rfl, Keep.of0 (Mod.refl _), ?_⟩) | (with_reducible refine Calls.mono (A116 _) ?_; rintro e w' ⟨rfl, rfl⟩; refine ⟨_, rfl, Keep.of0 (Mod.refl _), ?_⟩) | (with_reducible refine Calls.mono (A110 _) ?_; rintro e w' ⟨rfl, rfl⟩; refine ⟨_, rfl, Keep.of0 (Mod.refl _), ?_⟩) | (with_reducible refine Calls.mono (A111 _) ?_; rintro e w' ⟨rfl, rfl⟩; refine ⟨_, rfl, Keep.of0 (Mod.refl _), ?_⟩) | (with_reducible refine Calls.mono (A98 _) ?_; rintro e w' ⟨rfl, rfl⟩; refine ⟨_, rfl, Keep.of0 (Mod.refl _), ?_⟩) | (with_reducible refine Calls.mono (A103 _) ?_; rintro e w' ⟨rfl, rfl⟩; refine ⟨_, rfl, Keep.of0 (Mod.refl _), ?_⟩) | (with_reducible refine Calls.mono (A109 _) ?_; rintro e w' ⟨rfl, rfl⟩; refine ⟨_, rfl, Keep.of0 (Mod.refl _), ?_⟩) | (with_reducible refine Calls.mono (A101 _) ?_; rintro e w' ⟨rfl, rfl⟩; refine ⟨_, rfl, Keep.of0 (Mod.refl _), ?_⟩) | (with_reducible refine Calls.mono (A114 _) ?_; rintro e w' ⟨rfl, rfl⟩; refine ⟨_, rfl, Keep.of0 (Mod.refl _), ?_⟩))
    all_goals exact ref04_only_at5 (c _ (by first | rfl | simp))
  have c3 : ∀ t : Bool, ((ha o.kind 112 || ha o.kind 116 || (o.part.t.toList == (⟨#[]⟩ : ByteArray).toList)) && (ha o.kind 112 || !(o.part.n != 0)) && (ha o.kind 110 || !(o.n != 0)) && (ha o.kind 111 || !(o.off != 0))) = true → t = !(ha o.kind 98 || (!(o.b.prod != 0) && !(o.b.epoch != 0) && !(o.b.seq != 0) && !(decide ((rs.n : Int) > 0)))) → ref04_only_C3 (hasS o.kind) t b1 o.kind o.part.t o.part.n o.n o.off o.b.prod o.b.epoch o.b.seq rs.a rs.n rs.c o.g o.m o.gen o.robin ts.a ts.n ts.c (fun v w' => v = .bool (onlyB o) ∧ Mod [] w w') w3 := fun t q1 e => by
    subst e
    refine brB_of (fun g => ⟨?_, N3⟩) fun g => ref04_only_at4 (c4 q1 (notF g))
    rw [hO, q1, notT g]; simp
  have c2 : ((ha o.kind 112 || ha o.kind 116 || (o.part.t.toList == (⟨#[]⟩ : ByteArray).toList)) && (ha o.kind 112 || !(o.part.n != 0)) && (ha o.kind 110 || !(o.n != 0)) && (ha o.kind 111 || !(o.off != 0))) = true → ref04_only_C2 (hasS o.kind) b1 o.kind o.part.t o.part.n o.n o.off o.b.prod o.b.epoch o.b.seq rs.a rs.n rs.c o.g o.m o.gen o.robin ts.a ts.n ts.c (fun v w' => v = .bool (onlyB o) ∧ Mod [] w w') w3 := fun q1 => by
    unfold ref04_only_C2
    clear c6 N3 hO c4 c5
    have c := fun t => c3 t q1
    clear c3 q1
    generalize ha o.kind 98 = B at *
    generalize (o.b.prod != 0) = z5 at *
    generalize (o.b.epoch != 0) = z6 at *
    generalize (o.b.seq != 0) = z7 at *
    generalize decide ((rs.n : Int) > 0) = z8 at *
    repeat' (first | ((with_reducible refine brB_of (fun g => ?_) fun g => ?_) <;> first | exact absurd g (by decide) | subst g | (replace g := notT g; subst g) | (replace g := notF g; subst g) | clear g) | (with_reducible refine Calls.mono (A112 _) ?_; rintro e w' ⟨rfl, rfl⟩; refine ⟨_, rfl, Keep.of0 (Mod.refl _), ?_⟩) | (with_reducible refine Calls.mono (A116 _) ?_; rintro e w' ⟨rfl, rfl⟩; refine ⟨_, rfl, Keep.of0 (Mod.refl _), ?_⟩) | (with_reducible refine Calls.mono (A110 _) ?_; rintro e w' ⟨rfl, rfl⟩; refine ⟨_, rfl, Keep.of0 (Mod.refl _), ?_⟩) | (with_reducible refine Calls.mono (A111 _) ?_; rintro e w' ⟨rfl, rfl⟩; refine ⟨_, rfl, Keep.of0 (Mod.refl _), ?_⟩) | (with_reducible refine Calls.mono (A98 _) ?_; rintro e w' ⟨rfl, rfl⟩; refine ⟨_, rfl, Keep.of0 (Mod.refl _), ?_⟩) | (with_reducible refine Calls.mono (A103 _) ?_; rintro e w' ⟨rfl, rfl⟩; refine ⟨_, rfl, Keep.of0 (Mod.refl _), ?_⟩) | (with_reducible refine Calls.mono (A109 _) ?_; rintro e w' ⟨rfl, rfl⟩; refine ⟨_, rfl, Keep.of0 (Mod.refl _), ?_⟩) | (with_reducible refine Calls.mono (A101 _) ?_; rintro e w' ⟨rfl, rfl⟩; refine ⟨_, rfl, Keep.of0 (Mod.refl _), ?_⟩) | (with_reducible refine Calls.mono (A114 _) ?_; rintro e w' ⟨rfl, rfl⟩; refine ⟨_, rfl, Keep.of0 (Mod.refl _), ?_⟩))
    all_goals exact ref04_only_at3 (c _ (by first | rfl | simp))
  have c1 : ∀ t : Bool, t = !((ha o.kind 112 || ha o.kind 116 || (o.part.t.toList == (⟨#[]⟩ : ByteArray).toList)) && (ha o.kind 112 || !(o.part.n != 0)) && (ha o.kind 110 || !(o.n != 0)) && (ha o.kind 111 || !(o.off != 0))) → ref04_only_C1 (hasS o.kind) t b1 o.kind o.part.t o.part.n o.n o.off o.b.prod o.b.epoch o.b.seq rs.a rs.n rs.c o.g o.m o.gen o.robin ts.a ts.n ts.c (fun v w' => v = .bool (onlyB o) ∧ Mod [] w w') w3 := fun t e => by
    subst e
    refine brB_of (fun g => ⟨?_, N3⟩) fun g => ref04_only_at2 (c2 (notF g))
    rw [hO, notT g]; simp
  clear c2 c3 c4 c5 c6 N3 hO
  generalize ha o.kind 112 = P at *
  generalize ha o.kind 116 = T at *
  generalize ha o.kind 110 = N at *
  generalize ha o.kind 111 = O at *
  generalize (o.part.t.toList == (⟨#[]⟩ : ByteArray).toList) = et at *
  generalize (o.part.n != 0) = z2 at *
  generalize (o.n != 0) = z3 at *
  generalize (o.off != 0) = z4 at *
  repeat' (first | ((with_reducible refine brB_of (fun g => ?_) fun g => ?_) <;> first | exact absurd g (by decide) | subst g | (replace g := notT g; subst g) | (replace g := notF g; subst g) | clear g) | (with_reducible refine Calls.mono (A112 _) ?_; rintro e w' ⟨rfl, rfl⟩; refine ⟨_, rfl, Keep.of0 (Mod.refl _), ?_⟩) | (with_reducible refine Calls.mono (A116 _) ?_; rintro e w' ⟨rfl, rfl⟩; refine ⟨_, rfl, Keep.of0 (Mod.refl _), ?_⟩) | (with_reducible refine Calls.mono (A110 _) ?_; rintro e w' ⟨rfl, rfl⟩; refine ⟨_, rfl, Keep.of0 (Mod.refl _), ?_⟩) | (with_reducible refine Calls.mono (A111 _) ?_; rintro e w' ⟨rfl, rfl⟩; refine ⟨_, rfl, Keep.of0 (Mod.refl _), ?_⟩) | (with_reducible refine Calls.mono (A98 _) ?_; rintro e w' ⟨rfl, rfl⟩; refine ⟨_, rfl, Keep.of0 (Mod.refl _), ?_⟩) | (with_reducible refine Calls.mono (A103 _) ?_; rintro e w' ⟨rfl, rfl⟩; refine ⟨_, rfl, Keep.of0 (Mod.refl _), ?_⟩) | (with_reducible refine Calls.mono (A109 _) ?_; rintro e w' ⟨rfl, rfl⟩; refine ⟨_, rfl, Keep.of0 (Mod.refl _), ?_⟩) | (with_reducible refine Calls.mono (A101 _) ?_; rintro e w' ⟨rfl, rfl⟩; refine ⟨_, rfl, Keep.of0 (Mod.refl _), ?_⟩) | (with_reducible refine Calls.mono (A114 _) ?_; rintro e w' ⟨rfl, rfl⟩; refine ⟨_, rfl, Keep.of0 (Mod.refl _), ?_⟩))
  all_goals exact ref04_only_at1 (c1 _ (by first | rfl | simp))
end Go.Proofs.Ytohgihgddknmmaa
