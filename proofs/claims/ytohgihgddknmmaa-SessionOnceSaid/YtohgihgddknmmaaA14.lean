/- The document's check of a command, whole. -/
import Derived.Test.YtohgihgddknmmaaA13
namespace Go.Proofs.Ytohgihgddknmmaa
open Go Go.RowKit
set_option linter.unusedVariables false
set_option linter.unusedSimpArgs false

set_option maxHeartbeats 4000000 in
theorem CheckR_ok {w : World} {o : POp} {rs ts : Sl} (h1 : SlAt w 4 encR rs.a rs.n o.b.recs) (h2 : SlAt w 1 encS ts.a ts.n o.topics) :
    Calls Try.prog 8 #[o.v rs ts] w fun e w' => e = .returned (.int .i64 (opE o)) ∧ Mod [] w w' := by
  refine go_of (ref04_Check_go ?_)
  intro b1 f1
  refine brB_dec (fun g => fun w2 A2 => ⟨by rw [opE, if_pos (.inl g)], A2.mod⟩) fun k0 => ?_
  refine brB_dec (fun g => fun w2 A2 => ⟨by rw [opE, if_pos (.inr g)], A2.mod⟩) fun k1 => ?_
  have k0 : 0 ≤ o.kind := by omega
  have k1 : o.kind ≤ 12 := by omega
  have hE : opE o = if formB o = false then 40 else if (num o.part.n && num o.n && num o.off && num o.gen) = false then 1 else if o.kind = 2 then batchE o.b else 0 := by rw [opE, if_neg (by omega)]
  intro w4 A4
  refine (has_ok k0 k1 w4).mono ?_
  rintro e w5 ⟨rfl, M5⟩
  refine ⟨_, rfl, Keep.of0 M5, ?_⟩
  have N5 := A4.mod.go0 M5 (by simp)
  refine (Only_ok k0 k1 h1.1 h2.1).mono ?_
  rintro e w7 ⟨rfl, M7⟩
  refine ⟨_, rfl, Keep.of0 M7, ?_⟩
  have N7 := N5.go0 M7 (by simp)
  have bad : ∀ w', formB o = false → Mod [] w w' → (Value.int .i64 40 = Value.int .i64 (opE o) ∧ Mod [] w w') := fun w' hf M => ⟨by rw [hE, if_pos hf], M⟩
  have c1 : ∀ w', formB o = true → Mod [] w w' → ref04_Check_C1 b1 o.kind o.part.t o.part.n o.n o.off o.b.prod o.b.epoch o.b.seq rs.a rs.n rs.c o.g o.m o.gen o.robin ts.a ts.n ts.c (fun v w' => v = .int .i64 (opE o) ∧ Mod [] w w') w' := fun w' hf N => by
    rw [if_neg (by rw [hf]; decide)] at hE
    have no : ∀ {k : Int} {w'' : World}, opE o = k → Mod [] w w'' → (Value.int .i64 k = Value.int .i64 (opE o) ∧ Mod [] w w'') := fun e M => ⟨by rw [e], M⟩
    refine (Num3_ok o.part.n w').mono ?_
    rintro e w8 ⟨rfl, rfl⟩
    refine ⟨_, rfl, Keep.of0 (Mod.refl _), brB_of (fun g => no (by rw [hE, if_pos (by rw [notT g]; rfl)]) N) fun g1 => ?_⟩
    refine (Num3_ok o.n w8).mono ?_
    rintro e w9 ⟨rfl, rfl⟩
    refine ⟨_, rfl, Keep.of0 (Mod.refl _), brB_of (fun g => no (by rw [hE, if_pos (by rw [notT g]; simp)]) N) fun g2 => ?_⟩
    refine (Num3_ok o.off w9).mono ?_
    rintro e w10 ⟨rfl, rfl⟩
    refine ⟨_, rfl, Keep.of0 (Mod.refl _), brB_of (fun g => no (by rw [hE, if_pos (by rw [notT g]; simp)]) N) fun g3 => ?_⟩
    refine (Num3_ok o.gen w10).mono ?_
    rintro e w11 ⟨rfl, rfl⟩
    refine ⟨_, rfl, Keep.of0 (Mod.refl _), brB_of (fun g => no (by rw [hE, if_pos (by rw [notT g]; simp)]) N) fun g4 => ?_⟩
    rw [if_neg (by rw [notF g1, notF g2, notF g3, notF g4]; decide)] at hE
    refine brB_of (fun g => ?_) fun g => no (by rw [hE, if_neg (by simpa using g)]) N
    refine (AllR3_ok (b := o.b) (rs := rs) (h1.keep0 N)).mono ?_
    rintro e w12 ⟨rfl, M12⟩
    exact ⟨_, rfl, Keep.of0 M12, no (by rw [hE, if_pos (by simpa using g)]) (N.go0 M12 (by simp))⟩
  have hNs := fun w' (M : Mod [] w7 w') => NamesR_ok (l := o.topics) (ts := ts) (h2.keep0 (N7.go0 M (by simp)))
  have hN1 := RName_ok o.part.t
  have hN2 := RName_ok o.g
  have hN3 := RName_ok o.m
  unfold formB at bad c1
  have A112 : ∀ w, Calls Try.prog 23 #[.string (hasS o.kind), .int .u8 112] w fun e w' => e = .returned (.bool (ha o.kind 112)) ∧ w' = w := fun w => AmongK_ok k0 k1 (c := 112) (by decide) w
  have A116 : ∀ w, Calls Try.prog 23 #[.string (hasS o.kind), .int .u8 116] w fun e w' => e = .returned (.bool (ha o.kind 116)) ∧ w' = w := fun w => AmongK_ok k0 k1 (c := 116) (by decide) w
  have A103 : ∀ w, Calls Try.prog 23 #[.string (hasS o.kind), .int .u8 103] w fun e w' => e = .returned (.bool (ha o.kind 103)) ∧ w' = w := fun w => AmongK_ok k0 k1 (c := 103) (by decide) w
  have A109 : ∀ w, Calls Try.prog 23 #[.string (hasS o.kind), .int .u8 109] w fun e w' => e = .returned (.bool (ha o.kind 109)) ∧ w' = w := fun w => AmongK_ok k0 k1 (c := 109) (by decide) w
  have A108 : ∀ w, Calls Try.prog 23 #[.string (hasS o.kind), .int .u8 108] w fun e w' => e = .returned (.bool (ha o.kind 108)) ∧ w' = w := fun w => AmongK_ok k0 k1 (c := 108) (by decide) w
  clear hE h1 h2 N5 M7
  generalize ha o.kind 112 = P at *
  generalize ha o.kind 116 = T at *
  generalize ha o.kind 103 = G at *
  generalize ha o.kind 109 = M at *
  generalize ha o.kind 108 = L at *
  generalize nameB o.part.t = n1 at *
  generalize nameB o.g = n2 at *
  generalize nameB o.m = n3 at *
  generalize namesB o.topics = ns at *
  generalize onlyB o = on at *
  repeat' (first | ((with_reducible refine brB_of (fun g => ?_) fun g => ?_) <;> first | exact absurd g (by decide) | subst g | (replace g := notT g; subst g) | (replace g := notF g; subst g) | clear g) | (with_reducible refine Calls.mono (A112 _) ?_; rintro e w' ⟨rfl, rfl⟩; refine ⟨_, rfl, Keep.of0 (Mod.refl _), ?_⟩) | (with_reducible refine Calls.mono (A116 _) ?_; rintro e w' ⟨rfl, rfl⟩; refine ⟨_, rfl, Keep.of0 (Mod.refl _), ?_⟩) | (with_reducible refine Calls.mono (A103 _) ?_; rintro e w' ⟨rfl, rfl⟩; refine ⟨_, rfl, Keep.of0 (Mod.refl _), ?_⟩) | (with_reducible refine Calls.mono (A109 _) ?_; rintro e w' ⟨rfl, rfl⟩; refine ⟨_, rfl, Keep.of0 (Mod.refl _), ?_⟩) | (with_reducible refine Calls.mono (A108 _) ?_; rintro e w' ⟨rfl, rfl⟩; refine ⟨_, rfl, Keep.of0 (Mod.refl _), ?_⟩) | (with_reducible refine Calls.mono (hN1 _) ?_; rintro e w' ⟨rfl, rfl⟩; refine ⟨_, rfl, Keep.of0 (Mod.refl _), ?_⟩) | (with_reducible refine Calls.mono (hN2 _) ?_; rintro e w' ⟨rfl, rfl⟩; refine ⟨_, rfl, Keep.of0 (Mod.refl _), ?_⟩) | (with_reducible refine Calls.mono (hN3 _) ?_; rintro e w' ⟨rfl, rfl⟩; refine ⟨_, rfl, Keep.of0 (Mod.refl _), ?_⟩) | (with_reducible refine Calls.mono (hNs _ (Mod.refl _)) ?_; rintro e w8 ⟨rfl, M8⟩; have N8 := N7.go0 M8 (by simp); refine ⟨_, rfl, Keep.of0 M8, ?_⟩))
  all_goals first | exact bad _ (by first | rfl | simp) N7 | exact bad _ (by first | rfl | simp) N8 | exact ref04_Check_at1 (c1 _ (by first | rfl | simp) N7) | exact ref04_Check_at1 (c1 _ (by first | rfl | simp) N8)
end Go.Proofs.Ytohgihgddknmmaa
