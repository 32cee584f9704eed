/- Whether a reply may be: the reference. -/
import Derived.Test.YtdgiemnadpkcfaaC3
namespace Go.Proofs.Ytdgiemnadpkcfaa
open Go Go.RowKit
set_option linter.unusedVariables false
set_option linter.unusedSimpArgs false

abbrev PostR (r : PRep) (w0 : World) : Value → World → Prop := fun v w' => v = .int .i64 (repE r) ∧ Mod [] w0 w'
theorem Right5 {w0 w : World} {bm : Nat} {r : PRep} {f p : Sl} (h : RepAt w0 r f p) (M : Mod [] w0 w) (hr : r.parts.any badP = false → repE r = 0) (hr2 : r.parts.any badP = true → repE r = 40) :
    loopD3 ref04_Right_la5 (dnF Try.prog ref04_Right_an (code Try.f29) 391 [0, 0, 1, 0, 1, 1, 1, 1, 1, 1, 1]) (kont3 Try.prog ref04_Right_an (code Try.f29) [1, 1, 1, 1, 1, 1, 1, 0, 1, 0] [] (post3 Try.prog Try.f29 [] (PostR r w0)))
      (ref04_Right_v5 bm 0) (ref04_Right_m5 bm r.e r.off r.n r.gen f.a f.n f.c p.a p.n p.c) w := by
  have e5 := h.parts.1
  have hl := h.lp
  refine ref04_Right_rule5 (fun mm x w' => ∃ k : Nat, x = k ∧ k ≤ r.parts.length ∧ (r.parts.take k).any badP = false ∧ Mod [] w0 w' ∧ mm = r.parts.length - k) r.parts.length ⟨0, rfl, by omega, by simp, M, rfl⟩ ?_
  rintro mm x w1 ⟨k, rfl, hk, ha, M1, rfl⟩
  refine brB_dec (fun hlt => ?_) fun hge => ?_
  · have g1 : k < r.parts.length := by omega
    obtain ⟨x, hx⟩ : ∃ x, r.parts[k]? = some x := ⟨_, List.getElem?_eq_getElem g1⟩
    have ek : IntKind.wrap .i64 ((k : Int) + 1) = ((k + 1 : Nat) : Int) := by rw [wrap_id (by omega) (by omega)]; omega
    refine (h.keep0 M1).parts.ix hx fun q hq => ldStr_of (by simpa [add_zero] using hq 0 _ rfl) ?_
    refine (RName_ok x.t w1).mono ?_
    rintro e w2 ⟨rfl, rfl⟩
    refine ⟨_, rfl, Keep.of0 (Mod.refl _), ?_⟩
    refine brB_of (fun g3 => ?_) (fun g3 => ?_)
    · exact ⟨by rw [hr2 (List.any_eq_true.2 ⟨x, List.mem_of_getElem? hx, g3⟩)], M1⟩
    · exact ref04_Right_leaf5 (r.parts.length - (k + 1)) (by omega) ⟨k + 1, ek, by omega, by rw [take_any hx, ha]; exact g3, M1, rfl⟩
  · have hk : k = r.parts.length := by omega
    subst hk
    rw [List.take_length] at ha
    exact ⟨by rw [hr ha], M1⟩
theorem Right3 {w0 w : World} {bm : Nat} {r : PRep} {f p : Sl} (h : RepAt w0 r f p) (M : Mod [] w0 w) {t : Bool} (ht : t = (ok0 r && r.found.all okF)) :
    loopD3 ref04_Right_la3 (dnF Try.prog ref04_Right_an (code Try.f29) 395 [0, 0, 1, 0, 1, 1, 1]) (kont3 Try.prog ref04_Right_an (code Try.f29) [1, 1, 1, 0, 1, 0] [] (post3 Try.prog Try.f29 [] (PostR r w0)))
      (ref04_Right_v3 bm t 0) (ref04_Right_m3 bm r.e r.off r.n r.gen f.a f.n f.c p.a p.n p.c) w := by
  have e5 := h.parts.1
  have e4 := h.found.1
  have hl := h.lp
  have hl4 := h.lf
  refine ref04_Right_rule3 (fun mm t x w' => ∃ k : Nat, x = k ∧ k ≤ r.parts.length ∧ t = (ok0 r && r.found.all okF && (r.parts.take k).all okP) ∧ Mod [] w0 w' ∧ mm = r.parts.length - k) r.parts.length ⟨0, rfl, by omega, by simp [ht], M, rfl⟩ ?_
  rintro mm t x w1 ⟨k, rfl, hk, rfl, M1, rfl⟩
  refine brB_dec (fun hlt => ?_) fun hge => ?_
  · have g1 : k < r.parts.length := by omega
    obtain ⟨x, hx⟩ : ∃ x, r.parts[k]? = some x := ⟨_, List.getElem?_eq_getElem g1⟩
    have ek : IntKind.wrap .i64 ((k : Int) + 1) = ((k + 1 : Nat) : Int) := by rw [wrap_id (by omega) (by omega)]; omega
    refine brB_of (fun g3 => ?_) (fun g3 => ?_)
    · refine (h.keep0 M1).parts.ix hx fun q hq => ldInt_of (hq 1 _ rfl) ?_
      refine (Num3_ok x.n w1).mono ?_
      rintro e w2 ⟨rfl, rfl⟩
      refine ⟨_, rfl, Keep.of0 (Mod.refl _), ?_⟩
      exact ref04_Right_leaf3 (r.parts.length - (k + 1)) (by omega) ⟨k + 1, ek, by omega, by rw [take_all hx, ← Bool.and_assoc, g3]; rfl, M1, rfl⟩
    · exact ref04_Right_leaf3 (r.parts.length - (k + 1)) (by omega) ⟨k + 1, ek, by omega, by rw [take_all hx, ← Bool.and_assoc, g3]; rfl, M1, rfl⟩
  · have hk : k = r.parts.length := by omega
    subst hk
    rw [List.take_length]
    refine brB_of (fun g1 => ⟨by rw [repE, if_pos (notT g1)], M1⟩) fun g1 => ?_
    have hR1 : repE r = if r.found.length > 64 then 2 else if r.parts.length > 64 then 2 else if (r.found.any badF || r.parts.any badP) = true then 40 else 0 := by
      rw [repE, if_neg (by rw [notF g1]; decide)]
    refine brB_dec (fun g2 => ⟨by rw [hR1, if_pos (by omega)], M1⟩) fun g2 => ?_
    rw [if_neg (by omega)] at hR1
    refine brB_dec (fun g3 => ⟨by rw [hR1, if_pos (by omega)], M1⟩) fun g3 => ?_
    rw [if_neg (by omega)] at hR1
    refine ref04_Right_rule4 (fun mm x w' => ∃ k : Nat, x = k ∧ k ≤ r.found.length ∧ (r.found.take k).any badF = false ∧ Mod [] w0 w' ∧ mm = r.found.length - k) r.found.length ⟨0, rfl, by omega, by simp, M1, rfl⟩ ?_
    rintro mm x w1 ⟨k, rfl, hk, ha, M1, rfl⟩
    refine brB_dec (fun hlt => ?_) fun hge => ?_
    · have g1 : k < r.found.length := by omega
      obtain ⟨x, hx⟩ : ∃ x, r.found[k]? = some x := ⟨_, List.getElem?_eq_getElem g1⟩
      have ek : IntKind.wrap .i64 ((k : Int) + 1) = ((k + 1 : Nat) : Int) := by rw [wrap_id (by omega) (by omega)]; omega
      refine (h.keep0 M1).found.ix hx fun q hq => ?_
      rw [add_add, add_add, add_add]
      refine ldBool_of (hq 1 _ rfl) (ldStr_of (hq 2 _ rfl) (ldBool_of (hq 3 _ rfl) (ldStr_of (hq 4 _ rfl) ?_)))
      refine (RefCheck_ok x.r w1).mono ?_
      rintro e w2 ⟨rfl, M2⟩
      refine ⟨_, rfl, Keep.of0 M2, ?_⟩
      have M3 := M1.go0 M2 (by simp)
      refine brB_of (fun g3 => ?_) (fun g3 => ?_)
      · have hb : r.found.any badF = true := List.any_eq_true.2 ⟨x, List.mem_of_getElem? hx, g3⟩
        exact ⟨by rw [hR1, if_pos (by rw [hb]; rfl)], M3⟩
      · exact ref04_Right_leaf4 (r.found.length - (k + 1)) (by omega) ⟨k + 1, ek, by omega, by rw [take_any hx, ha]; exact g3, M3, rfl⟩
    · have hk : k = r.found.length := by omega
      subst hk
      rw [List.take_length] at ha
      exact Right5 h M1 (fun hp => by rw [hR1, ha, hp]; rfl) (fun hp => by rw [hR1, ha, hp]; rfl)
theorem Right_rest {w0 w : World} {bm : Nat} {r : PRep} {f p : Sl} (h : RepAt w0 r f p) (M : Mod [] w0 w) {t : Bool} (ht : t = ok0 r) :
    ref04_Right_C1 t bm r.e r.off r.n r.gen f.a f.n f.c p.a p.n p.c (PostR r w0) w := by
  have e4 := h.found.1
  have hl := h.lf
  refine ref04_Right_rule2 (fun mm t x w' => ∃ k : Nat, x = k ∧ k ≤ r.found.length ∧ t = (ok0 r && (r.found.take k).all okF) ∧ Mod [] w0 w' ∧ mm = r.found.length - k) r.found.length ⟨0, rfl, by omega, by simp [ht], M, rfl⟩ ?_
  rintro mm t x w1 ⟨k, rfl, hk, rfl, M1, rfl⟩
  refine brB_dec (fun hlt => ?_) fun hge => ?_
  · have g1 : k < r.found.length := by omega
    obtain ⟨x, hx⟩ : ∃ x, r.found[k]? = some x := ⟨_, List.getElem?_eq_getElem g1⟩
    have ek : IntKind.wrap .i64 ((k : Int) + 1) = ((k + 1 : Nat) : Int) := by rw [wrap_id (by omega) (by omega)]; omega
    refine brB_of (fun g3 => ?_) (fun g3 => ?_)
    · refine (h.keep0 M1).found.ix hx fun q hq => ldInt_of (by simpa [add_zero] using hq 0 _ rfl) ?_
      refine (Num3_ok x.off w1).mono ?_
      rintro e w2 ⟨rfl, rfl⟩
      refine ⟨_, rfl, Keep.of0 (Mod.refl _), ?_⟩
      exact ref04_Right_leaf2 (r.found.length - (k + 1)) (by omega) ⟨k + 1, ek, by omega, by rw [take_all hx, ← Bool.and_assoc, g3]; rfl, M1, rfl⟩
    · exact ref04_Right_leaf2 (r.found.length - (k + 1)) (by omega) ⟨k + 1, ek, by omega, by rw [take_all hx, ← Bool.and_assoc, g3]; rfl, M1, rfl⟩
  · have hk : k = r.found.length := by omega
    subst hk
    rw [List.take_length]
    exact Right3 h M1 rfl
theorem Right_ok {w : World} {r : PRep} {f p : Sl} (h : RepAt w r f p) :
    Calls Try.prog 29 #[r.v f p] w fun e w' => e = .returned (.int .i64 (repE r)) ∧ Mod [] w w' := by
  refine go_of (ref04_Right_go ?_)
  intro b1 f1 w1 A1
  have rest : ∀ (t : Bool) (bm : Nat) (x0 x1 x2 x3 : Int) (a4 : Option Addr) (n4 c4 : Nat) (a5 : Option Addr) (n5 c5 : Nat) (w' : World), (t = ok0 r ∧ x0 = r.e ∧ x1 = r.off ∧ x2 = r.n ∧ x3 = r.gen ∧ a4 = f.a ∧ n4 = f.n ∧ c4 = f.c ∧ a5 = p.a ∧ n5 = p.n ∧ c5 = p.c ∧ Mod [] w w') → ref04_Right_C1 t bm x0 x1 x2 x3 a4 n4 c4 a5 n5 c5 (PostR r w) w' := by
    rintro t bm x0 x1 x2 x3 a4 n4 c4 a5 n5 c5 w' ⟨ht, rfl, rfl, rfl, rfl, rfl, rfl, rfl, rfl, rfl, rfl, M⟩
    exact Right_rest h M ht
  refine (Num3_ok _ _).mono ?_
  rintro e w2 ⟨rfl, rfl⟩
  refine ⟨_, rfl, Keep.of0 (Mod.refl _), brB_of (fun g1 => ?_) (fun g1 => ?_)⟩
  rotate_left
  · exact ref04_Right_cut1 _ ⟨by simp [ok0, g1], rfl, rfl, rfl, rfl, rfl, rfl, rfl, rfl, rfl, rfl, A1.mod⟩ rest
  refine (Num3_ok _ _).mono ?_
  rintro e w2 ⟨rfl, rfl⟩
  refine ⟨_, rfl, Keep.of0 (Mod.refl _), brB_of (fun g2 => ?_) (fun g2 => ?_)⟩
  rotate_left
  · exact ref04_Right_cut1 _ ⟨by simp [ok0, g2], rfl, rfl, rfl, rfl, rfl, rfl, rfl, rfl, rfl, rfl, A1.mod⟩ rest
  refine (Num3_ok _ _).mono ?_
  rintro e w2 ⟨rfl, rfl⟩
  refine ⟨_, rfl, Keep.of0 (Mod.refl _), brB_of (fun g3 => ?_) (fun g3 => ?_)⟩
  rotate_left
  · exact ref04_Right_cut1 _ ⟨by simp [ok0, g3], rfl, rfl, rfl, rfl, rfl, rfl, rfl, rfl, rfl, rfl, A1.mod⟩ rest
  refine (Num3_ok _ _).mono ?_
  rintro e w2 ⟨rfl, rfl⟩
  refine ⟨_, rfl, Keep.of0 (Mod.refl _), ?_⟩
  exact ref04_Right_cut1 _ ⟨by simp [ok0, g1, g2, g3], rfl, rfl, rfl, rfl, rfl, rfl, rfl, rfl, rfl, rfl, A1.mod⟩ rest
end Go.Proofs.Ytdgiemnadpkcfaa
