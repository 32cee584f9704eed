/- Replies: whether two are alike; one of one's own. -/
import Derived.Test.YtdgiemnadpkcfaaC1
namespace Go.Proofs.Ytdgiemnadpkcfaa
open Go Go.RowKit
set_option linter.unusedVariables false
set_option linter.unusedSimpArgs false

theorem eqRep (r r' : PRep) : decide (r = r') = (decide (r.e = r'.e) && decide (r.off = r'.off) && decide (r.n = r'.n) && decide (r.gen = r'.gen) && decide (r.found = r'.found) && decide (r.parts = r'.parts)) := by
  obtain ⟨a, b, c, d, e, f⟩ := r
  obtain ⟨a', b', c', d', e', f'⟩ := r'
  rw [Bool.eq_iff_iff]
  simp [and_assoc]
theorem Alike_ok {w : World} {r r' : PRep} {f p f' p' : Sl} (h : RepAt w r f p) (h' : RepAt w r' f' p') :
    Calls Try.prog 25 #[r.v f p, r'.v f' p'] w fun e w' => e = .returned (.bool (decide (r = r'))) ∧ Mod [] w w' := by
  rw [eqRep]
  refine go_of (request_Alike_go ?_)
  intro b1 f1 b2 f2
  refine brB_of (fun g1 => ?_) (fun g1 => ?_)
  rotate_left
  · intro w1 A1; simp at g1; exact ⟨by simp [g1], A1.mod⟩
  refine brB_of (fun g2 => ?_) (fun g2 => ?_)
  rotate_left
  · intro w1 A1; simp at g2; exact ⟨by simp [g2], A1.mod⟩
  refine brB_of (fun g3 => ?_) (fun g3 => ?_)
  rotate_left
  · intro w1 A1; simp at g3; exact ⟨by simp [g3], A1.mod⟩
  refine brB_of (fun g4 => ?_) (fun g4 => ?_)
  rotate_left
  · intro w1 A1; simp at g4; exact ⟨by simp [g4], A1.mod⟩
  simp at g1 g2 g3 g4
  intro w1 A1
  refine (EqF_ok (h.keep0 A1.mod).found (h'.keep0 A1.mod).found h.lf).mono ?_
  rintro e w2 ⟨rfl, M2⟩
  refine ⟨_, rfl, Keep.of0 M2, ?_⟩
  have M := A1.mod.go0 M2 (by simp)
  refine brB_of (fun g5 => ?_) (fun g5 => ?_)
  · refine (EqP_ok (h.keep0 M).parts (h'.keep0 M).parts h.lp).mono ?_
    rintro e w3 ⟨rfl, M3⟩
    refine ⟨_, rfl, Keep.of0 M3, ?_, M.go0 M3 (by simp)⟩
    simp at g5
    simp [g1, g2, g3, g4, g5]
  · refine ⟨?_, M⟩
    simp at g5
    simp [g5]
theorem RAlike_ok {w : World} {r r' : PRep} {f p f' p' : Sl} (h : RepAt w r f p) (h' : RepAt w r' f' p') :
    Calls Try.prog 19 #[r.v f p, r'.v f' p'] w fun e w' => e = .returned (.bool (decide (r = r'))) ∧ Mod [] w w' := by
  rw [eqRep]
  refine go_of (ref04_Alike_go ?_)
  intro b1 f1 b2 f2
  refine brB_of (fun g1 => ?_) (fun g1 => ?_)
  rotate_left
  · intro w1 A1; simp at g1; exact ⟨by simp [g1], A1.mod⟩
  refine brB_of (fun g2 => ?_) (fun g2 => ?_)
  rotate_left
  · intro w1 A1; simp at g2; exact ⟨by simp [g2], A1.mod⟩
  refine brB_of (fun g3 => ?_) (fun g3 => ?_)
  rotate_left
  · intro w1 A1; simp at g3; exact ⟨by simp [g3], A1.mod⟩
  refine brB_of (fun g4 => ?_) (fun g4 => ?_)
  rotate_left
  · intro w1 A1; simp at g4; exact ⟨by simp [g4], A1.mod⟩
  simp at g1 g2 g3 g4
  intro w1 A1
  refine (FoundR_ok (h.keep0 A1.mod).found (h'.keep0 A1.mod).found h.lf).mono ?_
  rintro e w2 ⟨rfl, M2⟩
  refine ⟨_, rfl, Keep.of0 M2, ?_⟩
  have M := A1.mod.go0 M2 (by simp)
  refine brB_of (fun g5 => ?_) (fun g5 => ?_)
  · refine (PartsR_ok (h.keep0 M).parts (h'.keep0 M).parts h.lp).mono ?_
    rintro e w3 ⟨rfl, M3⟩
    refine ⟨_, rfl, Keep.of0 M3, ?_, M.go0 M3 (by simp)⟩
    simp at g5
    simp [g1, g2, g3, g4, g5]
  · refine ⟨?_, M⟩
    simp at g5
    simp [g5]

/-! ### copies -/
theorem infoF : (Try.prog.info? 62).map (fun i => (i.zero, i.size, i.bytes)) = some (some (.agg #[.int .i64 0, .bool false, .string ByteArray.empty, .bool false, .string ByteArray.empty]), 5, 56) := by kernel_rfl
theorem infoP : (Try.prog.info? 58).map (fun i => (i.zero, i.size, i.bytes)) = some (some (.agg #[.string ByteArray.empty, .int .i64 0]), 2, 24) := by kernel_rfl
theorem encF_one (x : PFound) : ∀ u ∈ encF x, u.oneCell' = true := by simp [encF, Value.oneCell']
theorem encP_one (x : PPart) : ∀ u ∈ encP x, u.oneCell' = true := by simp [encP, Value.oneCell']

theorem CloneF_ok {w : World} {s : Sl} {l : List PFound} (h : SlAt w 5 encF s.a s.n l) (hl : l.length ≤ 1000000) :
    Calls Try.prog 45 #[.slice s.a s.n s.c] w fun e w' => ∃ v, e = .returned v ∧ ∃ s' : Sl, v = .slice s'.a s'.n s'.c ∧ Row w' w.heap.size 62 5 encF s'.a s'.n s'.c l ∧ Mod [] w w' := by
  refine slices_Clone_api_Found_api_Found_go ?_
  refine brB_of (fun h0 => ?_) fun _ => ?_
  · have hl0 : l = [] := by
      cases l with
      | nil => rfl
      | cons x r => obtain ⟨ad, ha, _⟩ := h.2 0 x rfl; rw [ha] at h0; cases h0
    subst hl0
    exact ⟨⟨none, 0, 0⟩, rfl, Row.nil .., Mod.refl _⟩
  · refine al_of fun b w1 c1 M1 f1 => ?_
    obtain ⟨i0, hi, hz0, hz1, hz2⟩ := info_parts infoF
    refine appendAll_of (Row.fresh c1 f1) Try.underlying24 hi hz0 hz1 hz2 rfl (by decide) (h.keep0 M1) encF_len encF_one (by simp; omega) (by simp; unfold maxLen; omega) M1.size fun a' n' c' w2 hR hM => ?_
    exact ⟨⟨a', n', c'⟩, rfl, by simpa using hR, M1.go0 (hM [b] (by simp)) (by simpa using f1)⟩
theorem CloneP_ok {w : World} {s : Sl} {l : List PPart} (h : SlAt w 2 encP s.a s.n l) (hl : l.length ≤ 1000000) :
    Calls Try.prog 46 #[.slice s.a s.n s.c] w fun e w' => ∃ v, e = .returned v ∧ ∃ s' : Sl, v = .slice s'.a s'.n s'.c ∧ Row w' w.heap.size 58 2 encP s'.a s'.n s'.c l ∧ Mod [] w w' := by
  refine slices_Clone_api_Part_api_Part_go ?_
  refine brB_of (fun h0 => ?_) fun _ => ?_
  · have hl0 : l = [] := by
      cases l with
      | nil => rfl
      | cons x r => obtain ⟨ad, ha, _⟩ := h.2 0 x rfl; rw [ha] at h0; cases h0
    subst hl0
    exact ⟨⟨none, 0, 0⟩, rfl, Row.nil .., Mod.refl _⟩
  · refine al_of fun b w1 c1 M1 f1 => ?_
    obtain ⟨i0, hi, hz0, hz1, hz2⟩ := info_parts infoP
    refine appendAll_of (Row.fresh c1 f1) Try.underlying25 hi hz0 hz1 hz2 rfl (by decide) (h.keep0 M1) encP_len encP_one (by simp; omega) (by simp; unfold maxLen; omega) M1.size fun a' n' c' w2 hR hM => ?_
    exact ⟨⟨a', n', c'⟩, rfl, by simpa using hR, M1.go0 (hM [b] (by simp)) (by simpa using f1)⟩

theorem own_ok {w : World} {r : PRep} {f p : Sl} (h : RepAt w r f p) :
    Calls Try.prog 27 #[r.v f p] w fun e w' => ∃ v, e = .returned v ∧ ∃ f' p' : Sl, v = r.v f' p' ∧ RepOwn w' w.heap.size r f' p' ∧ Mod [] w w' := by
  refine clients_own_go ?_
  intro b1 f1 b2 f2 w1 A1
  have h1 := h.keep0 A1.mod
  refine (CloneF_ok h1.found h1.lf).mono ?_
  rintro e w2 ⟨_, rfl, f', rfl, hF, M2⟩
  refine ⟨_, _, _, rfl, Keep.of0 M2, rfl, ?_⟩
  have h2 := h1.keep0 M2
  refine (CloneP_ok h2.parts h2.lp).mono ?_
  rintro e w3 ⟨_, rfl, p', rfl, hP, M3⟩
  refine ⟨_, _, _, rfl, Keep.of0 M3, ?_⟩
  intro w4 A4
  have s1 := A1.mod.size
  have s2 := M2.size
  have l1 : ∀ b ∈ [b2, b1], b < w1.heap.size := A1.lt
  refine ⟨f', p', rfl, ⟨?_, ?_, h.lf, h.lp⟩, ?_⟩
  · exact ((hF.keep0 M3).keep A4.mod fun ad ha hb => by have := l1 _ hb; have := hF.base ad ha; omega).rebase s1
  · exact (hP.keep A4.mod fun ad ha hb => by have := l1 _ hb; have := hP.base ad ha; omega).rebase (by omega)
  · exact ((A1.mod.go0 M2 (by simp)).go0 M3 (by simp)).go0 A4.mod (by simp; omega)
theorem Rreply_ok {w : World} {r : PRep} {f p : Sl} (h : RepAt w r f p) :
    Calls Try.prog 36 #[r.v f p] w fun e w' => ∃ v, e = .returned v ∧ ∃ f' p' : Sl, v = r.v f' p' ∧ RepOwn w' w.heap.size r f' p' ∧ Mod [] w w' := by
  refine ref15_reply_go ?_
  intro b1 f1 b2 f2 w1 A1
  have l1 : ∀ b ∈ [b2, b1], b < w1.heap.size := A1.lt
  have s1 := A1.mod.size
  refine al_of fun b3 w2 c2 M2 f3 => ?_
  have s2 := M2.size
  have h2 := (h.keep0 A1.mod).keep0 M2
  obtain ⟨i0, hi, hz0, hz1, hz2⟩ := info_parts infoF
  refine appendAll_of (Row.fresh c2 f3) Try.underlying24 hi hz0 hz1 hz2 rfl (by decide) h2.found encF_len encF_one (by have := h.lf; simp; omega) (by have := h.lf; simp; unfold maxLen; omega) M2.size fun a3 n3 c3 w3 hF hM3 => ?_
  have M3 := hM3 [b3] (by simp)
  have s3 := M3.size
  have N3 : Mod [] w w3 := (A1.mod.go0 M2 (by simp)).go0 M3 (by simp; omega)
  refine ⟨Keep.of M3 fun b hb hlt hb' => ?_, ?_⟩
  · simp at hb'; have := l1 b (by simp at hb ⊢; omega); omega
  intro w4 A4
  have s4 := A4.mod.size
  have N4 := N3.go0 A4.mod (by simp; omega)
  refine al_of fun b4 w5 c5 M5 f5 => ?_
  have s5 := M5.size
  have h5 := (h.keep0 N4).keep0 M5
  obtain ⟨i0, hi, hz0, hz1, hz2⟩ := info_parts infoP
  refine appendAll_of (Row.fresh c5 f5) Try.underlying25 hi hz0 hz1 hz2 rfl (by decide) h5.parts encP_len encP_one (by have := h.lp; simp; omega) (by have := h.lp; simp; unfold maxLen; omega) M5.size fun a6 n6 c6 w6 hP hM6 => ?_
  have M6 := hM6 [b4] (by simp)
  have s6 := M6.size
  refine ⟨Keep.of M6 fun b hb hlt hb' => ?_, ?_⟩
  · simp at hb'; have := l1 b (by simp at hb ⊢; omega); omega
  intro w7 A7
  have N7 := ((N4.go0 M5 (by simp)).go0 M6 (by simp; omega)).go0 A7.mod (by simp; omega)
  refine ⟨⟨a3, n3, c3⟩, ⟨a6, n6, c6⟩, rfl, ⟨?_, ?_, h.lf, h.lp⟩, N7⟩
  · have g3 : Row w3 w1.heap.size 62 5 encF a3 n3 c3 r.found := by simpa using hF
    have k4 := g3.keep A4.mod fun ad ha hb => by simp at hb; have := l1 b1 (by simp); have := g3.base ad ha; omega
    have k6 := (k4.keep0 M5).keep M6 fun ad ha hb => by
      simp at hb
      obtain ⟨_, cur, hc⟩ := g3.block ad ha
      have := lt_of_block hc
      omega
    exact (k6.keep A7.mod fun ad ha hb => by have := l1 _ hb; have := g3.base ad ha; omega).rebase s1
  · have g6 : Row w6 w4.heap.size 58 2 encP a6 n6 c6 r.parts := by simpa using hP
    exact (g6.keep A7.mod fun ad ha hb => by have := l1 _ hb; have := g6.base ad ha; omega).rebase (by omega)
end Go.Proofs.Ytdgiemnadpkcfaa
