/- Replies: whether two are alike; one of one's own. -/
import Derived.Test.YtohgihgddknmmaaC1
namespace Go.Proofs.Ytohgihgddknmmaa
open Go Go.RowKit
set_option linter.unusedVariables false
set_option linter.unusedSimpArgs false

theorem eqRep (r r' : PRep) : decide (r = r') = (decide (r.e = r'.e) && decide (r.off = r'.off) && decide (r.n = r'.n) && decide (r.gen = r'.gen) && decide (r.found = r'.found) && decide (r.parts = r'.parts)) := by
  obtain ⟨a, b, c, d, e, f⟩ := r
  obtain ⟨a', b', c', d', e', f'⟩ := r'
  rw [Bool.eq_iff_iff]
  simp [and_assoc]
theorem RAlike_ok {w : World} {r r' : PRep} {f p f' p' : Sl} (h : RepAt w r f p) (h' : RepAt w r' f' p') :
    Calls Try.prog 40 #[r.v f p, r'.v f' p'] w fun e w' => e = .returned (.bool (decide (r = r'))) ∧ Mod [] w w' := by
  rw [eqRep]
  refine go_of (ref04_Alike_go ?_)
  intro b1 f1 b2 f2
  refine brB_of (fun g1 => ?_) (fun g1 => ?_)
  rotate_left
  · intro w1 A1; simp at g1; exact ⟨by simp [g1], A1.mod⟩
  refine brB_of (fun g2 => ?_) (fun g2 => ?_)
  rotate_left
  · intro w1 A1; simp at g2; exact ⟨by simp [g2], A1.mod⟩
  refine brB_of (fun g3 => ?_) (fun g3 => ?_)
  rotate_left
  · intro w1 A1; simp at g3; exact ⟨by simp [g3], A1.mod⟩
  refine brB_of (fun g4 => ?_) (fun g4 => ?_)
  rotate_left
  · intro w1 A1; simp at g4; exact ⟨by simp [g4], A1.mod⟩
  simp at g1 g2 g3 g4
  intro w1 A1
  refine (FoundR_ok (h.keep0 A1.mod).found (h'.keep0 A1.mod).found h.lf).mono ?_
  rintro e w2 ⟨rfl, M2⟩
  refine ⟨_, rfl, Keep.of0 M2, ?_⟩
  have M := A1.mod.go0 M2 (by simp)
  refine brB_of (fun g5 => ?_) (fun g5 => ?_)
  · refine (PartsR_ok (h.keep0 M).parts (h'.keep0 M).parts h.lp).mono ?_
    rintro e w3 ⟨rfl, M3⟩
    refine ⟨_, rfl, Keep.of0 M3, ?_, M.go0 M3 (by simp)⟩
    simp at g5
    simp [g1, g2, g3, g4, g5]
  · refine ⟨?_, M⟩
    simp at g5
    simp [g5]

/-! ### copies -/
theorem infoF : (Try.prog.info? 111).map (fun i => (i.zero, i.size, i.bytes)) = some (some (.agg #[.int .i64 0, .bool false, .string ByteArray.empty, .bool false, .string ByteArray.empty]), 5, 56) := by kernel_rfl
theorem infoP : (Try.prog.info? 29).map (fun i => (i.zero, i.size, i.bytes)) = some (some (.agg #[.string ByteArray.empty, .int .i64 0]), 2, 24) := by kernel_rfl
theorem encF_one (x : PFound) : ∀ u ∈ encF x, u.oneCell' = true := by simp [encF, Value.oneCell']
theorem encP_one (x : PPart) : ∀ u ∈ encP x, u.oneCell' = true := by simp [encP, Value.oneCell']

theorem CloneF_ok {w : World} {s : Sl} {l : List PFound} (h : SlAt w 5 encF s.a s.n l) (hl : l.length ≤ 1000000) :
    Calls Try.prog 53 #[.slice s.a s.n s.c] w fun e w' => ∃ v, e = .returned v ∧ ∃ s' : Sl, v = .slice s'.a s'.n s'.c ∧ Row w' w.heap.size 111 5 encF s'.a s'.n s'.c l ∧ Mod [] w w' := by
  refine slices_Clone_api_Found_api_Found_go ?_
  refine brB_of (fun h0 => ?_) fun _ => ?_
  · have hl0 : l = [] := by
      cases l with
      | nil => rfl
      | cons x r => obtain ⟨ad, ha, _⟩ := h.2 0 x rfl; rw [ha] at h0; cases h0
    subst hl0
    exact ⟨⟨none, 0, 0⟩, rfl, Row.nil .., Mod.refl _⟩
  · refine al_of fun b w1 c1 M1 f1 => ?_
    obtain ⟨i0, hi, hz0, hz1, hz2⟩ := info_parts infoF
    refine appendAll_of (Row.fresh c1 f1) Try.underlying39 hi hz0 hz1 hz2 rfl (by decide) (h.keep0 M1) encF_len encF_one (by simp; omega) (by simp; unfold maxLen; omega) M1.size fun a' n' c' w2 hR hM => ?_
    exact ⟨⟨a', n', c'⟩, rfl, by simpa using hR, M1.go0 (hM [b] (by simp)) (by simpa using f1)⟩
theorem CloneP_ok {w : World} {s : Sl} {l : List PPart} (h : SlAt w 2 encP s.a s.n l) (hl : l.length ≤ 1000000) :
    Calls Try.prog 54 #[.slice s.a s.n s.c] w fun e w' => ∃ v, e = .returned v ∧ ∃ s' : Sl, v = .slice s'.a s'.n s'.c ∧ Row w' w.heap.size 29 2 encP s'.a s'.n s'.c l ∧ Mod [] w w' := by
  refine slices_Clone_api_Part_api_Part_go ?_
  refine brB_of (fun h0 => ?_) fun _ => ?_
  · have hl0 : l = [] := by
      cases l with
      | nil => rfl
      | cons x r => obtain ⟨ad, ha, _⟩ := h.2 0 x rfl; rw [ha] at h0; cases h0
    subst hl0
    exact ⟨⟨none, 0, 0⟩, rfl, Row.nil .., Mod.refl _⟩
  · refine al_of fun b w1 c1 M1 f1 => ?_
    obtain ⟨i0, hi, hz0, hz1, hz2⟩ := info_parts infoP
    refine appendAll_of (Row.fresh c1 f1) Try.underlying40 hi hz0 hz1 hz2 rfl (by decide) (h.keep0 M1) encP_len encP_one (by simp; omega) (by simp; unfold maxLen; omega) M1.size fun a' n' c' w2 hR hM => ?_
    exact ⟨⟨a', n', c'⟩, rfl, by simpa using hR, M1.go0 (hM [b] (by simp)) (by simpa using f1)⟩

end Go.Proofs.Ytohgihgddknmmaa
