/- What is handed in, as data: replies, rows, calls. -/
import Derived.Test.YtdgiemnadpkcfaaC14
namespace Go.Proofs.Ytdgiemnadpkcfaa
open Go Go.RowKit Go.Maps Go.MapKept
set_option linter.unusedVariables false
set_option linter.unusedSimpArgs false

/-- What a reply reads as (of any length). -/
structure RepRd (w : World) (r : PRep) (f p : Sl) : Prop where
  found : SlAt w 5 encF f.a f.n r.found
  parts : SlAt w 2 encP p.a p.n r.parts
  wf : f.n ≤ maxLen
  wp : p.n ≤ maxLen
  sf : ∀ x ∈ r.found, x.r.key.size ≤ maxLen ∧ x.r.val.size ≤ maxLen
  sp : ∀ x ∈ r.parts, x.t.size ≤ maxLen
theorem RepRd.keep0 {w w' : World} {r : PRep} {f p : Sl} (h : RepRd w r f p) (M : Mod [] w w') : RepRd w' r f p := ⟨h.found.keep0 M, h.parts.keep0 M, h.wf, h.wp, h.sf, h.sp⟩
theorem cells1 : Try.prog.cellsOf 3 = 1 ∧ Try.prog.cellsOf 4 = 1 ∧ Try.prog.cellsOf 9 = 1 ∧ Try.prog.cellsOf 23 = 1 ∧ Try.prog.cellsOf 24 = 1 ∧ Try.prog.cellsOf 25 = 1 := by refine ⟨?_, ?_, ?_, ?_, ?_, ?_⟩ <;> kernel_rfl
theorem cellsN : Try.prog.cellsOf 60 = 4 ∧ Try.prog.cellsOf 62 = 5 ∧ Try.prog.cellsOf 58 = 2 ∧ Try.prog.cellsOf 27 = 6 ∧ Try.prog.cellsOf 29 = 9 ∧ Try.prog.cellsOf 51 = 9 := by refine ⟨?_, ?_, ?_, ?_, ?_, ?_⟩ <;> kernel_rfl
theorem inv_rec (w : World) (row : List Value) (h : OkT Try.prog w 60 row) (hl : row.length = Try.prog.cellsOf 60) : ∃ r : PRec, row = [.bool r.hk, .string r.key, .bool r.tomb, .string r.val] ∧ r.key.size ≤ maxLen ∧ r.val.size ≤ maxLen := by
  rw [cellsN.1] at hl
  match row, hl with
  | [a, b, c, d], _ =>
    obtain ⟨_, hf⟩ := h.struct_inv Try.underlying60
    simp [cells1] at hf
    obtain ⟨ha, hb, hc, hd⟩ := hf
    obtain ⟨x1, e1⟩ := ha.bool_inv Try.underlying4
    obtain ⟨x2, e2, g2⟩ := hb.string_inv Try.underlying9
    obtain ⟨x3, e3⟩ := hc.bool_inv Try.underlying4
    obtain ⟨x4, e4, g4⟩ := hd.string_inv Try.underlying9
    simp at e1 e2 e3 e4
    subst e1 e2 e3 e4
    exact ⟨⟨x1, x2, x3, x4⟩, rfl, g2, g4⟩
theorem inv_found (w : World) (row : List Value) (h : OkT Try.prog w 62 row) (hl : row.length = Try.prog.cellsOf 62) : ∃ x : PFound, row = encF x ∧ (x.r.key.size ≤ maxLen ∧ x.r.val.size ≤ maxLen) := by
  have hl' := hl
  rw [cellsN.2.1] at hl
  match row, hl with
  | [a, b, c, d, e], _ =>
    obtain ⟨_, hf⟩ := h.struct_inv Try.underlying62
    simp [cells1, cellsN] at hf
    obtain ⟨ha, hb⟩ := hf
    obtain ⟨x1, e1, _⟩ := ha.int_inv Try.underlying3
    obtain ⟨r, e2, g⟩ := inv_rec w _ hb cellsN.1.symm
    simp at e1 e2
    obtain ⟨rfl, rfl, rfl, rfl⟩ := e2
    subst e1
    exact ⟨⟨x1, r⟩, rfl, g⟩
theorem inv_part (w : World) (row : List Value) (h : OkT Try.prog w 58 row) (hl : row.length = Try.prog.cellsOf 58) : ∃ x : PPart, row = encP x ∧ x.t.size ≤ maxLen := by
  rw [cellsN.2.2.1] at hl
  match row, hl with
  | [a, b], _ =>
    obtain ⟨_, hf⟩ := h.struct_inv Try.underlying58
    simp [cells1, cellsN] at hf
    obtain ⟨ha, hb⟩ := hf
    obtain ⟨x1, e1, g1⟩ := ha.string_inv Try.underlying9
    obtain ⟨x2, e2, _⟩ := hb.int_inv Try.underlying3
    simp at e1 e2
    subst e1 e2
    exact ⟨⟨x1, x2⟩, rfl, g1⟩
theorem inv_rep (w : World) (row : List Value) (h : OkT Try.prog w 27 row) (hl : row.length = Try.prog.cellsOf 27) : ∃ (r : PRep) (f p : Sl), row = PRep.cs r f p ∧ RepRd w r f p := by
  rw [cellsN.2.2.2.1] at hl
  match row, hl with
  | [a, b, c, d, e, f], _ =>
    obtain ⟨_, hf⟩ := h.struct_inv Try.underlying27
    simp [cells1, cellsN] at hf
    obtain ⟨ha, hb, hc, hd, he, hg⟩ := hf
    obtain ⟨x1, e1, _⟩ := ha.int_inv Try.underlying23
    obtain ⟨x2, e2, _⟩ := hb.int_inv Try.underlying3
    obtain ⟨x3, e3, _⟩ := hc.int_inv Try.underlying3
    obtain ⟨x4, e4, _⟩ := hd.int_inv Try.underlying3
    obtain ⟨fa, fn, fc, fl, e5, s5, g5, u5, c5⟩ := he.slice_inv Try.underlying24 (inv_found w)
    obtain ⟨pa, pn, pc, pl, e6, s6, g6, u6, c6⟩ := hg.slice_inv Try.underlying25 (inv_part w)
    simp at e1 e2 e3 e4 e5 e6
    subst e1 e2 e3 e4 e5 e6
    rw [cellsN.2.1] at s5
    rw [cellsN.2.2.1] at s6
    exact ⟨⟨x1, x2, x3, x4, fl, pl⟩, ⟨fa, fn, fc⟩, ⟨pa, pn, pc⟩, rfl, ⟨s5, s6, by show fn ≤ _; omega, by show pn ≤ _; omega, g5, g6⟩⟩
theorem inv_op15 (w : World) (row : List Value) (h : OkT Try.prog w 51 row) (hl : row.length = Try.prog.cellsOf 51) : ∃ x : Op15, row = encO x ∧ (i64B x.c ∧ i64B x.n ∧ RepRd w x.r x.f x.p) := by
  rw [cellsN.2.2.2.2.2] at hl
  match row, hl with
  | [a, b, c, d, e, f, g, h1, h2], _ =>
    obtain ⟨_, hf⟩ := h.struct_inv Try.underlying51
    simp [cells1, cellsN] at hf
    obtain ⟨ha, hb, hc, hd⟩ := hf
    obtain ⟨x1, e1, _⟩ := ha.int_inv Try.underlying3
    obtain ⟨x2, e2, g2⟩ := hb.int_inv Try.underlying3
    obtain ⟨x3, e3, g3⟩ := hc.int_inv Try.underlying3
    obtain ⟨r, f, p, e4, g4⟩ := inv_rep w _ hd cellsN.2.2.2.1.symm
    simp [PRep.cs] at e1 e2 e3 e4
    subst e1 e2 e3
    obtain ⟨rfl, rfl, rfl, rfl, rfl, rfl⟩ := e4
    exact ⟨⟨x1, x2, x3, r, f, p⟩, rfl, wf_i64 g2, wf_i64 g3, g4⟩
theorem inv_last (w : World) (row : List Value) (h : OkT Try.prog w 29 row) (hl : row.length = Try.prog.cellsOf 29) : ∃ x : LV, row = LV.cs x ∧ RepRd w x.x.r x.f x.p := by
  rw [cellsN.2.2.2.2.1] at hl
  match row, hl with
  | [a, b, c, d, e, f, g, h1, h2], _ =>
    obtain ⟨_, hf⟩ := h.struct_inv Try.underlying29
    simp [cells1, cellsN] at hf
    obtain ⟨ha, hb, hc, hd⟩ := hf
    obtain ⟨x1, e1, _⟩ := ha.int_inv Try.underlying3
    obtain ⟨x2, e2, g2⟩ := hb.int_inv Try.underlying3
    obtain ⟨x3, e3⟩ := hc.bool_inv Try.underlying4
    obtain ⟨r, f, p, e4, g4⟩ := inv_rep w _ hd cellsN.2.2.2.1.symm
    simp [PRep.cs] at e1 e2 e3 e4
    subst e1 e2 e3
    obtain ⟨rfl, rfl, rfl, rfl, rfl, rfl⟩ := e4
    exact ⟨⟨⟨x1, x2, x3, r⟩, f, p⟩, rfl, g4⟩
end Go.Proofs.Ytdgiemnadpkcfaa
