/- What is handed in, as data: records, replies, commands, calls, messages. -/
import Derived.Test.YtohgihgddknmmaaRead
import Derived.Test.YtohgihgddknmmaaA3
namespace Go.Proofs.Ytohgihgddknmmaa
open Go Go.RowKit Go.Maps Go.MapKept
set_option linter.unusedVariables false
set_option linter.unusedSimpArgs false

/-- What a reply reads as (of any length). -/
structure RepRd (w : World) (r : PRep) (f p : Sl) : Prop where
  found : SlAt w 5 encF f.a f.n r.found
  parts : SlAt w 2 encP p.a p.n r.parts
  wf : f.n ≤ maxLen
  wp : p.n ≤ maxLen
  sf : ∀ x ∈ r.found, x.r.key.size ≤ maxLen ∧ x.r.val.size ≤ maxLen
  sp : ∀ x ∈ r.parts, x.t.size ≤ maxLen
theorem RepRd.keep0 {w w' : World} {r : PRep} {f p : Sl} (h : RepRd w r f p) (M : Mod [] w w') : RepRd w' r f p := ⟨h.found.keep0 M, h.parts.keep0 M, h.wf, h.wp, h.sf, h.sp⟩

theorem cI : Try.prog.cellsOf 3 = 1 := by kernel_rfl
theorem cB : Try.prog.cellsOf 4 = 1 := by kernel_rfl
theorem cS : Try.prog.cellsOf 9 = 1 := by kernel_rfl
theorem cE : Try.prog.cellsOf 25 = 1 := by kernel_rfl
theorem cSF : Try.prog.cellsOf 39 = 1 := by kernel_rfl
theorem cSP : Try.prog.cellsOf 40 = 1 := by kernel_rfl
theorem cSR : Try.prog.cellsOf 30 = 1 := by kernel_rfl
theorem cSS : Try.prog.cellsOf 33 = 1 := by kernel_rfl
theorem cSC : Try.prog.cellsOf 38 = 1 := by kernel_rfl
theorem cRc : Try.prog.cellsOf 90 = 4 := by kernel_rfl
theorem cFd : Try.prog.cellsOf 111 = 5 := by kernel_rfl
theorem cPt : Try.prog.cellsOf 29 = 2 := by kernel_rfl
theorem cRp : Try.prog.cellsOf 42 = 6 := by kernel_rfl
theorem cBt : Try.prog.cellsOf 32 = 4 := by kernel_rfl
theorem cOp : Try.prog.cellsOf 35 = 14 := by kernel_rfl
theorem cCl : Try.prog.cellsOf 48 = 16 := by kernel_rfl
theorem cMl : Try.prog.cellsOf 44 = 17 := by kernel_rfl
theorem inv_rec (w : World) (row : List Value) (h : OkT Try.prog w 90 row) (hl : row.length = Try.prog.cellsOf 90) : ∃ r : PRec, row = [.bool r.hk, .string r.key, .bool r.tomb, .string r.val] ∧ r.key.size ≤ maxLen ∧ r.val.size ≤ maxLen := by
  rw [cRc] at hl
  match row, hl with
  | [a, b, c, d], _ =>
    obtain ⟨_, hf⟩ := h.struct_inv Try.underlying90
    simp [cI, cB, cS, cE] at hf
    obtain ⟨ha, hb, hc, hd⟩ := hf
    obtain ⟨x1, e1⟩ := ha.bool_inv Try.underlying4
    obtain ⟨x2, e2, g2⟩ := hb.string_inv Try.underlying9
    obtain ⟨x3, e3⟩ := hc.bool_inv Try.underlying4
    obtain ⟨x4, e4, g4⟩ := hd.string_inv Try.underlying9
    simp at e1 e2 e3 e4
    subst e1 e2 e3 e4
    exact ⟨⟨x1, x2, x3, x4⟩, rfl, g2, g4⟩
theorem inv_found (w : World) (row : List Value) (h : OkT Try.prog w 111 row) (hl : row.length = Try.prog.cellsOf 111) : ∃ x : PFound, row = encF x ∧ (x.r.key.size ≤ maxLen ∧ x.r.val.size ≤ maxLen) := by
  have hl' := hl
  rw [cFd] at hl
  match row, hl with
  | [a, b, c, d, e], _ =>
    obtain ⟨_, hf⟩ := h.struct_inv Try.underlying111
    simp [cI, cB, cS, cE, cSF, cSP, cSR, cSS, cSC, cPt, cRc, cFd, cRp] at hf
    obtain ⟨ha, hb⟩ := hf
    obtain ⟨x1, e1, _⟩ := ha.int_inv Try.underlying3
    obtain ⟨r, e2, g⟩ := inv_rec w _ hb cRc.symm
    simp at e1 e2
    obtain ⟨rfl, rfl, rfl, rfl⟩ := e2
    subst e1
    exact ⟨⟨x1, r⟩, rfl, g⟩
theorem inv_part (w : World) (row : List Value) (h : OkT Try.prog w 29 row) (hl : row.length = Try.prog.cellsOf 29) : ∃ x : PPart, row = encP x ∧ x.t.size ≤ maxLen := by
  rw [cPt] at hl
  match row, hl with
  | [a, b], _ =>
    obtain ⟨_, hf⟩ := h.struct_inv Try.underlying29
    simp [cI, cB, cS, cE, cSF, cSP, cSR, cSS, cSC, cPt, cRc, cFd, cRp] at hf
    obtain ⟨ha, hb⟩ := hf
    obtain ⟨x1, e1, g1⟩ := ha.string_inv Try.underlying9
    obtain ⟨x2, e2, _⟩ := hb.int_inv Try.underlying3
    simp at e1 e2
    subst e1 e2
    exact ⟨⟨x1, x2⟩, rfl, g1⟩
theorem inv_rep (w : World) (row : List Value) (h : OkT Try.prog w 42 row) (hl : row.length = Try.prog.cellsOf 42) : ∃ (r : PRep) (f p : Sl), row = PRep.cs r f p ∧ RepRd w r f p := by
  rw [cRp] at hl
  match row, hl with
  | [a, b, c, d, e, f], _ =>
    obtain ⟨_, hf⟩ := h.struct_inv Try.underlying42
    simp [cI, cB, cS, cE, cSF, cSP, cSR, cSS, cSC, cPt, cRc, cFd, cRp] at hf
    obtain ⟨ha, hb, hc, hd, he, hg⟩ := hf
    obtain ⟨x1, e1, _⟩ := ha.int_inv Try.underlying25
    obtain ⟨x2, e2, _⟩ := hb.int_inv Try.underlying3
    obtain ⟨x3, e3, _⟩ := hc.int_inv Try.underlying3
    obtain ⟨x4, e4, _⟩ := hd.int_inv Try.underlying3
    obtain ⟨fa, fn, fc, fl, e5, s5, g5, u5, c5⟩ := he.slice_inv Try.underlying39 (inv_found w)
    obtain ⟨pa, pn, pc, pl, e6, s6, g6, u6, c6⟩ := hg.slice_inv Try.underlying40 (inv_part w)
    simp at e1 e2 e3 e4 e5 e6
    subst e1 e2 e3 e4 e5 e6
    rw [cFd] at s5
    rw [cPt] at s6
    exact ⟨⟨x1, x2, x3, x4, fl, pl⟩, ⟨fa, fn, fc⟩, ⟨pa, pn, pc⟩, rfl, ⟨s5, s6, by show fn ≤ _; omega, by show pn ≤ _; omega, g5, g6⟩⟩

theorem inv_str (w : World) (row : List Value) (h : OkT Try.prog w 9 row) (hl : row.length = Try.prog.cellsOf 9) : ∃ s : ByteArray, row = encS s ∧ s.size ≤ maxLen := by
  obtain ⟨s, rfl, g⟩ := h.string_inv Try.underlying9
  exact ⟨s, rfl, g⟩
/-- What a command reads as (of any length). -/
structure OpRd (w : World) (o : POp) (rs ts : Sl) : Prop where
  recs : SlAt w 4 encR rs.a rs.n o.b.recs
  topics : SlAt w 1 encS ts.a ts.n o.topics
  wr : rs.n ≤ maxLen
  wt : ts.n ≤ maxLen
  sr : ∀ r ∈ o.b.recs, r.key.size ≤ maxLen ∧ r.val.size ≤ maxLen
  st : ∀ s ∈ o.topics, s.size ≤ maxLen
  sp : o.part.t.size ≤ maxLen
  sg : o.g.size ≤ maxLen
  sm : o.m.size ≤ maxLen
theorem OpRd.keep0 {w w' : World} {o : POp} {rs ts : Sl} (h : OpRd w o rs ts) (M : Mod [] w w') : OpRd w' o rs ts := ⟨h.recs.keep0 M, h.topics.keep0 M, h.wr, h.wt, h.sr, h.st, h.sp, h.sg, h.sm⟩
structure OV where
  o : POp
  rs : Sl
  ts : Sl
def OV.cs (q : OV) : List Value := q.o.cs q.rs q.ts
theorem OV.cs_len (q : OV) : q.cs.length = 14 := rfl
theorem inv_batch (w : World) (row : List Value) (h : OkT Try.prog w 32 row) (hl : row.length = Try.prog.cellsOf 32) : ∃ (b : PBatch) (rs : Sl), row = [.int .i64 b.prod, .int .i64 b.epoch, .int .i64 b.seq, .slice rs.a rs.n rs.c] ∧ SlAt w 4 encR rs.a rs.n b.recs ∧ rs.n ≤ maxLen ∧ ∀ r ∈ b.recs, r.key.size ≤ maxLen ∧ r.val.size ≤ maxLen := by
  rw [cBt] at hl
  match row, hl with
  | [a, b, c, d], _ =>
    obtain ⟨_, hf⟩ := h.struct_inv Try.underlying32
    simp [cI, cB, cS, cE, cSF, cSP, cSR, cSS, cSC, cPt, cRc, cFd, cRp, cBt, cOp, cCl] at hf
    obtain ⟨ha, hb, hc, hd⟩ := hf
    obtain ⟨x1, e1, _⟩ := ha.int_inv Try.underlying3
    obtain ⟨x2, e2, _⟩ := hb.int_inv Try.underlying3
    obtain ⟨x3, e3, _⟩ := hc.int_inv Try.underlying3
    obtain ⟨ra, rn, rc, rl, e5, s5, g5, u5, c5⟩ := hd.slice_inv (enc := encR) Try.underlying30 (inv_rec w)
    simp at e1 e2 e3 e5
    subst e1 e2 e3 e5
    rw [cRc] at s5
    exact ⟨⟨x1, x2, x3, rl⟩, ⟨ra, rn, rc⟩, rfl, s5, by show rn ≤ _; omega, g5⟩
theorem inv_op (w : World) (row : List Value) (h : OkT Try.prog w 35 row) (hl : row.length = Try.prog.cellsOf 35) : ∃ x : OV, row = OV.cs x ∧ OpRd w x.o x.rs x.ts := by
  rw [cOp] at hl
  match row, hl with
  | [a, b, c, d, e, f, g, i, j, k, l, m, n, o], _ =>
    obtain ⟨_, hf⟩ := h.struct_inv Try.underlying35
    simp [cI, cB, cS, cE, cSF, cSP, cSR, cSS, cSC, cPt, cRc, cFd, cRp, cBt, cOp, cCl] at hf
    obtain ⟨h1, h2, h3, h4, h5, h6, h7, h8, h9, h10⟩ := hf
    obtain ⟨x1, e1, _⟩ := h1.int_inv Try.underlying3
    obtain ⟨x2, e2, g2⟩ := inv_part w _ h2 cPt.symm
    obtain ⟨x3, e3, _⟩ := h3.int_inv Try.underlying3
    obtain ⟨x4, e4, _⟩ := h4.int_inv Try.underlying3
    obtain ⟨x5, rs, e5, s5, w5, g5⟩ := inv_batch w _ h5 cBt.symm
    obtain ⟨x6, e6, g6⟩ := h6.string_inv Try.underlying9
    obtain ⟨x7, e7, g7⟩ := h7.string_inv Try.underlying9
    obtain ⟨x8, e8, _⟩ := h8.int_inv Try.underlying3
    obtain ⟨x9, e9⟩ := h9.bool_inv Try.underlying4
    obtain ⟨ta, tn, tc, tl, e10, s10, g10, u10, c10⟩ := h10.slice_inv (enc := encS) Try.underlying33 (inv_str w)
    simp [encP] at e1 e2 e3 e4 e5 e6 e7 e8 e9 e10
    subst e1 e3 e4 e6 e7 e8 e9 e10
    obtain ⟨rfl, rfl⟩ := e2
    obtain ⟨rfl, rfl, rfl, rfl⟩ := e5
    rw [cS] at s10
    exact ⟨⟨⟨x1, x2, x3, x4, x5, x6, x7, x8, x9, tl⟩, rs, ⟨ta, tn, tc⟩⟩, rfl, ⟨s5, s10, w5, by show tn ≤ _; omega, g5, g10, g2, g6, g7⟩⟩
theorem inv_call (w : World) (row : List Value) (h : OkT Try.prog w 48 row) (hl : row.length = Try.prog.cellsOf 48) : ∃ x : CV, row = CV.cs x ∧ OpRd w x.x.op x.rs x.ts := by
  rw [cCl] at hl
  match row, hl with
  | a :: b :: t, hl =>
    obtain ⟨_, hf⟩ := h.struct_inv Try.underlying48
    simp [cI, cB, cS, cE, cSF, cSP, cSR, cSS, cSC, cPt, cRc, cFd, cRp, cBt, cOp, cCl] at hf
    obtain ⟨h1, h2, h3⟩ := hf
    obtain ⟨x1, e1, _⟩ := h1.int_inv Try.underlying3
    obtain ⟨x2, e2, _⟩ := h2.int_inv Try.underlying3
    have ht : t.take 14 = t := List.take_of_length_le (by simp at hl; omega)
    rw [ht] at h3
    obtain ⟨x3, e3, g3⟩ := inv_op w _ h3 (by rw [cOp]; simp at hl; omega)
    simp at e1 e2
    subst e1 e2 e3
    exact ⟨⟨⟨x1, x2, x3.o⟩, x3.rs, x3.ts⟩, rfl, g3⟩
/-- A message as it is handed in. -/
structure MR where
  m : PMail
  s : Sl
  f : Sl
  p : Sl
def MR.cs (x : MR) : List Value := x.m.cs x.s x.f x.p
structure MailRd (w : World) (m : PMail) (s f p : Sl) : Prop where
  calls : ∃ ll : List CV, SlAt w 16 CV.cs s.a s.n ll ∧ (∀ q ∈ ll, OpRd w q.x.op q.rs q.ts) ∧ ll.map (·.x) = m.calls
  ws : s.n ≤ maxLen
  rep : RepRd w m.r f p
theorem inv_mail (w : World) (row : List Value) (h : OkT Try.prog w 44 row) (hl : row.length = Try.prog.cellsOf 44) : ∃ x : MR, row = MR.cs x ∧ MailRd w x.m x.s x.f x.p := by
  rw [cMl] at hl
  match row, hl with
  | [a, b, c, d, e, f, g, i, j, k, l, m, n, o, p, q, r], _ =>
    obtain ⟨_, hf⟩ := h.struct_inv Try.underlying44
    simp [cI, cB, cS, cE, cSF, cSP, cSR, cSS, cSC, cPt, cRc, cFd, cRp, cBt, cOp, cCl] at hf
    obtain ⟨h1, h2, h3, h4, h5, h6, h7, h8, h9, h10, h11, h12⟩ := hf
    obtain ⟨x1, e1, _⟩ := h1.int_inv Try.underlying3
    obtain ⟨x2, e2, _⟩ := h2.int_inv Try.underlying3
    obtain ⟨x3, e3, _⟩ := h3.int_inv Try.underlying3
    obtain ⟨x4, e4, _⟩ := h4.int_inv Try.underlying3
    obtain ⟨x5, e5, _⟩ := h5.int_inv Try.underlying3
    obtain ⟨x6, e6, _⟩ := h6.int_inv Try.underlying3
    obtain ⟨x7, e7, _⟩ := h7.int_inv Try.underlying3
    obtain ⟨x8, e8, _⟩ := h8.int_inv Try.underlying3
    obtain ⟨x9, e9, _⟩ := h9.int_inv Try.underlying3
    obtain ⟨x10, e10, _⟩ := h10.int_inv Try.underlying3
    obtain ⟨ca, cn, cc, cl, e11, s11, g11, u11, c11⟩ := h11.slice_inv Try.underlying38 (inv_call w)
    obtain ⟨x12, fs, ps, e12, g12⟩ := inv_rep w _ h12 cRp.symm
    simp [PRep.cs] at e1 e2 e3 e4 e5 e6 e7 e8 e9 e10 e11 e12
    subst e1 e2 e3 e4 e5 e6 e7 e8 e9 e10 e11
    obtain ⟨rfl, rfl, rfl, rfl, rfl, rfl⟩ := e12
    rw [cCl] at s11
    exact ⟨⟨⟨x1, x2, x3, x4, x5, x6, x7, x8, x9, x10, cl.map (·.x), x12⟩, ⟨ca, cn, cc⟩, fs, ps⟩, rfl, ⟨⟨cl, s11, g11, rfl⟩, by show cn ≤ _; omega, g12⟩⟩
end Go.Proofs.Ytohgihgddknmmaa
