/- A client hears; what it waits for. -/
import Derived.Test.YtohgihgddknmmaaA5
namespace Go.Proofs.Ytohgihgddknmmaa
open Go Go.RowKit
set_option linter.unusedVariables false
set_option linter.unusedSimpArgs false

def heardB (ec : Int) (m : PMail) (cl : Int) (o : Option PCall) : Bool := match o with
  | none => false
  | some c => decide (ec = 0 ∧ m.kind = 1 ∧ m.to = cl ∧ m.n = c.n)
theorem Hear_ok {w : World} {b0 : Nat} {cl rp n v ec : Int} {o : Option PCall} {m : PMail} {s f p : Sl} (h : Ses w b0 cl rp n v o)
    (hC : ∀ w', Mod [] w w' → Calls Try.prog 34 #[m.v s f p] w' fun e w'' => e = .returned (.int .i64 ec) ∧ Mod [] w' w'')
    (hO : ec = 0 → m.calls.length ≤ 100000 ∧ ∀ w', Mod [b0] w w' → MailAt w' m s f p) :
    Calls Try.prog 11 #[.pointer (some ⟨b0, 0, none⟩), m.v s f p] w fun e w' => ∃ u, e = .returned u ∧ Mod [b0] w w' ∧
      (if heardB ec m cl o = true then ∃ f' p' : Sl, u = .tuple #[m.r.v f' p', .bool true] ∧ RepOwn w' w.heap.size m.r f' p' ∧ Ses w' b0 cl rp n (if m.view > v then m.view else v) none
      else u = .tuple #[rep00.v nilS nilS, .bool false] ∧ Ses w' b0 cl rp n v o) := by
  have hlt := h.lt
  obtain ⟨q, h1, h2⟩ := h.obj
  refine session_Session_Hear_go h1 ?_
  intro b1 f1 b2 f2 w3 A3
  have l2 := A3.lt b2 (by simp)
  have s3 := A3.mod.size
  have M1 : ∀ {w'}, Mod [] w w' → Mod [b0] w w' := fun M => M.less (by simp)
  refine (hC w3 A3.mod).mono ?_
  rintro e w4 ⟨rfl, M4⟩
  have N4 := A3.mod.go0 M4 (by simp)
  have s4 := M4.size
  refine ⟨_, rfl, Keep.of0 M4, ?_⟩
  have fin : ∀ {w'}, Adv [b2] [] w4 w' → heardB ec m cl o = false → (Mod [b0] w w' ∧ (if heardB ec m cl o = true then ∃ f' p' : Sl, Value.tuple #[rep00.v nilS nilS, .bool false] = .tuple #[m.r.v f' p', .bool true] ∧ RepOwn w' w.heap.size m.r f' p' ∧ Ses w' b0 cl rp n (if m.view > v then m.view else v) none
      else Value.tuple #[rep00.v nilS nilS, .bool false] = .tuple #[rep00.v nilS nilS, .bool false] ∧ Ses w' b0 cl rp n v o)) := fun {w'} A hne => by
    have hM := N4.go0 A.mod (by simpa using f2)
    refine ⟨M1 hM, ?_⟩
    rw [if_neg (by rw [hne]; decide)]
    exact ⟨rfl, h.keep0 hM⟩
  have hno : (¬ (ec = 0 ∧ m.kind = 1 ∧ m.to = cl)) → heardB ec m cl o = false := fun hn => by
    unfold heardB
    split
    · rfl
    · exact decide_eq_false fun ⟨a, b, c, _⟩ => hn ⟨a, b, c⟩
  refine brB_of (fun g => fun w6 A6 _ => fin A6 (hno fun ⟨a, _, _⟩ => by simp [a] at g)) fun g1 => ?_
  have g1 : ec = 0 := by simpa using g1
  refine brB_of (fun g => fun w6 A6 _ => fin A6 (hno fun ⟨_, a, _⟩ => by simp [a] at g)) fun g2 => ?_
  have g2 : m.kind = 1 := by simpa using g2
  refine brB_of (fun g => fun w6 A6 _ => fin A6 (hno fun ⟨_, _, a⟩ => by simp [a] at g)) fun g3 => ?_
  have g3 : m.to = cl := by simpa using g3
  cases o with
  | none =>
    have h2 : q = none := h2
    subst h2
    exact brB_of (fun _ => fun w6 A6 _ => fin A6 rfl) fun g => by cases g
  | some c =>
    obtain ⟨b9, rs, ts, rfl, h4, h5, h6⟩ := h2
    refine brB_of (fun g => by cases g) fun _ => ckPtr_of ?_
    refine ldInt_of (x := c.n) (cv_cell (q := ⟨c, rs, ts⟩) (N4.keep0 h5) 1 _ rfl) ?_
    refine brB_of (fun g => fun w6 A6 _ => fin A6 ?_) fun g4 => ⟨rfl, ?_⟩
    · have g : m.n ≠ c.n := by simpa using g
      exact decide_eq_false fun ⟨_, _, _, a⟩ => g a
    have g4 : m.n = c.n := by simpa using g4
    have hh : heardB ec m cl (some c) = true := decide_eq_true ⟨g1, g2, g3, g4⟩
    obtain ⟨hcl, hO⟩ := hO g1
    intro w5 A5
    have s5 := A5.mod.size
    have N5 : Mod [b0] w w5 := (N4.trans A5.mod).less (by simp)
    refine (Own_ok (hO w5 N5) hcl).mono ?_
    rintro e w6 ⟨_, rfl, s', f', p', rfl, hM, M6⟩
    have s6 := M6.size
    refine ⟨_, _, _, _, _, _, _, _, _, _, _, _, _, _, _, _, _, _, _, _, _, _, _, rfl, Keep.of0 M6, ?_⟩
    intro w7 A7 h7
    refine ⟨((N5.trans M6).trans A7.mod).less fun i hi hl => ?_, ?_⟩
    · simp at hi ⊢; omega
    · rw [if_pos hh]
      exact ⟨f', p', rfl, RepOwn.rebase (hM.rep.keepB A7.mod (by simp; omega)) (by omega), ⟨none, h7, rfl⟩⟩

theorem Waits_ok {w : World} {b0 : Nat} {cl rp n v : Int} {o : Option PCall} (h : Ses w b0 cl rp n v o) :
    Calls Try.prog 12 #[.pointer (some ⟨b0, 0, none⟩)] w fun e w' => ∃ u, e = .returned u ∧ (match o with
      | none => u = .tuple #[cv0.v, .bool false]
      | some c => ∃ rs ts : Sl, u = .tuple #[(⟨c, rs, ts⟩ : CV).v, .bool true] ∧ OpOwn w' w.heap.size c.op rs ts) ∧ Mod [] w w' := by
  obtain ⟨q, h1, h2⟩ := h.obj
  refine session_Session_Waits_go h1 ?_
  intro b1 f1
  cases o with
  | none =>
    have h2 : q = none := h2
    subst h2
    exact brB_of (fun _ => fun w2 A2 _ => ⟨rfl, A2.mod⟩) fun g => by cases g
  | some c =>
    obtain ⟨b9, rs, ts, rfl, h4, h5, h6⟩ := h2
    refine brB_of (fun g => by cases g) fun _ => ckPtr_of ?_
    intro w3 A3
    have l1 := A3.lt b1 (by simp)
    have s3 := A3.mod.size
    refine ldCV_of (q := ⟨c, rs, ts⟩) (cv_cell (A3.mod.keep0 h5)) ?_
    refine (SOwn_ok (q := ⟨c, rs, ts⟩) (h6.at.keep0 A3.mod)).mono ?_
    rintro e w4 ⟨_, rfl, rs', ts', rfl, hO, M4⟩
    refine ⟨_, _, _, _, _, _, _, _, _, _, _, _, _, _, _, _, _, _, _, _, rfl, Keep.of0 M4, ?_⟩
    intro w5 A5 _
    exact ⟨⟨rs', ts', rfl, OpOwn.rebase (OpOwn.keepB hO A5.mod (by simp; omega)) s3⟩, (A3.mod.go0 M4 (by simp)).go0 A5.mod (by simpa using f1)⟩
theorem View_ok {w : World} {b0 : Nat} {cl rp n v : Int} {o : Option PCall} (h : Ses w b0 cl rp n v o) :
    Calls Try.prog 14 #[.pointer (some ⟨b0, 0, none⟩)] w fun e w' => e = .returned (.int .i64 v) ∧ Mod [] w w' := by
  obtain ⟨q, h1, h2⟩ := h.obj
  refine go_of (session_Session_View_go h1 ?_)
  intro w1 A1 _
  exact ⟨rfl, A1.mod⟩
end Go.Proofs.Ytohgihgddknmmaa
