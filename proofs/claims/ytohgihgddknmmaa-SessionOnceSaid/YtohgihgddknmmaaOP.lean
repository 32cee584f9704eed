/- Whether a command may be: what the checker's visit comes to, and what the document says, are the same. -/
import Derived.Test.YtohgihgddknmmaaOD
namespace Go.Proofs.Ytohgihgddknmmaa
open Go Go.RowKit
set_option linter.unusedVariables false
set_option linter.unusedSimpArgs false

/-- What the checker's visit leaves: is a form odd, a number; the batch's error; the command. -/
def chF (o : POp) : Bool := (ha o.kind 103 && !nameB o.g) || (ha o.kind 109 && !nameB o.m) || ((ha o.kind 112 || ha o.kind 116) && !nameB o.part.t) || (ha o.kind 108 && !namesB o.topics)
def chA (o : POp) : Bool := (ha o.kind 112 && !num o.part.n) || (ha o.kind 110 && !num o.n) || (ha o.kind 111 && !num o.off) || (ha o.kind 101 && !num o.gen)
def chE (o : POp) : Int := if ha o.kind 98 then batchE o.b else 0
def es : ByteArray := ⟨#[]⟩
def chO (o : POp) : POp := ⟨o.kind, ⟨if ha o.kind 112 || ha o.kind 116 then es else o.part.t, if ha o.kind 112 then 0 else o.part.n⟩, if ha o.kind 110 then 0 else o.n, if ha o.kind 111 then 0 else o.off,
  if ha o.kind 98 then batch0 else o.b, if ha o.kind 103 then es else o.g, if ha o.kind 109 then es else o.m, if ha o.kind 101 then 0 else o.gen, if ha o.kind 114 then false else o.robin, if ha o.kind 114 then [] else o.topics⟩
theorem empty_iff (s : ByteArray) : emptyB s = decide (s = es) := by
  unfold emptyB es
  by_cases h : s.size = 0
  · rw [decide_eq_true h, decide_eq_true ((size0 s).2 h)]
  · rw [decide_eq_false h, decide_eq_false fun e => h ((size0 s).1 e)]
theorem ite_key {α : Type} (p : Bool) (x d : α) : ((if p = true then d else x) = d) ↔ (p = true ∨ x = d) := by cases p <;> simp
theorem ite_key2 {α : Type} (p t : Bool) (x d : α) : ((if p = true ∨ t = true then d else x) = d) ↔ (p = true ∨ t = true ∨ x = d) := by cases p <;> cases t <;> simp
theorem chO_only (o : POp) : decide ({ chO o with kind := 0 } = op0) = onlyB o := by
  rw [Bool.eq_iff_iff, decide_eq_true_iff]
  unfold onlyB
  rw [empty_iff, empty_iff, empty_iff]
  unfold chO op0
  simp only [POp.mk.injEq, PPart.mk.injEq, true_and, Bool.and_eq_true, decide_eq_true_iff, ite_key2, show (⟨#[]⟩ : ByteArray) = es from rfl, ite_key, Bool.or_eq_true, or_and_left, Bool.not_eq_true', and_assoc, or_assoc]
theorem num0 {p : Bool} {x : Int} (h : (p || decide (x = 0)) = true) : num x = !(p && !num x) := by
  cases p
  · have : x = 0 := by simpa using h
    subst this; rfl
  · simp
theorem ha98 {k : Int} (h0 : ¬ (k < 0 ∨ k > 12)) : ha k 98 = decide (k = 2) := by
  have : k = 0 ∨ k = 1 ∨ k = 2 ∨ k = 3 ∨ k = 4 ∨ k = 5 ∨ k = 6 ∨ k = 7 ∨ k = 8 ∨ k = 9 ∨ k = 10 ∨ k = 11 ∨ k = 12 := by omega
  rcases this with rfl | rfl | rfl | rfl | rfl | rfl | rfl | rfl | rfl | rfl | rfl | rfl | rfl <;> decide
theorem check_law (o : POp) (h0 : ¬ (o.kind < 0 ∨ o.kind > 12)) : opE o = if (chF o || !decide ({ chO o with kind := 0 } = op0)) = true then 40 else if chA o = true then 1 else chE o := by
  rw [chO_only, opE, if_neg h0]
  have hf : formB o = !(chF o || !onlyB o) := by
    unfold formB chF
    generalize onlyB o = a
    generalize ha o.kind 103 = b1
    generalize ha o.kind 109 = b2
    generalize (ha o.kind 112 || ha o.kind 116) = b3
    generalize ha o.kind 108 = b4
    cases a <;> cases b1 <;> cases b2 <;> cases b3 <;> cases b4 <;> simp [Bool.and_comm, Bool.and_assoc, Bool.and_left_comm]
  rw [hf]
  cases h : (chF o || !onlyB o)
  · simp only [Bool.not_false, Bool.true_eq_false, if_false, Bool.false_eq_true]
    have ho : onlyB o = true := by cases hh : onlyB o; rw [hh] at h; simp at h; rfl
    unfold onlyB at ho
    simp only [Bool.and_eq_true] at ho
    obtain ⟨⟨⟨⟨⟨⟨⟨⟨_, h1⟩, h2⟩, h3⟩, _⟩, _⟩, _⟩, h4⟩, _⟩ := ho
    have e : (num o.part.n && num o.n && num o.off && num o.gen) = !chA o := by
      rw [num0 h1, num0 h2, num0 h3, num0 h4]
      unfold chA
      simp only [Bool.not_or, Bool.and_assoc]
    rw [e, chE, ha98 h0]
    cases chA o <;> simp
  · simp
end Go.Proofs.Ytohgihgddknmmaa
