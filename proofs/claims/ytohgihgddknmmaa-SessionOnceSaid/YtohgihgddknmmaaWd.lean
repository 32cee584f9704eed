/- Small laws for the words of 'den3'. -/
import Derived.Test.YtohgihgddknmmaaTrkS
namespace Go.Proofs.Ytohgihgddknmmaa
open Go Go.RowKit
set_option linter.unusedVariables false
set_option linter.unusedSimpArgs false

theorem Keep.of0 {bs : List Nat} {w w' : World} (M : Mod [] w w') : Keep bs w w' := fun b _ hl => M.block b hl (by simp)
theorem Keep.of {S bs : List Nat} {w w' : World} (M : Mod S w w') (h : ∀ b ∈ bs, b < w.heap.size → b ∉ S) : Keep bs w w' := fun b hb hl => M.block b hl (h b hb hl)
/-- Only blocks that were not there are written. -/
theorem Mod.new {S : List Nat} {w w' : World} (h : Mod S w w') (hs : ∀ k ∈ S, w.heap.size ≤ k) : Mod [] w w' := h.less fun k hk hl => by have := hs k hk; omega
/-- On, over blocks that were not there at first. -/
theorem Mod.go0 {S : List Nat} {a b c : World} (h : Mod [] a b) (k : Mod S b c) (hs : ∀ i ∈ S, a.heap.size ≤ i) : Mod [] a c :=
  (h.trans k).less fun i hi hl => by simp only [List.nil_append] at hi; have := hs i hi; omega
theorem Adv.go0 {S N : List Nat} {a b c : World} (h : Mod [] a b) (k : Adv S N b c) (hs : ∀ i ∈ S, a.heap.size ≤ i) : Mod [] a c := h.go0 k.mod hs
/-- A callee's contract, and on. -/
theorem call1 {P : Program} {f : FuncId} {args : Array Value} {w : World} {X : Value} {S : World → Prop} {R : Ending → World → Prop} (h : Calls P f args w fun e w' => e = .returned X ∧ S w') (k : ∀ w', S w' → R (.returned X) w') : Calls P f args w R :=
  h.mono fun e w' ⟨h1, h2⟩ => by rw [h1]; exact k w' h2
/-- The block of a slice's row. -/
def rowS : Option Addr → List Nat
  | none => []
  | some ad => [ad.block]
theorem rowS_ok (a : Option Addr) : ∀ ad, a = some ad → ad.block ∈ rowS a := by rintro ad rfl; simp [rowS]
theorem Row.newS {α : Type} {w : World} {base T sz : Nat} {enc : α → List Value} {a : Option Addr} {n c : Nat} {l : List α} (h : Row w base T sz enc a n c l) : ∀ k ∈ rowS a, base ≤ k := by
  cases a with
  | none => simp [rowS]
  | some ad => intro k hk; simp [rowS] at hk; subst hk; exact h.base ad rfl
theorem Row.rebase {α : Type} {w : World} {base base' T sz : Nat} {enc : α → List Value} {a : Option Addr} {n c : Nat} {l : List α} (h : Row w base T sz enc a n c l) (hb : base' ≤ base) : Row w base' T sz enc a n c l := by
  obtain ⟨hn, hl, ho⟩ := h
  refine ⟨hn, hl, ?_⟩
  rcases ho with ho | ⟨g, cap, cur, hv, hg, r⟩
  · exact .inl ho
  · exact .inr ⟨g, cap, cur, hv, Nat.le_trans hb hg, r⟩
end Go.Proofs.Ytohgihgddknmmaa
