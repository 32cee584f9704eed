/- Layer 17's reference, by its contracts: over the same list of votes as the program's box. -/
import Derived.Test.YtkdpopkbongabaaQL1
import Derived.Test.YtkdpopkbongabaaQD
namespace Go.Proofs.Ytkdpopkbongabaa
open Go Go.RowKit Go.Maps Go.MapKept
set_option linter.unusedVariables false
set_option linter.unusedSimpArgs false

theorem RNum_ok (n : Int) (w : World) : Calls Try.prog 33 #[.int .i64 n] w fun e w' => e = .returned (.bool (num n)) ∧ w' = w :=
  go_of (ref03_Num_go (brB_dec (fun h => ⟨by simp [num]; omega, rfl⟩) (fun h => ⟨by simp [num]; omega, rfl⟩)))

theorem RNeed_ok (n : Int) (w : World) : Calls Try.prog 20 #[.int .i64 n] w fun e w' => e = .returned (.int .i64 (need n)) ∧ w' = w := by
  refine go_of (ref17_Need_go ?_)
  refine brB_dec (fun h => ⟨by simp [need, mayB]; omega, rfl⟩) fun h1 => ?_
  refine brB_dec (fun h => ⟨by simp [need, mayB]; omega, rfl⟩) fun h2 => ?_
  refine ref17_Need_rule1 (fun mm x w' => ∃ k : Nat, x = k ∧ (k : Int) ≤ n / 2 + 1 ∧ w' = w ∧ mm = (n / 2 + 1).toNat - k) (n / 2 + 1).toNat ⟨0, rfl, by omega, rfl, rfl⟩ ?_
  rintro mm x js w1 ⟨k, rfl, hk, rfl, rfl⟩
  have e2 : IntKind.wrap .i64 (2 * (k : Int)) = 2 * (k : Int) := wrap_id (by omega) (by omega)
  unfold ref17_Need_L1
  rw [e2]
  refine brB_dec (fun h => ?_) fun h => ⟨?_, rfl⟩
  · exact ref17_Need_leaf1 ((n / 2 + 1).toNat - (k + 1)) (by omega) ⟨k + 1, by rw [wrap_id (by omega) (by omega)]; omega, by omega, rfl, rfl⟩
  · rw [need, if_pos (by simp [mayB]; omega)]; congr 1; omega

def encC (p : Ky × Vt) : List Value := [.int .i64 p.1.1, .int .i64 p.1.2.1, .int .i64 p.2.f, .int .i64 p.2.n, .int .i64 p.2.l, .int .i64 p.2.c]
theorem encC_len (x : Ky × Vt) : (encC x).length = 6 := rfl
theorem encC_one (x : Ky × Vt) : ∀ u ∈ encC x, u.oneCell' = true := by
  intro u hu; simp [encC] at hu; rcases hu with rfl | rfl | rfl | rfl | rfl | rfl <;> rfl
/-- A box of the reference: the same votes, in the same order. -/
structure RefAt (w : World) (b : Nat) (n : Int) (base : Nat) (L : List (Ky × Vt)) : Prop where
  cells : ∃ a len c, w.heap[b]? = some (.cells #[.int .i64 n, .slice a len c] 61) ∧ Row w base 63 6 encC a len c L
  own : ∀ p ∈ L, p.2.f = p.1.2.2
/-- The blocks of a box of the reference: its own, and its row's. -/
def RefB (w : World) (b base k : Nat) : Prop := k = b ∨ (base ≤ k ∧ (∃ cur, w.heap[k]? = some (.cells cur 63)) ∧ ∃ n len c ad, w.heap[b]? = some (.cells #[.int .i64 n, .slice (some ad) len c] 61) ∧ ad.block = k)
theorem Row.block {α : Type} {w : World} {base T sz : Nat} {enc : α → List Value} {a : Option Addr} {n c : Nat} {l : List α} (h : Row w base T sz enc a n c l) : ∀ ad, a = some ad → base ≤ ad.block ∧ ∃ cur, w.heap[ad.block]? = some (.cells cur T) := by
  intro ad ha
  obtain ⟨hn, hl, ho⟩ := h
  rcases ho with ⟨ho, _⟩ | ⟨g, cap, cur, hv, hb, hh, r⟩
  · simp only [Value.slice.injEq] at ho; rw [ho.1] at ha; cases ha
  · simp only [Value.slice.injEq] at hv; rw [hv.1] at ha; cases ha; exact ⟨hb, _, hh⟩
theorem RefAt.keep0 {w w' : World} {b base : Nat} {n : Int} {L : List (Ky × Vt)} (h : RefAt w b n base L) (hm : Mod [] w w') : RefAt w' b n base L := by
  obtain ⟨⟨a, len, c, h1, h2⟩, ho⟩ := h
  exact ⟨⟨a, len, c, hm.keep0 h1, h2.keep0 hm⟩, ho⟩
/-- .. when blocks are written that are neither its own nor of its row's type. -/
theorem RefAt.keep {S : List Nat} {w w' : World} {b base : Nat} {n : Int} {L : List (Ky × Vt)} (h : RefAt w b n base L) (hm : Mod S w w') (hS : ∀ k ∈ S, ¬ RefB w b base k) : RefAt w' b n base L := by
  obtain ⟨⟨a, len, c, h1, h2⟩, ho⟩ := h
  exact ⟨⟨a, len, c, hm.keep h1 fun hb => hS b hb (.inl rfl), h2.keep hm fun ad ha hb => hS _ hb (.inr ⟨(h2.block ad ha).1, (h2.block ad ha).2, n, len, c, ad, by rw [ha] at h1; exact h1, rfl⟩)⟩, ho⟩

theorem RNew_ok (n : Int) (w : World) : Calls Try.prog 19 #[.int .i64 n] w fun e w' =>
    (mayB n = false ∧ e = .returned (.tuple #[.pointer none, .int .i64 1]) ∧ w' = w) ∨
    (mayB n = true ∧ ∃ b, e = .returned (.tuple #[.pointer (some ⟨b, 0, none⟩), .int .i64 0]) ∧ (∀ base, RefAt w' b n base []) ∧ Mod [] w w' ∧ w.heap.size ≤ b) := by
  refine (ref17_New_go (R := fun v w' => (mayB n = false ∧ v = .tuple #[.pointer none, .int .i64 1] ∧ w' = w) ∨
    (mayB n = true ∧ ∃ b, v = .tuple #[.pointer (some ⟨b, 0, none⟩), .int .i64 0] ∧ (∀ base, RefAt w' b n base []) ∧ Mod [] w w' ∧ w.heap.size ≤ b)) ?_).mono ?_
  · refine (RNeed_ok n w).mono ?_
    rintro e w' ⟨rfl, rfl⟩
    refine ⟨_, rfl, brB_of (fun h => .inl ⟨?_, rfl, rfl⟩) fun h => ?_⟩
    · cases hm : mayB n with
      | false => rfl
      | true => rw [need, if_pos hm] at h; simp [mayB] at hm; simp at h; omega
    · refine al_of fun b w1 h1 M1 f1 => .inr ⟨?_, b, rfl, fun base => ⟨⟨none, 0, 0, h1, Row.nil ..⟩, by simp⟩, M1, f1⟩
      cases hm : mayB n with
      | true => rfl
      | false => rw [need, if_neg (by simp [hm])] at h; simp at h
  · rintro e w' ⟨v, rfl, h⟩
    rcases h with ⟨h1, rfl, h3⟩ | ⟨h1, b, rfl, h3⟩
    · exact .inl ⟨h1, rfl, h3⟩
    · exact .inr ⟨h1, b, rfl, h3⟩

end Go.Proofs.Ytkdpopkbongabaa
