/- Names, by the program. -/
import Derived.Shelf.Lay
import Derived.Shelf.Strings.FuncGrows
import Derived.Laws.RangeAny
import Derived.Ground.GgwProg
import Derived.Ground.NamesProg
import Derived.Test.YtohgihgddknmmaaC3
namespace Go.Proofs
open Go.Shelf
shelf_lay LaysGw.n17 Ggw 17 at Try as Try.layCF
end Go.Proofs
namespace Go.Proofs.Ytohgihgddknmmaa
open Go Go.RowKit
set_option linter.unusedVariables false
set_option linter.unusedSimpArgs false

theorem Odd_ok (c : Int) (w : World) : Calls Try.prog 88 #[.int .i32 c] w fun e w' => e = .returned (.bool (!okC c)) ∧ w' = w := by
  refine go_of (request_Name_1_go ?_)
  repeat' (first | refine brB_of (fun _ => ?_) (fun _ => ?_) | (intro w' A))
  all_goals
    refine ⟨congrArg Value.bool ?_, rfl⟩
    rw [Bool.eq_iff_iff]
    simp [okC] at *
    try omega
theorem odd_from (s : ByteArray) : ∀ (f pos : Nat), s.size ≤ pos + f → (0 ≤ Lib.idxFuncFrom (fun x => !okC x) true s f pos ↔ ∃ i b, pos ≤ i ∧ s.data.toList[i]? = some b ∧ okC (b.toNat : Int) = false)
  | 0, pos, h => by
    constructor
    · intro h; simp [Lib.idxFuncFrom] at h
    · rintro ⟨i, b, h1, h2, _⟩
      have := (List.getElem?_eq_some_iff.1 h2).1
      simp at this; omega
  | f + 1, pos, h => by
    unfold Lib.idxFuncFrom
    split
    · rename_i hp
      have hd : s.data.toList[pos]? = some s[pos] := by
        rw [List.getElem?_eq_getElem (by simpa using hp)]; rfl
      by_cases ha : (s[pos]).toNat < 128
      · rw [decode_ascii s pos hp ha]
        have ih := odd_from s f (pos + 1) (by omega)
        by_cases ho : okC ((s[pos]).toNat : Int) = true
        · simp only [ho, Bool.not_true]
          rw [if_neg (by decide), ih]
          constructor
          · rintro ⟨i, b, h1, h2, h3⟩; exact ⟨i, b, by omega, h2, h3⟩
          · rintro ⟨i, b, h1, h2, h3⟩
            refine ⟨i, b, ?_, h2, h3⟩
            rcases Nat.lt_or_ge pos i with h4 | h4
            · exact h4
            · have : i = pos := by omega
              subst this
              rw [hd] at h2; cases h2
              rw [ho] at h3; cases h3
        · have ho' : okC ((s[pos]).toNat : Int) = false := by simpa using ho
          simp only [ho', Bool.not_false]
          rw [if_pos trivial]
          exact ⟨fun _ => ⟨pos, _, Nat.le_refl _, hd, ho'⟩, fun _ => by omega⟩
      · have h1 := decode_high s pos hp (by omega)
        have ho : okC ((Utf8.decode s pos).1 : Int) = false := by simp [okC]; omega
        have ho' : okC ((s[pos]).toNat : Int) = false := by simp [okC]; omega
        simp only [ho, Bool.not_false]
        rw [if_pos trivial]
        exact ⟨fun _ => ⟨pos, _, Nat.le_refl _, hd, ho'⟩, fun _ => by omega⟩
    · rename_i hp
      constructor
      · intro h; simp at h
      · rintro ⟨i, b, h1, h2, _⟩
        have := (List.getElem?_eq_some_iff.1 h2).1
        simp at this; omega

theorem Name_ok : NameOk := by
  intro s w
  refine go_of (request_Name_go ?_)
  unfold request_Name_T
  rw [strEq]
  refine brB_of (fun g1 => ?_) (fun g1 => ⟨?_, Mod.refl _⟩)
  rotate_left
  · have g1 := notF g1
    have h0 := (size0 s).1 (of_decide_eq_true g1)
    simp [nameB, h0]
  have h1 : s.size ≠ 0 := fun e => by rw [decide_eq_true ((size0 s).2 e)] at g1; cases g1
  refine brB_dec (fun g2 => ?_) (fun g2 => ⟨by simp [nameB]; omega, Mod.refl _⟩)
  have hC := Any.strings_ContainsFunc_grows Try.layCF 88 #[] (enters_of Try.func88 (by kernel_rfl) rfl) (fun x => !okC x) s w
    (fun W x _ _ => (Odd_ok (x : Int) W).mono fun e w' ⟨h, h'⟩ => ⟨h, by rw [h']; exact Below.refl _ _⟩)
  refine hC.mono ?_
  rintro e w1 ⟨rfl, hb⟩
  refine ⟨_, rfl, ?_, Mod.of_below hb⟩
  refine congrArg Value.bool ?_
  have ho := odd_from s s.size 0 (by omega)
  rw [Bool.eq_iff_iff]
  simp only [nameB, Bool.not_eq_true', decide_eq_false_iff_not, Bool.and_eq_true, decide_eq_true_eq, List.all_eq_true]
  unfold Lib.idxFunc
  rw [ho]
  constructor
  · intro h
    refine ⟨by omega, fun b hb => ?_⟩
    obtain ⟨i, hi⟩ := List.getElem?_of_mem hb
    by_cases hk : okC (b.toNat : Int) = true
    · exact hk
    · exact absurd ⟨i, b, Nat.zero_le _, hi, by simpa using hk⟩ h
  · rintro ⟨_, h⟩ ⟨i, b, _, hi, hk⟩
    rw [h b (List.mem_of_getElem? hi)] at hk; cases hk
end Go.Proofs.Ytohgihgddknmmaa
