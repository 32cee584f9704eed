/- Slices that are cut, rows that are written. -/
import Derived.Test.YtohgihgddknmmaaWd2
namespace Go.Proofs.Ytohgihgddknmmaa
open Go Go.RowKit
set_option linter.unusedVariables false
set_option linter.unusedSimpArgs false

theorem SlAt.ixW {α : Type} {w : World} {sz : Nat} {enc : α → List Value} {a : Option Addr} {n : Nat} {l : List α} {i : Nat} {x : α} {F : Addr → Prop} (h : SlAt w sz enc a n l) (hx : l[i]? = some x)
    (hF : ∀ q, (∀ w', Mod [] w w' → ∀ j v, (enc x)[j]? = some v → w'.cell? (q.add j) = some v) → F q) : ixA a n (i : Int) sz F := by
  obtain ⟨ad, ha, hc⟩ := h.2 i x hx
  have hl := (List.getElem?_eq_some_iff.1 hx).1
  refine ⟨ad, ha, by omega, by rw [h.1]; omega, hF _ fun w' M j v hj => ?_⟩
  obtain ⟨ad', ha', hc'⟩ := (h.keep0 M).2 i x hx
  rw [ha] at ha'; cases ha'
  simpa using hc' j v hj
theorem SlAt.take {α : Type} {w : World} {sz : Nat} {enc : α → List Value} {a : Option Addr} {n : Nat} {l : List α} (h : SlAt w sz enc a n l) {k : Nat} (hk : k ≤ n) : SlAt w sz enc a k (l.take k) := by
  refine ⟨by rw [List.length_take, ← h.1]; omega, fun i x hx => ?_⟩
  rw [List.getElem?_take] at hx
  split at hx
  · exact h.2 i x hx
  · cases hx
theorem SlAt.drop {α : Type} {w : World} {sz : Nat} {enc : α → List Value} {ad : Addr} {n : Nat} {l : List α} (h : SlAt w sz enc (some ad) n l) {k : Nat} (hk : k ≤ n) : SlAt w sz enc (some (ad.add (k * sz))) (n - k) (l.drop k) := by
  refine ⟨by rw [List.length_drop, ← h.1], fun i x hx => ?_⟩
  rw [List.getElem?_drop] at hx
  obtain ⟨ad', ha, hc⟩ := h.2 _ x hx
  cases ha
  refine ⟨_, rfl, fun j v hj => ?_⟩
  have := hc j v hj
  rw [add_add] at this ⊢
  rw [add_add]
  rw [show k * sz + (i * sz + j) = (k + i) * sz + j by rw [Nat.add_mul, Nat.add_assoc]]
  exact this
theorem slV_take {α : Type} {w : World} {sz : Nat} {enc : α → List Value} {a : Option Addr} {n c : Nat} {l : List α} {k : Nat} {F : Option Addr → Nat → Nat → Prop} (h : SlAt w sz enc a n l) (hk : k ≤ n) (hc : n ≤ c) (hF : ∀ a' c', SlAt w sz enc a' k (l.take k) → F a' k c') : slV a c 0 (k : Int) (c : Int) sz F := by
  refine ⟨by omega, by omega, by omega, by omega, ?_⟩
  have e1 : ((k : Int) - 0).toNat = k := by omega
  rw [e1]
  refine hF _ _ ?_
  have h' := h.take hk
  split
  · exact h'
  · cases a with
    | none => exact h'
    | some ad => simpa [Addr.add] using h'
theorem slV_drop {α : Type} {w : World} {sz : Nat} {enc : α → List Value} {a : Option Addr} {n c : Nat} {l : List α} {k : Nat} {F : Option Addr → Nat → Nat → Prop} (h : SlAt w sz enc a n l) (hk : k ≤ n) (hc : n ≤ c) (hF : ∀ a' c', SlAt w sz enc a' (n - k) (l.drop k) → F a' (n - k) c') : slV a c (k : Int) (n : Int) (c : Int) sz F := by
  refine ⟨by omega, by omega, by omega, by omega, ?_⟩
  have e1 : ((n : Int) - k).toNat = n - k := by omega
  rw [e1]
  refine hF _ _ ?_
  split
  · rename_i e
    have e : n = k := by omega
    subst e
    have hl : l.drop n = [] := List.drop_of_length_le (by rw [h.1]; omega)
    rw [hl, Nat.sub_self]
    exact ⟨rfl, fun i x hx => by cases hx⟩
  · rename_i e
    cases a with
    | none =>
      have hl : l = [] := by
        cases l with
        | nil => rfl
        | cons x r => obtain ⟨ad, ha, _⟩ := h.2 0 x rfl; cases ha
      subst hl
      have := h.1
      exact ⟨by simp at this; simp; omega, fun i x hx => by simp at hx⟩
    | some ad => simpa using h.drop hk
theorem Row.cap {α : Type} {w : World} {base T sz : Nat} {enc : α → List Value} {a : Option Addr} {n c : Nat} {l : List α} (h : Row w base T sz enc a n c l) : n ≤ c := by
  obtain ⟨hn, hl, ho⟩ := h
  rcases ho with ⟨ho, he⟩ | ⟨g, cap, cur, hv, hb, hh, r⟩
  · simp only [Value.slice.injEq] at ho; omega
  · simp only [Value.slice.injEq] at hv
    have := r.1
    omega
theorem setFrom_get : ∀ (vs : List Value) (c : Array Value) (i j : Nat), i + vs.length ≤ c.size → (setFrom c i vs).toList[j]? = if i ≤ j ∧ j < i + vs.length then vs[j - i]? else c.toList[j]?
  | [], c, i, j, h => by
    rw [if_neg (by simp)]; rfl
  | v :: r, c, i, j, h => by
    simp only [List.length_cons] at h
    rw [setFrom, setFrom_get r _ _ _ (by simp; omega)]
    simp only [Array.toList_setIfInBounds, List.length_cons]
    by_cases h1 : i = j
    · subst h1
      have hi : i < c.toList.length := by simp; omega
      rw [if_neg (by omega), if_pos (by omega), List.getElem?_set_self hi, Nat.sub_self]; rfl
    · by_cases h2 : i + 1 ≤ j ∧ j < i + 1 + r.length
      · rw [if_pos h2, if_pos (by omega), show j - i = (j - (i + 1)) + 1 by omega]; rfl
      · rw [if_neg h2, if_neg (by omega), List.getElem?_set_ne h1]
/-- A row's element is written. -/
theorem Row.store {α : Type} {w : World} {base T sz : Nat} {enc : α → List Value} {a : Option Addr} {n c : Nat} {l : List α} {i : Nat} {x y : α} {F : World → Prop} (h : Row w base T sz enc a n c l) (hs : ∀ x, (enc x).length = sz) (hl : (enc y).all leafB = true) (hx : l[i]? = some x)
    (hF : ∀ ad w', a = some ad → Row w' base T sz enc a n c (l.set i y) → Mod [ad.block] w w' → F w') : ixA a n (i : Int) sz fun q => st w q (enc y) F := by
  obtain ⟨hn, hlen, ho⟩ := h
  have hi : i < l.length := (List.getElem?_eq_some_iff.1 hx).1
  rcases ho with ⟨ho, h0⟩ | ⟨g, cap, cur, hv, hb, hg, hnc, hcm, hsz, htk⟩
  · omega
  · simp only [Value.slice.injEq] at hv
    obtain ⟨rfl, _, rfl⟩ := hv
    have hle : (i + 1) * sz ≤ c * sz := Nat.mul_le_mul_right sz (by omega)
    have hle1 : i * sz + sz ≤ cur.size := by rw [hsz]; rw [Nat.add_mul, Nat.one_mul] at hle; exact hle
    refine ⟨⟨g, 0, none⟩, rfl, by omega, by omega, ?_⟩
    have ea : (Addr.add ⟨g, 0, none⟩ (((i : Int).toNat) * sz)) = ⟨g, i * sz, none⟩ := by
      rw [Int.toNat_natCast]; unfold Addr.add; split <;> simp_all
    rw [ea]
    refine st_of hg hl (by rw [hs]; exact hle1) fun w' h1 h2 => hF ⟨g, 0, none⟩ w' rfl ⟨by rw [List.length_set]; exact hn, ?_, .inr ⟨g, c, setFrom cur (i * sz) (enc y), rfl, hb, h1, hnc, hcm, by rw [size_setFrom]; exact hsz, ?_⟩⟩ h2
    · rw [flatMap_len hs, List.length_set, hn]
    · refine List.ext_getElem? fun j => ?_
      rw [List.getElem?_take]
      by_cases hj : j < n * sz
      · rw [if_pos hj, setFrom_get _ _ _ _ (by rw [hs]; exact hle1), hs]
        have hsz0 : 0 < sz := Nat.pos_of_ne_zero fun e => by subst e; simp at hj
        have hq : j / sz < l.length := Nat.div_lt_of_lt_mul (by rw [Nat.mul_comm, ← hn]; exact hj)
        have hr := Nat.mod_lt j hsz0
        have e : j / sz * sz + j % sz = j := by rw [Nat.mul_comm]; exact Nat.div_add_mod j sz
        by_cases he : j / sz = i
        · rw [he] at e
          have hm := flatMap_get hs (l.set i y) i (j % sz) y (List.getElem?_set_self hi) hr
          rw [e] at hm
          rw [hm, if_pos (by omega)]
          congr 1
          omega
        · have hg' : (l.set i y)[j / sz]? = some l[j / sz] := by rw [List.getElem?_set_ne (Ne.symm he)]; exact List.getElem?_eq_getElem hq
          have hm := flatMap_get hs (l.set i y) (j / sz) (j % sz) _ hg' hr
          have hm2 := flatMap_get hs l (j / sz) (j % sz) _ (List.getElem?_eq_getElem hq) hr
          rw [e] at hm hm2
          rw [hm, ← hm2, if_neg, ← htk, List.getElem?_take, if_pos hj]
          rintro ⟨g1, g2⟩
          rcases Nat.lt_or_gt_of_ne he with h3 | h3
          · have := Nat.mul_le_mul_right sz (show j / sz + 1 ≤ i by omega)
            rw [Nat.add_mul] at this; omega
          · have := Nat.mul_le_mul_right sz (show i + 1 ≤ j / sz by omega)
            rw [Nat.add_mul] at this; omega
      · rw [if_neg hj]
        rw [List.getElem?_eq_none]
        rw [flatMap_len hs, List.length_set, ← hn]; omega
end Go.Proofs.Ytohgihgddknmmaa
