/- Small functions of records, replies: by their contracts. -/
import Derived.Test.YtohgihgddknmmaaCD
import Derived.Test.YtohgihgddknmmaaGenC1
namespace Go.Proofs.Ytohgihgddknmmaa
open Go Go.RowKit
set_option linter.unusedVariables false
set_option linter.unusedSimpArgs false

def num (n : Int) : Bool := decide (0 ≤ n ∧ n ≤ 1099511627776)
def num1 (n : Int) : Bool := decide (1 ≤ n ∧ n ≤ 1099511627776)
theorem number4_ok (n : Int) (w : World) : Calls Try.prog 80 #[.int .i64 n] w fun e w' => e = .returned (.bool (num n)) ∧ w' = w :=
  go_of (request_number_go (brB_dec (fun h => ⟨by simp [num]; omega, rfl⟩) (fun h => ⟨by simp [num]; omega, rfl⟩)))
theorem Num3_ok (n : Int) (w : World) : Calls Try.prog 26 #[.int .i64 n] w fun e w' => e = .returned (.bool (num n)) ∧ w' = w :=
  go_of (ref03_Num_go (brB_dec (fun h => ⟨by simp [num]; omega, rfl⟩) (fun h => ⟨by simp [num]; omega, rfl⟩)))
/-! ### records -/
def recN (hk tomb : Bool) (k v : Nat) : Int :=
  if (!hk && decide (k ≠ 0)) || (tomb && (!hk || decide (v ≠ 0))) then 30 else if k > 64 ∨ v > 512 then 2 else 0
def recE (r : PRec) : Int := recN r.hk r.tomb r.key.size r.val.size
theorem RecCheck_ok (r : PRec) (w : World) : Calls Try.prog 81 #[r.v] w fun e w' => e = .returned (.int .i64 (recE r)) ∧ Mod [] w w' := by
  obtain ⟨hk, key, tomb, val⟩ := r
  refine go_of (record_Check_go ?_)
  intro b1 f1
  have e1 : (!(key.toList == (⟨#[]⟩ : ByteArray).toList)) = decide (key.size ≠ 0) := by rw [strEq]; simp [size0]
  have e2 : (!(val.toList == (⟨#[]⟩ : ByteArray).toList)) = decide (val.size ≠ 0) := by rw [strEq]; simp [size0]
  rw [e1, e2]
  clear e1 e2
  unfold recE
  generalize key.size = k
  generalize val.size = v
  repeat' (first | refine brB_of (fun _ => ?_) (fun _ => ?_) | (intro w' A))
  all_goals
    refine ⟨congrArg (Value.int .i64) ?_, Adv.mod (by assumption)⟩
    unfold recN
    cases hk <;> cases tomb <;> simp at * <;> (repeat' split) <;> omega
theorem RefCheck_ok (r : PRec) (w : World) : Calls Try.prog 44 #[r.v] w fun e w' => e = .returned (.int .i64 (recE r)) ∧ Mod [] w w' := by
  obtain ⟨hk, key, tomb, val⟩ := r
  refine go_of (ref03_Check_go ?_)
  intro b1 f1
  unfold recE
  generalize key.size = k
  generalize val.size = v
  repeat' (first | refine brB_of (fun _ => ?_) (fun _ => ?_) | (intro w' A))
  all_goals
    refine ⟨congrArg (Value.int .i64) ?_, Adv.mod (by assumption)⟩
    unfold recN
    cases hk <;> cases tomb <;> simp at * <;> (repeat' split) <;> omega

/-! ### names -/
def okC (c : Int) : Bool := decide (97 ≤ c ∧ c ≤ 122) || decide (48 ≤ c ∧ c ≤ 57) || decide (c = 45)
def nameB (s : ByteArray) : Bool := decide (1 ≤ s.size ∧ s.size ≤ 16) && s.data.toList.all fun b => okC b.toNat
theorem byteAt_mem {s : ByteArray} {k : Nat} (h : k < s.size) : ∃ b : UInt8, s.data.toList[k]? = some b ∧ byteAt s k = b.toNat := by
  have h' : k < s.data.toList.length := by simpa using h
  exact ⟨s.data.toList[k], List.getElem?_eq_getElem h', by rw [byteAt, List.getD_eq_getElem?_getD, List.getElem?_eq_getElem h']; rfl⟩
theorem RName_ok (s : ByteArray) (w : World) : Calls Try.prog 24 #[.string s] w fun e w' => e = .returned (.bool (nameB s)) ∧ w' = w := by
  refine go_of (ref04_Name_go ?_)
  refine brB_dec (fun h => ⟨by simp [nameB]; omega, rfl⟩) fun g1 => ?_
  refine brB_dec (fun h => ⟨by simp [nameB]; omega, rfl⟩) fun g2 => ?_
  refine ref04_Name_rule1 (fun mm x w' => ∃ k : Nat, x = k ∧ k ≤ s.size ∧ ((s.data.toList.take k).all fun b => okC b.toNat) = true ∧ w' = w ∧ mm = s.size - k) s.size ⟨0, rfl, by omega, by simp, rfl, rfl⟩ ?_
  rintro mm x w' ⟨k, rfl, hk, ha, rfl, rfl⟩
  refine brB_dec (fun hlt => ?_) fun hge => ?_
  · have hk' : k < s.size := by omega
    obtain ⟨b, hb, hv⟩ := byteAt_mem hk'
    refine ⟨by omega, by omega, ?_⟩
    rw [Int.toNat_natCast, hv]
    have bad : okC b.toNat = false → nameB s = false := fun h => by
      have : (s.data.toList.all fun b => okC b.toNat) = false := by
        rw [List.all_eq_false]
        exact ⟨b, List.mem_of_getElem? hb, by simp [h]⟩
      simp only [nameB, this, Bool.and_false]
    have good : okC b.toNat = true → ((s.data.toList.take (k + 1)).all fun b => okC b.toNat) = true := fun h => by
      rw [List.take_add_one, hb]
      simp at ha ⊢
      exact ⟨ha, h⟩
    repeat' (first | refine brB_of (fun _ => ?_) (fun _ => ?_) | (intro w' A))
    all_goals first
      | (refine ref04_Name_leaf1 (s.size - (k + 1)) (by omega) ⟨k + 1, by rw [wrap_id (by omega) (by omega)]; omega, by omega, good ?_, rfl, rfl⟩
         simp [okC] at *
         omega)
      | (refine ⟨congrArg Value.bool (bad ?_).symm, rfl⟩
         simp [okC] at *
         omega)
  · have hk : k = s.size := by omega
    subst hk
    refine ⟨?_, rfl⟩
    rw [List.take_of_length_le (by simp)] at ha
    simp only [nameB, ha, Bool.and_true]
    rw [decide_eq_true (by omega)]

/-! ### lists side by side -/
theorem take_step {α : Type} {l1 l2 : List α} {k : Nat} {x : α} (ht : l1.take k = l2.take k) (h1 : l1[k]? = some x) (h2 : l2[k]? = some x) : l1.take (k + 1) = l2.take (k + 1) := by
  rw [List.take_add_one, List.take_add_one, ht, h1, h2]
theorem FoundR_ok {w : World} {a1 a2 : Option Addr} {n1 c1 n2 c2 : Nat} {l1 l2 : List PFound} (h1 : SlAt w 5 encF a1 n1 l1) (h2 : SlAt w 5 encF a2 n2 l2) (hl : l1.length ≤ 1000000) :
    Calls Try.prog 56 #[.slice a1 n1 c1, .slice a2 n2 c2] w fun e w' => e = .returned (.bool (decide (l1 = l2))) ∧ Mod [] w w' := by
  refine go_of (ref04_Found_go ?_)
  have e1 := h1.1
  have e2 := h2.1
  refine brB_of (fun h => ⟨congrArg Value.bool (decide_eq_false fun e => ?_).symm, Mod.refl _⟩) fun h => ?_
  · subst e
    rw [e1, e2] at h
    simp at h
  have hlen : l1.length = l2.length := by
    simp at h
    omega
  refine ref04_Found_rule1 (fun mm x w' => ∃ k : Nat, x = k ∧ k ≤ l1.length ∧ l1.take k = l2.take k ∧ Mod [] w w' ∧ mm = l1.length - k) l1.length ⟨0, rfl, by omega, by simp, Mod.refl _, rfl⟩ ?_
  rintro mm x w1 ⟨k, rfl, hk, ht, M, rfl⟩
  refine brB_dec (fun hlt => ?_) fun hge => ?_
  · have g1 : k < l1.length := by omega
    have g2 : k < l2.length := by omega
    obtain ⟨x, hx⟩ : ∃ x, l1[k]? = some x := ⟨_, List.getElem?_eq_getElem g1⟩
    obtain ⟨y, hy⟩ : ∃ y, l2[k]? = some y := ⟨_, List.getElem?_eq_getElem g2⟩
    refine (h1.keep0 M).ix hx fun q hq => ldInt_of (by simpa [add_zero] using hq 0 _ rfl) (ldBool_of (hq 1 _ rfl) (ldStr_of (hq 2 _ rfl) (ldBool_of (hq 3 _ rfl) (ldStr_of (hq 4 _ rfl) ?_))))
    refine (h2.keep0 M).ix hy fun q hq => ldInt_of (by simpa [add_zero] using hq 0 _ rfl) (ldBool_of (hq 1 _ rfl) (ldStr_of (hq 2 _ rfl) (ldBool_of (hq 3 _ rfl) (ldStr_of (hq 4 _ rfl) ?_))))
    refine ⟨_, fun w' _ => neF x y _ _ w', ?_⟩
    refine brB_dec (fun hne => ?_) fun heq => ?_
    · intro w2 A2
      refine ⟨congrArg Value.bool (decide_eq_false fun e => hne ?_).symm, M.go0 A2.mod (by simp)⟩
      subst e
      rw [hx] at hy
      exact Option.some.inj hy
    · intro w2 A2
      have he : x = y := Decidable.not_not.1 heq
      subst he
      exact ref04_Found_leaf1 (l1.length - (k + 1)) (by omega) ⟨k + 1, by rw [wrap_id (by omega) (by omega)]; omega, by omega, take_step ht hx hy, M.go0 A2.mod (by simp), rfl⟩
  · have hk : k = l1.length := by omega
    subst hk
    rw [List.take_length, hlen, List.take_length] at ht
    exact ⟨congrArg Value.bool (decide_eq_true ht).symm, M⟩
theorem PartsR_ok {w : World} {a1 a2 : Option Addr} {n1 c1 n2 c2 : Nat} {l1 l2 : List PPart} (h1 : SlAt w 2 encP a1 n1 l1) (h2 : SlAt w 2 encP a2 n2 l2) (hl : l1.length ≤ 1000000) :
    Calls Try.prog 57 #[.slice a1 n1 c1, .slice a2 n2 c2] w fun e w' => e = .returned (.bool (decide (l1 = l2))) ∧ Mod [] w w' := by
  refine go_of (ref04_Parts_go ?_)
  have e1 := h1.1
  have e2 := h2.1
  refine brB_of (fun h => ⟨congrArg Value.bool (decide_eq_false fun e => ?_).symm, Mod.refl _⟩) fun h => ?_
  · subst e
    rw [e1, e2] at h
    simp at h
  have hlen : l1.length = l2.length := by
    simp at h
    omega
  refine ref04_Parts_rule1 (fun mm x w' => ∃ k : Nat, x = k ∧ k ≤ l1.length ∧ l1.take k = l2.take k ∧ Mod [] w w' ∧ mm = l1.length - k) l1.length ⟨0, rfl, by omega, by simp, Mod.refl _, rfl⟩ ?_
  rintro mm x w1 ⟨k, rfl, hk, ht, M, rfl⟩
  refine brB_dec (fun hlt => ?_) fun hge => ?_
  · have g1 : k < l1.length := by omega
    have g2 : k < l2.length := by omega
    obtain ⟨x, hx⟩ : ∃ x, l1[k]? = some x := ⟨_, List.getElem?_eq_getElem g1⟩
    obtain ⟨y, hy⟩ : ∃ y, l2[k]? = some y := ⟨_, List.getElem?_eq_getElem g2⟩
    refine (h1.keep0 M).ix hx fun q hq => ldStr_of (by simpa [add_zero] using hq 0 _ rfl) (ldInt_of (hq 1 _ rfl) ?_)
    refine (h2.keep0 M).ix hy fun q hq => ldStr_of (by simpa [add_zero] using hq 0 _ rfl) (ldInt_of (hq 1 _ rfl) ?_)
    refine ⟨_, fun w' _ => neP x y _ _ w', ?_⟩
    refine brB_dec (fun hne => ?_) fun heq => ?_
    · intro w2 A2
      refine ⟨congrArg Value.bool (decide_eq_false fun e => hne ?_).symm, M.go0 A2.mod (by simp)⟩
      subst e
      rw [hx] at hy
      exact Option.some.inj hy
    · intro w2 A2
      have he : x = y := Decidable.not_not.1 heq
      subst he
      exact ref04_Parts_leaf1 (l1.length - (k + 1)) (by omega) ⟨k + 1, by rw [wrap_id (by omega) (by omega)]; omega, by omega, take_step ht hx hy, M.go0 A2.mod (by simp), rfl⟩
  · have hk : k = l1.length := by omega
    subst hk
    rw [List.take_length, hlen, List.take_length] at ht
    exact ⟨congrArg Value.bool (decide_eq_true ht).symm, M⟩
end Go.Proofs.Ytohgihgddknmmaa
