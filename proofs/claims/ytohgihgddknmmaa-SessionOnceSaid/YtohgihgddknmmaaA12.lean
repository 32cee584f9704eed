/- The document's check of a command. -/
import Derived.Test.YtohgihgddknmmaaA8
import Derived.Test.YtohgihgddknmmaaA2
import Derived.Test.YtohgihgddknmmaaGenA1
namespace Go.Proofs.Ytohgihgddknmmaa
open Go Go.RowKit
set_option linter.unusedVariables false
set_option linter.unusedSimpArgs false

/-! ### letters -/
def hasS (k : Int) : ByteArray := ⟨((hasL k).map UInt8.ofNat).toArray⟩
def amongB (s : ByteArray) (c : Int) : Bool := s.data.toList.any fun b => decide ((b.toNat : Int) = c)
theorem kind_cases {k : Int} (h0 : 0 ≤ k) (h1 : k ≤ 12) : k = 0 ∨ k = 1 ∨ k = 2 ∨ k = 3 ∨ k = 4 ∨ k = 5 ∨ k = 6 ∨ k = 7 ∨ k = 8 ∨ k = 9 ∨ k = 10 ∨ k = 11 ∨ k = 12 := by omega
theorem has_ok {k : Int} (h0 : 0 ≤ k) (h1 : k ≤ 12) (w : World) : Calls Try.prog 21 #[.int .i64 k] w fun e w' => e = .returned (.string (hasS k)) ∧ Mod [] w w' := by
  refine go_of (ref04_has_go ?_)
  refine al_of fun b w1 c1 M1 f1 => ?_
  rcases kind_cases h0 h1 with rfl | rfl | rfl | rfl | rfl | rfl | rfl | rfl | rfl | rfl | rfl | rfl | rfl
  all_goals exact ⟨_, rfl, by decide, by decide, ldStr_of (by rw [addr_add, cell_at c1]; rfl) ⟨rfl, M1⟩⟩
theorem Among_ok (s : ByteArray) (hs : s.size ≤ 1000000) (c : Int) (w : World) : Calls Try.prog 23 #[.string s, .int .u8 c] w fun e w' => e = .returned (.bool (amongB s c)) ∧ w' = w := by
  refine go_of (ref04_among_go ?_)
  refine ref04_among_rule1 (fun mm x w' => ∃ k : Nat, x = k ∧ k ≤ s.size ∧ ((s.data.toList.take k).any fun b => decide ((b.toNat : Int) = c)) = false ∧ w' = w ∧ mm = s.size - k) s.size ⟨0, rfl, by omega, by simp, rfl, rfl⟩ ?_
  rintro mm x w' ⟨k, rfl, hk, ha, rfl, rfl⟩
  refine brB_dec (fun hlt => ?_) fun hge => ?_
  · have hk' : k < s.size := by omega
    obtain ⟨b, hb, hv⟩ := byteAt_mem hk'
    refine ⟨by omega, by omega, ?_⟩
    rw [Int.toNat_natCast, hv]
    refine brB_of (fun g => ⟨congrArg Value.bool ?_, rfl⟩) fun g => ?_
    · have g : (b.toNat : Int) = c := by simpa using g
      symm
      rw [amongB, List.any_eq_true]
      exact ⟨b, List.mem_of_getElem? hb, by simp [g]⟩
    · have g : ¬ (b.toNat : Int) = c := by simpa using g
      refine ref04_among_leaf1 (s.size - (k + 1)) (by omega) ⟨k + 1, by rw [wrap_id (by omega) (by omega)]; omega, by omega, ?_, rfl, rfl⟩
      rw [take_any hb, ha]; simp [g]
  · have hk : k = s.size := by omega
    subst hk
    rw [List.take_of_length_le (by simp)] at ha
    exact ⟨by rw [amongB, ha], rfl⟩
theorem among_ha {k : Int} (h0 : 0 ≤ k) (h1 : k ≤ 12) : ∀ c ∈ [112, 116, 110, 111, 98, 103, 109, 101, 114, 108], amongB (hasS k) ((c : Nat) : Int) = ha k c := by
  rcases kind_cases h0 h1 with rfl | rfl | rfl | rfl | rfl | rfl | rfl | rfl | rfl | rfl | rfl | rfl | rfl
  all_goals decide
theorem AmongK_ok {k : Int} (h0 : 0 ≤ k) (h1 : k ≤ 12) {c : Nat} (hc : c ∈ [112, 116, 110, 111, 98, 103, 109, 101, 114, 108]) (w : World) : Calls Try.prog 23 #[.string (hasS k), .int .u8 (c : Nat)] w fun e w' => e = .returned (.bool (ha k c)) ∧ w' = w := by
  have := Among_ok (hasS k) (by rcases kind_cases h0 h1 with rfl | rfl | rfl | rfl | rfl | rfl | rfl | rfl | rfl | rfl | rfl | rfl | rfl <;> decide) (c : Nat) w
  rwa [among_ha h0 h1 c hc] at this

/-! ### texts in order -/
theorem less_drop : ∀ (k : Nat) (x y : List UInt8), x.take k = y.take k → k ≤ x.length → k ≤ y.length → Op.bytesLess x y = Op.bytesLess (x.drop k) (y.drop k)
  | 0, x, y, _, _, _ => rfl
  | k + 1, [], _, _, h, _ => by simp at h
  | k + 1, _, [], _, _, h => by simp at h
  | k + 1, a :: x, b :: y, h, h1, h2 => by
    simp at h
    obtain ⟨rfl, h⟩ := h
    rw [List.drop_succ_cons, List.drop_succ_cons, ← less_drop k x y h (by simpa using h1) (by simpa using h2), Op.bytesLess]
    have : ¬ a < a := UInt8.lt_irrefl a
    simp [this]
theorem LessR_ok (s t : ByteArray) (hs : s.size ≤ 1000000) (w : World) : Calls Try.prog 43 #[.string s, .string t] w fun e w' => e = .returned (.bool (lessB s t)) ∧ Mod [] w w' := by
  refine go_of (ref04_Less_go ?_)
  have hl : lessB s t = Op.bytesLess s.data.toList t.data.toList := by rw [lessB, Lib.toList_data, Lib.toList_data]
  have l1 : s.data.toList.length = s.size := by simp
  have l2 : t.data.toList.length = t.size := by simp
  refine ref04_Less_rule1 (fun mm x w' => ∃ k : Nat, x = k ∧ k ≤ s.size ∧ k ≤ t.size ∧ s.data.toList.take k = t.data.toList.take k ∧ Mod [] w w' ∧ mm = s.size - k) s.size ⟨0, rfl, by omega, by omega, by simp, Mod.refl _, rfl⟩ ?_
  rintro mm x w' ⟨k, rfl, hk, hk2, ht, M, rfl⟩
  have hd : lessB s t = Op.bytesLess (s.data.toList.drop k) (t.data.toList.drop k) := by rw [hl, less_drop k _ _ ht (by omega) (by omega)]
  have dn : ∀ (l : List UInt8), l.length ≤ k → l.drop k = [] := fun l h => List.drop_eq_nil_of_le h
  refine brB_dec (fun hlt => ?_) fun hge => ?_
  · refine brB_dec (fun hlt2 => ?_) fun hge2 => ?_
    · obtain ⟨a, ha, hva⟩ := byteAt_mem (s := s) (k := k) (by omega)
      obtain ⟨b, hb, hvb⟩ := byteAt_mem (s := t) (k := k) (by omega)
      refine ⟨by omega, by omega, by omega, by omega, ?_⟩
      rw [Int.toNat_natCast, hva, hvb]
      refine brB_of (fun g => ⟨by omega, by omega, by omega, by omega, ?_⟩) fun g => ?_
      · rw [Int.toNat_natCast, hva, hvb]
        intro w2 A2
        refine ⟨congrArg Value.bool ?_, M.go0 A2.mod (by simp)⟩
        have g : a ≠ b := fun e => by simp [e] at g
        have ea := List.getElem?_eq_some_iff.1 ha
        have eb := List.getElem?_eq_some_iff.1 hb
        rw [hd, List.drop_eq_getElem_cons ea.1, List.drop_eq_getElem_cons eb.1, ea.2, eb.2, Op.bytesLess]
        have : (a == b) = false := by simpa using g
        rw [this]
        simp [UInt8.lt_iff_toNat_lt]
      · have g : a = b := by
          have : (a.toNat : Int) = b.toNat := by simpa using g
          exact UInt8.toNat_inj.1 (by omega)
        subst g
        intro w2 A2
        exact ref04_Less_leaf1 (s.size - (k + 1)) (by omega) ⟨k + 1, by rw [wrap_id (by omega) (by omega)]; omega, by omega, by omega, take_step ht ha hb, M.go0 A2.mod (by simp), rfl⟩
    · refine ⟨congrArg Value.bool ?_, M⟩
      rw [hd, dn t.data.toList (by omega)]
      have : ¬ ((s.size : Int) < (t.size : Int)) := by omega
      rw [decide_eq_false this]
      cases (s.data.toList.drop k) <;> rfl
  · refine ⟨congrArg Value.bool ?_, M⟩
    rw [hd, dn s.data.toList (by omega)]
    by_cases h2 : t.size ≤ k
    · rw [dn t.data.toList (by omega), decide_eq_false (by omega)]; rfl
    · rw [decide_eq_true (by omega), List.drop_eq_getElem_cons (l := t.data.toList) (by omega)]; rfl
theorem NamesR_ok {w : World} {l : List ByteArray} {ts : Sl} (h : SlAt w 1 encS ts.a ts.n l) :
    Calls Try.prog 25 #[.slice ts.a ts.n ts.c] w fun e w' => e = .returned (.bool (namesB l)) ∧ Mod [] w w' := by
  have hn := h.1
  refine go_of (ref04_names_go ?_)
  refine brB_dec (fun g => ⟨by rw [namesB, decide_eq_false (by omega)]; rfl, Mod.refl _⟩) fun g1 => ?_
  refine brB_dec (fun g => ⟨by rw [namesB, decide_eq_false (by omega)]; rfl, Mod.refl _⟩) fun g2 => ?_
  have hN : namesB l = (l.all nameB && riseB l) := by rw [namesB, decide_eq_true (by omega)]; simp
  have no1 : ∀ {w' : World}, l.all nameB = false → Mod [] w w' → (Value.bool false = Value.bool (namesB l) ∧ Mod [] w w') := fun hf M => ⟨by rw [hN, hf]; rfl, M⟩
  have no2 : ∀ {w' : World}, riseB l = false → Mod [] w w' → (Value.bool false = Value.bool (namesB l) ∧ Mod [] w w') := fun hf M => ⟨by rw [hN, hf]; simp, M⟩
  have pre : ∀ k : Nat, riseB (l.take k) = false → riseB l = false := fun k => by
    induction hm : l.length - k generalizing k with
    | zero => intro hf; rwa [List.take_of_length_le (by omega)] at hf
    | succ n ih =>
      intro hf
      refine ih (k + 1) (by omega) ?_
      cases k with
      | zero => simp [riseB] at hf
      | succ k =>
        obtain ⟨x, hx⟩ : ∃ x, l[k]? = some x := ⟨_, List.getElem?_eq_getElem (by omega)⟩
        obtain ⟨y, hy⟩ : ∃ y, l[k + 1]? = some y := ⟨_, List.getElem?_eq_getElem (by omega)⟩
        rw [rise_take hx hy, hf]; rfl
  refine ref04_names_rule1 (fun mm x w' => ∃ k : Nat, x = k ∧ k ≤ l.length ∧ (l.take k).all nameB = true ∧ riseB (l.take k) = true ∧ Mod [] w w' ∧ mm = l.length - k) l.length ⟨0, rfl, by omega, by simp, by simp [riseB], Mod.refl _, rfl⟩ ?_
  rintro mm x w1 ⟨k, rfl, hk, ha, hr, M1, rfl⟩
  refine brB_dec (fun hlt => ?_) fun hge => ?_
  · obtain ⟨x, hx⟩ : ∃ x, l[k]? = some x := ⟨_, List.getElem?_eq_getElem (by omega)⟩
    refine (h.keep0 M1).ixW hx fun q hq => ?_
    intro w2 A2
    have N2 := M1.go0 A2.mod (by simp)
    refine ldStr_of (x := x) (by simpa [add_zero] using hq w2 A2.mod 0 _ rfl) ?_
    refine (RName_ok x w2).mono ?_
    rintro e w3 ⟨rfl, rfl⟩
    have ew : IntKind.wrap .i64 ((k : Int) + 1) = ((k + 1 : Nat) : Int) := by rw [wrap_id (by omega) (by omega)]; omega
    refine ⟨_, rfl, brB_of (fun g => no1 ?_ N2) fun g => ?_⟩
    · rw [List.all_eq_false]; exact ⟨x, List.mem_of_getElem? hx, by rw [notT g]; decide⟩
    have hx1 : nameB x = true := notF g
    have ha' : (l.take (k + 1)).all nameB = true := by rw [take_all hx, ha, hx1]; rfl
    refine brB_dec (fun g3 => ?_) fun g3 => ?_
    · obtain ⟨j, rfl⟩ : ∃ j, k = j + 1 := ⟨k - 1, by omega⟩
      obtain ⟨y, hy⟩ : ∃ y, l[j]? = some y := ⟨_, List.getElem?_eq_getElem (by omega)⟩
      rw [show IntKind.wrap .i64 (((j + 1 : Nat) : Int) - 1) = ((j : Nat) : Int) by rw [wrap_id (by omega) (by omega)]; omega]
      refine (h.keep0 N2).ix hy fun q hq => ldStr_of (x := y) (by simpa [add_zero] using hq 0 _ rfl) ?_
      refine (h.keep0 N2).ix hx fun q hq => ldStr_of (x := x) (by simpa [add_zero] using hq 0 _ rfl) ?_
      have hys : y.size ≤ 16 := by
        have := List.all_eq_true.1 ha y (List.mem_of_getElem? (i := j) (by rw [List.getElem?_take]; simp [hy]))
        simp [nameB] at this; omega
      refine (LessR_ok y x (by omega) _).mono ?_
      rintro e w4 ⟨rfl, M4⟩
      have N4 := N2.go0 M4 (by simp)
      refine ⟨_, rfl, brB_of (fun g => no2 (pre (j + 2) ?_) N4) fun g => ?_⟩
      · rw [rise_take hy hx, notT g]; simp
      · exact ref04_names_leaf1 (l.length - (j + 1 + 1)) (by omega) ⟨j + 1 + 1, ew, by omega, ha', by rw [rise_take hy hx, notF g, hr]; rfl, N4, rfl⟩
    · have hk0 : k = 0 := by omega
      subst hk0
      refine ref04_names_leaf1 (l.length - (0 + 1)) (by omega) ⟨0 + 1, ew, by omega, ha', ?_, N2, rfl⟩
      cases l <;> simp [riseB]
  · have : k = l.length := by omega
    subst this
    rw [List.take_length] at ha hr
    exact ⟨by rw [hN, ha, hr]; rfl, M1⟩

/-! ### batches -/
theorem AllR3_ok {w : World} {b : PBatch} {rs : Sl} (h : SlAt w 4 encR rs.a rs.n b.recs) :
    Calls Try.prog 27 #[b.v rs] w fun e w' => e = .returned (.int .i64 (batchE b)) ∧ Mod [] w w' := by
  refine go_of (ref03_All_go ?_)
  have hn := h.1
  intro b1 f1 w1 A1
  have l1 := A1.lt b1 (by simp)
  have bad : ∀ {k : Int} {w' : World}, batchE b = k → Mod [] w w' → (Value.int .i64 k = Value.int .i64 (batchE b) ∧ Mod [] w w') := fun e M => ⟨by rw [e], M⟩
  refine (Num3_ok b.prod w1).mono ?_
  rintro e w2 ⟨rfl, rfl⟩
  refine ⟨_, rfl, Keep.of0 (Mod.refl _), brB_of (fun q1 => bad (by rw [batchE, if_pos (by rw [notT q1]; rfl)]) A1.mod) fun q1 => ?_⟩
  refine (Num3_ok b.epoch w2).mono ?_
  rintro e w3 ⟨rfl, rfl⟩
  refine ⟨_, rfl, Keep.of0 (Mod.refl _), brB_of (fun q2 => bad (by rw [batchE, if_pos (by rw [notT q2]; simp)]) A1.mod) fun q2 => ?_⟩
  refine (Num3_ok b.seq w3).mono ?_
  rintro e w4 ⟨rfl, rfl⟩
  refine ⟨_, rfl, Keep.of0 (Mod.refl _), brB_of (fun q3 => bad (by rw [batchE, if_pos (by rw [notT q3]; simp)]) A1.mod) fun q3 => ?_⟩
  have e0 : batchE b = if b.recs.length = 0 then 30 else if b.recs.length > 16 then 2 else match b.recs.find? fun r => recE r ≠ 0 with | none => 0 | some r => recE r := by
    rw [batchE, if_neg (by rw [notF q1, notF q2, notF q3]; decide)]; rfl
  refine brB_of (fun q4 => bad (by rw [e0, if_pos (by simp at q4; omega)]) A1.mod) fun q4 => ?_
  rw [if_neg (by simp at q4; omega)] at e0
  refine brB_dec (fun q5 => bad (by rw [e0, if_pos (by omega)]) A1.mod) fun q5 => ?_
  rw [if_neg (by omega)] at e0
  refine ref03_All_rule1 (fun mm x w' => ∃ k : Nat, x = k ∧ k ≤ b.recs.length ∧ (∀ y ∈ b.recs.take k, recE y = 0) ∧ Mod [] w w' ∧ mm = b.recs.length - k) b.recs.length ⟨0, rfl, by omega, by simp, A1.mod, rfl⟩ ?_
  rintro mm x w5 ⟨k, rfl, hk, hz, M5, rfl⟩
  refine brB_dec (fun hlt => ?_) fun hge => ?_
  · obtain ⟨y, hy⟩ : ∃ y, b.recs[k]? = some y := ⟨_, List.getElem?_eq_getElem (by omega)⟩
    refine (h.keep0 M5).ix hy fun q hq => ldBool_of (by simpa [add_zero] using hq 0 _ rfl) (ldStr_of (hq 1 _ rfl) (ldBool_of (hq 2 _ rfl) (ldStr_of (hq 3 _ rfl) ?_)))
    refine (RefCheck_ok y w5).mono ?_
    rintro e w7 ⟨rfl, M7⟩
    have N7 := M5.go0 M7 (by simp)
    refine ⟨_, rfl, Keep.of0 M7, brB_of (fun q6 => ?_) fun q6 => ?_⟩
    · have q6 : recE y ≠ 0 := by simpa using q6
      exact bad (by rw [e0, find_take hy hz q6]) N7
    · have q6 : recE y = 0 := by simpa using q6
      refine ref03_All_leaf1 (b.recs.length - (k + 1)) (by omega) ⟨k + 1, by rw [wrap_id (by omega) (by omega)]; omega, by omega, ?_, N7, rfl⟩
      rw [List.take_add_one, hy]
      intro z hz'
      rcases List.mem_append.1 hz' with h | h
      · exact hz z h
      · simp at h; subst h; exact q6
  · have : k = b.recs.length := by omega
    subst this
    rw [List.take_length] at hz
    refine bad ?_ M5
    rw [e0, List.find?_eq_none.2 (by intro y hy; simp [hz y hy])]
end Go.Proofs.Ytohgihgddknmmaa
