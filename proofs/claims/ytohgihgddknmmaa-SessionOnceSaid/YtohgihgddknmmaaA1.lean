/- Commands: alike or not; batches that may be; the checker. -/
import Derived.Test.YtohgihgddknmmaaOP
import Derived.Test.YtohgihgddknmmaaC4
import Derived.Test.YtohgihgddknmmaaGenA1
import Derived.Test.YtohgihgddknmmaaGenA2
namespace Go.Proofs.Ytohgihgddknmmaa
open Go Go.RowKit
set_option linter.unusedVariables false
set_option linter.unusedSimpArgs false

theorem EqS_ok {w : World} {a1 a2 : Option Addr} {n1 c1 n2 c2 : Nat} {l1 l2 : List ByteArray} (h1 : SlAt w 1 encS a1 n1 l1) (h2 : SlAt w 1 encS a2 n2 l2) (hl : l1.length ≤ 1000000) :
    Calls Try.prog 61 #[.slice a1 n1 c1, .slice a2 n2 c2] w fun e w' => e = .returned (.bool (decide (l1 = l2))) ∧ Mod [] w w' := by
  refine go_of (slices_Equal_string_string_go ?_)
  have e1 := h1.1
  have e2 := h2.1
  refine brB_of (fun h => ⟨congrArg Value.bool (decide_eq_false fun e => ?_).symm, Mod.refl _⟩) fun h => ?_
  · subst e
    rw [e1, e2] at h
    simp at h
  have hlen : l1.length = l2.length := by
    simp at h
    omega
  refine slices_Equal_string_string_rule1 (fun mm x w' => ∃ k : Nat, x = k ∧ k ≤ l1.length ∧ l1.take k = l2.take k ∧ Mod [] w w' ∧ mm = l1.length - k) l1.length ⟨0, rfl, by omega, by simp, Mod.refl _, rfl⟩ ?_
  rintro mm x w1 ⟨k, rfl, hk, ht, M, rfl⟩
  refine brB_dec (fun hlt => ?_) fun hge => ?_
  · have g1 : k < l1.length := by omega
    have g2 : k < l2.length := by omega
    obtain ⟨x, hx⟩ : ∃ x, l1[k]? = some x := ⟨_, List.getElem?_eq_getElem g1⟩
    obtain ⟨y, hy⟩ : ∃ y, l2[k]? = some y := ⟨_, List.getElem?_eq_getElem g2⟩
    refine (h1.keep0 M).ix hx fun q hq => ldStr_of (by simpa [add_zero] using hq 0 _ rfl) ?_
    refine (h2.keep0 M).ix hy fun q hq => ldStr_of (by simpa [add_zero] using hq 0 _ rfl) ?_
    rw [strEq x y]
    refine brB_of (fun hne => ?_) fun heq => ?_
    rotate_left
    rotate_right
    · intro w2 A2
      refine ⟨congrArg Value.bool (decide_eq_false fun e => (show ¬ x = y by simpa using hne) ?_).symm, M.go0 A2.mod (by simp)⟩
      subst e
      rw [hx] at hy
      exact Option.some.inj hy
    · intro w2 A2
      have he : x = y := by simpa using heq
      subst he
      exact slices_Equal_string_string_leaf1 (l1.length - (k + 1)) (by omega) ⟨k + 1, by rw [wrap_id (by omega) (by omega)]; omega, by omega, take_step ht hx hy, M.go0 A2.mod (by simp), rfl⟩
  · have hk : k = l1.length := by omega
    subst hk
    rw [List.take_length, hlen, List.take_length] at ht
    exact ⟨congrArg Value.bool (decide_eq_true ht).symm, M⟩
theorem neR (x y : PRec) (o1 o2 : Operand) (w : World) : Sem.run Try.prog (do eqGuard .neq 90 o1 o2 x.v y.v; Go.binOp .neq 90 x.v y.v) w = .ok (.bool (decide (x ≠ y))) w := by
  obtain ⟨a, b, c, d⟩ := x
  obtain ⟨a', b', c', d'⟩ := y
  simp [go_sem, Sem.run_bind, PRec.v]
  by_cases h1 : a = a' <;> by_cases h2 : b = b' <;> by_cases h3 : c = c' <;> by_cases h4 : d = d' <;> simp [h1, h2, h3, h4, toList_inj]
theorem eqPp (x y : PPart) (o1 o2 : Operand) (w : World) : Sem.run Try.prog (do eqGuard .eql 29 o1 o2 x.v y.v; Go.binOp .eql 29 x.v y.v) w = .ok (.bool (decide (x = y))) w := by
  obtain ⟨a, b⟩ := x
  obtain ⟨a', b'⟩ := y
  simp [go_sem, Sem.run_bind, PPart.v]
  by_cases h1 : a = a' <;> by_cases h2 : b = b' <;> simp [h1, h2, toList_inj]
theorem EqR_ok {w : World} {a1 a2 : Option Addr} {n1 c1 n2 c2 : Nat} {l1 l2 : List PRec} (h1 : SlAt w 4 encR a1 n1 l1) (h2 : SlAt w 4 encR a2 n2 l2) (hl : l1.length ≤ 1000000) :
    Calls Try.prog 72 #[.slice a1 n1 c1, .slice a2 n2 c2] w fun e w' => e = .returned (.bool (decide (l1 = l2))) ∧ Mod [] w w' := by
  refine go_of (slices_Equal_api_Record_api_Record_go ?_)
  have e1 := h1.1
  have e2 := h2.1
  refine brB_of (fun h => ⟨congrArg Value.bool (decide_eq_false fun e => ?_).symm, Mod.refl _⟩) fun h => ?_
  · subst e
    rw [e1, e2] at h
    simp at h
  have hlen : l1.length = l2.length := by
    simp at h
    omega
  refine slices_Equal_api_Record_api_Record_rule1 (fun mm x w' => ∃ k : Nat, x = k ∧ k ≤ l1.length ∧ l1.take k = l2.take k ∧ Mod [] w w' ∧ mm = l1.length - k) l1.length ⟨0, rfl, by omega, by simp, Mod.refl _, rfl⟩ ?_
  rintro mm x w1 ⟨k, rfl, hk, ht, M, rfl⟩
  refine brB_dec (fun hlt => ?_) fun hge => ?_
  · have g1 : k < l1.length := by omega
    have g2 : k < l2.length := by omega
    obtain ⟨x, hx⟩ : ∃ x, l1[k]? = some x := ⟨_, List.getElem?_eq_getElem g1⟩
    obtain ⟨y, hy⟩ : ∃ y, l2[k]? = some y := ⟨_, List.getElem?_eq_getElem g2⟩
    refine (h1.keep0 M).ix hx fun q hq => ldBool_of (by simpa [add_zero] using hq 0 _ rfl) (ldStr_of (hq 1 _ rfl) (ldBool_of (hq 2 _ rfl) (ldStr_of (hq 3 _ rfl) ?_)))
    refine (h2.keep0 M).ix hy fun q hq => ldBool_of (by simpa [add_zero] using hq 0 _ rfl) (ldStr_of (hq 1 _ rfl) (ldBool_of (hq 2 _ rfl) (ldStr_of (hq 3 _ rfl) ?_)))
    refine ⟨_, fun w' _ => neR x y _ _ w', ?_⟩
    refine brB_dec (fun hne => ?_) fun heq => ?_
    · intro w2 A2
      refine ⟨congrArg Value.bool (decide_eq_false fun e => hne ?_).symm, M.go0 A2.mod (by simp)⟩
      subst e
      rw [hx] at hy
      exact Option.some.inj hy
    · intro w2 A2
      have he : x = y := Decidable.not_not.1 heq
      subst he
      exact slices_Equal_api_Record_api_Record_leaf1 (l1.length - (k + 1)) (by omega) ⟨k + 1, by rw [wrap_id (by omega) (by omega)]; omega, by omega, take_step ht hx hy, M.go0 A2.mod (by simp), rfl⟩
  · have hk : k = l1.length := by omega
    subst hk
    rw [List.take_length, hlen, List.take_length] at ht
    exact ⟨congrArg Value.bool (decide_eq_true ht).symm, M⟩
def PBatch.v (b : PBatch) (rs : Sl) : Value := .agg #[.int .i64 b.prod, .int .i64 b.epoch, .int .i64 b.seq, .slice rs.a rs.n rs.c]
theorem batches_ok {w : World} {x y : PBatch} {s t : Sl} (h1 : SlAt w 4 encR s.a s.n x.recs) (h2 : SlAt w 4 encR t.a t.n y.recs) (hl : x.recs.length ≤ 1000000) :
    Calls Try.prog 60 #[x.v s, y.v t] w fun e w' => e = .returned (.bool (decide (x = y))) ∧ Mod [] w w' := by
  obtain ⟨a1, a2, a3, a4⟩ := x
  obtain ⟨b1, b2, b3, b4⟩ := y
  refine go_of (request_batches_go ?_)
  intro c1 f1 c2 f2
  simp only [PBatch.mk.injEq]
  refine brB_of (fun g1 => ?_) fun g1 => ?_
  · have g1 : a1 = b1 := by simpa using g1
    refine brB_of (fun g2 => ?_) fun g2 => ?_
    · have g2 : a2 = b2 := by simpa using g2
      refine brB_of (fun g3 => ?_) fun g3 => ?_
      · have g3 : a3 = b3 := by simpa using g3
        intro w1 A1
        refine (EqR_ok (h1.keep0 A1.mod) (h2.keep0 A1.mod) hl).mono ?_
        rintro e w2 ⟨rfl, M2⟩
        exact ⟨_, rfl, Keep.of0 M2, by simp [g1, g2, g3], A1.mod.go0 M2 (by simp)⟩
      · intro w1 A1
        exact ⟨congrArg Value.bool (decide_eq_false (by simp at g3; rintro ⟨_, _, h, _⟩; exact g3 h)).symm, A1.mod⟩
    · intro w1 A1
      exact ⟨congrArg Value.bool (decide_eq_false (by simp at g2; rintro ⟨_, h, _⟩; exact g2 h)).symm, A1.mod⟩
  · intro w1 A1
    exact ⟨congrArg Value.bool (decide_eq_false (by simp at g1; rintro ⟨h, _⟩; exact g1 h)).symm, A1.mod⟩
theorem OpSame_ok {w : World} {x y : POp} {rs ts rs' ts' : Sl} (h1 : OpAt w x rs ts) (h2 : OpAt w y rs' ts') :
    Calls Try.prog 46 #[x.v rs ts, y.v rs' ts'] w fun e w' => e = .returned (.bool (decide (x = y))) ∧ Mod [] w w' := by
  obtain ⟨k1, p1, n1, o1, b1, g1, m1, e1, r1, t1⟩ := x
  obtain ⟨k2, p2, n2, o2, b2, g2, m2, e2, r2, t2⟩ := y
  refine go_of (request_Same_go ?_)
  intro c1 f1 c2 f2
  simp only [POp.mk.injEq]
  have no : ∀ {P : Prop} [Decidable P] {w' : World}, ¬ P → Mod [] w w' → (Value.bool false = Value.bool (decide P) ∧ Mod [] w w') := fun hn M => ⟨congrArg Value.bool (decide_eq_false hn).symm, M⟩
  refine brB_of (fun q1 => ?_) fun q1 => ?_
  rotate_left
  · intro w1 A1
    exact no (by simp at q1; rintro ⟨h, _⟩; exact q1 h) A1.mod
  have q1 : k1 = k2 := by simpa using q1
  intro w1 A1
  have M1 := A1.mod
  refine ⟨_, fun w' _ => eqPp p1 p2 _ _ w', brB_of (fun q2 => ?_) fun q2 => no (by simp at q2; rintro ⟨_, h, _⟩; exact q2 h) M1⟩
  have q2 : p1 = p2 := by simpa using q2
  refine brB_of (fun q3 => ?_) fun q3 => no (by simp at q3; rintro ⟨_, _, h, _⟩; exact q3 h) M1
  have q3 : n1 = n2 := by simpa using q3
  refine brB_of (fun q4 => ?_) fun q4 => no (by simp at q4; rintro ⟨_, _, _, h, _⟩; exact q4 h) M1
  have q4 : o1 = o2 := by simpa using q4
  rw [strEq, strEq]
  refine brB_of (fun q5 => ?_) fun q5 => no (by simp at q5; rintro ⟨_, _, _, _, _, h, _⟩; exact q5 h) M1
  have q5 : g1 = g2 := by simpa using q5
  refine brB_of (fun q6 => ?_) fun q6 => no (by simp at q6; rintro ⟨_, _, _, _, _, _, h, _⟩; exact q6 h) M1
  have q6 : m1 = m2 := by simpa using q6
  refine brB_of (fun q7 => ?_) fun q7 => no (by simp at q7; rintro ⟨_, _, _, _, _, _, _, h, _⟩; exact q7 h) M1
  have q7 : e1 = e2 := by simpa using q7
  refine brB_of (fun q8 => ?_) fun q8 => no (by simp at q8; rintro ⟨_, _, _, _, _, _, _, _, h, _⟩; exact q8 h) M1
  have q8 : r1 = r2 := by simpa using q8
  refine (batches_ok (x := b1) (y := b2) (s := rs) (t := rs') (h1.recs.keep0 M1) (h2.recs.keep0 M1) h1.lr).mono ?_
  rintro e w2 ⟨rfl, M2⟩
  have N2 := M1.go0 M2 (by simp)
  refine ⟨_, rfl, Keep.of0 M2, brB_of (fun q9 => ?_) fun q9 => no (by simp at q9; rintro ⟨_, _, _, _, h, _⟩; exact q9 h) N2⟩
  have q9 : b1 = b2 := by simpa using q9
  refine (EqS_ok (h1.topics.keep0 N2) (h2.topics.keep0 N2) h1.lt).mono ?_
  rintro e w3 ⟨rfl, M3⟩
  exact ⟨_, rfl, Keep.of0 M3, by simp [q1, q2, q3, q4, q5, q6, q7, q8, q9], N2.go0 M3 (by simp)⟩

/-! ### batches -/
theorem recNum_ok (n : Int) (w : World) : Calls Try.prog 119 #[.int .i64 n] w fun e w' => e = .returned (.bool (num n)) ∧ w' = w :=
  go_of (record_number_go (brB_dec (fun h => ⟨by simp [num]; omega, rfl⟩) (fun h => ⟨by simp [num]; omega, rfl⟩)))
theorem find_take {l : List PRec} {k : Nat} {x : PRec} (hx : l[k]? = some x) (h : ∀ y ∈ l.take k, recE y = 0) (hne : recE x ≠ 0) : (l.find? fun r => recE r ≠ 0) = some x := by
  have hk : k < l.length := (List.getElem?_eq_some_iff.1 hx).1
  have e : l = l.take k ++ x :: l.drop (k + 1) := by
    have h2 : l[k] = x := (List.getElem?_eq_some_iff.1 hx).2
    conv => lhs; rw [← List.take_append_drop k l, List.drop_eq_getElem_cons hk, h2]
  rw [e, List.find?_append, List.find?_eq_none.2 (by intro y hy; simp [h y hy])]
  simp [hne]
theorem RecAll_ok {w : World} {b : PBatch} {rs : Sl} (h : SlAt w 4 encR rs.a rs.n b.recs) (hl : b.recs.length ≤ 1000000) :
    Calls Try.prog 116 #[b.v rs] w fun e w' => e = .returned (.int .i64 (batchE b)) ∧ Mod [] w w' := by
  refine go_of (record_All_go ?_)
  have hn := h.1
  intro b1 f1 w1 A1
  have l1 := A1.lt b1 (by simp)
  have bad : ∀ {k : Int} {w' : World}, batchE b = k → Mod [] w w' → (Value.int .i64 k = Value.int .i64 (batchE b) ∧ Mod [] w w') := fun e M => ⟨by rw [e], M⟩
  refine (recNum_ok b.prod w1).mono ?_
  rintro e w2 ⟨rfl, rfl⟩
  refine ⟨_, rfl, Keep.of0 (Mod.refl _), brB_of (fun q1 => bad (by rw [batchE, if_pos (by rw [notT q1]; rfl)]) A1.mod) fun q1 => ?_⟩
  refine (recNum_ok b.epoch w2).mono ?_
  rintro e w3 ⟨rfl, rfl⟩
  refine ⟨_, rfl, Keep.of0 (Mod.refl _), brB_of (fun q2 => bad (by rw [batchE, if_pos (by rw [notT q2]; simp)]) A1.mod) fun q2 => ?_⟩
  refine (recNum_ok b.seq w3).mono ?_
  rintro e w4 ⟨rfl, rfl⟩
  refine ⟨_, rfl, Keep.of0 (Mod.refl _), brB_of (fun q3 => bad (by rw [batchE, if_pos (by rw [notT q3]; simp)]) A1.mod) fun q3 => ?_⟩
  have e0 : batchE b = if b.recs.length = 0 then 30 else if b.recs.length > 16 then 2 else match b.recs.find? fun r => recE r ≠ 0 with | none => 0 | some r => recE r := by
    rw [batchE, if_neg (by rw [notF q1, notF q2, notF q3]; decide)]; rfl
  refine brB_of (fun q4 => bad (by rw [e0, if_pos (by simp at q4; omega)]) A1.mod) fun q4 => ?_
  rw [if_neg (by simp at q4; omega)] at e0
  refine brB_dec (fun q5 => bad (by rw [e0, if_pos (by omega)]) A1.mod) fun q5 => ?_
  rw [if_neg (by omega)] at e0
  refine record_All_rule1 (fun mm x w' => ∃ k : Nat, x = k ∧ k ≤ b.recs.length ∧ (∀ y ∈ b.recs.take k, recE y = 0) ∧ Mod [] w w' ∧ mm = b.recs.length - k) b.recs.length ⟨0, rfl, by omega, by simp, A1.mod, rfl⟩ ?_
  rintro mm x w5 ⟨k, rfl, hk, hz, M5, rfl⟩
  refine brB_dec (fun hlt => ?_) fun hge => ?_
  · obtain ⟨y, hy⟩ : ∃ y, b.recs[k]? = some y := ⟨_, List.getElem?_eq_getElem (by omega)⟩
    refine (h.keep0 M5).ix hy fun q hq => ldBool_of (by simpa [add_zero] using hq 0 _ rfl) (ldStr_of (hq 1 _ rfl) (ldBool_of (hq 2 _ rfl) (ldStr_of (hq 3 _ rfl) ?_)))
    intro b6 f6 w6 A6
    refine (RecCheck_ok y w6).mono ?_
    rintro e w7 ⟨rfl, M7⟩
    have N7 := (M5.go0 A6.mod (by simp)).go0 M7 (by simp)
    refine ⟨_, rfl, Keep.of0 M7, brB_of (fun q6 => ?_) fun q6 => ?_⟩
    · have q6 : recE y ≠ 0 := by simpa using q6
      exact bad (by rw [e0, find_take hy hz q6]) N7
    · have q6 : recE y = 0 := by simpa using q6
      refine record_All_leaf1 (b.recs.length - (k + 1)) (by omega) ⟨k + 1, by rw [wrap_id (by omega) (by omega)]; omega, by omega, ?_, N7, rfl⟩
      rw [List.take_add_one, hy]
      intro z hz'
      rcases List.mem_append.1 hz' with h | h
      · exact hz z h
      · simp at h; subst h; exact q6
  · have : k = b.recs.length := by omega
    subst this
    rw [List.take_length] at hz
    refine bad ?_ M5
    rw [e0, List.find?_eq_none.2 (by intro y hy; simp [hz y hy])]

/-! ### the checker -/
/-- The checker's variable, the command's, what was written since w0. -/
structure ChSt (w0 w : World) (bc bo : Nat) (F A : Bool) (E : Int) (cs : List Value) : Prop where
  c : w.heap[bc]? = some (.cells #[.bool F, .bool A, .int .i64 E] 96)
  o : w.heap[bo]? = some (.cells cs.toArray 35)
  m : Mod [bc, bo] w0 w
  ne : bc ≠ bo
theorem ChSt.adv {w0 w w' : World} {bc bo : Nat} {F A : Bool} {E : Int} {cs : List Value} (h : ChSt w0 w bc bo F A E cs) {N : List Nat} (M : Adv [] N w w') : ChSt w0 w' bc bo F A E cs :=
  ⟨M.mod.keep0 h.c, M.mod.keep0 h.o, (h.m.trans M.mod).less (by simp), h.ne⟩
theorem ChSt.m0 {w0 w w' : World} {bc bo : Nat} {F A : Bool} {E : Int} {cs : List Value} (h : ChSt w0 w bc bo F A E cs) (M : Mod [] w w') : ChSt w0 w' bc bo F A E cs :=
  ⟨M.keep0 h.c, M.keep0 h.o, (h.m.trans M).less (by simp), h.ne⟩
theorem ChSt.setC {w0 w w' : World} {bc bo : Nat} {F A F' A' : Bool} {E E' : Int} {cs : List Value} (h : ChSt w0 w bc bo F A E cs) (hc : w'.heap[bc]? = some (.cells #[.bool F', .bool A', .int .i64 E'] 96)) (M : Mod [bc] w w') : ChSt w0 w' bc bo F' A' E' cs :=
  ⟨hc, M.keep h.o (by simpa using h.ne.symm), (h.m.trans M).less (by simp), h.ne⟩
theorem ChSt.setO {w0 w w' : World} {bc bo : Nat} {F A : Bool} {E : Int} {cs cs' : List Value} (h : ChSt w0 w bc bo F A E cs) (ho : w'.heap[bo]? = some (.cells cs'.toArray 35)) (M : Mod [bo] w w') : ChSt w0 w' bc bo F A E cs' :=
  ⟨M.keep h.c (by simpa using h.ne), ho, (h.m.trans M).less (by simp), h.ne⟩
theorem set1 {cs : List Value} {off : Nat} {v : Value} : setFrom cs.toArray off [v] = (cs.set off v).toArray := by simp [setFrom]
theorem ckNum_step {w0 w : World} {bc bo off : Nat} {F A : Bool} {E x : Int} {cs : List Value} {R : World → Prop} (H : ChSt w0 w bc bo F A E cs) (hc : cs[off]? = some (.int .i64 x)) (k : ∀ w', ChSt w0 w' bc bo F (A || !num x) E (cs.set off (.int .i64 0)) → R w') :
    Calls Try.prog 115 #[.pointer (some ⟨bc, 0, none⟩), .pointer (some ⟨bo, off, none⟩)] w fun e w' => e = .returned (.tuple #[]) ∧ R w' := by
  have hlt : off < cs.length := (List.getElem?_eq_some_iff.1 hc).1
  refine go_of (ck_request_checker_number_go ?_)
  refine ldBool_at (b := bc) (i := 1) H.c rfl ?_
  refine brB_of (fun g => ?_) fun g => ?_
  · subst g
    refine st_of (b := bc) (o := 1) H.c rfl (by simp) fun w1 h1 M1 => ?_
    have H1 := H.setC (F' := F) (A' := true) (E' := E) h1 M1
    refine st_of (b := bo) (o := off) H1.o rfl (by simp; omega) fun w2 h2 M2 => ?_
    exact ⟨rfl, k w2 (H1.setO (by rw [h2, set1]) M2)⟩
  · subst g
    refine ldInt_at (b := bo) (i := off) H.o (by simpa using hc) ?_
    refine (number4_ok x w).mono ?_
    rintro e w1 ⟨rfl, rfl⟩
    refine ⟨_, rfl, ?_⟩
    refine st_of (b := bc) (o := 1) H.c rfl (by simp) fun w2 h2 M2 => ?_
    have H2 := H.setC (F' := F) (A' := !num x) (E' := E) h2 M2
    refine st_of (b := bo) (o := off) H2.o rfl (by simp; omega) fun w3 h3 M3 => ?_
    exact ⟨rfl, k w3 (H2.setO (by rw [h3, set1]) M3)⟩
theorem ckName_step {w0 w : World} {bc bo off : Nat} {F A : Bool} {E : Int} {x : ByteArray} {cs : List Value} {R : World → Prop} (H : ChSt w0 w bc bo F A E cs) (hc : cs[off]? = some (.string x)) (k : ∀ w', ChSt w0 w' bc bo (F || !nameB x) A E (cs.set off (.string es)) → R w') :
    Calls Try.prog 113 #[.pointer (some ⟨bc, 0, none⟩), .pointer (some ⟨bo, off, none⟩)] w fun e w' => e = .returned (.tuple #[]) ∧ R w' := by
  have hlt : off < cs.length := (List.getElem?_eq_some_iff.1 hc).1
  refine go_of (ck_request_checker_name_go ?_)
  refine ldBool_at (b := bc) (i := 0) H.c rfl ?_
  refine brB_of (fun g => ?_) fun g => ?_
  · subst g
    refine st_of (b := bc) (o := 0) H.c rfl (by simp) fun w1 h1 M1 => ?_
    have H1 := H.setC (F' := true) (A' := A) (E' := E) h1 M1
    refine st_of (b := bo) (o := off) H1.o rfl (by simp; omega) fun w2 h2 M2 => ?_
    exact ⟨rfl, k w2 (H1.setO (by rw [h2, set1]; rfl) M2)⟩
  · subst g
    refine ldStr_at (b := bo) (i := off) H.o (by simpa using hc) ?_
    refine (Name_ok x w).mono ?_
    rintro e w1 ⟨rfl, M1⟩
    have H1 := H.m0 M1
    refine ⟨_, rfl, ?_⟩
    refine st_of (b := bc) (o := 0) H1.c rfl (by simp) fun w2 h2 M2 => ?_
    have H2 := H1.setC (F' := !nameB x) (A' := A) (E' := E) h2 M2
    refine st_of (b := bo) (o := off) H2.o rfl (by simp; omega) fun w3 h3 M3 => ?_
    exact ⟨rfl, k w3 (H2.setO (by rw [h3, set1]; rfl) M3)⟩
theorem ckFlag_step {w0 w : World} {bc bo off : Nat} {F A : Bool} {E : Int} {x : Bool} {cs : List Value} {R : World → Prop} (H : ChSt w0 w bc bo F A E cs) (hc : cs[off]? = some (.bool x)) (k : ∀ w', ChSt w0 w' bc bo F A E (cs.set off (.bool false)) → R w') :
    Calls Try.prog 112 #[.pointer (some ⟨bc, 0, none⟩), .pointer (some ⟨bo, off, none⟩)] w fun e w' => e = .returned (.tuple #[]) ∧ R w' := by
  have hlt : off < cs.length := (List.getElem?_eq_some_iff.1 hc).1
  refine go_of (ck_request_checker_flag_go ?_)
  refine st_of (b := bo) (o := off) H.o rfl (by simp; omega) fun w2 h2 M2 => ?_
  exact ⟨rfl, k w2 (H.setO (by rw [h2, set1]) M2)⟩
end Go.Proofs.Ytohgihgddknmmaa
