/- Whether a command may be: the program. -/
import Derived.Test.YtohgihgddknmmaaA1
namespace Go.Proofs.Ytohgihgddknmmaa
open Go Go.RowKit
set_option linter.unusedVariables false
set_option linter.unusedSimpArgs false

theorem ckBatch_step {w0 w : World} {bc bo : Nat} {F A : Bool} {E : Int} {b : PBatch} {rs : Sl} {cs : List Value} {R : World → Prop} (H : ChSt w0 w bc bo F A E cs) (h5 : cs[5]? = some (.int .i64 b.prod)) (h6 : cs[6]? = some (.int .i64 b.epoch)) (h7 : cs[7]? = some (.int .i64 b.seq)) (h8 : cs[8]? = some (.slice rs.a rs.n rs.c))
    (hs : SlAt w 4 encR rs.a rs.n b.recs) (hl : b.recs.length ≤ 1000000) (k : ∀ w', ChSt w0 w' bc bo F A (batchE b) ((((cs.set 5 (.int .i64 0)).set 6 (.int .i64 0)).set 7 (.int .i64 0)).set 8 (.slice none 0 0)) → R w') :
    Calls Try.prog 111 #[.pointer (some ⟨bc, 0, none⟩), .pointer (some ⟨bo, 5, none⟩)] w fun e w' => e = .returned (.tuple #[]) ∧ R w' := by
  have hlt : 8 < cs.length := (List.getElem?_eq_some_iff.1 h8).1
  refine go_of (ck_request_checker_batch_go ?_)
  refine ldInt_at (b := bo) (i := 5) H.o (by simpa using h5) (ldInt_at (b := bo) (i := 6) H.o (by simpa using h6) (ldInt_at (b := bo) (i := 7) H.o (by simpa using h7) (ldSlice_at (b := bo) (i := 8) H.o (by simpa using h8) ?_)))
  refine (RecAll_ok (b := b) (rs := rs) hs hl).mono ?_
  rintro e w1 ⟨rfl, M1⟩
  have H1 := H.m0 M1
  refine ⟨_, rfl, ?_⟩
  refine st_of (b := bc) (o := 2) H1.c rfl (by simp) fun w2 h2 M2 => ?_
  have H2 := H1.setC (F' := F) (A' := A) (E' := batchE b) h2 M2
  refine st_of (b := bo) (o := 5) H2.o rfl (by simp; omega) fun w3 h3 M3 => ?_
  exact ⟨rfl, k w3 (H2.setO (by rw [h3]; simp [setFrom]) M3)⟩
theorem odd_ok (s : ByteArray) (w : World) : Calls Try.prog 118 #[.string s] w fun e w' => e = .returned (.bool (!nameB s)) ∧ Mod [] w w' := by
  refine go_of (ck_request_checker_names_1_go ?_)
  refine (Name_ok s w).mono ?_
  rintro e w1 ⟨rfl, M1⟩
  exact ⟨_, rfl, rfl, M1⟩
theorem IndexOdd_ok {w : World} {a : Option Addr} {n c : Nat} {l : List ByteArray} (h : SlAt w 1 encS a n l) (hl : l.length ≤ 1000000) :
    Calls Try.prog 120 #[.slice a n c, .func (.func 118) #[] #[]] w fun e w' => ∃ v, e = .returned v ∧ ∃ x : Int, v = .int .i64 x ∧ (0 ≤ x ↔ l.all nameB = false) ∧ Mod [] w w' := by
  refine ck_slices_IndexFunc_string_string_go ?_
  have hn := h.1
  refine ck_slices_IndexFunc_string_string_rule1 (fun mm x w' => ∃ k : Nat, x = k ∧ k ≤ l.length ∧ (l.take k).all nameB = true ∧ Mod [] w w' ∧ mm = l.length - k) l.length ⟨0, rfl, by omega, by simp, Mod.refl _, rfl⟩ ?_
  rintro mm x w1 ⟨k, rfl, hk, ha, M1, rfl⟩
  refine brB_dec (fun hlt => ?_) fun hge => ?_
  · obtain ⟨y, hy⟩ : ∃ y, l[k]? = some y := ⟨_, List.getElem?_eq_getElem (by omega)⟩
    refine (h.keep0 M1).ix hy fun q hq => ldStr_of (by simpa [add_zero] using hq 0 _ rfl) ?_
    refine (odd_ok y w1).mono ?_
    rintro e w2 ⟨rfl, M2⟩
    have N2 := M1.go0 M2 (by simp)
    refine ⟨_, rfl, brB_of (fun g => ?_) fun g => ?_⟩
    · refine ⟨_, rfl, ⟨fun _ => ?_, fun _ => by omega⟩, N2⟩
      rw [List.all_eq_false]
      exact ⟨y, List.mem_of_getElem? hy, by simpa using g⟩
    · refine ck_slices_IndexFunc_string_string_leaf1 (l.length - (k + 1)) (by omega) ⟨k + 1, by rw [wrap_id (by omega) (by omega)]; omega, by omega, ?_, N2, rfl⟩
      rw [take_all hy, ha]; simpa using g
  · have : k = l.length := by omega
    subst this
    rw [List.take_length] at ha
    exact ⟨_, rfl, ⟨fun h => by omega, fun h => by rw [ha] at h; cases h⟩, M1⟩
theorem ContainsOdd_ok {w : World} {a : Option Addr} {n c : Nat} {l : List ByteArray} (h : SlAt w 1 encS a n l) (hl : l.length ≤ 1000000) :
    Calls Try.prog 117 #[.slice a n c, .func (.func 118) #[] #[]] w fun e w' => e = .returned (.bool (!l.all nameB)) ∧ Mod [] w w' := by
  refine go_of (ck_slices_ContainsFunc_string_string_go ?_)
  refine (IndexOdd_ok h hl).mono ?_
  rintro e w1 ⟨_, rfl, x, rfl, hx, M1⟩
  refine ⟨_, rfl, congrArg Value.bool ?_, M1⟩
  cases ha : l.all nameB
  · exact decide_eq_true (hx.2 ha)
  · exact decide_eq_false fun h => by have := hx.1 h; rw [ha] at this; cases this
theorem riseB_snoc : ∀ (l : List ByteArray) (x y : ByteArray), riseB (l ++ [x, y]) = (riseB (l ++ [x]) && lessB x y)
  | [], x, y => by simp [riseB]
  | [a], x, y => by simp [riseB, Bool.and_assoc]
  | a :: b :: r, x, y => by
    have := riseB_snoc (b :: r) x y
    simp only [List.cons_append] at this ⊢
    rw [riseB, riseB, this, Bool.and_assoc]
theorem rise_take {l : List ByteArray} {k : Nat} {x y : ByteArray} (hx : l[k]? = some x) (hy : l[k + 1]? = some y) : riseB (l.take (k + 2)) = (riseB (l.take (k + 1)) && lessB x y) := by
  have e1 : l.take (k + 1) = l.take k ++ [x] := by rw [List.take_add_one, hx]; rfl
  have e2 : l.take (k + 2) = l.take k ++ [x, y] := by rw [List.take_add_one, hy, e1]; simp
  rw [e1, e2, riseB_snoc]
theorem ckNames_step {w0 w : World} {bc bo : Nat} {F A : Bool} {E : Int} {l : List ByteArray} {ts : Sl} {cs : List Value} {R : World → Prop} (H : ChSt w0 w bc bo F A E cs) (hc : cs[13]? = some (.slice ts.a ts.n ts.c))
    (hs : SlAt w 1 encS ts.a ts.n l) (hl : l.length ≤ 1000000) (k : ∀ w', ChSt w0 w' bc bo (F || !namesB l) A E (cs.set 13 (.slice none 0 0)) → R w') :
    Calls Try.prog 114 #[.pointer (some ⟨bc, 0, none⟩), .pointer (some ⟨bo, 13, none⟩)] w fun e w' => e = .returned (.tuple #[]) ∧ R w' := by
  have hlt : 13 < cs.length := (List.getElem?_eq_some_iff.1 hc).1
  have hn := hs.1
  refine go_of (ck_request_checker_names_go ?_)
  refine ck_request_checker_names_rule1 (fun mm t x w' => ∃ j : Nat, x = ((j + 1 : Nat) : Int) ∧ j ≤ l.length ∧ t = riseB (l.take (j + 1)) ∧ Mod [] w w' ∧ mm = l.length - j) l.length ⟨0, rfl, by omega, ?_, Mod.refl _, rfl⟩ ?_
  · cases l <;> simp [riseB]
  rintro mm t x w1 ⟨j, rfl, hj, rfl, M1, rfl⟩
  have H1 := H.m0 M1
  have hcell : cs.toArray[13]? = some (.slice ts.a ts.n ts.c) := by simpa using hc
  refine ldSlice_at (b := bo) (i := 13) H1.o hcell ?_
  refine brB_dec (fun hlt2 => ?_) fun hge => ?_
  · have g1 : j + 1 < l.length := by omega
    obtain ⟨x, hx⟩ : ∃ x, l[j]? = some x := ⟨_, List.getElem?_eq_getElem (by omega)⟩
    obtain ⟨y, hy⟩ : ∃ y, l[j + 1]? = some y := ⟨_, List.getElem?_eq_getElem g1⟩
    have ew : IntKind.wrap .i64 (((j + 1 : Nat) : Int) + 1) = ((j + 1 + 1 : Nat) : Int) := by rw [wrap_id (by omega) (by omega)]; omega
    have em : IntKind.wrap .i64 (((j + 1 : Nat) : Int) - 1) = (j : Int) := by rw [wrap_id (by omega) (by omega)]; omega
    refine brB_of (fun g => ?_) fun g => ?_
    · refine ldSlice_at (b := bo) (i := 13) H1.o hcell ?_
      rw [em]
      refine (hs.keep0 M1).ix hx fun q hq => ldStr_of (x := x) (by simpa [add_zero] using hq 0 _ rfl) ?_
      refine ldSlice_at (b := bo) (i := 13) H1.o hcell ?_
      refine (hs.keep0 M1).ix hy fun q hq => ldStr_of (x := y) (by simpa [add_zero] using hq 0 _ rfl) ?_
      intro w2 A2
      refine ck_request_checker_names_leaf1 (l.length - (j + 1)) (by omega) ⟨j + 1, ew, by omega, ?_, M1.go0 A2.mod (by simp), rfl⟩
      rw [rise_take hx hy, g]; rfl
    · intro w2 A2
      refine ck_request_checker_names_leaf1 (l.length - (j + 1)) (by omega) ⟨j + 1, ew, by omega, ?_, M1.go0 A2.mod (by simp), rfl⟩
      rw [rise_take hx hy, g]; rfl
  · rw [List.take_of_length_le (by omega)]
    refine ldSlice_at (b := bo) (i := 13) H1.o hcell ?_
    refine (ContainsOdd_ok (hs.keep0 M1) hl).mono ?_
    rintro e w2 ⟨rfl, M2⟩
    have H2 := H1.m0 M2
    refine ⟨_, rfl, ?_⟩
    have fin : ∀ {f : Bool}, (F || !namesB l) = f → st w2 ⟨bc, 0, none⟩ [.bool f] fun w3 => st w3 ⟨bo, 13, none⟩ [.slice none 0 0] fun w4 => (Value.tuple #[] = Value.tuple #[] ∧ R w4) := fun {f} hf => by
      refine st_of (b := bc) (o := 0) H2.c rfl (by simp) fun w3 h3 M3 => ?_
      have H3 := H2.setC (F' := f) (A' := A) (E' := E) h3 M3
      refine st_of (b := bo) (o := 13) H3.o rfl (by simp; omega) fun w4 h4 M4 => ?_
      refine ⟨rfl, k w4 ?_⟩
      rw [hf]
      exact H3.setO (by rw [h4, set1]) M4
    refine ldBool_at (b := bc) (i := 0) H2.c rfl ?_
    refine brB_of (fun g => fin (by rw [g]; rfl)) fun g => ?_
    subst g
    refine ldSlice_at (b := bo) (i := 13) H2.o hcell ?_
    refine brB_of (fun g => fin ?_) fun g => ?_
    · have : l.length = 0 := by simp at g; omega
      simp [namesB, this]
    refine ldSlice_at (b := bo) (i := 13) H2.o hcell ?_
    refine brB_dec (fun g2 => fin ?_) fun g2 => ?_
    · have : ¬ (l.length ≤ 8) := by omega
      simp [namesB, this]
    have hl8 : decide (1 ≤ l.length ∧ l.length ≤ 8) = true := decide_eq_true (by simp at g; omega)
    refine brB_of (fun g3 => fin ?_) fun g3 => fin ?_
    · rw [namesB, notT g3]; simp
    · rw [namesB, notF g3, hl8]; simp
theorem ckPart_step {w0 w : World} {bc bo : Nat} {F A : Bool} {E x : Int} {t : ByteArray} {cs : List Value} {R : World → Prop} (H : ChSt w0 w bc bo F A E cs) (h1 : cs[1]? = some (.string t)) (h2 : cs[2]? = some (.int .i64 x)) (k : ∀ w', ChSt w0 w' bc bo (F || !nameB t) (A || !num x) E ((cs.set 1 (.string es)).set 2 (.int .i64 0)) → R w') :
    Calls Try.prog 58 #[.iface 94 (.pointer (some ⟨bc, 0, none⟩)), .pointer (some ⟨bo, 1, none⟩)] w fun e w' => e = .returned (.tuple #[]) ∧ R w' := by
  refine go_of (ck_request_part_go ?_)
  intro w1 A1
  refine ckName_step (off := 1) (H.adv A1) h1 fun w2 H => ?_
  intro w3 A3
  refine ckNum_step (off := 2) (x := x) (H.adv A3) (by rw [List.getElem?_set_ne (by decide)]; exact h2) fun w4 H => ?_
  exact ⟨rfl, k w4 H⟩
theorem ckMember_step {w0 w : World} {bc bo : Nat} {F A : Bool} {E : Int} {g m : ByteArray} {cs : List Value} {R : World → Prop} (H : ChSt w0 w bc bo F A E cs) (h1 : cs[9]? = some (.string g)) (h2 : cs[10]? = some (.string m)) (k : ∀ w', ChSt w0 w' bc bo ((F || !nameB g) || !nameB m) A E ((cs.set 9 (.string es)).set 10 (.string es)) → R w') :
    Calls Try.prog 59 #[.iface 94 (.pointer (some ⟨bc, 0, none⟩)), .pointer (some ⟨bo, 0, none⟩)] w fun e w' => e = .returned (.tuple #[]) ∧ R w' := by
  refine go_of (ck_request_member_go ?_)
  intro w1 A1
  refine ckName_step (off := 9) (H.adv A1) h1 fun w2 H => ?_
  intro w3 A3
  refine ckName_step (off := 10) (x := m) (H.adv A3) (by rw [List.getElem?_set_ne (by decide)]; exact h2) fun w4 H => ?_
  exact ⟨rfl, k w4 H⟩
def nilS : Sl := ⟨none, 0, 0⟩
def chR (o : POp) (rs : Sl) : Sl := if ha o.kind 98 then nilS else rs
def chT (o : POp) (ts : Sl) : Sl := if ha o.kind 114 then nilS else ts
set_option maxHeartbeats 2000000 in
theorem ckVisit_step {w0 w : World} {bc bo : Nat} {o : POp} {rs ts : Sl} {R : World → Prop} (H : ChSt w0 w bc bo false false 0 (o.cs rs ts)) (h0 : ¬ (o.kind < 0 ∨ o.kind > 12))
    (hop : ∀ w', Mod [bc, bo] w0 w' → OpAt w' o rs ts) (k : ∀ w', ChSt w0 w' bc bo (chF o) (chA o) (chE o) ((chO o).cs (chR o rs) (chT o ts)) → R w') :
    Calls Try.prog 45 #[.iface 94 (.pointer (some ⟨bc, 0, none⟩)), .pointer (some ⟨bo, 0, none⟩)] w fun e w' => e = .returned (.tuple #[]) ∧ R w' := by
  refine go_of (ck_request_visit_go ?_)
  obtain ⟨kd, pt, n, off, b, g, m, gen, robin, topics⟩ := o
  obtain ⟨b1, b2, b3, b4⟩ := b
  simp only at h0
  refine ldInt_at (b := bo) (i := 0) H.o rfl ?_
  have hk : kd = 0 ∨ kd = 1 ∨ kd = 2 ∨ kd = 3 ∨ kd = 4 ∨ kd = 5 ∨ kd = 6 ∨ kd = 7 ∨ kd = 8 ∨ kd = 9 ∨ kd = 10 ∨ kd = 11 ∨ kd = 12 := by omega
  rcases hk with rfl | rfl | rfl | rfl | rfl | rfl | rfl | rfl | rfl | rfl | rfl | rfl | rfl
  all_goals
    repeat (first
      | refine brT rfl ?_
      | refine brF rfl ?_
      | (intro w' A'; have H := H.adv A'; clear A')
      | refine ckNum_step H rfl fun w' H => ?_
      | refine ckName_step H rfl fun w' H => ?_
      | refine ckFlag_step H rfl fun w' H => ?_
      | refine ckPart_step H rfl rfl fun w' H => ?_
      | refine ckMember_step H rfl rfl fun w' H => ?_
      | refine ckBatch_step (b := ⟨b1, b2, b3, b4⟩) (rs := rs) H rfl rfl rfl rfl (hop _ H.m).recs (hop _ H.m).lr fun w' H => ?_
      | refine ckNames_step (ts := ts) H rfl (hop _ H.m).topics (hop _ H.m).lt fun w' H => ?_)
    refine ⟨rfl, k _ ?_⟩
    simpa [chF, chA, chE, chO, chR, chT, ha, hasL, POp.cs, nilS, batch0, Bool.or_comm, Bool.or_left_comm, Bool.or_assoc] using H
theorem Check_ok {w : World} {o : POp} {rs ts : Sl} (h : OpAt w o rs ts) :
    Calls Try.prog 28 #[o.v rs ts] w fun e w' => e = .returned (.int .i64 (opE o)) ∧ Mod [] w w' := by
  refine go_of (ck_request_Check_go ?_)
  intro b1 f1
  refine brB_dec (fun q1 => ?_) fun q1 => ?_
  · intro w1 A1
    exact ⟨by rw [opE, if_pos (.inl q1)], A1.mod⟩
  refine brB_dec (fun q2 => ?_) fun q2 => ?_
  · intro w1 A1
    exact ⟨by rw [opE, if_pos (.inr (by omega))], A1.mod⟩
  have h0 : ¬ (o.kind < 0 ∨ o.kind > 12) := by omega
  intro b4 f4 w5 A5 c1 c4
  have hne : b4 ≠ b1 := by
    rintro rfl
    rw [c1] at c4; cases c4
  have l1 := A5.lt b1 (by simp)
  have l4 := A5.lt b4 (by simp)
  have hop : ∀ w', Mod [b4, b1] w5 w' → OpAt w' o rs ts := fun w' M => h.keep0 (A5.mod.go0 M (by simp; omega))
  refine ckVisit_step (o := o) (rs := rs) (ts := ts) ⟨c4, c1, (Mod.refl _).less (by simp), hne⟩ h0 hop fun w6 H => ?_
  have M6 : Mod [] w w6 := A5.mod.go0 H.m (by simp; omega)
  refine ⟨_, _, _, _, _, _, _, _, _, _, _, _, _, _, _, _, _, _, H.o, _, _, _, H.c, ?_⟩
  have law := check_law o h0
  refine brB_of (fun q3 => ?_) fun q3 => ?_
  · intro w7 A7 _ _
    exact ⟨by rw [law, q3]; rfl, M6.go0 A7.mod (by simpa using f1)⟩
  intro w7 A7 d1 d4
  have M7 : Mod [] w w7 := M6.go0 A7.mod (by simpa using f1)
  have hop7 := h.keep0 M7
  have hA : OpAt w7 { chO o with kind := 0 } (chR o rs) (chT o ts) := by
    refine ⟨?_, ?_, ?_, ?_⟩
    · unfold chR chO; simp only; split
      · exact ⟨rfl, fun i x hx => by simp [batch0] at hx⟩
      · exact hop7.recs
    · unfold chT chO; simp only; split
      · exact ⟨rfl, fun i x hx => by simp at hx⟩
      · exact hop7.topics
    · unfold chO; simp only; split
      · simp [batch0]
      · exact hop7.lr
    · unfold chO; simp only; split
      · simp
      · exact hop7.lt
  have h00 : OpAt w7 op0 nilS nilS := (op0_own w7 0).at
  refine (OpSame_ok (x := { chO o with kind := 0 }) (y := op0) hA h00).mono ?_
  rintro e w8 ⟨rfl, M8⟩
  have c8 := M8.keep0 d1
  have e8 := M8.keep0 d4
  refine ⟨_, rfl, _, _, _, _, _, _, _, _, _, _, _, _, _, _, _, _, _, _, c8, _, _, _, e8, ?_⟩
  have M9 := M7.go0 M8 (by simp)
  refine brB_of (fun q4 => ?_) fun q4 => ?_
  · exact ⟨by rw [law, q3, q4]; rfl, M9⟩
  refine brB_of (fun q5 => ?_) fun q5 => ?_
  · exact ⟨by rw [law, q3, q4, q5]; rfl, M9⟩
  · exact ⟨by rw [law, q3, q4, q5]; rfl, M9⟩
end Go.Proofs.Ytohgihgddknmmaa
