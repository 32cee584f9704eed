/- Part 4 of the proof of PODoes. -/
import Derived.WalkKit
import Derived.WalkSpells
import Derived.WalkLawsBesides
import Derived.Deep.Quiet
import Derived.Test.YtohgihgddknmmaaGreatRows
import Derived.KernelRfl
import Derived.Maps.Keyed
import Derived.Maps.RangeRun
import Derived.DeepKeys4
import Derived.Lib.Strings
import Derived.Shelf.RegionOpenPlain
import Derived.Lib.Slices
import Derived.Lib.Walk
import Derived.Lib.Builder
import Derived.Lib.FrozenHead
import Derived.Lib.OthersKept
import Derived.Lib.AppendStr
import Derived.Lib.UnsafeStr
import Derived.Lib.MakeNoZero
import Derived.Laws.Externs
import Derived.Laws.IdiomCopy
import Derived.Laws.BitsLemmas
import Derived.RangeFuncBox
import Derived.RangeFuncLeaves
import Derived.RangeFuncNested
import Derived.Shelf.Abstract
import Derived.OwnWalkIn
import Derived.TacticsInMore
import Derived.LoopNIn
import Derived.LoopIn
import Derived.Maps.AppendAt
import Derived.Sort.LoopGhostIn
import Derived.Laws.Bits64b
import Derived.Laws.IdiomStrings
import Derived.Test.YtohgihgddknmmaaGreatProg
import Derived.Shelf.Lay
import Derived.Shelf.Strings.FuncGrows
import Derived.Laws.RangeAny
import Derived.Ground.GgwProg
import Derived.Ground.NamesProg
import Derived.Test.YtohgihgddknmmaaGreatPODoesK3
/- Whether a command may be: the program. -/
namespace Go.Proofs.YtohgihgddknmmaaGreat
open Go Go.RowKit
set_option linter.unusedVariables false
set_option linter.unusedSimpArgs false

theorem ckBatch_step {w0 w : World} {bc bo : Nat} {F A : Bool} {E : Int} {b : PBatch} {rs : Sl} {cs : List Value} {R : World → Prop} (H : ChSt w0 w bc bo F A E cs) (h5 : cs[5]? = some (.int .i64 b.prod)) (h6 : cs[6]? = some (.int .i64 b.epoch)) (h7 : cs[7]? = some (.int .i64 b.seq)) (h8 : cs[8]? = some (.slice rs.a rs.n rs.c))
    (hs : SlAt w 4 encR rs.a rs.n b.recs) (hl : b.recs.length ≤ 1000000) (k : ∀ w', ChSt w0 w' bc bo F A (batchE b) ((((cs.set 5 (.int .i64 0)).set 6 (.int .i64 0)).set 7 (.int .i64 0)).set 8 (.slice none 0 0)) → R w') :
    Calls Tryz.prog 194 #[.pointer (some ⟨bc, 0, none⟩), .pointer (some ⟨bo, 5, none⟩)] w fun e w' => e = .returned (.tuple #[]) ∧ R w' := by
  have hlt : 8 < cs.length := (List.getElem?_eq_some_iff.1 h8).1
  refine go_of (ck_request_checker_batch_go ?_)
  refine ldInt_at (b := bo) (i := 5) H.o (by simpa using h5) (ldInt_at (b := bo) (i := 6) H.o (by simpa using h6) (ldInt_at (b := bo) (i := 7) H.o (by simpa using h7) (ldSlice_at (b := bo) (i := 8) H.o (by simpa using h8) ?_)))
  refine (RecAll_ok (b := b) (rs := rs) hs hl).mono ?_
  rintro e w1 ⟨rfl, M1⟩
  have H1 := H.m0 M1
  refine ⟨_, rfl, ?_⟩
  refine st_of (b := bc) (o := 2) H1.c rfl (by simp) fun w2 h2 M2 => ?_
  have H2 := H1.setC (F' := F) (A' := A) (E' := batchE b) h2 M2
  refine st_of (b := bo) (o := 5) H2.o rfl (by simp; omega) fun w3 h3 M3 => ?_
  exact ⟨rfl, k w3 (H2.setO (by rw [h3]; simp [setFrom]) M3)⟩
theorem odd_ok (s : ByteArray) (w : World) : Calls Tryz.prog 201 #[.string s] w fun e w' => e = .returned (.bool (!nameB s)) ∧ Mod [] w w' := by
  refine go_of (ck_request_checker_names_1_go ?_)
  refine (Name_ok s w).mono ?_
  rintro e w1 ⟨rfl, M1⟩
  exact ⟨_, rfl, rfl, M1⟩
theorem IndexOdd_ok {w : World} {a : Option Addr} {n c : Nat} {l : List ByteArray} (h : SlAt w 1 encS a n l) (hl : l.length ≤ 1000000) :
    Calls Tryz.prog 203 #[.slice a n c, .func (.func 201) #[] #[]] w fun e w' => ∃ v, e = .returned v ∧ ∃ x : Int, v = .int .i64 x ∧ (0 ≤ x ↔ l.all nameB = false) ∧ Mod [] w w' := by
  refine ck_slices_IndexFunc_string_string_go ?_
  have hn := h.1
  refine ck_slices_IndexFunc_string_string_rule1 (fun mm x w' => ∃ k : Nat, x = k ∧ k ≤ l.length ∧ (l.take k).all nameB = true ∧ Mod [] w w' ∧ mm = l.length - k) l.length ⟨0, rfl, by omega, by simp, Mod.refl _, rfl⟩ ?_
  rintro mm x w1 ⟨k, rfl, hk, ha, M1, rfl⟩
  refine brB_dec (fun hlt => ?_) fun hge => ?_
  · obtain ⟨y, hy⟩ : ∃ y, l[k]? = some y := ⟨_, List.getElem?_eq_getElem (by omega)⟩
    refine (h.keep0 M1).ix hy fun q hq => ldStr_of (by simpa [add_zero] using hq 0 _ rfl) ?_
    refine (odd_ok y w1).mono ?_
    rintro e w2 ⟨rfl, M2⟩
    have N2 := M1.go0 M2 (by simp)
    refine ⟨_, rfl, brB_of (fun g => ?_) fun g => ?_⟩
    · refine ⟨_, rfl, ⟨fun _ => ?_, fun _ => by omega⟩, N2⟩
      rw [List.all_eq_false]
      exact ⟨y, List.mem_of_getElem? hy, by simpa using g⟩
    · refine ck_slices_IndexFunc_string_string_leaf1 (l.length - (k + 1)) (by omega) ⟨k + 1, by rw [wrap_id (by omega) (by omega)]; omega, by omega, ?_, N2, rfl⟩
      rw [take_all hy, ha]; simpa using g
  · have : k = l.length := by omega
    subst this
    rw [List.take_length] at ha
    exact ⟨_, rfl, ⟨fun h => by omega, fun h => by rw [ha] at h; cases h⟩, M1⟩
theorem ContainsOdd_ok {w : World} {a : Option Addr} {n c : Nat} {l : List ByteArray} (h : SlAt w 1 encS a n l) (hl : l.length ≤ 1000000) :
    Calls Tryz.prog 200 #[.slice a n c, .func (.func 201) #[] #[]] w fun e w' => e = .returned (.bool (!l.all nameB)) ∧ Mod [] w w' := by
  refine go_of (ck_slices_ContainsFunc_string_string_go ?_)
  refine (IndexOdd_ok h hl).mono ?_
  rintro e w1 ⟨_, rfl, x, rfl, hx, M1⟩
  refine ⟨_, rfl, congrArg Value.bool ?_, M1⟩
  cases ha : l.all nameB
  · exact decide_eq_true (hx.2 ha)
  · exact decide_eq_false fun h => by have := hx.1 h; rw [ha] at this; cases this
theorem riseB_snoc : ∀ (l : List ByteArray) (x y : ByteArray), riseB (l ++ [x, y]) = (riseB (l ++ [x]) && lessB x y)
  | [], x, y => by simp [riseB]
  | [a], x, y => by simp [riseB, Bool.and_assoc]
  | a :: b :: r, x, y => by
    have := riseB_snoc (b :: r) x y
    simp only [List.cons_append] at this ⊢
    rw [riseB, riseB, this, Bool.and_assoc]
theorem rise_take {l : List ByteArray} {k : Nat} {x y : ByteArray} (hx : l[k]? = some x) (hy : l[k + 1]? = some y) : riseB (l.take (k + 2)) = (riseB (l.take (k + 1)) && lessB x y) := by
  have e1 : l.take (k + 1) = l.take k ++ [x] := by rw [List.take_add_one, hx]; rfl
  have e2 : l.take (k + 2) = l.take k ++ [x, y] := by rw [List.take_add_one, hy, e1]; simp
  rw [e1, e2, riseB_snoc]
theorem ckNames_step {w0 w : World} {bc bo : Nat} {F A : Bool} {E : Int} {l : List ByteArray} {ts : Sl} {cs : List Value} {R : World → Prop} (H : ChSt w0 w bc bo F A E cs) (hc : cs[13]? = some (.slice ts.a ts.n ts.c))
    (hs : SlAt w 1 encS ts.a ts.n l) (hl : l.length ≤ 1000000) (k : ∀ w', ChSt w0 w' bc bo (F || !namesB l) A E (cs.set 13 (.slice none 0 0)) → R w') :
    Calls Tryz.prog 197 #[.pointer (some ⟨bc, 0, none⟩), .pointer (some ⟨bo, 13, none⟩)] w fun e w' => e = .returned (.tuple #[]) ∧ R w' := by
  have hlt : 13 < cs.length := (List.getElem?_eq_some_iff.1 hc).1
  have hn := hs.1
  refine go_of (ck_request_checker_names_go ?_)
  refine ck_request_checker_names_rule1 (fun mm t x w' => ∃ j : Nat, x = ((j + 1 : Nat) : Int) ∧ j ≤ l.length ∧ t = riseB (l.take (j + 1)) ∧ Mod [] w w' ∧ mm = l.length - j) l.length ⟨0, rfl, by omega, ?_, Mod.refl _, rfl⟩ ?_
  · cases l <;> simp [riseB]
  rintro mm t x w1 ⟨j, rfl, hj, rfl, M1, rfl⟩
  have H1 := H.m0 M1
  have hcell : cs.toArray[13]? = some (.slice ts.a ts.n ts.c) := by simpa using hc
  refine ldSlice_at (b := bo) (i := 13) H1.o hcell ?_
  refine brB_dec (fun hlt2 => ?_) fun hge => ?_
  · have g1 : j + 1 < l.length := by omega
    obtain ⟨x, hx⟩ : ∃ x, l[j]? = some x := ⟨_, List.getElem?_eq_getElem (by omega)⟩
    obtain ⟨y, hy⟩ : ∃ y, l[j + 1]? = some y := ⟨_, List.getElem?_eq_getElem g1⟩
    have ew : IntKind.wrap .i64 (((j + 1 : Nat) : Int) + 1) = ((j + 1 + 1 : Nat) : Int) := by rw [wrap_id (by omega) (by omega)]; omega
    have em : IntKind.wrap .i64 (((j + 1 : Nat) : Int) - 1) = (j : Int) := by rw [wrap_id (by omega) (by omega)]; omega
    refine brB_of (fun g => ?_) fun g => ?_
    · refine ldSlice_at (b := bo) (i := 13) H1.o hcell ?_
      rw [em]
      refine (hs.keep0 M1).ix hx fun q hq => ldStr_of (x := x) (by simpa [add_zero] using hq 0 _ rfl) ?_
      refine ldSlice_at (b := bo) (i := 13) H1.o hcell ?_
      refine (hs.keep0 M1).ix hy fun q hq => ldStr_of (x := y) (by simpa [add_zero] using hq 0 _ rfl) ?_
      intro w2 A2
      refine ck_request_checker_names_leaf1 (l.length - (j + 1)) (by omega) ⟨j + 1, ew, by omega, ?_, M1.go0 A2.mod (by simp), rfl⟩
      rw [rise_take hx hy, g]; rfl
    · intro w2 A2
      refine ck_request_checker_names_leaf1 (l.length - (j + 1)) (by omega) ⟨j + 1, ew, by omega, ?_, M1.go0 A2.mod (by simp), rfl⟩
      rw [rise_take hx hy, g]; rfl
  · rw [List.take_of_length_le (by omega)]
    refine ldSlice_at (b := bo) (i := 13) H1.o hcell ?_
    refine (ContainsOdd_ok (hs.keep0 M1) hl).mono ?_
    rintro e w2 ⟨rfl, M2⟩
    have H2 := H1.m0 M2
    refine ⟨_, rfl, ?_⟩
    have fin : ∀ {f : Bool}, (F || !namesB l) = f → st w2 ⟨bc, 0, none⟩ [.bool f] fun w3 => st w3 ⟨bo, 13, none⟩ [.slice none 0 0] fun w4 => (Value.tuple #[] = Value.tuple #[] ∧ R w4) := fun {f} hf => by
      refine st_of (b := bc) (o := 0) H2.c rfl (by simp) fun w3 h3 M3 => ?_
      have H3 := H2.setC (F' := f) (A' := A) (E' := E) h3 M3
      refine st_of (b := bo) (o := 13) H3.o rfl (by simp; omega) fun w4 h4 M4 => ?_
      refine ⟨rfl, k w4 ?_⟩
      rw [hf]
      exact H3.setO (by rw [h4, set1]) M4
    refine ldBool_at (b := bc) (i := 0) H2.c rfl ?_
    refine brB_of (fun g => fin (by rw [g]; rfl)) fun g => ?_
    subst g
    refine ldSlice_at (b := bo) (i := 13) H2.o hcell ?_
    refine brB_of (fun g => fin ?_) fun g => ?_
    · have : l.length = 0 := by simp at g; omega
      simp [namesB, this]
    refine ldSlice_at (b := bo) (i := 13) H2.o hcell ?_
    refine brB_dec (fun g2 => fin ?_) fun g2 => ?_
    · have : ¬ (l.length ≤ 8) := by omega
      simp [namesB, this]
    have hl8 : decide (1 ≤ l.length ∧ l.length ≤ 8) = true := decide_eq_true (by simp at g; omega)
    refine brB_of (fun g3 => fin ?_) fun g3 => fin ?_
    · rw [namesB, notT g3]; simp
    · rw [namesB, notF g3, hl8]; simp
theorem ckPart_step {w0 w : World} {bc bo : Nat} {F A : Bool} {E x : Int} {t : ByteArray} {cs : List Value} {R : World → Prop} (H : ChSt w0 w bc bo F A E cs) (h1 : cs[1]? = some (.string t)) (h2 : cs[2]? = some (.int .i64 x)) (k : ∀ w', ChSt w0 w' bc bo (F || !nameB t) (A || !num x) E ((cs.set 1 (.string es)).set 2 (.int .i64 0)) → R w') :
    Calls Tryz.prog 142 #[.iface 153 (.pointer (some ⟨bc, 0, none⟩)), .pointer (some ⟨bo, 1, none⟩)] w fun e w' => e = .returned (.tuple #[]) ∧ R w' := by
  refine go_of (ck_request_part_go ?_)
  intro w1 A1
  refine ckName_step (off := 1) (H.adv A1) h1 fun w2 H => ?_
  intro w3 A3
  refine ckNum_step (off := 2) (x := x) (H.adv A3) (by rw [List.getElem?_set_ne (by decide)]; exact h2) fun w4 H => ?_
  exact ⟨rfl, k w4 H⟩
theorem ckMember_step {w0 w : World} {bc bo : Nat} {F A : Bool} {E : Int} {g m : ByteArray} {cs : List Value} {R : World → Prop} (H : ChSt w0 w bc bo F A E cs) (h1 : cs[9]? = some (.string g)) (h2 : cs[10]? = some (.string m)) (k : ∀ w', ChSt w0 w' bc bo ((F || !nameB g) || !nameB m) A E ((cs.set 9 (.string es)).set 10 (.string es)) → R w') :
    Calls Tryz.prog 143 #[.iface 153 (.pointer (some ⟨bc, 0, none⟩)), .pointer (some ⟨bo, 0, none⟩)] w fun e w' => e = .returned (.tuple #[]) ∧ R w' := by
  refine go_of (ck_request_member_go ?_)
  intro w1 A1
  refine ckName_step (off := 9) (H.adv A1) h1 fun w2 H => ?_
  intro w3 A3
  refine ckName_step (off := 10) (x := m) (H.adv A3) (by rw [List.getElem?_set_ne (by decide)]; exact h2) fun w4 H => ?_
  exact ⟨rfl, k w4 H⟩
def nilS : Sl := ⟨none, 0, 0⟩
def chR (o : POp) (rs : Sl) : Sl := if ha o.kind 98 then nilS else rs
def chT (o : POp) (ts : Sl) : Sl := if ha o.kind 114 then nilS else ts
set_option maxHeartbeats 2000000 in
theorem ckVisit_step {w0 w : World} {bc bo : Nat} {o : POp} {rs ts : Sl} {R : World → Prop} (H : ChSt w0 w bc bo false false 0 (o.cs rs ts)) (h0 : ¬ (o.kind < 0 ∨ o.kind > 12))
    (hop : ∀ w', Mod [bc, bo] w0 w' → OpAt w' o rs ts) (k : ∀ w', ChSt w0 w' bc bo (chF o) (chA o) (chE o) ((chO o).cs (chR o rs) (chT o ts)) → R w') :
    Calls Tryz.prog 104 #[.iface 153 (.pointer (some ⟨bc, 0, none⟩)), .pointer (some ⟨bo, 0, none⟩)] w fun e w' => e = .returned (.tuple #[]) ∧ R w' := by
  refine go_of (ck_request_visit_go ?_)
  obtain ⟨kd, pt, n, off, b, g, m, gen, robin, topics⟩ := o
  obtain ⟨b1, b2, b3, b4⟩ := b
  simp only at h0
  refine ldInt_at (b := bo) (i := 0) H.o rfl ?_
  have hk : kd = 0 ∨ kd = 1 ∨ kd = 2 ∨ kd = 3 ∨ kd = 4 ∨ kd = 5 ∨ kd = 6 ∨ kd = 7 ∨ kd = 8 ∨ kd = 9 ∨ kd = 10 ∨ kd = 11 ∨ kd = 12 := by omega
  rcases hk with rfl | rfl | rfl | rfl | rfl | rfl | rfl | rfl | rfl | rfl | rfl | rfl | rfl
  all_goals
    repeat (first
      | refine brT rfl ?_
      | refine brF rfl ?_
      | (intro w' A'; have H := H.adv A'; clear A')
      | refine ckNum_step H rfl fun w' H => ?_
      | refine ckName_step H rfl fun w' H => ?_
      | refine ckFlag_step H rfl fun w' H => ?_
      | refine ckPart_step H rfl rfl fun w' H => ?_
      | refine ckMember_step H rfl rfl fun w' H => ?_
      | refine ckBatch_step (b := ⟨b1, b2, b3, b4⟩) (rs := rs) H rfl rfl rfl rfl (hop _ H.m).recs (hop _ H.m).lr fun w' H => ?_
      | refine ckNames_step (ts := ts) H rfl (hop _ H.m).topics (hop _ H.m).lt fun w' H => ?_)
    refine ⟨rfl, k _ ?_⟩
    simpa [chF, chA, chE, chO, chR, chT, ha, hasL, POp.cs, nilS, batch0, Bool.or_comm, Bool.or_left_comm, Bool.or_assoc] using H
theorem Check_ok {w : World} {o : POp} {rs ts : Sl} (h : OpAt w o rs ts) :
    Calls Tryz.prog 59 #[o.v rs ts] w fun e w' => e = .returned (.int .i64 (opE o)) ∧ Mod [] w w' := by
  refine go_of (ck_request_Check_go ?_)
  intro b1 f1
  refine brB_dec (fun q1 => ?_) fun q1 => ?_
  · intro w1 A1
    exact ⟨by rw [opE, if_pos (.inl q1)], A1.mod⟩
  refine brB_dec (fun q2 => ?_) fun q2 => ?_
  · intro w1 A1
    exact ⟨by rw [opE, if_pos (.inr (by omega))], A1.mod⟩
  have h0 : ¬ (o.kind < 0 ∨ o.kind > 12) := by omega
  intro b4 f4 w5 A5 c1 c4
  have hne : b4 ≠ b1 := by
    rintro rfl
    rw [c1] at c4; cases c4
  have l1 := A5.lt b1 (by simp)
  have l4 := A5.lt b4 (by simp)
  have hop : ∀ w', Mod [b4, b1] w5 w' → OpAt w' o rs ts := fun w' M => h.keep0 (A5.mod.go0 M (by simp; omega))
  refine ckVisit_step (o := o) (rs := rs) (ts := ts) ⟨c4, c1, (Mod.refl _).less (by simp), hne⟩ h0 hop fun w6 H => ?_
  have M6 : Mod [] w w6 := A5.mod.go0 H.m (by simp; omega)
  refine ⟨_, _, _, _, _, _, _, _, _, _, _, _, _, _, _, _, _, _, H.o, _, _, _, H.c, ?_⟩
  have law := check_law o h0
  refine brB_of (fun q3 => ?_) fun q3 => ?_
  · intro w7 A7 _ _
    exact ⟨by rw [law, q3]; rfl, M6.go0 A7.mod (by simpa using f1)⟩
  intro w7 A7 d1 d4
  have M7 : Mod [] w w7 := M6.go0 A7.mod (by simpa using f1)
  have hop7 := h.keep0 M7
  have hA : OpAt w7 { chO o with kind := 0 } (chR o rs) (chT o ts) := by
    refine ⟨?_, ?_, ?_, ?_⟩
    · unfold chR chO; simp only; split
      · exact ⟨rfl, fun i x hx => by simp [batch0] at hx⟩
      · exact hop7.recs
    · unfold chT chO; simp only; split
      · exact ⟨rfl, fun i x hx => by simp at hx⟩
      · exact hop7.topics
    · unfold chO; simp only; split
      · simp [batch0]
      · exact hop7.lr
    · unfold chO; simp only; split
      · simp
      · exact hop7.lt
  have h00 : OpAt w7 op0 nilS nilS := (op0_own w7 0).at
  refine (OpSame_ok (x := { chO o with kind := 0 }) (y := op0) hA h00).mono ?_
  rintro e w8 ⟨rfl, M8⟩
  have c8 := M8.keep0 d1
  have e8 := M8.keep0 d4
  refine ⟨_, rfl, _, _, _, _, _, _, _, _, _, _, _, _, _, _, _, _, _, _, c8, _, _, _, e8, ?_⟩
  have M9 := M7.go0 M8 (by simp)
  refine brB_of (fun q4 => ?_) fun q4 => ?_
  · exact ⟨by rw [law, q3, q4]; rfl, M9⟩
  refine brB_of (fun q5 => ?_) fun q5 => ?_
  · exact ⟨by rw [law, q3, q4, q5]; rfl, M9⟩
  · exact ⟨by rw [law, q3, q4, q5]; rfl, M9⟩
end Go.Proofs.YtohgihgddknmmaaGreat

/- The conditions of Go functions' bodies, printed by gen2.py. -/
namespace Go.Proofs.YtohgihgddknmmaaGreat
open Go Go.RowKit
set_option linter.unusedVariables false
set_option maxRecDepth 100000

def oplog_Text_la1 : LA := ⟨[0, 0, 1, 0, 1, 1, 1, 1, 1], [5, 23, 24, 25], [(5, 0, 0)], 1, [0]⟩
def oplog_Text_an : List LA := [oplog_Text_la1]
def oplog_Text_v1 (a_23 : Option Addr) (n_23 : Nat) (c_23 : Nat) (x_24 : Int) (bm0 : Nat) (x_25 : Int) : List Value := [(.pointer (some ⟨bm0, 0, none⟩)), (.slice a_23 n_23 c_23), (.int .i64 x_24), (.int .i64 x_25)]
def oplog_Text_m1 (bm0 : Nat) (p_m0_0 : Option Addr) (a_m0_1 : Option Addr) (n_m0_1 : Nat) (c_m0_1 : Nat) : List TB := [⟨bm0, 124, [(.pointer p_m0_0), (.slice a_m0_1 n_m0_1 c_m0_1)], true⟩]
def oplog_Text_L1 (a_23 : Option Addr) (n_23 : Nat) (c_23 : Nat) (x_24 : Int) (bm0 : Nat) (x_25 : Int) (p_m0_0 : Option Addr) (a_m0_1 : Option Addr) (n_m0_1 : Nat) (c_m0_1 : Nat) (K1 : Kh) (R : Value → World → Prop) (w : World) : Prop :=
  w.heap[bm0]? = some (.cells #[(.pointer p_m0_0), (.slice a_m0_1 n_m0_1 c_m0_1)] 124) →
  brB (decide (x_25 < x_24)) (
    ixA a_23 n_23 x_25 16 fun q15 =>
    ldInt .i64 w q15 fun x16 => ldInt .i64 w (Addr.add q15 1) fun x17 => ldInt .i64 w (Addr.add q15 2) fun x18 => ldStr w (Addr.add q15 3) fun s19 => ldInt .i64 w (Addr.add q15 4) fun x20 => ldInt .i64 w (Addr.add q15 5) fun x21 => ldInt .i64 w (Addr.add q15 6) fun x22 => ldInt .i64 w (Addr.add q15 7) fun x23 => ldInt .i64 w (Addr.add q15 8) fun x24 => ldInt .i64 w (Addr.add q15 9) fun x25 => ldSlice w (Addr.add q15 10) fun a26 n27 c28 => ldStr w (Addr.add q15 11) fun s29 => ldStr w (Addr.add q15 12) fun s30 => ldInt .i64 w (Addr.add q15 13) fun x31 => ldBool w (Addr.add q15 14) fun t32 => ldSlice w (Addr.add q15 15) fun a33 n34 c35 =>
    ∀ b36, w.heap.size ≤ b36 →
    ∀ w37, Adv [] [b36] w w37 → w37.heap[bm0]? = some (.cells #[(.pointer p_m0_0), (.slice a_m0_1 n_m0_1 c_m0_1)] 124) →
    Calls Tryz.prog 78 #[(.agg #[(.int .i64 x18), (.string s19), (.int .i64 x20), (.int .i64 x21), (.int .i64 x22), (.int .i64 x23), (.int .i64 x24), (.int .i64 x25), (.slice a26 n27 c28), (.string s29), (.string s30), (.int .i64 x31), (.bool t32), (.slice a33 n34 c35)])] w37 fun e w38 => ∃ s39 : ByteArray, ∃ x40 : Int, e = .returned (.tuple #[(.string s39), (.int .i64 x40)]) ∧ KeepE [bm0] [(b36, 57)] [b36] w37 w38 ∧ ∃ p41 : Option Addr, ∃ (a42 : Option Addr) (n43 c44 : Nat), w38.heap[bm0]? = some (.cells #[(.pointer p41), (.slice a42 n43 c44)] 124) ∧
    ∀ w45, Adv [] [] w38 w45 → w45.heap[bm0]? = some (.cells #[(.pointer p41), (.slice a42 n43 c44)] 124) →
    Calls Tryz.prog 77 #[(.int .u64 (IntKind.wrap .u64 x16))] w45 fun e w46 => ∃ s47 : ByteArray, e = .returned (.string s47) ∧ KeepE [bm0] [(b36, 57)] [b36] w45 w46 ∧ ∃ p48 : Option Addr, ∃ (a49 : Option Addr) (n50 c51 : Nat), w46.heap[bm0]? = some (.cells #[(.pointer p48), (.slice a49 n50 c51)] 124) ∧ (((.int .i64 x17) : Value) = (.int .i64 x17)) ∧
    Calls Tryz.prog 77 #[(.int .u64 (IntKind.wrap .u64 x17))] w46 fun e w52 => ∃ s53 : ByteArray, e = .returned (.string s53) ∧ KeepE [bm0] [(b36, 57)] [b36] w46 w52 ∧ ∃ p54 : Option Addr, ∃ (a55 : Option Addr) (n56 c57 : Nat), w52.heap[bm0]? = some (.cells #[(.pointer p54), (.slice a55 n56 c57)] 124) ∧
    catS s47 s53 fun s58 =>
    Calls Tryz.prog 80 #[(.string s39)] w52 fun e w59 => ∃ s60 : ByteArray, e = .returned (.string s60) ∧ KeepE [bm0] [(b36, 57)] [b36] w52 w59 ∧ ∃ p61 : Option Addr, ∃ (a62 : Option Addr) (n63 c64 : Nat), w59.heap[bm0]? = some (.cells #[(.pointer p61), (.slice a62 n63 c64)] 124) ∧
    catS s58 s60 fun s65 =>
    Calls Tryz.prog 79 #[(.string s65)] w59 fun e w66 => ∃ s67 : ByteArray, e = .returned (.string s67) ∧ KeepE [bm0] [(b36, 57)] [b36] w59 w66 ∧ ∃ p68 : Option Addr, ∃ (a69 : Option Addr) (n70 c71 : Nat), w66.heap[bm0]? = some (.cells #[(.pointer p68), (.slice a69 n70 c71)] 124) ∧
    Calls Tryz.prog 76 #[(.pointer (some ⟨bm0, 0, none⟩)), (.string s67)] w66 fun e w72 => ∃ x73 : Int, ∃ v74 : Value, e = .returned (.tuple #[(.int .i64 x73), v74]) ∧ KeepE [bm0] [(b36, 57)] [b36] w66 w72 ∧ ∃ p75 : Option Addr, ∃ (a76 : Option Addr) (n77 c78 : Nat), w72.heap[bm0]? = some (.cells #[(.pointer p75), (.slice a76 n77 c78)] 124) ∧
    K1 (oplog_Text_v1 a_23 n_23 c_23 x_24 bm0 (IntKind.wrap .i64 (x_25 + 1))) (oplog_Text_m1 bm0 p75 a76 n77 c78) w72)
  (
    Calls Tryz.prog 81 #[(.pointer (some ⟨bm0, 0, none⟩))] w fun e w79 => ∃ s80 : ByteArray, e = .returned (.string s80) ∧ ∃ p81 : Option Addr, ∃ (a82 : Option Addr) (n83 c84 : Nat), w79.heap[bm0]? = some (.cells #[(.pointer p81), (.slice a82 n83 c84)] 124) ∧
    R (.tuple #[(.string s80), (.int .i64 0)]) w79)
theorem oplog_Text_L1_eq (a_23 : Option Addr) (n_23 : Nat) (c_23 : Nat) (x_24 : Int) (bm0 : Nat) (x_25 : Int) (p_m0_0 : Option Addr) (a_m0_1 : Option Addr) (n_m0_1 : Nat) (c_m0_1 : Nat) (K1 : Kh) (js : Nat → Value) (R : Value → World → Prop) (w : World) :
    headA oplog_Text_la1 ((dnF Tryz.prog oplog_Text_an (code Tryz.f31) 393 [0, 0, 1, 0, 1, 1, 1, 1, 1]) (kthen3 (atA oplog_Text_la1 K1) (kont3 Tryz.prog oplog_Text_an (code Tryz.f31) [1, 1, 1, 1, 1, 0, 1, 0] [] (post3 Tryz.prog Tryz.f31 [] R)))) (oplog_Text_v1 a_23 n_23 c_23 x_24 bm0 x_25) js (oplog_Text_m1 bm0 p_m0_0 a_m0_1 n_m0_1 c_m0_1) w = oplog_Text_L1 a_23 n_23 c_23 x_24 bm0 x_25 p_m0_0 a_m0_1 n_m0_1 c_m0_1 K1 R w := by kernel_rfl
def oplog_Text_K1 (a_23 : Option Addr) (n_23 : Nat) (c_23 : Nat) (x_24 : Int) (bm0 : Nat) (I : Nat → Int → Option Addr → Option Addr → Nat → Nat → World → Prop) (m : Nat) (vals : List Value) (mem : List TB) (w : World) : Prop := ∃ m', m' < m ∧ ∃ x_25 p_m0_0 a_m0_1 n_m0_1 c_m0_1, vals = (oplog_Text_v1 a_23 n_23 c_23 x_24 bm0 x_25) ∧ mem = (oplog_Text_m1 bm0 p_m0_0 a_m0_1 n_m0_1 c_m0_1) ∧ I m' x_25 p_m0_0 a_m0_1 n_m0_1 c_m0_1 w
theorem oplog_Text_leaf1 {a_23 : Option Addr} {n_23 : Nat} {c_23 : Nat} {x_24 : Int} {bm0 : Nat} {I : Nat → Int → Option Addr → Option Addr → Nat → Nat → World → Prop} {m : Nat} {x_25 : Int} {p_m0_0 : Option Addr} {a_m0_1 : Option Addr} {n_m0_1 : Nat} {c_m0_1 : Nat} {w : World} (m' : Nat) (h1 : m' < m) (h2 : I m' x_25 p_m0_0 a_m0_1 n_m0_1 c_m0_1 w) : oplog_Text_K1 a_23 n_23 c_23 x_24 bm0 I m (oplog_Text_v1 a_23 n_23 c_23 x_24 bm0 x_25) (oplog_Text_m1 bm0 p_m0_0 a_m0_1 n_m0_1 c_m0_1) w := ⟨m', h1, _, _, _, _, _, rfl, rfl, h2⟩
theorem oplog_Text_rule1 {a_23 : Option Addr} {n_23 : Nat} {c_23 : Nat} {x_24 : Int} {bm0 : Nat} {x_250 : Int} {p_m0_00 : Option Addr} {a_m0_10 : Option Addr} {n_m0_10 : Nat} {c_m0_10 : Nat} {R : Value → World → Prop} {w0 : World} (I : Nat → Int → Option Addr → Option Addr → Nat → Nat → World → Prop) (m0 : Nat) (h0 : I m0 x_250 p_m0_00 a_m0_10 n_m0_10 c_m0_10 w0)
    (hr : ∀ (m : Nat) (x_25 : Int) (p_m0_0 : Option Addr) (a_m0_1 : Option Addr) (n_m0_1 : Nat) (c_m0_1 : Nat) (w : World), I m x_25 p_m0_0 a_m0_1 n_m0_1 c_m0_1 w → oplog_Text_L1 a_23 n_23 c_23 x_24 bm0 x_25 p_m0_0 a_m0_1 n_m0_1 c_m0_1 (oplog_Text_K1 a_23 n_23 c_23 x_24 bm0 I m) R w) :
    loopD3 oplog_Text_la1 (dnF Tryz.prog oplog_Text_an (code Tryz.f31) 393 [0, 0, 1, 0, 1, 1, 1, 1, 1]) (kont3 Tryz.prog oplog_Text_an (code Tryz.f31) [1, 1, 1, 1, 1, 0, 1, 0] [] (post3 Tryz.prog Tryz.f31 [] R)) (oplog_Text_v1 a_23 n_23 c_23 x_24 bm0 x_250) (oplog_Text_m1 bm0 p_m0_00 a_m0_10 n_m0_10 c_m0_10) w0 := by
  refine ⟨fun m vals mem w => ∃ x_25 p_m0_0 a_m0_1 n_m0_1 c_m0_1, vals = (oplog_Text_v1 a_23 n_23 c_23 x_24 bm0 x_25) ∧ mem = (oplog_Text_m1 bm0 p_m0_0 a_m0_1 n_m0_1 c_m0_1) ∧ I m x_25 p_m0_0 a_m0_1 n_m0_1 c_m0_1 w, m0, ⟨_, _, _, _, _, rfl, rfl, h0⟩, ?_⟩
  rintro m vals mem w ⟨x_25, p_m0_0, a_m0_1, n_m0_1, c_m0_1, rfl, rfl, hI⟩
  refine ⟨rfl, rfl, fun js => ?_⟩
  have h := hr m x_25 p_m0_0 a_m0_1 n_m0_1 c_m0_1 w hI
  rw [← oplog_Text_L1_eq _ _ _ _ _ _ _ _ _ _ _ js] at h
  exact h
/-- stagecoach/oplog.Text -/
def oplog_Text_T (a0_l_a : Option Addr) (a0_l_n : Nat) (a0_l_c : Nat) (R : Value → World → Prop) (w : World) : Prop :=
  brB (decide ((a0_l_n : Int) > 4096)) (
    R (.tuple #[(.string (⟨#[]⟩ : ByteArray)), (.int .i64 2)]) w)
  (
    Calls Tryz.prog 75 #[(.slice a0_l_a a0_l_n a0_l_c)] w fun e w1 => ∃ x2 : Int, e = .returned (.int .i64 x2) ∧
    brB (x2 != 0) (
      R (.tuple #[(.string (⟨#[]⟩ : ByteArray)), (.int .i64 x2)]) w1)
    (
      ∀ b3, w1.heap.size ≤ b3 →
      ∀ w4, Adv [] [b3] w1 w4 →
      Calls Tryz.prog 77 #[(.int .u64 (IntKind.wrap .u64 (a0_l_n : Int)))] w4 fun e w5 => ∃ s6 : ByteArray, e = .returned (.string s6) ∧ Keep [b3] w4 w5 ∧
      ∀ w7, Adv [] [] w5 w7 → w7.heap[b3]? = some (.cells #[(.pointer none), (.slice none 0 0)] 124) →
      Calls Tryz.prog 76 #[(.pointer (some ⟨b3, 0, none⟩)), (.string s6)] w7 fun e w8 => ∃ x9 : Int, ∃ v10 : Value, e = .returned (.tuple #[(.int .i64 x9), v10]) ∧ ∃ p11 : Option Addr, ∃ (a12 : Option Addr) (n13 c14 : Nat), w8.heap[b3]? = some (.cells #[(.pointer p11), (.slice a12 n13 c14)] 124) ∧
      loopD3 oplog_Text_la1 (dnF Tryz.prog oplog_Text_an (code Tryz.f31) 393 [0, 0, 1, 0, 1, 1, 1, 1, 1]) (kont3 Tryz.prog oplog_Text_an (code Tryz.f31) [1, 1, 1, 1, 1, 0, 1, 0] [] (post3 Tryz.prog Tryz.f31 [] R)) (oplog_Text_v1 a0_l_a a0_l_n a0_l_c (a0_l_n : Int) b3 0) (oplog_Text_m1 b3 p11 a12 n13 c14) w8))
theorem oplog_Text_eq (a0_l_a : Option Addr) (a0_l_n : Nat) (a0_l_c : Nat) (R : Value → World → Prop) (w : World) :
    dnF Tryz.prog oplog_Text_an (code Tryz.f31) 400 [] (post3 Tryz.prog Tryz.f31 [] R) ⟨args0 0 [(.slice a0_l_a a0_l_n a0_l_c)], fun _ => undef⟩ ⟨[], w, [], [], true⟩ = oplog_Text_T a0_l_a a0_l_n a0_l_c R w := by kernel_rfl
theorem oplog_Text_go {a0_l_a : Option Addr} {a0_l_n : Nat} {a0_l_c : Nat} {R : Value → World → Prop} {w : World} (h : oplog_Text_T a0_l_a a0_l_n a0_l_c R w) :
    Calls Tryz.prog 31 #[(.slice a0_l_a a0_l_n a0_l_c)] w fun e w' => ∃ v, e = .returned v ∧ R v w' :=
  calls_none Tryz.wide_mixed (f := 31) (args := [(.slice a0_l_a a0_l_n a0_l_c)]) Tryz.func31 rfl rfl (by kernel_rfl) rfl (Eq.mpr (oplog_Text_eq a0_l_a a0_l_n a0_l_c R w) h)
def oplog_checked_la1 : LA := ⟨[0, 0, 1, 0, 1, 1, 1], [10, 11, 12], [], 1, [0]⟩
def oplog_checked_an : List LA := [oplog_checked_la1]
def oplog_checked_v1 (a_10 : Option Addr) (n_10 : Nat) (c_10 : Nat) (x_11 : Int) (x_12 : Int) : List Value := [(.slice a_10 n_10 c_10), (.int .i64 x_11), (.int .i64 x_12)]
def oplog_checked_m1 (bm0 : Nat) (v_m0_0 : Value) : List TB := [⟨bm0, 147, [v_m0_0], true⟩]
def oplog_checked_L1 (a_10 : Option Addr) (n_10 : Nat) (c_10 : Nat) (x_11 : Int) (bm0 : Nat) (x_12 : Int) (v_m0_0 : Value) (K1 : Kh) (R : Value → World → Prop) (w : World) : Prop :=
  w.heap[bm0]? = some (.cells #[v_m0_0] 147) →
  brB (decide (x_12 < x_11)) (
    ixA a_10 n_10 x_12 16 fun q6 =>
    ldInt .i64 w q6 fun x7 => ldInt .i64 w (Addr.add q6 1) fun x8 => ldInt .i64 w (Addr.add q6 2) fun x9 => ldStr w (Addr.add q6 3) fun s10 => ldInt .i64 w (Addr.add q6 4) fun x11 => ldInt .i64 w (Addr.add q6 5) fun x12 => ldInt .i64 w (Addr.add q6 6) fun x13 => ldInt .i64 w (Addr.add q6 7) fun x14 => ldInt .i64 w (Addr.add q6 8) fun x15 => ldInt .i64 w (Addr.add q6 9) fun x16 => ldSlice w (Addr.add q6 10) fun a17 n18 c19 => ldStr w (Addr.add q6 11) fun s20 => ldStr w (Addr.add q6 12) fun s21 => ldInt .i64 w (Addr.add q6 13) fun x22 => ldBool w (Addr.add q6 14) fun t23 => ldSlice w (Addr.add q6 15) fun a24 n25 c26 =>
    ∀ b27, w.heap.size ≤ b27 →
    ∀ w28, Adv [] [b27] w w28 → w28.heap[bm0]? = some (.cells #[v_m0_0] 147) →
    Calls Tryz.prog 59 #[(.agg #[(.int .i64 x9), (.string s10), (.int .i64 x11), (.int .i64 x12), (.int .i64 x13), (.int .i64 x14), (.int .i64 x15), (.int .i64 x16), (.slice a17 n18 c19), (.string s20), (.string s21), (.int .i64 x22), (.bool t23), (.slice a24 n25 c26)])] w28 fun e w29 => ∃ x30 : Int, e = .returned (.int .i64 x30) ∧ KeepE [bm0] [(b27, 57)] [b27] w28 w29 ∧ ∃ v31 : Value, w29.heap[bm0]? = some (.cells #[v31] 147) ∧
    brB (x30 != 0) (
      R (.int .i64 x30) w29)
    (
      K1 (oplog_checked_v1 a_10 n_10 c_10 x_11 (IntKind.wrap .i64 (x_12 + 1))) (oplog_checked_m1 bm0 v31) w29))
  (
    R (.int .i64 0) w)
theorem oplog_checked_L1_eq (a_10 : Option Addr) (n_10 : Nat) (c_10 : Nat) (x_11 : Int) (bm0 : Nat) (x_12 : Int) (v_m0_0 : Value) (K1 : Kh) (js : Nat → Value) (R : Value → World → Prop) (w : World) :
    headA oplog_checked_la1 ((dnF Tryz.prog oplog_checked_an (code Tryz.f75) 395 [0, 0, 1, 0, 1, 1, 1]) (kthen3 (atA oplog_checked_la1 K1) (kont3 Tryz.prog oplog_checked_an (code Tryz.f75) [1, 1, 1, 0, 1, 0] [] (post3 Tryz.prog Tryz.f75 [] R)))) (oplog_checked_v1 a_10 n_10 c_10 x_11 x_12) js (oplog_checked_m1 bm0 v_m0_0) w = oplog_checked_L1 a_10 n_10 c_10 x_11 bm0 x_12 v_m0_0 K1 R w := by kernel_rfl
def oplog_checked_K1 (a_10 : Option Addr) (n_10 : Nat) (c_10 : Nat) (x_11 : Int) (bm0 : Nat) (I : Nat → Int → Value → World → Prop) (m : Nat) (vals : List Value) (mem : List TB) (w : World) : Prop := ∃ m', m' < m ∧ ∃ x_12 v_m0_0, vals = (oplog_checked_v1 a_10 n_10 c_10 x_11 x_12) ∧ mem = (oplog_checked_m1 bm0 v_m0_0) ∧ I m' x_12 v_m0_0 w
theorem oplog_checked_leaf1 {a_10 : Option Addr} {n_10 : Nat} {c_10 : Nat} {x_11 : Int} {bm0 : Nat} {I : Nat → Int → Value → World → Prop} {m : Nat} {x_12 : Int} {v_m0_0 : Value} {w : World} (m' : Nat) (h1 : m' < m) (h2 : I m' x_12 v_m0_0 w) : oplog_checked_K1 a_10 n_10 c_10 x_11 bm0 I m (oplog_checked_v1 a_10 n_10 c_10 x_11 x_12) (oplog_checked_m1 bm0 v_m0_0) w := ⟨m', h1, _, _, rfl, rfl, h2⟩
theorem oplog_checked_rule1 {a_10 : Option Addr} {n_10 : Nat} {c_10 : Nat} {x_11 : Int} {bm0 : Nat} {x_120 : Int} {v_m0_00 : Value} {R : Value → World → Prop} {w0 : World} (I : Nat → Int → Value → World → Prop) (m0 : Nat) (h0 : I m0 x_120 v_m0_00 w0)
    (hr : ∀ (m : Nat) (x_12 : Int) (v_m0_0 : Value) (w : World), I m x_12 v_m0_0 w → oplog_checked_L1 a_10 n_10 c_10 x_11 bm0 x_12 v_m0_0 (oplog_checked_K1 a_10 n_10 c_10 x_11 bm0 I m) R w) :
    loopD3 oplog_checked_la1 (dnF Tryz.prog oplog_checked_an (code Tryz.f75) 395 [0, 0, 1, 0, 1, 1, 1]) (kont3 Tryz.prog oplog_checked_an (code Tryz.f75) [1, 1, 1, 0, 1, 0] [] (post3 Tryz.prog Tryz.f75 [] R)) (oplog_checked_v1 a_10 n_10 c_10 x_11 x_120) (oplog_checked_m1 bm0 v_m0_00) w0 := by
  refine ⟨fun m vals mem w => ∃ x_12 v_m0_0, vals = (oplog_checked_v1 a_10 n_10 c_10 x_11 x_12) ∧ mem = (oplog_checked_m1 bm0 v_m0_0) ∧ I m x_12 v_m0_0 w, m0, ⟨_, _, rfl, rfl, h0⟩, ?_⟩
  rintro m vals mem w ⟨x_12, v_m0_0, rfl, rfl, hI⟩
  refine ⟨rfl, rfl, fun js => ?_⟩
  have h := hr m x_12 v_m0_0 w hI
  rw [← oplog_checked_L1_eq _ _ _ _ _ _ _ _ js] at h
  exact h
/-- stagecoach/oplog.checked -/
def oplog_checked_T (a0_l_a : Option Addr) (a0_l_n : Nat) (a0_l_c : Nat) (R : Value → World → Prop) (w : World) : Prop :=
  ∀ b1, w.heap.size ≤ b1 →
  ∀ w2, Adv [] [b1] w w2 → w2.heap[b1]? = some (.cells #[(.func (.func 122) #[] #[])] 147) →
  Calls Tryz.prog 123 #[(.slice a0_l_a a0_l_n a0_l_c), (.func (.func 124) #[] #[(.pointer (some ⟨b1, 0, none⟩))])] w2 fun e w3 => ∃ t4 : Bool, e = .returned (.bool t4) ∧ ∃ v5 : Value, w3.heap[b1]? = some (.cells #[v5] 147) ∧
  brB t4 (
    R (.int .i64 1) w3)
  (
    loopD3 oplog_checked_la1 (dnF Tryz.prog oplog_checked_an (code Tryz.f75) 395 [0, 0, 1, 0, 1, 1, 1]) (kont3 Tryz.prog oplog_checked_an (code Tryz.f75) [1, 1, 1, 0, 1, 0] [] (post3 Tryz.prog Tryz.f75 [] R)) (oplog_checked_v1 a0_l_a a0_l_n a0_l_c (a0_l_n : Int) 0) (oplog_checked_m1 b1 v5) w3)
theorem oplog_checked_eq (a0_l_a : Option Addr) (a0_l_n : Nat) (a0_l_c : Nat) (R : Value → World → Prop) (w : World) :
    dnF Tryz.prog oplog_checked_an (code Tryz.f75) 400 [] (post3 Tryz.prog Tryz.f75 [] R) ⟨args0 0 [(.slice a0_l_a a0_l_n a0_l_c)], fun _ => undef⟩ ⟨[], w, [], [], true⟩ = oplog_checked_T a0_l_a a0_l_n a0_l_c R w := by kernel_rfl
theorem oplog_checked_go {a0_l_a : Option Addr} {a0_l_n : Nat} {a0_l_c : Nat} {R : Value → World → Prop} {w : World} (h : oplog_checked_T a0_l_a a0_l_n a0_l_c R w) :
    Calls Tryz.prog 75 #[(.slice a0_l_a a0_l_n a0_l_c)] w fun e w' => ∃ v, e = .returned v ∧ R v w' :=
  calls_none Tryz.wide_mixed (f := 75) (args := [(.slice a0_l_a a0_l_n a0_l_c)]) Tryz.func75 rfl rfl (by kernel_rfl) rfl (Eq.mpr (oplog_checked_eq a0_l_a a0_l_n a0_l_c R w) h)
def oplog_checked_1_an : List LA := []
/-- stagecoach/oplog.checked$1 -/
def oplog_checked_1_T (a0_n : Int) (R : Value → World → Prop) (w : World) : Prop :=
  brB (decide (a0_n < 1)) (
    R (.bool true) w)
  (
    R (.bool (decide (a0_n > 1099511627776))) w)
theorem oplog_checked_1_eq (a0_n : Int) (R : Value → World → Prop) (w : World) :
    dnF Tryz.prog oplog_checked_1_an (code Tryz.f122) 400 [] (post3 Tryz.prog Tryz.f122 [] R) ⟨args0 0 [(.int .i64 a0_n)], fun _ => undef⟩ ⟨[], w, [], [], true⟩ = oplog_checked_1_T a0_n R w := by kernel_rfl
theorem oplog_checked_1_go {a0_n : Int} {R : Value → World → Prop} {w : World} (h : oplog_checked_1_T a0_n R w) :
    Calls Tryz.prog 122 #[(.int .i64 a0_n)] w fun e w' => ∃ v, e = .returned v ∧ R v w' :=
  calls_none Tryz.wide_mixed (f := 122) (args := [(.int .i64 a0_n)]) Tryz.func122 rfl rfl (by kernel_rfl) rfl (Eq.mpr (oplog_checked_1_eq a0_n R w) h)
def slices_ContainsFunc_api_Call_api_Call_an : List LA := []
/-- slices.ContainsFunc[[]stagecoach/api.Call,stagecoach/api.Call] -/
def slices_ContainsFunc_api_Call_api_Call_T (a0_s_a : Option Addr) (a0_s_n : Nat) (a0_s_c : Nat) (cp1 : Addr) (R : Value → World → Prop) (w : World) : Prop :=
  Calls Tryz.prog 151 #[(.slice a0_s_a a0_s_n a0_s_c), (.func (.func 124) #[] #[(.pointer (some cp1))])] w fun e w1 => ∃ x2 : Int, e = .returned (.int .i64 x2) ∧
  R (.bool (decide (x2 ≥ 0))) w1
theorem slices_ContainsFunc_api_Call_api_Call_eq (a0_s_a : Option Addr) (a0_s_n : Nat) (a0_s_c : Nat) (cp1 : Addr) (R : Value → World → Prop) (w : World) :
    dnF Tryz.prog slices_ContainsFunc_api_Call_api_Call_an (code Tryz.f123) 400 [] (post3 Tryz.prog Tryz.f123 [] R) ⟨args0 0 [(.slice a0_s_a a0_s_n a0_s_c), (.func (.func 124) #[] #[(.pointer (some cp1))])], fun _ => undef⟩ ⟨[], w, [], [], true⟩ = slices_ContainsFunc_api_Call_api_Call_T a0_s_a a0_s_n a0_s_c cp1 R w := by kernel_rfl
theorem slices_ContainsFunc_api_Call_api_Call_go {a0_s_a : Option Addr} {a0_s_n : Nat} {a0_s_c : Nat} {cp1 : Addr} {R : Value → World → Prop} {w : World} (h : slices_ContainsFunc_api_Call_api_Call_T a0_s_a a0_s_n a0_s_c cp1 R w) :
    Calls Tryz.prog 123 #[(.slice a0_s_a a0_s_n a0_s_c), (.func (.func 124) #[] #[(.pointer (some cp1))])] w fun e w' => ∃ v, e = .returned v ∧ R v w' :=
  calls_none Tryz.wide_mixed (f := 123) (args := [(.slice a0_s_a a0_s_n a0_s_c), (.func (.func 124) #[] #[(.pointer (some cp1))])]) Tryz.func123 rfl rfl (by kernel_rfl) rfl (Eq.mpr (slices_ContainsFunc_api_Call_api_Call_eq a0_s_a a0_s_n a0_s_c cp1 R w) h)
def slices_IndexFunc_api_Call_api_Call_la1 : LA := ⟨[0, 0, 1, 0, 1], [0, 1, 7, 8], [], 0, []⟩
def slices_IndexFunc_api_Call_api_Call_an : List LA := [slices_IndexFunc_api_Call_api_Call_la1]
def slices_IndexFunc_api_Call_api_Call_v1 (a_0 : Option Addr) (n_0 : Nat) (c_0 : Nat) (p_100 : Addr) (x_7 : Int) (x_8 : Int) : List Value := [(.slice a_0 n_0 c_0), (.func (.func 124) #[] #[(.pointer (some p_100))]), (.int .i64 x_7), (.int .i64 x_8)]
def slices_IndexFunc_api_Call_api_Call_m1 : List TB := []
def slices_IndexFunc_api_Call_api_Call_L1 (a_0 : Option Addr) (n_0 : Nat) (c_0 : Nat) (p_100 : Addr) (x_7 : Int) (x_8 : Int) (K1 : Kh) (R : Value → World → Prop) (w : World) : Prop :=
  brB (decide (x_8 < x_7)) (
    ixA a_0 n_0 x_8 16 fun q1 =>
    ldInt .i64 w q1 fun x2 => ldInt .i64 w (Addr.add q1 1) fun x3 => ldInt .i64 w (Addr.add q1 2) fun x4 => ldStr w (Addr.add q1 3) fun s5 => ldInt .i64 w (Addr.add q1 4) fun x6 => ldInt .i64 w (Addr.add q1 5) fun x7 => ldInt .i64 w (Addr.add q1 6) fun x8 => ldInt .i64 w (Addr.add q1 7) fun x9 => ldInt .i64 w (Addr.add q1 8) fun x10 => ldInt .i64 w (Addr.add q1 9) fun x11 => ldSlice w (Addr.add q1 10) fun a12 n13 c14 => ldStr w (Addr.add q1 11) fun s15 => ldStr w (Addr.add q1 12) fun s16 => ldInt .i64 w (Addr.add q1 13) fun x17 => ldBool w (Addr.add q1 14) fun t18 => ldSlice w (Addr.add q1 15) fun a19 n20 c21 =>
    Calls Tryz.prog 124 #[(.agg #[(.int .i64 x2), (.int .i64 x3), (.int .i64 x4), (.string s5), (.int .i64 x6), (.int .i64 x7), (.int .i64 x8), (.int .i64 x9), (.int .i64 x10), (.int .i64 x11), (.slice a12 n13 c14), (.string s15), (.string s16), (.int .i64 x17), (.bool t18), (.slice a19 n20 c21)]), (.pointer (some p_100))] w fun e w22 => ∃ t23 : Bool, e = .returned (.bool t23) ∧
    brB t23 (
      R (.int .i64 x_8) w22)
    (
      K1 (slices_IndexFunc_api_Call_api_Call_v1 a_0 n_0 c_0 p_100 x_7 (IntKind.wrap .i64 (x_8 + 1))) (slices_IndexFunc_api_Call_api_Call_m1) w22))
  (
    R (.int .i64 (-1)) w)
theorem slices_IndexFunc_api_Call_api_Call_L1_eq (a_0 : Option Addr) (n_0 : Nat) (c_0 : Nat) (p_100 : Addr) (x_7 : Int) (x_8 : Int) (K1 : Kh) (js : Nat → Value) (R : Value → World → Prop) (w : World) :
    headA slices_IndexFunc_api_Call_api_Call_la1 ((dnF Tryz.prog slices_IndexFunc_api_Call_api_Call_an (code Tryz.f151) 397 [0, 0, 1, 0, 1]) (kthen3 (atA slices_IndexFunc_api_Call_api_Call_la1 K1) (kont3 Tryz.prog slices_IndexFunc_api_Call_api_Call_an (code Tryz.f151) [1, 0, 1, 0] [] (post3 Tryz.prog Tryz.f151 [] R)))) (slices_IndexFunc_api_Call_api_Call_v1 a_0 n_0 c_0 p_100 x_7 x_8) js (slices_IndexFunc_api_Call_api_Call_m1) w = slices_IndexFunc_api_Call_api_Call_L1 a_0 n_0 c_0 p_100 x_7 x_8 K1 R w := by kernel_rfl
def slices_IndexFunc_api_Call_api_Call_K1 (a_0 : Option Addr) (n_0 : Nat) (c_0 : Nat) (p_100 : Addr) (x_7 : Int) (I : Nat → Int → World → Prop) (m : Nat) (vals : List Value) (mem : List TB) (w : World) : Prop := ∃ m', m' < m ∧ ∃ x_8, vals = (slices_IndexFunc_api_Call_api_Call_v1 a_0 n_0 c_0 p_100 x_7 x_8) ∧ mem = (slices_IndexFunc_api_Call_api_Call_m1) ∧ I m' x_8 w
theorem slices_IndexFunc_api_Call_api_Call_leaf1 {a_0 : Option Addr} {n_0 : Nat} {c_0 : Nat} {p_100 : Addr} {x_7 : Int} {I : Nat → Int → World → Prop} {m : Nat} {x_8 : Int} {w : World} (m' : Nat) (h1 : m' < m) (h2 : I m' x_8 w) : slices_IndexFunc_api_Call_api_Call_K1 a_0 n_0 c_0 p_100 x_7 I m (slices_IndexFunc_api_Call_api_Call_v1 a_0 n_0 c_0 p_100 x_7 x_8) (slices_IndexFunc_api_Call_api_Call_m1) w := ⟨m', h1, _, rfl, rfl, h2⟩
theorem slices_IndexFunc_api_Call_api_Call_rule1 {a_0 : Option Addr} {n_0 : Nat} {c_0 : Nat} {p_100 : Addr} {x_7 : Int} {x_80 : Int} {R : Value → World → Prop} {w0 : World} (I : Nat → Int → World → Prop) (m0 : Nat) (h0 : I m0 x_80 w0)
    (hr : ∀ (m : Nat) (x_8 : Int) (w : World), I m x_8 w → slices_IndexFunc_api_Call_api_Call_L1 a_0 n_0 c_0 p_100 x_7 x_8 (slices_IndexFunc_api_Call_api_Call_K1 a_0 n_0 c_0 p_100 x_7 I m) R w) :
    loopD3 slices_IndexFunc_api_Call_api_Call_la1 (dnF Tryz.prog slices_IndexFunc_api_Call_api_Call_an (code Tryz.f151) 397 [0, 0, 1, 0, 1]) (kont3 Tryz.prog slices_IndexFunc_api_Call_api_Call_an (code Tryz.f151) [1, 0, 1, 0] [] (post3 Tryz.prog Tryz.f151 [] R)) (slices_IndexFunc_api_Call_api_Call_v1 a_0 n_0 c_0 p_100 x_7 x_80) (slices_IndexFunc_api_Call_api_Call_m1) w0 := by
  refine ⟨fun m vals mem w => ∃ x_8, vals = (slices_IndexFunc_api_Call_api_Call_v1 a_0 n_0 c_0 p_100 x_7 x_8) ∧ mem = (slices_IndexFunc_api_Call_api_Call_m1) ∧ I m x_8 w, m0, ⟨_, rfl, rfl, h0⟩, ?_⟩
  rintro m vals mem w ⟨x_8, rfl, rfl, hI⟩
  refine ⟨rfl, rfl, fun js => ?_⟩
  have h := hr m x_8 w hI
  rw [← slices_IndexFunc_api_Call_api_Call_L1_eq _ _ _ _ _ _ _ js] at h
  exact h
/-- slices.IndexFunc[[]stagecoach/api.Call,stagecoach/api.Call] -/
def slices_IndexFunc_api_Call_api_Call_T (a0_s_a : Option Addr) (a0_s_n : Nat) (a0_s_c : Nat) (cp1 : Addr) (R : Value → World → Prop) (w : World) : Prop :=
  loopD3 slices_IndexFunc_api_Call_api_Call_la1 (dnF Tryz.prog slices_IndexFunc_api_Call_api_Call_an (code Tryz.f151) 397 [0, 0, 1, 0, 1]) (kont3 Tryz.prog slices_IndexFunc_api_Call_api_Call_an (code Tryz.f151) [1, 0, 1, 0] [] (post3 Tryz.prog Tryz.f151 [] R)) (slices_IndexFunc_api_Call_api_Call_v1 a0_s_a a0_s_n a0_s_c cp1 (a0_s_n : Int) 0) (slices_IndexFunc_api_Call_api_Call_m1) w
theorem slices_IndexFunc_api_Call_api_Call_eq (a0_s_a : Option Addr) (a0_s_n : Nat) (a0_s_c : Nat) (cp1 : Addr) (R : Value → World → Prop) (w : World) :
    dnF Tryz.prog slices_IndexFunc_api_Call_api_Call_an (code Tryz.f151) 400 [] (post3 Tryz.prog Tryz.f151 [] R) ⟨args0 0 [(.slice a0_s_a a0_s_n a0_s_c), (.func (.func 124) #[] #[(.pointer (some cp1))])], fun _ => undef⟩ ⟨[], w, [], [], true⟩ = slices_IndexFunc_api_Call_api_Call_T a0_s_a a0_s_n a0_s_c cp1 R w := by kernel_rfl
theorem slices_IndexFunc_api_Call_api_Call_go {a0_s_a : Option Addr} {a0_s_n : Nat} {a0_s_c : Nat} {cp1 : Addr} {R : Value → World → Prop} {w : World} (h : slices_IndexFunc_api_Call_api_Call_T a0_s_a a0_s_n a0_s_c cp1 R w) :
    Calls Tryz.prog 151 #[(.slice a0_s_a a0_s_n a0_s_c), (.func (.func 124) #[] #[(.pointer (some cp1))])] w fun e w' => ∃ v, e = .returned v ∧ R v w' :=
  calls_none Tryz.wide_mixed (f := 151) (args := [(.slice a0_s_a a0_s_n a0_s_c), (.func (.func 124) #[] #[(.pointer (some cp1))])]) Tryz.func151 rfl rfl (by kernel_rfl) rfl (Eq.mpr (slices_IndexFunc_api_Call_api_Call_eq a0_s_a a0_s_n a0_s_c cp1 R w) h)
def ref16_Same_la1 : LA := ⟨[0, 0, 1, 0, 1, 1], [0, 1, 5], [], 0, []⟩
def ref16_Same_an : List LA := [ref16_Same_la1]
def ref16_Same_v1 (a_0 : Option Addr) (n_0 : Nat) (c_0 : Nat) (a_1 : Option Addr) (n_1 : Nat) (c_1 : Nat) (x_5 : Int) : List Value := [(.slice a_0 n_0 c_0), (.slice a_1 n_1 c_1), (.int .i64 x_5)]
def ref16_Same_m1 : List TB := []
def ref16_Same_L1 (a_0 : Option Addr) (n_0 : Nat) (c_0 : Nat) (a_1 : Option Addr) (n_1 : Nat) (c_1 : Nat) (x_5 : Int) (K1 : Kh) (R : Value → World → Prop) (w : World) : Prop :=
  brB (decide (x_5 < (n_0 : Int))) (
    ixA a_0 n_0 x_5 16 fun q1 =>
    ∀ w2, Adv [] [] w w2 →
    ldInt .i64 w2 q1 fun x3 =>
    ixA a_1 n_1 x_5 16 fun q4 =>
    ldInt .i64 w2 q4 fun x5 =>
    brB (x3 != x5) (
      R (.bool false) w2)
    (
      ixA a_0 n_0 x_5 16 fun q6 =>
      ldInt .i64 w2 (Addr.add q6 1) fun x7 =>
      ixA a_1 n_1 x_5 16 fun q8 =>
      ldInt .i64 w2 (Addr.add q8 1) fun x9 =>
      brB (x7 != x9) (
        R (.bool false) w2)
      (
        ixA a_0 n_0 x_5 16 fun q10 =>
        ldInt .i64 w2 (Addr.add q10 2) fun x11 => ldStr w2 (Addr.add (Addr.add q10 2) 1) fun s12 => ldInt .i64 w2 (Addr.add (Addr.add q10 2) 2) fun x13 => ldInt .i64 w2 (Addr.add (Addr.add q10 2) 3) fun x14 => ldInt .i64 w2 (Addr.add (Addr.add q10 2) 4) fun x15 => ldInt .i64 w2 (Addr.add (Addr.add q10 2) 5) fun x16 => ldInt .i64 w2 (Addr.add (Addr.add q10 2) 6) fun x17 => ldInt .i64 w2 (Addr.add (Addr.add q10 2) 7) fun x18 => ldSlice w2 (Addr.add (Addr.add q10 2) 8) fun a19 n20 c21 => ldStr w2 (Addr.add (Addr.add q10 2) 9) fun s22 => ldStr w2 (Addr.add (Addr.add q10 2) 10) fun s23 => ldInt .i64 w2 (Addr.add (Addr.add q10 2) 11) fun x24 => ldBool w2 (Addr.add (Addr.add q10 2) 12) fun t25 => ldSlice w2 (Addr.add (Addr.add q10 2) 13) fun a26 n27 c28 =>
        ixA a_1 n_1 x_5 16 fun q29 =>
        ldInt .i64 w2 (Addr.add q29 2) fun x30 => ldStr w2 (Addr.add (Addr.add q29 2) 1) fun s31 => ldInt .i64 w2 (Addr.add (Addr.add q29 2) 2) fun x32 => ldInt .i64 w2 (Addr.add (Addr.add q29 2) 3) fun x33 => ldInt .i64 w2 (Addr.add (Addr.add q29 2) 4) fun x34 => ldInt .i64 w2 (Addr.add (Addr.add q29 2) 5) fun x35 => ldInt .i64 w2 (Addr.add (Addr.add q29 2) 6) fun x36 => ldInt .i64 w2 (Addr.add (Addr.add q29 2) 7) fun x37 => ldSlice w2 (Addr.add (Addr.add q29 2) 8) fun a38 n39 c40 => ldStr w2 (Addr.add (Addr.add q29 2) 9) fun s41 => ldStr w2 (Addr.add (Addr.add q29 2) 10) fun s42 => ldInt .i64 w2 (Addr.add (Addr.add q29 2) 11) fun x43 => ldBool w2 (Addr.add (Addr.add q29 2) 12) fun t44 => ldSlice w2 (Addr.add (Addr.add q29 2) 13) fun a45 n46 c47 =>
        Calls Tryz.prog 74 #[(.agg #[(.int .i64 x11), (.string s12), (.int .i64 x13), (.int .i64 x14), (.int .i64 x15), (.int .i64 x16), (.int .i64 x17), (.int .i64 x18), (.slice a19 n20 c21), (.string s22), (.string s23), (.int .i64 x24), (.bool t25), (.slice a26 n27 c28)]), (.agg #[(.int .i64 x30), (.string s31), (.int .i64 x32), (.int .i64 x33), (.int .i64 x34), (.int .i64 x35), (.int .i64 x36), (.int .i64 x37), (.slice a38 n39 c40), (.string s41), (.string s42), (.int .i64 x43), (.bool t44), (.slice a45 n46 c47)])] w2 fun e w48 => ∃ t49 : Bool, e = .returned (.bool t49) ∧
        brB (!t49) (
          R (.bool false) w48)
        (
          K1 (ref16_Same_v1 a_0 n_0 c_0 a_1 n_1 c_1 (IntKind.wrap .i64 (x_5 + 1))) (ref16_Same_m1) w48))))
  (
    R (.bool true) w)
theorem ref16_Same_L1_eq (a_0 : Option Addr) (n_0 : Nat) (c_0 : Nat) (a_1 : Option Addr) (n_1 : Nat) (c_1 : Nat) (x_5 : Int) (K1 : Kh) (js : Nat → Value) (R : Value → World → Prop) (w : World) :
    headA ref16_Same_la1 ((dnF Tryz.prog ref16_Same_an (code Tryz.f28) 396 [0, 0, 1, 0, 1, 1]) (kthen3 (atA ref16_Same_la1 K1) (kont3 Tryz.prog ref16_Same_an (code Tryz.f28) [1, 1, 0, 1, 0] [] (post3 Tryz.prog Tryz.f28 [] R)))) (ref16_Same_v1 a_0 n_0 c_0 a_1 n_1 c_1 x_5) js (ref16_Same_m1) w = ref16_Same_L1 a_0 n_0 c_0 a_1 n_1 c_1 x_5 K1 R w := by kernel_rfl
def ref16_Same_K1 (a_0 : Option Addr) (n_0 : Nat) (c_0 : Nat) (a_1 : Option Addr) (n_1 : Nat) (c_1 : Nat) (I : Nat → Int → World → Prop) (m : Nat) (vals : List Value) (mem : List TB) (w : World) : Prop := ∃ m', m' < m ∧ ∃ x_5, vals = (ref16_Same_v1 a_0 n_0 c_0 a_1 n_1 c_1 x_5) ∧ mem = (ref16_Same_m1) ∧ I m' x_5 w
theorem ref16_Same_leaf1 {a_0 : Option Addr} {n_0 : Nat} {c_0 : Nat} {a_1 : Option Addr} {n_1 : Nat} {c_1 : Nat} {I : Nat → Int → World → Prop} {m : Nat} {x_5 : Int} {w : World} (m' : Nat) (h1 : m' < m) (h2 : I m' x_5 w) : ref16_Same_K1 a_0 n_0 c_0 a_1 n_1 c_1 I m (ref16_Same_v1 a_0 n_0 c_0 a_1 n_1 c_1 x_5) (ref16_Same_m1) w := ⟨m', h1, _, rfl, rfl, h2⟩
theorem ref16_Same_rule1 {a_0 : Option Addr} {n_0 : Nat} {c_0 : Nat} {a_1 : Option Addr} {n_1 : Nat} {c_1 : Nat} {x_50 : Int} {R : Value → World → Prop} {w0 : World} (I : Nat → Int → World → Prop) (m0 : Nat) (h0 : I m0 x_50 w0)
    (hr : ∀ (m : Nat) (x_5 : Int) (w : World), I m x_5 w → ref16_Same_L1 a_0 n_0 c_0 a_1 n_1 c_1 x_5 (ref16_Same_K1 a_0 n_0 c_0 a_1 n_1 c_1 I m) R w) :
    loopD3 ref16_Same_la1 (dnF Tryz.prog ref16_Same_an (code Tryz.f28) 396 [0, 0, 1, 0, 1, 1]) (kont3 Tryz.prog ref16_Same_an (code Tryz.f28) [1, 1, 0, 1, 0] [] (post3 Tryz.prog Tryz.f28 [] R)) (ref16_Same_v1 a_0 n_0 c_0 a_1 n_1 c_1 x_50) (ref16_Same_m1) w0 := by
  refine ⟨fun m vals mem w => ∃ x_5, vals = (ref16_Same_v1 a_0 n_0 c_0 a_1 n_1 c_1 x_5) ∧ mem = (ref16_Same_m1) ∧ I m x_5 w, m0, ⟨_, rfl, rfl, h0⟩, ?_⟩
  rintro m vals mem w ⟨x_5, rfl, rfl, hI⟩
  refine ⟨rfl, rfl, fun js => ?_⟩
  have h := hr m x_5 w hI
  rw [← ref16_Same_L1_eq _ _ _ _ _ _ _ _ js] at h
  exact h
/-- stagecoach/stagecoachref16.Same -/
def ref16_Same_T (a0_a_a : Option Addr) (a0_a_n : Nat) (a0_a_c : Nat) (a1_b_a : Option Addr) (a1_b_n : Nat) (a1_b_c : Nat) (R : Value → World → Prop) (w : World) : Prop :=
  brB ((a0_a_n : Int) != (a1_b_n : Int)) (
    R (.bool false) w)
  (
    loopD3 ref16_Same_la1 (dnF Tryz.prog ref16_Same_an (code Tryz.f28) 396 [0, 0, 1, 0, 1, 1]) (kont3 Tryz.prog ref16_Same_an (code Tryz.f28) [1, 1, 0, 1, 0] [] (post3 Tryz.prog Tryz.f28 [] R)) (ref16_Same_v1 a0_a_a a0_a_n a0_a_c a1_b_a a1_b_n a1_b_c 0) (ref16_Same_m1) w)
theorem ref16_Same_eq (a0_a_a : Option Addr) (a0_a_n : Nat) (a0_a_c : Nat) (a1_b_a : Option Addr) (a1_b_n : Nat) (a1_b_c : Nat) (R : Value → World → Prop) (w : World) :
    dnF Tryz.prog ref16_Same_an (code Tryz.f28) 400 [] (post3 Tryz.prog Tryz.f28 [] R) ⟨args0 0 [(.slice a0_a_a a0_a_n a0_a_c), (.slice a1_b_a a1_b_n a1_b_c)], fun _ => undef⟩ ⟨[], w, [], [], true⟩ = ref16_Same_T a0_a_a a0_a_n a0_a_c a1_b_a a1_b_n a1_b_c R w := by kernel_rfl
theorem ref16_Same_go {a0_a_a : Option Addr} {a0_a_n : Nat} {a0_a_c : Nat} {a1_b_a : Option Addr} {a1_b_n : Nat} {a1_b_c : Nat} {R : Value → World → Prop} {w : World} (h : ref16_Same_T a0_a_a a0_a_n a0_a_c a1_b_a a1_b_n a1_b_c R w) :
    Calls Tryz.prog 28 #[(.slice a0_a_a a0_a_n a0_a_c), (.slice a1_b_a a1_b_n a1_b_c)] w fun e w' => ∃ v, e = .returned v ∧ R v w' :=
  calls_none Tryz.wide_mixed (f := 28) (args := [(.slice a0_a_a a0_a_n a0_a_c), (.slice a1_b_a a1_b_n a1_b_c)]) Tryz.func28 rfl rfl (by kernel_rfl) rfl (Eq.mpr (ref16_Same_eq a0_a_a a0_a_n a0_a_c a1_b_a a1_b_n a1_b_c R w) h)
end Go.Proofs.YtohgihgddknmmaaGreat

/- Calls and messages: of one's own. -/
namespace Go.Proofs.YtohgihgddknmmaaGreat
open Go Go.RowKit
set_option linter.unusedVariables false
set_option linter.unusedSimpArgs false

/-- A call as it is held: where its lists lie. -/
structure CV where
  x : PCall
  rs : Sl
  ts : Sl
def CV.cs (q : CV) : List Value := [.int .i64 q.x.c, .int .i64 q.x.n, .int .i64 q.x.op.kind, .string q.x.op.part.t, .int .i64 q.x.op.part.n, .int .i64 q.x.op.n, .int .i64 q.x.op.off, .int .i64 q.x.op.b.prod, .int .i64 q.x.op.b.epoch, .int .i64 q.x.op.b.seq, .slice q.rs.a q.rs.n q.rs.c, .string q.x.op.g, .string q.x.op.m, .int .i64 q.x.op.gen, .bool q.x.op.robin, .slice q.ts.a q.ts.n q.ts.c]
def CV.v (q : CV) : Value := .agg #[.int .i64 q.x.c, .int .i64 q.x.n, .int .i64 q.x.op.kind, .string q.x.op.part.t, .int .i64 q.x.op.part.n, .int .i64 q.x.op.n, .int .i64 q.x.op.off, .int .i64 q.x.op.b.prod, .int .i64 q.x.op.b.epoch, .int .i64 q.x.op.b.seq, .slice q.rs.a q.rs.n q.rs.c, .string q.x.op.g, .string q.x.op.m, .int .i64 q.x.op.gen, .bool q.x.op.robin, .slice q.ts.a q.ts.n q.ts.c]
theorem CV.cs_len (q : CV) : q.cs.length = 16 := rfl
theorem CV.cs_one (q : CV) : ∀ u ∈ q.cs, u.oneCell' = true := by simp [CV.cs, Value.oneCell']
def CallsAt (w : World) (s : Sl) (xs : List PCall) : Prop := ∃ ll : List CV, SlAt w 16 CV.cs s.a s.n ll ∧ (∀ q ∈ ll, OpAt w q.x.op q.rs q.ts) ∧ ll.map (·.x) = xs
def CallsOwn (w : World) (base : Nat) (s : Sl) (xs : List PCall) : Prop := ∃ ll : List CV, Row w base 57 16 CV.cs s.a s.n s.c ll ∧ (∀ q ∈ ll, OpOwn w base q.x.op q.rs q.ts) ∧ ll.map (·.x) = xs
theorem CallsOwn.at {w : World} {base : Nat} {s : Sl} {xs : List PCall} (h : CallsOwn w base s xs) : CallsAt w s xs := by
  obtain ⟨ll, h1, h2, h3⟩ := h; exact ⟨ll, h1.sl CV.cs_len, fun q hq => (h2 q hq).at, h3⟩
theorem CallsAt.keep0 {w w' : World} {s : Sl} {xs : List PCall} (h : CallsAt w s xs) (M : Mod [] w w') : CallsAt w' s xs := by
  obtain ⟨ll, h1, h2, h3⟩ := h; exact ⟨ll, h1.keep0 M, fun q hq => (h2 q hq).keep0 M, h3⟩
theorem CallsOwn.keep0 {w w' : World} {base : Nat} {s : Sl} {xs : List PCall} (h : CallsOwn w base s xs) (M : Mod [] w w') : CallsOwn w' base s xs := by
  obtain ⟨ll, h1, h2, h3⟩ := h; exact ⟨ll, h1.keep0 M, fun q hq => (h2 q hq).keep0 M, h3⟩
theorem CallsOwn.rebase {w : World} {base base' : Nat} {s : Sl} {xs : List PCall} (h : CallsOwn w base s xs) (hb : base' ≤ base) : CallsOwn w base' s xs := by
  obtain ⟨ll, h1, h2, h3⟩ := h; exact ⟨ll, h1.rebase hb, fun q hq => (h2 q hq).rebase hb, h3⟩
theorem OpOwn.keep {S : List Nat} {w w' : World} {base : Nat} {o : POp} {rs ts : Sl} (h : OpOwn w base o rs ts) (M : Mod S w w') (hS : ∀ k ∈ S, ∀ cs T, w.heap[k]? = some (.cells cs T) → T ≠ 149 ∧ T ≠ 9) : OpOwn w' base o rs ts :=
  ⟨h.recs.keep M fun ad ha hk => by obtain ⟨_, cur, hc⟩ := h.recs.block ad ha; exact (hS _ hk _ _ hc).1 rfl,
   h.topics.keep M fun ad ha hk => by obtain ⟨_, cur, hc⟩ := h.topics.block ad ha; exact (hS _ hk _ _ hc).2 rfl, h.lr, h.lt⟩
/-- A new variable was written: older rows stand. -/
theorem OpOwn.keepB {S : List Nat} {w w' : World} {base : Nat} {o : POp} {rs ts : Sl} (h : OpOwn w base o rs ts) (M : Mod S w w') (hS : ∀ k ∈ S, k < base) : OpOwn w' base o rs ts :=
  ⟨h.recs.keep M fun ad ha hk => by have := h.recs.base ad ha; have := hS _ hk; omega, h.topics.keep M fun ad ha hk => by have := h.topics.base ad ha; have := hS _ hk; omega, h.lr, h.lt⟩
theorem CallsOwn.keepB {S : List Nat} {w w' : World} {base : Nat} {s : Sl} {xs : List PCall} (h : CallsOwn w base s xs) (M : Mod S w w') (hS : ∀ k ∈ S, k < base) : CallsOwn w' base s xs := by
  obtain ⟨ll, h1, h2, h3⟩ := h
  exact ⟨ll, h1.keep M fun ad ha hk => by have := h1.base ad ha; have := hS _ hk; omega, fun q hq => (h2 q hq).keepB M hS, h3⟩
theorem infoR : (Tryz.prog.info? 149).map (fun i => (i.zero, i.size, i.bytes)) = some (some (.agg #[.bool false, .string ByteArray.empty, .bool false, .string ByteArray.empty]), 4, 48) := by kernel_rfl
theorem infoS : (Tryz.prog.info? 9).map (fun i => (i.zero, i.size, i.bytes)) = some (some (.string ByteArray.empty), 1, 16) := by kernel_rfl
theorem infoCall : (Tryz.prog.info? 57).map (fun i => (i.zero, i.size, i.bytes)) = some (some (.agg #[.int .i64 0, .int .i64 0, .int .i64 0, .string ByteArray.empty, .int .i64 0, .int .i64 0, .int .i64 0, .int .i64 0, .int .i64 0, .int .i64 0, .slice none 0 0, .string ByteArray.empty, .string ByteArray.empty, .int .i64 0, .bool false, .slice none 0 0]), 16, 184) := by kernel_rfl
theorem CloneS_ok {w : World} {s : Sl} {l : List ByteArray} (h : SlAt w 1 encS s.a s.n l) (hl : l.length ≤ 1000000) :
    Calls Tryz.prog 115 #[.slice s.a s.n s.c] w fun e w' => ∃ v, e = .returned v ∧ ∃ s' : Sl, v = .slice s'.a s'.n s'.c ∧ Row w' w.heap.size 9 1 encS s'.a s'.n s'.c l ∧ Mod [] w w' := by
  refine slices_Clone_string_string_go ?_
  refine brB_of (fun h0 => ?_) fun _ => ?_
  · have hl0 : l = [] := by
      cases l with
      | nil => rfl
      | cons x r => obtain ⟨ad, ha, _⟩ := h.2 0 x rfl; rw [ha] at h0; cases h0
    subst hl0
    exact ⟨⟨none, 0, 0⟩, rfl, Row.nil .., Mod.refl _⟩
  · refine al_of fun b w1 c1 M1 f1 => ?_
    obtain ⟨i0, hi, hz0, hz1, hz2⟩ := info_parts infoS
    refine appendAll_of (Row.fresh c1 f1) Tryz.underlying36 hi hz0 hz1 hz2 rfl (by decide) (h.keep0 M1) encS_len encS_one (by simp; omega) (by simp; unfold maxLen; omega) M1.size fun a' n' c' w2 hR hM => ?_
    exact ⟨⟨a', n', c'⟩, rfl, by simpa using hR, M1.go0 (hM [b] (by simp)) (by simpa using f1)⟩

theorem CloneR_ok {w : World} {s : Sl} {l : List PRec} (h : SlAt w 4 encR s.a s.n l) (hl : l.length ≤ 1000000) :
    Calls Tryz.prog 116 #[.slice s.a s.n s.c] w fun e w' => ∃ v, e = .returned v ∧ ∃ s' : Sl, v = .slice s'.a s'.n s'.c ∧ Row w' w.heap.size 149 4 encR s'.a s'.n s'.c l ∧ Mod [] w w' := by
  refine slices_Clone_api_Record_api_Record_go ?_
  refine brB_of (fun h0 => ?_) fun _ => ?_
  · have hl0 : l = [] := by
      cases l with
      | nil => rfl
      | cons x r => obtain ⟨ad, ha, _⟩ := h.2 0 x rfl; rw [ha] at h0; cases h0
    subst hl0
    exact ⟨⟨none, 0, 0⟩, rfl, Row.nil .., Mod.refl _⟩
  · refine al_of fun b w1 c1 M1 f1 => ?_
    obtain ⟨i0, hi, hz0, hz1, hz2⟩ := info_parts infoR
    refine appendAll_of (Row.fresh c1 f1) Tryz.underlying33 hi hz0 hz1 hz2 rfl (by decide) (h.keep0 M1) encR_len encR_one (by simp; omega) (by simp; unfold maxLen; omega) M1.size fun a' n' c' w2 hR hM => ?_
    exact ⟨⟨a', n', c'⟩, rfl, by simpa using hR, M1.go0 (hM [b] (by simp)) (by simpa using f1)⟩

theorem rowS_block {α : Type} {w : World} {base T sz : Nat} {enc : α → List Value} {a : Option Addr} {n c : Nat} {l : List α} (h : Row w base T sz enc a n c l) : ∀ k ∈ rowS a, base ≤ k ∧ k < w.heap.size ∧ ∃ cur, w.heap[k]? = some (.cells cur T) := by
  cases a with
  | none => simp [rowS]
  | some ad => intro k hk; simp [rowS] at hk; subst hk; obtain ⟨h1, cur, h2⟩ := h.block ad rfl; exact ⟨h1, lt_of_block h2, cur, h2⟩
end Go.Proofs.YtohgihgddknmmaaGreat

/- A reply's bytes. -/
namespace Go.Proofs.YtohgihgddknmmaaGreat
open Go Go.RowKit
set_option linter.unusedVariables false
set_option linter.unusedSimpArgs false

theorem Wr.keep {B b v : Nat} {w w' : World} {cs : Array Value} {T : TypeId} (W : Wr B b w w') (h : w.heap[v]? = some (.cells cs T)) (hv : v ≠ b) (hT : T ≠ 5) : w'.heap[v]? = some (.cells cs T) :=
  W.oth v _ h (by simpa using hv) fun c fz e => hT (by cases e; rfl)
theorem Wr.keepE {B b : Nat} {w w' : World} {es : List Nat} {ts : List (Nat × TypeId)} {bs : List Nat} (W : Wr B b w w') (h : ∀ k ∈ bs, k ∉ es → k ≠ b ∧ (k < B ∨ ∃ T, (k, T) ∈ ts ∧ T ≠ 5)) : KeepE es ts bs w w' := fun k hk hl he hty => by
  obtain ⟨hne, h1 | ⟨T, hT, h2⟩⟩ := h k hk he
  · exact W.bel.block k h1
  · obtain ⟨cs, hc⟩ := hty _ hT rfl
    rw [hc]; exact W.keep hc hne h2
theorem Wr.mod {B b : Nat} {w0 w w' : World} (W : Wr B b w w') (M : Mod [] w0 w) (hB : w0.heap.size ≤ B) : Mod [] w0 w' :=
  ⟨W.bel.os.trans M.os, W.bel.tape.trans M.tape, W.bel.output.trans M.output, Nat.le_trans M.size W.bel.size, fun k hk _ => (W.bel.block k (by omega)).trans (M.block k hk (by simp))⟩
def partB (x : PPart) : List UInt8 := putT x.t ++ vPutL x.n.toNat
theorem take_flat {α β : Type} {f : α → List β} {l : List α} {k : Nat} {x : α} (hx : l[k]? = some x) : (l.take (k + 1)).flatMap f = (l.take k).flatMap f ++ f x := by
  rw [List.take_add_one, hx]; simp
theorem flat_le {α β : Type} {f : α → List β} {c : Nat} : ∀ {l : List α}, (∀ x ∈ l, (f x).length ≤ c) → (l.flatMap f).length ≤ l.length * c
  | [], _ => by simp
  | x :: r, h => by
    have h1 := h x (by simp)
    have h2 := flat_le (l := r) fun y hy => h y (by simp [hy])
    rw [List.flatMap_cons, List.length_append, List.length_cons, Nat.succ_mul]; omega
def encN (x : Nat) : List Value := [.int .i64 (x : Nat)]
end Go.Proofs.YtohgihgddknmmaaGreat

/- A message's check, where it has no calls. -/
namespace Go.Proofs.YtohgihgddknmmaaGreat
open Go Go.RowKit
set_option linter.unusedVariables false
set_option linter.unusedSimpArgs false

/-! ### a builder of its own -/
theorem BTs : BT 124 := ⟨by kernel_rfl, by decide⟩
abbrev Sb (B b : Nat) (l : List UInt8) (w : World) : Prop := Lib.IsBuilderF 124 5 B b (Lib.byteCells l) w
theorem Sb.cells {B b : Nat} {l : List UInt8} {w : World} (h : Sb B b l w) : ∃ (p a : Option Addr) (n c : Nat), w.heap[b]? = some (.cells #[.pointer p, .slice a n c] 124) := by
  have one : ∀ {p bs}, Lib.BuilderAtF 124 5 B b (.pointer p) bs w → ∃ (p a : Option Addr) (n c : Nat), w.heap[b]? = some (.cells #[.pointer p, .slice a n c] 124) := by
    rintro p bs ⟨hB, v, hb, ⟨hl, ho⟩, hne⟩
    rcases ho with ⟨rfl, _⟩ | ⟨g, cap, cur, fz, rfl, hg, hh, r⟩
    · exact ⟨_, _, _, _, hb⟩
    · exact ⟨_, _, _, _, hb⟩
  exact h.elim one one
theorem Sb.keep0 {B b : Nat} {l : List UInt8} {w w' : World} (h : Sb B b l w) (M : Mod [] w w') : Sb B b l w' := by
  have one : ∀ {p bs}, Lib.BuilderAtF 124 5 B b p bs w → Lib.BuilderAtF 124 5 B b p bs w' := by
    rintro p bs ⟨hB, v, hb, ⟨hl, ho⟩, hne⟩
    refine ⟨hB, v, M.keep0 hb, ⟨hl, ?_⟩, hne⟩
    rcases ho with ho | ⟨g, cap, cur, fz, hv, hg, hh, r⟩
    · exact .inl ho
    · exact .inr ⟨g, cap, cur, fz, hv, hg, M.keep0 hh, r⟩
  exact h.elim (fun x => .inl (one x)) (fun x => .inr (one x))
theorem Sb.fresh {B b : Nat} {w : World} (hB : B ≤ b) (h : w.heap[b]? = some (.cells #[.pointer none, .slice none 0 0] 124)) : Sb B b [] w :=
  .inl ⟨hB, .slice none 0 0, h, ⟨by simp [Lib.byteCells], .inl ⟨rfl, by simp [Lib.byteCells]⟩⟩, by simp [Value.ownBlock]⟩
theorem SW_ok {B b : Nat} {l l2 : List UInt8} {w : World} (h : Sb B b l w) (hlen : l.length + l2.length ≤ 100000000000) (hB : B ≤ w.heap.size) :
    Calls Tryz.prog 76 #[.pointer (some ⟨b, 0, none⟩), .string (bs l2)] w fun e w' => e = .returned (.tuple #[.int .i64 ((bs l2).size : Nat), .nilIface]) ∧ (Sb B b (l ++ l2) w' ∧ Wr B b w w') := by
  refine (WriteString_ok BTs B b (Lib.byteCells l) (bs l2) w h (by rw [Lib.byteCells_length, bs_size]; omega) hB).mono ?_
  rintro e w' ⟨rfl, h1, h2, h3⟩
  refine ⟨rfl, .inr ?_, ⟨h2, h3⟩⟩
  have e : Lib.byteCells (l ++ l2) = Lib.byteCells l ++ Lib.strCells (bs l2) := by simp [Lib.byteCells, Lib.strCells, bs]
  rw [e]; exact h1
theorem SS_ok {B b : Nat} {l : List UInt8} {w : World} (h : Sb B b l w) (h0 : l ≠ []) :
    Calls Tryz.prog 81 #[.pointer (some ⟨b, 0, none⟩)] w fun e w' => e = .returned (.string (bs l)) ∧ (Sb B b l w' ∧ Wr B b w w') := by
  refine (String_ok BTs B b l w h h0).mono ?_
  rintro e w' ⟨rfl, h1, h2, h3⟩
  exact ⟨rfl, h1, h2, h3⟩

end Go.Proofs.YtohgihgddknmmaaGreat

/- The conditions of Go functions' bodies, printed by gen2.py. -/
namespace Go.Proofs.YtohgihgddknmmaaGreat
open Go Go.RowKit
set_option linter.unusedVariables false
set_option maxRecDepth 100000

def record_Batch_la1 : LA := ⟨[0, 0, 1, 0, 1, 1, 1], [1, 5, 24, 25, 26], [(1, 0, 0), (5, 1, 0)], 2, [1]⟩
def record_Batch_la2 : LA := ⟨[0, 0, 1, 0, 1, 1, 1, 1], [5, 36, 37, 38], [(5, 1, 0)], 2, [1]⟩
def record_Batch_an : List LA := [record_Batch_la1, record_Batch_la2]
def record_Batch_v1 (a_24 : Option Addr) (n_24 : Nat) (c_24 : Nat) (bm0 : Nat) (bm1 : Nat) (x_26 : Int) : List Value := [(.pointer (some ⟨bm0, 0, none⟩)), (.pointer (some ⟨bm1, 0, none⟩)), (.slice a_24 n_24 c_24), (.int .i64 (4 : Int)), (.int .i64 x_26)]
def record_Batch_m1 (bm0 : Nat) (x_m0_0 : Int) (x_m0_1 : Int) (x_m0_2 : Int) (a_m0_3 : Option Addr) (n_m0_3 : Nat) (c_m0_3 : Nat) (bm1 : Nat) (p_m1_0 : Option Addr) (a_m1_1 : Option Addr) (n_m1_1 : Nat) (c_m1_1 : Nat) : List TB := [⟨bm0, 35, [(.int .i64 x_m0_0), (.int .i64 x_m0_1), (.int .i64 x_m0_2), (.slice a_m0_3 n_m0_3 c_m0_3)], false⟩, ⟨bm1, 124, [(.pointer p_m1_0), (.slice a_m1_1 n_m1_1 c_m1_1)], true⟩]
def record_Batch_v2 (a_36 : Option Addr) (n_36 : Nat) (c_36 : Nat) (x_37 : Int) (bm1 : Nat) (x_38 : Int) : List Value := [(.pointer (some ⟨bm1, 0, none⟩)), (.slice a_36 n_36 c_36), (.int .i64 x_37), (.int .i64 x_38)]
def record_Batch_m2 (bm0 : Nat) (x_m0_0 : Int) (x_m0_1 : Int) (x_m0_2 : Int) (a_m0_3 : Option Addr) (n_m0_3 : Nat) (c_m0_3 : Nat) (bm1 : Nat) (p_m1_0 : Option Addr) (a_m1_1 : Option Addr) (n_m1_1 : Nat) (c_m1_1 : Nat) : List TB := [⟨bm0, 35, [(.int .i64 x_m0_0), (.int .i64 x_m0_1), (.int .i64 x_m0_2), (.slice a_m0_3 n_m0_3 c_m0_3)], false⟩, ⟨bm1, 124, [(.pointer p_m1_0), (.slice a_m1_1 n_m1_1 c_m1_1)], true⟩]
def record_Batch_L1 (a_24 : Option Addr) (n_24 : Nat) (c_24 : Nat) (bm0 : Nat) (x_m0_0 : Int) (x_m0_1 : Int) (x_m0_2 : Int) (a_m0_3 : Option Addr) (n_m0_3 : Nat) (c_m0_3 : Nat) (bm1 : Nat) (x_26 : Int) (p_m1_0 : Option Addr) (a_m1_1 : Option Addr) (n_m1_1 : Nat) (c_m1_1 : Nat) (K1 : Kh) (R : Value → World → Prop) (w : World) : Prop :=
  w.heap[bm1]? = some (.cells #[(.pointer p_m1_0), (.slice a_m1_1 n_m1_1 c_m1_1)] 124) →
  brB (decide (x_26 < (4 : Int))) (
    ixA a_24 n_24 x_26 1 fun q9 =>
    ldInt .i64 w q9 fun x10 =>
    Calls Tryz.prog 77 #[(.int .u64 (IntKind.wrap .u64 x10))] w fun e w11 => ∃ s12 : ByteArray, e = .returned (.string s12) ∧ KeepE [bm1] [(bm0, 35)] [bm0] w w11 ∧ ∃ p13 : Option Addr, ∃ (a14 : Option Addr) (n15 c16 : Nat), w11.heap[bm1]? = some (.cells #[(.pointer p13), (.slice a14 n15 c16)] 124) ∧
    Calls Tryz.prog 76 #[(.pointer (some ⟨bm1, 0, none⟩)), (.string s12)] w11 fun e w17 => ∃ x18 : Int, ∃ v19 : Value, e = .returned (.tuple #[(.int .i64 x18), v19]) ∧ KeepE [bm1] [(bm0, 35)] [bm0] w11 w17 ∧ ∃ p20 : Option Addr, ∃ (a21 : Option Addr) (n22 c23 : Nat), w17.heap[bm1]? = some (.cells #[(.pointer p20), (.slice a21 n22 c23)] 124) ∧
    K1 (record_Batch_v1 a_24 n_24 c_24 bm0 bm1 (IntKind.wrap .i64 (x_26 + 1))) (record_Batch_m1 bm0 x_m0_0 x_m0_1 x_m0_2 a_m0_3 n_m0_3 c_m0_3 bm1 p20 a21 n22 c23) w17)
  (
    loopD3 record_Batch_la2 (dnF Tryz.prog record_Batch_an (code Tryz.f208) 394 [0, 0, 1, 0, 1, 1, 1, 1]) (kont3 Tryz.prog record_Batch_an (code Tryz.f208) [1, 1, 1, 1, 0, 1, 0] [] (post3 Tryz.prog Tryz.f208 [] R)) (record_Batch_v2 a_m0_3 n_m0_3 c_m0_3 (n_m0_3 : Int) bm1 0) (record_Batch_m2 bm0 x_m0_0 x_m0_1 x_m0_2 a_m0_3 n_m0_3 c_m0_3 bm1 p_m1_0 a_m1_1 n_m1_1 c_m1_1) w)
theorem record_Batch_L1_eq (a_24 : Option Addr) (n_24 : Nat) (c_24 : Nat) (bm0 : Nat) (x_m0_0 : Int) (x_m0_1 : Int) (x_m0_2 : Int) (a_m0_3 : Option Addr) (n_m0_3 : Nat) (c_m0_3 : Nat) (bm1 : Nat) (x_26 : Int) (p_m1_0 : Option Addr) (a_m1_1 : Option Addr) (n_m1_1 : Nat) (c_m1_1 : Nat) (K1 : Kh) (js : Nat → Value) (R : Value → World → Prop) (w : World) :
    headA record_Batch_la1 ((dnF Tryz.prog record_Batch_an (code Tryz.f208) 395 [0, 0, 1, 0, 1, 1, 1]) (kthen3 (atA record_Batch_la1 K1) (kont3 Tryz.prog record_Batch_an (code Tryz.f208) [1, 1, 1, 0, 1, 0] [] (post3 Tryz.prog Tryz.f208 [] R)))) (record_Batch_v1 a_24 n_24 c_24 bm0 bm1 x_26) js (record_Batch_m1 bm0 x_m0_0 x_m0_1 x_m0_2 a_m0_3 n_m0_3 c_m0_3 bm1 p_m1_0 a_m1_1 n_m1_1 c_m1_1) w = record_Batch_L1 a_24 n_24 c_24 bm0 x_m0_0 x_m0_1 x_m0_2 a_m0_3 n_m0_3 c_m0_3 bm1 x_26 p_m1_0 a_m1_1 n_m1_1 c_m1_1 K1 R w := by kernel_rfl
def record_Batch_K1 (a_24 : Option Addr) (n_24 : Nat) (c_24 : Nat) (bm0 : Nat) (x_m0_0 : Int) (x_m0_1 : Int) (x_m0_2 : Int) (a_m0_3 : Option Addr) (n_m0_3 : Nat) (c_m0_3 : Nat) (bm1 : Nat) (I : Nat → Int → Option Addr → Option Addr → Nat → Nat → World → Prop) (m : Nat) (vals : List Value) (mem : List TB) (w : World) : Prop := ∃ m', m' < m ∧ ∃ x_26 p_m1_0 a_m1_1 n_m1_1 c_m1_1, vals = (record_Batch_v1 a_24 n_24 c_24 bm0 bm1 x_26) ∧ mem = (record_Batch_m1 bm0 x_m0_0 x_m0_1 x_m0_2 a_m0_3 n_m0_3 c_m0_3 bm1 p_m1_0 a_m1_1 n_m1_1 c_m1_1) ∧ I m' x_26 p_m1_0 a_m1_1 n_m1_1 c_m1_1 w
theorem record_Batch_leaf1 {a_24 : Option Addr} {n_24 : Nat} {c_24 : Nat} {bm0 : Nat} {x_m0_0 : Int} {x_m0_1 : Int} {x_m0_2 : Int} {a_m0_3 : Option Addr} {n_m0_3 : Nat} {c_m0_3 : Nat} {bm1 : Nat} {I : Nat → Int → Option Addr → Option Addr → Nat → Nat → World → Prop} {m : Nat} {x_26 : Int} {p_m1_0 : Option Addr} {a_m1_1 : Option Addr} {n_m1_1 : Nat} {c_m1_1 : Nat} {w : World} (m' : Nat) (h1 : m' < m) (h2 : I m' x_26 p_m1_0 a_m1_1 n_m1_1 c_m1_1 w) : record_Batch_K1 a_24 n_24 c_24 bm0 x_m0_0 x_m0_1 x_m0_2 a_m0_3 n_m0_3 c_m0_3 bm1 I m (record_Batch_v1 a_24 n_24 c_24 bm0 bm1 x_26) (record_Batch_m1 bm0 x_m0_0 x_m0_1 x_m0_2 a_m0_3 n_m0_3 c_m0_3 bm1 p_m1_0 a_m1_1 n_m1_1 c_m1_1) w := ⟨m', h1, _, _, _, _, _, rfl, rfl, h2⟩
theorem record_Batch_rule1 {a_24 : Option Addr} {n_24 : Nat} {c_24 : Nat} {bm0 : Nat} {x_m0_0 : Int} {x_m0_1 : Int} {x_m0_2 : Int} {a_m0_3 : Option Addr} {n_m0_3 : Nat} {c_m0_3 : Nat} {bm1 : Nat} {x_260 : Int} {p_m1_00 : Option Addr} {a_m1_10 : Option Addr} {n_m1_10 : Nat} {c_m1_10 : Nat} {R : Value → World → Prop} {w0 : World} (I : Nat → Int → Option Addr → Option Addr → Nat → Nat → World → Prop) (m0 : Nat) (h0 : I m0 x_260 p_m1_00 a_m1_10 n_m1_10 c_m1_10 w0)
    (hr : ∀ (m : Nat) (x_26 : Int) (p_m1_0 : Option Addr) (a_m1_1 : Option Addr) (n_m1_1 : Nat) (c_m1_1 : Nat) (w : World), I m x_26 p_m1_0 a_m1_1 n_m1_1 c_m1_1 w → record_Batch_L1 a_24 n_24 c_24 bm0 x_m0_0 x_m0_1 x_m0_2 a_m0_3 n_m0_3 c_m0_3 bm1 x_26 p_m1_0 a_m1_1 n_m1_1 c_m1_1 (record_Batch_K1 a_24 n_24 c_24 bm0 x_m0_0 x_m0_1 x_m0_2 a_m0_3 n_m0_3 c_m0_3 bm1 I m) R w) :
    loopD3 record_Batch_la1 (dnF Tryz.prog record_Batch_an (code Tryz.f208) 395 [0, 0, 1, 0, 1, 1, 1]) (kont3 Tryz.prog record_Batch_an (code Tryz.f208) [1, 1, 1, 0, 1, 0] [] (post3 Tryz.prog Tryz.f208 [] R)) (record_Batch_v1 a_24 n_24 c_24 bm0 bm1 x_260) (record_Batch_m1 bm0 x_m0_0 x_m0_1 x_m0_2 a_m0_3 n_m0_3 c_m0_3 bm1 p_m1_00 a_m1_10 n_m1_10 c_m1_10) w0 := by
  refine ⟨fun m vals mem w => ∃ x_26 p_m1_0 a_m1_1 n_m1_1 c_m1_1, vals = (record_Batch_v1 a_24 n_24 c_24 bm0 bm1 x_26) ∧ mem = (record_Batch_m1 bm0 x_m0_0 x_m0_1 x_m0_2 a_m0_3 n_m0_3 c_m0_3 bm1 p_m1_0 a_m1_1 n_m1_1 c_m1_1) ∧ I m x_26 p_m1_0 a_m1_1 n_m1_1 c_m1_1 w, m0, ⟨_, _, _, _, _, rfl, rfl, h0⟩, ?_⟩
  rintro m vals mem w ⟨x_26, p_m1_0, a_m1_1, n_m1_1, c_m1_1, rfl, rfl, hI⟩
  refine ⟨rfl, rfl, fun js => ?_⟩
  have h := hr m x_26 p_m1_0 a_m1_1 n_m1_1 c_m1_1 w hI
  rw [← record_Batch_L1_eq _ _ _ _ _ _ _ _ _ _ _ _ _ _ _ _ _ js] at h
  exact h
def record_Batch_L2 (a_36 : Option Addr) (n_36 : Nat) (c_36 : Nat) (x_37 : Int) (bm0 : Nat) (x_m0_0 : Int) (x_m0_1 : Int) (x_m0_2 : Int) (a_m0_3 : Option Addr) (n_m0_3 : Nat) (c_m0_3 : Nat) (bm1 : Nat) (x_38 : Int) (p_m1_0 : Option Addr) (a_m1_1 : Option Addr) (n_m1_1 : Nat) (c_m1_1 : Nat) (K2 : Kh) (R : Value → World → Prop) (w : World) : Prop :=
  w.heap[bm1]? = some (.cells #[(.pointer p_m1_0), (.slice a_m1_1 n_m1_1 c_m1_1)] 124) →
  brB (decide (x_38 < x_37)) (
    ixA a_36 n_36 x_38 4 fun q24 =>
    ldBool w q24 fun t25 => ldStr w (Addr.add q24 1) fun s26 => ldBool w (Addr.add q24 2) fun t27 => ldStr w (Addr.add q24 3) fun s28 =>
    ∀ b29, w.heap.size ≤ b29 →
    ∀ w30, Adv [] [b29] w w30 → w30.heap[bm1]? = some (.cells #[(.pointer p_m1_0), (.slice a_m1_1 n_m1_1 c_m1_1)] 124) →
    Calls Tryz.prog 164 #[(.agg #[(.bool t25), (.string s26), (.bool t27), (.string s28)])] w30 fun e w31 => ∃ s32 : ByteArray, e = .returned (.string s32) ∧ KeepE [bm1] [(bm0, 35), (b29, 149)] [bm0, b29] w30 w31 ∧ ∃ p33 : Option Addr, ∃ (a34 : Option Addr) (n35 c36 : Nat), w31.heap[bm1]? = some (.cells #[(.pointer p33), (.slice a34 n35 c36)] 124) ∧
    Calls Tryz.prog 76 #[(.pointer (some ⟨bm1, 0, none⟩)), (.string s32)] w31 fun e w37 => ∃ x38 : Int, ∃ v39 : Value, e = .returned (.tuple #[(.int .i64 x38), v39]) ∧ KeepE [bm1] [(bm0, 35), (b29, 149)] [bm0, b29] w31 w37 ∧ ∃ p40 : Option Addr, ∃ (a41 : Option Addr) (n42 c43 : Nat), w37.heap[bm1]? = some (.cells #[(.pointer p40), (.slice a41 n42 c43)] 124) ∧
    K2 (record_Batch_v2 a_36 n_36 c_36 x_37 bm1 (IntKind.wrap .i64 (x_38 + 1))) (record_Batch_m2 bm0 x_m0_0 x_m0_1 x_m0_2 a_m0_3 n_m0_3 c_m0_3 bm1 p40 a41 n42 c43) w37)
  (
    Calls Tryz.prog 81 #[(.pointer (some ⟨bm1, 0, none⟩))] w fun e w44 => ∃ s45 : ByteArray, e = .returned (.string s45) ∧ KeepE [bm1] [(bm0, 35)] [bm0] w w44 ∧ ∃ p46 : Option Addr, ∃ (a47 : Option Addr) (n48 c49 : Nat), w44.heap[bm1]? = some (.cells #[(.pointer p46), (.slice a47 n48 c49)] 124) ∧
    R (.tuple #[(.string s45), (.int .i64 0)]) w44)
theorem record_Batch_L2_eq (a_36 : Option Addr) (n_36 : Nat) (c_36 : Nat) (x_37 : Int) (bm0 : Nat) (x_m0_0 : Int) (x_m0_1 : Int) (x_m0_2 : Int) (a_m0_3 : Option Addr) (n_m0_3 : Nat) (c_m0_3 : Nat) (bm1 : Nat) (x_38 : Int) (p_m1_0 : Option Addr) (a_m1_1 : Option Addr) (n_m1_1 : Nat) (c_m1_1 : Nat) (K2 : Kh) (js : Nat → Value) (R : Value → World → Prop) (w : World) :
    headA record_Batch_la2 ((dnF Tryz.prog record_Batch_an (code Tryz.f208) 394 [0, 0, 1, 0, 1, 1, 1, 1]) (kthen3 (atA record_Batch_la2 K2) (kont3 Tryz.prog record_Batch_an (code Tryz.f208) [1, 1, 1, 1, 0, 1, 0] [] (post3 Tryz.prog Tryz.f208 [] R)))) (record_Batch_v2 a_36 n_36 c_36 x_37 bm1 x_38) js (record_Batch_m2 bm0 x_m0_0 x_m0_1 x_m0_2 a_m0_3 n_m0_3 c_m0_3 bm1 p_m1_0 a_m1_1 n_m1_1 c_m1_1) w = record_Batch_L2 a_36 n_36 c_36 x_37 bm0 x_m0_0 x_m0_1 x_m0_2 a_m0_3 n_m0_3 c_m0_3 bm1 x_38 p_m1_0 a_m1_1 n_m1_1 c_m1_1 K2 R w := by kernel_rfl
def record_Batch_K2 (a_36 : Option Addr) (n_36 : Nat) (c_36 : Nat) (x_37 : Int) (bm0 : Nat) (x_m0_0 : Int) (x_m0_1 : Int) (x_m0_2 : Int) (a_m0_3 : Option Addr) (n_m0_3 : Nat) (c_m0_3 : Nat) (bm1 : Nat) (I : Nat → Int → Option Addr → Option Addr → Nat → Nat → World → Prop) (m : Nat) (vals : List Value) (mem : List TB) (w : World) : Prop := ∃ m', m' < m ∧ ∃ x_38 p_m1_0 a_m1_1 n_m1_1 c_m1_1, vals = (record_Batch_v2 a_36 n_36 c_36 x_37 bm1 x_38) ∧ mem = (record_Batch_m2 bm0 x_m0_0 x_m0_1 x_m0_2 a_m0_3 n_m0_3 c_m0_3 bm1 p_m1_0 a_m1_1 n_m1_1 c_m1_1) ∧ I m' x_38 p_m1_0 a_m1_1 n_m1_1 c_m1_1 w
theorem record_Batch_leaf2 {a_36 : Option Addr} {n_36 : Nat} {c_36 : Nat} {x_37 : Int} {bm0 : Nat} {x_m0_0 : Int} {x_m0_1 : Int} {x_m0_2 : Int} {a_m0_3 : Option Addr} {n_m0_3 : Nat} {c_m0_3 : Nat} {bm1 : Nat} {I : Nat → Int → Option Addr → Option Addr → Nat → Nat → World → Prop} {m : Nat} {x_38 : Int} {p_m1_0 : Option Addr} {a_m1_1 : Option Addr} {n_m1_1 : Nat} {c_m1_1 : Nat} {w : World} (m' : Nat) (h1 : m' < m) (h2 : I m' x_38 p_m1_0 a_m1_1 n_m1_1 c_m1_1 w) : record_Batch_K2 a_36 n_36 c_36 x_37 bm0 x_m0_0 x_m0_1 x_m0_2 a_m0_3 n_m0_3 c_m0_3 bm1 I m (record_Batch_v2 a_36 n_36 c_36 x_37 bm1 x_38) (record_Batch_m2 bm0 x_m0_0 x_m0_1 x_m0_2 a_m0_3 n_m0_3 c_m0_3 bm1 p_m1_0 a_m1_1 n_m1_1 c_m1_1) w := ⟨m', h1, _, _, _, _, _, rfl, rfl, h2⟩
theorem record_Batch_rule2 {a_36 : Option Addr} {n_36 : Nat} {c_36 : Nat} {x_37 : Int} {bm0 : Nat} {x_m0_0 : Int} {x_m0_1 : Int} {x_m0_2 : Int} {a_m0_3 : Option Addr} {n_m0_3 : Nat} {c_m0_3 : Nat} {bm1 : Nat} {x_380 : Int} {p_m1_00 : Option Addr} {a_m1_10 : Option Addr} {n_m1_10 : Nat} {c_m1_10 : Nat} {R : Value → World → Prop} {w0 : World} (I : Nat → Int → Option Addr → Option Addr → Nat → Nat → World → Prop) (m0 : Nat) (h0 : I m0 x_380 p_m1_00 a_m1_10 n_m1_10 c_m1_10 w0)
    (hr : ∀ (m : Nat) (x_38 : Int) (p_m1_0 : Option Addr) (a_m1_1 : Option Addr) (n_m1_1 : Nat) (c_m1_1 : Nat) (w : World), I m x_38 p_m1_0 a_m1_1 n_m1_1 c_m1_1 w → record_Batch_L2 a_36 n_36 c_36 x_37 bm0 x_m0_0 x_m0_1 x_m0_2 a_m0_3 n_m0_3 c_m0_3 bm1 x_38 p_m1_0 a_m1_1 n_m1_1 c_m1_1 (record_Batch_K2 a_36 n_36 c_36 x_37 bm0 x_m0_0 x_m0_1 x_m0_2 a_m0_3 n_m0_3 c_m0_3 bm1 I m) R w) :
    loopD3 record_Batch_la2 (dnF Tryz.prog record_Batch_an (code Tryz.f208) 394 [0, 0, 1, 0, 1, 1, 1, 1]) (kont3 Tryz.prog record_Batch_an (code Tryz.f208) [1, 1, 1, 1, 0, 1, 0] [] (post3 Tryz.prog Tryz.f208 [] R)) (record_Batch_v2 a_36 n_36 c_36 x_37 bm1 x_380) (record_Batch_m2 bm0 x_m0_0 x_m0_1 x_m0_2 a_m0_3 n_m0_3 c_m0_3 bm1 p_m1_00 a_m1_10 n_m1_10 c_m1_10) w0 := by
  refine ⟨fun m vals mem w => ∃ x_38 p_m1_0 a_m1_1 n_m1_1 c_m1_1, vals = (record_Batch_v2 a_36 n_36 c_36 x_37 bm1 x_38) ∧ mem = (record_Batch_m2 bm0 x_m0_0 x_m0_1 x_m0_2 a_m0_3 n_m0_3 c_m0_3 bm1 p_m1_0 a_m1_1 n_m1_1 c_m1_1) ∧ I m x_38 p_m1_0 a_m1_1 n_m1_1 c_m1_1 w, m0, ⟨_, _, _, _, _, rfl, rfl, h0⟩, ?_⟩
  rintro m vals mem w ⟨x_38, p_m1_0, a_m1_1, n_m1_1, c_m1_1, rfl, rfl, hI⟩
  refine ⟨rfl, rfl, fun js => ?_⟩
  have h := hr m x_38 p_m1_0 a_m1_1 n_m1_1 c_m1_1 w hI
  rw [← record_Batch_L2_eq _ _ _ _ _ _ _ _ _ _ _ _ _ _ _ _ _ _ js] at h
  exact h
/-- stagecoach/record.Batch -/
def record_Batch_T (a0_b_0 : Int) (a0_b_1 : Int) (a0_b_2 : Int) (a0_b_3_a : Option Addr) (a0_b_3_n : Nat) (a0_b_3_c : Nat) (R : Value → World → Prop) (w : World) : Prop :=
  ∀ b1, w.heap.size ≤ b1 →
  ∀ w2, Adv [] [b1] w w2 →
  Calls Tryz.prog 199 #[(.agg #[(.int .i64 a0_b_0), (.int .i64 a0_b_1), (.int .i64 a0_b_2), (.slice a0_b_3_a a0_b_3_n a0_b_3_c)])] w2 fun e w3 => ∃ x4 : Int, e = .returned (.int .i64 x4) ∧ Keep [b1] w2 w3 ∧
  brB (x4 != 0) (
    R (.tuple #[(.string (⟨#[]⟩ : ByteArray)), (.int .i64 x4)]) w3)
  (
    ∀ b5, w3.heap.size ≤ b5 →
    ∀ w6, Adv [] [b5] w3 w6 →
    al w6 (.cells #[(.int .i64 a0_b_0), (.int .i64 a0_b_1), (.int .i64 a0_b_2), (.int .i64 (a0_b_3_n : Int))] 3) fun b7 w8 =>
    ∀ w50, Adv [] [] w8 w50 → w50.heap[b5]? = some (.cells #[(.pointer none), (.slice none 0 0)] 124) →
    loopD3 record_Batch_la1 (dnF Tryz.prog record_Batch_an (code Tryz.f208) 395 [0, 0, 1, 0, 1, 1, 1]) (kont3 Tryz.prog record_Batch_an (code Tryz.f208) [1, 1, 1, 0, 1, 0] [] (post3 Tryz.prog Tryz.f208 [] R)) (record_Batch_v1 (some ⟨b7, 0, none⟩) 4 4 b1 b5 0) (record_Batch_m1 b1 a0_b_0 a0_b_1 a0_b_2 a0_b_3_a a0_b_3_n a0_b_3_c b5 none none 0 0) w50)
theorem record_Batch_eq (a0_b_0 : Int) (a0_b_1 : Int) (a0_b_2 : Int) (a0_b_3_a : Option Addr) (a0_b_3_n : Nat) (a0_b_3_c : Nat) (R : Value → World → Prop) (w : World) :
    dnF Tryz.prog record_Batch_an (code Tryz.f208) 400 [] (post3 Tryz.prog Tryz.f208 [] R) ⟨args0 0 [(.agg #[(.int .i64 a0_b_0), (.int .i64 a0_b_1), (.int .i64 a0_b_2), (.slice a0_b_3_a a0_b_3_n a0_b_3_c)])], fun _ => undef⟩ ⟨[], w, [], [], true⟩ = record_Batch_T a0_b_0 a0_b_1 a0_b_2 a0_b_3_a a0_b_3_n a0_b_3_c R w := by kernel_rfl
theorem record_Batch_go {a0_b_0 : Int} {a0_b_1 : Int} {a0_b_2 : Int} {a0_b_3_a : Option Addr} {a0_b_3_n : Nat} {a0_b_3_c : Nat} {R : Value → World → Prop} {w : World} (h : record_Batch_T a0_b_0 a0_b_1 a0_b_2 a0_b_3_a a0_b_3_n a0_b_3_c R w) :
    Calls Tryz.prog 208 #[(.agg #[(.int .i64 a0_b_0), (.int .i64 a0_b_1), (.int .i64 a0_b_2), (.slice a0_b_3_a a0_b_3_n a0_b_3_c)])] w fun e w' => ∃ v, e = .returned v ∧ R v w' :=
  calls_none Tryz.wide_mixed (f := 208) (args := [(.agg #[(.int .i64 a0_b_0), (.int .i64 a0_b_1), (.int .i64 a0_b_2), (.slice a0_b_3_a a0_b_3_n a0_b_3_c)])]) Tryz.func208 rfl rfl (by kernel_rfl) rfl (Eq.mpr (record_Batch_eq a0_b_0 a0_b_1 a0_b_2 a0_b_3_a a0_b_3_n a0_b_3_c R w) h)
def record_reader_text_an : List LA := []
/-- (*stagecoach/record.reader).text -/
def record_reader_text_T (b0 : Nat) (o0 : ByteArray) (o1 : Int) (o2 : Int) (a1_has : Bool) (a2_most : Int) (R : Value → World → Prop) (w : World) : Prop :=
  brB (o2 != 0) (
    ∀ w1, Adv [] [] w w1 → w1.heap[b0]? = some (.cells #[(.string o0), (.int .i64 o1), (.int .i64 o2)] 257) →
    R (.string (⟨#[]⟩ : ByteArray)) w1)
  (
    brB (!a1_has) (
      ∀ w2, Adv [] [] w w2 → w2.heap[b0]? = some (.cells #[(.string o0), (.int .i64 o1), (.int .i64 o2)] 257) →
      R (.string (⟨#[]⟩ : ByteArray)) w2)
    (
      ∀ w3, Adv [] [] w w3 →
      Calls Tryz.prog 136 #[(.string o0), (.int .i64 o1), (.int .i64 a2_most)] w3 fun e w4 => ∃ s5 : ByteArray, ∃ x6 : Int, ∃ x7 : Int, e = .returned (.tuple #[(.string s5), (.int .i64 x6), (.int .i64 x7)]) ∧ Keep [b0] w3 w4 ∧
      ∀ w8, Adv [b0] [] w4 w8 → w8.heap[b0]? = some (.cells #[(.string o0), (.int .i64 x6), (.int .i64 x7)] 257) →
      R (.string s5) w8))
theorem record_reader_text_eq (b0 : Nat) (o0 : ByteArray) (o1 : Int) (o2 : Int) (a1_has : Bool) (a2_most : Int) (R : Value → World → Prop) (w : World) :
    dnF Tryz.prog record_reader_text_an (code Tryz.f218) 400 [] (post3 Tryz.prog Tryz.f218 [0] R) ⟨(0, .pointer (some ⟨b0, 0, none⟩), some (0, 0)) :: args0 1 [(.bool a1_has), (.int .i64 a2_most)], fun _ => undef⟩ ⟨[⟨b0, 257, [(.string o0), (.int .i64 o1), (.int .i64 o2)], false⟩], w, [], [], true⟩ = record_reader_text_T b0 o0 o1 o2 a1_has a2_most R w := by kernel_rfl
theorem record_reader_text_go {b0 : Nat} {o0 : ByteArray} {o1 : Int} {o2 : Int} {a1_has : Bool} {a2_most : Int} {R : Value → World → Prop} {w : World} (hb : w.heap[b0]? = some (.cells #[(.string o0), (.int .i64 o1), (.int .i64 o2)] 257)) (h : record_reader_text_T b0 o0 o1 o2 a1_has a2_most R w) :
    Calls Tryz.prog 218 #[(.pointer (some ⟨b0, 0, none⟩)), (.bool a1_has), (.int .i64 a2_most)] w fun e w' => ∃ v, e = .returned v ∧ R v w' :=
  calls_one Tryz.wide_mixed (f := 218) (args := [(.bool a1_has), (.int .i64 a2_most)]) Tryz.func218 rfl rfl (by kernel_rfl) rfl hb (Eq.mpr (record_reader_text_eq b0 o0 o1 o2 a1_has a2_most R w) h)
def record_reader_number_an : List LA := []
/-- (*stagecoach/record.reader).number -/
def record_reader_number_T (b0 : Nat) (o0 : ByteArray) (o1 : Int) (o2 : Int) (R : Value → World → Prop) (w : World) : Prop :=
  brB (o2 != 0) (
    ∀ w1, Adv [] [] w w1 → w1.heap[b0]? = some (.cells #[(.string o0), (.int .i64 o1), (.int .i64 o2)] 257) →
    R (.int .u64 0) w1)
  (
    ∀ w2, Adv [] [] w w2 →
    Calls Tryz.prog 87 #[(.string o0), (.int .i64 o1)] w2 fun e w3 => ∃ x4 : Int, ∃ x5 : Int, ∃ x6 : Int, e = .returned (.tuple #[(.int .u64 x4), (.int .i64 x5), (.int .i64 x6)]) ∧ Keep [b0] w2 w3 ∧
    ∀ w7, Adv [b0] [] w3 w7 → w7.heap[b0]? = some (.cells #[(.string o0), (.int .i64 x5), (.int .i64 x6)] 257) →
    R (.int .u64 x4) w7)
theorem record_reader_number_eq (b0 : Nat) (o0 : ByteArray) (o1 : Int) (o2 : Int) (R : Value → World → Prop) (w : World) :
    dnF Tryz.prog record_reader_number_an (code Tryz.f216) 400 [] (post3 Tryz.prog Tryz.f216 [0] R) ⟨(0, .pointer (some ⟨b0, 0, none⟩), some (0, 0)) :: args0 1 [], fun _ => undef⟩ ⟨[⟨b0, 257, [(.string o0), (.int .i64 o1), (.int .i64 o2)], false⟩], w, [], [], true⟩ = record_reader_number_T b0 o0 o1 o2 R w := by kernel_rfl
theorem record_reader_number_go {b0 : Nat} {o0 : ByteArray} {o1 : Int} {o2 : Int} {R : Value → World → Prop} {w : World} (hb : w.heap[b0]? = some (.cells #[(.string o0), (.int .i64 o1), (.int .i64 o2)] 257)) (h : record_reader_number_T b0 o0 o1 o2 R w) :
    Calls Tryz.prog 216 #[(.pointer (some ⟨b0, 0, none⟩))] w fun e w' => ∃ v, e = .returned v ∧ R v w' :=
  calls_one Tryz.wide_mixed (f := 216) (args := []) Tryz.func216 rfl rfl (by kernel_rfl) rfl hb (Eq.mpr (record_reader_number_eq b0 o0 o1 o2 R w) h)
def record_reader_first_an : List LA := []
/-- (*stagecoach/record.reader).first -/
def record_reader_first_T (b0 : Nat) (o0 : ByteArray) (o1 : Int) (o2 : Int) (R : Value → World → Prop) (w : World) : Prop :=
  brB (o2 != 0) (
    ∀ w1, Adv [] [] w w1 → w1.heap[b0]? = some (.cells #[(.string o0), (.int .i64 o1), (.int .i64 o2)] 257) →
    R (.int .u8 0) w1)
  (
    brB (decide (o1 < 0)) (
      ∀ w2, Adv [b0] [] w w2 → w2.heap[b0]? = some (.cells #[(.string o0), (.int .i64 o1), (.int .i64 1)] 257) →
      R (.int .u8 0) w2)
    (
      brB (decide (o1 > (o0.size : Int))) (
        ∀ w3, Adv [b0] [] w w3 → w3.heap[b0]? = some (.cells #[(.string o0), (.int .i64 o1), (.int .i64 1)] 257) →
        R (.int .u8 0) w3)
      (
        brB (o1 == (o0.size : Int)) (
          ∀ w4, Adv [b0] [] w w4 → w4.heap[b0]? = some (.cells #[(.string o0), (.int .i64 o1), (.int .i64 10)] 257) →
          R (.int .u8 0) w4)
        (
          ixS o0 o1 fun x5 =>
          brB (x5 != 0) (
            brB (x5 != 1) (
              brB (x5 != 3) (
                ∀ w6, Adv [b0] [] w w6 → w6.heap[b0]? = some (.cells #[(.string o0), (.int .i64 (IntKind.wrap .i64 (o1 + 1))), (.int .i64 30)] 257) →
                R (.int .u8 x5) w6)
              (
                ∀ w7, Adv [b0] [] w w7 → w7.heap[b0]? = some (.cells #[(.string o0), (.int .i64 (IntKind.wrap .i64 (o1 + 1))), (.int .i64 o2)] 257) →
                R (.int .u8 x5) w7))
            (
              ∀ w8, Adv [b0] [] w w8 → w8.heap[b0]? = some (.cells #[(.string o0), (.int .i64 (IntKind.wrap .i64 (o1 + 1))), (.int .i64 o2)] 257) →
              R (.int .u8 x5) w8))
          (
            ∀ w9, Adv [b0] [] w w9 → w9.heap[b0]? = some (.cells #[(.string o0), (.int .i64 (IntKind.wrap .i64 (o1 + 1))), (.int .i64 o2)] 257) →
            R (.int .u8 x5) w9)))))
theorem record_reader_first_eq (b0 : Nat) (o0 : ByteArray) (o1 : Int) (o2 : Int) (R : Value → World → Prop) (w : World) :
    dnF Tryz.prog record_reader_first_an (code Tryz.f217) 400 [] (post3 Tryz.prog Tryz.f217 [0] R) ⟨(0, .pointer (some ⟨b0, 0, none⟩), some (0, 0)) :: args0 1 [], fun _ => undef⟩ ⟨[⟨b0, 257, [(.string o0), (.int .i64 o1), (.int .i64 o2)], false⟩], w, [], [], true⟩ = record_reader_first_T b0 o0 o1 o2 R w := by kernel_rfl
theorem record_reader_first_go {b0 : Nat} {o0 : ByteArray} {o1 : Int} {o2 : Int} {R : Value → World → Prop} {w : World} (hb : w.heap[b0]? = some (.cells #[(.string o0), (.int .i64 o1), (.int .i64 o2)] 257)) (h : record_reader_first_T b0 o0 o1 o2 R w) :
    Calls Tryz.prog 217 #[(.pointer (some ⟨b0, 0, none⟩))] w fun e w' => ∃ v, e = .returned v ∧ R v w' :=
  calls_one Tryz.wide_mixed (f := 217) (args := []) Tryz.func217 rfl rfl (by kernel_rfl) rfl hb (Eq.mpr (record_reader_first_eq b0 o0 o1 o2 R w) h)
def record_reader_record_an : List LA := []
/-- (*stagecoach/record.reader).record -/
def record_reader_record_T (b0 : Nat) (o0 : ByteArray) (o1 : Int) (o2 : Int) (R : Value → World → Prop) (w : World) : Prop :=
  ∀ b1, w.heap.size ≤ b1 →
  ∀ w2, Adv [] [b1] w w2 → w2.heap[b0]? = some (.cells #[(.string o0), (.int .i64 o1), (.int .i64 o2)] 257) →
  Calls Tryz.prog 217 #[(.pointer (some ⟨b0, 0, none⟩))] w2 fun e w3 => ∃ x4 : Int, e = .returned (.int .u8 x4) ∧ KeepE [b0] [(b1, 149)] [b1] w2 w3 ∧ ∃ s5 : ByteArray, ∃ x6 : Int, ∃ x7 : Int, w3.heap[b0]? = some (.cells #[(.string s5), (.int .i64 x6), (.int .i64 x7)] 257) ∧
  ∀ b8, w3.heap.size ≤ b8 →
  ∀ w9, Adv [] [b8] w3 w9 → w9.heap[b0]? = some (.cells #[(.string s5), (.int .i64 x6), (.int .i64 x7)] 257) →
  Calls Tryz.prog 218 #[(.pointer (some ⟨b0, 0, none⟩)), (.bool ((bAnd .u8 x4 1) != 0)), (.int .i64 64)] w9 fun e w10 => ∃ s11 : ByteArray, e = .returned (.string s11) ∧ KeepE [b0] [(b1, 149), (b8, 149)] [b1, b8] w9 w10 ∧ ∃ s12 : ByteArray, ∃ x13 : Int, ∃ x14 : Int, w10.heap[b0]? = some (.cells #[(.string s12), (.int .i64 x13), (.int .i64 x14)] 257) ∧
  ∀ w15, Adv [b8] [] w10 w15 → w15.heap[b0]? = some (.cells #[(.string s12), (.int .i64 x13), (.int .i64 x14)] 257) →
  Calls Tryz.prog 218 #[(.pointer (some ⟨b0, 0, none⟩)), (.bool (!((bAnd .u8 x4 2) != 0))), (.int .i64 512)] w15 fun e w16 => ∃ s17 : ByteArray, e = .returned (.string s17) ∧ KeepE [b0] [(b1, 149), (b8, 149)] [b1, b8] w15 w16 ∧ ∃ s18 : ByteArray, ∃ x19 : Int, ∃ x20 : Int, w16.heap[b0]? = some (.cells #[(.string s18), (.int .i64 x19), (.int .i64 x20)] 257) ∧
  ∀ w21, Adv [b1, b8] [] w16 w21 → w21.heap[b0]? = some (.cells #[(.string s18), (.int .i64 x19), (.int .i64 x20)] 257) →
  R (.agg #[(.bool ((bAnd .u8 x4 1) != 0)), (.string s11), (.bool ((bAnd .u8 x4 2) != 0)), (.string s17)]) w21
theorem record_reader_record_eq (b0 : Nat) (o0 : ByteArray) (o1 : Int) (o2 : Int) (R : Value → World → Prop) (w : World) :
    dnF Tryz.prog record_reader_record_an (code Tryz.f215) 400 [] (post3 Tryz.prog Tryz.f215 [0] R) ⟨(0, .pointer (some ⟨b0, 0, none⟩), some (0, 0)) :: args0 1 [], fun _ => undef⟩ ⟨[⟨b0, 257, [(.string o0), (.int .i64 o1), (.int .i64 o2)], false⟩], w, [], [], true⟩ = record_reader_record_T b0 o0 o1 o2 R w := by kernel_rfl
theorem record_reader_record_go {b0 : Nat} {o0 : ByteArray} {o1 : Int} {o2 : Int} {R : Value → World → Prop} {w : World} (hb : w.heap[b0]? = some (.cells #[(.string o0), (.int .i64 o1), (.int .i64 o2)] 257)) (h : record_reader_record_T b0 o0 o1 o2 R w) :
    Calls Tryz.prog 215 #[(.pointer (some ⟨b0, 0, none⟩))] w fun e w' => ∃ v, e = .returned v ∧ R v w' :=
  calls_one Tryz.wide_mixed (f := 215) (args := []) Tryz.func215 rfl rfl (by kernel_rfl) rfl hb (Eq.mpr (record_reader_record_eq b0 o0 o1 o2 R w) h)
def record_reader_numbers_la1 : LA := ⟨[0, 0, 1, 0, 1, 1, 1], [0, 2, 3, 4, 7], [(0, 0, 0), (2, 1, 0), (3, 2, 0)], 3, [0, 2]⟩
def record_reader_numbers_an : List LA := [record_reader_numbers_la1]
def record_reader_numbers_v1 (bm0 : Nat) (bm1 : Nat) (bm2 : Nat) (t_4 : Bool) (x_7 : Int) : List Value := [(.pointer (some ⟨bm0, 0, none⟩)), (.pointer (some ⟨bm1, 0, none⟩)), (.pointer (some ⟨bm2, 0, none⟩)), (.bool t_4), (.int .i64 x_7)]
def record_reader_numbers_m1 (bm0 : Nat) (bm1 : Nat) (bm2 : Nat) (s_m0_0 : ByteArray) (x_m0_1 : Int) (x_m0_2 : Int) (x_m2_0 : Int) (x_m2_1 : Int) (x_m2_2 : Int) (x_m2_3 : Int) : List TB := [⟨bm0, 257, [(.string s_m0_0), (.int .i64 x_m0_1), (.int .i64 x_m0_2)], true⟩, ⟨bm1, 258, [(.int .i64 0), (.int .i64 0), (.int .i64 0), (.int .i64 0)], false⟩, ⟨bm2, 258, [(.int .i64 x_m2_0), (.int .i64 x_m2_1), (.int .i64 x_m2_2), (.int .i64 x_m2_3)], true⟩]
def record_reader_numbers_L1 (bm0 : Nat) (bm1 : Nat) (bm2 : Nat) (t_4 : Bool) (x_7 : Int) (s_m0_0 : ByteArray) (x_m0_1 : Int) (x_m0_2 : Int) (x_m2_0 : Int) (x_m2_1 : Int) (x_m2_2 : Int) (x_m2_3 : Int) (K1 : Kh) (R : Value → World → Prop) (w : World) : Prop :=
  w.heap[bm0]? = some (.cells #[(.string s_m0_0), (.int .i64 x_m0_1), (.int .i64 x_m0_2)] 257) →
  w.heap[bm2]? = some (.cells #[(.int .i64 x_m2_0), (.int .i64 x_m2_1), (.int .i64 x_m2_2), (.int .i64 x_m2_3)] 258) →
  brB (decide (x_7 < 4)) (
    Calls Tryz.prog 216 #[(.pointer (some ⟨bm0, 0, none⟩))] w fun e w3 => ∃ x4 : Int, e = .returned (.int .u64 x4) ∧ KeepE [bm0, bm2] [(bm1, 258)] [bm1] w w3 ∧ ∃ s5 : ByteArray, ∃ x6 : Int, ∃ x7 : Int, w3.heap[bm0]? = some (.cells #[(.string s5), (.int .i64 x6), (.int .i64 x7)] 257) ∧ ∃ x8 : Int, ∃ x9 : Int, ∃ x10 : Int, ∃ x11 : Int, w3.heap[bm2]? = some (.cells #[(.int .i64 x8), (.int .i64 x9), (.int .i64 x10), (.int .i64 x11)] 258) ∧
    brB t_4 (0 ≤ x_7 ∧ x_7 < ((4 : Nat) : Int) ∧
      st w3 (Addr.add ⟨bm2, 0, none⟩ (Int.toNat x_7 * 1)) [(.int .i64 (IntKind.wrap .i64 (if 1099511627776 < x4 then 1099511627776 else x4)))] fun w12 => KeepE [bm0, bm2] [(bm1, 258)] [bm1] w3 w12 ∧ ∃ s13 : ByteArray, ∃ x14 : Int, ∃ x15 : Int, w12.heap[bm0]? = some (.cells #[(.string s13), (.int .i64 x14), (.int .i64 x15)] 257) ∧ ∃ x16 : Int, ∃ x17 : Int, ∃ x18 : Int, ∃ x19 : Int, w12.heap[bm2]? = some (.cells #[(.int .i64 x16), (.int .i64 x17), (.int .i64 x18), (.int .i64 x19)] 258) ∧
      K1 (record_reader_numbers_v1 bm0 bm1 bm2 true (IntKind.wrap .i64 (x_7 + 1))) (record_reader_numbers_m1 bm0 bm1 bm2 s13 x14 x15 x16 x17 x18 x19) w12)
    (
      brB (decide (x_7 < 3)) (0 ≤ x_7 ∧ x_7 < ((4 : Nat) : Int) ∧
        st w3 (Addr.add ⟨bm2, 0, none⟩ (Int.toNat x_7 * 1)) [(.int .i64 (IntKind.wrap .i64 (if 1099511627776 < x4 then 1099511627776 else x4)))] fun w20 => KeepE [bm0, bm2] [(bm1, 258)] [bm1] w3 w20 ∧ ∃ s21 : ByteArray, ∃ x22 : Int, ∃ x23 : Int, w20.heap[bm0]? = some (.cells #[(.string s21), (.int .i64 x22), (.int .i64 x23)] 257) ∧ ∃ x24 : Int, ∃ x25 : Int, ∃ x26 : Int, ∃ x27 : Int, w20.heap[bm2]? = some (.cells #[(.int .i64 x24), (.int .i64 x25), (.int .i64 x26), (.int .i64 x27)] 258) ∧
        K1 (record_reader_numbers_v1 bm0 bm1 bm2 (decide (x4 > 1099511627776)) (IntKind.wrap .i64 (x_7 + 1))) (record_reader_numbers_m1 bm0 bm1 bm2 s21 x22 x23 x24 x25 x26 x27) w20)
      (0 ≤ x_7 ∧ x_7 < ((4 : Nat) : Int) ∧
        st w3 (Addr.add ⟨bm2, 0, none⟩ (Int.toNat x_7 * 1)) [(.int .i64 (IntKind.wrap .i64 (if 1099511627776 < x4 then 1099511627776 else x4)))] fun w28 => KeepE [bm0, bm2] [(bm1, 258)] [bm1] w3 w28 ∧ ∃ s29 : ByteArray, ∃ x30 : Int, ∃ x31 : Int, w28.heap[bm0]? = some (.cells #[(.string s29), (.int .i64 x30), (.int .i64 x31)] 257) ∧ ∃ x32 : Int, ∃ x33 : Int, ∃ x34 : Int, ∃ x35 : Int, w28.heap[bm2]? = some (.cells #[(.int .i64 x32), (.int .i64 x33), (.int .i64 x34), (.int .i64 x35)] 258) ∧
        K1 (record_reader_numbers_v1 bm0 bm1 bm2 false (IntKind.wrap .i64 (x_7 + 1))) (record_reader_numbers_m1 bm0 bm1 bm2 s29 x30 x31 x32 x33 x34 x35) w28)))
  (
    brB (x_m0_2 != 0) (
      ∀ w36, Adv [bm1] [] w w36 → w36.heap[bm0]? = some (.cells #[(.string s_m0_0), (.int .i64 x_m0_1), (.int .i64 x_m0_2)] 257) →
      w36.heap[bm2]? = some (.cells #[(.int .i64 x_m2_0), (.int .i64 x_m2_1), (.int .i64 x_m2_2), (.int .i64 x_m2_3)] 258) →
      R (.agg #[(.int .i64 x_m2_0), (.int .i64 x_m2_1), (.int .i64 x_m2_2), (.int .i64 x_m2_3)]) w36)
    (
      brB t_4 (
        ∀ w37, Adv [bm1, bm0] [] w w37 → w37.heap[bm0]? = some (.cells #[(.string s_m0_0), (.int .i64 x_m0_1), (.int .i64 1)] 257) →
        w37.heap[bm2]? = some (.cells #[(.int .i64 x_m2_0), (.int .i64 x_m2_1), (.int .i64 x_m2_2), (.int .i64 x_m2_3)] 258) →
        R (.agg #[(.int .i64 x_m2_0), (.int .i64 x_m2_1), (.int .i64 x_m2_2), (.int .i64 x_m2_3)]) w37)
      (
        brB (x_m2_3 == 0) (
          ∀ w38, Adv [bm1, bm0] [] w w38 → w38.heap[bm0]? = some (.cells #[(.string s_m0_0), (.int .i64 x_m0_1), (.int .i64 30)] 257) →
          w38.heap[bm2]? = some (.cells #[(.int .i64 x_m2_0), (.int .i64 x_m2_1), (.int .i64 x_m2_2), (.int .i64 x_m2_3)] 258) →
          R (.agg #[(.int .i64 x_m2_0), (.int .i64 x_m2_1), (.int .i64 x_m2_2), (.int .i64 x_m2_3)]) w38)
        (
          brB (decide (x_m2_3 > 16)) (
            ∀ w39, Adv [bm1, bm0] [] w w39 → w39.heap[bm0]? = some (.cells #[(.string s_m0_0), (.int .i64 x_m0_1), (.int .i64 2)] 257) →
            w39.heap[bm2]? = some (.cells #[(.int .i64 x_m2_0), (.int .i64 x_m2_1), (.int .i64 x_m2_2), (.int .i64 x_m2_3)] 258) →
            R (.agg #[(.int .i64 x_m2_0), (.int .i64 x_m2_1), (.int .i64 x_m2_2), (.int .i64 x_m2_3)]) w39)
          (
            ∀ w40, Adv [bm1] [] w w40 → w40.heap[bm0]? = some (.cells #[(.string s_m0_0), (.int .i64 x_m0_1), (.int .i64 x_m0_2)] 257) →
            w40.heap[bm2]? = some (.cells #[(.int .i64 x_m2_0), (.int .i64 x_m2_1), (.int .i64 x_m2_2), (.int .i64 x_m2_3)] 258) →
            R (.agg #[(.int .i64 x_m2_0), (.int .i64 x_m2_1), (.int .i64 x_m2_2), (.int .i64 x_m2_3)]) w40)))))
theorem record_reader_numbers_L1_eq (bm0 : Nat) (bm1 : Nat) (bm2 : Nat) (t_4 : Bool) (x_7 : Int) (s_m0_0 : ByteArray) (x_m0_1 : Int) (x_m0_2 : Int) (x_m2_0 : Int) (x_m2_1 : Int) (x_m2_2 : Int) (x_m2_3 : Int) (K1 : Kh) (js : Nat → Value) (R : Value → World → Prop) (w : World) :
    headA record_reader_numbers_la1 ((dnF Tryz.prog record_reader_numbers_an (code Tryz.f214) 395 [0, 0, 1, 0, 1, 1, 1]) (kthen3 (atA record_reader_numbers_la1 K1) (kont3 Tryz.prog record_reader_numbers_an (code Tryz.f214) [1, 1, 1, 0, 1, 0] [] (post3 Tryz.prog Tryz.f214 [0] R)))) (record_reader_numbers_v1 bm0 bm1 bm2 t_4 x_7) js (record_reader_numbers_m1 bm0 bm1 bm2 s_m0_0 x_m0_1 x_m0_2 x_m2_0 x_m2_1 x_m2_2 x_m2_3) w = record_reader_numbers_L1 bm0 bm1 bm2 t_4 x_7 s_m0_0 x_m0_1 x_m0_2 x_m2_0 x_m2_1 x_m2_2 x_m2_3 K1 R w := by kernel_rfl
def record_reader_numbers_K1 (bm0 : Nat) (bm1 : Nat) (bm2 : Nat) (I : Nat → Bool → Int → ByteArray → Int → Int → Int → Int → Int → Int → World → Prop) (m : Nat) (vals : List Value) (mem : List TB) (w : World) : Prop := ∃ m', m' < m ∧ ∃ t_4 x_7 s_m0_0 x_m0_1 x_m0_2 x_m2_0 x_m2_1 x_m2_2 x_m2_3, vals = (record_reader_numbers_v1 bm0 bm1 bm2 t_4 x_7) ∧ mem = (record_reader_numbers_m1 bm0 bm1 bm2 s_m0_0 x_m0_1 x_m0_2 x_m2_0 x_m2_1 x_m2_2 x_m2_3) ∧ I m' t_4 x_7 s_m0_0 x_m0_1 x_m0_2 x_m2_0 x_m2_1 x_m2_2 x_m2_3 w
theorem record_reader_numbers_leaf1 {bm0 : Nat} {bm1 : Nat} {bm2 : Nat} {I : Nat → Bool → Int → ByteArray → Int → Int → Int → Int → Int → Int → World → Prop} {m : Nat} {t_4 : Bool} {x_7 : Int} {s_m0_0 : ByteArray} {x_m0_1 : Int} {x_m0_2 : Int} {x_m2_0 : Int} {x_m2_1 : Int} {x_m2_2 : Int} {x_m2_3 : Int} {w : World} (m' : Nat) (h1 : m' < m) (h2 : I m' t_4 x_7 s_m0_0 x_m0_1 x_m0_2 x_m2_0 x_m2_1 x_m2_2 x_m2_3 w) : record_reader_numbers_K1 bm0 bm1 bm2 I m (record_reader_numbers_v1 bm0 bm1 bm2 t_4 x_7) (record_reader_numbers_m1 bm0 bm1 bm2 s_m0_0 x_m0_1 x_m0_2 x_m2_0 x_m2_1 x_m2_2 x_m2_3) w := ⟨m', h1, _, _, _, _, _, _, _, _, _, rfl, rfl, h2⟩
theorem record_reader_numbers_rule1 {bm0 : Nat} {bm1 : Nat} {bm2 : Nat} {t_40 : Bool} {x_70 : Int} {s_m0_00 : ByteArray} {x_m0_10 : Int} {x_m0_20 : Int} {x_m2_00 : Int} {x_m2_10 : Int} {x_m2_20 : Int} {x_m2_30 : Int} {R : Value → World → Prop} {w0 : World} (I : Nat → Bool → Int → ByteArray → Int → Int → Int → Int → Int → Int → World → Prop) (m0 : Nat) (h0 : I m0 t_40 x_70 s_m0_00 x_m0_10 x_m0_20 x_m2_00 x_m2_10 x_m2_20 x_m2_30 w0)
    (hr : ∀ (m : Nat) (t_4 : Bool) (x_7 : Int) (s_m0_0 : ByteArray) (x_m0_1 : Int) (x_m0_2 : Int) (x_m2_0 : Int) (x_m2_1 : Int) (x_m2_2 : Int) (x_m2_3 : Int) (w : World), I m t_4 x_7 s_m0_0 x_m0_1 x_m0_2 x_m2_0 x_m2_1 x_m2_2 x_m2_3 w → record_reader_numbers_L1 bm0 bm1 bm2 t_4 x_7 s_m0_0 x_m0_1 x_m0_2 x_m2_0 x_m2_1 x_m2_2 x_m2_3 (record_reader_numbers_K1 bm0 bm1 bm2 I m) R w) :
    loopD3 record_reader_numbers_la1 (dnF Tryz.prog record_reader_numbers_an (code Tryz.f214) 395 [0, 0, 1, 0, 1, 1, 1]) (kont3 Tryz.prog record_reader_numbers_an (code Tryz.f214) [1, 1, 1, 0, 1, 0] [] (post3 Tryz.prog Tryz.f214 [0] R)) (record_reader_numbers_v1 bm0 bm1 bm2 t_40 x_70) (record_reader_numbers_m1 bm0 bm1 bm2 s_m0_00 x_m0_10 x_m0_20 x_m2_00 x_m2_10 x_m2_20 x_m2_30) w0 := by
  refine ⟨fun m vals mem w => ∃ t_4 x_7 s_m0_0 x_m0_1 x_m0_2 x_m2_0 x_m2_1 x_m2_2 x_m2_3, vals = (record_reader_numbers_v1 bm0 bm1 bm2 t_4 x_7) ∧ mem = (record_reader_numbers_m1 bm0 bm1 bm2 s_m0_0 x_m0_1 x_m0_2 x_m2_0 x_m2_1 x_m2_2 x_m2_3) ∧ I m t_4 x_7 s_m0_0 x_m0_1 x_m0_2 x_m2_0 x_m2_1 x_m2_2 x_m2_3 w, m0, ⟨_, _, _, _, _, _, _, _, _, rfl, rfl, h0⟩, ?_⟩
  rintro m vals mem w ⟨t_4, x_7, s_m0_0, x_m0_1, x_m0_2, x_m2_0, x_m2_1, x_m2_2, x_m2_3, rfl, rfl, hI⟩
  refine ⟨rfl, rfl, fun js => ?_⟩
  have h := hr m t_4 x_7 s_m0_0 x_m0_1 x_m0_2 x_m2_0 x_m2_1 x_m2_2 x_m2_3 w hI
  rw [← record_reader_numbers_L1_eq _ _ _ _ _ _ _ _ _ _ _ _ _ js] at h
  exact h
/-- (*stagecoach/record.reader).numbers -/
def record_reader_numbers_T (b0 : Nat) (o0 : ByteArray) (o1 : Int) (o2 : Int) (R : Value → World → Prop) (w : World) : Prop :=
  ∀ b1, w.heap.size ≤ b1 →
  ∀ b2, w.heap.size ≤ b2 →
  ∀ w41, Adv [] [b2, b1] w w41 → w41.heap[b0]? = some (.cells #[(.string o0), (.int .i64 o1), (.int .i64 o2)] 257) →
  w41.heap[b2]? = some (.cells #[(.int .i64 0), (.int .i64 0), (.int .i64 0), (.int .i64 0)] 258) →
  loopD3 record_reader_numbers_la1 (dnF Tryz.prog record_reader_numbers_an (code Tryz.f214) 395 [0, 0, 1, 0, 1, 1, 1]) (kont3 Tryz.prog record_reader_numbers_an (code Tryz.f214) [1, 1, 1, 0, 1, 0] [] (post3 Tryz.prog Tryz.f214 [0] R)) (record_reader_numbers_v1 b0 b1 b2 false 0) (record_reader_numbers_m1 b0 b1 b2 o0 o1 o2 0 0 0 0) w41
theorem record_reader_numbers_eq (b0 : Nat) (o0 : ByteArray) (o1 : Int) (o2 : Int) (R : Value → World → Prop) (w : World) :
    dnF Tryz.prog record_reader_numbers_an (code Tryz.f214) 400 [] (post3 Tryz.prog Tryz.f214 [0] R) ⟨(0, .pointer (some ⟨b0, 0, none⟩), some (0, 0)) :: args0 1 [], fun _ => undef⟩ ⟨[⟨b0, 257, [(.string o0), (.int .i64 o1), (.int .i64 o2)], false⟩], w, [], [], true⟩ = record_reader_numbers_T b0 o0 o1 o2 R w := by kernel_rfl
theorem record_reader_numbers_go {b0 : Nat} {o0 : ByteArray} {o1 : Int} {o2 : Int} {R : Value → World → Prop} {w : World} (hb : w.heap[b0]? = some (.cells #[(.string o0), (.int .i64 o1), (.int .i64 o2)] 257)) (h : record_reader_numbers_T b0 o0 o1 o2 R w) :
    Calls Tryz.prog 214 #[(.pointer (some ⟨b0, 0, none⟩))] w fun e w' => ∃ v, e = .returned v ∧ R v w' :=
  calls_one Tryz.wide_mixed (f := 214) (args := []) Tryz.func214 rfl rfl (by kernel_rfl) rfl hb (Eq.mpr (record_reader_numbers_eq b0 o0 o1 o2 R w) h)
def record_Parse_la1 : LA := ⟨[0, 0, 1, 0, 1, 1, 1, 1], [4, 7, 8, 9, 10], [(4, 0, 0), (7, 1, 0), (8, 2, 0), (9, 3, 0)], 4, [1]⟩
def record_Parse_an : List LA := [record_Parse_la1]
def record_Parse_v1 (bm0 : Nat) (bm1 : Nat) (bm2 : Nat) (bm3 : Nat) (x_10 : Int) : List Value := [(.pointer (some ⟨bm0, 0, none⟩)), (.pointer (some ⟨bm1, 0, none⟩)), (.pointer (some ⟨bm2, 0, none⟩)), (.pointer (some ⟨bm3, 0, none⟩)), (.int .i64 x_10)]
def record_Parse_m1 (bm0 : Nat) (bm1 : Nat) (bm2 : Nat) (x_m2_0 : Int) (x_m2_1 : Int) (x_m2_2 : Int) (x_m2_3 : Int) (bm3 : Nat) (x_m3_0 : Int) (x_m3_1 : Int) (x_m3_2 : Int) (s_m1_0 : ByteArray) (x_m1_1 : Int) (x_m1_2 : Int) (a_m3_3 : Option Addr) (n_m3_3 : Nat) (c_m3_3 : Nat) : List TB := [⟨bm0, 35, [(.int .i64 0), (.int .i64 0), (.int .i64 0), (.slice none 0 0)], false⟩, ⟨bm1, 257, [(.string s_m1_0), (.int .i64 x_m1_1), (.int .i64 x_m1_2)], true⟩, ⟨bm2, 258, [(.int .i64 x_m2_0), (.int .i64 x_m2_1), (.int .i64 x_m2_2), (.int .i64 x_m2_3)], false⟩, ⟨bm3, 35, [(.int .i64 x_m3_0), (.int .i64 x_m3_1), (.int .i64 x_m3_2), (.slice a_m3_3 n_m3_3 c_m3_3)], false⟩]
def record_Parse_L1 (bm0 : Nat) (bm1 : Nat) (bm2 : Nat) (x_m2_0 : Int) (x_m2_1 : Int) (x_m2_2 : Int) (x_m2_3 : Int) (bm3 : Nat) (x_m3_0 : Int) (x_m3_1 : Int) (x_m3_2 : Int) (x_10 : Int) (s_m1_0 : ByteArray) (x_m1_1 : Int) (x_m1_2 : Int) (a_m3_3 : Option Addr) (n_m3_3 : Nat) (c_m3_3 : Nat) (K1 : Kh) (R : Value → World → Prop) (w : World) : Prop :=
  w.heap[bm1]? = some (.cells #[(.string s_m1_0), (.int .i64 x_m1_1), (.int .i64 x_m1_2)] 257) →
  brB (x_m1_2 == 0) (
    brB (decide (x_10 < x_m2_3)) (
      ∀ w14, Adv [] [] w w14 → w14.heap[bm1]? = some (.cells #[(.string s_m1_0), (.int .i64 x_m1_1), (.int .i64 x_m1_2)] 257) →
      Calls Tryz.prog 215 #[(.pointer (some ⟨bm1, 0, none⟩))] w14 fun e w15 => ∃ t16 : Bool, ∃ s17 : ByteArray, ∃ t18 : Bool, ∃ s19 : ByteArray, e = .returned (.agg #[(.bool t16), (.string s17), (.bool t18), (.string s19)]) ∧ KeepE [bm1] [(bm0, 35), (bm2, 258), (bm3, 35)] [bm0, bm2, bm3] w14 w15 ∧ ∃ s20 : ByteArray, ∃ x21 : Int, ∃ x22 : Int, w15.heap[bm1]? = some (.cells #[(.string s20), (.int .i64 x21), (.int .i64 x22)] 257) ∧ (((.slice a_m3_3 n_m3_3 c_m3_3) : Value) = (.slice a_m3_3 n_m3_3 c_m3_3)) ∧
      al w15 (.cells #[(.bool t16), (.string s17), (.bool t18), (.string s19)] 149) fun b23 w24 =>
      effSl Tryz.prog (Builtin.append_ #[33, 33] 33 #[(.slice a_m3_3 n_m3_3 c_m3_3), (.slice (some ⟨b23, 0, none⟩) 1 1)]) w24 fun a26 n27 c28 w25 => Keep [bm0, bm1, bm2, bm3] w24 w25 ∧
      ∀ w29, Adv [bm3] [] w25 w29 → w29.heap[bm1]? = some (.cells #[(.string s20), (.int .i64 x21), (.int .i64 x22)] 257) →
      K1 (record_Parse_v1 bm0 bm1 bm2 bm3 (IntKind.wrap .i64 (x_10 + 1))) (record_Parse_m1 bm0 bm1 bm2 x_m2_0 x_m2_1 x_m2_2 x_m2_3 bm3 x_m3_0 x_m3_1 x_m3_2 s20 x21 x22 a26 n27 c28) w29)
    (
      brB (x_m1_2 != 0) ((((.int .i64 x_m1_2) : Value) = (.int .i64 x_m1_2)) ∧
        ∀ w30, Adv [bm0] [] w w30 → w30.heap[bm1]? = some (.cells #[(.string s_m1_0), (.int .i64 x_m1_1), (.int .i64 x_m1_2)] 257) →
        R (.tuple #[(.agg #[(.int .i64 0), (.int .i64 0), (.int .i64 0), (.slice none 0 0)]), (.int .i64 0), (.int .i64 x_m1_2)]) w30)
      ((((.int .i64 x_m1_1) : Value) = (.int .i64 x_m1_1)) ∧
        ∀ w31, Adv [bm0] [] w w31 → w31.heap[bm1]? = some (.cells #[(.string s_m1_0), (.int .i64 x_m1_1), (.int .i64 x_m1_2)] 257) →
        R (.tuple #[(.agg #[(.int .i64 x_m3_0), (.int .i64 x_m3_1), (.int .i64 x_m3_2), (.slice a_m3_3 n_m3_3 c_m3_3)]), (.int .i64 x_m1_1), (.int .i64 0)]) w31)))
  (
    brB (x_m1_2 != 0) ((((.int .i64 x_m1_2) : Value) = (.int .i64 x_m1_2)) ∧
      ∀ w32, Adv [bm0] [] w w32 → w32.heap[bm1]? = some (.cells #[(.string s_m1_0), (.int .i64 x_m1_1), (.int .i64 x_m1_2)] 257) →
      R (.tuple #[(.agg #[(.int .i64 0), (.int .i64 0), (.int .i64 0), (.slice none 0 0)]), (.int .i64 0), (.int .i64 x_m1_2)]) w32)
    ((((.int .i64 x_m1_1) : Value) = (.int .i64 x_m1_1)) ∧
      ∀ w33, Adv [bm0] [] w w33 → w33.heap[bm1]? = some (.cells #[(.string s_m1_0), (.int .i64 x_m1_1), (.int .i64 x_m1_2)] 257) →
      R (.tuple #[(.agg #[(.int .i64 x_m3_0), (.int .i64 x_m3_1), (.int .i64 x_m3_2), (.slice a_m3_3 n_m3_3 c_m3_3)]), (.int .i64 x_m1_1), (.int .i64 0)]) w33))
theorem record_Parse_L1_eq (bm0 : Nat) (bm1 : Nat) (bm2 : Nat) (x_m2_0 : Int) (x_m2_1 : Int) (x_m2_2 : Int) (x_m2_3 : Int) (bm3 : Nat) (x_m3_0 : Int) (x_m3_1 : Int) (x_m3_2 : Int) (x_10 : Int) (s_m1_0 : ByteArray) (x_m1_1 : Int) (x_m1_2 : Int) (a_m3_3 : Option Addr) (n_m3_3 : Nat) (c_m3_3 : Nat) (K1 : Kh) (js : Nat → Value) (R : Value → World → Prop) (w : World) :
    headA record_Parse_la1 ((dnF Tryz.prog record_Parse_an (code Tryz.f213) 394 [0, 0, 1, 0, 1, 1, 1, 1]) (kthen3 (atA record_Parse_la1 K1) (kont3 Tryz.prog record_Parse_an (code Tryz.f213) [1, 1, 1, 1, 0, 1, 0] [] (post3 Tryz.prog Tryz.f213 [] R)))) (record_Parse_v1 bm0 bm1 bm2 bm3 x_10) js (record_Parse_m1 bm0 bm1 bm2 x_m2_0 x_m2_1 x_m2_2 x_m2_3 bm3 x_m3_0 x_m3_1 x_m3_2 s_m1_0 x_m1_1 x_m1_2 a_m3_3 n_m3_3 c_m3_3) w = record_Parse_L1 bm0 bm1 bm2 x_m2_0 x_m2_1 x_m2_2 x_m2_3 bm3 x_m3_0 x_m3_1 x_m3_2 x_10 s_m1_0 x_m1_1 x_m1_2 a_m3_3 n_m3_3 c_m3_3 K1 R w := by kernel_rfl
def record_Parse_K1 (bm0 : Nat) (bm1 : Nat) (bm2 : Nat) (x_m2_0 : Int) (x_m2_1 : Int) (x_m2_2 : Int) (x_m2_3 : Int) (bm3 : Nat) (x_m3_0 : Int) (x_m3_1 : Int) (x_m3_2 : Int) (I : Nat → Int → ByteArray → Int → Int → Option Addr → Nat → Nat → World → Prop) (m : Nat) (vals : List Value) (mem : List TB) (w : World) : Prop := ∃ m', m' < m ∧ ∃ x_10 s_m1_0 x_m1_1 x_m1_2 a_m3_3 n_m3_3 c_m3_3, vals = (record_Parse_v1 bm0 bm1 bm2 bm3 x_10) ∧ mem = (record_Parse_m1 bm0 bm1 bm2 x_m2_0 x_m2_1 x_m2_2 x_m2_3 bm3 x_m3_0 x_m3_1 x_m3_2 s_m1_0 x_m1_1 x_m1_2 a_m3_3 n_m3_3 c_m3_3) ∧ I m' x_10 s_m1_0 x_m1_1 x_m1_2 a_m3_3 n_m3_3 c_m3_3 w
theorem record_Parse_leaf1 {bm0 : Nat} {bm1 : Nat} {bm2 : Nat} {x_m2_0 : Int} {x_m2_1 : Int} {x_m2_2 : Int} {x_m2_3 : Int} {bm3 : Nat} {x_m3_0 : Int} {x_m3_1 : Int} {x_m3_2 : Int} {I : Nat → Int → ByteArray → Int → Int → Option Addr → Nat → Nat → World → Prop} {m : Nat} {x_10 : Int} {s_m1_0 : ByteArray} {x_m1_1 : Int} {x_m1_2 : Int} {a_m3_3 : Option Addr} {n_m3_3 : Nat} {c_m3_3 : Nat} {w : World} (m' : Nat) (h1 : m' < m) (h2 : I m' x_10 s_m1_0 x_m1_1 x_m1_2 a_m3_3 n_m3_3 c_m3_3 w) : record_Parse_K1 bm0 bm1 bm2 x_m2_0 x_m2_1 x_m2_2 x_m2_3 bm3 x_m3_0 x_m3_1 x_m3_2 I m (record_Parse_v1 bm0 bm1 bm2 bm3 x_10) (record_Parse_m1 bm0 bm1 bm2 x_m2_0 x_m2_1 x_m2_2 x_m2_3 bm3 x_m3_0 x_m3_1 x_m3_2 s_m1_0 x_m1_1 x_m1_2 a_m3_3 n_m3_3 c_m3_3) w := ⟨m', h1, _, _, _, _, _, _, _, rfl, rfl, h2⟩
theorem record_Parse_rule1 {bm0 : Nat} {bm1 : Nat} {bm2 : Nat} {x_m2_0 : Int} {x_m2_1 : Int} {x_m2_2 : Int} {x_m2_3 : Int} {bm3 : Nat} {x_m3_0 : Int} {x_m3_1 : Int} {x_m3_2 : Int} {x_100 : Int} {s_m1_00 : ByteArray} {x_m1_10 : Int} {x_m1_20 : Int} {a_m3_30 : Option Addr} {n_m3_30 : Nat} {c_m3_30 : Nat} {R : Value → World → Prop} {w0 : World} (I : Nat → Int → ByteArray → Int → Int → Option Addr → Nat → Nat → World → Prop) (m0 : Nat) (h0 : I m0 x_100 s_m1_00 x_m1_10 x_m1_20 a_m3_30 n_m3_30 c_m3_30 w0)
    (hr : ∀ (m : Nat) (x_10 : Int) (s_m1_0 : ByteArray) (x_m1_1 : Int) (x_m1_2 : Int) (a_m3_3 : Option Addr) (n_m3_3 : Nat) (c_m3_3 : Nat) (w : World), I m x_10 s_m1_0 x_m1_1 x_m1_2 a_m3_3 n_m3_3 c_m3_3 w → record_Parse_L1 bm0 bm1 bm2 x_m2_0 x_m2_1 x_m2_2 x_m2_3 bm3 x_m3_0 x_m3_1 x_m3_2 x_10 s_m1_0 x_m1_1 x_m1_2 a_m3_3 n_m3_3 c_m3_3 (record_Parse_K1 bm0 bm1 bm2 x_m2_0 x_m2_1 x_m2_2 x_m2_3 bm3 x_m3_0 x_m3_1 x_m3_2 I m) R w) :
    loopD3 record_Parse_la1 (dnF Tryz.prog record_Parse_an (code Tryz.f213) 394 [0, 0, 1, 0, 1, 1, 1, 1]) (kont3 Tryz.prog record_Parse_an (code Tryz.f213) [1, 1, 1, 1, 0, 1, 0] [] (post3 Tryz.prog Tryz.f213 [] R)) (record_Parse_v1 bm0 bm1 bm2 bm3 x_100) (record_Parse_m1 bm0 bm1 bm2 x_m2_0 x_m2_1 x_m2_2 x_m2_3 bm3 x_m3_0 x_m3_1 x_m3_2 s_m1_00 x_m1_10 x_m1_20 a_m3_30 n_m3_30 c_m3_30) w0 := by
  refine ⟨fun m vals mem w => ∃ x_10 s_m1_0 x_m1_1 x_m1_2 a_m3_3 n_m3_3 c_m3_3, vals = (record_Parse_v1 bm0 bm1 bm2 bm3 x_10) ∧ mem = (record_Parse_m1 bm0 bm1 bm2 x_m2_0 x_m2_1 x_m2_2 x_m2_3 bm3 x_m3_0 x_m3_1 x_m3_2 s_m1_0 x_m1_1 x_m1_2 a_m3_3 n_m3_3 c_m3_3) ∧ I m x_10 s_m1_0 x_m1_1 x_m1_2 a_m3_3 n_m3_3 c_m3_3 w, m0, ⟨_, _, _, _, _, _, _, rfl, rfl, h0⟩, ?_⟩
  rintro m vals mem w ⟨x_10, s_m1_0, x_m1_1, x_m1_2, a_m3_3, n_m3_3, c_m3_3, rfl, rfl, hI⟩
  refine ⟨rfl, rfl, fun js => ?_⟩
  have h := hr m x_10 s_m1_0 x_m1_1 x_m1_2 a_m3_3 n_m3_3 c_m3_3 w hI
  rw [← record_Parse_L1_eq _ _ _ _ _ _ _ _ _ _ _ _ _ _ _ _ _ _ _ js] at h
  exact h
/-- stagecoach/record.Parse -/
def record_Parse_T (a0_s : ByteArray) (a1_at : Int) (R : Value → World → Prop) (w : World) : Prop :=
  ∀ b1, w.heap.size ≤ b1 →
  ∀ b2, w.heap.size ≤ b2 →
  ∀ w3, Adv [] [b2, b1] w w3 → w3.heap[b2]? = some (.cells #[(.string a0_s), (.int .i64 a1_at), (.int .i64 0)] 257) →
  Calls Tryz.prog 214 #[(.pointer (some ⟨b2, 0, none⟩))] w3 fun e w4 => ∃ x5 : Int, ∃ x6 : Int, ∃ x7 : Int, ∃ x8 : Int, e = .returned (.agg #[(.int .i64 x5), (.int .i64 x6), (.int .i64 x7), (.int .i64 x8)]) ∧ KeepE [b2] [(b1, 35)] [b1] w3 w4 ∧ ∃ s9 : ByteArray, ∃ x10 : Int, ∃ x11 : Int, w4.heap[b2]? = some (.cells #[(.string s9), (.int .i64 x10), (.int .i64 x11)] 257) ∧
  ∀ b12, w4.heap.size ≤ b12 →
  ∀ b13, w4.heap.size ≤ b13 →
  ∀ w34, Adv [] [b13, b12] w4 w34 → w34.heap[b2]? = some (.cells #[(.string s9), (.int .i64 x10), (.int .i64 x11)] 257) →
  loopD3 record_Parse_la1 (dnF Tryz.prog record_Parse_an (code Tryz.f213) 394 [0, 0, 1, 0, 1, 1, 1, 1]) (kont3 Tryz.prog record_Parse_an (code Tryz.f213) [1, 1, 1, 1, 0, 1, 0] [] (post3 Tryz.prog Tryz.f213 [] R)) (record_Parse_v1 b1 b2 b12 b13 0) (record_Parse_m1 b1 b2 b12 x5 x6 x7 x8 b13 x5 x6 x7 s9 x10 x11 none 0 0) w34
theorem record_Parse_eq (a0_s : ByteArray) (a1_at : Int) (R : Value → World → Prop) (w : World) :
    dnF Tryz.prog record_Parse_an (code Tryz.f213) 400 [] (post3 Tryz.prog Tryz.f213 [] R) ⟨args0 0 [(.string a0_s), (.int .i64 a1_at)], fun _ => undef⟩ ⟨[], w, [], [], true⟩ = record_Parse_T a0_s a1_at R w := by kernel_rfl
theorem record_Parse_go {a0_s : ByteArray} {a1_at : Int} {R : Value → World → Prop} {w : World} (h : record_Parse_T a0_s a1_at R w) :
    Calls Tryz.prog 213 #[(.string a0_s), (.int .i64 a1_at)] w fun e w' => ∃ v, e = .returned v ∧ R v w' :=
  calls_none Tryz.wide_mixed (f := 213) (args := [(.string a0_s), (.int .i64 a1_at)]) Tryz.func213 rfl rfl (by kernel_rfl) rfl (Eq.mpr (record_Parse_eq a0_s a1_at R w) h)

end Go.Proofs.YtohgihgddknmmaaGreat

/- A batch's bytes. -/
namespace Go.Proofs.YtohgihgddknmmaaGreat
open Go Go.RowKit
set_option linter.unusedVariables false
set_option linter.unusedSimpArgs false

def batHd (b : PBatch) : List Nat := [b.prod.toNat, b.epoch.toNat, b.seq.toNat, b.recs.length]
def batchB (b : PBatch) : List UInt8 := (batHd b).flatMap vPutL ++ b.recs.flatMap recB
structure BatGood (b : PBatch) : Prop where
  hd : 0 ≤ b.prod ∧ b.prod ≤ 1099511627776 ∧ 0 ≤ b.epoch ∧ b.epoch ≤ 1099511627776 ∧ 0 ≤ b.seq ∧ b.seq ≤ 1099511627776
  r : ∀ x ∈ b.recs, recE x = 0
  lr : 1 ≤ b.recs.length ∧ b.recs.length ≤ 16
theorem BatGood.of {b : PBatch} (h : batchE b = 0) : BatGood b := by
  unfold batchE at h
  split at h
  · omega
  rename_i h1
  split at h
  · omega
  split at h
  · omega
  rename_i h2 h3
  have h1 := Bool.not_eq_false _ ▸ h1
  simp only [Bool.and_eq_true] at h1
  have nb : ∀ {x : Int}, num x = true → 0 ≤ x ∧ x ≤ 1099511627776 := fun h => by simpa [num] using h
  have a1 := nb h1.1.1
  have a2 := nb h1.1.2
  have a3 := nb h1.2
  refine ⟨by omega, fun x hx => ?_, by omega⟩
  split at h
  · rename_i hn
    have := List.find?_eq_none.1 hn x hx
    simpa using this
  · rename_i r hr
    have := List.find?_some hr
    simp [h] at this
theorem BatGood.le {b : PBatch} (h : BatGood b) : ∀ x ∈ batHd b, x ≤ 1099511627776 := by
  intro x hx
  have := h.hd
  have := h.lr
  simp [batHd] at hx
  omega
theorem BatGood.len1 {b : PBatch} (h : BatGood b) (k : Nat) : (((batHd b).take k).flatMap vPutL).length ≤ 40 := by
  have := flat_le (f := vPutL) (c := 10) (l := (batHd b).take k) fun x hx => (vPutL_len x (by have := h.le x (List.mem_of_mem_take hx); omega)).2
  have e : ((batHd b).take k).length ≤ 4 := by rw [List.length_take]; simp [batHd]; omega
  omega
theorem BatGood.len2 {b : PBatch} (h : BatGood b) (k : Nat) : ((b.recs.take k).flatMap recB).length ≤ 9600 := by
  have := flat_le (f := recB) (c := 600) (l := b.recs.take k) fun x hx => recB_len (h.r x (List.mem_of_mem_take hx))
  have e : (b.recs.take k).length ≤ 16 := by rw [List.length_take]; have := h.lr; omega
  omega
theorem BatGood.len {b : PBatch} (h : BatGood b) : (batchB b).length ≤ 10000 ∧ 1 ≤ (batchB b).length := by
  have h1 := h.len1 4
  have h2 := h.len2 b.recs.length
  have e : (batHd b).take 4 = batHd b := List.take_of_length_le (by simp [batHd])
  rw [e] at h1
  rw [List.take_length] at h2
  have h3 := (vPutL_len b.recs.length (by have := h.lr; omega)).1
  have h4 : (vPutL b.recs.length).length ≤ ((batHd b).flatMap vPutL).length := by simp [batHd]; omega
  unfold batchB; rw [List.length_append]; omega
theorem Batch_ok {w : World} {b : PBatch} {rs : Sl} (h : SlAt w 4 encR rs.a rs.n b.recs) (hl : b.recs.length ≤ 1000000) :
    Calls Tryz.prog 208 #[b.v rs] w fun e w' => e = .returned (.tuple #[.string (if batchE b = 0 then bs (batchB b) else bs []), .int .i64 (batchE b)]) ∧ Mod [] w w' := by
  refine go_of (record_Batch_go ?_)
  intro b1 f1 w1 A1
  have l1 := A1.lt b1 (by simp)
  refine (RecAll_ok (b := b) (rs := rs) (h.keep0 A1.mod) hl).mono ?_
  rintro e w2 ⟨rfl, M2⟩
  refine ⟨_, rfl, Keep.of0 M2, ?_⟩
  have N2 := A1.mod.go0 M2 (by simp)
  have s2 := N2.size
  have s2' := M2.size
  refine brB_of (fun g1 => ?_) fun g1 => ?_
  · have g : ¬ batchE b = 0 := by simpa using g1
    rw [if_neg g]; exact ⟨rfl, N2⟩
  have g : batchE b = 0 := by simpa using g1
  have G := BatGood.of g
  have hhd := G.hd
  have hlr := G.lr
  intro b3 f3 w3 A3
  have l3 := A3.lt b3 (by simp)
  refine al_of fun b4 w4 c4 M4 f4 => ?_
  intro w5 A5 hb5
  have s3 := A3.mod.size
  have s4 := M4.size
  have s5 := A5.mod.size
  have M5 := (A3.mod.go0 M4 (by simp)).go0 A5.mod (by simp)
  have c5 := A5.mod.keep0 c4
  have hbd : Sb w2.heap.size b3 [] w5 := Sb.fresh f3 hb5
  have hne : b4 ≠ b3 := by omega
  have Wr0 : Wr w2.heap.size b3 w2 w5 := Wr.of0 M5 (Nat.le_refl _)
  have mod0 : ∀ {w'}, Wr w2.heap.size b3 w5 w' → Mod [] w w' := fun W => (Wr0.trans W).mod N2 s2
  have hcell : ∀ {w' : World}, Wr w2.heap.size b3 w5 w' → SlAt w' 1 encN (some ⟨b4, 0, none⟩) 4 (batHd b) := fun {w'} W => by
    have c6 := W.keep c5 hne (by decide)
    refine ⟨rfl, fun i x hx => ⟨_, rfl, fun j v hv => ?_⟩⟩
    have hj : j = 0 := by have := (List.getElem?_eq_some_iff.1 hv).1; simp [encN] at this; omega
    subst hj
    rw [addr_add, addr_add, cell_at c6]
    simp [encN] at hv
    subst hv
    have hi := (List.getElem?_eq_some_iff.1 hx).1
    simp [batHd] at hi
    have e4 := h.1
    match i, hi, hx with
    | 0, _, hx => simp [batHd] at hx; subst hx; simp; omega
    | 1, _, hx => simp [batHd] at hx; subst hx; simp; omega
    | 2, _, hx => simp [batHd] at hx; subst hx; simp; omega
    | 3, _, hx => simp [batHd] at hx; subst hx; simp; omega
  refine record_Batch_rule1 (fun mm x p0 a0 n0 c0 w' => ∃ k : Nat, x = k ∧ k ≤ 4 ∧ Sb w2.heap.size b3 (((batHd b).take k).flatMap vPutL) w' ∧ Wr w2.heap.size b3 w5 w' ∧ mm = 4 - k) 4 ⟨0, rfl, by omega, by simpa using hbd, Wr.of0 (Mod.refl _) (by omega), rfl⟩ ?_
  rintro mm x p0 a0 n0 c0 w6 ⟨k, rfl, hk, hB6, W6, rfl⟩ hc6
  have s6 := W6.bel.size
  refine brB_dec (fun hlt => ?_) fun hge => ?_
  · obtain ⟨x, hx⟩ : ∃ x, (batHd b)[k]? = some x := ⟨_, List.getElem?_eq_getElem (by simp [batHd]; omega)⟩
    have hx2 := G.le x (List.mem_of_getElem? hx)
    refine (hcell W6).ix hx fun q hq => ldInt_of (x := (x : Nat)) (by simpa [add_zero] using hq 0 _ rfl) ?_
    rw [wrapU (by omega)]
    refine (Put_ok x (by omega) w6).mono ?_
    rintro e w7 ⟨rfl, M7⟩
    have hB7 := hB6.keep0 M7
    have s7 := M7.size
    obtain ⟨p7, a7, n7, c7, hc7⟩ := Sb.cells hB7
    refine ⟨_, rfl, Keep.of0 M7, p7, a7, n7, c7, hc7, ?_⟩
    refine (SW_ok (l2 := vPutL x) hB7 (by have := G.len1 k; have := vPutL_len x (by omega); omega) (by omega)).mono ?_
    rintro e w8 ⟨rfl, hB8, W8⟩
    obtain ⟨p8, a8, n8, c8, hc8⟩ := Sb.cells hB8
    refine ⟨_, _, rfl, W8.keepE fun k hk he => ?_, p8, a8, n8, c8, hc8, ?_⟩
    · simp at hk he; omega
    refine record_Batch_leaf1 (4 - (k + 1)) (by omega) ⟨k + 1, by rw [wrap_id (by omega) (by omega)]; omega, by omega, ?_, (W6.trans (Wr.of0 M7 (by omega))).trans W8, rfl⟩
    rw [take_flat hx]
    exact hB8
  have hk4 : k = 4 := by omega
  subst hk4
  have e1 : (batHd b).take 4 = batHd b := List.take_of_length_le (by simp [batHd])
  have len1 := G.len1 4
  rw [e1] at hB6 len1
  have e4 := h.1
  refine record_Batch_rule2 (fun mm x p0 a0 n0 c0 w' => ∃ k : Nat, x = k ∧ k ≤ b.recs.length ∧ Sb w2.heap.size b3 ((batHd b).flatMap vPutL ++ (b.recs.take k).flatMap recB) w' ∧ Wr w2.heap.size b3 w5 w' ∧ mm = b.recs.length - k) b.recs.length ⟨0, rfl, by omega, by simpa using hB6, W6, rfl⟩ ?_
  clear hB6 W6 hc6 s6
  rintro mm x p0 a0 n0 c0 w6 ⟨k, rfl, hk, hB6, W6, rfl⟩ hc6
  have s6 := W6.bel.size
  have len2 := G.len2 k
  refine brB_dec (fun hlt => ?_) fun hge => ?_
  · obtain ⟨x, hx⟩ : ∃ x, b.recs[k]? = some x := ⟨_, List.getElem?_eq_getElem (by omega)⟩
    have hx2 := G.r x (List.mem_of_getElem? hx)
    refine (h.keep0 (mod0 W6)).ix hx fun q hq => ldBool_of (by simpa [add_zero] using hq 0 _ rfl) (ldStr_of (hq 1 _ rfl) (ldBool_of (hq 2 _ rfl) (ldStr_of (hq 3 _ rfl) ?_)))
    intro b7 f7 w7 A7 hb7
    have s7 := A7.mod.size
    refine (text_ok x hx2 w7).mono ?_
    rintro e w8 ⟨rfl, M8⟩
    have hB8 := (hB6.keep0 A7.mod).keep0 M8
    have s8 := M8.size
    obtain ⟨p8, a8, n8, c8, hc8⟩ := Sb.cells hB8
    refine ⟨_, rfl, Keep.of0 M8, p8, a8, n8, c8, hc8, ?_⟩
    refine (SW_ok (l2 := recB x) hB8 (by rw [List.length_append]; have := recB_len hx2; omega) (by omega)).mono ?_
    rintro e w9 ⟨rfl, hB9, W9⟩
    obtain ⟨p9, a9, n9, c9, hc9⟩ := Sb.cells hB9
    refine ⟨_, _, rfl, W9.keepE fun k hk he => ?_, p9, a9, n9, c9, hc9, ?_⟩
    · simp at hk he
      rcases hk with rfl | rfl
      · omega
      · exact ⟨he, .inr ⟨_, by simp; exact .inr rfl, by decide⟩⟩
    refine record_Batch_leaf2 (b.recs.length - (k + 1)) (by omega) ⟨k + 1, by rw [wrap_id (by omega) (by omega)]; omega, by omega, ?_, (W6.trans ((Wr.of0 A7.mod (by omega)).trans (Wr.of0 M8 (by omega)))).trans W9, rfl⟩
    rw [take_flat hx, ← List.append_assoc]
    exact hB9
  · have hk : k = b.recs.length := by omega
    subst hk
    rw [List.take_length] at hB6
    have hlen := G.len
    refine (SS_ok (l := batchB b) hB6 (by intro h; rw [h] at hlen; simp at hlen)).mono ?_
    rintro e w7 ⟨rfl, hB7, W7⟩
    obtain ⟨p7, a7, n7, c7, hc7⟩ := Sb.cells hB7
    refine ⟨_, rfl, W7.keepE fun k hk he => ?_, p7, a7, n7, c7, hc7, ?_, mod0 (W6.trans W7)⟩
    · simp at hk he; omega
    rw [if_pos g, g]
end Go.Proofs.YtohgihgddknmmaaGreat

/- The conditions of Go functions' bodies, printed by gen2.py. -/
namespace Go.Proofs.YtohgihgddknmmaaGreat
open Go Go.RowKit
set_option linter.unusedVariables false
set_option maxRecDepth 100000

def wr_request_writer_flag_an : List LA := []
/-- (*stagecoach/request.writer).flag -/
def wr_request_writer_flag_T (a0_w : Addr) (a1_is : Addr) (R : Value → World → Prop) (w : World) : Prop :=
  ∀ b1, w.heap.size ≤ b1 →
  ∀ w2, Adv [] [b1] w w2 →
  ldBool w2 a1_is fun t3 =>
  brB t3 (
    ∀ w4, Adv [b1] [] w2 w4 → w4.heap[b1]? = some (.cells #[(.int .i64 1)] 3) →
    Calls Tryz.prog 127 #[(.pointer (some a0_w)), (.pointer (some ⟨b1, 0, none⟩))] w4 fun e w5 => e = .returned (.tuple #[]) ∧ ∃ x6 : Int, w5.heap[b1]? = some (.cells #[(.int .i64 x6)] 3) ∧
    R (.tuple #[]) w5)
  (
    ∀ w7, Adv [] [] w2 w7 → w7.heap[b1]? = some (.cells #[(.int .i64 0)] 3) →
    Calls Tryz.prog 127 #[(.pointer (some a0_w)), (.pointer (some ⟨b1, 0, none⟩))] w7 fun e w8 => e = .returned (.tuple #[]) ∧ ∃ x9 : Int, w8.heap[b1]? = some (.cells #[(.int .i64 x9)] 3) ∧
    R (.tuple #[]) w8)
theorem wr_request_writer_flag_eq (a0_w : Addr) (a1_is : Addr) (R : Value → World → Prop) (w : World) :
    dnF Tryz.prog wr_request_writer_flag_an (code Tryz.f205) 400 [] (post3 Tryz.prog Tryz.f205 [] R) ⟨args0 0 [(.pointer (some a0_w)), (.pointer (some a1_is))], fun _ => undef⟩ ⟨[], w, [], [], true⟩ = wr_request_writer_flag_T a0_w a1_is R w := by kernel_rfl
theorem wr_request_writer_flag_go {a0_w : Addr} {a1_is : Addr} {R : Value → World → Prop} {w : World} (h : wr_request_writer_flag_T a0_w a1_is R w) :
    Calls Tryz.prog 205 #[(.pointer (some a0_w)), (.pointer (some a1_is))] w fun e w' => ∃ v, e = .returned v ∧ R v w' :=
  calls_none Tryz.wide_mixed (f := 205) (args := [(.pointer (some a0_w)), (.pointer (some a1_is))]) Tryz.func205 rfl rfl (by kernel_rfl) rfl (Eq.mpr (wr_request_writer_flag_eq a0_w a1_is R w) h)
def wr_request_writer_batch_an : List LA := []
/-- (*stagecoach/request.writer).batch -/
def wr_request_writer_batch_T (a0_w : Addr) (a1_b : Addr) (R : Value → World → Prop) (w : World) : Prop :=
  ldInt .i64 w a1_b fun x1 => ldInt .i64 w (Addr.add a1_b 1) fun x2 => ldInt .i64 w (Addr.add a1_b 2) fun x3 => ldSlice w (Addr.add a1_b 3) fun a4 n5 c6 =>
  Calls Tryz.prog 208 #[(.agg #[(.int .i64 x1), (.int .i64 x2), (.int .i64 x3), (.slice a4 n5 c6)])] w fun e w7 => ∃ s8 : ByteArray, ∃ x9 : Int, e = .returned (.tuple #[(.string s8), (.int .i64 x9)]) ∧
  Calls Tryz.prog 76 #[(.pointer (some a0_w)), (.string s8)] w7 fun e w10 => ∃ x11 : Int, ∃ v12 : Value, e = .returned (.tuple #[(.int .i64 x11), v12]) ∧
  R (.tuple #[]) w10
theorem wr_request_writer_batch_eq (a0_w : Addr) (a1_b : Addr) (R : Value → World → Prop) (w : World) :
    dnF Tryz.prog wr_request_writer_batch_an (code Tryz.f204) 400 [] (post3 Tryz.prog Tryz.f204 [] R) ⟨args0 0 [(.pointer (some a0_w)), (.pointer (some a1_b))], fun _ => undef⟩ ⟨[], w, [], [], true⟩ = wr_request_writer_batch_T a0_w a1_b R w := by kernel_rfl
theorem wr_request_writer_batch_go {a0_w : Addr} {a1_b : Addr} {R : Value → World → Prop} {w : World} (h : wr_request_writer_batch_T a0_w a1_b R w) :
    Calls Tryz.prog 204 #[(.pointer (some a0_w)), (.pointer (some a1_b))] w fun e w' => ∃ v, e = .returned v ∧ R v w' :=
  calls_none Tryz.wide_mixed (f := 204) (args := [(.pointer (some a0_w)), (.pointer (some a1_b))]) Tryz.func204 rfl rfl (by kernel_rfl) rfl (Eq.mpr (wr_request_writer_batch_eq a0_w a1_b R w) h)
def wr_request_writer_names_la1 : LA := ⟨[0, 0, 1, 1, 1], [0, 15, 16, 17], [], 1, [0]⟩
def wr_request_writer_names_an : List LA := [wr_request_writer_names_la1]
def wr_request_writer_names_v1 (p_0 : Addr) (a_15 : Option Addr) (n_15 : Nat) (c_15 : Nat) (x_16 : Int) (x_17 : Int) : List Value := [(.pointer (some p_0)), (.slice a_15 n_15 c_15), (.int .i64 x_16), (.int .i64 x_17)]
def wr_request_writer_names_m1 (bm0 : Nat) (x_m0_0 : Int) : List TB := [⟨bm0, 3, [(.int .i64 x_m0_0)], true⟩]
def wr_request_writer_names_L1 (p_0 : Addr) (a_15 : Option Addr) (n_15 : Nat) (c_15 : Nat) (x_16 : Int) (bm0 : Nat) (x_17 : Int) (x_m0_0 : Int) (K1 : Kh) (R : Value → World → Prop) (w : World) : Prop :=
  w.heap[bm0]? = some (.cells #[(.int .i64 x_m0_0)] 3) →
  brB (decide (x_17 < x_16)) (
    ixA a_15 n_15 x_17 1 fun q11 =>
    ldStr w q11 fun s12 =>
    ∀ b13, w.heap.size ≤ b13 →
    ∀ w14, Adv [] [b13] w w14 → w14.heap[bm0]? = some (.cells #[(.int .i64 x_m0_0)] 3) →
    w14.heap[b13]? = some (.cells #[(.string s12)] 9) →
    Calls Tryz.prog 206 #[(.pointer (some p_0)), (.pointer (some ⟨b13, 0, none⟩))] w14 fun e w15 => e = .returned (.tuple #[]) ∧ ∃ x16 : Int, w15.heap[bm0]? = some (.cells #[(.int .i64 x16)] 3) ∧ ∃ s17 : ByteArray, w15.heap[b13]? = some (.cells #[(.string s17)] 9) ∧
    K1 (wr_request_writer_names_v1 p_0 a_15 n_15 c_15 x_16 (IntKind.wrap .i64 (x_17 + 1))) (wr_request_writer_names_m1 bm0 x16) w15)
  (
    R (.tuple #[]) w)
theorem wr_request_writer_names_L1_eq (p_0 : Addr) (a_15 : Option Addr) (n_15 : Nat) (c_15 : Nat) (x_16 : Int) (bm0 : Nat) (x_17 : Int) (x_m0_0 : Int) (K1 : Kh) (js : Nat → Value) (R : Value → World → Prop) (w : World) :
    headA wr_request_writer_names_la1 ((dnF Tryz.prog wr_request_writer_names_an (code Tryz.f207) 396 [0, 0, 1, 1, 1]) (kthen3 (atA wr_request_writer_names_la1 K1) (kont3 Tryz.prog wr_request_writer_names_an (code Tryz.f207) [1, 1, 1, 0] [] (post3 Tryz.prog Tryz.f207 [] R)))) (wr_request_writer_names_v1 p_0 a_15 n_15 c_15 x_16 x_17) js (wr_request_writer_names_m1 bm0 x_m0_0) w = wr_request_writer_names_L1 p_0 a_15 n_15 c_15 x_16 bm0 x_17 x_m0_0 K1 R w := by kernel_rfl
def wr_request_writer_names_K1 (p_0 : Addr) (a_15 : Option Addr) (n_15 : Nat) (c_15 : Nat) (x_16 : Int) (bm0 : Nat) (I : Nat → Int → Int → World → Prop) (m : Nat) (vals : List Value) (mem : List TB) (w : World) : Prop := ∃ m', m' < m ∧ ∃ x_17 x_m0_0, vals = (wr_request_writer_names_v1 p_0 a_15 n_15 c_15 x_16 x_17) ∧ mem = (wr_request_writer_names_m1 bm0 x_m0_0) ∧ I m' x_17 x_m0_0 w
theorem wr_request_writer_names_leaf1 {p_0 : Addr} {a_15 : Option Addr} {n_15 : Nat} {c_15 : Nat} {x_16 : Int} {bm0 : Nat} {I : Nat → Int → Int → World → Prop} {m : Nat} {x_17 : Int} {x_m0_0 : Int} {w : World} (m' : Nat) (h1 : m' < m) (h2 : I m' x_17 x_m0_0 w) : wr_request_writer_names_K1 p_0 a_15 n_15 c_15 x_16 bm0 I m (wr_request_writer_names_v1 p_0 a_15 n_15 c_15 x_16 x_17) (wr_request_writer_names_m1 bm0 x_m0_0) w := ⟨m', h1, _, _, rfl, rfl, h2⟩
theorem wr_request_writer_names_rule1 {p_0 : Addr} {a_15 : Option Addr} {n_15 : Nat} {c_15 : Nat} {x_16 : Int} {bm0 : Nat} {x_170 : Int} {x_m0_00 : Int} {R : Value → World → Prop} {w0 : World} (I : Nat → Int → Int → World → Prop) (m0 : Nat) (h0 : I m0 x_170 x_m0_00 w0)
    (hr : ∀ (m : Nat) (x_17 : Int) (x_m0_0 : Int) (w : World), I m x_17 x_m0_0 w → wr_request_writer_names_L1 p_0 a_15 n_15 c_15 x_16 bm0 x_17 x_m0_0 (wr_request_writer_names_K1 p_0 a_15 n_15 c_15 x_16 bm0 I m) R w) :
    loopD3 wr_request_writer_names_la1 (dnF Tryz.prog wr_request_writer_names_an (code Tryz.f207) 396 [0, 0, 1, 1, 1]) (kont3 Tryz.prog wr_request_writer_names_an (code Tryz.f207) [1, 1, 1, 0] [] (post3 Tryz.prog Tryz.f207 [] R)) (wr_request_writer_names_v1 p_0 a_15 n_15 c_15 x_16 x_170) (wr_request_writer_names_m1 bm0 x_m0_00) w0 := by
  refine ⟨fun m vals mem w => ∃ x_17 x_m0_0, vals = (wr_request_writer_names_v1 p_0 a_15 n_15 c_15 x_16 x_17) ∧ mem = (wr_request_writer_names_m1 bm0 x_m0_0) ∧ I m x_17 x_m0_0 w, m0, ⟨_, _, rfl, rfl, h0⟩, ?_⟩
  rintro m vals mem w ⟨x_17, x_m0_0, rfl, rfl, hI⟩
  refine ⟨rfl, rfl, fun js => ?_⟩
  have h := hr m x_17 x_m0_0 w hI
  rw [← wr_request_writer_names_L1_eq _ _ _ _ _ _ _ _ _ js] at h
  exact h
/-- (*stagecoach/request.writer).names -/
def wr_request_writer_names_T (a0_w : Addr) (a1_l : Addr) (R : Value → World → Prop) (w : World) : Prop :=
  ldSlice w a1_l fun a1 n2 c3 =>
  ∀ b4, w.heap.size ≤ b4 →
  ∀ w5, Adv [] [b4] w w5 → w5.heap[b4]? = some (.cells #[(.int .i64 (n2 : Int))] 3) →
  Calls Tryz.prog 127 #[(.pointer (some a0_w)), (.pointer (some ⟨b4, 0, none⟩))] w5 fun e w6 => e = .returned (.tuple #[]) ∧ ∃ x7 : Int, w6.heap[b4]? = some (.cells #[(.int .i64 x7)] 3) ∧
  ldSlice w6 a1_l fun a8 n9 c10 =>
  loopD3 wr_request_writer_names_la1 (dnF Tryz.prog wr_request_writer_names_an (code Tryz.f207) 396 [0, 0, 1, 1, 1]) (kont3 Tryz.prog wr_request_writer_names_an (code Tryz.f207) [1, 1, 1, 0] [] (post3 Tryz.prog Tryz.f207 [] R)) (wr_request_writer_names_v1 a0_w a8 n9 c10 (n9 : Int) 0) (wr_request_writer_names_m1 b4 x7) w6
theorem wr_request_writer_names_eq (a0_w : Addr) (a1_l : Addr) (R : Value → World → Prop) (w : World) :
    dnF Tryz.prog wr_request_writer_names_an (code Tryz.f207) 400 [] (post3 Tryz.prog Tryz.f207 [] R) ⟨args0 0 [(.pointer (some a0_w)), (.pointer (some a1_l))], fun _ => undef⟩ ⟨[], w, [], [], true⟩ = wr_request_writer_names_T a0_w a1_l R w := by kernel_rfl
theorem wr_request_writer_names_go {a0_w : Addr} {a1_l : Addr} {R : Value → World → Prop} {w : World} (h : wr_request_writer_names_T a0_w a1_l R w) :
    Calls Tryz.prog 207 #[(.pointer (some a0_w)), (.pointer (some a1_l))] w fun e w' => ∃ v, e = .returned v ∧ R v w' :=
  calls_none Tryz.wide_mixed (f := 207) (args := [(.pointer (some a0_w)), (.pointer (some a1_l))]) Tryz.func207 rfl rfl (by kernel_rfl) rfl (Eq.mpr (wr_request_writer_names_eq a0_w a1_l R w) h)
def wr_request_part_an : List LA := []
/-- stagecoach/request.part -/
def wr_request_part_T (a1_p : Addr) (a0_v_p : Addr) (R : Value → World → Prop) (w : World) : Prop :=
  ∀ w1, Adv [] [] w w1 →
  Calls Tryz.prog 206 #[(.pointer (some a0_v_p)), (.pointer (some a1_p))] w1 fun e w2 => e = .returned (.tuple #[]) ∧
  ∀ w3, Adv [] [] w2 w3 →
  Calls Tryz.prog 127 #[(.pointer (some a0_v_p)), (.pointer (some (Addr.add a1_p 1)))] w3 fun e w4 => e = .returned (.tuple #[]) ∧
  R (.tuple #[]) w4
theorem wr_request_part_eq (a1_p : Addr) (a0_v_p : Addr) (R : Value → World → Prop) (w : World) :
    dnF Tryz.prog wr_request_part_an (code Tryz.f142) 400 [] (post3 Tryz.prog Tryz.f142 [] R) ⟨args0 0 [(.iface 182 (.pointer (some a0_v_p))), (.pointer (some a1_p))], fun _ => undef⟩ ⟨[], w, [], [], true⟩ = wr_request_part_T a1_p a0_v_p R w := by kernel_rfl
theorem wr_request_part_go {a1_p : Addr} {a0_v_p : Addr} {R : Value → World → Prop} {w : World} (h : wr_request_part_T a1_p a0_v_p R w) :
    Calls Tryz.prog 142 #[(.iface 182 (.pointer (some a0_v_p))), (.pointer (some a1_p))] w fun e w' => ∃ v, e = .returned v ∧ R v w' :=
  calls_none Tryz.wide_mixed (f := 142) (args := [(.iface 182 (.pointer (some a0_v_p))), (.pointer (some a1_p))]) Tryz.func142 rfl rfl (by kernel_rfl) rfl (Eq.mpr (wr_request_part_eq a1_p a0_v_p R w) h)
def wr_request_member_an : List LA := []
/-- stagecoach/request.member -/
def wr_request_member_T (a1_o : Addr) (a0_v_p : Addr) (R : Value → World → Prop) (w : World) : Prop :=
  ∀ w1, Adv [] [] w w1 →
  Calls Tryz.prog 206 #[(.pointer (some a0_v_p)), (.pointer (some (Addr.add a1_o 9)))] w1 fun e w2 => e = .returned (.tuple #[]) ∧
  ∀ w3, Adv [] [] w2 w3 →
  Calls Tryz.prog 206 #[(.pointer (some a0_v_p)), (.pointer (some (Addr.add a1_o 10)))] w3 fun e w4 => e = .returned (.tuple #[]) ∧
  R (.tuple #[]) w4
theorem wr_request_member_eq (a1_o : Addr) (a0_v_p : Addr) (R : Value → World → Prop) (w : World) :
    dnF Tryz.prog wr_request_member_an (code Tryz.f143) 400 [] (post3 Tryz.prog Tryz.f143 [] R) ⟨args0 0 [(.iface 182 (.pointer (some a0_v_p))), (.pointer (some a1_o))], fun _ => undef⟩ ⟨[], w, [], [], true⟩ = wr_request_member_T a1_o a0_v_p R w := by kernel_rfl
theorem wr_request_member_go {a1_o : Addr} {a0_v_p : Addr} {R : Value → World → Prop} {w : World} (h : wr_request_member_T a1_o a0_v_p R w) :
    Calls Tryz.prog 143 #[(.iface 182 (.pointer (some a0_v_p))), (.pointer (some a1_o))] w fun e w' => ∃ v, e = .returned v ∧ R v w' :=
  calls_none Tryz.wide_mixed (f := 143) (args := [(.iface 182 (.pointer (some a0_v_p))), (.pointer (some a1_o))]) Tryz.func143 rfl rfl (by kernel_rfl) rfl (Eq.mpr (wr_request_member_eq a1_o a0_v_p R w) h)
def wr_request_visit_an : List LA := []
/-- stagecoach/request.visit -/
def wr_request_visit_T (a1_o : Addr) (a0_v_p : Addr) (R : Value → World → Prop) (w : World) : Prop :=
  ldInt .i64 w a1_o fun x1 =>
  brB (x1 == 0) (
    ∀ w2, Adv [] [] w w2 →
    Calls Tryz.prog 206 #[(.pointer (some a0_v_p)), (.pointer (some (Addr.add a1_o 1)))] w2 fun e w3 => e = .returned (.tuple #[]) ∧
    ∀ w4, Adv [] [] w3 w4 →
    Calls Tryz.prog 127 #[(.pointer (some a0_v_p)), (.pointer (some (Addr.add a1_o 3)))] w4 fun e w5 => e = .returned (.tuple #[]) ∧
    R (.tuple #[]) w5)
  (
    brB (x1 == 1) (
      brB (x1 == 1) (
        ∀ w6, Adv [] [] w w6 →
        Calls Tryz.prog 127 #[(.pointer (some a0_v_p)), (.pointer (some (Addr.add a1_o 3)))] w6 fun e w7 => e = .returned (.tuple #[]) ∧
        R (.tuple #[]) w7)
      (
        brB (x1 == 2) (
          Calls Tryz.prog 142 #[(.iface 182 (.pointer (some a0_v_p))), (.pointer (some (Addr.add a1_o 1)))] w fun e w8 => e = .returned (.tuple #[]) ∧
          ∀ w9, Adv [] [] w8 w9 →
          Calls Tryz.prog 204 #[(.pointer (some a0_v_p)), (.pointer (some (Addr.add a1_o 5)))] w9 fun e w10 => e = .returned (.tuple #[]) ∧
          R (.tuple #[]) w10)
        (
          brB (x1 == 3) (
            Calls Tryz.prog 142 #[(.iface 182 (.pointer (some a0_v_p))), (.pointer (some (Addr.add a1_o 1)))] w fun e w11 => e = .returned (.tuple #[]) ∧
            ∀ w12, Adv [] [] w11 w12 →
            Calls Tryz.prog 127 #[(.pointer (some a0_v_p)), (.pointer (some (Addr.add a1_o 4)))] w12 fun e w13 => e = .returned (.tuple #[]) ∧
            ∀ w14, Adv [] [] w13 w14 →
            Calls Tryz.prog 127 #[(.pointer (some a0_v_p)), (.pointer (some (Addr.add a1_o 3)))] w14 fun e w15 => e = .returned (.tuple #[]) ∧
            R (.tuple #[]) w15)
          (
            brB (x1 == 4) (
              Calls Tryz.prog 142 #[(.iface 182 (.pointer (some a0_v_p))), (.pointer (some (Addr.add a1_o 1)))] w fun e w16 => e = .returned (.tuple #[]) ∧
              ∀ w17, Adv [] [] w16 w17 →
              Calls Tryz.prog 127 #[(.pointer (some a0_v_p)), (.pointer (some (Addr.add a1_o 4)))] w17 fun e w18 => e = .returned (.tuple #[]) ∧
              R (.tuple #[]) w18)
            (
              brB (x1 == 5) (
                Calls Tryz.prog 142 #[(.iface 182 (.pointer (some a0_v_p))), (.pointer (some (Addr.add a1_o 1)))] w fun e w19 => e = .returned (.tuple #[]) ∧
                R (.tuple #[]) w19)
              (
                brB (x1 == 6) (
                  Calls Tryz.prog 143 #[(.iface 182 (.pointer (some a0_v_p))), (.pointer (some a1_o))] w fun e w20 => e = .returned (.tuple #[]) ∧
                  ∀ w21, Adv [] [] w20 w21 →
                  Calls Tryz.prog 127 #[(.pointer (some a0_v_p)), (.pointer (some (Addr.add a1_o 3)))] w21 fun e w22 => e = .returned (.tuple #[]) ∧
                  ∀ w23, Adv [] [] w22 w23 →
                  Calls Tryz.prog 205 #[(.pointer (some a0_v_p)), (.pointer (some (Addr.add a1_o 12)))] w23 fun e w24 => e = .returned (.tuple #[]) ∧
                  ∀ w25, Adv [] [] w24 w25 →
                  Calls Tryz.prog 207 #[(.pointer (some a0_v_p)), (.pointer (some (Addr.add a1_o 13)))] w25 fun e w26 => e = .returned (.tuple #[]) ∧
                  R (.tuple #[]) w26)
                (
                  brB (x1 == 7) (
                    brB (x1 == 7) (
                      Calls Tryz.prog 143 #[(.iface 182 (.pointer (some a0_v_p))), (.pointer (some a1_o))] w fun e w27 => e = .returned (.tuple #[]) ∧
                      ∀ w28, Adv [] [] w27 w28 →
                      Calls Tryz.prog 127 #[(.pointer (some a0_v_p)), (.pointer (some (Addr.add a1_o 11)))] w28 fun e w29 => e = .returned (.tuple #[]) ∧
                      R (.tuple #[]) w29)
                    (
                      brB (x1 == 10) (
                        Calls Tryz.prog 143 #[(.iface 182 (.pointer (some a0_v_p))), (.pointer (some a1_o))] w fun e w30 => e = .returned (.tuple #[]) ∧
                        ∀ w31, Adv [] [] w30 w31 →
                        Calls Tryz.prog 127 #[(.pointer (some a0_v_p)), (.pointer (some (Addr.add a1_o 11)))] w31 fun e w32 => e = .returned (.tuple #[]) ∧
                        Calls Tryz.prog 142 #[(.iface 182 (.pointer (some a0_v_p))), (.pointer (some (Addr.add a1_o 1)))] w32 fun e w33 => e = .returned (.tuple #[]) ∧
                        ∀ w34, Adv [] [] w33 w34 →
                        Calls Tryz.prog 127 #[(.pointer (some a0_v_p)), (.pointer (some (Addr.add a1_o 4)))] w34 fun e w35 => e = .returned (.tuple #[]) ∧
                        R (.tuple #[]) w35)
                      (
                        brB (x1 == 11) (
                          ∀ w36, Adv [] [] w w36 →
                          Calls Tryz.prog 206 #[(.pointer (some a0_v_p)), (.pointer (some (Addr.add a1_o 9)))] w36 fun e w37 => e = .returned (.tuple #[]) ∧
                          Calls Tryz.prog 142 #[(.iface 182 (.pointer (some a0_v_p))), (.pointer (some (Addr.add a1_o 1)))] w37 fun e w38 => e = .returned (.tuple #[]) ∧
                          R (.tuple #[]) w38)
                        (
                          R (.tuple #[]) w))))
                  (
                    brB (x1 == 8) (
                      brB (x1 == 8) (
                        Calls Tryz.prog 143 #[(.iface 182 (.pointer (some a0_v_p))), (.pointer (some a1_o))] w fun e w39 => e = .returned (.tuple #[]) ∧
                        ∀ w40, Adv [] [] w39 w40 →
                        Calls Tryz.prog 127 #[(.pointer (some a0_v_p)), (.pointer (some (Addr.add a1_o 11)))] w40 fun e w41 => e = .returned (.tuple #[]) ∧
                        R (.tuple #[]) w41)
                      (
                        brB (x1 == 10) (
                          Calls Tryz.prog 143 #[(.iface 182 (.pointer (some a0_v_p))), (.pointer (some a1_o))] w fun e w42 => e = .returned (.tuple #[]) ∧
                          ∀ w43, Adv [] [] w42 w43 →
                          Calls Tryz.prog 127 #[(.pointer (some a0_v_p)), (.pointer (some (Addr.add a1_o 11)))] w43 fun e w44 => e = .returned (.tuple #[]) ∧
                          Calls Tryz.prog 142 #[(.iface 182 (.pointer (some a0_v_p))), (.pointer (some (Addr.add a1_o 1)))] w44 fun e w45 => e = .returned (.tuple #[]) ∧
                          ∀ w46, Adv [] [] w45 w46 →
                          Calls Tryz.prog 127 #[(.pointer (some a0_v_p)), (.pointer (some (Addr.add a1_o 4)))] w46 fun e w47 => e = .returned (.tuple #[]) ∧
                          R (.tuple #[]) w47)
                        (
                          brB (x1 == 11) (
                            ∀ w48, Adv [] [] w w48 →
                            Calls Tryz.prog 206 #[(.pointer (some a0_v_p)), (.pointer (some (Addr.add a1_o 9)))] w48 fun e w49 => e = .returned (.tuple #[]) ∧
                            Calls Tryz.prog 142 #[(.iface 182 (.pointer (some a0_v_p))), (.pointer (some (Addr.add a1_o 1)))] w49 fun e w50 => e = .returned (.tuple #[]) ∧
                            R (.tuple #[]) w50)
                          (
                            R (.tuple #[]) w))))
                    (
                      brB (x1 == 9) (
                        Calls Tryz.prog 143 #[(.iface 182 (.pointer (some a0_v_p))), (.pointer (some a1_o))] w fun e w51 => e = .returned (.tuple #[]) ∧
                        ∀ w52, Adv [] [] w51 w52 →
                        Calls Tryz.prog 127 #[(.pointer (some a0_v_p)), (.pointer (some (Addr.add a1_o 11)))] w52 fun e w53 => e = .returned (.tuple #[]) ∧
                        R (.tuple #[]) w53)
                      (
                        brB (x1 == 10) (
                          Calls Tryz.prog 143 #[(.iface 182 (.pointer (some a0_v_p))), (.pointer (some a1_o))] w fun e w54 => e = .returned (.tuple #[]) ∧
                          ∀ w55, Adv [] [] w54 w55 →
                          Calls Tryz.prog 127 #[(.pointer (some a0_v_p)), (.pointer (some (Addr.add a1_o 11)))] w55 fun e w56 => e = .returned (.tuple #[]) ∧
                          Calls Tryz.prog 142 #[(.iface 182 (.pointer (some a0_v_p))), (.pointer (some (Addr.add a1_o 1)))] w56 fun e w57 => e = .returned (.tuple #[]) ∧
                          ∀ w58, Adv [] [] w57 w58 →
                          Calls Tryz.prog 127 #[(.pointer (some a0_v_p)), (.pointer (some (Addr.add a1_o 4)))] w58 fun e w59 => e = .returned (.tuple #[]) ∧
                          R (.tuple #[]) w59)
                        (
                          brB (x1 == 11) (
                            ∀ w60, Adv [] [] w w60 →
                            Calls Tryz.prog 206 #[(.pointer (some a0_v_p)), (.pointer (some (Addr.add a1_o 9)))] w60 fun e w61 => e = .returned (.tuple #[]) ∧
                            Calls Tryz.prog 142 #[(.iface 182 (.pointer (some a0_v_p))), (.pointer (some (Addr.add a1_o 1)))] w61 fun e w62 => e = .returned (.tuple #[]) ∧
                            R (.tuple #[]) w62)
                          (
                            R (.tuple #[]) w))))))))))))
    (
      brB (x1 == 12) (
        ∀ w63, Adv [] [] w w63 →
        Calls Tryz.prog 127 #[(.pointer (some a0_v_p)), (.pointer (some (Addr.add a1_o 3)))] w63 fun e w64 => e = .returned (.tuple #[]) ∧
        R (.tuple #[]) w64)
      (
        brB (x1 == 2) (
          Calls Tryz.prog 142 #[(.iface 182 (.pointer (some a0_v_p))), (.pointer (some (Addr.add a1_o 1)))] w fun e w65 => e = .returned (.tuple #[]) ∧
          ∀ w66, Adv [] [] w65 w66 →
          Calls Tryz.prog 204 #[(.pointer (some a0_v_p)), (.pointer (some (Addr.add a1_o 5)))] w66 fun e w67 => e = .returned (.tuple #[]) ∧
          R (.tuple #[]) w67)
        (
          brB (x1 == 3) (
            Calls Tryz.prog 142 #[(.iface 182 (.pointer (some a0_v_p))), (.pointer (some (Addr.add a1_o 1)))] w fun e w68 => e = .returned (.tuple #[]) ∧
            ∀ w69, Adv [] [] w68 w69 →
            Calls Tryz.prog 127 #[(.pointer (some a0_v_p)), (.pointer (some (Addr.add a1_o 4)))] w69 fun e w70 => e = .returned (.tuple #[]) ∧
            ∀ w71, Adv [] [] w70 w71 →
            Calls Tryz.prog 127 #[(.pointer (some a0_v_p)), (.pointer (some (Addr.add a1_o 3)))] w71 fun e w72 => e = .returned (.tuple #[]) ∧
            R (.tuple #[]) w72)
          (
            brB (x1 == 4) (
              Calls Tryz.prog 142 #[(.iface 182 (.pointer (some a0_v_p))), (.pointer (some (Addr.add a1_o 1)))] w fun e w73 => e = .returned (.tuple #[]) ∧
              ∀ w74, Adv [] [] w73 w74 →
              Calls Tryz.prog 127 #[(.pointer (some a0_v_p)), (.pointer (some (Addr.add a1_o 4)))] w74 fun e w75 => e = .returned (.tuple #[]) ∧
              R (.tuple #[]) w75)
            (
              brB (x1 == 5) (
                Calls Tryz.prog 142 #[(.iface 182 (.pointer (some a0_v_p))), (.pointer (some (Addr.add a1_o 1)))] w fun e w76 => e = .returned (.tuple #[]) ∧
                R (.tuple #[]) w76)
              (
                brB (x1 == 6) (
                  Calls Tryz.prog 143 #[(.iface 182 (.pointer (some a0_v_p))), (.pointer (some a1_o))] w fun e w77 => e = .returned (.tuple #[]) ∧
                  ∀ w78, Adv [] [] w77 w78 →
                  Calls Tryz.prog 127 #[(.pointer (some a0_v_p)), (.pointer (some (Addr.add a1_o 3)))] w78 fun e w79 => e = .returned (.tuple #[]) ∧
                  ∀ w80, Adv [] [] w79 w80 →
                  Calls Tryz.prog 205 #[(.pointer (some a0_v_p)), (.pointer (some (Addr.add a1_o 12)))] w80 fun e w81 => e = .returned (.tuple #[]) ∧
                  ∀ w82, Adv [] [] w81 w82 →
                  Calls Tryz.prog 207 #[(.pointer (some a0_v_p)), (.pointer (some (Addr.add a1_o 13)))] w82 fun e w83 => e = .returned (.tuple #[]) ∧
                  R (.tuple #[]) w83)
                (
                  brB (x1 == 7) (
                    brB (x1 == 7) (
                      Calls Tryz.prog 143 #[(.iface 182 (.pointer (some a0_v_p))), (.pointer (some a1_o))] w fun e w84 => e = .returned (.tuple #[]) ∧
                      ∀ w85, Adv [] [] w84 w85 →
                      Calls Tryz.prog 127 #[(.pointer (some a0_v_p)), (.pointer (some (Addr.add a1_o 11)))] w85 fun e w86 => e = .returned (.tuple #[]) ∧
                      R (.tuple #[]) w86)
                    (
                      brB (x1 == 10) (
                        Calls Tryz.prog 143 #[(.iface 182 (.pointer (some a0_v_p))), (.pointer (some a1_o))] w fun e w87 => e = .returned (.tuple #[]) ∧
                        ∀ w88, Adv [] [] w87 w88 →
                        Calls Tryz.prog 127 #[(.pointer (some a0_v_p)), (.pointer (some (Addr.add a1_o 11)))] w88 fun e w89 => e = .returned (.tuple #[]) ∧
                        Calls Tryz.prog 142 #[(.iface 182 (.pointer (some a0_v_p))), (.pointer (some (Addr.add a1_o 1)))] w89 fun e w90 => e = .returned (.tuple #[]) ∧
                        ∀ w91, Adv [] [] w90 w91 →
                        Calls Tryz.prog 127 #[(.pointer (some a0_v_p)), (.pointer (some (Addr.add a1_o 4)))] w91 fun e w92 => e = .returned (.tuple #[]) ∧
                        R (.tuple #[]) w92)
                      (
                        brB (x1 == 11) (
                          ∀ w93, Adv [] [] w w93 →
                          Calls Tryz.prog 206 #[(.pointer (some a0_v_p)), (.pointer (some (Addr.add a1_o 9)))] w93 fun e w94 => e = .returned (.tuple #[]) ∧
                          Calls Tryz.prog 142 #[(.iface 182 (.pointer (some a0_v_p))), (.pointer (some (Addr.add a1_o 1)))] w94 fun e w95 => e = .returned (.tuple #[]) ∧
                          R (.tuple #[]) w95)
                        (
                          R (.tuple #[]) w))))
                  (
                    brB (x1 == 8) (
                      brB (x1 == 8) (
                        Calls Tryz.prog 143 #[(.iface 182 (.pointer (some a0_v_p))), (.pointer (some a1_o))] w fun e w96 => e = .returned (.tuple #[]) ∧
                        ∀ w97, Adv [] [] w96 w97 →
                        Calls Tryz.prog 127 #[(.pointer (some a0_v_p)), (.pointer (some (Addr.add a1_o 11)))] w97 fun e w98 => e = .returned (.tuple #[]) ∧
                        R (.tuple #[]) w98)
                      (
                        brB (x1 == 10) (
                          Calls Tryz.prog 143 #[(.iface 182 (.pointer (some a0_v_p))), (.pointer (some a1_o))] w fun e w99 => e = .returned (.tuple #[]) ∧
                          ∀ w100, Adv [] [] w99 w100 →
                          Calls Tryz.prog 127 #[(.pointer (some a0_v_p)), (.pointer (some (Addr.add a1_o 11)))] w100 fun e w101 => e = .returned (.tuple #[]) ∧
                          Calls Tryz.prog 142 #[(.iface 182 (.pointer (some a0_v_p))), (.pointer (some (Addr.add a1_o 1)))] w101 fun e w102 => e = .returned (.tuple #[]) ∧
                          ∀ w103, Adv [] [] w102 w103 →
                          Calls Tryz.prog 127 #[(.pointer (some a0_v_p)), (.pointer (some (Addr.add a1_o 4)))] w103 fun e w104 => e = .returned (.tuple #[]) ∧
                          R (.tuple #[]) w104)
                        (
                          brB (x1 == 11) (
                            ∀ w105, Adv [] [] w w105 →
                            Calls Tryz.prog 206 #[(.pointer (some a0_v_p)), (.pointer (some (Addr.add a1_o 9)))] w105 fun e w106 => e = .returned (.tuple #[]) ∧
                            Calls Tryz.prog 142 #[(.iface 182 (.pointer (some a0_v_p))), (.pointer (some (Addr.add a1_o 1)))] w106 fun e w107 => e = .returned (.tuple #[]) ∧
                            R (.tuple #[]) w107)
                          (
                            R (.tuple #[]) w))))
                    (
                      brB (x1 == 9) (
                        Calls Tryz.prog 143 #[(.iface 182 (.pointer (some a0_v_p))), (.pointer (some a1_o))] w fun e w108 => e = .returned (.tuple #[]) ∧
                        ∀ w109, Adv [] [] w108 w109 →
                        Calls Tryz.prog 127 #[(.pointer (some a0_v_p)), (.pointer (some (Addr.add a1_o 11)))] w109 fun e w110 => e = .returned (.tuple #[]) ∧
                        R (.tuple #[]) w110)
                      (
                        brB (x1 == 10) (
                          Calls Tryz.prog 143 #[(.iface 182 (.pointer (some a0_v_p))), (.pointer (some a1_o))] w fun e w111 => e = .returned (.tuple #[]) ∧
                          ∀ w112, Adv [] [] w111 w112 →
                          Calls Tryz.prog 127 #[(.pointer (some a0_v_p)), (.pointer (some (Addr.add a1_o 11)))] w112 fun e w113 => e = .returned (.tuple #[]) ∧
                          Calls Tryz.prog 142 #[(.iface 182 (.pointer (some a0_v_p))), (.pointer (some (Addr.add a1_o 1)))] w113 fun e w114 => e = .returned (.tuple #[]) ∧
                          ∀ w115, Adv [] [] w114 w115 →
                          Calls Tryz.prog 127 #[(.pointer (some a0_v_p)), (.pointer (some (Addr.add a1_o 4)))] w115 fun e w116 => e = .returned (.tuple #[]) ∧
                          R (.tuple #[]) w116)
                        (
                          brB (x1 == 11) (
                            ∀ w117, Adv [] [] w w117 →
                            Calls Tryz.prog 206 #[(.pointer (some a0_v_p)), (.pointer (some (Addr.add a1_o 9)))] w117 fun e w118 => e = .returned (.tuple #[]) ∧
                            Calls Tryz.prog 142 #[(.iface 182 (.pointer (some a0_v_p))), (.pointer (some (Addr.add a1_o 1)))] w118 fun e w119 => e = .returned (.tuple #[]) ∧
                            R (.tuple #[]) w119)
                          (
                            R (.tuple #[]) w)))))))))))))
theorem wr_request_visit_eq (a1_o : Addr) (a0_v_p : Addr) (R : Value → World → Prop) (w : World) :
    dnF Tryz.prog wr_request_visit_an (code Tryz.f104) 400 [] (post3 Tryz.prog Tryz.f104 [] R) ⟨args0 0 [(.iface 182 (.pointer (some a0_v_p))), (.pointer (some a1_o))], fun _ => undef⟩ ⟨[], w, [], [], true⟩ = wr_request_visit_T a1_o a0_v_p R w := by kernel_rfl
theorem wr_request_visit_go {a1_o : Addr} {a0_v_p : Addr} {R : Value → World → Prop} {w : World} (h : wr_request_visit_T a1_o a0_v_p R w) :
    Calls Tryz.prog 104 #[(.iface 182 (.pointer (some a0_v_p))), (.pointer (some a1_o))] w fun e w' => ∃ v, e = .returned v ∧ R v w' :=
  calls_none Tryz.wide_mixed (f := 104) (args := [(.iface 182 (.pointer (some a0_v_p))), (.pointer (some a1_o))]) Tryz.func104 rfl rfl (by kernel_rfl) rfl (Eq.mpr (wr_request_visit_eq a1_o a0_v_p R w) h)
def wr_request_Put_an : List LA := []
/-- stagecoach/request.Put -/
def wr_request_Put_T (a0_o_0 : Int) (a0_o_1 : ByteArray) (a0_o_2 : Int) (a0_o_3 : Int) (a0_o_4 : Int) (a0_o_5 : Int) (a0_o_6 : Int) (a0_o_7 : Int) (a0_o_8_a : Option Addr) (a0_o_8_n : Nat) (a0_o_8_c : Nat) (a0_o_9 : ByteArray) (a0_o_10 : ByteArray) (a0_o_11 : Int) (a0_o_12 : Bool) (a0_o_13_a : Option Addr) (a0_o_13_n : Nat) (a0_o_13_c : Nat) (R : Value → World → Prop) (w : World) : Prop :=
  ∀ b1, w.heap.size ≤ b1 →
  ∀ w2, Adv [] [b1] w w2 →
  Calls Tryz.prog 59 #[(.agg #[(.int .i64 a0_o_0), (.string a0_o_1), (.int .i64 a0_o_2), (.int .i64 a0_o_3), (.int .i64 a0_o_4), (.int .i64 a0_o_5), (.int .i64 a0_o_6), (.int .i64 a0_o_7), (.slice a0_o_8_a a0_o_8_n a0_o_8_c), (.string a0_o_9), (.string a0_o_10), (.int .i64 a0_o_11), (.bool a0_o_12), (.slice a0_o_13_a a0_o_13_n a0_o_13_c)])] w2 fun e w3 => ∃ x4 : Int, e = .returned (.int .i64 x4) ∧ Keep [b1] w2 w3 ∧
  brB (x4 != 0) (
    R (.tuple #[(.string (⟨#[]⟩ : ByteArray)), (.int .i64 x4)]) w3)
  (
    ∀ b5, w3.heap.size ≤ b5 →
    ∀ w6, Adv [] [b5] w3 w6 → w6.heap[b1]? = some (.cells #[(.int .i64 a0_o_0), (.string a0_o_1), (.int .i64 a0_o_2), (.int .i64 a0_o_3), (.int .i64 a0_o_4), (.int .i64 a0_o_5), (.int .i64 a0_o_6), (.int .i64 a0_o_7), (.slice a0_o_8_a a0_o_8_n a0_o_8_c), (.string a0_o_9), (.string a0_o_10), (.int .i64 a0_o_11), (.bool a0_o_12), (.slice a0_o_13_a a0_o_13_n a0_o_13_c)] 38) →
    w6.heap[b5]? = some (.cells #[(.pointer none), (.slice none 0 0)] 184) →
    Calls Tryz.prog 127 #[(.pointer (some ⟨b5, 0, none⟩)), (.pointer (some ⟨b1, 0, none⟩))] w6 fun e w7 => e = .returned (.tuple #[]) ∧ ∃ x8 : Int, ∃ s9 : ByteArray, ∃ x10 : Int, ∃ x11 : Int, ∃ x12 : Int, ∃ x13 : Int, ∃ x14 : Int, ∃ x15 : Int, ∃ (a16 : Option Addr) (n17 c18 : Nat), ∃ s19 : ByteArray, ∃ s20 : ByteArray, ∃ x21 : Int, ∃ t22 : Bool, ∃ (a23 : Option Addr) (n24 c25 : Nat), w7.heap[b1]? = some (.cells #[(.int .i64 x8), (.string s9), (.int .i64 x10), (.int .i64 x11), (.int .i64 x12), (.int .i64 x13), (.int .i64 x14), (.int .i64 x15), (.slice a16 n17 c18), (.string s19), (.string s20), (.int .i64 x21), (.bool t22), (.slice a23 n24 c25)] 38) ∧ ∃ p26 : Option Addr, ∃ (a27 : Option Addr) (n28 c29 : Nat), w7.heap[b5]? = some (.cells #[(.pointer p26), (.slice a27 n28 c29)] 184) ∧
    Calls Tryz.prog 104 #[(.iface 182 (.pointer (some ⟨b5, 0, none⟩))), (.pointer (some ⟨b1, 0, none⟩))] w7 fun e w30 => e = .returned (.tuple #[]) ∧ ∃ x31 : Int, ∃ s32 : ByteArray, ∃ x33 : Int, ∃ x34 : Int, ∃ x35 : Int, ∃ x36 : Int, ∃ x37 : Int, ∃ x38 : Int, ∃ (a39 : Option Addr) (n40 c41 : Nat), ∃ s42 : ByteArray, ∃ s43 : ByteArray, ∃ x44 : Int, ∃ t45 : Bool, ∃ (a46 : Option Addr) (n47 c48 : Nat), w30.heap[b1]? = some (.cells #[(.int .i64 x31), (.string s32), (.int .i64 x33), (.int .i64 x34), (.int .i64 x35), (.int .i64 x36), (.int .i64 x37), (.int .i64 x38), (.slice a39 n40 c41), (.string s42), (.string s43), (.int .i64 x44), (.bool t45), (.slice a46 n47 c48)] 38) ∧ ∃ p49 : Option Addr, ∃ (a50 : Option Addr) (n51 c52 : Nat), w30.heap[b5]? = some (.cells #[(.pointer p49), (.slice a50 n51 c52)] 184) ∧
    Calls Tryz.prog 81 #[(.pointer (some ⟨b5, 0, none⟩))] w30 fun e w53 => ∃ s54 : ByteArray, e = .returned (.string s54) ∧ ∃ x55 : Int, ∃ s56 : ByteArray, ∃ x57 : Int, ∃ x58 : Int, ∃ x59 : Int, ∃ x60 : Int, ∃ x61 : Int, ∃ x62 : Int, ∃ (a63 : Option Addr) (n64 c65 : Nat), ∃ s66 : ByteArray, ∃ s67 : ByteArray, ∃ x68 : Int, ∃ t69 : Bool, ∃ (a70 : Option Addr) (n71 c72 : Nat), w53.heap[b1]? = some (.cells #[(.int .i64 x55), (.string s56), (.int .i64 x57), (.int .i64 x58), (.int .i64 x59), (.int .i64 x60), (.int .i64 x61), (.int .i64 x62), (.slice a63 n64 c65), (.string s66), (.string s67), (.int .i64 x68), (.bool t69), (.slice a70 n71 c72)] 38) ∧ ∃ p73 : Option Addr, ∃ (a74 : Option Addr) (n75 c76 : Nat), w53.heap[b5]? = some (.cells #[(.pointer p73), (.slice a74 n75 c76)] 184) ∧
    R (.tuple #[(.string s54), (.int .i64 0)]) w53)
theorem wr_request_Put_eq (a0_o_0 : Int) (a0_o_1 : ByteArray) (a0_o_2 : Int) (a0_o_3 : Int) (a0_o_4 : Int) (a0_o_5 : Int) (a0_o_6 : Int) (a0_o_7 : Int) (a0_o_8_a : Option Addr) (a0_o_8_n : Nat) (a0_o_8_c : Nat) (a0_o_9 : ByteArray) (a0_o_10 : ByteArray) (a0_o_11 : Int) (a0_o_12 : Bool) (a0_o_13_a : Option Addr) (a0_o_13_n : Nat) (a0_o_13_c : Nat) (R : Value → World → Prop) (w : World) :
    dnF Tryz.prog wr_request_Put_an (code Tryz.f78) 400 [] (post3 Tryz.prog Tryz.f78 [] R) ⟨args0 0 [(.agg #[(.int .i64 a0_o_0), (.string a0_o_1), (.int .i64 a0_o_2), (.int .i64 a0_o_3), (.int .i64 a0_o_4), (.int .i64 a0_o_5), (.int .i64 a0_o_6), (.int .i64 a0_o_7), (.slice a0_o_8_a a0_o_8_n a0_o_8_c), (.string a0_o_9), (.string a0_o_10), (.int .i64 a0_o_11), (.bool a0_o_12), (.slice a0_o_13_a a0_o_13_n a0_o_13_c)])], fun _ => undef⟩ ⟨[], w, [], [], true⟩ = wr_request_Put_T a0_o_0 a0_o_1 a0_o_2 a0_o_3 a0_o_4 a0_o_5 a0_o_6 a0_o_7 a0_o_8_a a0_o_8_n a0_o_8_c a0_o_9 a0_o_10 a0_o_11 a0_o_12 a0_o_13_a a0_o_13_n a0_o_13_c R w := by kernel_rfl
theorem wr_request_Put_go {a0_o_0 : Int} {a0_o_1 : ByteArray} {a0_o_2 : Int} {a0_o_3 : Int} {a0_o_4 : Int} {a0_o_5 : Int} {a0_o_6 : Int} {a0_o_7 : Int} {a0_o_8_a : Option Addr} {a0_o_8_n : Nat} {a0_o_8_c : Nat} {a0_o_9 : ByteArray} {a0_o_10 : ByteArray} {a0_o_11 : Int} {a0_o_12 : Bool} {a0_o_13_a : Option Addr} {a0_o_13_n : Nat} {a0_o_13_c : Nat} {R : Value → World → Prop} {w : World} (h : wr_request_Put_T a0_o_0 a0_o_1 a0_o_2 a0_o_3 a0_o_4 a0_o_5 a0_o_6 a0_o_7 a0_o_8_a a0_o_8_n a0_o_8_c a0_o_9 a0_o_10 a0_o_11 a0_o_12 a0_o_13_a a0_o_13_n a0_o_13_c R w) :
    Calls Tryz.prog 78 #[(.agg #[(.int .i64 a0_o_0), (.string a0_o_1), (.int .i64 a0_o_2), (.int .i64 a0_o_3), (.int .i64 a0_o_4), (.int .i64 a0_o_5), (.int .i64 a0_o_6), (.int .i64 a0_o_7), (.slice a0_o_8_a a0_o_8_n a0_o_8_c), (.string a0_o_9), (.string a0_o_10), (.int .i64 a0_o_11), (.bool a0_o_12), (.slice a0_o_13_a a0_o_13_n a0_o_13_c)])] w fun e w' => ∃ v, e = .returned v ∧ R v w' :=
  calls_none Tryz.wide_mixed (f := 78) (args := [(.agg #[(.int .i64 a0_o_0), (.string a0_o_1), (.int .i64 a0_o_2), (.int .i64 a0_o_3), (.int .i64 a0_o_4), (.int .i64 a0_o_5), (.int .i64 a0_o_6), (.int .i64 a0_o_7), (.slice a0_o_8_a a0_o_8_n a0_o_8_c), (.string a0_o_9), (.string a0_o_10), (.int .i64 a0_o_11), (.bool a0_o_12), (.slice a0_o_13_a a0_o_13_n a0_o_13_c)])]) Tryz.func78 rfl rfl (by kernel_rfl) rfl (Eq.mpr (wr_request_Put_eq a0_o_0 a0_o_1 a0_o_2 a0_o_3 a0_o_4 a0_o_5 a0_o_6 a0_o_7 a0_o_8_a a0_o_8_n a0_o_8_c a0_o_9 a0_o_10 a0_o_11 a0_o_12 a0_o_13_a a0_o_13_n a0_o_13_c R w) h)

end Go.Proofs.YtohgihgddknmmaaGreat

/- A command's bytes. -/
namespace Go.Proofs.YtohgihgddknmmaaGreat
open Go Go.RowKit
set_option linter.unusedVariables false
set_option linter.unusedSimpArgs false

def flagN (b : Bool) : Nat := if b then 1 else 0
def namesL (l : List ByteArray) : List UInt8 := vPutL l.length ++ l.flatMap putT
def opBody (o : POp) : List UInt8 :=
  if o.kind = 0 then putT o.part.t ++ vPutL o.n.toNat
  else if o.kind = 1 then vPutL o.n.toNat
  else if o.kind = 2 then partB o.part ++ batchB o.b
  else if o.kind = 3 then partB o.part ++ vPutL o.off.toNat ++ vPutL o.n.toNat
  else if o.kind = 4 then partB o.part ++ vPutL o.off.toNat
  else if o.kind = 5 then partB o.part
  else if o.kind = 6 then putT o.g ++ putT o.m ++ vPutL o.n.toNat ++ vPutL (flagN o.robin) ++ namesL o.topics
  else if o.kind = 7 ∨ o.kind = 8 ∨ o.kind = 9 then putT o.g ++ putT o.m ++ vPutL o.gen.toNat
  else if o.kind = 10 then putT o.g ++ putT o.m ++ vPutL o.gen.toNat ++ partB o.part ++ vPutL o.off.toNat
  else if o.kind = 11 then putT o.g ++ partB o.part
  else vPutL o.n.toNat
def opB (o : POp) : List UInt8 := vPutL o.kind.toNat ++ opBody o
structure OpGood (o : POp) : Prop where
  k : 0 ≤ o.kind ∧ o.kind ≤ 12
  nn : num o.part.n = true ∧ num o.n = true ∧ num o.off = true ∧ num o.gen = true
  nt : (ha o.kind 112 || ha o.kind 116) = true → nameB o.part.t = true
  ng : ha o.kind 103 = true → nameB o.g = true
  nm : ha o.kind 109 = true → nameB o.m = true
  nl : ha o.kind 108 = true → namesB o.topics = true
  b : o.kind = 2 → batchE o.b = 0
  only : onlyB o = true
theorem OpGood.of {o : POp} (h : opE o = 0) : OpGood o := by
  unfold opE at h
  split at h
  · omega
  rename_i hk
  split at h
  · omega
  rename_i hf
  split at h
  · omega
  rename_i hn
  have hf := Bool.not_eq_false _ ▸ hf
  have hn := Bool.not_eq_false _ ▸ hn
  simp only [Bool.and_eq_true] at hn
  simp only [formB, Bool.and_eq_true] at hf
  obtain ⟨⟨⟨⟨f1, f2⟩, f3⟩, f4⟩, f5⟩ := hf
  refine ⟨by omega, ⟨hn.1.1.1, hn.1.1.2, hn.1.2, hn.2⟩, fun g => ?_, fun g => ?_, fun g => ?_, fun g => ?_, fun g => ?_, f1⟩
  · rw [g] at f2; simpa using f2
  · rw [g] at f3; simpa using f3
  · rw [g] at f4; simpa using f4
  · rw [g] at f5; simpa using f5
  · rw [if_pos g] at h; exact h
theorem name_le {s : ByteArray} (h : nameB s = true) : s.size ≤ 16 ∧ 1 ≤ s.size := by simp [nameB] at h; omega
theorem num_le {x : Int} (h : num x = true) : 0 ≤ x ∧ x ≤ 1099511627776 := by simpa [num] using h

/-- The writer's variable, the command's. -/
structure WSt (w0 w : World) (B bw bo : Nat) (M : Nat) (l : List UInt8) (cs : List Value) : Prop where
  b : Bd B bw l w
  o : w.heap[bo]? = some (.cells cs.toArray 38)
  m : Mod [] w0 w
  hB : w0.heap.size ≤ B
  ne : bo ≠ bw
  len : l.length ≤ M
  hM : M ≤ 1000000
theorem WSt.adv {w0 w w' : World} {B bw bo M : Nat} {l : List UInt8} {cs : List Value} {N : List Nat} (H : WSt w0 w B bw bo M l cs) (A : Adv [] N w w') : WSt w0 w' B bw bo M l cs :=
  ⟨H.b.keep0 A.mod, A.mod.keep0 H.o, H.m.go0 A.mod (by simp), H.hB, H.ne, H.len, H.hM⟩
theorem WSt.size {w0 w : World} {B bw bo M : Nat} {l : List UInt8} {cs : List Value} (H : WSt w0 w B bw bo M l cs) : B ≤ w.heap.size := by
  have := H.b.lt; omega
theorem WSt.put {w0 w w' : World} {B bw bo M M' : Nat} {l l' : List UInt8} {cs : List Value} (H : WSt w0 w B bw bo M l cs) (hb : Bd B bw (l ++ l') w') (W : Wr B bw w w') (hl : l'.length + M ≤ M') (hM : M' ≤ 1000000) : WSt w0 w' B bw bo M' (l ++ l') cs :=
  ⟨hb, W.keep H.o H.ne (by decide), W.mod H.m H.hB, H.hB, H.ne, by rw [List.length_append]; have := H.len; omega, hM⟩
theorem WSt.cell {w0 w : World} {B bw bo M : Nat} {l : List UInt8} {cs : List Value} (H : WSt w0 w B bw bo M l cs) {i : Nat} {v : Value} (hc : cs[i]? = some v) : w.cell? ⟨bo, i, none⟩ = some v := by
  rw [cell_at H.o]; simpa using hc
theorem wNum_step {w0 w : World} {B bw bo M off : Nat} {l : List UInt8} {cs : List Value} {x : Int} {R : World → Prop} (H : WSt w0 w B bw bo M l cs) (hc : cs[off]? = some (.int .i64 x)) (hx : num x = true) (hM : M + 20 ≤ 1000000)
    (k : ∀ w', WSt w0 w' B bw bo (M + 20) (l ++ vPutL x.toNat) cs → R w') :
    Calls Tryz.prog 127 #[.pointer (some ⟨bw, 0, none⟩), .pointer (some ⟨bo, off, none⟩)] w fun e w' => e = .returned (.tuple #[]) ∧ R w' := by
  have hx := num_le hx
  obtain ⟨n, rfl⟩ := Int.eq_ofNat_of_zero_le hx.1
  have hl := H.len
  refine (Wnum_ok H.b (by omega) H.size (x := n) (H.cell hc) (by omega)).mono ?_
  rintro e w' ⟨rfl, hb, W⟩
  have := vPutL_len n (by omega)
  exact ⟨rfl, k w' (H.put hb W (by rw [Int.toNat_natCast]; omega) hM)⟩
theorem wName_step {w0 w : World} {B bw bo M off : Nat} {l : List UInt8} {cs : List Value} {s : ByteArray} {R : World → Prop} (H : WSt w0 w B bw bo M l cs) (hc : cs[off]? = some (.string s)) (hs : s.size ≤ 16) (hM : M + 30 ≤ 1000000)
    (k : ∀ w', WSt w0 w' B bw bo (M + 30) (l ++ putT s) cs → R w') :
    Calls Tryz.prog 206 #[.pointer (some ⟨bw, 0, none⟩), .pointer (some ⟨bo, off, none⟩)] w fun e w' => e = .returned (.tuple #[]) ∧ R w' := by
  have hl := H.len
  refine (Wname_ok H.b (by omega) H.size (s := s) (H.cell hc) (by omega)).mono ?_
  rintro e w' ⟨rfl, hb, W⟩
  have := putT_len s (by omega)
  exact ⟨rfl, k w' (H.put hb W (by omega) hM)⟩
theorem wFlag_step {w0 w : World} {B bw bo M off : Nat} {l : List UInt8} {cs : List Value} {t : Bool} {R : World → Prop} (H : WSt w0 w B bw bo M l cs) (hc : cs[off]? = some (.bool t)) (hM : M + 20 ≤ 1000000)
    (k : ∀ w', WSt w0 w' B bw bo (M + 20) (l ++ vPutL (flagN t)) cs → R w') :
    Calls Tryz.prog 205 #[.pointer (some ⟨bw, 0, none⟩), .pointer (some ⟨bo, off, none⟩)] w fun e w' => e = .returned (.tuple #[]) ∧ R w' := by
  refine go_of (wr_request_writer_flag_go ?_)
  intro b1 f1 w1 A1
  have H1 := H.adv A1
  have l1 := A1.lt b1 (by simp)
  have hb0 := H.b.lt
  refine ldBool_of (x := t) (H1.cell hc) ?_
  have hl := H.len
  have go : ∀ {w2 : World} {S : List Nat} (hS : ∀ i ∈ S, i = b1), Adv S [] w1 w2 → w2.heap[b1]? = some (.cells #[.int .i64 (flagN t : Nat)] 3) → Calls Tryz.prog 127 #[.pointer (some ⟨bw, 0, none⟩), .pointer (some ⟨b1, 0, none⟩)] w2 fun e w5 => e = .returned (.tuple #[]) ∧ ∃ x6 : Int, w5.heap[b1]? = some (.cells #[.int .i64 x6] 3) ∧ (Value.tuple #[] = Value.tuple #[] ∧ R w5) := fun {w2 S} hS A2 h2 => by
    have hne : b1 ≠ bw := by omega
    have hM2 : Mod [] w w2 := A1.mod.go0 A2.mod fun i hi => by rw [hS i hi]; exact f1
    have H2 : WSt w0 w2 B bw bo M l cs := ⟨H.b.keep0 hM2, hM2.keep0 H.o, H.m.go0 hM2 (by simp), H.hB, H.ne, H.len, H.hM⟩
    refine (Wnum_ok H2.b (by omega) H2.size (a := ⟨b1, 0, none⟩) (x := flagN t) (by rw [cell_at h2]; rfl) (by cases t <;> decide)).mono ?_
    rintro e w3 ⟨rfl, hb, W⟩
    have := vPutL_len (flagN t) (by cases t <;> decide)
    exact ⟨rfl, _, W.keep h2 hne (by decide), rfl, k w3 (H2.put hb W (by omega) hM)⟩
  refine brB_of (fun g => ?_) fun g => ?_
  · subst g; exact fun w2 A2 h2 => go (by simp) A2 h2
  · subst g; exact fun w2 A2 h2 => go (by simp) A2 h2
theorem wBatch_step {w0 w : World} {B bw bo M : Nat} {l : List UInt8} {cs : List Value} {b : PBatch} {rs : Sl} {R : World → Prop} (H : WSt w0 w B bw bo M l cs) (h5 : cs[5]? = some (.int .i64 b.prod)) (h6 : cs[6]? = some (.int .i64 b.epoch)) (h7 : cs[7]? = some (.int .i64 b.seq)) (h8 : cs[8]? = some (.slice rs.a rs.n rs.c))
    (hs : SlAt w0 4 encR rs.a rs.n b.recs) (hE : batchE b = 0) (hM : M + 20000 ≤ 1000000) (k : ∀ w', WSt w0 w' B bw bo (M + 20000) (l ++ batchB b) cs → R w') :
    Calls Tryz.prog 204 #[.pointer (some ⟨bw, 0, none⟩), .pointer (some ⟨bo, 5, none⟩)] w fun e w' => e = .returned (.tuple #[]) ∧ R w' := by
  have G := BatGood.of hE
  have hl := H.len
  have hbl := G.len
  have hr := G.lr
  refine go_of (wr_request_writer_batch_go ?_)
  refine ldInt_of (x := b.prod) (H.cell h5) (ldInt_of (x := b.epoch) (H.cell h6) (ldInt_of (x := b.seq) (H.cell h7) (ldSlice_of (H.cell h8) ?_)))
  refine (Batch_ok (b := b) (rs := rs) (hs.keep0 H.m) (by omega)).mono ?_
  rintro e w1 ⟨rfl, M1⟩
  have H1 : WSt w0 w1 B bw bo M l cs := ⟨H.b.keep0 M1, M1.keep0 H.o, H.m.go0 M1 (by simp), H.hB, H.ne, H.len, H.hM⟩
  refine ⟨_, _, rfl, ?_⟩
  rw [if_pos hE]
  refine (WS_ok H1.b (l2 := batchB b) (by omega) H1.size).mono ?_
  rintro e w2 ⟨rfl, hb, W⟩
  exact ⟨_, _, rfl, rfl, k w2 (H1.put hb W (by omega) hM)⟩
theorem wNames_step {w0 w : World} {B bw bo M : Nat} {l : List UInt8} {cs : List Value} {tl : List ByteArray} {ts : Sl} {R : World → Prop} (H : WSt w0 w B bw bo M l cs) (hc : cs[13]? = some (.slice ts.a ts.n ts.c))
    (hs : SlAt w0 1 encS ts.a ts.n tl) (hn : namesB tl = true) (hM : M + 300 ≤ 1000000) (k : ∀ w', WSt w0 w' B bw bo (M + 300) (l ++ namesL tl) cs → R w') :
    Calls Tryz.prog 207 #[.pointer (some ⟨bw, 0, none⟩), .pointer (some ⟨bo, 13, none⟩)] w fun e w' => e = .returned (.tuple #[]) ∧ R w' := by
  have hl := H.len
  simp only [namesB, Bool.and_eq_true, decide_eq_true_eq] at hn
  obtain ⟨⟨⟨n1, n2⟩, n3⟩, _⟩ := hn
  have hnm : ∀ s ∈ tl, s.size ≤ 16 := fun s hs => (name_le (List.all_eq_true.1 n3 s hs)).1
  have e4 := hs.1
  refine go_of (wr_request_writer_names_go ?_)
  refine ldSlice_of (H.cell hc) ?_
  intro b1 f1 w1 A1 h1
  have H1 := H.adv A1
  have hb0 := H.b.lt
  refine (Wnum_ok H1.b (by omega) H1.size (a := ⟨b1, 0, none⟩) (x := tl.length) (by rw [cell_at h1, e4]; rfl) (by omega)).mono ?_
  rintro e w2 ⟨rfl, hb2, W2⟩
  have hv := vPutL_len tl.length (by omega)
  have H2 := H1.put hb2 W2 (M' := M + 20) (by omega) (by omega)
  refine ⟨rfl, _, W2.keep h1 (by omega) (by decide), ?_⟩
  have h2 := W2.keep h1 (by omega) (by decide)
  refine ldSlice_of (H2.cell hc) ?_
  refine wr_request_writer_names_rule1 (fun mm x y w' => ∃ k : Nat, x = k ∧ k ≤ tl.length ∧ WSt w0 w' B bw bo (M + 20 + k * 30) (l ++ vPutL tl.length ++ (tl.take k).flatMap putT) cs ∧ b1 < w'.heap.size ∧ mm = tl.length - k) tl.length ⟨0, rfl, by omega, by simpa using H2, lt_of_block h2, rfl⟩ ?_
  rintro mm x y w3 ⟨k', rfl, hk, H3, hb13, rfl⟩ h3
  refine brB_dec (fun hlt => ?_) fun hge => ?_
  · obtain ⟨s, hs'⟩ : ∃ s, tl[k']? = some s := ⟨_, List.getElem?_eq_getElem (by omega)⟩
    have hsz := hnm s (List.mem_of_getElem? hs')
    refine (hs.keep0 H3.m).ix hs' fun q hq => ldStr_of (x := s) (by simpa [add_zero] using hq 0 _ rfl) ?_
    intro b4 f4 w4 A4 h4a h4
    have H4 := H3.adv A4
    have hb3 := H3.b.lt
    have hl4 := H4.len
    refine (Wname_ok H4.b (by omega) H4.size (a := ⟨b4, 0, none⟩) (s := s) (by rw [cell_at h4]; rfl) (by omega)).mono ?_
    rintro e w5 ⟨rfl, hb5, W5⟩
    have hp := putT_len s (by omega)
    have H5 := H4.put hb5 W5 (M' := M + 20 + (k' + 1) * 30) (by omega) (by omega)
    have k5 := W5.keep h4a (by omega) (by decide)
    refine ⟨rfl, _, k5, _, W5.keep h4 (by omega) (by decide), ?_⟩
    refine wr_request_writer_names_leaf1 (tl.length - (k' + 1)) (by omega) ⟨k' + 1, by rw [wrap_id (by omega) (by omega)]; omega, by omega, ?_, lt_of_block k5, rfl⟩
    rw [take_flat hs', ← List.append_assoc]
    exact H5
  · have hk' : k' = tl.length := by omega
    subst hk'
    rw [List.take_length, List.append_assoc] at H3
    exact ⟨rfl, k w3 ⟨H3.b, H3.o, H3.m, H3.hB, H3.ne, by have := H3.len; exact Nat.le_trans this (by omega), hM⟩⟩
theorem wPart_step {w0 w : World} {B bw bo M : Nat} {l : List UInt8} {cs : List Value} {p : PPart} {R : World → Prop} (H : WSt w0 w B bw bo M l cs) (h1 : cs[1]? = some (.string p.t)) (h2 : cs[2]? = some (.int .i64 p.n)) (hs : p.t.size ≤ 16) (hx : num p.n = true) (hM : M + 50 ≤ 1000000)
    (k : ∀ w', WSt w0 w' B bw bo (M + 50) (l ++ partB p) cs → R w') :
    Calls Tryz.prog 142 #[.iface 182 (.pointer (some ⟨bw, 0, none⟩)), .pointer (some ⟨bo, 1, none⟩)] w fun e w' => e = .returned (.tuple #[]) ∧ R w' := by
  refine go_of (wr_request_part_go ?_)
  intro w1 A1
  refine wName_step (off := 1) (H.adv A1) h1 hs (by omega) fun w2 H2 => ?_
  intro w3 A3
  refine wNum_step (off := 2) (H2.adv A3) h2 hx (by omega) fun w4 H4 => ⟨rfl, k w4 ?_⟩
  rw [List.append_assoc] at H4
  exact H4
theorem wMember_step {w0 w : World} {B bw bo M : Nat} {l : List UInt8} {cs : List Value} {g m : ByteArray} {R : World → Prop} (H : WSt w0 w B bw bo M l cs) (h1 : cs[9]? = some (.string g)) (h2 : cs[10]? = some (.string m)) (hs : g.size ≤ 16) (hs2 : m.size ≤ 16) (hM : M + 60 ≤ 1000000)
    (k : ∀ w', WSt w0 w' B bw bo (M + 60) (l ++ putT g ++ putT m) cs → R w') :
    Calls Tryz.prog 143 #[.iface 182 (.pointer (some ⟨bw, 0, none⟩)), .pointer (some ⟨bo, 0, none⟩)] w fun e w' => e = .returned (.tuple #[]) ∧ R w' := by
  refine go_of (wr_request_member_go ?_)
  intro w1 A1
  refine wName_step (off := 9) (H.adv A1) h1 hs (by omega) fun w2 H2 => ?_
  intro w3 A3
  refine wName_step (off := 10) (H2.adv A3) h2 hs2 (by omega) fun w4 H4 => ⟨rfl, k w4 H4⟩
end Go.Proofs.YtohgihgddknmmaaGreat

/- Records, batches at a place. -/
namespace Go.Proofs.YtohgihgddknmmaaGreat
open Go Go.RowKit
set_option linter.unusedVariables false
set_option linter.unusedSimpArgs false

theorem Mod.via {S T : List Nat} {a b c : World} (h : Mod S a b) (k : Mod T b c) (hs : ∀ i ∈ T, i < a.heap.size → i ∈ S) : Mod S a c :=
  (h.trans k).less fun i hi hl => by
    rcases List.mem_append.1 hi with h1 | h1
    · exact h1
    · exact hs i h1 hl

/-! ### places -/
def numA (l : List UInt8) (a : Nat) : Option (Nat × Nat) := (vg 0 (l.drop a)).map fun p => (p.1, a + p.2)
def txtA (lim : Nat) (l : List UInt8) (a : Nat) : Option (ByteArray × Nat) := (tg lim (l.drop a)).map fun p => (p.1, a + p.2)
def txtIf (has : Bool) (lim : Nat) (l : List UInt8) (a : Nat) : Option (ByteArray × Nat) := if has then txtA lim l a else some (⟨#[]⟩, a)
def fstA (l : List UInt8) (a : Nat) : Option (Nat × Nat) := match l[a]? with
  | none => none
  | some c => if c.toNat = 0 ∨ c.toNat = 1 ∨ c.toNat = 3 then some (c.toNat, a + 1) else none
def recA (l : List UInt8) (a : Nat) : Option (PRec × Nat) :=
  (fstA l a).bind fun p => (txtIf (decide (p.1 % 2 = 1)) 64 l p.2).bind fun q => (txtIf (decide (p.1 / 2 % 2 = 0)) 512 l q.2).bind fun r =>
    some (⟨decide (p.1 % 2 = 1), q.1, decide (p.1 / 2 % 2 = 1), r.1⟩, r.2)
def many (α : Type) : Type := List UInt8 → Nat → Option (α × Nat)
def timesA {α : Type} (f : many α) (l : List UInt8) : Nat → Nat → Option (List α × Nat)
  | 0, a => some ([], a)
  | k + 1, a => (f l a).bind fun p => (timesA f l k p.2).map fun q => (p.1 :: q.1, q.2)
def hdA (l : List UInt8) (a : Nat) : Option (List Nat × Nat) := (timesA numA l 4 a).bind fun p => match p.1 with
  | [x, y, z, k] => if x ≤ 1099511627776 ∧ y ≤ 1099511627776 ∧ z ≤ 1099511627776 ∧ 1 ≤ k ∧ k ≤ 16 then some p else none
  | _ => none
def batA (l : List UInt8) (a : Nat) : Option (PBatch × Nat) := (hdA l a).bind fun p => match p.1 with
  | [x, y, z, k] => (timesA recA l k p.2).map fun q => (⟨(x : Nat), (y : Nat), (z : Nat), q.1⟩, q.2)
  | _ => none

/-! ### what is written is read -/
theorem drop_of {l x r : List UInt8} {a : Nat} (h : l.drop a = x ++ r) : l.drop (a + x.length) = r := by
  rw [← List.drop_drop, h, List.drop_left']
  rfl
theorem numA_put {l r : List UInt8} {a n : Nat} (hn : n < 18446744073709551616) (h : l.drop a = vPutL n ++ r) : numA l a = some (n, a + (vPutL n).length) := by
  unfold numA; rw [h, vg_put 9 0 n r rfl (by simpa using hn) (by omega)]; rfl
theorem txtA_put {l r : List UInt8} {a lim : Nat} {s : ByteArray} (hn : s.size ≤ lim) (hs : s.size < 18446744073709551616) (h : l.drop a = putT s ++ r) : txtA lim l a = some (s, a + (putT s).length) := by
  unfold txtA; rw [h, tg_put s r hn hs]; rfl
theorem times_putM {α : Type} {f : many α} {enc : α → List UInt8} {l : List UInt8} : ∀ (xs : List α) (hf : ∀ x ∈ xs, ∀ a r, l.drop a = enc x ++ r → f l a = some (x, a + (enc x).length)) (a : Nat) (r : List UInt8),
    l.drop a = xs.flatMap enc ++ r → timesA f l xs.length a = some (xs, a + (xs.flatMap enc).length)
  | [], hf, a, r, h => rfl
  | x :: xs, hf, a, r, h => by
    rw [List.flatMap_cons, List.append_assoc] at h
    have h2 := drop_of h
    simp only [List.length_cons, timesA, hf x (by simp) a _ h, Option.bind_some, times_putM xs (fun y hy => hf y (by simp [hy])) _ r h2, Option.map_some, List.flatMap_cons, List.length_append]
    simp; omega
theorem recA_put {l r : List UInt8} {a : Nat} {x : PRec} (hx : recE x = 0) (h : l.drop a = recB x ++ r) : recA l a = some (x, a + (recB x).length) := by
  obtain ⟨hk, hv⟩ := recE_small hx
  obtain ⟨k, key, t, val⟩ := x
  have hk : key.size ≤ 64 := hk
  have hv : val.size ≤ 512 := hv
  have h0 : l[a]? = some (kindB ⟨k, key, t, val⟩) := by
    have := congrArg List.head? h
    rw [List.head?_drop] at this
    simpa [recB] using this
  have hf : fstA l a = some ((kindB ⟨k, key, t, val⟩).toNat, a + 1) := by
    unfold fstA; rw [h0]
    cases k <;> cases t <;> simp [kindB]
  have h1 : l.drop (a + 1) = (if k then putT key else []) ++ ((if t then [] else putT val) ++ r) := by
    have e : recB ⟨k, key, t, val⟩ ++ r = [kindB ⟨k, key, t, val⟩] ++ ((if k then putT key else []) ++ ((if t then [] else putT val) ++ r)) := by simp [recB]
    rw [e] at h
    exact drop_of h
  have hkE : (k = false → key = ⟨#[]⟩) ∧ (t = true → k = true ∧ val = ⟨#[]⟩) := by
    unfold recE recN at hx
    constructor
    · rintro rfl
      rw [size0]
      by_cases hk0 : key.size = 0
      · exact hk0
      · simp [hk0] at hx
    · rintro rfl
      rw [size0]
      cases k with
      | false => simp at hx
      | true =>
        by_cases hv0 : val.size = 0
        · exact ⟨rfl, hv0⟩
        · simp [hv0] at hx
  unfold recA
  rw [hf, Option.bind_some]
  cases k with
  | false =>
    cases t with
    | true => have := hkE.2 rfl; simp at this
    | false =>
      have hkey := hkE.1 rfl
      simp only [Bool.false_eq_true, if_false, List.nil_append] at h1
      have ht := txtA_put (lim := 512) hv (by omega) h1
      subst hkey
      simp [kindB, txtIf, ht, recB]
      omega
  | true =>
    simp only [if_true] at h1
    have hk1 := txtA_put (lim := 64) hk (by omega) h1
    cases t with
    | true =>
      obtain ⟨_, rfl⟩ := hkE.2 rfl
      simp [kindB, txtIf, hk1, recB]
      omega
    | false =>
      have h2 := drop_of h1
      simp only [Bool.false_eq_true, if_false] at h2
      have ht := txtA_put (lim := 512) hv (by omega) h2
      simp [kindB, txtIf, hk1, ht, recB]
      omega
theorem batA_put {l r : List UInt8} {a : Nat} {b : PBatch} (hb : batchE b = 0) (h : l.drop a = batchB b ++ r) : batA l a = some (b, a + (batchB b).length) := by
  have G := BatGood.of hb
  have hhd := G.hd
  have hlr := G.lr
  unfold batchB at h
  rw [List.append_assoc] at h
  have h2 := drop_of h
  have t1 := times_putM (f := numA) (enc := vPutL) (batHd b) (fun x hx a r hh => numA_put (by have := G.le x hx; omega) hh) a _ h
  have t2 := times_putM (f := recA) (enc := recB) b.recs (fun x hx a r hh => recA_put (G.r x hx) hh) _ _ h2
  have e4 : (batHd b).length = 4 := rfl
  rw [e4] at t1
  unfold batA hdA
  rw [t1]
  simp only [Option.bind_some, batHd]
  rw [if_pos (by omega)]
  simp only [Option.bind_some]
  simp only [batHd] at t2
  rw [t2, Option.map_some]
  have e1 : ((b.prod.toNat : Nat) : Int) = b.prod := by omega
  have e2 : ((b.epoch.toNat : Nat) : Int) = b.epoch := by omega
  have e3 : ((b.seq.toNat : Nat) : Int) = b.seq := by omega
  rw [e1, e2, e3]
  show some (b, _) = _
  simp only [batchB, batHd, List.length_append, Nat.add_assoc]
theorem times_le {α : Type} {f : many α} {l : List UInt8} (hf : ∀ a x b, f l a = some (x, b) → a ≤ b ∧ b ≤ l.length) : ∀ (k a : Nat) {xs : List α} {b : Nat}, a ≤ l.length → timesA f l k a = some (xs, b) → a ≤ b ∧ b ≤ l.length ∧ xs.length = k
  | 0, a, xs, b, ha, h => by simp [timesA] at h; obtain ⟨rfl, rfl⟩ := h; simp; omega
  | k + 1, a, xs, b, ha, h => by
    simp only [timesA] at h
    cases hp : f l a with
    | none => rw [hp] at h; cases h
    | some p =>
      rw [hp, Option.bind_some] at h
      have h1 := hf a p.1 p.2 hp
      cases hq : timesA f l k p.2 with
      | none => rw [hq] at h; cases h
      | some q =>
        rw [hq] at h
        have h2 := times_le hf k p.2 h1.2 (xs := q.1) (b := q.2) hq
        simp at h
        obtain ⟨rfl, rfl⟩ := h
        simp; omega
theorem numA_le {l : List UInt8} {a n b : Nat} (h : numA l a = some (n, b)) : a < b ∧ b ≤ l.length ∧ n < 18446744073709551616 := by
  unfold numA at h
  cases hv : vg 0 (l.drop a) with
  | none => rw [hv] at h; cases h
  | some p =>
    have h1 := vg_len _ (n := p.1) (m := p.2) hv
    have h2 := vg_lt _ (n := p.1) (m := p.2) (by omega) hv
    rw [hv] at h
    rw [List.length_drop] at h1
    simp at h h2
    omega
theorem txtA_le {l : List UInt8} {a b lim : Nat} {t : ByteArray} (h : txtA lim l a = some (t, b)) : a < b ∧ b ≤ l.length ∧ t.size ≤ lim := by
  unfold txtA at h
  cases hv : tg lim (l.drop a) with
  | none => rw [hv] at h; cases h
  | some p =>
    have h1 := tg_len (t := p.1) (m := p.2) hv
    rw [hv] at h
    rw [List.length_drop] at h1
    simp at h
    obtain ⟨rfl, rfl⟩ := h
    omega

/-! ### a reader -/
/-- Where it stands; nowhere, if something was wrong. -/
def Rd (T : TypeId) (s : ByteArray) (br : Nat) (st : Option Nat) (w : World) : Prop :=
  ∃ (a : Nat) (e : Int), w.heap[br]? = some (.cells #[.string s, .int .i64 (a : Nat), .int .i64 e] T) ∧ a ≤ s.size ∧ st = if e = 0 then some a else none
theorem Rd.keep0 {T : TypeId} {s : ByteArray} {br : Nat} {st : Option Nat} {w w' : World} (h : Rd T s br st w) (M : Mod [] w w') : Rd T s br st w' := by
  obtain ⟨a, e, h1, h2, h3⟩ := h; exact ⟨a, e, M.keep0 h1, h2, h3⟩
theorem Rd.keep {T : TypeId} {s : ByteArray} {br : Nat} {st : Option Nat} {S : List Nat} {w w' : World} (h : Rd T s br st w) (M : Mod S w w') (hS : br ∉ S) : Rd T s br st w' := by
  obtain ⟨a, e, h1, h2, h3⟩ := h; exact ⟨a, e, M.keep h1 hS, h2, h3⟩
theorem Rd.lt {T : TypeId} {s : ByteArray} {br : Nat} {st : Option Nat} {w : World} (h : Rd T s br st w) : br < w.heap.size := by
  obtain ⟨a, e, h1, _⟩ := h; exact lt_of_block h1
theorem stB {α β : Type} {st st1 : Option Nat} {c : α} {f : Nat → Option (α × Nat)} {g : α × Nat → Option β} (h : st.bind f = st1.map fun a => (c, a)) : (st.bind fun a => (f a).bind g) = st1.bind fun a => g (c, a) := by
  have e : (st.bind fun a => (f a).bind g) = (st.bind f).bind g := (Option.bind_assoc ..).symm
  rw [e, h]
  cases st1 <;> rfl
abbrev RT : TypeId := 257
/-- How a call of a reader's method ends. -/
abbrev RdC {α : Type} (T : TypeId) (s : ByteArray) (br : Nat) (w : World) (r : Option (α × Nat)) (w' : World) (v : α) : Prop := Mod [br] w w' ∧ ∃ st', Rd T s br st' w' ∧ r = st'.map fun a => (v, a)

theorem Rnumber_ok {s : ByteArray} {br : Nat} {st : Option Nat} {w : World} (hs : s.size ≤ 1000000000000) (h : Rd RT s br st w) :
    Calls Tryz.prog 216 #[.pointer (some ⟨br, 0, none⟩)] w fun e w' => ∃ v, e = .returned v ∧ ∃ n : Nat, v = .int .u64 (n : Nat) ∧ n < 18446744073709551616 ∧ RdC RT s br w (st.bind (numA s.data.toList)) w' n := by
  obtain ⟨a, e, h1, ha, rfl⟩ := h
  refine record_reader_number_go h1 ?_
  refine brB_of (fun g => ?_) fun g => ?_
  · have g : e ≠ 0 := by simpa using g
    intro w1 A1 h2
    exact ⟨0, rfl, by omega, A1.mod.less (by simp), none, ⟨a, e, h2, ha, by rw [if_neg g]⟩, by rw [if_neg g]; rfl⟩
  have g : e = 0 := by simpa using g
  subst g
  intro w2 A2
  refine (GetN_ok s a hs ha w2).mono ?_
  rintro e w3 ⟨v, rfl, hv, rfl⟩
  rw [if_pos rfl]
  cases hg : vg 0 (s.data.toList.drop a) with
  | none =>
    rw [hg] at hv
    obtain ⟨e, he, rfl⟩ := hv
    refine ⟨_, _, _, rfl, Keep.of0 (Mod.refl _), fun w7 A7 h7 => ⟨0, rfl, by omega, (A2.mod.trans A7.mod).less (by simp), none, ⟨0, e, h7, by omega, by rw [if_neg he]⟩, ?_⟩⟩
    simp [numA, hg]
  | some p =>
    rw [hg] at hv
    have hv : v = .tuple #[.int .u64 (p.1 : Nat), .int .i64 ((a + p.2 : Nat) : Int), .int .i64 0] := hv
    subst hv
    have h8 := numA_le (l := s.data.toList) (a := a) (n := p.1) (b := a + p.2) (by simp [numA, hg])
    have el : s.data.toList.length = s.size := by simp
    refine ⟨_, _, _, rfl, Keep.of0 (Mod.refl _), fun w7 A7 h7 => ⟨p.1, rfl, h8.2.2, (A2.mod.trans A7.mod).less (by simp), some (a + p.2), ⟨a + p.2, 0, h7, by omega, rfl⟩, ?_⟩⟩
    simp [numA, hg]
theorem Rtext_ok {s : ByteArray} {br : Nat} {st : Option Nat} {w : World} (hs : s.size ≤ 1000000000000) (h : Rd RT s br st w) (has : Bool) (lim : Nat) (hl : lim ≤ 1000000) :
    Calls Tryz.prog 218 #[.pointer (some ⟨br, 0, none⟩), .bool has, .int .i64 (lim : Nat)] w fun e w' => ∃ v, e = .returned v ∧ ∃ t : ByteArray, v = .string t ∧ RdC RT s br w (st.bind (txtIf has lim s.data.toList)) w' t := by
  obtain ⟨a, e, h1, ha, rfl⟩ := h
  refine record_reader_text_go h1 ?_
  refine brB_of (fun g => ?_) fun g => ?_
  · have g : e ≠ 0 := by simpa using g
    intro w1 A1 h2
    exact ⟨_, rfl, A1.mod.less (by simp), none, ⟨a, e, h2, ha, by rw [if_neg g]⟩, by rw [if_neg g]; rfl⟩
  have g : e = 0 := by simpa using g
  subst g
  rw [if_pos rfl]
  refine brB_of (fun g => ?_) fun g => ?_
  · have g : has = false := by simpa using g
    subst g
    intro w1 A1 h2
    exact ⟨_, rfl, A1.mod.less (by simp), some a, ⟨a, 0, h2, ha, by rw [if_pos rfl]⟩, rfl⟩
  have g : has = true := by simpa using g
  subst g
  intro w2 A2
  refine (GetText_ok s a lim hs ha (by omega) w2).mono ?_
  rintro e w3 ⟨v, rfl, hv, rfl⟩
  cases hg : tg lim (s.data.toList.drop a) with
  | none =>
    rw [hg] at hv
    obtain ⟨e, he, rfl⟩ := hv
    refine ⟨_, _, _, rfl, Keep.of0 (Mod.refl _), fun w7 A7 h7 => ⟨_, rfl, (A2.mod.trans A7.mod).less (by simp), none, ⟨0, e, h7, by omega, by rw [if_neg he]⟩, ?_⟩⟩
    simp [txtIf, txtA, hg]
  | some p =>
    rw [hg] at hv
    have hv : v = .tuple #[.string p.1, .int .i64 ((a + p.2 : Nat) : Int), .int .i64 0] := hv
    subst hv
    have h8 := txtA_le (lim := lim) (l := s.data.toList) (a := a) (t := p.1) (b := a + p.2) (by simp [txtA, hg])
    have el : s.data.toList.length = s.size := by simp
    refine ⟨_, _, _, rfl, Keep.of0 (Mod.refl _), fun w7 A7 h7 => ⟨p.1, rfl, (A2.mod.trans A7.mod).less (by simp), some (a + p.2), ⟨a + p.2, 0, h7, by omega, rfl⟩, ?_⟩⟩
    simp [txtIf, txtA, hg]
theorem Rfirst_ok {s : ByteArray} {br : Nat} {st : Option Nat} {w : World} (hs : s.size ≤ 1000000000000) (h : Rd RT s br st w) :
    Calls Tryz.prog 217 #[.pointer (some ⟨br, 0, none⟩)] w fun e w' => ∃ v, e = .returned v ∧ ∃ c : Nat, v = .int .u8 (c : Nat) ∧ c < 256 ∧ RdC RT s br w (st.bind (fstA s.data.toList)) w' c := by
  obtain ⟨a, e, h1, ha, rfl⟩ := h
  refine record_reader_first_go h1 ?_
  refine brB_of (fun g => ?_) fun g => ?_
  · have g : e ≠ 0 := by simpa using g
    intro w1 A1 h2
    exact ⟨0, rfl, by omega, A1.mod.less (by simp), none, ⟨a, e, h2, ha, by rw [if_neg g]⟩, by rw [if_neg g]; rfl⟩
  have g : e = 0 := by simpa using g
  subst g
  rw [if_pos rfl]
  refine brB_dec (fun g => by omega) fun _ => brB_dec (fun g => by omega) fun _ => ?_
  refine brB_of (fun g => ?_) fun g => ?_
  · have g : (a : Int) = s.size := by simpa using g
    have g : a = s.size := by omega
    intro w1 A1 h2
    refine ⟨0, rfl, by omega, A1.mod.less (by simp), none, ⟨a, 10, h2, ha, by rw [if_neg (by decide)]⟩, ?_⟩
    simp [fstA, g]
  have g : ¬ (a : Int) = s.size := by simpa using g
  have hlt : a < s.size := by omega
  obtain ⟨c, hc, hcv⟩ := byteAt_mem hlt
  have hc8 := c.toNat_lt
  refine ⟨by omega, by omega, ?_⟩
  rw [Int.toNat_natCast, hcv]
  have ew : IntKind.wrap .i64 ((a : Int) + 1) = ((a + 1 : Nat) : Int) := by rw [wrap_id (by omega) (by omega)]; omega
  rw [ew]
  have ok : ∀ {w1}, Adv [br] [] w w1 → w1.heap[br]? = some (.cells #[.string s, .int .i64 ((a + 1 : Nat) : Int), .int .i64 0] RT) → (c.toNat = 0 ∨ c.toNat = 1 ∨ c.toNat = 3) → ∃ k : Nat, Value.int .u8 (c.toNat : Nat) = .int .u8 (k : Nat) ∧ k < 256 ∧ RdC RT s br w ((some a).bind (fstA s.data.toList)) w1 k := fun {w1} A1 h2 h3 => by
    refine ⟨c.toNat, rfl, by omega, A1.mod, some (a + 1), ⟨a + 1, 0, h2, by omega, rfl⟩, ?_⟩
    simp only [Option.bind_some, fstA, hc, if_pos h3]; rfl
  refine brB_of (fun g0 => ?_) fun g0 => ?_
  · have g0 : ¬ (c.toNat : Int) = 0 := by simpa using g0
    refine brB_of (fun g1 => ?_) fun g1 => ?_
    · have g1 : ¬ (c.toNat : Int) = 1 := by simpa using g1
      refine brB_of (fun g2 => ?_) fun g2 => ?_
      · have g2 : ¬ (c.toNat : Int) = 3 := by simpa using g2
        intro w1 A1 h2
        refine ⟨c.toNat, rfl, by omega, A1.mod, none, ⟨a + 1, 30, h2, by omega, by rw [if_neg (by decide)]⟩, ?_⟩
        simp only [Option.bind_some, fstA, hc]
        rw [if_neg (by omega)]; rfl
      · have g2 : (c.toNat : Int) = 3 := by simpa using g2
        intro w1 A1 h2
        exact ok A1 h2 (by omega)
    · have g1 : (c.toNat : Int) = 1 := by simpa using g1
      intro w1 A1 h2
      exact ok A1 h2 (by omega)
  · have g0 : (c.toNat : Int) = 0 := by simpa using g0
    intro w1 A1 h2
    exact ok A1 h2 (by omega)
theorem bit0 : ∀ c : Fin 256, (bAnd .u8 ((c.val : Nat) : Int) 1 != 0) = decide (c.val % 2 = 1) := by decide +kernel
theorem bit1 : ∀ c : Fin 256, (bAnd .u8 ((c.val : Nat) : Int) 2 != 0) = decide (c.val / 2 % 2 = 1) := by decide +kernel
theorem Rrecord_ok {s : ByteArray} {br : Nat} {st : Option Nat} {w : World} (hs : s.size ≤ 1000000000000) (h : Rd RT s br st w) :
    Calls Tryz.prog 215 #[.pointer (some ⟨br, 0, none⟩)] w fun e w' => ∃ v, e = .returned v ∧ ∃ x : PRec, v = x.v ∧ RdC RT s br w (st.bind (recA s.data.toList)) w' x := by
  have hlt := h.lt
  obtain ⟨a, e, h1, ha, hst⟩ := h
  refine record_reader_record_go h1 ?_
  intro b1 f1 w2 A2 h2
  have h : Rd RT s br st w2 := ⟨a, e, h2, ha, hst⟩
  have l1 := A2.lt b1 (by simp)
  have s2 := A2.mod.size
  refine (Rfirst_ok hs h).mono ?_
  rintro _ w3 ⟨_, rfl, c, rfl, hc, M3, st1, ⟨a3, e3, h3, ha3, he3⟩, q1⟩
  refine ⟨_, rfl, Keep.ofE M3 fun k hk hl he => by simp at hk ⊢ <;> omega, _, _, _, h3, ?_⟩
  have s3 := M3.size
  have b0 : (bAnd .u8 (c : Int) 1 != 0) = decide (c % 2 = 1) := bit0 ⟨c, hc⟩
  have b1' : (bAnd .u8 (c : Int) 2 != 0) = decide (c / 2 % 2 = 1) := bit1 ⟨c, hc⟩
  have b2' : (!decide (c / 2 % 2 = 1)) = decide (c / 2 % 2 = 0) := by
    rw [Bool.eq_iff_iff]; simp
  rw [b0, b1', b2']
  intro b8 f8 w9 A9 h9
  have l9 := A9.lt b8 (by simp)
  have s9 := A9.mod.size
  refine (Rtext_ok hs (st := st1) ⟨a3, e3, h9, ha3, he3⟩ (decide (c % 2 = 1)) 64 (by omega)).mono ?_
  rintro _ w10 ⟨_, rfl, key, rfl, M10, st2, ⟨a10, e10, h10, ha10, he10⟩, q2⟩
  refine ⟨_, rfl, Keep.ofE M10 fun k hk hl he => by simp at hk ⊢ <;> omega, _, _, _, h10, ?_⟩
  intro w15 A15 h15
  refine (Rtext_ok hs (st := st2) ⟨a10, e10, h15, ha10, he10⟩ (decide (c / 2 % 2 = 0)) 512 (by omega)).mono ?_
  rintro _ w16 ⟨_, rfl, val, rfl, M16, st3, ⟨a16, e16, h16, ha16, he16⟩, q3⟩
  have s10 := M10.size
  have s15 := A15.mod.size
  refine ⟨_, rfl, Keep.ofE M16 fun k hk hl he => by simp at hk ⊢ <;> omega, _, _, _, h16, ?_⟩
  intro w21 A21 h21
  refine ⟨⟨decide (c % 2 = 1), key, decide (c / 2 % 2 = 1), val⟩, rfl, ?_, st3, ⟨a16, e16, h21, ha16, he16⟩, ?_⟩
  · refine ((((((A2.mod.trans M3).trans A9.mod).trans M10).trans A15.mod).trans M16).trans A21.mod).less fun k hk hl => ?_
    simp at hk ⊢
    omega
  · unfold recA
    have r3 := stB (g := fun r : ByteArray × Nat => some ((⟨decide (c % 2 = 1), key, decide (c / 2 % 2 = 1), r.1⟩ : PRec), r.2)) q3
    have r2 := stB (g := fun q : ByteArray × Nat => (txtIf (decide (c / 2 % 2 = 0)) 512 s.data.toList q.2).bind fun r => some ((⟨decide (c % 2 = 1), q.1, decide (c / 2 % 2 = 1), r.1⟩ : PRec), r.2)) q2
    refine (stB q1).trans (r2.trans (r3.trans ?_))
    cases st3 <;> rfl
end Go.Proofs.YtohgihgddknmmaaGreat

/- A batch at a place. -/
namespace Go.Proofs.YtohgihgddknmmaaGreat
open Go Go.RowKit
set_option linter.unusedVariables false
set_option linter.unusedSimpArgs false

def cutN (xs : List Nat) (j : Nat) : Nat := min (xs.getD j 0)  1099511627776
theorem minMO (n : Nat) (h : n < 18446744073709551616) : IntKind.wrap .i64 (if (1099511627776 : Int) < (n : Nat) then 1099511627776 else (n : Nat)) = ((min n 1099511627776 : Nat) : Int) := by
  split
  · rw [wrap_id (by omega) (by omega)]; omega
  · rw [wrap_id (by omega) (by omega)]; omega
theorem stT {α : Type} {st st1 : Option Nat} {x : α} {xs : List α} {k : Nat} {f : many α} {l : List UInt8} (h : st.bind (f l) = st1.map fun a => (x, a)) :
    (st.bind fun a => (timesA f l (k + 1) a).map fun p => (xs ++ p.1, p.2)) = st1.bind fun a => (timesA f l k a).map fun p => ((xs ++ [x]) ++ p.1, p.2) := by
  have e : (st.bind fun a => (timesA f l (k + 1) a).map fun p => (xs ++ p.1, p.2)) = st.bind fun a => (f l a).bind fun q => (timesA f l k q.2).map fun p => ((xs ++ [q.1]) ++ p.1, p.2) := by
    cases st with
    | none => rfl
    | some a =>
      simp only [Option.bind_some, timesA]
      cases f l a with
      | none => rfl
      | some q =>
        simp only [Option.bind_some, Option.map_map]
        congr 1
        funext p
        simp
  rw [e, stB h]
theorem bigT {xs : List Nat} {n : Nat} (h : ((xs.take 3).any fun x => decide (x > 1099511627776)) = true) : true = (((xs ++ [n]).take 3).any fun x => decide (x > 1099511627776)) := by
  rw [List.take_append, List.any_append, h]; rfl
theorem bigF {xs : List Nat} {n : Nat} (h : ((xs.take 3).any fun x => decide (x > 1099511627776)) = false) (hl : xs.length < 3) : decide ((n : Int) > 1099511627776) = (((xs ++ [n]).take 3).any fun x => decide (x > 1099511627776)) := by
  rw [List.take_append, List.any_append, h]
  have e : 3 - xs.length = (2 - xs.length) + 1 := by omega
  rw [e, List.take_succ_cons]
  simp
  omega
theorem bigF2 {xs : List Nat} {n : Nat} (h : ((xs.take 3).any fun x => decide (x > 1099511627776)) = false) (hl : ¬ xs.length < 3) : false = (((xs ++ [n]).take 3).any fun x => decide (x > 1099511627776)) := by
  rw [List.take_append, List.any_append, h]
  have e : 3 - xs.length = 0 := by omega
  rw [e]; rfl
set_option maxHeartbeats 1000000 in
theorem Rnumbers_ok {s : ByteArray} {br : Nat} {st : Option Nat} {w : World} (hs : s.size ≤ 1000000000000) (h : Rd RT s br st w) :
    Calls Tryz.prog 214 #[.pointer (some ⟨br, 0, none⟩)] w fun e w' => ∃ v, e = .returned v ∧ ∃ x y z k : Nat, v = .agg #[.int .i64 (x : Nat), .int .i64 (y : Nat), .int .i64 (z : Nat), .int .i64 (k : Nat)] ∧ k ≤  1099511627776 ∧
      Mod [br] w w' ∧ ∃ st', Rd RT s br st' w' ∧ (st.bind (hdA s.data.toList) = st'.map fun a => ([x, y, z, k], a)) ∧ (st' = none ∨ 1 ≤ k ∧ k ≤ 16) := by
  have hlt := h.lt
  obtain ⟨a, e, h1, ha, hst⟩ := h
  refine record_reader_numbers_go h1 ?_
  intro b1 f1 b2 f2 w2 A2 h2 h3
  have s2 := A2.mod.size
  refine record_reader_numbers_rule1 (fun mm big i s0 a0 e0 c0 c1 c2 c3 w' => ∃ (xs : List Nat) (a : Nat) (st1 : Option Nat), i = xs.length ∧ xs.length ≤ 4 ∧ s0 = s ∧ a0 = a ∧ a ≤ s.size ∧ (st1 = if e0 = 0 then some a else none) ∧ Mod [br] w w' ∧
    (st.bind (timesA numA s.data.toList 4) = st1.bind fun a => (timesA numA s.data.toList (4 - xs.length) a).map fun p => (xs ++ p.1, p.2)) ∧ big = ((xs.take 3).any fun x => decide (x >  1099511627776)) ∧
    c0 = (cutN xs 0 : Nat) ∧ c1 = (cutN xs 1 : Nat) ∧ c2 = (cutN xs 2 : Nat) ∧ c3 = (cutN xs 3 : Nat) ∧ mm = 4 - xs.length) 4
    ⟨[], a, st, rfl, by decide, rfl, rfl, ha, hst, A2.mod.less (by simp), by simp, rfl, rfl, rfl, rfl, rfl, rfl⟩ ?_
  rintro mm big i s0 a0 e0 c0 c1 c2 c3 w3 ⟨xs, a3, st3, rfl, hx4, rfl, rfl, ha3, he3, M3, q3, rfl, rfl, rfl, rfl, rfl, rfl⟩ h31 h32
  have s3 := M3.size
  refine brB_dec (fun hlt4 => ?_) fun hge => ?_
  · have hlt4 : xs.length < 4 := by omega
    refine (Rnumber_ok hs (st := st3) ⟨a3, e0, h31, ha3, he3⟩).mono ?_
    rintro _ w4 ⟨_, rfl, n, rfl, hn, M4, st4, ⟨a4, e4, h4, ha4, he4⟩, q4⟩
    have s4 := M4.size
    have hk4 : 4 - xs.length = (4 - (xs.length + 1)) + 1 := by omega
    have q5 : st.bind (timesA numA s0.data.toList 4) = st4.bind fun a => (timesA numA s0.data.toList (4 - (xs ++ [n]).length) a).map fun p => ((xs ++ [n]) ++ p.1, p.2) := by
      rw [q3, hk4, List.length_append]
      exact stT q4
    by_cases hb20 : b2 = br
    · omega
    refine ⟨_, rfl, Keep.ofE M4 fun k hk hl he => by simp at hk he ⊢; omega, _, _, _, h4, _, _, _, _, M4.keep h32 (by simpa using hb20), ?_⟩
    have h42 := M4.keep h32 (by simpa using hb20)
    have key : ∀ {F : ByteArray → Int → Int → Int → Int → Int → Int → World → Prop}, (∀ w5, w5.heap[br]? = some (.cells #[(.string s0), (.int .i64 (a4 : Nat)), (.int .i64 e4)] 257) → Mod [br] w w5 →
        F s0 (a4 : Nat) e4 (cutN (xs ++ [n]) 0 : Nat) (cutN (xs ++ [n]) 1 : Nat) (cutN (xs ++ [n]) 2 : Nat) (cutN (xs ++ [n]) 3 : Nat) w5) → 0 ≤ (xs.length : Int) ∧ (xs.length : Int) < ((4 : Nat) : Int) ∧
      Go.Proofs.YtohgihgddknmmaaGreat.st w4 (Addr.add ⟨b2, 0, none⟩ (Int.toNat (xs.length : Int) * 1)) [(.int .i64 (IntKind.wrap .i64 (if 1099511627776 < (n : Int) then 1099511627776 else (n : Int))))] fun w12 => KeepE [br, b2] [(b1, 258)] [b1] w4 w12 ∧ ∃ s13 : ByteArray, ∃ x14 : Int, ∃ x15 : Int, w12.heap[br]? = some (.cells #[(.string s13), (.int .i64 x14), (.int .i64 x15)] 257) ∧ ∃ x16 : Int, ∃ x17 : Int, ∃ x18 : Int, ∃ x19 : Int, w12.heap[b2]? = some (.cells #[(.int .i64 x16), (.int .i64 x17), (.int .i64 x18), (.int .i64 x19)] 258) ∧ F s13 x14 x15 x16 x17 x18 x19 w12 := by
      intro F hF
      refine ⟨by omega, by omega, ?_⟩
      rw [minMO n hn, addr_add]
      have hi : 0 + Int.toNat (xs.length : Int) * 1 = xs.length := by omega
      rw [hi]
      refine st_of h42 rfl (by simp; omega) fun w5 h5 M5 => ⟨Keep.ofE M5 fun k hk hl he => by simp at hk he ⊢; omega, _, _, _, M5.keep h4 (by simpa using Ne.symm hb20), (cutN (xs ++ [n]) 0 : Nat), (cutN (xs ++ [n]) 1 : Nat), (cutN (xs ++ [n]) 2 : Nat), (cutN (xs ++ [n]) 3 : Nat), ?_, hF w5 (M5.keep h4 (by simpa using Ne.symm hb20)) ?_⟩
      · rw [h5]
        rcases xs with _ | ⟨x0, _ | ⟨x1, _ | ⟨x2, _ | ⟨x3, xs⟩⟩⟩⟩
        · rfl
        · rfl
        · rfl
        · rfl
        · simp at hlt4; omega
      · exact (M3.via M4 (by simp)).via M5 (by simp; omega)
    refine brB_of (fun g => ?_) fun g => brB_dec (fun g2 => ?_) fun g2 => ?_
    · refine key fun w5 h5 M5 => record_reader_numbers_leaf1 (4 - (xs ++ [n]).length) (by rw [List.length_append]; simp; omega) ⟨xs ++ [n], a4, st4, by rw [wrap_id (by omega) (by omega), List.length_append]; simp, by rw [List.length_append]; simp; omega, rfl, rfl, ha4, he4, M5, q5, ?_, rfl, rfl, rfl, rfl, rfl⟩
      exact bigT g
    · refine key fun w5 h5 M5 => record_reader_numbers_leaf1 (4 - (xs ++ [n]).length) (by rw [List.length_append]; simp; omega) ⟨xs ++ [n], a4, st4, by rw [wrap_id (by omega) (by omega), List.length_append]; simp, by rw [List.length_append]; simp; omega, rfl, rfl, ha4, he4, M5, q5, ?_, rfl, rfl, rfl, rfl, rfl⟩
      exact bigF g (by omega)
    · refine key fun w5 h5 M5 => record_reader_numbers_leaf1 (4 - (xs ++ [n]).length) (by rw [List.length_append]; simp; omega) ⟨xs ++ [n], a4, st4, by rw [wrap_id (by omega) (by omega), List.length_append]; simp, by rw [List.length_append]; simp; omega, rfl, rfl, ha4, he4, M5, q5, ?_, rfl, rfl, rfl, rfl, rfl⟩
      exact bigF2 g (by omega)
  · have hx : xs.length = 4 := by omega
    obtain ⟨x, y, z, k, rfl⟩ : ∃ x y z k, xs = [x, y, z, k] := by
      rcases xs with _ | ⟨x0, _ | ⟨x1, _ | ⟨x2, _ | ⟨x3, _ | ⟨x4, xs⟩⟩⟩⟩⟩ <;> simp at hx
      exact ⟨_, _, _, _, rfl⟩
    have q4 : st.bind (hdA s0.data.toList) = st3.bind fun a => if x ≤ 1099511627776 ∧ y ≤ 1099511627776 ∧ z ≤ 1099511627776 ∧ 1 ≤ k ∧ k ≤ 16 then some ([x, y, z, k], a) else none := by
      unfold hdA
      have e := Option.bind_assoc (x := st) (f := timesA numA s0.data.toList 4) (g := fun p => match p.1 with
        | [x, y, z, k] => if x ≤ 1099511627776 ∧ y ≤ 1099511627776 ∧ z ≤ 1099511627776 ∧ 1 ≤ k ∧ k ≤ 16 then some p else none
        | _ => none)
      refine e.symm.trans ?_
      rw [q3]
      cases st3 with
      | none => rfl
      | some a => rfl
    have hbig : (([x, y, z, k].take 3).any fun x => decide (x > 1099511627776)) = false → x ≤ 1099511627776 ∧ y ≤ 1099511627776 ∧ z ≤ 1099511627776 := by
      intro h; simp at h; omega
    have hbig2 : (([x, y, z, k].take 3).any fun x => decide (x > 1099511627776)) = true → ¬ (x ≤ 1099511627776 ∧ y ≤ 1099511627776 ∧ z ≤ 1099511627776) := by
      intro h; simp at h; omega
    have hcut : ∀ x, x ≤ 1099511627776 → min x 1099511627776 = x := fun x h => by omega
    have c0 : cutN [x, y, z, k] 0 = min x 1099511627776 := rfl
    have c1 : cutN [x, y, z, k] 1 = min y 1099511627776 := rfl
    have c2 : cutN [x, y, z, k] 2 = min z 1099511627776 := rfl
    have c3 : cutN [x, y, z, k] 3 = min k 1099511627776 := rfl
    rw [c0, c1, c2, c3]
    have bad : ∀ {w5 : World} {e5 : Int}, Mod [br] w w5 → w5.heap[br]? = some (.cells #[(.string s0), (.int .i64 (a3 : Nat)), (.int .i64 e5)] RT) → e5 ≠ 0 → st3.bind (fun a => if x ≤ 1099511627776 ∧ y ≤ 1099511627776 ∧ z ≤ 1099511627776 ∧ 1 ≤ k ∧ k ≤ 16 then some ([x, y, z, k], a) else none) = none →
        ∃ x' y' z' k' : Nat, Value.agg #[.int .i64 ((min x 1099511627776 : Nat) : Int), .int .i64 ((min y 1099511627776 : Nat) : Int), .int .i64 ((min z 1099511627776 : Nat) : Int), .int .i64 ((min k 1099511627776 : Nat) : Int)] = .agg #[.int .i64 (x' : Nat), .int .i64 (y' : Nat), .int .i64 (z' : Nat), .int .i64 (k' : Nat)] ∧ k' ≤ 1099511627776 ∧
        Mod [br] w w5 ∧ ∃ st', Rd RT s0 br st' w5 ∧ (st.bind (hdA s0.data.toList) = st'.map fun a => ([x', y', z', k'], a)) ∧ (st' = none ∨ 1 ≤ k' ∧ k' ≤ 16) := fun {w5 e5} M5 h5 he hn => by
      refine ⟨min x 1099511627776, min y 1099511627776, min z 1099511627776, min k 1099511627776, rfl, by omega, M5, none, ⟨a3, e5, h5, ha3, by rw [if_neg he]⟩, ?_, .inl rfl⟩
      rw [q4, hn]; rfl
    refine brB_of (fun g => ?_) fun g => ?_
    · have g : e0 ≠ 0 := by simpa using g
      intro w5 A5 h5 _
      refine bad (M3.via A5.mod (by simp; omega)) h5 g ?_
      rw [he3, if_neg g]; rfl
    have g : e0 = 0 := by simpa using g
    rw [if_pos g] at he3
    subst he3
    refine brB_of (fun g1 => ?_) fun g1 => ?_
    · intro w5 A5 h5 _
      refine bad (M3.via A5.mod (by simp; omega)) h5 (by decide) ?_
      have := hbig2 g1
      exact if_neg (by omega)
    have g1 := hbig g1
    refine brB_of (fun g2 => ?_) fun g2 => ?_
    · have g2 : ((min k 1099511627776 : Nat) : Int) = 0 := by simpa using g2
      intro w5 A5 h5 _
      refine bad (M3.via A5.mod (by simp; omega)) h5 (by decide) ?_
      exact if_neg (by omega)
    have g2 : ¬ ((min k 1099511627776 : Nat) : Int) = 0 := by simpa using g2
    refine brB_dec (fun g3 => ?_) fun g3 => ?_
    · intro w5 A5 h5 _
      refine bad (M3.via A5.mod (by simp; omega)) h5 (by decide) ?_
      exact if_neg (by omega)
    · intro w5 A5 h5 _
      rw [hcut x (by omega), hcut y (by omega), hcut z (by omega), hcut k (by omega)]
      refine ⟨x, y, z, k, rfl, by omega, M3.via A5.mod (by simp; omega), some a3, ⟨a3, 0, by rw [h5, g], ha3, rfl⟩, ?_, .inr (by omega)⟩
      rw [q4]
      exact if_pos (by omega)

/-- What is told of a batch at a place. -/
def ParseV (w0 w : World) : Option (PBatch × Nat) → Value → Prop
  | some (b, a), v => ∃ rs : Sl, v = .tuple #[b.v rs, .int .i64 (a : Nat), .int .i64 0] ∧ Row w w0.heap.size 149 4 encR rs.a rs.n rs.c b.recs ∧ b.recs.length ≤ 16
  | none, v => ∃ e : Int, e ≠ 0 ∧ v = .tuple #[.agg #[.int .i64 0, .int .i64 0, .int .i64 0, .slice none 0 0], .int .i64 0, .int .i64 e]
set_option maxHeartbeats 1000000 in
theorem Parse_ok (s : ByteArray) (a : Nat) (hs : s.size ≤ 1000000000000) (ha : a ≤ s.size) (w : World) :
    Calls Tryz.prog 213 #[.string s, .int .i64 (a : Nat)] w fun e w' => ∃ v, e = .returned v ∧ ParseV w w' (batA s.data.toList a) v ∧ Mod [] w w' := by
  refine record_Parse_go ?_
  intro b1 f1 b2 f2 w3 A3 h3
  have l3 := A3.lt b2 (by simp)
  have l31 := A3.lt b1 (by simp)
  have s3 := A3.mod.size
  refine (Rnumbers_ok (st := some a) hs ⟨a, 0, h3, ha, rfl⟩).mono ?_
  rintro _ w4 ⟨_, rfl, x, y, z, k, rfl, hk, M4, st4, ⟨a4, e4, h4, ha4, he4⟩, q4, hst4⟩
  have s4 := M4.size
  refine ⟨_, _, _, _, rfl, Keep.ofE M4 fun k hk hl he => by simp at hk he ⊢; omega, _, _, _, h4, ?_⟩
  intro b12 f12 b13 f13 w5 A5 h5
  have l13 := A5.lt b13 (by simp)
  have l12 := A5.lt b12 (by simp)
  have s5 := A5.mod.size
  have N5 : Mod [] w w5 := (A3.mod.go0 M4 (by simp; omega)).go0 A5.mod (by simp)
  have qb : batA s.data.toList a = (st4.bind fun a => (timesA recA s.data.toList k a).map fun q => (q.1, q.2)).map fun q => (⟨(x : Nat), (y : Nat), (z : Nat), q.1⟩, q.2) := by
    have q4 : hdA s.data.toList a = st4.map fun a => ([x, y, z, k], a) := q4
    unfold batA
    rw [q4]
    cases st4 with
    | none => rfl
    | some a => 
      show Option.map _ _ = _
      simp only [Option.bind_some, Option.map_map]
      congr 1
  refine record_Parse_rule1 (fun mm i s0 a0 e0 ar nr cr w' => ∃ (j : Nat) (xs : List PRec) (a1 : Nat) (st1 : Option Nat), i = j ∧ xs.length = j ∧ j ≤ k ∧ (st1 = none ∨ k ≤ 16) ∧ s0 = s ∧ a0 = a1 ∧ a1 ≤ s.size ∧ (st1 = if e0 = 0 then some a1 else none) ∧ Mod [] w w' ∧ w5.heap.size ≤ w'.heap.size ∧
    (st4.bind fun a => (timesA recA s.data.toList k a).map fun q => (q.1, q.2)) = (st1.bind fun a => (timesA recA s.data.toList (k - j) a).map fun p => (xs ++ p.1, p.2)) ∧ Row w' w5.heap.size 149 4 encR ar nr cr xs ∧ mm = k - j) k
    ⟨0, [], a4, st4, rfl, rfl, by omega, by rcases hst4 with h | h; exact .inl h; exact .inr h.2, rfl, rfl, ha4, he4, N5, Nat.le_refl _, by simp, Row.nil .., rfl⟩ ?_
  rintro mm i s0 a0 e0 ar nr cr w6 ⟨j, xs, a1, st1, rfl, hxl, hjk, hk16, rfl, rfl, ha1, he1, N6, s6, q6, hRow, rfl⟩ h6
  have fin0 : ∀ {w7}, e0 ≠ 0 → Adv [b1] [] w6 w7 → ParseV w w7 (batA s0.data.toList a) (.tuple #[.agg #[.int .i64 0, .int .i64 0, .int .i64 0, .slice none 0 0], .int .i64 0, .int .i64 e0]) ∧ Mod [] w w7 := fun {w7} he A7 => by
    rw [he1, if_neg he] at q6
    rw [qb, q6]
    exact ⟨⟨e0, he, rfl⟩, N6.go0 A7.mod (by simpa using f1)⟩
  refine brB_of (fun g => ?_) fun g => ?_
  · have g : e0 = 0 := by simpa using g
    subst g
    rw [if_pos rfl] at he1
    subst he1
    have hk16 : k ≤ 16 := by simpa using hk16
    refine brB_dec (fun hlt => ?_) fun hge => ?_
    · have hlt : j < k := by omega
      intro w7 A7 h7
      have s7 := A7.mod.size
      refine (Rrecord_ok (st := some a1) hs ⟨a1, 0, h7, ha1, rfl⟩).mono ?_
      rintro _ w8 ⟨_, rfl, r, rfl, M8, st8, ⟨a8, e8, h8, ha8, he8⟩, q8⟩
      have s8 := M8.size
      refine ⟨_, _, _, _, rfl, Keep.ofE M8 fun k hk hl he => by simp at hk he ⊢; omega, _, _, _, h8, rfl, ?_⟩
      refine al_of fun b9 w9 c9 M9 f9 => ?_
      have s9 := M9.size
      have K9 : Mod [b2] w6 w9 := ((A7.mod.trans M8).trans M9).less fun i hi hl => by simp at hi ⊢; omega
      have hR9 : Row w9 w5.heap.size 149 4 encR ar nr cr xs := hRow.keep K9 fun ad ha hk => by have := hRow.base ad ha; simp at hk; omega
      have N9 : Mod [] w w9 := N6.go0 K9 (by simpa using f2)
      obtain ⟨i0, hi, hz0, hz1, hz2⟩ := info_parts infoR
      refine append_of (x := r) hR9 Tryz.underlying33 hi hz0 hz1 hz2 rfl (by decide) c9 rfl (encR_one _) (by omega) (by unfold maxLen; omega) (by omega) fun a' c' w10 hR10 hM10 => ?_
      have M10 := hM10 _ (rowS_ok ar)
      have s10 := M10.size
      have hrow := rowS_block hR9
      refine ⟨Keep.of M10 fun b hb _ hb' => ?_, ?_⟩
      · have := hrow b hb'; simp at hb; omega
      intro w11 A11 h11
      have s11 := A11.mod.size
      have hkj : k - j = (k - (j + 1)) + 1 := by omega
      refine record_Parse_leaf1 (k - (j + 1)) (by omega) ⟨j + 1, xs ++ [r], a8, st8, by rw [wrap_id (by omega) (by omega)]; omega, by rw [List.length_append, hxl]; rfl, by omega, .inr hk16, rfl, rfl, ha8, he8, ?_, by omega, ?_, ?_, rfl⟩
      · refine (N9.go0 M10 fun i hi => ?_).go0 A11.mod (by simp; omega)
        have := hrow i hi; omega
      · rw [q6, hkj]
        exact stT q8
      · refine hR10.keep A11.mod fun ad ha hk => ?_
        have := hR10.base ad ha; simp at hk; omega
    · refine brB_of (fun g => absurd g (by decide)) fun _ => ⟨rfl, fun w7 A7 h7 => ?_⟩
      have hkj : k - j = 0 := by omega
      rw [qb, q6, hkj]
      refine ⟨⟨⟨ar, nr, cr⟩, rfl, ?_, ?_⟩, N6.go0 A7.mod (by simpa using f1)⟩
      · show Row w7 w.heap.size 149 4 encR ar nr cr (xs ++ [])
        rw [List.append_nil]
        refine (hRow.keep A7.mod fun ad ha hk => ?_).rebase (by omega)
        have := hRow.base ad ha; simp at hk; omega
      · show (xs ++ []).length ≤ 16
        rw [List.append_nil]; omega
  · have g : e0 ≠ 0 := by simpa using g
    refine brB_of (fun _ => ⟨rfl, fun w7 A7 h7 => fin0 g A7⟩) fun g2 => absurd g (by simpa using g2)
end Go.Proofs.YtohgihgddknmmaaGreat
