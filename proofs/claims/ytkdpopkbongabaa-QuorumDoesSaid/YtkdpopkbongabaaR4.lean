/- The reference's Full, Best, Commit, Drop, Same; the program's Copy. -/
import Derived.Test.YtkdpopkbongabaaR3
import Derived.Test.YtkdpopkbongabaaWd
import Derived.Test.YtkdpopkbongabaaGenK17
import Derived.Shelf.SlMaps.Clone
import Derived.Shelf.SlGeneric
namespace Go.Proofs.Ytkdpopkbongabaa
open Go Go.RowKit Go.Maps Go.MapKept
set_option linter.unusedVariables false
set_option linter.unusedSimpArgs false

theorem RFull_ok {b base : Nat} {n view kind : Int} {L : List (Ky × Vt)} {w : World} (hR : RefAt w b n base L) (hnd : (L.map (·.1)).Nodup) (hn : 1 ≤ n ∧ n ≤ 7) (hlen : L.length ≤ 1000000) :
    Calls Try.prog 27 #[.pointer (some ⟨b, 0, none⟩), .int .i64 view, .int .i64 kind] w fun e w' =>
      e = .returned (.bool (decide (((votesTo L view kind n.toNat).length : Int) ≥ need n))) ∧ Mod [] w w' := by
  obtain ⟨⟨a, len, c, k1, k2⟩, ho⟩ := id hR
  refine go_of (k_ref17_Box_Full_go k1 ?_)
  intro w1 A1 h1
  refine (RVotes_ok (hR.keep0 A1.mod) hnd (by omega) hlen).mono ?_
  rintro e w2 ⟨a', c', rfl, hA, M2⟩
  refine ⟨_, _, _, rfl, _, _, _, _, M2.keep0 h1, rfl, ?_, by simpa using A1.mod.trans M2⟩
  have hl := votesTo_len L view kind n.toNat
  rw [wrap_id (by omega) (by omega)]
  have hm : mayB n = true := by simp [mayB]; omega
  have hd : need n = n / 2 + 1 := by rw [need, if_pos hm]
  rw [hd]
  have : (2 * ((votesTo L view kind n.toNat).length : Int) > n) ↔ (((votesTo L view kind n.toNat).length : Int) ≥ n / 2 + 1) := by omega
  simp only [this]

theorem RCommit_ok {b base : Nat} {n view kind : Int} {L : List (Ky × Vt)} {w : World} (hR : RefAt w b n base L) (hnd : (L.map (·.1)).Nodup) (hn : 0 ≤ n ∧ n ≤ 7) (hlen : L.length ≤ 1000000) :
    Calls Try.prog 28 #[.pointer (some ⟨b, 0, none⟩), .int .i64 view, .int .i64 kind] w fun e w' =>
      e = .returned (.int .i64 (commitOf 0 (votesTo L view kind n.toNat))) ∧ Mod [] w w' := by
  obtain ⟨⟨a, len, c, k1, k2⟩, ho⟩ := id hR
  refine go_of (k_ref17_Box_Commit_go k1 ?_)
  intro w1 A1 h1
  refine (RVotes_ok (hR.keep0 A1.mod) hnd hn hlen).mono ?_
  rintro e w2 ⟨a', c', rfl, hA, M2⟩
  refine ⟨_, _, _, rfl, _, _, _, _, M2.keep0 h1, ?_⟩
  have M02 : Mod [] w w2 := by simpa using A1.mod.trans M2
  have hl := votesTo_len L view kind n.toNat
  have hS := hA.sl encV_len
  generalize votesTo L view kind n.toNat = l at *
  refine k_ref17_Box_Commit_rule1 (fun m x y w' => ∃ k : Nat, y = k ∧ k ≤ l.length ∧ x = commitOf 0 (l.take k) ∧ w' = w2 ∧ m = l.length - k) l.length ⟨0, rfl, Nat.zero_le _, rfl, rfl, rfl⟩ ?_
  rintro m x y w3 ⟨k, rfl, hk, rfl, rfl, rfl⟩ _
  refine brB_dec (fun hlt => ?_) fun hge => ?_
  · have hlt : k < l.length := by omega
    have hx' : l[k]? = some l[k] := by simp [hlt]
    refine hS.ix hx' fun q hq => ldInt_of (hq 3 _ rfl) ?_
    exact k_ref17_Box_Commit_leaf1 (l.length - (k + 1)) (by omega) ⟨k + 1, by rw [wrap_id (by omega) (by omega)]; omega, by omega, by rw [commitOf_take hx'], rfl, rfl⟩
  · have : k = l.length := by omega
    subst this
    exact ⟨by rw [List.take_length], M02⟩

/-- By rising replicas the first of the greatest is the one that the program takes. -/
def sortedF (l : List Vt) : Prop := l.Pairwise fun x y => x.f < y.f
theorem votesTo_sorted {L : List (Ky × Vt)} (hown : ∀ p ∈ L, p.2.f = p.1.2.2) (view kind : Int) (k : Nat) : sortedF (votesTo L view kind k) ∧ ∀ x ∈ votesTo L view kind k, x.f < k := by
  induction k with
  | zero => exact ⟨List.Pairwise.nil, by simp [votesTo]⟩
  | succ k ih =>
    rw [votesTo_succ]
    have hf : ∀ x ∈ (lkp L (view, kind, (k : Int))).toList, x.f = k := fun x hx => by
      cases h : lkp L (view, kind, (k : Int)) with
      | none => rw [h] at hx; cases hx
      | some y =>
        rw [h] at hx; simp at hx; subst hx
        exact hown _ (mem_of_lkp h)
    refine ⟨List.pairwise_append.2 ⟨ih.1, ?_, fun x hx y hy => by rw [hf y hy]; exact ih.2 x hx⟩, fun x hx => ?_⟩
    · cases lkp L (view, kind, (k : Int)) <;> simp
    · rcases List.mem_append.1 hx with hx | hx
      · have := ih.2 x hx; omega
      · have := hf x hx; omega
theorem ordV_gt {x m : Vt} (h : m.f < x.f) : (ordV x m > 0) ↔ (x.n > m.n ∨ (x.n = m.n ∧ x.l > m.l)) := by
  unfold ordV cmpI firstOf firstOf firstOf firstOf
  split <;> split <;> (try split) <;> (try split) <;> omega
theorem maxV_mem {m : Vt} : ∀ {l : List Vt}, maxV m l = m ∨ maxV m l ∈ l
  | [] => .inl rfl
  | x :: r => by
    unfold maxV
    split
    · rcases maxV_mem (m := x) (l := r) with h | h
      · right; rw [h]; simp
      · right; simp [h]
    · rcases maxV_mem (m := m) (l := r) with h | h
      · exact .inl h
      · right; simp [h]

theorem RBest_ok {b base : Nat} {n view kind : Int} {L : List (Ky × Vt)} {w : World} (hR : RefAt w b n base L) (hnd : (L.map (·.1)).Nodup) (hn : 0 ≤ n ∧ n ≤ 7) (hlen : L.length ≤ 1000000) :
    Calls Try.prog 24 #[.pointer (some ⟨b, 0, none⟩), .int .i64 view, .int .i64 kind] w fun e w' =>
      e = .returned (.tuple #[(bestOf (votesTo L view kind n.toNat)).1.v, .bool (bestOf (votesTo L view kind n.toNat)).2]) ∧ Mod [] w w' := by
  obtain ⟨⟨a, len, c, k1, k2⟩, ho⟩ := id hR
  refine go_of (k_ref17_Box_Best_go k1 ?_)
  intro b1 f1 w2 A2 h2
  refine (RVotes_ok (hR.keep0 A2.mod) hnd hn hlen).mono ?_
  rintro e w3 ⟨a', c', rfl, hA, M3⟩
  refine ⟨_, _, _, rfl, Keep.of0 M3, _, _, _, _, M3.keep0 h2, ?_⟩
  have M03 : Mod [] w w3 := by simpa using A2.mod.trans M3
  have hl := votesTo_len L view kind n.toNat
  have hso := (votesTo_sorted ho view kind n.toNat).1
  have hS := hA.sl encV_len
  generalize votesTo L view kind n.toNat = l at *
  cases l with
  | nil =>
    refine brB_of (fun _ => ?_) (fun h => by simp at h)
    intro w4 A4 _
    exact ⟨rfl, M03.go0 A4.mod (by simp; omega)⟩
  | cons x0 r =>
    refine brB_of (fun h => by simp at h; omega) (fun _ => ?_)
    have x00 : (x0 :: r)[0]? = some x0 := rfl
    refine hS.ix x00 fun q hq => ldInt_of (by simpa [add_zero] using hq 0 _ rfl) (ldInt_of (hq 1 _ rfl) (ldInt_of (hq 2 _ rfl) (ldInt_of (hq 3 _ rfl) ?_)))
    intro b17 f17 w4 A4 h4
    have M04 : Mod [] w w4 := M03.go0 A4.mod (by simp)
    have s1 : b1 < w3.heap.size := Nat.lt_of_lt_of_le (A2.lt b1 (by simp)) M3.size
    have hrl : r.length ≤ 7 := by simp at hl; omega
    refine k_ref17_Box_Best_rule1 (fun m x p q s t w' => ∃ k : Nat, x = (k + 1 : Nat) ∧ k ≤ r.length ∧ (⟨p, q, s, t⟩ : Vt) = maxV x0 (r.take k) ∧ Mod [] w w' ∧ SlAt w' 4 encV a' (x0 :: r).length (x0 :: r) ∧ m = r.length - k) r.length
      ⟨0, rfl, Nat.zero_le _, rfl, M04, hS.keep0 (A4.mod.new (by simp)), rfl⟩ ?_
    rintro m x p q s t w5 ⟨k, rfl, hk, hmx, M05, hS5, rfl⟩ h5
    have hsz := M05.size
    refine brB_dec (fun hlt => ?_) fun hge => ?_
    · have hlt : k < r.length := by simp at hlt; omega
      have hx : (x0 :: r)[k + 1]? = some r[k] := by simp [hlt]
      have hx' : r[k]? = some r[k] := by simp [hlt]
      have hmm := maxV_take (m := x0) hx'
      have hf : (maxV x0 (r.take k)).f < r[k].f := by
        have hp := List.pairwise_cons.1 hso
        rcases maxV_mem (m := x0) (l := r.take k) with h | h
        · rw [h]; exact hp.1 _ (List.getElem_mem hlt)
        · obtain ⟨j, hj, e⟩ := List.getElem_of_mem h
          have hjk : j < k := by simp at hj; omega
          rw [← e, List.getElem_take]
          exact List.pairwise_iff_getElem.1 hp.2 j k (by omega) hlt hjk
      rw [← hmx] at hf hmm
      have hgt := ordV_gt hf
      have ek : IntKind.wrap .i64 (((k + 1 : Nat) : Int) + 1) = ((k + 1 + 1 : Nat) : Int) := by rw [wrap_id (by omega) (by omega)]; omega
      have z17 : w.heap.size ≤ b17 := Nat.le_trans M03.size f17
      have d17 : b17 < w4.heap.size := A4.lt b17 (by simp)
      -- the array of the votes is not the best one's variable
      have hne : ∀ {wx wy : World}, Mod [b17] wx wy → SlAt wx 4 encV a' (x0 :: r).length (x0 :: r) → SlAt wy 4 encV a' (x0 :: r).length (x0 :: r) := fun M S => S.keep M fun ad had => by
        obtain ⟨ad0, e0, hc⟩ := hS.2 0 x0 rfl
        rw [had] at e0; cases e0
        have := block_of_cell (hc 0 _ rfl)
        simp [Addr.add] at this
        simp; omega
      refine hS5.ix hx fun q1 hq => ldInt_of (hq 1 _ rfl) ?_
      refine brB_dec (fun g1 => ?_) fun g1 => ?_
      · refine hS5.ix hx fun q2 hq2 => ?_
        intro w6 A6 _
        have e6 : ∀ j v, (encV r[k])[j]? = some v → w6.cell? (q2.add j) = some v := fun j v hv => (A6.mod.new (by simp)).cell0 (hq2 j v hv)
        refine ldInt_of (by simpa [add_zero] using e6 0 _ rfl) (ldInt_of (e6 1 _ rfl) (ldInt_of (e6 2 _ rfl) (ldInt_of (e6 3 _ rfl) ?_)))
        intro w7 A7 _
        exact k_ref17_Box_Best_leaf1 (r.length - (k + 1)) (by omega) ⟨k + 1, ek, by omega, by rw [hmm, if_pos (hgt.2 (.inl g1))], (M05.go0 A6.mod (by simp)).go0 A7.mod (by simp; omega), hne A7.mod (hS5.keep0 A6.mod), rfl⟩
      · refine hS5.ix hx fun q2 hq2 => ldInt_of (hq2 1 _ rfl) ?_
        refine brB_of (fun g2 => ?_) fun g2 => ?_
        · have g2 : r[k].n = q := by simpa using g2
          refine hS5.ix hx fun q3 hq3 => ldInt_of (hq3 2 _ rfl) ?_
          refine brB_dec (fun g3 => ?_) fun g3 => ?_
          · refine hS5.ix hx fun q4 hq4 => ?_
            intro w6 A6 _
            have e6 : ∀ j v, (encV r[k])[j]? = some v → w6.cell? (q4.add j) = some v := fun j v hv => (A6.mod.new (by simp)).cell0 (hq4 j v hv)
            refine ldInt_of (by simpa [add_zero] using e6 0 _ rfl) (ldInt_of (e6 1 _ rfl) (ldInt_of (e6 2 _ rfl) (ldInt_of (e6 3 _ rfl) ?_)))
            intro w7 A7 _
            exact k_ref17_Box_Best_leaf1 (r.length - (k + 1)) (by omega) ⟨k + 1, ek, by omega, by rw [hmm, if_pos (hgt.2 (.inr ⟨g2, g3⟩))], (M05.go0 A6.mod (by simp)).go0 A7.mod (by simp; omega), hne A7.mod (hS5.keep0 A6.mod), rfl⟩
          · intro w6 A6 _
            exact k_ref17_Box_Best_leaf1 (r.length - (k + 1)) (by omega) ⟨k + 1, ek, by omega, by rw [hmm, if_neg (fun h => by rcases hgt.1 h with h | h; exact g1 h; exact g3 h.2)], M05.go0 A6.mod (by simp), hS5.keep0 A6.mod, rfl⟩
        · have g2 : r[k].n ≠ q := by simpa using g2
          intro w6 A6 _
          exact k_ref17_Box_Best_leaf1 (r.length - (k + 1)) (by omega) ⟨k + 1, ek, by omega, by rw [hmm, if_neg (fun h => by rcases hgt.1 h with h | h; exact g1 h; exact g2 h.1)], M05.go0 A6.mod (by simp), hS5.keep0 A6.mod, rfl⟩
    · have : k = r.length := by simp at hge; omega
      subst this
      rw [List.take_length] at hmx
      intro w6 A6 _
      refine ⟨?_, M05.go0 A6.mod (by simp; omega)⟩
      simp only [bestOf, ← hmx]; rfl

theorem RDrop_ok {b base : Nat} {n below : Int} {L : List (Ky × Vt)} {w : World} (hR : RefAt w b n base L) (hlen : L.length ≤ 1000000) (hbase : base ≤ w.heap.size) :
    Calls Try.prog 22 #[.pointer (some ⟨b, 0, none⟩), .int .i64 below] w fun e w' =>
      e = .returned (.int .i64 ((L.length : Int) - (dropL below L).length)) ∧ (RefAt w' b n base (dropL below L) ∧ Mod [b] w w') := by
  obtain ⟨⟨a, len, c, k1, k2⟩, ho⟩ := id hR
  have hlen' : len = L.length := k2.1
  refine go_of (k_ref17_Box_Drop_go k1 ?_)
  refine al_of fun b1 w1 c1 M1 f1 => ?_
  have hb := lt_of_block k1
  have s2 := k2.sl encC_len
  have dl : ∀ k, (dropL below (L.take k)).length ≤ k := fun k => Nat.le_trans (List.length_filter_le _ _) (by simp; omega)
  refine k_ref17_Box_Drop_rule1 (fun m a5 n5 c5 x w' => ∃ k : Nat, x = k ∧ k ≤ L.length ∧ Row w' w.heap.size 63 6 encC a5 n5 c5 (dropL below (L.take k)) ∧ Mod [] w w' ∧ m = L.length - k) L.length
    ⟨0, rfl, Nat.zero_le _, by simpa [dropL] using Row.fresh c1 f1, M1, rfl⟩ ?_
  rintro m a5 n5 c5 x w2 ⟨k, rfl, hk, hA, M2, rfl⟩
  have hn5 := hA.1
  refine brB_dec (fun hlt => ?_) fun hge => ?_
  · have hlt : k < L.length := by omega
    obtain ⟨p, hp⟩ : ∃ p, L[k]? = some p := ⟨L[k], by simp [hlt]⟩
    have ek : IntKind.wrap .i64 ((k : Int) + 1) = ((k + 1 : Nat) : Int) := by rw [wrap_id (by omega) (by omega)]; omega
    have ct : dropL below (L.take (k + 1)) = dropL below (L.take k) ++ (if below ≤ p.1.1 then [p] else []) := by
      unfold dropL
      rw [List.take_add_one, hp]
      by_cases e : below ≤ p.1.1 <;> simp [e]
    have s3 := s2.keep0 M2
    refine s3.ix hp fun q hq => ldInt_of (x := p.1.1) (by simpa [add_zero] using hq 0 _ rfl) ?_
    refine brB_dec (fun g => ?_) fun g => ?_
    · refine s3.ix hp fun q hq => ldInt_of (x := p.1.1) (by simpa [add_zero] using hq 0 _ rfl) ?_
      refine ldInt_of (hq 1 _ rfl) (ldInt_of (hq 2 _ rfl) (ldInt_of (hq 3 _ rfl) (ldInt_of (hq 4 _ rfl) (ldInt_of (hq 5 _ rfl) ?_))))
      refine al_of fun b2 w3 c2 M3 f2 => ?_
      obtain ⟨i0, hi, hz0, hz1, hz2⟩ := info_parts infoC
      refine append_of (x := p) (hA.keep0 M3) Try.underlying59 hi hz0 hz1 hz2 rfl (by decide) c2 rfl (encC_one _) (by have := dl k; omega) (by have := dl k; unfold maxLen; omega) ?_ fun a' c' w4 hR' hM' => ⟨?_, ?_⟩
      · have := (M2.trans M3).size; omega
      · have := hA.newS
        exact Keep.of (hM' _ (rowS_ok a5)) fun y hy _ hy' => by have := this y hy'; simp at hy; omega
      · exact k_ref17_Box_Drop_leaf1 (L.length - (k + 1)) (by omega) ⟨k + 1, ek, by omega, by rw [ct, if_pos g]; simpa using hR', (M2.go0 M3 (by simp)).go0 (hM' _ (rowS_ok a5)) hA.newS, rfl⟩
    · exact k_ref17_Box_Drop_leaf1 (L.length - (k + 1)) (by omega) ⟨k + 1, ek, by omega, by rw [ct, if_neg g]; simpa using hA, M2, rfl⟩
  · have : k = L.length := by omega
    subst this
    rw [List.take_length] at hA
    intro w3 A3 h3
    refine ⟨?_, ⟨⟨_, _, _, h3, ?_⟩, fun p hp => ho p (List.mem_filter.1 hp).1⟩, (M2.trans A3.mod).less fun j hj _ => by simpa using hj⟩
    · have := dl L.length
      rw [wrap_id (by omega) (by omega), hlen']
      have := hA.1
      rw [this]
    · refine Row.rebase (Row.keep hA A3.mod fun ad ha => ?_) hbase
      have := hA.base ad ha
      simp; omega

theorem RSame_ok {a1 a2 : Option Addr} {n1 n2 c1 c2 : Nat} {l1 l2 : List Vt} {w : World} (h1 : SlAt w 4 encV a1 n1 l1) (h2 : SlAt w 4 encV a2 n2 l2) (hl : l1.length ≤ 1000000) :
    Calls Try.prog 25 #[.slice a1 n1 c1, .slice a2 n2 c2] w fun e w' => e = .returned (.bool (decide (l1 = l2))) ∧ Mod [] w w' := by
  refine go_of (k_ref17_Same_go ?_)
  have e1 := h1.1; have e2 := h2.1
  refine brB_of (fun h => ?_) fun h => ?_
  · refine ⟨?_, Mod.refl w⟩
    have : l1 ≠ l2 := fun e => by subst e; simp at h; omega
    simp [this]
  have hll : l1.length = l2.length := by simp at h; omega
  refine k_ref17_Same_rule1 (fun m x w' => ∃ k : Nat, x = k ∧ k ≤ l1.length ∧ Mod [] w w' ∧ l1.take k = l2.take k ∧ m = l1.length - k) l1.length ⟨0, rfl, Nat.zero_le _, Mod.refl w, by simp, rfl⟩ ?_
  rintro m x w2 ⟨k, rfl, hk, M2, ht, rfl⟩
  refine brB_dec (fun hlt => ?_) fun hge => ?_
  · have hlt : k < l1.length := by omega
    have x1 : l1[k]? = some l1[k] := by simp [hlt]
    have x2 : l2[k]? = some (l2[k]'(by omega)) := by simp
    refine (h1.keep0 M2).ix x1 fun q hq => ldInt_of (by simpa [add_zero] using hq 0 _ rfl) (ldInt_of (hq 1 _ rfl) (ldInt_of (hq 2 _ rfl) (ldInt_of (hq 3 _ rfl) ?_)))
    refine (h2.keep0 M2).ix x2 fun q hq => ldInt_of (by simpa [add_zero] using hq 0 _ rfl) (ldInt_of (hq 1 _ rfl) (ldInt_of (hq 2 _ rfl) (ldInt_of (hq 3 _ rfl) ?_)))
    refine ⟨decide (l1[k] ≠ l2[k]'(by omega)), fun w' _ => neV _ _ _ _ w', brB_dec (fun h => ?_) fun h => ?_⟩
    · intro w3 A3
      refine ⟨?_, M2.go0 A3.mod (by simp)⟩
      have : l1 ≠ l2 := fun e => h (by subst e; rfl)
      simp [this]
    · intro w3 A3
      have h : l1[k] = l2[k]'(by omega) := by simpa using h
      refine k_ref17_Same_leaf1 (l1.length - (k + 1)) (by omega) ⟨k + 1, by rw [wrap_id (by omega) (by omega)]; omega, by omega, M2.go0 A3.mod (by simp), ?_, rfl⟩
      rw [List.take_add_one, List.take_add_one, ht, x1, x2, h]
  · have hkl : k = l1.length := by omega
    subst hkl
    rw [List.take_length, hll, List.take_length] at ht
    exact ⟨by simp [ht], M2⟩
end Go.Proofs.Ytkdpopkbongabaa
