/- The law of what Drop takes away: walked. -/
import Derived.Test.YtkdpopkbongabaaQD
namespace Go.Proofs.Ytkdpopkbongabaa
open Go Go.RowKit Go.Maps Go.MapKept
set_option linter.unusedVariables false
set_option linter.unusedSimpArgs false

theorem cntV_at {L : List (Ky × Vt)} {v k : Nat} (hk : k < 2) : cntV L (2 * v + k) = (votesTo L (v : Int) (k : Int) 7).length := by
  unfold cntV
  rw [show (2 * v + k) / 2 = v by omega, show (2 * v + k) % 2 = k by omega]
theorem cntB_at {n : Int} {L : List (Ky × Vt)} {v k : Nat} (hk : k < 2) : cntB n L (2 * v + k) = if (v : Int) < n then (votesTo L (v : Int) (k : Int) 7).length else 0 := by
  unfold cntB
  rw [cntV_at hk, show (2 * v + k) / 2 = v by omega]

def Drops_I6 (w0 : World) (l : List Vt) (b bm : Nat) (D : List (Ky × Vt)) (a : Option Addr) (mm : Nat) (x : Int) (w : World) : Prop :=
  ∃ i : Nat, x = i ∧ i ≤ l.length ∧ SlAt w 4 encV a l.length l ∧ BoxAt w b 7 bm D ∧ Mod [] w0 w ∧ mm = l.length - i
/-- The sixth loop: each vote that stays is cast again. -/
theorem Drops_b6 {w0 w : World} {D : List (Ky × Vt)} {l : List Vt} {b bm : Nat} {n x8 x9 x13 x14 : Int} {v k : Nat} {a : Option Addr} {c mm : Nat} {x : Int} {js : Nat → Value} {K4 K5 : Fr → World → Prop} (hl : l = votesTo D v k 7) (hD : GoodL D) (hv : v < 4) (hk : k < 2) (hn : ∀ x ∈ l, ¬ (v : Int) < n) (hbm : w0.heap.size ≤ bm) (ha : ∀ ad, a = some ad → ad.block ≠ bm)
    (hK : ∀ js w, BoxAt w b 7 bm D → Mod [] w0 w → K5 (law17_QuorumDrops_fr5 (some ⟨b, 0, none⟩) n x8 x9 x13 v x14 (IntKind.wrap .i64 ((k : Int) + 1)) js) w) :
    Drops_I6 w0 l b bm D a mm x w →
    law17_QuorumDrops_L6 (some ⟨b, 0, none⟩) n x8 x9 x13 x14 v k a l.length c x K4 K5 (law17_QuorumDrops_K6 (some ⟨b, 0, none⟩) n x8 x9 x13 x14 v k a l.length c (Drops_I6 w0 l b bm D a) mm) js (RT w0) w := by
  rintro ⟨i, rfl, hi, s, hB, hM, rfl⟩
  have hl7 : l.length ≤ 7 := by rw [hl]; exact votesTo_len ..
  refine brB_dec (fun hlt => ?_) fun hge => ?_
  · obtain ⟨y, hy⟩ : ∃ y, l[i]? = some y := ⟨l[i]'(by omega), by simp⟩
    have hy' := List.mem_of_getElem? hy
    refine brF (decide_eq_false (hn y hy')) ?_
    refine s.ix hy fun q hq => ?_
    have q0 := hq 0 _ rfl
    rw [add_zero] at q0
    refine ldInt_of q0 (ldInt_of (hq 1 _ rfl) (ldInt_of (hq 2 _ rfl) (ldInt_of (hq 3 _ rfl) ?_)))
    rw [hl] at hy'
    obtain ⟨e0, eL, hf⟩ := vote_again hD hy'
    refine (Vote_ok (x := y) hB (i64s (by omega) (by omega)) (i64s (by omega) (by omega)) hf).mono ?_
    rintro e w1 ⟨rfl, B1, M1⟩
    rw [eL] at B1
    refine ⟨_, rfl, brF (by rw [e0]; rfl) ?_⟩
    exact law17_QuorumDrops_leaf6 (l.length - (i + 1)) (by omega) ⟨i + 1, by rw [wrap_id (by omega) (by omega)]; omega, by omega, s.keep M1 (fun ad h => by simpa using ha ad h), B1, (hM.trans M1).less (fun j hj hlt => by simp at hj; omega), rfl⟩
  · exact hK _ _ hB hM

theorem Drops_ok {below : Int} {a1 : Option Addr} {n1 c1 : Nat} {la : List Op17} {w : World} (sa : SlAt w 7 encO a1 n1 la) (ga : ∀ x ∈ la, i64B x.view ∧ i64B x.what ∧ i64B x.v.f) :
    Calls Try.prog 5 #[.slice a1 n1 c1, .int .i64 below] w fun e w' => e = .returned (.bool true) ∧ Mod [] w w' := by
  refine go_of (law17_QuorumDrops_go ?_)
  have hr := bAnd_range (x := below) (m := 3) (by omega) (by omega)
  refine (New_ok 7 w).mono ?_
  rintro e w1 (⟨h, _⟩ | ⟨_, b, bm, rfl, B1, M1, fb, fm⟩)
  · exact absurd h (by decide)
  refine ⟨_, _, rfl, brF rfl (brF (by decide) ?_)⟩
  generalize bAnd .i64 below 3 = n at *
  have en1 := sa.1
  subst en1
  refine law17_QuorumDrops_rule1 (fun mm x w1 => ∃ (k : Nat) (L : List (Ky × Vt)), x = k ∧ k ≤ la.length ∧ GoodL L ∧ BoxAt w1 b 7 bm L ∧ Mod [] w w1 ∧ mm = la.length - k) la.length ⟨0, [], rfl, by omega, GoodL.nil, B1, M1, by simp⟩ ?_
  rintro mm x js w1 ⟨k, L, rfl, hk, hG, hB, hM, rfl⟩
  refine brB_dec (fun hlt => brB_dec (fun h20 => ?_) fun _ => ?_) fun _ => ?_
  · obtain ⟨y, hy⟩ : ∃ y, la[k]? = some y := ⟨la[k]'(by omega), by simp⟩
    intro w2 M2
    have hB := hB.keep0 M2
    have hM2 : Mod [] w w2 := by simpa using hM.trans M2
    have s2 := sa.keep0 hM2
    refine s2.ix hy fun q hq => ldInt_of (hq 1 _ rfl) ?_
    refine s2.ix hy fun q hq => ldInt_of (hq 2 _ rfl) ?_
    refine s2.ix hy fun q hq => ldInt_of (hq 3 _ rfl) ?_
    rw [add_add, add_add, add_add]
    refine ldInt_of (hq 4 _ rfl) (ldInt_of (hq 5 _ rfl) (ldInt_of (hq 6 _ rfl) ?_))
    have r1 := bAnd_range (x := y.view) (m := 3) (by omega) (by omega)
    have r2 := bAnd_range (x := y.what) (m := 1) (by omega) (by omega)
    refine (Vote_ok (x := y.v) hB (i64s (by omega) (by omega)) (i64s (by omega) (by omega)) (ga y (List.mem_of_getElem? hy)).2.2).mono ?_
    rintro e w3 ⟨rfl, B3, M3⟩
    exact ⟨_, rfl, law17_QuorumDrops_leaf1 (la.length - (k + 1)) (by omega) ⟨k + 1, _, by rw [wrap_id (by omega) (by omega)]; omega, by omega, hG.vote (by omega) (by omega), B3, (hM2.trans M3).less (fun j hj hlt => by simp at hj; omega), rfl⟩⟩
  all_goals
    have tot := total hB.map.nodup (hG.inV hB.map.nodup)
    have hb1 := sumTo_le (cntV_le L)
    have hb2 := sumTo_le (cntB_le n L)
    refine law17_QuorumDrops_rule2 (fun mm x8 x9 x11 w2 => ∃ v : Nat, x11 = v ∧ v ≤ 4 ∧ x9 = sumTo (cntV L) (2 * v) ∧ x8 = sumTo (cntB n L) (2 * v) ∧ BoxAt w2 b 7 bm L ∧ Mod [] w w2 ∧ mm = 4 - v) 4 ⟨0, rfl, by omega, rfl, rfl, hB, hM, rfl⟩ ?_
    rintro mm x8 x9 x11 js w2 ⟨v, rfl, hv, rfl, rfl, hB, hM, rfl⟩
    refine brB_dec (fun hlt => ?_) fun hge => ?_
    · refine law17_QuorumDrops_rule3 (fun mm x8 x9 x12 w2 => ∃ k : Nat, x12 = k ∧ k ≤ 2 ∧ x9 = sumTo (cntV L) (2 * v + k) ∧ x8 = sumTo (cntB n L) (2 * v + k) ∧ BoxAt w2 b 7 bm L ∧ Mod [] w w2 ∧ mm = 2 - k) 2 ⟨0, rfl, by omega, rfl, rfl, hB, hM, rfl⟩ ?_
      rintro mm x8 x9 x12 js w3 ⟨k, rfl, hk, rfl, rfl, hB, hM, rfl⟩
      refine brB_dec (fun hlt => ?_) fun hge => ?_
      · have hk2 : k < 2 := by omega
        have e1 := cntV_at (L := L) (v := v) hk2
        have e2 := cntB_at (n := n) (L := L) (v := v) hk2
        have b1 := hb1 (2 * v + k)
        have b2 := hb2 (2 * v + k)
        have b3 := votesTo_len L v k 7
        have ek : IntKind.wrap .i64 ((k : Int) + 1) = ((k + 1 : Nat) : Int) := by rw [wrap_id (by omega) (by omega)]; omega
        refine (Votes_ok hB (i64s (by omega) (by omega)) (i64s (by omega) (by omega)) (by omega)).mono ?_
        rintro e w4 ⟨a3, c3, rfl, R3, M3⟩
        have hB := hB.keep0 M3
        have hM : Mod [] w w4 := by simpa using hM.trans M3
        refine ⟨_, _, _, rfl, brB_dec (fun hn => ?_) fun hn => ?_⟩
        · refine (Votes_ok hB (i64s (by omega) (by omega)) (i64s (by omega) (by omega)) (by omega)).mono ?_
          rintro e w5 ⟨a4, c4, rfl, R4, M4⟩
          refine ⟨_, _, _, rfl, law17_QuorumDrops_leaf3 (2 - (k + 1)) (by omega) ⟨k + 1, ek, by omega, ?_, ?_, hB.keep0 M4, by simpa using hM.trans M4, rfl⟩⟩
          · show IntKind.wrap .i64 (_ + (((votesTo L v k 7).length : Nat) : Int)) = _
            rw [wrap_id (by omega) (by omega), ← Nat.add_assoc, sumTo, e1]; omega
          · show IntKind.wrap .i64 (_ + (((votesTo L v k 7).length : Nat) : Int)) = _
            rw [wrap_id (by omega) (by omega), ← Nat.add_assoc, sumTo, e2, if_pos hn]; omega
        · refine law17_QuorumDrops_leaf3 (2 - (k + 1)) (by omega) ⟨k + 1, ek, by omega, ?_, ?_, hB, hM, rfl⟩
          · show IntKind.wrap .i64 (_ + (((votesTo L v k 7).length : Nat) : Int)) = _
            rw [wrap_id (by omega) (by omega), ← Nat.add_assoc, sumTo, e1]; omega
          · rw [← Nat.add_assoc, sumTo, e2, if_neg hn]; omega
      · have hk2 : k = 2 := by omega
        subst hk2
        exact law17_QuorumDrops_leaf2 (4 - (v + 1)) (by omega) ⟨v + 1, by rw [wrap_id (by omega) (by omega)]; omega, by omega, rfl, rfl, hB, hM, rfl⟩
    · have hv4 : v = 4 := by omega
      subst hv4
      have b1 := hb1 8
      have hlen : L.length ≤ 56 := by omega
      refine (Drop_ok (below := n) hB (by omega)).mono ?_
      rintro e w3 ⟨rfl, B3, M3⟩
      have hM3 : Mod [] w w3 := (hM.trans M3).less (fun j hj hlt => by simp at hj; omega)
      have hD := hG.drop (below := n)
      have tot2 := total B3.map.nodup (hD.inV B3.map.nodup)
      have hb3 := sumTo_le (cntV_le (dropL n L))
      have parts := sumTo_add (cnt_parts (below := n) (L := L)) 8
      generalize hDD : dropL n L = D at *
      refine ⟨_, rfl, law17_QuorumDrops_rule4 (fun mm x14 x15 w2 => ∃ v : Nat, x15 = v ∧ v ≤ 4 ∧ x14 = sumTo (cntV D) (2 * v) ∧ BoxAt w2 b 7 bm D ∧ Mod [] w w2 ∧ mm = 4 - v) 4 ⟨0, rfl, by omega, rfl, B3, hM3, rfl⟩ ?_⟩
      rintro mm x14 x15 js w4 ⟨v, rfl, hv, rfl, hB, hM, rfl⟩
      refine brB_dec (fun hlt => ?_) fun hge => ?_
      · refine law17_QuorumDrops_rule5 (fun mm x14 x16 w2 => ∃ k : Nat, x16 = k ∧ k ≤ 2 ∧ x14 = sumTo (cntV D) (2 * v + k) ∧ BoxAt w2 b 7 bm D ∧ Mod [] w w2 ∧ mm = 2 - k) 2 ⟨0, rfl, by omega, rfl, hB, hM, rfl⟩ ?_
        rintro mm x14 x16 js w5 ⟨k, rfl, hk, rfl, hB, hM, rfl⟩
        refine brB_dec (fun hlt => ?_) fun hge => ?_
        · have hk2 : k < 2 := by omega
          have e1 := cntV_at (L := D) (v := v) hk2
          have b2 := hb3 (2 * v + k)
          have b3 := votesTo_len D v k 7
          have ek : IntKind.wrap .i64 ((k : Int) + 1) = ((k + 1 : Nat) : Int) := by rw [wrap_id (by omega) (by omega)]; omega
          refine (Votes_ok hB (i64s (by omega) (by omega)) (i64s (by omega) (by omega)) (by omega)).mono ?_
          rintro e w6 ⟨a3, c3, rfl, R3, M3⟩
          have hlt3 := hB.map.lt
          have e3 : IntKind.wrap .i64 (((sumTo (cntV D) (2 * v + k) : Nat) : Int) + (((votesTo D v k (7 : Int).toNat).length : Nat) : Int)) = ((sumTo (cntV D) (2 * v + (k + 1)) : Nat) : Int) := by
            show IntKind.wrap .i64 (_ + (((votesTo D v k 7).length : Nat) : Int)) = _
            rw [wrap_id (by omega) (by omega), ← Nat.add_assoc, sumTo, e1]; omega
          refine ⟨_, _, _, rfl, ?_⟩
          refine law17_QuorumDrops_rule6 (Drops_I6 w (votesTo D v k 7) b bm D a3) _ ⟨0, rfl, by omega, R3.sl encV_len, hB.keep0 M3, by simpa using hM.trans M3, rfl⟩ fun mm x js w7 h => ?_
          refine Drops_b6 (l := votesTo D v k 7) rfl hD (by omega) (by omega) (fun x hx => ?_) fm (fun ad h => ?_) (fun js w hB hM => ?_) h
          · rw [← hDD, votes_drop] at hx
            split at hx
            · omega
            · cases hx
          · have := R3.base ad h; omega
          · exact law17_QuorumDrops_leaf5 (2 - (k + 1)) (by omega) ⟨k + 1, ek, by omega, e3, hB, hM, rfl⟩
        · have hk2 : k = 2 := by omega
          subst hk2
          exact law17_QuorumDrops_leaf4 (4 - (v + 1)) (by omega) ⟨v + 1, by rw [wrap_id (by omega) (by omega)]; omega, by omega, rfl, hB, hM, rfl⟩
      · have hv4 : v = 4 := by omega
        subst hv4
        have p8 : sumTo (cntV L) 8 = sumTo (cntB n L) 8 + sumTo (cntV D) 8 := parts
        simp only [show 2 * 4 = 8 from rfl]
        refine brT ?_ (brT ?_ ?_)
        · simp only [beq_iff_eq]; omega
        · rw [wrap_id (by omega) (by omega)]; simp only [beq_iff_eq]; omega
        · refine (fixed_ok _).mono ?_
          rintro e w5 ⟨rfl, M5⟩
          exact ⟨_, rfl, rfl, by simpa using hM.trans M5⟩

end Go.Proofs.Ytkdpopkbongabaa
