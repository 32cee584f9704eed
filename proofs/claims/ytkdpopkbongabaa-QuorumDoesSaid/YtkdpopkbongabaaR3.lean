/- The reference's Votes. -/
import Derived.Test.YtkdpopkbongabaaR2
namespace Go.Proofs.Ytkdpopkbongabaa
open Go Go.RowKit Go.Maps Go.MapKept
set_option linter.unusedVariables false
set_option linter.unusedSimpArgs false

theorem Row.fresh {α : Type} {w : World} {base T sz b : Nat} {enc : α → List Value} (h : w.heap[b]? = some (.cells #[] T)) (hb : base ≤ b) : Row w base T sz enc (some ⟨b, 0, none⟩) 0 0 [] :=
  ⟨rfl, by simp, .inr ⟨b, 0, #[], rfl, hb, h, by simp, by simp, by simp, by simp⟩⟩

def castsOf (L : List (Ky × Vt)) (key : Ky) : List Vt := (L.filter fun p => decide (p.1 = key)).map (·.2)
theorem castsOf_eq {key : Ky} : ∀ {L : List (Ky × Vt)}, (L.map (·.1)).Nodup → castsOf L key = (lkp L key).toList
  | [], _ => rfl
  | p :: r, hn => by
    simp only [List.map_cons, List.nodup_cons] at hn
    have ih := castsOf_eq (key := key) hn.2
    unfold castsOf at ih ⊢
    by_cases e : p.1 = key
    · have h0 : lkp r key = none := lkp_none.2 fun q hq e' => hn.1 (by rw [e, ← e']; exact List.mem_map.2 ⟨_, hq, rfl⟩)
      rw [h0] at ih
      rw [List.filter_cons_of_pos (by simpa using e), List.map_cons, ih, lkp, if_pos e]; rfl
    · rw [List.filter_cons_of_neg (by simpa using e), ih, lkp, if_neg e]
theorem castsOf_take {L : List (Ky × Vt)} {key : Ky} {k : Nat} {p : Ky × Vt} (h : L[k]? = some p) : castsOf (L.take (k + 1)) key = castsOf (L.take k) key ++ (if p.1 = key then [p.2] else []) := by
  unfold castsOf
  rw [List.take_add_one, h]
  by_cases e : p.1 = key <;> simp [e]

theorem RVotes_ok {b base : Nat} {n view kind : Int} {L : List (Ky × Vt)} {w : World} (hR : RefAt w b n base L) (hnd : (L.map (·.1)).Nodup) (hn : 0 ≤ n ∧ n ≤ 7) (hlen : L.length ≤ 1000000) :
    Calls Try.prog 26 #[.pointer (some ⟨b, 0, none⟩), .int .i64 view, .int .i64 kind] w fun e w' =>
      ∃ a c, e = .returned (.slice a (votesTo L view kind n.toNat).length c) ∧ Row w' w.heap.size 29 4 encV a (votesTo L view kind n.toNat).length c (votesTo L view kind n.toNat) ∧ Mod [] w w' := by
  refine (ref17_Box_Votes_go (a0_b := ⟨b, 0, none⟩) (R := fun v w' => ∃ a c, v = .slice a (votesTo L view kind n.toNat).length c ∧ Row w' w.heap.size 29 4 encV a (votesTo L view kind n.toNat).length c (votesTo L view kind n.toNat) ∧ Mod [] w w') ?_).mono
    (fun e w' ⟨v, he, a, c, hv, h⟩ => ⟨a, c, by rw [he, hv], h⟩)
  refine al_of fun b1 w0 c1 M0 f1 => ?_
  obtain ⟨N, rfl⟩ := Int.eq_ofNat_of_zero_le hn.1
  simp only [Int.toNat_natCast]
  refine ref17_Box_Votes_rule1 (fun mm a q c x w' => ∃ k : Nat, x = k ∧ k ≤ N ∧ q = (votesTo L view kind k).length ∧ Row w' w.heap.size 29 4 encV a q c (votesTo L view kind k) ∧ Mod [] w w' ∧ mm = N - k) N ⟨0, rfl, Nat.zero_le _, rfl, Row.fresh c1 f1, M0, rfl⟩ ?_
  rintro mm a q c x js w1 ⟨k, rfl, hk, rfl, hA, M1, rfl⟩
  obtain ⟨⟨a0, len, c0, k1, k2⟩, ho⟩ := hR.keep0 M1
  refine ldInt_at k1 rfl ?_
  refine brB_dec (fun hlt => ?_) fun hge => ?_
  · have hlt : k < N := by omega
    have hs := votesTo_succ L view kind k
    rw [← castsOf_eq hnd] at hs
    refine ref17_Box_Votes_rule2 (fun mm a q c x w' => ∃ j : Nat, x = j ∧ j ≤ L.length ∧ q = (votesTo L view kind k ++ castsOf (L.take j) (view, kind, (k : Int))).length ∧ Row w' w.heap.size 29 4 encV a q c (votesTo L view kind k ++ castsOf (L.take j) (view, kind, (k : Int))) ∧ Mod [] w w' ∧ mm = L.length - j) L.length
      ⟨0, rfl, Nat.zero_le _, by simp [castsOf], by simpa [castsOf] using hA, M1, rfl⟩ ?_
    rintro mm a q c x js w2 ⟨j, rfl, hj, rfl, hA, M2, rfl⟩
    obtain ⟨⟨a0, len, c0, k1, k2⟩, ho⟩ := hR.keep0 M2
    have hlen' : len = L.length := k2.1
    refine ldSlice_at k1 rfl ?_
    refine brB_dec (fun hlt2 => ?_) fun hge2 => ?_
    · obtain ⟨p, hp⟩ : ∃ p, L[j]? = some p := ⟨L[j]'(by omega), by simp⟩
      have hown := ho p (List.mem_of_getElem? hp)
      have ct := castsOf_take (key := (view, kind, (k : Int))) hp
      have ej : IntKind.wrap .i64 ((j : Int) + 1) = ((j + 1 : Nat) : Int) := by rw [wrap_id (by omega) (by omega)]; omega
      have s2 := k2.sl encC_len
      have next : p.1 ≠ (view, kind, (k : Int)) → _ := fun hne => (show _ ∧ _ from ⟨by rw [ct, if_neg hne]; simp, by rw [ct, if_neg hne]; simpa using hA⟩ : (votesTo L view kind k ++ castsOf (L.take j) (view, kind, (k : Int))).length = (votesTo L view kind k ++ castsOf (L.take (j + 1)) (view, kind, (k : Int))).length ∧ Row w2 w.heap.size 29 4 encV a (votesTo L view kind k ++ castsOf (L.take j) (view, kind, (k : Int))).length c (votesTo L view kind k ++ castsOf (L.take (j + 1)) (view, kind, (k : Int))))
      refine ldSlice_at k1 rfl (s2.ix hp fun q hq => ldInt_of (x := p.1.1) (by simpa [add_zero] using hq 0 _ rfl) ?_)
      refine brB_of (fun e1 => ?_) fun e1 => ?_
      rotate_left
      · obtain ⟨g1, g2⟩ := next (fun e => by rw [e] at e1; simp at e1)
        exact ref17_Box_Votes_leaf2 (L.length - (j + 1)) (by omega) ⟨j + 1, ej, by omega, g1, g2, M2, rfl⟩
      refine ldSlice_at k1 rfl (s2.ix hp fun q hq => ldInt_of (hq 1 _ rfl) ?_)
      refine brB_of (fun e2 => ?_) fun e2 => ?_
      rotate_left
      · obtain ⟨g1, g2⟩ := next (fun e => by rw [e] at e2; simp at e2)
        exact ref17_Box_Votes_leaf2 (L.length - (j + 1)) (by omega) ⟨j + 1, ej, by omega, g1, g2, M2, rfl⟩
      refine ldSlice_at k1 rfl (s2.ix hp fun q hq => ldInt_of (hq 2 _ rfl) ?_)
      refine brB_of (fun e3 => ?_) fun e3 => ?_
      rotate_left
      · obtain ⟨g1, g2⟩ := next (fun e => by rw [hown, e] at e3; simp at e3)
        exact ref17_Box_Votes_leaf2 (L.length - (j + 1)) (by omega) ⟨j + 1, ej, by omega, g1, g2, M2, rfl⟩
      have hkey : p.1 = (view, kind, (k : Int)) := by
        simp only [beq_iff_eq] at e1 e2 e3
        rw [hown] at e3
        ext1
        · exact e1
        · ext1
          · exact e2
          · exact e3
      refine ldSlice_at k1 rfl (s2.ix hp fun q hq => ldInt_of (hq 2 _ rfl) ?_)
      rw [add_add, add_add, add_add]
      refine ldInt_of (hq 3 _ rfl) (ldInt_of (hq 4 _ rfl) (ldInt_of (hq 5 _ rfl) ?_))
      refine al_of fun b2 w3 c2 M3 f2 => ?_
      obtain ⟨i0, hi, hz0, hz1, hz2⟩ := info_parts infoV
      have l1 := votesTo_len L view kind k
      have l2 : (castsOf (L.take j) (view, kind, (k : Int))).length ≤ j := by
        unfold castsOf; rw [List.length_map]
        exact Nat.le_trans (List.length_filter_le ..) (by simp; omega)
      refine append_of (x := p.2) (hA.keep0 M3) Try.underlying30 hi hz0 hz1 hz2 rfl (by decide) c2 rfl (encV_one _) (by rw [List.length_append]; omega) (by rw [List.length_append]; unfold maxLen; omega) ?_ fun a' c' w4 hR' hM' => ?_
      · have := (M2.trans M3).size; omega
      · refine ref17_Box_Votes_leaf2 (L.length - (j + 1)) (by omega) ⟨j + 1, ej, by omega, ?_, ?_, ?_, rfl⟩
        · rw [ct, if_pos hkey]; simp; omega
        · rw [ct, if_pos hkey, ← List.append_assoc]; exact hR'
        · cases a with
          | none => simpa using (M2.trans M3).trans (hM' [] (by simp))
          | some ad => exact ((M2.trans M3).trans (hM' [ad.block] (by simp))).less (fun j hj hlt => by have := (hA.base ad rfl); simp at hj; omega)
    · have hj : j = L.length := by omega
      subst hj
      have eq : votesTo L view kind k ++ castsOf (L.take L.length) (view, kind, (k : Int)) = votesTo L view kind (k + 1) := by rw [List.take_length, ← hs]
      refine ref17_Box_Votes_leaf1 (N - (k + 1)) (by omega) ⟨k + 1, by rw [wrap_id (by omega) (by omega)]; omega, by omega, by rw [eq], by rw [← eq]; exact hA, M2, rfl⟩
  · have : k = N := by omega
    subst this
    exact ⟨a, c, rfl, hA, M1⟩

end Go.Proofs.Ytkdpopkbongabaa
