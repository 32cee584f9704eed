/- The reference's Vote. -/
import Derived.Test.YtkdpopkbongabaaR1
namespace Go.Proofs.Ytkdpopkbongabaa
open Go Go.RowKit Go.Maps Go.MapKept
set_option linter.unusedVariables false
set_option linter.unusedSimpArgs false

theorem lkp_first {κ β : Type} [DecidableEq κ] {key : κ} : ∀ {L : List (κ × β)} {k : Nat} {p : κ × β}, L[k]? = some p → p.1 = key → (∀ q ∈ L.take k, q.1 ≠ key) → lkp L key = some p.2
  | [], k, p, h, _, _ => by simp at h
  | q :: r, 0, p, h, e, _ => by
    simp at h; subst h; rw [lkp, if_pos e]
  | q :: r, k + 1, p, h, e, hf => by
    rw [lkp, if_neg (hf q (by simp))]
    exact lkp_first (by simpa using h) e fun x hx => hf x (by simp [hx])
theorem infoC : (Try.prog.info? 63).map (fun i => (i.zero, i.size, i.bytes)) = some (some (.agg #[.int .i64 0, .int .i64 0, .int .i64 0, .int .i64 0, .int .i64 0, .int .i64 0]), 6, 48) := by kernel_rfl

theorem RVote_ok {b base : Nat} {n view kind : Int} {L : List (Ky × Vt)} {x : Vt} {w : World} (hR : RefAt w b n base L) (hlen : L.length ≤ 1000000) (hbase : base ≤ w.heap.size) :
    Calls Try.prog 21 #[.pointer (some ⟨b, 0, none⟩), .int .i64 view, .int .i64 kind, x.v] w fun e w' =>
      e = .returned (.int .i64 (voteE n L view kind x)) ∧ (RefAt w' b n base (voteL n L view kind x) ∧ ∃ S, Mod S w w' ∧ ∀ k ∈ S, RefB w b base k) := by
  refine go_of (ref17_Box_Vote_go (a0_b := ⟨b, 0, none⟩) ?_)
  have bad : ∀ {w'} {e : Int}, voteE n L view kind x = e → e ≠ 0 ∨ voteL n L view kind x = L → Mod [] w w' → (.int .i64 e : Value) = .int .i64 (voteE n L view kind x) ∧ (RefAt w' b n base (voteL n L view kind x) ∧ ∃ S, Mod S w w' ∧ ∀ k ∈ S, RefB w b base k) := fun {w'} {e} h1 h2 hm => by
    have e2 : voteL n L view kind x = L := by
      rcases h2 with h2 | h2
      · simp [voteL, h1, h2]
      · exact h2
    rw [h1, e2]
    exact ⟨rfl, hR.keep0 hm, [], hm, by simp⟩
  have bad1 : ∀ {w'}, badB n view kind x = true → Mod [] w w' → _ := fun {w'} hb hm => bad (w' := w') (e := 1) (by simp [voteE, hb]) (.inl (by decide)) hm
  refine al_of fun b1 w2 c1 M2 f1 => ?_
  intro w3 M3
  have M3' : Mod [] w w3 := M2.trans M3
  have c1 := M3.keep0 c1
  have hR0 := hR
  obtain ⟨⟨a, len, c, k1, k2⟩, ho⟩ := hR0
  have h1 := M3'.keep0 k1
  have h2 := k2.keep0 M3'
  refine brB_dec (fun h => bad1 (by simp [badB, h]) M3') fun g1 => ?_
  refine brB_dec (fun h => bad1 (by simp [badB, h]) M3') fun g2 => ?_
  refine ldInt_at c1 rfl ?_
  refine brB_dec (fun h => bad1 (by simp [badB, h]) M3') fun g3 => ?_
  refine ldInt_at c1 rfl ?_
  refine ldInt_at h1 rfl ?_
  refine brB_dec (fun h => bad1 (by simp [badB, h]) M3') fun g4 => ?_
  refine ldInt_at c1 rfl ?_
  refine (RNum_ok _ _).mono ?_
  rintro e w4 ⟨rfl, rfl⟩
  refine ⟨_, rfl, brB_of (fun h => bad1 (by simp at h; simp [badB, h]) M3') fun g5 => ?_⟩
  refine ldInt_at c1 rfl ?_
  refine (RNum_ok _ _).mono ?_
  rintro e w5 ⟨rfl, rfl⟩
  refine ⟨_, rfl, brB_of (fun h => bad1 (by simp at h; simp [badB, h]) M3') fun g6 => ?_⟩
  refine ldInt_at c1 rfl ?_
  refine (RNum_ok _ _).mono ?_
  rintro e w6 ⟨rfl, rfl⟩
  refine ⟨_, rfl, brB_of (fun h => bad1 (by simp at h; simp [badB, h]) M3') fun g7 => ?_⟩
  have good : badB n view kind x = false := by simp at g5 g6 g7; simp [badB, g1, g2, g3, g4, g5, g6, g7]
  have hb1 : b1 ≠ b := by
    intro e; subst e; obtain ⟨a', len', c', h', _⟩ := hR.cells
    have := (Array.getElem?_eq_some_iff.1 h').1; omega
  refine ref17_Box_Vote_rule1 (fun mm y w' => ∃ k : Nat, y = k ∧ k ≤ L.length ∧ (∀ q ∈ L.take k, q.1 ≠ (view, kind, x.f)) ∧ w'.heap[b]? = some (.cells #[.int .i64 n, .slice a len c] 61) ∧
    Row w' base 63 6 encC a len c L ∧ w'.heap[b1]? = some (.cells (encV x).toArray 29) ∧ Mod [] w w' ∧ mm = L.length - k) L.length ⟨0, rfl, by omega, by simp, h1, h2, c1, M3', rfl⟩ ?_
  rintro mm y js w7 ⟨k, rfl, hk, hf, h1, h2, c1, hM, rfl⟩
  have hlen' : len = L.length := h2.1
  refine ldSlice_at h1 rfl ?_
  refine brB_dec (fun hlt => ?_) fun hge => ?_
  · obtain ⟨p, hp⟩ : ∃ p, L[k]? = some p := ⟨L[k]'(by omega), by simp⟩
    have hown := ho p (List.mem_of_getElem? hp)
    refine ldSlice_at h1 rfl ?_
    refine (h2.sl encC_len).ix hp fun q hq => ?_
    have q0 := hq 0 _ rfl
    rw [add_zero] at q0
    refine ldInt_of q0 (ldInt_of (hq 1 _ rfl) (ldInt_of (hq 2 _ rfl) (ldInt_of (hq 3 _ rfl) (ldInt_of (hq 4 _ rfl) (ldInt_of (hq 5 _ rfl) ?_)))))
    refine al_st rfl rfl fun b2 w8 c2 M8 f2 => ?_
    have c1 := M8.keep0 c1
    have next : p.1 ≠ (view, kind, x.f) → ∀ js, ref17_Box_Vote_K1 ⟨b, 0, none⟩ view kind b1 (fun mm y w' => ∃ k : Nat, y = k ∧ k ≤ L.length ∧ (∀ q ∈ L.take k, q.1 ≠ (view, kind, x.f)) ∧ w'.heap[b]? = some (.cells #[.int .i64 n, .slice a len c] 61) ∧
      Row w' base 63 6 encC a len c L ∧ w'.heap[b1]? = some (.cells (encV x).toArray 29) ∧ Mod [] w w' ∧ mm = L.length - k) (L.length - k) (ref17_Box_Vote_fr1 ⟨b, 0, none⟩ view kind b1 (IntKind.wrap .i64 ((k : Int) + 1)) js) w8 := fun hne js => by
      refine ref17_Box_Vote_leaf1 (L.length - (k + 1)) (by omega) ⟨k + 1, by rw [wrap_id (by omega) (by omega)]; omega, by omega, ?_, M8.keep0 h1, h2.keep0 M8, c1, by simpa using hM.trans M8, rfl⟩
      intro q hq
      rw [List.take_add_one, hp] at hq
      simp only [Option.toList_some, List.mem_append, List.mem_singleton] at hq
      rcases hq with hq | rfl
      · exact hf q hq
      · exact hne
    refine ldInt_at c2 rfl ?_
    refine brB_of (fun e1 => ?_) fun e1 => next (fun e => by rw [e] at e1; simp at e1) _
    refine ldInt_at c2 rfl ?_
    refine brB_of (fun e2 => ?_) fun e2 => next (fun e => by rw [e] at e2; simp at e2) _
    refine ldInt_at c2 rfl (ldInt_at c1 rfl ?_)
    refine brB_of (fun e3 => ?_) fun e3 => next (fun e => by rw [hown, e] at e3; simp at e3) _
    have hkey : p.1 = (view, kind, x.f) := by
      simp only [beq_iff_eq] at e1 e2 e3
      rw [hown] at e3
      ext1
      · exact e1
      · ext1
        · exact e2
        · exact e3
    have hl := lkp_first hp hkey hf
    refine ldInt_at c2 rfl (ldInt_at c2 rfl (ldInt_at c2 rfl (ldInt_at c2 rfl (ldInt_at c1 rfl (ldInt_at c1 rfl (ldInt_at c1 rfl (ldInt_at c1 rfl ?_)))))))
    refine ⟨_, fun w' _ => neV p.2 x _ _ w', ?_⟩
    refine brB_dec (fun hne => ?_) fun heq => ?_
    · exact bad (e := 170) (by simp [voteE, good, hl, hne]) (.inl (by decide)) (by simpa using hM.trans M8)
    · have he : p.2 = x := by simpa using heq
      have e0 : voteE n L view kind x = 0 := by simp [voteE, good, hl, he]
      exact bad (e := 0) e0 (.inr (by rw [voteL, if_pos e0, put_same (by rw [hl, he])])) (by simpa using hM.trans M8)
  · have hk : k = L.length := by omega
    subst hk
    rw [List.take_length] at hf
    have hl : lkp L (view, kind, x.f) = none := lkp_none.2 hf
    have e0 : voteE n L view kind x = 0 := by simp [voteE, good, hl]
    have eL : voteL n L view kind x = L ++ [((view, kind, x.f), x)] := by rw [voteL, if_pos e0, put_of_none hl]
    intro w8 M8
    have h1 := M8.keep0 h1
    have h2 := h2.keep0 M8
    have c1 := M8.keep0 c1
    refine ldSlice_at h1 rfl ?_
    refine ldInt_at c1 rfl (ldInt_at c1 rfl (ldInt_at c1 rfl (ldInt_at c1 rfl ?_)))
    refine al_of fun b2 w9 c2 M9 f2 => ?_
    obtain ⟨i0, hi, hz0, hz1, hz2⟩ := info_parts infoC
    have M := (hM.trans M8).trans M9
    refine append_of (x := ((view, kind, x.f), x)) (h2.keep0 M9) Try.underlying59 hi hz0 hz1 hz2 rfl (by decide) c2 rfl (encC_one _) (by omega) (by unfold maxLen; omega) ?_ fun a' c' w10 hR' hM' => ?_
    · have := M.size; omega
    · have h1' := M9.keep0 h1
      have hb : ∀ X, (∀ ad, a = some ad → ad.block ∈ X) → b ∉ X → w10.heap[b]? = some (.cells #[.int .i64 n, .slice a len c] 61) := fun X hX hbX => (hM' X hX).keep h1' hbX
      obtain ⟨X, hX, hbX, hXR⟩ : ∃ X : List Nat, (∀ ad, a = some ad → ad.block ∈ X) ∧ b ∉ X ∧ ∀ k ∈ X, RefB w b base k := by
        cases a with
        | none => exact ⟨[], by simp, by simp, by simp⟩
        | some ad =>
          have hbk := k2.block ad rfl
          refine ⟨[ad.block], by simp, ?_, fun k hk => ?_⟩
          · simp only [List.mem_singleton]
            intro e
            obtain ⟨_, cur, hcur⟩ := hbk
            rw [← e, k1] at hcur; cases hcur
          · simp only [List.mem_singleton] at hk
            subst hk; exact .inr ⟨hbk.1, hbk.2, n, len, c, ad, k1, rfl⟩
      have hc10 := hb X hX hbX
      show st w10 ⟨b, 1, none⟩ _ _
      refine st_of hc10 rfl (by simp) fun w11 hc11 M11 => ?_
      refine ⟨by rw [e0], ⟨⟨a', len + 1, c', by simpa [setFrom] using hc11, ?_⟩, ?_⟩, b :: X, ?_, ?_⟩
      · rw [eL]
        refine hR'.keep M11 fun ad had hb' => ?_
        obtain ⟨_, cur, hcur⟩ := hR'.block ad had
        simp at hb'
        rw [hb', hc10] at hcur
        cases hcur
      · rw [eL]
        intro p hp
        simp only [List.mem_append, List.mem_singleton] at hp
        rcases hp with hp | rfl
        · exact hR.own p hp
        · rfl
      · have := (M.trans (hM' X hX)).trans M11
        exact this.less (fun j hj hlt => by simp at hj ⊢; rcases hj with h | h <;> simp [h])
      · intro k hk
        simp only [List.mem_cons] at hk
        rcases hk with rfl | hk
        · exact .inl rfl
        · exact hXR k hk

end Go.Proofs.Ytkdpopkbongabaa
