/- What Drop takes away, and what stays: for every input. -/
import Derived.Test.YtkdpopkbongabaaQB
namespace Go.Proofs.Ytkdpopkbongabaa
open Go Go.RowKit Go.Maps Go.MapKept
set_option linter.unusedVariables false
set_option linter.unusedSimpArgs false

/-- An op of layer 17's script. -/
structure Op17 where
  kind : Int
  view : Int
  what : Int
  v : Vt
def encO (x : Op17) : List Value := [.int .i64 x.kind, .int .i64 x.view, .int .i64 x.what, .int .i64 x.v.f, .int .i64 x.v.n, .int .i64 x.v.l, .int .i64 x.v.c]
theorem inv_op (w : World) (row : List Value) (h : OkT Try.prog w 42 row) (hl : row.length = Try.prog.cellsOf 42) : ∃ x, row = encO x ∧ (i64B x.view ∧ i64B x.what ∧ i64B x.v.f) := by
  have hc : Try.prog.cellsOf 42 = 7 := by kernel_rfl
  have hc1 : Try.prog.cellsOf 3 = 1 := by kernel_rfl
  have hc4 : Try.prog.cellsOf 29 = 4 := by kernel_rfl
  rw [hc] at hl
  match row, hl with
  | [a, b, c, d, e, f, g], _ =>
    obtain ⟨_, hf⟩ := h.struct_inv Try.underlying42
    simp [hc1, hc4] at hf
    obtain ⟨ha, hb, hc, hd⟩ := hf
    obtain ⟨x1, e1, g1⟩ := ha.int_inv Try.underlying3
    obtain ⟨x2, e2, g2⟩ := hb.int_inv Try.underlying3
    obtain ⟨x3, e3, g3⟩ := hc.int_inv Try.underlying3
    obtain ⟨v, e4, g4⟩ := inv_vote w _ hd hc4.symm
    simp at e1 e2 e3
    simp [encV] at e4
    obtain ⟨rfl, rfl, rfl, rfl⟩ := e4
    subst e1 e2 e3
    exact ⟨⟨x1, x2, x3, v⟩, rfl, wf_i64 g2, wf_i64 g3, g4⟩
theorem add_add (a : Addr) (i j : Nat) : (a.add i).add j = a.add (i + j) := by
  unfold Addr.add
  cases i <;> cases j <;> simp [Nat.add_assoc] <;> omega

/-! ### counting -/
def sumTo (f : Nat → Nat) : Nat → Nat
  | 0 => 0
  | n + 1 => sumTo f n + f n
theorem sumTo_add {f g h : Nat → Nat} (H : ∀ i, f i = g i + h i) : ∀ n, sumTo f n = sumTo g n + sumTo h n
  | 0 => rfl
  | n + 1 => by simp only [sumTo, sumTo_add H n, H n]; omega
theorem sumTo_le {f : Nat → Nat} {c : Nat} (H : ∀ i, f i ≤ c) : ∀ n, sumTo f n ≤ c * n
  | 0 => by simp [sumTo]
  | n + 1 => by have := sumTo_le H n; have := H n; simp only [sumTo, Nat.mul_succ]; omega
/-- How many votes the j-th place has: view j / 2, kind j % 2. -/
def cntV (L : List (Ky × Vt)) (j : Nat) : Nat := (votesTo L (j / 2 : Nat) (j % 2 : Nat) 7).length
theorem cntV_le (L : List (Ky × Vt)) (j : Nat) : cntV L j ≤ 7 := votesTo_len ..
def indV (p : Ky) (v k : Int) (m : Nat) : Nat := if p.1 = v ∧ p.2.1 = k ∧ 0 ≤ p.2.2 ∧ p.2.2 < m then 1 else 0
theorem votes_cons {p : Ky × Vt} {r : List (Ky × Vt)} (h : lkp r p.1 = none) (v k : Int) : ∀ m : Nat, (votesTo (p :: r) v k m).length = (votesTo r v k m).length + indV p.1 v k m
  | 0 => by simp [votesTo, indV]; try (intros; omega)
  | m + 1 => by
    rw [votesTo_succ, votesTo_succ, List.length_append, List.length_append, votes_cons h v k m]
    by_cases e : p.1 = (v, k, (m : Int))
    · have h1 : lkp (p :: r) (v, k, (m : Int)) = some p.2 := by rw [lkp, if_pos e]
      have h2 : lkp r (v, k, (m : Int)) = none := by rw [← e]; exact h
      have h3 : indV p.1 v k m = 0 := by rw [indV, if_neg]; rw [e]; simp
      have h4 : indV p.1 v k (m + 1) = 1 := by rw [indV, if_pos]; rw [e]; simp; try omega
      rw [h1, h2, h3, h4]; simp
    · have h1 : lkp (p :: r) (v, k, (m : Int)) = lkp r (v, k, (m : Int)) := by rw [lkp, if_neg e]
      have h3 : indV p.1 v k (m + 1) = indV p.1 v k m := by
        unfold indV
        by_cases c : p.1.1 = v ∧ p.1.2.1 = k ∧ 0 ≤ p.1.2.2 ∧ p.1.2.2 < ((m : Nat) : Int)
        · rw [if_pos c, if_pos ⟨c.1, c.2.1, c.2.2.1, by have := c.2.2.2; omega⟩]
        · rw [if_neg c, if_neg]
          rintro ⟨c1, c2, c3, c4⟩
          refine c ⟨c1, c2, c3, ?_⟩
          have : p.1.2.2 ≠ (m : Int) := fun e' => e (by rw [← c1, ← c2, ← e'])
          omega
      rw [h1, h3]; omega
def InV (k : Ky) : Prop := 0 ≤ k.1 ∧ k.1 < 4 ∧ 0 ≤ k.2.1 ∧ k.2.1 < 2 ∧ 0 ≤ k.2.2 ∧ k.2.2 < 7
theorem ind_sum {k : Ky} (h : InV k) : sumTo (fun j => indV k (j / 2 : Nat) (j % 2 : Nat) 7) 8 = 1 := by
  obtain ⟨a, b, c⟩ := k
  obtain ⟨h1, h2, h3, h4, h5, h6⟩ := h
  simp only at h1 h2 h3 h4 h5 h6
  have hb : b = 0 ∨ b = 1 := by omega
  have ha : a = 0 ∨ a = 1 ∨ a = 2 ∨ a = 3 := by omega
  have h6 : c < ((7 : Nat) : Int) := h6
  rcases ha with rfl | rfl | rfl | rfl <;> rcases hb with rfl | rfl <;> simp [sumTo, indV, h5] <;> omega
theorem total : ∀ {L : List (Ky × Vt)}, (L.map (·.1)).Nodup → (∀ p ∈ L, InV p.1) → sumTo (cntV L) 8 = L.length
  | [], _, _ => by simp [sumTo, cntV, votesTo, lkp]
  | p :: r, hn, hi => by
    simp only [List.map_cons, List.nodup_cons] at hn
    have h0 : lkp r p.1 = none := lkp_none.2 fun q hq e => hn.1 (by rw [← e]; exact List.mem_map.2 ⟨_, hq, rfl⟩)
    rw [sumTo_add (f := cntV (p :: r)) (g := cntV r) (h := fun j => indV p.1 (j / 2 : Nat) (j % 2 : Nat) 7) (fun j => votes_cons h0 _ _ 7), total hn.2 (fun q hq => hi q (List.mem_cons_of_mem _ hq)), ind_sum (hi p (List.mem_cons_self ..))]
    rfl
theorem lkp_drop {below : Int} {L : List (Ky × Vt)} {k : Ky} : lkp (dropL below L) k = if below ≤ k.1 then lkp L k else none := by
  induction L with
  | nil => simp [dropL, lkp]
  | cons p r ih =>
    unfold dropL at ih ⊢
    by_cases h : below ≤ p.1.1
    · rw [List.filter_cons_of_pos (by simpa using h), lkp, lkp, ih]
      by_cases e : p.1 = k
      · rw [if_pos e, if_pos e, if_pos (by rw [← e]; exact h)]
      · rw [if_neg e, if_neg e]
    · rw [List.filter_cons_of_neg (by simpa using h), ih]
      by_cases e : p.1 = k
      · rw [if_neg (by rw [← e]; exact h), if_neg (by rw [← e]; exact h)]
      · rw [lkp, if_neg e]
theorem votes_drop {below view kind : Int} {L : List (Ky × Vt)} {m : Nat} : votesTo (dropL below L) view kind m = if below ≤ view then votesTo L view kind m else [] := by
  unfold votesTo
  by_cases h : below ≤ view
  · simp [lkp_drop, h]
  · simp [lkp_drop, h]
def cntB (below : Int) (L : List (Ky × Vt)) (j : Nat) : Nat := if ((j / 2 : Nat) : Int) < below then cntV L j else 0
theorem cntB_le (below : Int) (L : List (Ky × Vt)) (j : Nat) : cntB below L j ≤ 7 := by
  unfold cntB; split
  · exact cntV_le ..
  · omega
theorem cnt_parts {below : Int} {L : List (Ky × Vt)} (j : Nat) : cntV L j = cntB below L j + cntV (dropL below L) j := by
  unfold cntB
  have : cntV (dropL below L) j = if below ≤ ((j / 2 : Nat) : Int) then cntV L j else 0 := by
    unfold cntV; rw [votes_drop]; split <;> simp
  rw [this]
  by_cases h : below ≤ ((j / 2 : Nat) : Int)
  · rw [if_pos h, if_neg (by omega)]; omega
  · rw [if_neg h, if_pos (by omega)]; omega

def GoodL (L : List (Ky × Vt)) : Prop := ∀ k v, lkp L k = some v → badB 7 k.1 k.2.1 v = false ∧ v.f = k.2.2 ∧ k.1 < 4 ∧ k.2.1 < 2
theorem GoodL.nil : GoodL [] := by intro k v h; simp [lkp] at h
theorem GoodL.vote {view kind : Int} {L : List (Ky × Vt)} {x : Vt} (h : GoodL L) (hv : view < 4) (hk : kind < 2) : GoodL (voteL 7 L view kind x) := by
  unfold voteL
  split
  · rename_i h0
    intro k v hk'
    rw [lkp_put] at hk'
    split at hk'
    · rename_i e; subst e; cases hk'
      refine ⟨?_, rfl, hv, hk⟩
      unfold voteE at h0
      split at h0
      · exact absurd h0 (by decide)
      · rename_i hb; simpa using hb
    · exact h k v hk'
  · exact h
theorem bad_parts {n view kind : Int} {x : Vt} (h : badB n view kind x = false) : 0 ≤ view ∧ 0 ≤ kind ∧ 0 ≤ x.f ∧ x.f < n := by
  simp [badB] at h; omega
theorem GoodL.inV {L : List (Ky × Vt)} (h : GoodL L) (hn : (L.map (·.1)).Nodup) : ∀ p ∈ L, InV p.1 := by
  intro p hp
  obtain ⟨h1, h2, h3, h4⟩ := h p.1 p.2 (lkp_of_mem hn hp)
  have := bad_parts h1
  exact ⟨this.1, h3, this.2.1, h4, by omega, by omega⟩
theorem GoodL.drop {L : List (Ky × Vt)} {below : Int} (h : GoodL L) : GoodL (dropL below L) := by
  intro k v hk
  rw [lkp_drop] at hk
  split at hk
  · exact h k v hk
  · cases hk
theorem put_same {κ β : Type} [DecidableEq κ] : ∀ {L : List (κ × β)} {k : κ} {v : β}, lkp L k = some v → put L k v = L
  | [], k, v, h => by simp [lkp] at h
  | p :: r, k, v, h => by
    by_cases e : p.1 = k
    · rw [lkp, if_pos e] at h
      rw [put, if_pos e]
      cases h; cases e; rfl
    · rw [lkp, if_neg e] at h
      rw [put, if_neg e, put_same h]
theorem vote_again {L : List (Ky × Vt)} {view kind : Int} {x : Vt} (h : GoodL L) (hx : x ∈ votesTo L view kind 7) : voteE 7 L view kind x = 0 ∧ voteL 7 L view kind x = L ∧ i64B x.f := by
  obtain ⟨i, hi, hl⟩ := mem_votesTo.1 hx
  obtain ⟨h1, h2, h3, h4⟩ := h _ _ hl
  simp only at h1 h2 h3 h4
  rw [← h2] at hl
  have e : voteE 7 L view kind x = 0 := by rw [voteE, h1, hl]; simp
  exact ⟨e, by rw [voteL, if_pos e, put_same hl], i64s (by omega) (by omega)⟩

end Go.Proofs.Ytkdpopkbongabaa
