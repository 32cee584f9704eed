/- Rows by rising clients, and the table of the same. -/
import Derived.Test.YtdgiemnadpkcfaaC9
namespace Go.Proofs.Ytdgiemnadpkcfaa
open Go Go.RowKit
set_option linter.unusedVariables false
set_option linter.unusedSimpArgs false

def Rise (R : List PLast) : Prop := R.Pairwise fun x y => x.c < y.c
/-- Every row stands under its client, once. -/
structure Own (T : Tb) : Prop where
  nd : (T.map (·.1)).Nodup
  key : ∀ q ∈ T, q.2.c = q.1
theorem rise_eq : ∀ {a b : List Int}, a.Pairwise (· < ·) → b.Pairwise (· < ·) → (∀ x, x ∈ a ↔ x ∈ b) → a = b
  | [], [], _, _, _ => rfl
  | [], y :: b, _, _, h => absurd ((h y).2 (by simp)) (by simp)
  | x :: a, [], _, _, h => absurd ((h x).1 (by simp)) (by simp)
  | x :: a, y :: b, ha, hb, h => by
    have ha1 := List.pairwise_cons.1 ha
    have hb1 := List.pairwise_cons.1 hb
    have hxy : x = y := by
      rcases List.mem_cons.1 ((h x).1 (by simp)) with e | e
      · exact e
      · rcases List.mem_cons.1 ((h y).2 (by simp)) with e' | e'
        · exact e'.symm
        · have := hb1.1 x e; have := ha1.1 y e'; omega
    subst hxy
    rw [rise_eq ha1.2 hb1.2 fun z => ?_]
    constructor
    · intro hz
      rcases List.mem_cons.1 ((h z).1 (List.mem_cons_of_mem _ hz)) with e | e
      · subst e; have := ha1.1 z hz; omega
      · exact e
    · intro hz
      rcases List.mem_cons.1 ((h z).2 (List.mem_cons_of_mem _ hz)) with e | e
      · subst e; have := hb1.1 z hz; omega
      · exact e
theorem sortK_rise {l : List Int} (h : l.Nodup) : (sortK l).Pairwise (· < ·) := by
  have tr : ∀ a b c : Int, decide (a ≤ b) = true → decide (b ≤ c) = true → decide (a ≤ c) = true := by simp; omega
  have to : ∀ a b : Int, (decide (a ≤ b) || decide (b ≤ a)) = true := by simp; omega
  have p1 : (sortK l).Pairwise fun x y => decide (x ≤ y) = true := List.pairwise_mergeSort tr to l
  have p2 : (sortK l).Nodup := (List.mergeSort_perm l _).symm.nodup h
  have p3 := p1.and p2
  exact p3.imp fun ⟨h1, h2⟩ => by simp at h1; omega
theorem loadT_keys (R : List PLast) : (loadT R).map (·.1) = R.map (·.c) := by simp [loadT]
theorem Rise.nd {R : List PLast} (h : Rise R) : ((loadT R).map (·.1)).Nodup := by
  rw [loadT_keys, List.Nodup, List.pairwise_map]
  exact List.Pairwise.imp (fun h => by omega) h
theorem lkp_some_iff {T : Tb} {k : Int} : lkp T k ≠ none ↔ k ∈ T.map (·.1) := by
  rw [ne_eq, lkp_none]
  simp
theorem Rise.lkp {R : List PLast} (h : Rise R) {x : PLast} (hx : x ∈ R) : lkp (loadT R) x.c = some x :=
  lkp_of_mem h.nd (List.mem_map.2 ⟨x, hx, rfl⟩)
theorem listS_of {T : Tb} {R : List PLast} (hR : Rise R) (hn : (T.map (·.1)).Nodup) (h : ∀ c, lkp (loadT R) c = lkp T c) : listS T = R := by
  have hk : sortK (T.map (·.1)) = R.map (·.c) := by
    refine rise_eq (sortK_rise hn) (List.pairwise_map.2 hR) fun x => ?_
    rw [sortK_mem, ← loadT_keys, ← lkp_some_iff, ← lkp_some_iff, h]
  rw [listS, hk, List.map_map]
  conv => rhs; rw [← List.map_id R]
  refine List.map_congr_left fun x hx => ?_
  simp only [Function.comp_apply, ← h, hR.lkp hx, Option.getD_some, id]
theorem Own.lkp_c {T : Tb} (h : Own T) {k : Int} {x : PLast} (hx : lkp T k = some x) : x.c = k := h.key _ (mem_of_lkp hx)
theorem listS_keys {T : Tb} (h : Own T) : (listS T).map (·.c) = sortK (T.map (·.1)) := by
  rw [listS, List.map_map]
  conv => rhs; rw [← List.map_id (sortK (T.map (·.1)))]
  refine List.map_congr_left fun k hk => ?_
  rw [sortK_mem, ← lkp_some_iff] at hk
  cases hl : lkp T k with
  | none => exact absurd hl hk
  | some x => simp [hl, h.lkp_c hl]
theorem listS_rise {T : Tb} (h : Own T) : Rise (listS T) := by
  have := sortK_rise h.nd
  rw [← listS_keys h, List.pairwise_map] at this
  exact this
theorem listS_mem {T : Tb} (h : Own T) {x : PLast} : x ∈ listS T ↔ lkp T x.c = some x := by
  constructor
  · intro hx
    obtain ⟨k, hk, rfl⟩ := List.mem_map.1 hx
    rw [sortK_mem, ← lkp_some_iff] at hk
    cases hl : lkp T k with
    | none => exact absurd hl hk
    | some x => simp only [Option.getD_some]; rw [h.lkp_c hl, hl]
  · intro hx
    refine List.mem_map.2 ⟨x.c, ?_, by rw [hx]; rfl⟩
    rw [sortK_mem, ← lkp_some_iff, hx]; simp
theorem listS_lkp {T : Tb} (h : Own T) (c : Int) : lkp (loadT (listS T)) c = lkp T c := by
  cases hl : lkp T c with
  | some x =>
    have e := h.lkp_c hl
    subst e
    exact (listS_rise h).lkp ((listS_mem h).2 hl)
  | none =>
    rw [lkp_none]
    intro p hp e
    obtain ⟨x, hx, rfl⟩ := List.mem_map.1 hp
    rw [listS_mem h] at hx
    simp only at e
    rw [e, hl] at hx; cases hx
theorem listS_len {T : Tb} : (listS T).length = T.length := by simp [listS, sortK]
theorem listS_loadT {R : List PLast} (h : Rise R) : listS (loadT R) = R := listS_of h h.nd fun _ => rfl
theorem loadT_own {R : List PLast} (h : Rise R) : Own (loadT R) := ⟨h.nd, fun q hq => by obtain ⟨x, _, rfl⟩ := List.mem_map.1 hq; rfl⟩
theorem put_keys {T : Tb} {c : Int} {x : PLast} (hn : (T.map (·.1)).Nodup) : ((put T c x).map (·.1)).Nodup := by
  cases hl : lkp T c with
  | none =>
    rw [put_of_none hl, List.map_append, List.nodup_append]
    refine ⟨hn, by simp, ?_⟩
    intro a ha b hb e
    simp at hb
    subst hb; subst e
    exact lkp_some_iff.2 ha hl
  | some y =>
    obtain ⟨j, hj⟩ := List.getElem?_of_mem (mem_of_lkp hl)
    rw [put_of_at hn hj]
    have : (T.set j (c, x)).map (·.1) = T.map (·.1) := by
      rw [List.map_set]
      refine List.ext_getElem? fun i => ?_
      rw [List.getElem?_set]
      split
      · rename_i h
        subst h
        have : j < T.length := (List.getElem?_eq_some_iff.1 hj).1
        have h2 : T[j] = (c, y) := (List.getElem?_eq_some_iff.1 hj).2
        simp [List.getElem?_map, h2, this]
      · rfl
    rw [this]; exact hn
theorem Own.put {T : Tb} {x : PLast} (h : Own T) : Own (put T x.c x) := ⟨put_keys h.nd, fun q hq => by
  rcases mem_put hq with rfl | hq
  · rfl
  · exact h.key q hq⟩
theorem lkp_put (T : Tb) (c d : Int) (x : PLast) : lkp (put T c x) d = if c = d then some x else lkp T d := by
  induction T with
  | nil => simp [put, lkp]
  | cons p r ih =>
    rw [Go.Proofs.Ytdgiemnadpkcfaa.put]
    split
    · rename_i h
      rw [Go.Proofs.Ytdgiemnadpkcfaa.lkp, Go.Proofs.Ytdgiemnadpkcfaa.lkp]
      simp only [h]
      split <;> simp_all
    · rename_i h
      rw [Go.Proofs.Ytdgiemnadpkcfaa.lkp, ih, Go.Proofs.Ytdgiemnadpkcfaa.lkp]
      split
      · rename_i h2
        split
        · rename_i h3; exact absurd (h2.trans h3.symm) h
        · rfl
      · rfl
theorem own_nil : Own [] := ⟨by simp, by simp⟩
theorem put_len {T : Tb} {c : Int} {x : PLast} : (put T c x).length = if lkp T c = none then T.length + 1 else T.length := by
  induction T with
  | nil => simp [put, lkp]
  | cons p r ih =>
    rw [Go.Proofs.Ytdgiemnadpkcfaa.put, Go.Proofs.Ytdgiemnadpkcfaa.lkp]
    split
    · simp
    · rw [List.length_cons, ih, List.length_cons]
      split <;> rfl
end Go.Proofs.Ytdgiemnadpkcfaa
