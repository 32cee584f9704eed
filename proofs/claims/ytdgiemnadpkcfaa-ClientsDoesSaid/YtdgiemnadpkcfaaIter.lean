/- A map gone over, entries struck on the way, in whatever order. -/
import Derived.Test.YtdgiemnadpkcfaaLib
namespace Go.Proofs.Ytdgiemnadpkcfaa
open Go Go.RowKit Go.Maps Go.MapKept
open Go.ChangeMaps (setBlock)
set_option linter.unusedVariables false
set_option linter.unusedSimpArgs false
set_option linter.unusedSectionVars false

section
variable {κ β : Type} [DecidableEq κ]

/-- .. without a key. -/
def delF (L : List (κ × β)) (k : κ) : List (κ × β) := L.filter fun p => decide (p.1 ≠ k)
theorem del_eq {L : List (κ × β)} {k : κ} (hn : (L.map (·.1)).Nodup) : del L k = delF L k := by
  induction L with
  | nil => rfl
  | cons p r ih =>
    simp only [List.map_cons, List.nodup_cons] at hn
    by_cases h : p.1 = k
    · simp only [del, if_pos h, delF]
      rw [List.filter_cons_of_neg (by simpa using h)]
      refine (List.filter_eq_self.2 fun q hq => ?_).symm
      have : q.1 ≠ k := fun e => hn.1 (by rw [h, ← e]; exact List.mem_map.2 ⟨q, hq, rfl⟩)
      simpa using this
    · simp only [del, if_neg h, delF]
      rw [List.filter_cons_of_pos (by simpa using h), ih hn.2]; rfl

theorem filter_enc {α γ δ : Type} {f : α → δ} {g : γ → δ} {p : α → Bool} {q : γ → Bool} : ∀ {A : List α} {B : List γ}, A.map f = B.map g → (∀ a b, a ∈ A → b ∈ B → f a = g b → p a = q b) → (A.filter p).map f = (B.filter q).map g
  | [], [], _, _ => rfl
  | [], _ :: _, h, _ => by simp at h
  | _ :: _, [], h, _ => by simp at h
  | a :: A, b :: B, h, hp => by
    simp only [List.map_cons, List.cons.injEq] at h
    have ih := filter_enc h.2 (fun a b ha hb => hp a b (by simp [ha]) (by simp [hb]))
    have e := hp a b (by simp) (by simp) h.1
    cases hb : q b with
    | true => rw [hb] at e; rw [List.filter_cons_of_pos e, List.filter_cons_of_pos hb]; simp [h.1, ih]
    | false => rw [hb] at e; rw [List.filter_cons_of_neg (by simp [e]), List.filter_cons_of_neg (by simp [hb])]; exact ih

theorem erase_filter {l : List MapEntry} (hp : l.Pairwise (fun x y => x.key ≠ y.key)) {j : Nat} {e : MapEntry} {q : MapEntry → Bool} (hj : l[j]? = some e) (hq : ∀ x ∈ l, q x = true ↔ x.key ≠ e.key) : l.eraseIdx j = l.filter q := by
  induction l generalizing j with
  | nil => simp at hj
  | cons x r ih =>
    obtain ⟨h1, h2⟩ := List.pairwise_cons.1 hp
    cases j with
    | zero =>
      simp at hj; subst hj
      rw [List.eraseIdx_cons_zero, List.filter_cons_of_neg (by rw [hq x (by simp)]; simp)]
      exact (List.filter_eq_self.2 fun y hy => (hq y (by simp [hy])).2 (h1 y hy).symm).symm
    | succ j =>
      have hj' : r[j]? = some e := by simpa using hj
      rw [List.eraseIdx_cons_succ, List.filter_cons_of_pos ((hq x (by simp)).2 (h1 e (List.mem_of_getElem? hj')))]
      rw [ih h2 hj' (fun y hy => hq y (by simp [hy]))]

/-- Block r goes over the map in block b; 'left' are the entries to come. -/
def IterAt (P : Program) (t : TypeId) (ek : κ → Value) (ev : β → Value) (w : World) (r b : Nat) (L left : List (κ × β)) : Prop :=
  ∃ es clock since seen c0, w.heap[r]? = some (.mapIter (some b) since seen c0) ∧ w.heap[b]? = some (.map es clock) ∧
    es.toList.map (fun e => (e.key, e.val)) = L.map (fun p => (ek p.1, ev p.2)) ∧ (∀ p ∈ L, ∃ l, keyOf P t (ek p.1) = some l) ∧ Stamped es clock ∧
    (∀ x ∈ es.toList, x.born < since) ∧ since ≤ c0 ∧ since ≤ clock ∧ (es.toList.filter (fun e => !seen.contains e.born)).map (fun e => (e.key, e.val)) = left.map (fun p => (ek p.1, ev p.2))

variable {P : Program} {t : TypeId} {ek : κ → Value} {ev : β → Value} {w w' : World} {r b : Nat} {L left : List (κ × β)}

theorem IterAt.map (h : IterAt P t ek ev w r b L left) : MapAt P t ek ev w b L := by
  obtain ⟨es, clock, since, seen, c0, h1, h2, h3, h4, h5, _⟩ := h
  exact ⟨es, clock, h2, h3, h4, h5⟩
theorem IterAt.of_blocks (h : IterAt P t ek ev w r b L left) (e1 : w'.heap[r]? = w.heap[r]?) (e2 : w'.heap[b]? = w.heap[b]?) : IterAt P t ek ev w' r b L left := by
  obtain ⟨es, clock, since, seen, c0, h1, h2, h⟩ := h
  exact ⟨es, clock, since, seen, c0, e1.trans h1, e2.trans h2, h⟩
theorem IterAt.keep {S : List Nat} (h : IterAt P t ek ev w r b L left) (hm : Mod S w w') (h1 : r ∉ S) (h2 : b ∉ S) : IterAt P t ek ev w' r b L left := by
  obtain ⟨es, clock, since, seen, c0, e1, e2, h⟩ := h
  exact ⟨es, clock, since, seen, c0, hm.keep e1 h1, hm.keep e2 h2, h⟩
theorem IterAt.ne (h : IterAt P t ek ev w r b L left) : r ≠ b := by
  rintro rfl
  obtain ⟨es, clock, since, seen, c0, h1, h2, _⟩ := h
  rw [h1] at h2; cases h2

theorem IterAt.start {T e : TypeId} (h : MapAt P t ek ev w b L) (ht : P.underlying T = some (.map t e)) : ∃ w', (Instr.range T (.map (some b))).run P w = .ok (.pointer (some ⟨w.heap.size, 0, none⟩)) w' ∧ Mod [] w w' ∧ IterAt P t ek ev w' w.heap.size b L L := by
  obtain ⟨es, clock, hb, he, hk, hs⟩ := h
  have hlt := (Array.getElem?_eq_some_iff.1 hb).1
  refine ⟨w.alloc (.mapIter (some b) clock #[] clock), ?_, Mod.of_below ((Below.refl _ _).alloc (Nat.le_refl _) _), es, clock, clock, #[], clock, (MapKept.heap_alloc w _).1, ?_, he, hk, hs, ?_, Nat.le_refl _, ?_, ?_⟩
  · simp [Instr.range, run_underlying ht, MapKept.run_getObj_map hb, Result.andThen, newObj, Sem.run]
  · rw [Below.heap_alloc w _ b hlt]; exact hb
  · exact ((stamped_iff es clock).1 hs).1
  · exact Nat.le_refl _
  · have : (es.toList.filter fun e => !(#[] : Array Nat).contains e.born) = es.toList := List.filter_eq_self.2 (by simp)
    rw [this]; exact he

theorem IterAt.step {ty : TypeId} (hi : ∀ a b, ek a = ek b → a = b) (h : IterAt P t ek ev w r b L left) :
    (left = [] ∧ (Instr.next (.pointer (some ⟨r, 0, none⟩)) false ty).run P w = .ok (.tuple #[.bool false]) w) ∨
    ∃ p ∈ left, ∃ w', (Instr.next (.pointer (some ⟨r, 0, none⟩)) false ty).run P w = .ok (.tuple #[.bool true, ek p.1, ev p.2]) w' ∧ Mod [r] w w' ∧ IterAt P t ek ev w' r b L (delF left p.1) ∧
      (∀ w'', Mod [] w' w'' → (Instr.entry (.pointer (some ⟨r, 0, none⟩))).run P w'' = .ok (.tuple #[ek p.1, ev p.2]) w'') := by
  have hne := h.ne
  obtain ⟨es, clock, since, seen, c0, h1, h2, he, hk, hs, hb, hc, hcl, hl⟩ := h
  classical
  obtain ⟨s1, s2, s3⟩ := (stamped_iff es clock).1 hs
  rcases run_next_at (P := P) w ty r b since c0 seen es clock h1 h2 hb hc with ⟨h0, hrun⟩ | ⟨e, hmem, w1, hw1, hrun⟩
  · refine .inl ⟨?_, hrun⟩
    have : (es.toList.filter fun e => !seen.contains e.born) = [] := by
      have := congrArg Array.toList (Array.eq_empty_of_size_eq_zero h0)
      simpa [leftOf] using this
    rw [this] at hl
    simpa using hl.symm
  · right
    have hm : e ∈ es.toList ∧ seen.contains e.born = false := by
      have : e ∈ (leftOf es seen).toList := hmem
      simp [leftOf] at this
      exact ⟨by simpa using this.1, by simpa using this.2⟩
    have hp : (e.key, e.val) ∈ left.map (fun p => (ek p.1, ev p.2)) := hl ▸ List.mem_map.2 ⟨e, List.mem_filter.2 ⟨hm.1, by rw [hm.2]; rfl⟩, rfl⟩
    obtain ⟨p, hpl, hpe⟩ := List.mem_map.1 hp
    simp only [Prod.mk.injEq] at hpe
    have W1 : Mod [] w w1 := by
      rcases hw1 with rfl | rfl
      · exact Mod.refl _
      · exact Mod.drewN w 1
    have g1 := W1.keep0 h1
    have g2 := W1.keep0 h2
    have B1 : (setBlock w1 r (.mapIter (some b) since (seen.push e.born) clock)).heap[r]? = some (.mapIter (some b) since (seen.push e.born) clock) := setBlock_at g1
    have B2 : (setBlock w1 r (.mapIter (some b) since (seen.push e.born) clock)).heap[b]? = some (.map es clock) := by rw [setBlock_other (Ne.symm hne)]; exact g2
    refine ⟨p, hpl, _, by rw [hrun, hpe.1, hpe.2], ?_, ⟨es, clock, since, _, clock, B1, B2, he, hk, hs, hb, hcl, hcl, ?_⟩, fun w'' hm'' => ?_⟩
    · have M2 : Mod [r] w1 (setBlock w1 r (.mapIter (some b) since (seen.push e.born) clock)) := ⟨rfl, rfl, rfl, by simp [setBlock], fun k hk hS => setBlock_other (by simpa using hS)⟩
      simpa using W1.trans M2
    · have e1 : (es.toList.filter fun x => !(seen.push e.born).contains x.born) = (es.toList.filter fun x => !seen.contains x.born).filter fun x => decide (x.key ≠ e.key) := by
        rw [List.filter_filter]
        refine List.filter_congr fun x hx => ?_
        have : (x.born = e.born) ↔ (x.key = e.key) := by
          constructor
          · intro hb'
            have := find_born x es.toList s2 hx
            have h' := find_born e es.toList s2 hm.1
            rw [hb'] at this
            rw [this] at h'
            cases h'; rfl
          · intro hk'
            by_cases hxe : x = e
            · rw [hxe]
            · exfalso
              obtain ⟨i, hi1, hi2⟩ := List.getElem_of_mem hx
              obtain ⟨j, hj1, hj2⟩ := List.getElem_of_mem hm.1
              rcases Nat.lt_trichotomy i j with hij | hij | hij
              · have := List.pairwise_iff_getElem.1 s3 i j hi1 hj1 hij
                rw [hi2, hj2] at this; exact this hk'
              · subst hij; rw [hi2] at hj2; exact hxe hj2
              · have := List.pairwise_iff_getElem.1 s3 j i hj1 hi1 hij
                rw [hi2, hj2] at this; exact this hk'.symm
        by_cases hk' : x.key = e.key
        · simp [hk', this.2 hk']
        · have hb' : ¬ x.born = e.born := fun h => hk' (this.1 h)
          simp [hk', hb']
      rw [e1]
      refine filter_enc hl fun a q ha hq haq => ?_
      simp only [Prod.mk.injEq] at haq
      have : (a.key = e.key) ↔ q.1 = p.1 := by
        rw [haq.1, ← hpe.1]
        exact ⟨fun h => hi _ _ h, fun h => by rw [h]⟩
      by_cases hq' : q.1 = p.1
      · simp [hq', this.2 hq']
      · have : ¬ a.key = e.key := fun h => hq' (this.1 h)
        simp [hq', this]
    · rw [hpe.1, hpe.2]
      exact run_entry_at w'' r b since seen es clock e (hm''.keep0 B1) (hm''.keep0 B2) hm.1 s2

theorem IterAt.delete {T e : TypeId} (h : IterAt P t ek ev w r b L left) (K : Keyed P t) (hi : ∀ a b, ek a = ek b → a = b) (ht : P.underlying T = some (.map t e)) {k : κ} {l : Lit} (hk : keyOf P t (ek k) = some l) (ty : TypeId) :
    ∃ w', (Builtin.delete_ #[T, t] ty #[.map (some b), ek k]).run P w = .ok (.tuple #[]) w' ∧ Mod [b] w w' ∧ IterAt P t ek ev w' r b (delF L k) (delF left k) := by
  have hM := h.map
  have hn := hM.nodup
  have hne := h.ne
  obtain ⟨es, clock, since, seen, c0, h1, hb, he, hkk, hs, hbn, hc, hcl, hl⟩ := h
  have MB : ∀ o, Mod [b] w (setBlock w b o) := fun o => ⟨rfl, rfl, rfl, by simp [setBlock], fun k hk hS => setBlock_other (by simpa using hS)⟩
  rcases hM.find K hi hb hk w with ⟨f1, f2⟩ | ⟨j, x, f1, hj, f2⟩
  · have e1 : delF L k = L := by rw [← del_eq hn, del_of_none f1]
    have e2 : delF left k = left := by
      refine List.filter_eq_self.2 fun q hq => ?_
      have : (ek q.1, ev q.2) ∈ (es.toList.filter fun e => !seen.contains e.born).map (fun e => (e.key, e.val)) := hl ▸ List.mem_map.2 ⟨q, hq, rfl⟩
      obtain ⟨a, ha, hae⟩ := List.mem_map.1 this
      have : (a.key, a.val) ∈ L.map (fun p => (ek p.1, ev p.2)) := he ▸ List.mem_map.2 ⟨a, (List.mem_filter.1 ha).1, rfl⟩
      obtain ⟨p, hp, hpe⟩ := List.mem_map.1 this
      simp only [Prod.mk.injEq] at hae hpe
      have h3 := lkp_none.1 f1 p hp
      have h4 : p.1 = q.1 := hi _ _ (by rw [hpe.1, hae.1])
      simpa using (h4 ▸ h3 : q.1 ≠ k)
    rw [e1, e2]
    refine ⟨_, ?_, MB (.map es clock), es, clock, since, seen, c0, by rw [setBlock_other hne]; exact h1, setBlock_at hb, he, hkk, hs, hbn, hc, hcl, hl⟩
    simp [Builtin.delete_, run_underlying ht, MapKept.run_getObj_map hb, K.check w _ hk, f2, Result.andThen, MapKept.run_setObj_map _ hb, setBlock]
  · have hjl : j < es.size := by
      have := (List.getElem?_eq_some_iff.1 hj).1
      have e3 := congrArg List.length he
      simp at e3; omega
    have g : (es.toList.map (fun e => (e.key, e.val)))[j]? = some (ek k, ev x) := by rw [he, List.getElem?_map, hj]; rfl
    rw [List.getElem?_map, Option.map_eq_some_iff] at g
    obtain ⟨e0, he0, e2⟩ := g
    simp only [Prod.mk.injEq] at e2
    have s3 := ((stamped_iff es clock).1 hs).2.2
    classical
    have er : (es.eraseIdxIfInBounds j).toList = es.toList.filter fun x => decide (x.key ≠ ek k) := by
      rw [← erase_filter s3 he0 (fun x _ => by rw [e2.1]; simp)]
      simp [Array.eraseIdxIfInBounds, hjl]
    have pe : ∀ (a : MapEntry) (q : κ × β), (a.key, a.val) = (ek q.1, ev q.2) → decide (a.key ≠ ek k) = decide (q.1 ≠ k) := fun a q haq => by
      simp only [Prod.mk.injEq] at haq
      rw [haq.1]
      by_cases hq : q.1 = k
      · simp [hq]
      · have : ¬ ek q.1 = ek k := fun h => hq (hi _ _ h)
        simp [hq, this]
    refine ⟨_, ?_, MB (.map (es.eraseIdxIfInBounds j) clock), es.eraseIdxIfInBounds j, clock, since, seen, c0, by rw [setBlock_other hne]; exact h1, setBlock_at hb, ?_, ?_, stamped_erase hs j, ?_, hc, hcl, ?_⟩
    · simp [Builtin.delete_, run_underlying ht, MapKept.run_getObj_map hb, K.check w _ hk, f2, Result.andThen, MapKept.run_setObj_map _ hb, setBlock]
    · rw [er]; exact filter_enc he fun a q _ _ haq => pe a q haq
    · exact fun p hp => hkk p (List.mem_filter.1 hp).1
    · rw [er]; exact fun x hx => hbn x (List.mem_filter.1 hx).1
    · rw [er, List.filter_filter]
      have : (es.toList.filter fun a => !seen.contains a.born && decide (a.key ≠ ek k)) = (es.toList.filter fun e => !seen.contains e.born).filter fun x => decide (x.key ≠ ek k) := by
        rw [List.filter_filter]
        exact List.filter_congr fun x _ => by rw [Bool.and_comm]
      rw [this]
      exact filter_enc hl fun a q _ _ haq => pe a q haq

end
end Go.Proofs.Ytdgiemnadpkcfaa
