/- Part 3 of the proof of PHLate. -/
import Derived.Test.YtkepmmocldnnfaaGreatPHLateK2
namespace Go.Proofs.YtkepmmocldnnfaaGreat
open Go Go.RowKit Go.ChangeShapes Go.WideShapes Go.ChangeAt
set_option linter.unusedVariables false
set_option linter.unusedSimpArgs false
def yoF : Option TypeDesc → Bool
 | some (.int _) | some .bool | some .string | some (.slice _) | some (.struct _) => true
 | _ => false
inductive OkT (P : Program) (w : World) : TypeId → List Value → Prop
 | int {t : TypeId} {k : IntKind} {x : Int} (h : P.underlying t = some (.int k)) (hw : (Lit.int k x).wf = true) : OkT P w t [.int k x]
 | bool {t : TypeId} {b : Bool} (h : P.underlying t = some .bool) : OkT P w t [.bool b]
 | string {t : TypeId} {s : ByteArray} (h : P.underlying t = some .string) (hs : s.size ≤ maxLen) : OkT P w t [.string s]
 | nilSlice {t e : TypeId} (h : P.underlying t = some (.slice e)) : OkT P w t [.slice none 0 0]
 | slice {t e : TypeId} {ad : Addr} {len cap : Nat} (rows : Nat → List Value) (h : P.underlying t = some (.slice e)) (hl : len ≤ cap) (hc : cap ≤ maxLen) (h1 : ∀ i, i < len → (rows i).length = P.cellsOf e)
  (h2 : ∀ i, i < len → ∀ j v, (rows i)[j]? = some v → w.cell? ((ad.add (i * P.cellsOf e)).add j) = some v) (h3 : ∀ i, i < len → OkT P w e (rows i)) : OkT P w t [.slice (some ad) len cap]
 | struct {t : TypeId} {fs : Array Field} {cs : List Value} (h : P.underlying t = some (.struct fs)) (hn : cs.length = P.cellsOf t) (hf : ∀ f ∈ fs.toList, OkT P w f.type ((cs.drop f.offset).take (P.cellsOf f.type))) : OkT P w t cs
 | other {t : TypeId} {cs : List Value} (h : yoF (P.underlying t) = false) : OkT P w t cs
theorem ygS {α β : Type} {f : α → Option β} : ∀ {l : List α} {r : List β}, l.mapM f = some r → ∀ a ∈ l, ∃ b, f a = some b
 | [], _, _, a, ha => by cases ha
 | x :: l, r, h, a, ha => by
  rw [List.mapM_cons] at h
  simp only [Option.pure_def, Option.bind_eq_bind, Option.bind_eq_some_iff] at h
  obtain ⟨b, hb, r', hr, _⟩ := h
  rcases List.mem_cons.1 ha with rfl | ha
  ·exact ⟨b, hb⟩
  ·exact ygS hr a ha
theorem ylD {α β : Type} {f : α → Option β} : ∀ {l : List α} {r : List β}, l.mapM f = some r → ∀ (j : Nat) (b : β), r[j]? = some b → ∃ a, l[j]? = some a ∧ f a = some b
 | [], r, h, j, b, hb => by simp at h; subst h; simp at hb
 | x :: l, r, h, j, b, hb => by
  rw [List.mapM_cons] at h
  simp only [Option.pure_def, Option.bind_eq_bind, Option.bind_eq_some_iff, Option.some.injEq] at h
  obtain ⟨b', hb', r', hr, rfl⟩ := h
  cases j with
  | zero => simp at hb; subst hb; exact ⟨x, rfl, hb'⟩
  | succ j => obtain ⟨a, h1, h2⟩ := ylD hr j b (by simpa using hb); exact ⟨a, by simpa using h1, h2⟩
theorem ylE {α β : Type} {f : α → Option β} : ∀ {l : List α} {r : List β}, l.mapM f = some r → r.length = l.length
 | [], r, h => by simp at h; subst h; rfl
 | x :: l, r, h => by
  rw [List.mapM_cons] at h
  simp only [Option.pure_def, Option.bind_eq_bind, Option.bind_eq_some_iff, Option.some.injEq] at h
  obtain ⟨b', hb', r', hr, rfl⟩ := h
  simp [ylE hr]
theorem yoG {w : World} {base n : Nat} {a : Addr} {row : List Value} (h : w.cells? base a n = some row) : row.length = n := by
 unfold World.cells? at h
 split at h
 ·simpa using ylE h
 ·cases h
theorem yoH {w : World} {base n : Nat} {a : Addr} {row : List Value} (h : w.cells? base a n = some row) : ∀ j v, row[j]? = some v → w.cell? (a.add j) = some v := by
 intro j v hv
 unfold World.cells? at h
 split at h
 ·obtain ⟨j', h1, h2⟩ := ylD h j v hv
  obtain ⟨hj, rfl⟩ : j < n ∧ j = j' := by
   obtain ⟨x, y⟩ := List.getElem?_eq_some_iff.1 h1
   simp at x y; exact ⟨x, y⟩
  exact h2
 ·cases h
theorem yrW {H : Type} {enc : TypeId × Value → H} {P : Program} {w : World} {base : Nat} {sp : Nat → Bool} {held : Bool} : ∀ {fuel : Nat} {t : TypeId} {cs : List Value} {x : DataW H × List MemPlace}, DataW.trod enc P w base sp held fuel t cs = some x → OkT P w t cs := by
 intro fuel
 induction fuel with
 | zero => intro t cs x h; cases h
 | succ n ih =>
  intro t cs x h
  cases hu : P.underlying t with
  | none => exact .other (by rw [hu]; rfl)
  | some d =>
   cases d with
   | bool =>
     unfold DataW.trod at h
     rw [hu] at h
     split at h <;> simp_all
     exact .bool hu
   | int k =>
     unfold DataW.trod at h
     rw [hu] at h
     split at h <;> simp_all
     obtain ⟨⟨rfl, hw⟩, _⟩ := h
     exact .int hu hw
   | string =>
     unfold DataW.trod at h
     rw [hu] at h
     split at h <;> simp_all
     exact .string hu h.1
   | slice e =>
     rcases Go.Deep.open_slice hu h with ⟨rfl, _⟩ | ⟨a, len, cap, m, n', D, Pl, rfl, hb, hl, hc, hm, _, hel⟩
     ·exact .nilSlice hu
     ·unfold DataW.trod at h
      rw [hu] at h
      simp only at h
      split at h
      case isFalse => cases h
      rename_i hcond
      simp only [Option.bind_eq_some_iff] at h
      obtain ⟨elems, h1, _⟩ := h
      have key : ∀ i, i < len → ∃ row y, w.cells? base (a.add (i * P.cellsOf e)) (P.cellsOf e) = some row ∧ DataW.trod enc P w base sp held n e row = some y := fun i hi => by
       obtain ⟨y, hy⟩ := ygS h1 i (by simpa using hi)
       simp only [Option.bind_eq_some_iff] at hy
       obtain ⟨row, hr1, hr2⟩ := hy
       exact ⟨row, y, hr1, hr2⟩
      classical
      refine .slice (fun i => if hi : i < len then (key i hi).choose else []) hu hl hc (fun i hi => ?_) (fun i hi j v hv => ?_) (fun i hi => ?_)
      ·simp only [dif_pos hi]
       obtain ⟨y, hr1, hr2⟩ := (key i hi).choose_spec
       exact yoG hr1
      ·simp only [dif_pos hi] at hv
       obtain ⟨y, hr1, hr2⟩ := (key i hi).choose_spec
       exact yoH hr1 j v hv
      ·simp only [dif_pos hi]
       obtain ⟨y, hr1, hr2⟩ := (key i hi).choose_spec
       exact ih hr2
   | struct fs =>
    unfold DataW.trod at h
    rw [hu] at h
    simp only at h
    split at h
    ·rename_i hn
     simp only [Option.map_eq_some_iff] at h
     obtain ⟨xs, h1, _⟩ := h
     refine .struct hu hn fun f hf => ?_
     obtain ⟨y, hy⟩ := ygS h1 f hf
     exact ih hy
    ·cases h
   | _ => exact .other (by rw [hu]; rfl)
theorem OkT.int_inv {P : Program} {w : World} {t : TypeId} {k : IntKind} {cs : List Value} (h : OkT P w t cs) (hu : P.underlying t = some (.int k)) : ∃ x, cs = [.int k x] ∧ (Lit.int k x).wf = true := by
 cases h <;> simp_all [yoF]
theorem OkT.slice_inv {P : Program} {w : World} {t e : TypeId} {cs : List Value} {α : Type} {enc : α → List Value} {good : α → Prop} (h : OkT P w t cs) (hu : P.underlying t = some (.slice e))
  (he : ∀ row, OkT P w e row → row.length = P.cellsOf e → ∃ x, row = enc x ∧ good x) : ∃ a len cap l, cs = [.slice a len cap] ∧ ybU w (P.cellsOf e) enc a len l ∧ (∀ x ∈ l, good x) ∧ len ≤ cap ∧ cap ≤ maxLen := by
 cases h with
 | nilSlice h => exact ⟨none, 0, 0, [], rfl, ⟨rfl, by simp⟩, by simp, Nat.le_refl _, by decide⟩
 | @slice _ _ ad len cap rows h hl hc h1 h2 h3 =>
  rw [hu] at h; cases h
  have key : ∀ i, i < len → ∃ x, rows i = enc x ∧ good x := fun i hi => he _ (h3 i hi) (h1 i hi)
  classical
  by_cases h0 : len = 0
  ·subst h0
   exact ⟨_, _, _, [], rfl, ⟨rfl, by simp⟩, by simp, hl, hc⟩
  have x0 : α := (key 0 (by omega)).choose
  refine ⟨some ad, len, cap, (List.range len).map (fun i => if hi : i < len then (key i hi).choose else x0), rfl, ⟨by simp, fun i x hx => ⟨ad, rfl, fun j v hv => ?_⟩⟩, fun x hx => ?_, hl, hc⟩
  ·rw [List.getElem?_map] at hx
   simp only [Option.map_eq_some_iff] at hx
   obtain ⟨i', hi', rfl⟩ := hx
   obtain ⟨hil, rfl⟩ : i < len ∧ i = i' := by
    obtain ⟨a, b⟩ := List.getElem?_eq_some_iff.1 hi'
    simp at a b; exact ⟨a, b⟩
   simp only [dif_pos hil] at hv
   rw [← (key i hil).choose_spec.1] at hv
   exact h2 i hil j v hv
  ·simp only [List.mem_map, List.mem_range] at hx
   obtain ⟨i, hi, rfl⟩ := hx
   simp only [dif_pos hi]
   exact (key i hi).choose_spec.2
 | _ => simp_all [yoF]
end Go.Proofs.YtkepmmocldnnfaaGreat
namespace Go.Proofs.YtkepmmocldnnfaaGreat
open Go Go.RowKit
set_option linter.all false
theorem ybU.flatB {α : Type} {w : World} {sz : Nat} {enc : α → List Value} {b : Nat} {T : TypeId} {l : List α} (hs : ∀ x, (enc x).length = sz) (h : w.heap[b]? = some (.cells (l.flatMap enc).toArray T)) : ybU w sz enc (some ⟨b, 0, none⟩) l.length l :=
 ⟨rfl, fun i x hx => ⟨_, rfl, fun j v hv => by
  have hj : j < sz := by rw [← hs x]; exact (List.getElem?_eq_some_iff.1 hv).1
  rw [yeM, yeM, yb5 h]
  have := ybN hs l i j x hx hj
  simp only [Nat.zero_add]
  rw [List.getElem?_toArray, this]
  exact hv⟩⟩
end Go.Proofs.YtkepmmocldnnfaaGreat
namespace Go.Proofs.YtkepmmocldnnfaaGreat
open Go Go.RowKit Go.Maps Go.MapKept
open Go.ChangeMaps (setBlock)
set_option linter.unusedVariables false
set_option linter.unusedSimpArgs false
set_option linter.unusedSectionVars false
section
variable {κ β : Type} [DecidableEq κ]
def yrX (L : List (κ × β)) (k : κ) : List (κ × β) := L.filter fun p => decide (p.1 ≠ k)
theorem yhS {α γ δ : Type} {f : α → δ} {g : γ → δ} {p : α → Bool} {q : γ → Bool} : ∀ {A : List α} {B : List γ}, A.map f = B.map g → (∀ a b, a ∈ A → b ∈ B → f a = g b → p a = q b) → (A.filter p).map f = (B.filter q).map g
 | [], [], _, _ => rfl
 | [], _ :: _, h, _ => by simp at h
 | _ :: _, [], h, _ => by simp at h
 | a :: A, b :: B, h, hp => by
  simp only [List.map_cons, List.cons.injEq] at h
  have ih := yhS h.2 (fun a b ha hb => hp a b (by simp [ha]) (by simp [hb]))
  have e := hp a b (by simp) (by simp) h.1
  cases hb : q b with
  | true => rw [hb] at e; rw [List.filter_cons_of_pos e, List.filter_cons_of_pos hb]; simp [h.1, ih]
  | false => rw [hb] at e; rw [List.filter_cons_of_neg (by simp [e]), List.filter_cons_of_neg (by simp [hb])]; exact ih
def ycF (P : Program) (t : TypeId) (ek : κ → Value) (ev : β → Value) (w : World) (r b : Nat) (L left : List (κ × β)) : Prop :=
 ∃ es clock since seen c0, w.heap[r]? = some (.mapIter (some b) since seen c0) ∧ w.heap[b]? = some (.map es clock) ∧
  es.toList.map (fun e => (e.key, e.val)) = L.map (fun p => (ek p.1, ev p.2)) ∧ (∀ p ∈ L, ∃ l, keyOf P t (ek p.1) = some l) ∧ Stamped es clock ∧
  (∀ x ∈ es.toList, x.born < since) ∧ since ≤ c0 ∧ since ≤ clock ∧ (es.toList.filter (fun e => !seen.contains e.born)).map (fun e => (e.key, e.val)) = left.map (fun p => (ek p.1, ev p.2))
variable {P : Program} {t : TypeId} {ek : κ → Value} {ev : β → Value} {w w' : World} {r b : Nat} {L left : List (κ × β)}
theorem ycF.map (h : ycF P t ek ev w r b L left) : ybT P t ek ev w b L := by
 obtain ⟨es, clock, since, seen, c0, h1, h2, h3, h4, h5, _⟩ := h
 exact ⟨es, clock, h2, h3, h4, h5⟩
theorem ycF.keep {S : List Nat} (h : ycF P t ek ev w r b L left) (hm : Mod S w w') (h1 : r ∉ S) (h2 : b ∉ S) : ycF P t ek ev w' r b L left := by
 obtain ⟨es, clock, since, seen, c0, e1, e2, h⟩ := h
 exact ⟨es, clock, since, seen, c0, hm.keep e1 h1, hm.keep e2 h2, h⟩
theorem ycF.ne (h : ycF P t ek ev w r b L left) : r ≠ b := by
 rintro rfl
 obtain ⟨es, clock, since, seen, c0, h1, h2, _⟩ := h
 rw [h1] at h2; cases h2
theorem ycF.start {T e : TypeId} (h : ybT P t ek ev w b L) (ht : P.underlying T = some (.map t e)) : ∃ w', (Instr.range T (.map (some b))).run P w = .ok (.pointer (some ⟨w.heap.size, 0, none⟩)) w' ∧ Mod [] w w' ∧ ycF P t ek ev w' w.heap.size b L L := by
 obtain ⟨es, clock, hb, he, hk, hs⟩ := h
 have hlt := (Array.getElem?_eq_some_iff.1 hb).1
 refine ⟨w.alloc (.mapIter (some b) clock #[] clock), ?_, Mod.of_below ((Below.refl _ _).alloc (Nat.le_refl _) _), es, clock, clock, #[], clock, (MapKept.heap_alloc w _).1, ?_, he, hk, hs, ?_, Nat.le_refl _, ?_, ?_⟩
 ·simp [Instr.range, run_underlying ht, MapKept.run_getObj_map hb, Result.andThen, newObj, Sem.run]
 ·rw [Below.heap_alloc w _ b hlt]; exact hb
 ·exact ((stamped_iff es clock).1 hs).1
 ·exact Nat.le_refl _
 ·have : (es.toList.filter fun e => !(#[] : Array Nat).contains e.born) = es.toList := List.filter_eq_self.2 (by simp)
  rw [this]; exact he
theorem ycF.step {ty : TypeId} (hi : ∀ a b, ek a = ek b → a = b) (h : ycF P t ek ev w r b L left) :
  (left = [] ∧ (Instr.next (.pointer (some ⟨r, 0, none⟩)) false ty).run P w = .ok (.tuple #[.bool false]) w) ∨
  ∃ p ∈ left, ∃ w', (Instr.next (.pointer (some ⟨r, 0, none⟩)) false ty).run P w = .ok (.tuple #[.bool true, ek p.1, ev p.2]) w' ∧ Mod [r] w w' ∧ ycF P t ek ev w' r b L (yrX left p.1) ∧
   (∀ w'', Mod [] w' w'' → (Instr.entry (.pointer (some ⟨r, 0, none⟩))).run P w'' = .ok (.tuple #[ek p.1, ev p.2]) w'') := by
 have hne := h.ne
 obtain ⟨es, clock, since, seen, c0, h1, h2, he, hk, hs, hb, hc, hcl, hl⟩ := h
 classical
 obtain ⟨s1, s2, s3⟩ := (stamped_iff es clock).1 hs
 rcases run_next_at (P := P) w ty r b since c0 seen es clock h1 h2 hb hc with ⟨h0, hrun⟩ | ⟨e, hmem, w1, hw1, hrun⟩
 ·refine .inl ⟨?_, hrun⟩
  have : (es.toList.filter fun e => !seen.contains e.born) = [] := by
   have := congrArg Array.toList (Array.eq_empty_of_size_eq_zero h0)
   simpa [leftOf] using this
  rw [this] at hl
  simpa using hl.symm
 ·right
  have hm : e ∈ es.toList ∧ seen.contains e.born = false := by
   have : e ∈ (leftOf es seen).toList := hmem
   simp [leftOf] at this
   exact ⟨by simpa using this.1, by simpa using this.2⟩
  have hp : (e.key, e.val) ∈ left.map (fun p => (ek p.1, ev p.2)) := hl ▸ List.mem_map.2 ⟨e, List.mem_filter.2 ⟨hm.1, by rw [hm.2]; rfl⟩, rfl⟩
  obtain ⟨p, hpl, hpe⟩ := List.mem_map.1 hp
  simp only [Prod.mk.injEq] at hpe
  have W1 : Mod [] w w1 := by
   rcases hw1 with rfl | rfl
   ·exact Mod.refl _
   ·exact Mod.drewN w 1
  have g1 := W1.keep0 h1
  have g2 := W1.keep0 h2
  have B1 : (setBlock w1 r (.mapIter (some b) since (seen.push e.born) clock)).heap[r]? = some (.mapIter (some b) since (seen.push e.born) clock) := ycL g1
  have B2 : (setBlock w1 r (.mapIter (some b) since (seen.push e.born) clock)).heap[b]? = some (.map es clock) := by rw [yc0 (Ne.symm hne)]; exact g2
  refine ⟨p, hpl, _, by rw [hrun, hpe.1, hpe.2], ?_, ⟨es, clock, since, _, clock, B1, B2, he, hk, hs, hb, hcl, hcl, ?_⟩, fun w'' hm'' => ?_⟩
  ·have M2 : Mod [r] w1 (setBlock w1 r (.mapIter (some b) since (seen.push e.born) clock)) := ⟨rfl, rfl, rfl, by simp [setBlock], fun k hk hS => yc0 (by simpa using hS)⟩
   simpa using W1.trans M2
  ·have e1 : (es.toList.filter fun x => !(seen.push e.born).contains x.born) = (es.toList.filter fun x => !seen.contains x.born).filter fun x => decide (x.key ≠ e.key) := by
    rw [List.filter_filter]
    refine List.filter_congr fun x hx => ?_
    have : (x.born = e.born) ↔ (x.key = e.key) := by
     constructor
     ·intro hb'
      have := find_born x es.toList s2 hx
      have h' := find_born e es.toList s2 hm.1
      rw [hb'] at this
      rw [this] at h'
      cases h'; rfl
     ·intro hk'
      by_cases hxe : x = e
      ·rw [hxe]
      ·exfalso
       obtain ⟨i, hi1, hi2⟩ := List.getElem_of_mem hx
       obtain ⟨j, hj1, hj2⟩ := List.getElem_of_mem hm.1
       rcases Nat.lt_trichotomy i j with hij | hij | hij
       ·have := List.pairwise_iff_getElem.1 s3 i j hi1 hj1 hij
        rw [hi2, hj2] at this; exact this hk'
       ·subst hij; rw [hi2] at hj2; exact hxe hj2
       ·have := List.pairwise_iff_getElem.1 s3 j i hj1 hi1 hij
        rw [hi2, hj2] at this; exact this hk'.symm
    by_cases hk' : x.key = e.key
    ·simp [hk', this.2 hk']
    ·have hb' : ¬ x.born = e.born := fun h => hk' (this.1 h)
     simp [hk', hb']
   rw [e1]
   refine yhS hl fun a q ha hq haq => ?_
   simp only [Prod.mk.injEq] at haq
   have : (a.key = e.key) ↔ q.1 = p.1 := by
    rw [haq.1, ← hpe.1]
    exact ⟨fun h => hi _ _ h, fun h => by rw [h]⟩
   by_cases hq' : q.1 = p.1
   ·simp [hq', this.2 hq']
   ·have : ¬ a.key = e.key := fun h => hq' (this.1 h)
    simp [hq', this]
  ·rw [hpe.1, hpe.2]
   exact run_entry_at w'' r b since seen es clock e (hm''.keep0 B1) (hm''.keep0 B2) hm.1 s2
end
end Go.Proofs.YtkepmmocldnnfaaGreat
namespace Go.Proofs.YtkepmmocldnnfaaGreat
open Go Go.RowKit
set_option linter.all false
section
set_option maxRecDepth 100000
variable {R : VWP} {w w0 : World} {m : Nat} {i0 i1 i2 i3 i4 i5 i6 i7 i8 i9 j0 j1 j2 j3 j4 j5 j6 j7 j8 j9 k0 k1 k2 k3 k4 k5 k6 k7 k8 k9 l0 l1 l2 l3 l4 l5 l6 l7 l8 l9 : Int} {s0 s1 s2 s3 s4 s5 s6 s7 s8 s9 t0 t1 t2 t3 t4 t5 t6 t7 t8 t9 : BA} {n0 n1 n2 n3 n4 n5 n6 n7 n8 n9 o0 o1 o2 o3 o4 o5 o6 o7 o8 o9 p0 p1 p2 p3 p4 p5 p6 p7 p8 p9 : Nat} {q0 q1 q2 q3 q4 q5 q6 q7 q8 q9 r0 r1 r2 r3 r4 r5 r6 r7 r8 r9 : OA} {B0 B1 B2 B3 B4 B5 B6 B7 B8 B9 : Bool} {M0 M1 M2 M3 : Option Nat} {V0 V1 V2 V3 V4 V5 : Value} {A0 A1 A2 : Addr}
theorem yuF (h :
 brB (decide (i0 ≥ 0)) (
 R (.bool (decide (i0 ≤ 1099511627776))) w)
 (
 R (.bool false) w)) :
 CR pP 98 #[.int .i64 i0] w R :=
 yaD Tryz.wide_mixed (an := []) Tryz.func98 rfl rfl (by kernel_rfl) rfl (Eq.mpr (by kernel_rfl) h)
theorem yuG (h :
 Calls pP 98 #[.int .i64 i0] w fun e w3 => ∃ t4, e = .returned (.bool t4) ∧
 brB (!t4) (
 R (.tuple #[.pointer none, .int .i64 1]) w3)
 (
 ∀ b6, w3.heap.size ≤ b6 →
 ∀ w7, Adv [] [b6] w3 w7 → w7.heap[b6]? = some (.cells #[.int .i64 i0, .int .i64 i0, .slice none 0 0, .slice none 0 0] 180) →
 R (.tuple #[(.pointer (some ⟨b6, 0, none⟩)), .int .i64 0]) w7)) :
 CR pP 61 #[.int .i64 i0] w R :=
 yaD Tryz.wide_mixed (an := []) Tryz.func61 rfl rfl (by kernel_rfl) rfl (Eq.mpr (by kernel_rfl) h)
theorem yuH (h :
 brB (decide (i0 ≥ 1)) (
 R (.bool (decide (i0 ≤ 64))) w)
 (
 R (.bool false) w)) :
 CR pP 60 #[.int .i64 i0] w R :=
 yaD Tryz.wide_mixed (an := []) Tryz.func60 rfl rfl (by kernel_rfl) rfl (Eq.mpr (by kernel_rfl) h)
theorem yuI (h :
 Calls pP 60 #[.int .i64 i0] w fun e w3 => ∃ t4, e = .returned (.bool t4) ∧
 brB (!t4) (
 R (.tuple #[.pointer none, .int .i64 1]) w3)
 (
 Calls pP 61 #[.int .i64 0] w3 fun e w8 => ∃ p9 a5, e = .returned (.tuple #[.pointer p9, .int .i64 a5]) ∧
 al w8 (.cells #[.pointer p9] 111) fun a4 a3 =>
 ∀ a1, a3.heap.size ≤ a1 →
 ∀ a2, Adv [] [a1] a3 a2 → a2.heap[a1]? = some (.cells #[.int .i64 i0, (.slice (some ⟨a4, 0, none⟩) 1 1)] 116) →
 R (.tuple #[(.pointer (some ⟨a1, 0, none⟩)), .int .i64 0]) a2)) :
 CR pP 33 #[.int .i64 i0] w R :=
 yaD Tryz.wide_mixed (an := []) Tryz.func33 rfl rfl (by kernel_rfl) rfl (Eq.mpr (by kernel_rfl) h)
theorem yuJ (h :
 al w (.map #[] 0) fun b4 w5 =>
 ∀ b6, w5.heap.size ≤ b6 →
 ∀ w7, Adv [] [b6] w5 w7 → w7.heap[b6]? = some (.cells #[(.map (some b4))] 119) →
 R (.pointer (some ⟨b6, 0, none⟩)) w7) :
 CR pP 34 #[] w R :=
 yaD Tryz.wide_mixed (an := []) Tryz.func34 rfl rfl (by kernel_rfl) rfl (Eq.mpr (by kernel_rfl) h)
theorem yuK (h :
 al w (.map #[] 0) fun b4 w5 =>
 ∀ b6, w5.heap.size ≤ b6 →
 ∀ w7, Adv [] [b6] w5 w7 → w7.heap[b6]? = some (.cells #[.slice none 0 0, (.map (some b4))] 122) →
 R (.pointer (some ⟨b6, 0, none⟩)) w7) :
 CR pP 35 #[] w R :=
 yaD Tryz.wide_mixed (an := []) Tryz.func35 rfl rfl (by kernel_rfl) rfl (Eq.mpr (by kernel_rfl) h)
theorem yuL (h :
 al w (.map #[] 0) fun b4 w5 =>
 ∀ b6, w5.heap.size ≤ b6 →
 ∀ w7, Adv [] [b6] w5 w7 → w7.heap[b6]? = some (.cells #[(.map (some b4))] 125) →
 R (.pointer (some ⟨b6, 0, none⟩)) w7) :
 CR pP 36 #[] w R :=
 yaD Tryz.wide_mixed (an := []) Tryz.func36 rfl rfl (by kernel_rfl) rfl (Eq.mpr (by kernel_rfl) h)
theorem yuM (h :
 Calls pP 33 #[.int .i64 i0] w fun e w4 => ∃ p5 x6, e = .returned (.tuple #[.pointer p5, .int .i64 x6]) ∧
 brB (x6 != 0) (
 R (.tuple #[.pointer none, .int .i64 x6]) w4)
 (
 Calls pP 34 #[] w4 fun e a9 => ∃ a3, e = .returned (.pointer a3) ∧
 al a9 (.map #[] 0) fun a7 b0 =>
 Calls pP 35 #[] b0 fun e b1 => ∃ a4, e = .returned (.pointer a4) ∧
 al b1 (.map #[] 0) fun a8 b2 =>
 Calls pP 36 #[] b2 fun e a6 => ∃ a5, e = .returned (.pointer a5) ∧
 ∀ a1, a6.heap.size ≤ a1 →
 ∀ a2, Adv [] [a1] a6 a2 → a2.heap[a1]? = some (.cells #[.int .i64 i0, .int .i64 0, .pointer a3, (.map (some a7)), .pointer a4, (.map (some a8)), .pointer a5] 96) →
 R (.tuple #[(.pointer (some ⟨a1, 0, none⟩)), .int .i64 0]) a2)) :
 CR pP 20 #[.int .i64 i0] w R :=
 yaD Tryz.wide_mixed (an := []) Tryz.func20 rfl rfl (by kernel_rfl) rfl (Eq.mpr (by kernel_rfl) h)
def ykI : LA := ⟨[0, 0, 1, 0, 1, 1, 1, 1], [0, 4, 5, 30], [(0, 0, 0), (4, 2, 0)], 3, []⟩
def ylF : List LA := [ykI]
abbrev yuN := dnF pP ylF (code Tryz.f41)
abbrev yxA := ybE pP ylF (code Tryz.f41)
abbrev yuO (p : List Nat) (K : List Kh) (R : VWP) := ybE pP ylF (code Tryz.f41) p K (ycT pP Tryz.f41 [0] R)
def yjG (c5 : Addr) (bm0 : Nat) (b6 b7 : Int) (b1 : OA) (a8 : Option Nat) (b2 : OA) (a9 : Option Nat) (b3 : OA) (bm1 : Nat) (b8 : Int) (b4 : BA) (b9 c0 c1 c2 c3 c4 : Int) (a6 : OA) (b0 a7 : Nat) (b5 a3 : BA) (a5 : Int) (a4 : Bool) (a0 : OA) (a2 a1 bm2 : Nat) : Int → List Value × List TB := fun c6 => ([(.pointer (some ⟨bm0, 0, none⟩)), (.pointer (some ⟨bm2, 0, none⟩)), .int .i64 c6, (.pointer (some c5))], [⟨bm0, 96, [.int .i64 b6, .int .i64 b7, .pointer b1, (.map a8), .pointer b2, (.map a9), .pointer b3], false⟩, ⟨bm1, 32, [.int .i64 b8, .string b4, .int .i64 b9, .int .i64 c0, .int .i64 c1, .int .i64 c2, .int .i64 c3, .int .i64 c4, .slice a6 b0 a7, .string b5, .string a3, .int .i64 a5, .bool a4, .slice a0 a2 a1], false⟩, ⟨bm2, 44, [.int .i64 0, .int .i64 0, .int .i64 0, .int .i64 0, .slice none 0 0, .slice none 0 0], false⟩])
abbrev yuP (c5 : Addr) (bm0 : Nat) (b6 b7 : Int) (b1 : OA) (a8 : Option Nat) (b2 : OA) (a9 : Option Nat) (b3 : OA) (bm1 : Nat) (b8 : Int) (b4 : BA) (b9 c0 c1 c2 c3 c4 : Int) (a6 : OA) (b0 a7 : Nat) (b5 a3 : BA) (a5 : Int) (a4 : Bool) (a0 : OA) (a2 a1 bm2 : Nat) (I : Nat → Int → World → Prop) (m : Nat) : Kh := KG (yjG c5 bm0 b6 b7 b1 a8 b2 a9 b3 bm1 b8 b4 b9 c0 c1 c2 c3 c4 a6 b0 a7 b5 a3 a5 a4 a0 a2 a1 bm2) (U1 I) m
theorem yoI (I : Nat → Int → World → Prop) (m0 : Nat) (h0 : I m0 j0 w0)
 (hr : ∀ m c6 w, I m c6 w →
 yrE pP (.pointer (some A0)) 0 w (fun d3 => yaJ [n0, n1, n6] w d3 ∧
 ∀ c9, Adv [n6] [] d3 c9 → c9.heap[n0]? = some (.cells #[.int .i64 i0, .int .i64 i1, .pointer q0, (.map M0), .pointer q1, (.map M1), .pointer q2] 96) →
 R (.agg (Z3 0 i1 c6 0 none 0 0 none 0 0)) c9)
 (fun d8 d9 c8 => yaJ [n0, n1, n6] w c8 ∧
 ∃ d7 d2, ∃ c7, (Instr.entry (.pointer (some A0))).run pP c8 = .ok (.tuple #[d7, .pointer d2]) c7 ∧ yaJ [n0, n1, n6] c8 c7 ∧
 Calls pP 65 #[.pointer d2, .int .i64 i1] c7 fun e d4 => ∃ d5 d1 d6, e = .returned (.slice d5 d1 d6) ∧ yaJ [n0, n1, n6] c7 d4 ∧
 KS (yuP A0 n0 i0 i1 q0 M0 q1 M1 q2 n1 i2 s0 i3 i4 i5 i6 i7 i8 q3 n2 n3 s1 s2 i9 B0 q4 n4 n5 n6 I m) (yjG A0 n0 i0 i1 q0 M0 q1 M1 q2 n1 i2 s0 i3 i4 i5 i6 i7 i8 q3 n2 n3 s1 s2 i9 B0 q4 n4 n5 n6 (IntKind.wrap .i64 (c6 + (d1 : Int)))) d4)) :
 ybC ykI (yuN 394 [0, 0, 1, 0, 1, 1, 1, 1]) (yuO [1, 1, 1, 1, 0, 1, 0] [] R) (yjG A0 n0 i0 i1 q0 M0 q1 M1 q2 n1 i2 s0 i3 i4 i5 i6 i7 i8 q3 n2 n3 s1 s2 i9 B0 q4 n4 n5 n6 j0) w0 :=
 lrule (yjG A0 n0 i0 i1 q0 M0 q1 M1 q2 n1 i2 s0 i3 i4 i5 i6 i7 i8 q3 n2 n3 s1 s2 i9 B0 q4 n4 n5 n6) (U1 I) h0 (by rintro m c6 w h; exact ⟨by kernel_rfl, by kernel_rfl, fun js => Eq.mpr (by kernel_rfl) (hr m c6 w h)⟩)
theorem yuQ {b0 : Nat} {a6 a5 : Nat} {a3 a2 : Nat} (hb : w.heap[b0]? = some (.cells #[.int .i64 i0, .int .i64 i1, .pointer q0, (.map M0), .pointer q1, (.map M1), .pointer q2] 96)) (h :
 ∀ b3, w.heap.size ≤ b3 →
 ∀ b4, w.heap.size ≤ b4 →
 brB (decide ((IntKind.wrap .i64 (i1 + i4)) > 1099511627776)) (
 ∀ c1, Adv [] [b4, b3] w c1 →
 Calls pP 38 #[.int .i64 2] c1 fun e d0 => ∃ d2 d3 d4 d5 c4 c8 c6 c5 c9 c7, e = .returned (.agg (Z3 d2 d3 d4 d5 c4 c8 c6 c5 c9 c7)) ∧ yaJ [b0, b3, b4] c1 d0 ∧
 ∀ c2, Adv [b4] [] d0 c2 → c2.heap[b0]? = some (.cells #[.int .i64 i0, .int .i64 i1, .pointer q0, (.map M0), .pointer q1, (.map M1), .pointer q2] 96) →
 R (.agg (Z3 d2 d3 d4 d5 c4 c8 c6 c5 c9 c7)) c2)
 (
 ∀ c3, Adv [b0] [b4, b3] w c3 →
 ymY pP (Instr.range 92 (.map M1)) c3 fun d6 d1 => yaJ [b0, b3, b4] c3 d1 ∧
 ybC ykI (yuN 394 [0, 0, 1, 0, 1, 1, 1, 1]) (yuO [1, 1, 1, 1, 0, 1, 0] [] R) (yjG d6 b0 i0 (IntKind.wrap .i64 (i1 + i4)) q0 M0 q1 M1 q2 b3 i2 s0 i3 i4 i5 i6 i7 i8 q3 a6 a5 s1 s2 i9 B0 q4 a3 a2 b4 0) d1)) :
 CR pP 41 #[(.pointer (some ⟨b0, 0, none⟩)), (.agg (Z4 i2 s0 i3 i4 i5 i6 i7 i8 q3 a6 a5 s1 s2 i9 B0 q4 a3 a2))] w R :=
 yeP Tryz.wide_mixed (an := ylF) Tryz.func41 rfl rfl (by kernel_rfl) rfl hb (Eq.mpr (by kernel_rfl) h)
end
section
set_option maxRecDepth 100000
variable {R : VWP} {w w0 : World} {m : Nat} {i0 i1 i2 i3 i4 i5 i6 i7 i8 i9 j0 j1 j2 j3 j4 j5 j6 j7 j8 j9 k0 k1 k2 k3 k4 k5 k6 k7 k8 k9 l0 l1 l2 l3 l4 l5 l6 l7 l8 l9 : Int} {s0 s1 s2 s3 s4 s5 s6 s7 s8 s9 t0 t1 t2 t3 t4 t5 t6 t7 t8 t9 : BA} {n0 n1 n2 n3 n4 n5 n6 n7 n8 n9 o0 o1 o2 o3 o4 o5 o6 o7 o8 o9 p0 p1 p2 p3 p4 p5 p6 p7 p8 p9 : Nat} {q0 q1 q2 q3 q4 q5 q6 q7 q8 q9 r0 r1 r2 r3 r4 r5 r6 r7 r8 r9 : OA} {B0 B1 B2 B3 B4 B5 B6 B7 B8 B9 : Bool} {M0 M1 M2 M3 : Option Nat} {V0 V1 V2 V3 V4 V5 : Value} {A0 A1 A2 : Addr}
def ydN : LA := ⟨[1, 0, 1, 0, 1, 1, 1], [0, 3, 4, 6, 42, 43], [(0, 0, 0), (3, 1, 0), (4, 2, 0)], 3, [0]⟩
def yd6 : LA := ⟨[1, 1, 1, 0, 1, 0, 1, 1, 1], [0, 3, 4, 6, 58], [(0, 0, 0), (3, 1, 0), (4, 2, 0)], 3, [0]⟩
def ylG : List LA := [ydN, yd6, ⟨9 :: [0, 1, 1, 1, 1], [75, 41], [], 0, []⟩]
abbrev ye2 := dnF pP ylG (code Tryz.f21)
abbrev yxB := ybE pP ylG (code Tryz.f21)
abbrev ye3 (p : List Nat) (K : List Kh) (R : VWP) := ybE pP ylG (code Tryz.f21) p K (ycT pP Tryz.f21 [0] R)
def yfG : (Option Nat) × Int × Bool × Nat × Int × Int × (Option Addr) × (Option Nat) × (Option Addr) × (Option Nat) × (Option Addr) × Nat × Int × ByteArray × Int × Int × Int × Int × Int × Int × (Option Addr) × Nat × Nat × ByteArray × ByteArray × Int × Bool × (Option Addr) × Nat × Nat × Nat → List Value × List TB := fun (c7, c6, c5, bm0, b6, b7, b1, a8, b2, a9, b3, bm1, b8, b4, b9, c0, c1, c2, c3, c4, a6, b0, a7, b5, a3, a5, a4, a0, a2, a1, bm2) => ([(.pointer (some ⟨bm0, 0, none⟩)), (.pointer (some ⟨bm1, 0, none⟩)), (.pointer (some ⟨bm2, 0, none⟩)), (.map c7), .int .i64 c6, .bool c5], [⟨bm0, 96, [.int .i64 b6, .int .i64 b7, .pointer b1, (.map a8), .pointer b2, (.map a9), .pointer b3], true⟩, ⟨bm1, 32, [.int .i64 b8, .string b4, .int .i64 b9, .int .i64 c0, .int .i64 c1, .int .i64 c2, .int .i64 c3, .int .i64 c4, .slice a6 b0 a7, .string b5, .string a3, .int .i64 a5, .bool a4, .slice a0 a2 a1], false⟩, ⟨bm2, 44, [.int .i64 0, .int .i64 0, .int .i64 0, .int .i64 0, .slice none 0 0, .slice none 0 0], false⟩])
def ygT : (Option Nat) × Bool × Nat × Int × Int × (Option Addr) × (Option Nat) × (Option Addr) × (Option Nat) × (Option Addr) × Nat × Int × ByteArray × Int × Int × Int × Int × Int × Int × (Option Addr) × Nat × Nat × ByteArray × ByteArray × Int × Bool × (Option Addr) × Nat × Nat × Nat → List Value × List TB := fun (c6, c5, bm0, b6, b7, b1, a8, b2, a9, b3, bm1, b8, b4, b9, c0, c1, c2, c3, c4, a6, b0, a7, b5, a3, a5, a4, a0, a2, a1, bm2) => ([(.pointer (some ⟨bm0, 0, none⟩)), (.pointer (some ⟨bm1, 0, none⟩)), (.pointer (some ⟨bm2, 0, none⟩)), (.map c6), .bool c5], [⟨bm0, 96, [.int .i64 b6, .int .i64 b7, .pointer b1, (.map a8), .pointer b2, (.map a9), .pointer b3], true⟩, ⟨bm1, 32, [.int .i64 b8, .string b4, .int .i64 b9, .int .i64 c0, .int .i64 c1, .int .i64 c2, .int .i64 c3, .int .i64 c4, .slice a6 b0 a7, .string b5, .string a3, .int .i64 a5, .bool a4, .slice a0 a2 a1], false⟩, ⟨bm2, 44, [.int .i64 0, .int .i64 0, .int .i64 0, .int .i64 0, .slice none 0 0, .slice none 0 0], false⟩])
def yq1 (c7 : Option Nat) (c5 : Int) (g6 : Bool) (bm0 : Nat) (b1 b2 : Int) (a0 : OA) (a3 : Option Nat) (a6 : OA) (a4 : Option Nat) (a7 : OA) (bm1 : Nat) (b3 : Int) (a8 : BA) (b5 c0 c1 c2 c3 c4 : Int) (b6 : OA) (b8 b7 : Nat) (b9 a9 : BA) (b4 : Int) (b0 : Bool) (a1 : OA) (a5 a2 bm2 : Nat) (R : VWP) (w : World) : Prop :=
 w.heap[bm0]? = some (.cells #[.int .i64 b1, .int .i64 b2, .pointer a0, (.map a3), .pointer a6, (.map a4), .pointer a7] 96) →
 brB g6 (
 ∀ d1, Adv [] [] w d1 → d1.heap[bm0]? = some (.cells #[.int .i64 b1, .int .i64 b2, .pointer a0, (.map a3), .pointer a6, (.map a4), .pointer a7] 96) →
 Calls pP 52 #[.pointer a0, (.agg #[.string a8, .int .i64 b5])] d1 fun e c6 => ∃ g1, e = .returned (.bool g1) ∧ yfK [bm0] [(bm1, 32), (bm2, 44)] [bm1, bm2] d1 c6 ∧ ∃ h0 h1 g7, ∃ m72 : Option Nat, ∃ g8, ∃ m74 : Option Nat, ∃ g9, c6.heap[bm0]? = some (.cells #[.int .i64 h0, .int .i64 h1, .pointer g7, (.map m72), .pointer g8, (.map m74), .pointer g9] 96) ∧
 brB (!g1) (
 Calls pP 38 #[.int .i64 91] c6 fun e f1 => ∃ g2 g3 g4 g5 g0 d9 d5 d2 e0 d6, e = .returned (.agg (Z3 g2 g3 g4 g5 g0 d9 d5 d2 e0 d6)) ∧ yfK [bm0] [(bm1, 32), (bm2, 44)] [bm1, bm2] c6 f1 ∧ ∃ f2 f3 e3, ∃ m108 : Option Nat, ∃ e4, ∃ m110 : Option Nat, ∃ e5, f1.heap[bm0]? = some (.cells #[.int .i64 f2, .int .i64 f3, .pointer e3, (.map m108), .pointer e4, (.map m110), .pointer e5] 96) ∧
 ∀ c8, Adv [bm2] [] f1 c8 → c8.heap[bm0]? = some (.cells #[.int .i64 f2, .int .i64 f3, .pointer e3, (.map m108), .pointer e4, (.map m110), .pointer e5] 96) →
 R (.agg (Z3 g2 g3 g4 g5 g0 d9 d5 d2 e0 d6)) c8)
 (
 ∃ e6 : Option Addr,
 ∃ f0, (∀ w', Mod [] c6 w' → (Instr.lookup 99 (.map c7) (.int .i64 b3) false).run pP w' = .ok f0 w') ∧ f0 = (.func (.func 41) #[.pointer e6] #[]) ∧
 Calls pP 41 #[.pointer e6, (.agg (Z4 b3 a8 b5 c0 c1 c2 c3 c4 b6 b8 b7 b9 a9 b4 b0 a1 a5 a2))] c6 fun e c9 => ∃ f4 f5 f6 f7 d3 e1 d7 d4 e2 d8, e = .returned (.agg (Z3 f4 f5 f6 f7 d3 e1 d7 d4 e2 d8)) ∧ yfK [bm0] [(bm1, 32), (bm2, 44)] [bm1, bm2] c6 c9 ∧ ∃ f8 f9 e7, ∃ m149 : Option Nat, ∃ e8, ∃ m151 : Option Nat, ∃ e9, c9.heap[bm0]? = some (.cells #[.int .i64 f8, .int .i64 f9, .pointer e7, (.map m149), .pointer e8, (.map m151), .pointer e9] 96) ∧
 ∀ d0, Adv [bm2] [] c9 d0 → d0.heap[bm0]? = some (.cells #[.int .i64 f8, .int .i64 f9, .pointer e7, (.map m149), .pointer e8, (.map m151), .pointer e9] 96) →
 R (.agg (Z3 f4 f5 f6 f7 d3 e1 d7 d4 e2 d8)) d0))
 (
 brB (c5 == 7) (
 yaZ yd6 ((ye2 394 [1, 1, 1, 0, 1, 0, 1, 1, 1]) (ye3 [1, 1, 1, 0, 1, 0, 1, 1] [] R)) (ygT (c7, (c5 == 7), bm0, b1, b2, a0, a3, a6, a4, a7, bm1, b3, a8, b5, c0, c1, c2, c3, c4, b6, b8, b7, b9, a9, b4, b0, a1, a5, a2, bm2)) w)
 (
 brB (c5 == 8) (
 yaZ yd6 ((ye2 394 [1, 1, 1, 0, 1, 0, 1, 1, 1]) (ye3 [1, 1, 1, 0, 1, 0, 1, 1] [] R)) (ygT (c7, (c5 == 8), bm0, b1, b2, a0, a3, a6, a4, a7, bm1, b3, a8, b5, c0, c1, c2, c3, c4, b6, b8, b7, b9, a9, b4, b0, a1, a5, a2, bm2)) w)
 (
 brB (c5 == 9) (
 yaZ yd6 ((ye2 394 [1, 1, 1, 0, 1, 0, 1, 1, 1]) (ye3 [1, 1, 1, 0, 1, 0, 1, 1] [] R)) (ygT (c7, (c5 == 9), bm0, b1, b2, a0, a3, a6, a4, a7, bm1, b3, a8, b5, c0, c1, c2, c3, c4, b6, b8, b7, b9, a9, b4, b0, a1, a5, a2, bm2)) w)
 (
 yaZ yd6 ((ye2 394 [1, 1, 1, 0, 1, 0, 1, 1, 1]) (ye3 [1, 1, 1, 0, 1, 0, 1, 1] [] R)) (ygT (c7, (c5 == 10), bm0, b1, b2, a0, a3, a6, a4, a7, bm1, b3, a8, b5, c0, c1, c2, c3, c4, b6, b8, b7, b9, a9, b4, b0, a1, a5, a2, bm2)) w))))
theorem yp2 (J : Option Nat → Int → Bool → Nat → Int → Int → Option Addr → Option Nat → Option Addr → Option Nat → Option Addr → Nat → Int → ByteArray → Int → Int → Int → Int → Int → Int → Option Addr → Nat → Nat → ByteArray → ByteArray → Int → Bool → Option Addr → Nat → Nat → Nat → World → Prop) (h0 : J M0 i0 B0 n0 i1 i2 q0 M1 q1 M2 q2 n1 i3 s0 i4 i5 i6 i7 i8 i9 q3 n2 n3 s1 s2 j0 B1 q4 n4 n5 n6 w0)
 (hr : ∀ (f1 : Option Nat) (f0 : Int) (e9 : Bool) (bm0 : Nat) (b6 b7 : Int) (b1 : OA) (a8 : Option Nat) (b2 : OA) (a9 : Option Nat) (b3 : OA) (bm1 : Nat) (b8 : Int) (b4 : BA) (b9 c0 c1 c2 c3 c4 : Int) (a6 : OA) (b0 a7 : Nat) (b5 s0 : BA) (a5 : Int) (a4 : Bool) (a1 : OA) (a3 a2 bm2 : Nat) (w : World), J f1 f0 e9 bm0 b6 b7 b1 a8 b2 a9 b3 bm1 b8 b4 b9 c0 c1 c2 c3 c4 a6 b0 a7 b5 s0 a5 a4 a1 a3 a2 bm2 w → yq1 f1 f0 e9 bm0 b6 b7 b1 a8 b2 a9 b3 bm1 b8 b4 b9 c0 c1 c2 c3 c4 a6 b0 a7 b5 s0 a5 a4 a1 a3 a2 bm2 R w) :
 yaZ ydN ((ye2 395 [1, 0, 1, 0, 1, 1, 1]) (ye3 [1, 1, 1, 0, 1, 0] [] R)) (yfG (M0, i0, B0, n0, i1, i2, q0, M1, q1, M2, q2, n1, i3, s0, i4, i5, i6, i7, i8, i9, q3, n2, n3, s1, s2, j0, B1, q4, n4, n5, n6)) w0 :=
 crule (yfG) (V31 J) h0 (by rintro ⟨f1, f0, e9, bm0, b6, b7, b1, a8, b2, a9, b3, bm1, b8, b4, b9, c0, c1, c2, c3, c4, a6, b0, a7, b5, s0, a5, a4, a1, a3, a2, bm2⟩ w h; exact ⟨by kernel_rfl, by kernel_rfl, fun js => Eq.mpr (by kernel_rfl) (hr f1 f0 e9 bm0 b6 b7 b1 a8 b2 a9 b3 bm1 b8 b4 b9 c0 c1 c2 c3 c4 a6 b0 a7 b5 s0 a5 a4 a1 a3 a2 bm2 w h)⟩)
theorem yrY (h : yq1 M0 i0 B0 n0 i1 i2 q0 M1 q1 M2 q2 n1 i3 s0 i4 i5 i6 i7 i8 i9 q3 n2 n3 s1 s2 j0 B1 q4 n4 n5 n6 R w) :
 yaZ ydN ((ye2 395 [1, 0, 1, 0, 1, 1, 1]) (ye3 [1, 1, 1, 0, 1, 0] [] R)) (yfG (M0, i0, B0, n0, i1, i2, q0, M1, q1, M2, q2, n1, i3, s0, i4, i5, i6, i7, i8, i9, q3, n2, n3, s1, s2, j0, B1, q4, n4, n5, n6)) w :=
 yp2 (fun f5 f3 f2 bm0' e1 e2 d6 d3 d7 d4 d8 bm1' e3 d9 e4 e5 e6 e7 e8 e9 d1 d5 d2 e0 b8 c4 c0 a6 b2 a8 bm2' w' => f5 = M0 ∧ f3 = i0 ∧ f2 = B0 ∧ bm0' = n0 ∧ e1 = i1 ∧ e2 = i2 ∧ d6 = q0 ∧ d3 = M1 ∧ d7 = q1 ∧ d4 = M2 ∧ d8 = q2 ∧ bm1' = n1 ∧ e3 = i3 ∧ d9 = s0 ∧ e4 = i4 ∧ e5 = i5 ∧ e6 = i6 ∧ e7 = i7 ∧ e8 = i8 ∧ e9 = i9 ∧ d1 = q3 ∧ d5 = n2 ∧ d2 = n3 ∧ e0 = s1 ∧ b8 = s2 ∧ c4 = j0 ∧ c0 = B1 ∧ a6 = q4 ∧ b2 = n4 ∧ a8 = n5 ∧ bm2' = n6 ∧ w' = w) ⟨rfl, rfl, rfl, rfl, rfl, rfl, rfl, rfl, rfl, rfl, rfl, rfl, rfl, rfl, rfl, rfl, rfl, rfl, rfl, rfl, rfl, rfl, rfl, rfl, rfl, rfl, rfl, rfl, rfl, rfl, rfl, rfl⟩ (by rintro f5 f3 f2 bm0' e1 e2 d6 d3 d7 d4 d8 bm1' e3 d9 e4 e5 e6 e7 e8 e9 d1 d5 d2 e0 b8 c4 c0 a6 b2 a8 bm2' w' ⟨rfl, rfl, rfl, rfl, rfl, rfl, rfl, rfl, rfl, rfl, rfl, rfl, rfl, rfl, rfl, rfl, rfl, rfl, rfl, rfl, rfl, rfl, rfl, rfl, rfl, rfl, rfl, rfl, rfl, rfl, rfl, rfl⟩; exact h)
def yq2 (u3 : Option Nat) (u4 : Bool) (bm0 : Nat) (a8 a9 : Int) (a3 : OA) (a2 : Option Nat) (a4 : OA) (a0 : Option Nat) (a5 : OA) (bm1 : Nat) (a1 : Int) (c0 : BA) (c1 c2 c3 c4 c5 c6 : Int) (b7 : OA) (b9 b8 : Nat) (a6 b3 : BA) (b5 : Int) (b4 : Bool) (b0 : OA) (b2 b1 bm2 : Nat) (R : VWP) (w : World) : Prop :=
 w.heap[bm0]? = some (.cells #[.int .i64 a8, .int .i64 a9, .pointer a3, (.map a2), .pointer a4, (.map a0), .pointer a5] 96) →
 brB u4 (
 ∃ f1, (∀ w', Mod [] w w' → (Instr.lookup 92 (.map a0) (.string a6) false).run pP w' = .ok (.pointer f1) w') ∧
 brB (Option.isNone f1) (
 ∀ b6, Adv [] [] w b6 → b6.heap[bm0]? = some (.cells #[.int .i64 a8, .int .i64 a9, .pointer a3, (.map a2), .pointer a4, (.map a0), .pointer a5] 96) →
 Calls pP 38 #[.int .i64 110] b6 fun e c7 => ∃ g5 g6 g7 g8 d3 e5 d9 d4 e6 e0, e = .returned (.agg (Z3 g5 g6 g7 g8 d3 e5 d9 d4 e6 e0)) ∧ yfK [bm0] [(bm1, 32), (bm2, 44)] [bm1, bm2] b6 c7 ∧ ∃ g9 h0 f2, ∃ m189 : Option Nat, ∃ f3, ∃ m191 : Option Nat, ∃ f4, c7.heap[bm0]? = some (.cells #[.int .i64 g9, .int .i64 h0, .pointer f2, (.map m189), .pointer f3, (.map m191), .pointer f4] 96) ∧
 ∀ c8, Adv [bm2] [] c7 c8 → c8.heap[bm0]? = some (.cells #[.int .i64 g9, .int .i64 h0, .pointer f2, (.map m189), .pointer f3, (.map m191), .pointer f4] 96) →
 R (.agg (Z3 g5 g6 g7 g8 d3 e5 d9 d4 e6 e0)) c8)
 (
 ∃ f5 : Option Addr,
 ∀ a7, Adv [] [] w a7 → a7.heap[bm0]? = some (.cells #[.int .i64 a8, .int .i64 a9, .pointer a3, (.map a2), .pointer a4, (.map a0), .pointer a5] 96) →
 ∃ g3, (∀ w', Mod [] a7 w' → (Instr.lookup 99 (.map u3) (.int .i64 a1) false).run pP w' = .ok g3 w') ∧ g3 = (.func (.func 41) #[.pointer f5] #[]) ∧
 Calls pP 41 #[.pointer f5, (.agg (Z4 a1 c0 c1 c2 c3 c4 c5 c6 b7 b9 b8 a6 b3 b5 b4 b0 b2 b1))] a7 fun e c9 => ∃ h1 h2 h3 h4 d5 e7 e1 d6 e8 e2, e = .returned (.agg (Z3 h1 h2 h3 h4 d5 e7 e1 d6 e8 e2)) ∧ yfK [bm0] [(bm1, 32), (bm2, 44)] [bm1, bm2] a7 c9 ∧ ∃ h5 h6 f6, ∃ m232 : Option Nat, ∃ f7, ∃ m234 : Option Nat, ∃ f8, c9.heap[bm0]? = some (.cells #[.int .i64 h5, .int .i64 h6, .pointer f6, (.map m232), .pointer f7, (.map m234), .pointer f8] 96) ∧
 ∀ d0, Adv [bm2] [] c9 d0 → d0.heap[bm0]? = some (.cells #[.int .i64 h5, .int .i64 h6, .pointer f6, (.map m232), .pointer f7, (.map m234), .pointer f8] 96) →
 R (.agg (Z3 h1 h2 h3 h4 d5 e7 e1 d6 e8 e2)) d0))
 (
 ∃ f9 : Option Addr,
 ∃ g4, (∀ w', Mod [] w w' → (Instr.lookup 99 (.map u3) (.int .i64 a1) false).run pP w' = .ok g4 w') ∧ g4 = (.func (.func 41) #[.pointer f9] #[]) ∧
 Calls pP 41 #[.pointer f9, (.agg (Z4 a1 c0 c1 c2 c3 c4 c5 c6 b7 b9 b8 a6 b3 b5 b4 b0 b2 b1))] w fun e d1 => ∃ h7 h8 h9 u0 d7 e9 e3 d8 f0 e4, e = .returned (.agg (Z3 h7 h8 h9 u0 d7 e9 e3 d8 f0 e4)) ∧ yfK [bm0] [(bm1, 32), (bm2, 44)] [bm1, bm2] w d1 ∧ ∃ u1 u2 g0, ∃ m273 : Option Nat, ∃ g1, ∃ m275 : Option Nat, ∃ g2, d1.heap[bm0]? = some (.cells #[.int .i64 u1, .int .i64 u2, .pointer g0, (.map m273), .pointer g1, (.map m275), .pointer g2] 96) ∧
 ∀ d2, Adv [bm2] [] d1 d2 → d2.heap[bm0]? = some (.cells #[.int .i64 u1, .int .i64 u2, .pointer g0, (.map m273), .pointer g1, (.map m275), .pointer g2] 96) →
 R (.agg (Z3 h7 h8 h9 u0 d7 e9 e3 d8 f0 e4)) d2)
theorem yp3 (J : Option Nat → Bool → Nat → Int → Int → Option Addr → Option Nat → Option Addr → Option Nat → Option Addr → Nat → Int → ByteArray → Int → Int → Int → Int → Int → Int → Option Addr → Nat → Nat → ByteArray → ByteArray → Int → Bool → Option Addr → Nat → Nat → Nat → World → Prop) (h0 : J M0 B0 n0 i0 i1 q0 M1 q1 M2 q2 n1 i2 s0 i3 i4 i5 i6 i7 i8 q3 n2 n3 s1 s2 i9 B1 q4 n4 n5 n6 w0)
 (hr : ∀ (f0 : Option Nat) (e9 : Bool) (bm0 : Nat) (b6 b7 : Int) (b1 : OA) (a8 : Option Nat) (b2 : OA) (a9 : Option Nat) (b3 : OA) (bm1 : Nat) (b8 : Int) (b4 : BA) (b9 c0 c1 c2 c3 c4 : Int) (a6 : OA) (b0 a7 : Nat) (b5 s0 : BA) (a5 : Int) (a4 : Bool) (a1 : OA) (a3 a2 bm2 : Nat) (w : World), J f0 e9 bm0 b6 b7 b1 a8 b2 a9 b3 bm1 b8 b4 b9 c0 c1 c2 c3 c4 a6 b0 a7 b5 s0 a5 a4 a1 a3 a2 bm2 w → yq2 f0 e9 bm0 b6 b7 b1 a8 b2 a9 b3 bm1 b8 b4 b9 c0 c1 c2 c3 c4 a6 b0 a7 b5 s0 a5 a4 a1 a3 a2 bm2 R w) :
 yaZ yd6 ((ye2 394 [1, 1, 1, 0, 1, 0, 1, 1, 1]) (ye3 [1, 1, 1, 0, 1, 0, 1, 1] [] R)) (ygT (M0, B0, n0, i0, i1, q0, M1, q1, M2, q2, n1, i2, s0, i3, i4, i5, i6, i7, i8, q3, n2, n3, s1, s2, i9, B1, q4, n4, n5, n6)) w0 :=
 crule (ygT) (V30 J) h0 (by rintro ⟨f0, e9, bm0, b6, b7, b1, a8, b2, a9, b3, bm1, b8, b4, b9, c0, c1, c2, c3, c4, a6, b0, a7, b5, s0, a5, a4, a1, a3, a2, bm2⟩ w h; exact ⟨by kernel_rfl, by kernel_rfl, fun js => Eq.mpr (by kernel_rfl) (hr f0 e9 bm0 b6 b7 b1 a8 b2 a9 b3 bm1 b8 b4 b9 c0 c1 c2 c3 c4 a6 b0 a7 b5 s0 a5 a4 a1 a3 a2 bm2 w h)⟩)
theorem yrZ (h : yq2 M0 B0 n0 i0 i1 q0 M1 q1 M2 q2 n1 i2 s0 i3 i4 i5 i6 i7 i8 q3 n2 n3 s1 s2 i9 B1 q4 n4 n5 n6 R w) :
 yaZ yd6 ((ye2 394 [1, 1, 1, 0, 1, 0, 1, 1, 1]) (ye3 [1, 1, 1, 0, 1, 0, 1, 1] [] R)) (ygT (M0, B0, n0, i0, i1, q0, M1, q1, M2, q2, n1, i2, s0, i3, i4, i5, i6, i7, i8, q3, n2, n3, s1, s2, i9, B1, q4, n4, n5, n6)) w :=
 yp3 (fun f3 f1 bm0' e1 e2 d6 d3 d7 d4 d8 bm1' e3 d9 e4 e5 e6 e7 e8 e9 d1 d5 d2 e0 b8 c4 c0 a6 b2 a8 bm2' w' => f3 = M0 ∧ f1 = B0 ∧ bm0' = n0 ∧ e1 = i0 ∧ e2 = i1 ∧ d6 = q0 ∧ d3 = M1 ∧ d7 = q1 ∧ d4 = M2 ∧ d8 = q2 ∧ bm1' = n1 ∧ e3 = i2 ∧ d9 = s0 ∧ e4 = i3 ∧ e5 = i4 ∧ e6 = i5 ∧ e7 = i6 ∧ e8 = i7 ∧ e9 = i8 ∧ d1 = q3 ∧ d5 = n2 ∧ d2 = n3 ∧ e0 = s1 ∧ b8 = s2 ∧ c4 = i9 ∧ c0 = B1 ∧ a6 = q4 ∧ b2 = n4 ∧ a8 = n5 ∧ bm2' = n6 ∧ w' = w) ⟨rfl, rfl, rfl, rfl, rfl, rfl, rfl, rfl, rfl, rfl, rfl, rfl, rfl, rfl, rfl, rfl, rfl, rfl, rfl, rfl, rfl, rfl, rfl, rfl, rfl, rfl, rfl, rfl, rfl, rfl, rfl⟩ (by rintro f3 f1 bm0' e1 e2 d6 d3 d7 d4 d8 bm1' e3 d9 e4 e5 e6 e7 e8 e9 d1 d5 d2 e0 b8 c4 c0 a6 b2 a8 bm2' w' ⟨rfl, rfl, rfl, rfl, rfl, rfl, rfl, rfl, rfl, rfl, rfl, rfl, rfl, rfl, rfl, rfl, rfl, rfl, rfl, rfl, rfl, rfl, rfl, rfl, rfl, rfl, rfl, rfl, rfl, rfl, rfl⟩; exact h)
theorem yuR {b0 : Nat} {a6 a5 : Nat} {a3 a2 : Nat} (hb : w.heap[b0]? = some (.cells #[.int .i64 i0, .int .i64 i1, .pointer q0, (.map M0), .pointer q1, (.map M1), .pointer q2] 96)) (h :
 ∀ b3, w.heap.size ≤ b3 →
 ∀ b4, w.heap.size ≤ b4 →
 ∀ w8, Adv [] [b4, b3] w w8 →
 Calls pP 37 #[(.agg (Z4 i2 s0 i3 i4 i5 i6 i7 i8 q3 a6 a5 s1 s2 i9 B0 q4 a3 a2))] w8 fun e w9 => ∃ d7, e = .returned (.int .i64 d7) ∧ yaJ [b0, b3, b4] w8 w9 ∧
 brB (d7 != 0) (
 Calls pP 38 #[.int .i64 d7] w9 fun e e4 => ∃ e5 e6 e7 e8 d8 e2 e0 d9 e3 e1, e = .returned (.agg (Z3 e5 e6 e7 e8 d8 e2 e0 d9 e3 e1)) ∧ yaJ [b0, b3, b4] w9 e4 ∧
 ∀ c4, Adv [b4] [] e4 c4 → c4.heap[b0]? = some (.cells #[.int .i64 i0, .int .i64 i1, .pointer q0, (.map M0), .pointer q1, (.map M1), .pointer q2] 96) →
 R (.agg (Z3 e5 e6 e7 e8 d8 e2 e0 d9 e3 e1)) c4)
 (
 al w9 (.map #[] 0) fun a7 e9 =>
 ∀ c3, Adv [] [] e9 c3 → c3.heap[b0]? = some (.cells #[.int .i64 i0, .int .i64 i1, .pointer q0, (.map M0), .pointer q1, (.map M1), .pointer q2] 96) →
 yg2 pP (Instr.mapUpdate 99 (.map (some a7)) (.int .i64 0) (.func (.func 39) #[(.pointer (some ⟨b0, 0, none⟩))] #[])) c3 fun c5 => yaJ [b0, b3, b4] c3 c5 ∧
 yg2 pP (Instr.mapUpdate 99 (.map (some a7)) (.int .i64 1) (.func (.func 40) #[(.pointer (some ⟨b0, 0, none⟩))] #[])) c5 fun c6 => yaJ [b0, b3, b4] c5 c6 ∧
 yg2 pP (Instr.mapUpdate 99 (.map (some a7)) (.int .i64 12) (.func (.func 41) #[(.pointer (some ⟨b0, 0, none⟩))] #[])) c6 fun c7 => yaJ [b0, b3, b4] c6 c7 ∧
 yg2 pP (Instr.mapUpdate 99 (.map (some a7)) (.int .i64 2) (.func (.func 42) #[(.pointer (some ⟨b0, 0, none⟩))] #[])) c7 fun c8 => yaJ [b0, b3, b4] c7 c8 ∧
 yg2 pP (Instr.mapUpdate 99 (.map (some a7)) (.int .i64 3) (.func (.func 43) #[(.pointer (some ⟨b0, 0, none⟩))] #[])) c8 fun c9 => yaJ [b0, b3, b4] c8 c9 ∧
 yg2 pP (Instr.mapUpdate 99 (.map (some a7)) (.int .i64 4) (.func (.func 44) #[(.pointer (some ⟨b0, 0, none⟩))] #[])) c9 fun d0 => yaJ [b0, b3, b4] c9 d0 ∧
 yg2 pP (Instr.mapUpdate 99 (.map (some a7)) (.int .i64 5) (.func (.func 45) #[(.pointer (some ⟨b0, 0, none⟩))] #[])) d0 fun d1 => yaJ [b0, b3, b4] d0 d1 ∧
 yg2 pP (Instr.mapUpdate 99 (.map (some a7)) (.int .i64 11) (.func (.func 46) #[(.pointer (some ⟨b0, 0, none⟩))] #[])) d1 fun d2 => yaJ [b0, b3, b4] d1 d2 ∧
 yg2 pP (Instr.mapUpdate 99 (.map (some a7)) (.int .i64 6) (.func (.func 47) #[(.pointer (some ⟨b0, 0, none⟩))] #[])) d2 fun d3 => yaJ [b0, b3, b4] d2 d3 ∧
 yg2 pP (Instr.mapUpdate 99 (.map (some a7)) (.int .i64 7) (.func (.func 48) #[(.pointer (some ⟨b0, 0, none⟩))] #[])) d3 fun d4 => yaJ [b0, b3, b4] d3 d4 ∧
 yg2 pP (Instr.mapUpdate 99 (.map (some a7)) (.int .i64 8) (.func (.func 49) #[(.pointer (some ⟨b0, 0, none⟩))] #[])) d4 fun d5 => yaJ [b0, b3, b4] d4 d5 ∧
 yg2 pP (Instr.mapUpdate 99 (.map (some a7)) (.int .i64 9) (.func (.func 50) #[(.pointer (some ⟨b0, 0, none⟩))] #[])) d5 fun d6 => yaJ [b0, b3, b4] d5 d6 ∧
 yg2 pP (Instr.mapUpdate 99 (.map (some a7)) (.int .i64 10) (.func (.func 51) #[(.pointer (some ⟨b0, 0, none⟩))] #[])) d6 fun c2 => yaJ [b0, b3, b4] d6 c2 ∧
 brB (i2 == 2) (
 yaZ ydN ((ye2 395 [1, 0, 1, 0, 1, 1, 1]) (ye3 [1, 1, 1, 0, 1, 0] [] R)) (yfG ((some a7), i2, (i2 == 2), b0, i0, i1, q0, M0, q1, M1, q2, b3, i2, s0, i3, i4, i5, i6, i7, i8, q3, a6, a5, s1, s2, i9, B0, q4, a3, a2, b4)) c2)
 (
 brB (i2 == 3) (
 yaZ ydN ((ye2 395 [1, 0, 1, 0, 1, 1, 1]) (ye3 [1, 1, 1, 0, 1, 0] [] R)) (yfG ((some a7), i2, (i2 == 3), b0, i0, i1, q0, M0, q1, M1, q2, b3, i2, s0, i3, i4, i5, i6, i7, i8, q3, a6, a5, s1, s2, i9, B0, q4, a3, a2, b4)) c2)
 (
 brB (i2 == 4) (
 yaZ ydN ((ye2 395 [1, 0, 1, 0, 1, 1, 1]) (ye3 [1, 1, 1, 0, 1, 0] [] R)) (yfG ((some a7), i2, (i2 == 4), b0, i0, i1, q0, M0, q1, M1, q2, b3, i2, s0, i3, i4, i5, i6, i7, i8, q3, a6, a5, s1, s2, i9, B0, q4, a3, a2, b4)) c2)
 (
 brB (i2 == 5) (
 yaZ ydN ((ye2 395 [1, 0, 1, 0, 1, 1, 1]) (ye3 [1, 1, 1, 0, 1, 0] [] R)) (yfG ((some a7), i2, (i2 == 5), b0, i0, i1, q0, M0, q1, M1, q2, b3, i2, s0, i3, i4, i5, i6, i7, i8, q3, a6, a5, s1, s2, i9, B0, q4, a3, a2, b4)) c2)
 (
 yaZ ydN ((ye2 395 [1, 0, 1, 0, 1, 1, 1]) (ye3 [1, 1, 1, 0, 1, 0] [] R)) (yfG ((some a7), i2, (i2 == 11), b0, i0, i1, q0, M0, q1, M1, q2, b3, i2, s0, i3, i4, i5, i6, i7, i8, q3, a6, a5, s1, s2, i9, B0, q4, a3, a2, b4)) c2)))))) :
 CR pP 21 #[(.pointer (some ⟨b0, 0, none⟩)), (.agg (Z4 i2 s0 i3 i4 i5 i6 i7 i8 q3 a6 a5 s1 s2 i9 B0 q4 a3 a2))] w R :=
 yeP Tryz.wide_mixed (an := ylG) Tryz.func21 rfl rfl (by kernel_rfl) rfl hb (Eq.mpr (by kernel_rfl) h)
end
end Go.Proofs.YtkepmmocldnnfaaGreat
namespace Go.Proofs.YtkepmmocldnnfaaGreat
open Go Go.RowKit Go.Maps Go.MapKept
set_option linter.unusedVariables false
set_option linter.unusedSimpArgs false
abbrev hki : Int → Value := fun k => .int .i64 k
theorem ycC : ∀ a b : Int, hki a = hki b → a = b := by intro a b h; simpa [hki] using h
def s64 (n : Int) : Prop := -9223372036854775808 ≤ n ∧ n ≤ 9223372036854775807
theorem hfr {n : Int} (h : s64 n) : (Lit.int .i64 n).wf = true := by
 simp [Lit.wf, IntKind.min, IntKind.max, IntKind.signed, IntKind.bits]; exact h
theorem ygU : Keyed pP 3 := int_keyed Tryz.underlying3
theorem ycQ {k : Int} (h : s64 k) : keyOf pP 3 (hki k) = some (.int .i64 k) := keyOf_int_mk Tryz.underlying3 (hfr h)
theorem ydI {w : World} {b : Nat} {o : Obj} : Mod [b] w (Go.ChangeMaps.setBlock w b o) :=
 ⟨rfl, rfl, rfl, by simp [Go.ChangeMaps.setBlock], fun k hk hS => yc0 (by simpa using hS)⟩
structure BrT (w : World) (b : Nat) (room now : Int) (bg : Nat) : Prop where
 cells : ∃ p m q r, w.heap[b]? = some (.cells #[.int .i64 room, .int .i64 now, .pointer p, .map m, .pointer q, .map (some bg), .pointer r] 96)
 g : w.heap[bg]? = some (.map #[] 0)
theorem BrT.ne {w : World} {b bg : Nat} {room now : Int} (h : BrT w b room now bg) : b ≠ bg := by
 rintro rfl
 obtain ⟨p, m, q, r, hc⟩ := h.cells
 rw [h.g] at hc; cases hc
theorem BrT.lt {w : World} {b bg : Nat} {room now : Int} (h : BrT w b room now bg) : b < w.heap.size ∧ bg < w.heap.size := by
 obtain ⟨p, m, q, r, hc⟩ := h.cells
 exact ⟨ya5 hc, ya5 h.g⟩
theorem BrT.keep {w w' : World} {b bg : Nat} {room now : Int} {S : List Nat} (h : BrT w b room now bg) (M : Mod S w w') (h1 : b ∉ S) (h2 : bg ∉ S) : BrT w' b room now bg := by
 obtain ⟨p, m, q, r, hc⟩ := h.cells
 exact ⟨⟨p, m, q, r, M.keep hc h1⟩, M.keep h.g h2⟩
theorem BrT.keep0 {w w' : World} {b bg : Nat} {room now : Int} (h : BrT w b room now bg) (M : Mod [] w w') : BrT w' b room now bg := h.keep M (by simp) (by simp)
theorem yr0 (room : Int) (w : World) : Calls pP 60 #[.int .i64 room] w fun e w' => e = .returned (.bool (decide (1 ≤ room ∧ room ≤ 64))) ∧ w' = w := by
 refine ya7 (yuH ?_)
 refine yaP (fun g => ⟨congrArg Value.bool ?_, rfl⟩) fun g => ⟨congrArg Value.bool (decide_eq_false (by omega)).symm, rfl⟩
 exact decide_eq_decide.2 ⟨fun h => ⟨by omega, h⟩, fun h => h.2⟩
theorem yr1 (w : World) : Calls pP 61 #[.int .i64 0] w fun e w' => ∃ v, e = .returned v ∧ ∃ p, v = .tuple #[.pointer p, .int .i64 0] ∧ Mod [] w w' := by
 refine yuG ?_
 have ho : Calls pP 98 #[.int .i64 0] w fun e w' => e = .returned (.bool true) ∧ w' = w := by
  refine ya7 (yuF ?_)
  exact brT (by decide) ⟨congrArg Value.bool (by decide), rfl⟩
 refine ho.mono ?_
 rintro _ w1 ⟨rfl, rfl⟩
 refine ⟨_, rfl, brF rfl ?_⟩
 intro b6 f6 w7 A7 h7
 exact ⟨_, rfl, A7.mod⟩
theorem yr2 (room : Int) (w : World) : Calls pP 33 #[.int .i64 room] w fun e w' => ∃ v, e = .returned v ∧ ∃ p, v = .tuple #[.pointer p, .int .i64 (if 1 ≤ room ∧ room ≤ 64 then 0 else 1)] ∧ Mod [] w w' := by
 refine yuI ?_
 refine (yr0 room w).mono ?_
 rintro _ w1 ⟨rfl, rfl⟩
 refine ⟨_, rfl, ?_⟩
 by_cases g : 1 ≤ room ∧ room ≤ 64
 ·refine brF (by simp [g]) ?_
  refine (yr1 w1).mono ?_
  rintro _ w2 ⟨_, rfl, p, rfl, M2⟩
  refine ⟨_, _, rfl, ybM fun b14 w15 c15 M15 f15 => ?_⟩
  intro b16 f16 w17 A17 h17
  exact ⟨_, by rw [if_pos g], (M2.go0 M15 (by simp)).go0 A17.mod (by simp)⟩
 ·exact brT (by simp [g]) ⟨_, by rw [if_neg g], Mod.refl _⟩
theorem yr3 (w : World) : Calls pP 34 #[] w fun e w' => ∃ v, e = .returned v ∧ ∃ p, v = .pointer p ∧ Mod [] w w' := by
 refine yuJ ?_
 refine ybM fun b4 w5 c5 M5 f5 => ?_
 intro b6 f6 w7 A7 h7
 exact ⟨_, rfl, M5.go0 A7.mod (by simp)⟩
theorem yr4 (w : World) : Calls pP 35 #[] w fun e w' => ∃ v, e = .returned v ∧ ∃ p, v = .pointer p ∧ Mod [] w w' := by
 refine yuK ?_
 refine ybM fun b4 w5 c5 M5 f5 => ?_
 intro b6 f6 w7 A7 h7
 exact ⟨_, rfl, M5.go0 A7.mod (by simp)⟩
theorem yr5 (w : World) : Calls pP 36 #[] w fun e w' => ∃ v, e = .returned v ∧ ∃ p, v = .pointer p ∧ Mod [] w w' := by
 refine yuL ?_
 refine ybM fun b4 w5 c5 M5 f5 => ?_
 intro b6 f6 w7 A7 h7
 exact ⟨_, rfl, M5.go0 A7.mod (by simp)⟩
theorem yr6 (room : Int) (w : World) : Calls pP 20 #[.int .i64 room] w fun e w' => ∃ v, e = .returned v ∧ Mod [] w w' ∧
  if 1 ≤ room ∧ room ≤ 64 then ∃ b bg, v = .tuple #[.pointer (some ⟨b, 0, none⟩), .int .i64 0] ∧ w.heap.size ≤ b ∧ w.heap.size ≤ bg ∧ BrT w' b room 0 bg else v = .tuple #[.pointer none, .int .i64 1] := by
 refine yuM ?_
 refine (yr2 room w).mono ?_
 rintro _ w4 ⟨_, rfl, p, rfl, M4⟩
 refine ⟨_, _, rfl, ?_⟩
 by_cases g : 1 ≤ room ∧ room ≤ 64
 ·rw [if_pos g]
  refine brF rfl ?_
  refine (yr3 w4).mono ?_
  rintro _ w18 ⟨_, rfl, p19, rfl, M18⟩
  refine ⟨_, rfl, ybM fun b20 w21 c21 M21 f21 => ?_⟩
  refine (yr4 w21).mono ?_
  rintro _ w22 ⟨_, rfl, p23, rfl, M22⟩
  refine ⟨_, rfl, ybM fun b24 w25 c25 M25 f25 => ?_⟩
  refine (yr5 w25).mono ?_
  rintro _ w26 ⟨_, rfl, p27, rfl, M26⟩
  refine ⟨_, rfl, ?_⟩
  intro b28 f28 w29 A29 h29
  have N := ((((M4.go0 M18 (by simp)).go0 M21 (by simp)).go0 M22 (by simp)).go0 M25 (by simp)).go0 M26 (by simp)
  have s4 := M4.size
  have s18 := M18.size
  have s21 := M21.size
  have s22 := M22.size
  have sN := N.size
  refine ⟨N.go0 A29.mod (by simp), ?_⟩
  rw [if_pos g]
  exact ⟨b28, b24, rfl, by omega, by omega, ⟨_, _, _, _, h29⟩, (M26.go0 A29.mod (by simp)).keep0 c25⟩
 ·rw [if_neg g]
  refine brT rfl ⟨M4, ?_⟩
  rw [if_neg g]
theorem yp4 {w : World} {b bg : Nat} {room now : Int} (h : BrT w b room now bg) {o : POp} {rs ts : Sl} (h1 : 0 ≤ now) (h2 : 0 ≤ o.n) (h3 : now + o.n ≤ 1099511627776) :
  Calls pP 41 #[.pointer (some ⟨b, 0, none⟩), o.v rs ts] w fun e w' => e = .returned ((⟨0, now + o.n, 0, 0, [], []⟩ : PRep).v yeQ yeQ) ∧ Mod [b] w w' ∧ BrT w' b room (now + o.n) bg := by
 obtain ⟨p, m, q, r, hc⟩ := h.cells
 have hne := h.ne
 have hlt := h.lt
 have e : IntKind.wrap .i64 (now + o.n) = now + o.n := yaW (by omega) (by omega)
 refine ya7 (yuQ hc ?_)
 intro b3 f3 b4 f4
 rw [e]
 refine brF (by simp; omega) ?_
 intro w33 A33
 have M33 : Mod [b] w w33 := A33.mod
 have g33 : w33.heap[bg]? = some (.map #[] 0) := M33.keep h.g (by simp; exact fun e => hne e.symm)
 have hM : ybT pP 9 (fun s : ByteArray => Value.string s) (fun n : Nat => Value.pointer (some ⟨n, 0, none⟩)) w33 bg [] := ybT.of_new g33
 obtain ⟨w35, h35, M35, I35⟩ := ycF.start (T := 92) hM Tryz.underlying92
 refine ⟨_, w35, h35, yaJ.of0 M35, ?_⟩
 have s33 := M33.size
 have N35 : Mod [b] w w35 := (M33.trans M35).less (by simp)
 refine yoI (fun mm x w' => x = 0 ∧ w' = w35 ∧ mm = 0) 0 ⟨rfl, rfl, rfl⟩ ?_
 rintro mm x w' ⟨rfl, rfl, rfl⟩
 rcases I35.step (ty := 0) (fun a b h => by simpa using h) with ⟨_, hs⟩ | ⟨q, hq, _⟩
 ·refine .inl ⟨_, hs, fun _ _ _ _ _ => rfl, ?_⟩
  intro w42 A42 h42
  have N42 : Mod [b] w w42 := (N35.trans A42.mod).less fun k hk hl => by
   simp at hk ⊢
   rcases hk with hk | hk <;> omega
  refine ⟨rfl, N42, ⟨_, _, _, _, h42⟩, N42.keep h.g (by simp; exact fun e => hne e.symm)⟩
 ·cases hq
theorem ye4 {w : World} {bm : Nat} {L : List (Int × Value)} {k : Int} {v : Value} {bs : List Nat} {F : World → Prop} (h : ybT pP 3 hki (fun v : Value => v) w bm L) (hk : s64 k) (hbs : ∀ b ∈ bs, b ≠ bm)
  (hF : ∀ w', ybT pP 3 hki (fun v : Value => v) w' bm (put L k v) → Mod [bm] w w' → F w') : yg2 pP (Instr.mapUpdate 99 (.map (some bm)) (.int .i64 k) v) w fun w' => yaJ bs w w' ∧ F w' := by
 obtain ⟨o, ho1, ho2⟩ := h.update ygU ycC Tryz.underlying99 v (ycQ hk)
 exact ⟨_, ho1, yaJ.of ydI (fun b hb _ hc => hbs b hb (by simpa using hc)), hF _ ho2 ydI⟩
theorem yuS (w : World) : (zeroValue 64).run pP w = .ok (.nilFunc) w := by kernel_rfl
set_option maxHeartbeats 1000000 in
theorem yuT {w : World} {b bg : Nat} {room now : Int} (h : BrT w b room now bg) {o : POp} {rs ts : Sl} (hO : OpAt w o rs ts) (hk : o.kind = 12) (hE : opE o = 0) (h1 : 0 ≤ now) (h2 : 0 ≤ o.n) (h3 : now + o.n ≤ 1099511627776) :
  Calls pP 21 #[.pointer (some ⟨b, 0, none⟩), o.v rs ts] w fun e w' => e = .returned ((⟨0, now + o.n, 0, 0, [], []⟩ : PRep).v yeQ yeQ) ∧ Mod [b] w w' ∧ BrT w' b room (now + o.n) bg := by
 obtain ⟨p, m, q, r, hc⟩ := h.cells
 have hne := h.ne
 have hlt := h.lt
 refine ya7 (yuR hc ?_)
 intro b3 f3 b4 f4 w8 A8
 have l3 := A8.lt b3 (by simp)
 have l4 := A8.lt b4 (by simp)
 refine (yp1 (hO.keep0 A8.mod)).mono ?_
 rintro _ w9 ⟨rfl, M9⟩
 have s9 := M9.size
 have N9 : Mod [] w w9 := A8.mod.go0 M9 (by simp)
 have sN := N9.size
 refine ⟨_, rfl, yaJ.of0 M9, brF (by rw [hE]; rfl) ?_⟩
 refine ybM fun b50 w51 c51 M51 f51 => ?_
 intro w52 A52 h52
 have N52 : Mod [] w w52 := (N9.go0 M51 (by simp)).go0 A52.mod (by simp)
 have hbs : ∀ i ∈ [b, b3, b4], i ≠ b50 := fun i hi => by simp at hi; omega
 refine ye4 (ybT.of_new (A52.mod.keep0 c51)) (by unfold s64; omega) hbs fun w53 H53 M53 => ?_
 refine ye4 H53 (by unfold s64; omega) hbs fun w54 H54 M54 => ?_
 refine ye4 H54 (by unfold s64; omega) hbs fun w55 H55 M55 => ?_
 refine ye4 H55 (by unfold s64; omega) hbs fun w56 H56 M56 => ?_
 refine ye4 H56 (by unfold s64; omega) hbs fun w57 H57 M57 => ?_
 refine ye4 H57 (by unfold s64; omega) hbs fun w58 H58 M58 => ?_
 refine ye4 H58 (by unfold s64; omega) hbs fun w59 H59 M59 => ?_
 refine ye4 H59 (by unfold s64; omega) hbs fun w60 H60 M60 => ?_
 refine ye4 H60 (by unfold s64; omega) hbs fun w61 H61 M61 => ?_
 refine ye4 H61 (by unfold s64; omega) hbs fun w62 H62 M62 => ?_
 refine ye4 H62 (by unfold s64; omega) hbs fun w63 H63 M63 => ?_
 refine ye4 H63 (by unfold s64; omega) hbs fun w64 H64 M64 => ?_
 refine ye4 H64 (by unfold s64; omega) hbs fun w65 H65 M65 => ?_
 have K65 : Mod [b50] w52 w65 := ((((((((((((M53.trans M54).trans M55).trans M56).trans M57).trans M58).trans M59).trans M60).trans M61).trans M62).trans M63).trans M64).trans M65).less (by simp)
 have N65 : Mod [] w w65 := N52.go0 K65 (by simp; omega)
 clear H53 H54 H55 H56 H57 H58 H59 H60 H61 H62 H63 H64
 refine brF (by rw [hk]; rfl) (brF (by rw [hk]; rfl) (brF (by rw [hk]; rfl) (brF (by rw [hk]; rfl) ?_)))
 refine yrY ?_
 intro _
 refine brF (by rw [hk]; rfl) (brF (by rw [hk]; rfl) (brF (by rw [hk]; rfl) (brF (by rw [hk]; rfl) ?_)))
 refine yrZ ?_
 intro _
 refine brF (by rw [hk]; rfl) ?_
 refine ⟨some ⟨b, 0, none⟩, .func (.func 41) #[.pointer (some ⟨b, 0, none⟩)] #[], fun w' M => ?_, rfl, ?_⟩
 ·have := (H65.of_block (M.block _ H65.lt (by simp))).look (T := 99) false ygU ycC Tryz.underlying99 (yuS w') (ycQ (k := o.kind) (by rw [hk]; unfold s64; omega))
  refine this.trans ?_
  rw [hk]
  rfl
 have h65 := h.keep0 N65
 refine (yp4 (o := o) (rs := rs) (ts := ts) h65 h1 h2 h3).mono ?_
 rintro _ w259 ⟨rfl, M259, h259⟩
 refine ⟨_, _, _, _, _, _, _, _, _, _, rfl, yaJ.of M259 (fun i hi _ hc => by simp at hi hc; omega), ?_⟩
 obtain ⟨p', m', q', r', hc'⟩ := h259.cells
 refine ⟨_, _, _, _, _, _, _, hc', ?_⟩
 intro w277 A277 h277
 have sK := N65.size
 have N : Mod [b] w w277 := ((N65.trans M259).trans A277.mod).less fun k hk hl => by
  simp at hk ⊢
  omega
 exact ⟨rfl, N, ⟨_, _, _, _, h277⟩, N.keep h.g (by simp; exact fun e => hne e.symm)⟩
end Go.Proofs.YtkepmmocldnnfaaGreat
namespace Go.Proofs.YtkepmmocldnnfaaGreat
open Go Go.RowKit
set_option linter.all false
section
set_option maxRecDepth 100000
variable {R : VWP} {w w0 : World} {m : Nat} {i0 i1 i2 i3 i4 i5 i6 i7 i8 i9 j0 j1 j2 j3 j4 j5 j6 j7 j8 j9 k0 k1 k2 k3 k4 k5 k6 k7 k8 k9 l0 l1 l2 l3 l4 l5 l6 l7 l8 l9 : Int} {s0 s1 s2 s3 s4 s5 s6 s7 s8 s9 t0 t1 t2 t3 t4 t5 t6 t7 t8 t9 : BA} {n0 n1 n2 n3 n4 n5 n6 n7 n8 n9 o0 o1 o2 o3 o4 o5 o6 o7 o8 o9 p0 p1 p2 p3 p4 p5 p6 p7 p8 p9 : Nat} {q0 q1 q2 q3 q4 q5 q6 q7 q8 q9 r0 r1 r2 r3 r4 r5 r6 r7 r8 r9 : OA} {B0 B1 B2 B3 B4 B5 B6 B7 B8 B9 : Bool} {M0 M1 M2 M3 : Option Nat} {V0 V1 V2 V3 V4 V5 : Value} {A0 A1 A2 : Addr}
def ykJ : LA := ⟨[0, 0, 1, 0, 1, 1, 1, 1], [6, 8, 18, 19, 20], [], 0, []⟩
def ylH : List LA := [ykJ]
abbrev yuU := dnF pP ylH (code Tryz.f8)
abbrev yxC := ybE pP ylH (code Tryz.f8)
abbrev yuV (p : List Nat) (K : List Kh) (R : VWP) := ybE pP ylH (code Tryz.f8) p K (ycT pP Tryz.f8 [] R)
def yhT (a8 a0 : OA) (a2 a1 : Nat) (a3 : Int) : (Option Addr) × Nat × Nat × Int → List Value × List TB := fun (a5, a7, a6, a4) => ([.pointer a8, .slice a5 a7 a6, .slice a0 a2 a1, .int .i64 a3, .int .i64 a4], [])
abbrev yq3 (a4 a0 : OA) (a2 a1 : Nat) (a3 : Int) (I : Nat → Option Addr → Nat → Nat → Int → World → Prop) (m : Nat) : Kh := KG (yhT a4 a0 a2 a1 a3) (U4 I) m
theorem yoJ {I : Nat → Option Addr → Nat → Nat → Int → World → Prop} (m' : Nat) (h1 : m' < m) (h2 : I m' q2 n2 n3 i1 w) : KS (yq3 q0 q1 n0 n1 i0 I m) (yhT q0 q1 n0 n1 i0 (q2, n2, n3, i1)) w := ⟨m', h1, _, rfl, rfl, h2⟩
theorem yoK (I : Nat → Option Addr → Nat → Nat → Int → World → Prop) (m0 : Nat) (h0 : I m0 q2 n2 n3 i1 w0)
 (hr : ∀ m a6 a8 a7 a1 w, I m a6 a8 a7 a1 w →
 brB (decide (a1 < i0)) (
 ixA q1 n0 a1 16 fun a0 =>
 yaA .i64 w a0 fun f1 => yaA .i64 w (Addr.add a0 1) fun f2 => yaA .i64 w (Addr.add a0 2) fun e3 => yaC w (Addr.add a0 3) fun d9 => yaA .i64 w (Addr.add a0 4) fun e4 => yaA .i64 w (Addr.add a0 5) fun e5 => yaA .i64 w (Addr.add a0 6) fun e6 => yaA .i64 w (Addr.add a0 7) fun e7 => yaA .i64 w (Addr.add a0 8) fun e8 => yaA .i64 w (Addr.add a0 9) fun e9 => yaB w (Addr.add a0 10) fun c9 d6 d3 => yaC w (Addr.add a0 11) fun e0 => yaC w (Addr.add a0 12) fun e1 => yaA .i64 w (Addr.add a0 13) fun f0 => yaG w (Addr.add a0 14) fun e2 => yaB w (Addr.add a0 15) fun d0 d7 d4 =>
 ∀ b0, w.heap.size ≤ b0 →
 ∀ b5, Adv [] [b0] w b5 →
 Calls pP 21 #[.pointer q0, (.agg (Z4 e3 d9 e4 e5 e6 e7 e8 e9 c9 d6 d3 e0 e1 f0 e2 d0 d7 d4))] b5 fun e c2 => ∃ c5 c6 c7 c8 b6 c0 b8 b7 c1 b9, e = .returned (.agg (Z3 c5 c6 c7 c8 b6 c0 b8 b7 c1 b9)) ∧ yaJ [b0] b5 c2 ∧
 al c2 (.cells (Z3 c5 c6 c7 c8 b6 c0 b8 b7 c1 b9) 44) fun d2 c3 =>
 ydJ pP (Builtin.append_ #[36, 36] 36 #[.slice a6 a8 a7, (.slice (some ⟨d2, 0, none⟩) 1 1)]) c3 fun d1 d8 d5 c4 => yaJ [b0] c3 c4 ∧
 KS (yq3 q0 q1 n0 n1 i0 I m) (yhT q0 q1 n0 n1 i0 (d1, d8, d5, (IntKind.wrap .i64 (a1 + 1)))) c4)
 (
 R (.tuple #[.slice a6 a8 a7, .int .i64 0]) w)) :
 ybC ykJ (yuU 394 [0, 0, 1, 0, 1, 1, 1, 1]) (yuV [1, 1, 1, 1, 0, 1, 0] [] R) (yhT q0 q1 n0 n1 i0 (q2, n2, n3, i1)) w0 :=
 lrule (yhT q0 q1 n0 n1 i0) (U4 I) h0 (by rintro m ⟨a6, a8, a7, a1⟩ w h; exact ⟨by kernel_rfl, by kernel_rfl, fun js => Eq.mpr (by kernel_rfl) (hr m a6 a8 a7 a1 w h)⟩)
theorem yuW {a0 a2 : Nat} (h :
 Calls pP 20 #[.int .i64 i0] w fun e w4 => ∃ p5 x6, e = .returned (.tuple #[.pointer p5, .int .i64 x6]) ∧
 brB (x6 != 0) (
 R (.tuple #[.slice none 0 0, .int .i64 1]) w4)
 (
 ybC ykJ (yuU 394 [0, 0, 1, 0, 1, 1, 1, 1]) (yuV [1, 1, 1, 1, 0, 1, 0] [] R) (yhT p5 q0 a0 a2 (a0 : Int) (none, 0, 0, 0)) w4)) :
 CR pP 8 #[.int .i64 i0, .slice q0 a0 a2] w R :=
 yaD Tryz.wide_mixed (an := ylH) Tryz.func8 rfl rfl (by kernel_rfl) rfl (Eq.mpr (by kernel_rfl) h)
end
section
set_option maxRecDepth 100000
variable {R : VWP} {w w0 : World} {m : Nat} {i0 i1 i2 i3 i4 i5 i6 i7 i8 i9 j0 j1 j2 j3 j4 j5 j6 j7 j8 j9 k0 k1 k2 k3 k4 k5 k6 k7 k8 k9 l0 l1 l2 l3 l4 l5 l6 l7 l8 l9 : Int} {s0 s1 s2 s3 s4 s5 s6 s7 s8 s9 t0 t1 t2 t3 t4 t5 t6 t7 t8 t9 : BA} {n0 n1 n2 n3 n4 n5 n6 n7 n8 n9 o0 o1 o2 o3 o4 o5 o6 o7 o8 o9 p0 p1 p2 p3 p4 p5 p6 p7 p8 p9 : Nat} {q0 q1 q2 q3 q4 q5 q6 q7 q8 q9 r0 r1 r2 r3 r4 r5 r6 r7 r8 r9 : OA} {B0 B1 B2 B3 B4 B5 B6 B7 B8 B9 : Bool} {M0 M1 M2 M3 : Option Nat} {V0 V1 V2 V3 V4 V5 : Value} {A0 A1 A2 : Addr}
def ykK : LA := ⟨[0, 0, 1, 0, 1, 1], [3, 9, 10, 11], [], 0, []⟩
def ylI : List LA := [ykK]
abbrev yuX := dnF pP ylI (code Tryz.f13)
abbrev yxD := ybE pP ylI (code Tryz.f13)
abbrev yuY (p : List Nat) (K : List Kh) (R : VWP) := ybE pP ylI (code Tryz.f13) p K (ycT pP Tryz.f13 [] R)
def yfH (a4 : Option Nat) (a2 : OA) (a5 a3 : Nat) (a0 : Int) : Int → List Value × List TB := fun a1 => ([(.map a4), .slice a2 a5 a3, .int .i64 a0, .int .i64 a1], [])
abbrev ylJ (a3 : Option Nat) (a1 : OA) (a4 a2 : Nat) (a0 : Int) (I : Nat → Int → World → Prop) (m : Nat) : Kh := KG (yfH a3 a1 a4 a2 a0) (U1 I) m
theorem yoL {I : Nat → Int → World → Prop} (m' : Nat) (h1 : m' < m) (h2 : I m' i1 w) : KS (ylJ M0 q0 n0 n1 i0 I m) (yfH M0 q0 n0 n1 i0 i1) w := ⟨m', h1, _, rfl, rfl, h2⟩
theorem yoM (I : Nat → Int → World → Prop) (m0 : Nat) (h0 : I m0 i1 w0)
 (hr : ∀ m a2 w, I m a2 w →
 brB (decide (a2 < i0)) (
 ixA q0 n0 a2 16 fun a0 =>
 yaA .i64 w a0 fun b0 => yaA .i64 w (Addr.add a0 1) fun b1 => yaA .i64 w (Addr.add a0 2) fun c6 => yaC w (Addr.add a0 3) fun c2 => yaA .i64 w (Addr.add a0 4) fun c7 => yaA .i64 w (Addr.add a0 5) fun c8 => yaA .i64 w (Addr.add a0 6) fun c9 => yaA .i64 w (Addr.add a0 7) fun d0 => yaA .i64 w (Addr.add a0 8) fun d1 => yaA .i64 w (Addr.add a0 9) fun d2 => yaB w (Addr.add a0 10) fun b6 c0 b8 => yaC w (Addr.add a0 11) fun c3 => yaC w (Addr.add a0 12) fun c4 => yaA .i64 w (Addr.add a0 13) fun d3 => yaG w (Addr.add a0 14) fun c5 => yaB w (Addr.add a0 15) fun b7 c1 b9 =>
 ∀ a8, w.heap.size ≤ a8 →
 ∀ a6, Adv [] [a8] w a6 →
 ∃ b5 b2, (∀ w', Mod [] a6 w' → (Instr.lookup 78 (.map M0) (.int .i64 b0) true).run pP w' = .ok (.tuple #[.int .i64 b5, .bool b2]) w') ∧
 brB b2 (
 brB (decide (b1 ≤ b5)) (
 R (.bool false) a6)
 (
 yg2 pP (Instr.mapUpdate 78 (.map M0) (.int .i64 b0) (.int .i64 b1)) a6 fun b3 => yaJ [a8] a6 b3 ∧
 KS (ylJ M0 q0 n0 n1 i0 I m) (yfH M0 q0 n0 n1 i0 (IntKind.wrap .i64 (a2 + 1))) b3))
 (
 yg2 pP (Instr.mapUpdate 78 (.map M0) (.int .i64 b0) (.int .i64 b1)) a6 fun b4 => yaJ [a8] a6 b4 ∧
 KS (ylJ M0 q0 n0 n1 i0 I m) (yfH M0 q0 n0 n1 i0 (IntKind.wrap .i64 (a2 + 1))) b4))
 (
 R (.bool true) w)) :
 ybC ykK (yuX 396 [0, 0, 1, 0, 1, 1]) (yuY [1, 1, 0, 1, 0] [] R) (yfH M0 q0 n0 n1 i0 i1) w0 :=
 lrule (yfH M0 q0 n0 n1 i0) (U1 I) h0 (by rintro m a2 w h; exact ⟨by kernel_rfl, by kernel_rfl, fun js => Eq.mpr (by kernel_rfl) (hr m a2 w h)⟩)
theorem yuZ (h :
 al w (.map #[] 0) fun b3 w4 =>
 ybC ykK (yuX 396 [0, 0, 1, 0, 1, 1]) (yuY [1, 1, 0, 1, 0] [] R) (yfH (some b3) q0 n0 n1 (n0 : Int) 0) w4) :
 CR pP 13 #[.slice q0 n0 n1] w R :=
 yaD Tryz.wide_mixed (an := ylI) Tryz.func13 rfl rfl (by kernel_rfl) rfl (Eq.mpr (by kernel_rfl) h)
end
section
set_option maxRecDepth 100000
variable {R : VWP} {w w0 : World} {m : Nat} {i0 i1 i2 i3 i4 i5 i6 i7 i8 i9 j0 j1 j2 j3 j4 j5 j6 j7 j8 j9 k0 k1 k2 k3 k4 k5 k6 k7 k8 k9 l0 l1 l2 l3 l4 l5 l6 l7 l8 l9 : Int} {s0 s1 s2 s3 s4 s5 s6 s7 s8 s9 t0 t1 t2 t3 t4 t5 t6 t7 t8 t9 : BA} {n0 n1 n2 n3 n4 n5 n6 n7 n8 n9 o0 o1 o2 o3 o4 o5 o6 o7 o8 o9 p0 p1 p2 p3 p4 p5 p6 p7 p8 p9 : Nat} {q0 q1 q2 q3 q4 q5 q6 q7 q8 q9 r0 r1 r2 r3 r4 r5 r6 r7 r8 r9 : OA} {B0 B1 B2 B3 B4 B5 B6 B7 B8 B9 : Bool} {M0 M1 M2 M3 : Option Nat} {V0 V1 V2 V3 V4 V5 : Value} {A0 A1 A2 : Addr}
theorem yu0 (h :
 ∀ b3, w.heap.size ≤ b3 →
 ∀ b4, w.heap.size ≤ b4 →
 ∀ a4, Adv [] [b4, b3] w a4 → a4.heap[b3]? = some (.cells #[.int .i64 i0] 3) →
 a4.heap[b4]? = some (.cells #[.int .i64 i1] 3) →
 Calls pP 29 #[.slice q0 n0 n1, (.func (.func 30) #[] #[(.pointer (some ⟨b3, 0, none⟩)), (.pointer (some ⟨b4, 0, none⟩))])] a4 fun e a6 => ∃ a7, e = .returned (.int .i64 a7) ∧ ∃ a8, a6.heap[b3]? = some (.cells #[.int .i64 a8] 3) ∧ ∃ a9, a6.heap[b4]? = some (.cells #[.int .i64 a9] 3) ∧
 R (.int .i64 a7) a6) :
 CR pP 17 #[.slice q0 n0 n1, .int .i64 i0, .int .i64 i1] w R :=
 yaD Tryz.wide_mixed (an := []) Tryz.func17 rfl rfl (by kernel_rfl) rfl (Eq.mpr (by kernel_rfl) h)
theorem yu1 (h :
 ∀ b2, w.heap.size ≤ b2 →
 ∀ w6, Adv [] [b2] w w6 →
 yaA .i64 w6 A0 fun x7 =>
 brB (i0 == x7) (
 yaA .i64 w6 A1 fun x8 =>
 R (.bool (i1 == x8)) w6)
 (
 R (.bool false) w6)) :
 CR pP 30 #[(.agg (Z0 i0 i1 i2 s0 i3 i4 i5 i6 i7 i8 q0 n0 n1 s1 s2 i9 B0 q1 n2 n3)), (.pointer (some A0)), (.pointer (some A1))] w R :=
 yaD Tryz.wide_mixed (an := []) Tryz.func30 rfl rfl (by kernel_rfl) rfl (Eq.mpr (by kernel_rfl) h)
end
section
set_option maxRecDepth 100000
variable {R : VWP} {w w0 : World} {m : Nat} {i0 i1 i2 i3 i4 i5 i6 i7 i8 i9 j0 j1 j2 j3 j4 j5 j6 j7 j8 j9 k0 k1 k2 k3 k4 k5 k6 k7 k8 k9 l0 l1 l2 l3 l4 l5 l6 l7 l8 l9 : Int} {s0 s1 s2 s3 s4 s5 s6 s7 s8 s9 t0 t1 t2 t3 t4 t5 t6 t7 t8 t9 : BA} {n0 n1 n2 n3 n4 n5 n6 n7 n8 n9 o0 o1 o2 o3 o4 o5 o6 o7 o8 o9 p0 p1 p2 p3 p4 p5 p6 p7 p8 p9 : Nat} {q0 q1 q2 q3 q4 q5 q6 q7 q8 q9 r0 r1 r2 r3 r4 r5 r6 r7 r8 r9 : OA} {B0 B1 B2 B3 B4 B5 B6 B7 B8 B9 : Bool} {M0 M1 M2 M3 : Option Nat} {V0 V1 V2 V3 V4 V5 : Value} {A0 A1 A2 : Addr}
def ykL : LA := ⟨[0, 0, 1, 0, 1], [0, 1, 7, 8], [], 0, []⟩
def ylK : List LA := [ykL]
abbrev yu2 := dnF pP ylK (code Tryz.f29)
abbrev yxE := ybE pP ylK (code Tryz.f29)
abbrev yu3 (p : List Nat) (K : List Kh) (R : VWP) := ybE pP ylK (code Tryz.f29) p K (ycT pP Tryz.f29 [] R)
def yhU (a2 : OA) (a4 a3 : Nat) (a0 : Addr) (a1 : Addr) (a5 : Int) : Int → List Value × List TB := fun a6 => ([.slice a2 a4 a3, (.func (.func 30) #[] #[(.pointer (some a0)), (.pointer (some a1))]), .int .i64 a5, .int .i64 a6], [])
abbrev yq4 (a2 : OA) (a4 a3 : Nat) (a0 : Addr) (a1 : Addr) (a5 : Int) (I : Nat → Int → World → Prop) (m : Nat) : Kh := KG (yhU a2 a4 a3 a0 a1 a5) (U1 I) m
theorem yoN {I : Nat → Int → World → Prop} (m' : Nat) (h1 : m' < m) (h2 : I m' i1 w) : KS (yq4 q0 n0 n1 A0 A1 i0 I m) (yhU q0 n0 n1 A0 A1 i0 i1) w := ⟨m', h1, _, rfl, rfl, h2⟩
theorem yoO (I : Nat → Int → World → Prop) (m0 : Nat) (h0 : I m0 i1 w0)
 (hr : ∀ m a3 w, I m a3 w →
 brB (decide (a3 < i0)) (
 ixA q0 n0 a3 16 fun a0 =>
 yaA .i64 w a0 fun c1 => yaA .i64 w (Addr.add a0 1) fun c2 => yaA .i64 w (Addr.add a0 2) fun c3 => yaC w (Addr.add a0 3) fun b7 => yaA .i64 w (Addr.add a0 4) fun c4 => yaA .i64 w (Addr.add a0 5) fun c5 => yaA .i64 w (Addr.add a0 6) fun c6 => yaA .i64 w (Addr.add a0 7) fun c7 => yaA .i64 w (Addr.add a0 8) fun c8 => yaA .i64 w (Addr.add a0 9) fun c9 => yaB w (Addr.add a0 10) fun b1 b5 b3 => yaC w (Addr.add a0 11) fun b8 => yaC w (Addr.add a0 12) fun b9 => yaA .i64 w (Addr.add a0 13) fun d0 => yaG w (Addr.add a0 14) fun c0 => yaB w (Addr.add a0 15) fun b2 b6 b4 =>
 Calls pP 30 #[(.agg (Z0 c1 c2 c3 b7 c4 c5 c6 c7 c8 c9 b1 b5 b3 b8 b9 d0 c0 b2 b6 b4)), (.pointer (some A0)), (.pointer (some A1))] w fun e b0 => ∃ a9, e = .returned (.bool a9) ∧
 brB a9 (
 R (.int .i64 a3) b0)
 (
 KS (yq4 q0 n0 n1 A0 A1 i0 I m) (yhU q0 n0 n1 A0 A1 i0 (IntKind.wrap .i64 (a3 + 1))) b0))
 (
 R (.int .i64 (-1)) w)) :
 ybC ykL (yu2 397 [0, 0, 1, 0, 1]) (yu3 [1, 0, 1, 0] [] R) (yhU q0 n0 n1 A0 A1 i0 i1) w0 :=
 lrule (yhU q0 n0 n1 A0 A1 i0) (U1 I) h0 (by rintro m a3 w h; exact ⟨by kernel_rfl, by kernel_rfl, fun js => Eq.mpr (by kernel_rfl) (hr m a3 w h)⟩)
theorem yu4 (h :
 ybC ykL (yu2 397 [0, 0, 1, 0, 1]) (yu3 [1, 0, 1, 0] [] R) (yhU q0 n0 n1 A0 A1 (n0 : Int) 0) w) :
 CR pP 29 #[.slice q0 n0 n1, (.func (.func 30) #[] #[(.pointer (some A0)), (.pointer (some A1))])] w R :=
 yaD Tryz.wide_mixed (an := ylK) Tryz.func29 rfl rfl (by kernel_rfl) rfl (Eq.mpr (by kernel_rfl) h)
end
end Go.Proofs.YtkepmmocldnnfaaGreat
namespace Go.Proofs.YtkepmmocldnnfaaGreat
open Go Go.RowKit Go.Maps Go.MapKept
set_option linter.unusedVariables false
set_option linter.unusedSimpArgs false
def isC (c n : Int) (q : PCall) : Bool := decide (q.c = c ∧ q.n = n)
def yb2 (l : List PCall) (c n : Int) : Int := match l.findIdx? (isC c n) with
 | some i => i
 | none => -1
theorem yjH {l : List PCall} {c n : Int} {k : Nat} {q : PCall} (hk : l[k]? = some q) (hq : isC c n q = true) (hb : ∀ x ∈ l.take k, isC c n x = false) : yb2 l c n = k := by
 have : l.findIdx? (isC c n) = some k := by
  obtain ⟨hl, he⟩ := List.getElem?_eq_some_iff.1 hk
  refine List.findIdx?_eq_some_iff_getElem.2 ⟨hl, by rw [he]; exact hq, fun j hj => ?_⟩
  have hm : l[j]'(by omega) ∈ l.take k := List.mem_iff_getElem?.2 ⟨j, by rw [List.getElem?_take, if_pos hj]; exact List.getElem?_eq_getElem _⟩
  simp [hb _ hm]
 simp [yb2, this]
theorem ykM {l : List PCall} {c n : Int} (hb : ∀ x ∈ l, isC c n x = false) : yb2 l c n = -1 := by
 have : l.findIdx? (isC c n) = none := List.findIdx?_eq_none_iff.2 hb
 simp [yb2, this]
theorem ywF {w : World} {q : CV} {c n : Int} {a0 a1 : Addr} (h0 : ∀ w', Mod [] w w' → w'.cell? a0 = some (.int .i64 c)) (h1 : ∀ w', Mod [] w w' → w'.cell? a1 = some (.int .i64 n)) :
  Calls pP 30 #[q.v, .pointer (some a0), .pointer (some a1)] w fun e w' => e = .returned (.bool (isC c n q.x)) ∧ Mod [] w w' := by
 refine ya7 (yu1 ?_)
 intro b2 f2 w6 A6
 refine yaF (h0 _ A6.mod) ?_
 refine yaH (fun g => ?_) fun g => ?_
 ·refine yaF (h1 _ A6.mod) ⟨congrArg Value.bool ?_, A6.mod⟩
  have g : q.x.c = c := by simpa using g
  rw [Bool.eq_iff_iff]; simp [isC, g]
 ·have g : ¬ q.x.c = c := by simpa using g
  exact ⟨congrArg Value.bool (by simp [isC, g]), A6.mod⟩
theorem ywG {α : Type} {l : List α} {k : Nat} {q : α} (h : l[k]? = some q) : l.take (k + 1) = l.take k ++ [q] := by rw [List.take_add_one, h]; rfl
theorem yr7 {w : World} {s : Sl} {ll : List CV} {c n : Int} {a0 a1 : Addr} (hS : ybU w 16 CV.cs s.a s.n ll) (hl : ll.length ≤ 1000000) (h0 : ∀ w', Mod [] w w' → w'.cell? a0 = some (.int .i64 c)) (h1 : ∀ w', Mod [] w w' → w'.cell? a1 = some (.int .i64 n)) :
  Calls pP 29 #[.slice s.a s.n s.c, .func (.func 30) #[] #[.pointer (some a0), .pointer (some a1)]] w fun e w' => e = .returned (.int .i64 (yb2 (ll.map (·.x)) c n)) ∧ Mod [] w w' := by
 have hn := hS.1
 refine ya7 (yu4 ?_)
 refine yoO (fun mm x w' => ∃ k : Nat, x = k ∧ k ≤ ll.length ∧ (∀ y ∈ (ll.map (·.x)).take k, isC c n y = false) ∧ Mod [] w w' ∧ mm = ll.length - k) ll.length ⟨0, rfl, by omega, by simp, Mod.refl _, rfl⟩ ?_
 rintro mm x w1 ⟨k, rfl, hk, hb, M1, rfl⟩
 refine yaP (fun hlt => ?_) fun hge => ?_
 ·obtain ⟨q, hq⟩ : ∃ q, ll[k]? = some q := ⟨_, List.getElem?_eq_getElem (by omega)⟩
  have hq' : (ll.map (·.x))[k]? = some q.x := by simp [hq]
  refine (hS.keep0 M1).ix hq fun ad had => yaI had ?_
  refine (ywF (q := q) (c := c) (n := n) (fun w' M => h0 w' (M1.go0 M (by simp))) (fun w' M => h1 w' (M1.go0 M (by simp)))).mono ?_
  rintro _ w2 ⟨rfl, M2⟩
  have N2 := M1.go0 M2 (by simp)
  refine ⟨_, rfl, yaH (fun g => ⟨?_, N2⟩) fun g => ?_⟩
  ·rw [yjH hq' g hb]
  ·refine yoN (ll.length - (k + 1)) (by omega) ⟨k + 1, by rw [yaW (by omega) (by omega)]; omega, by omega, ?_, N2, rfl⟩
   rw [ywG hq']
   intro y hy
   rcases List.mem_append.1 hy with hy | hy
   ·exact hb y hy
   ·simp at hy; rw [hy]; exact g
 ·have hk : k = ll.length := by omega
  subst hk
  refine ⟨?_, M1⟩
  rw [ykM]
  intro y hy
  exact hb y (by rw [List.take_of_length_le (by simp)]; exact hy)
theorem yiJ {w : World} {s : Sl} {xs : List PCall} (h : ya8 w s xs) (hl : xs.length ≤ 1000000) (c n : Int) :
  Calls pP 17 #[.slice s.a s.n s.c, .int .i64 c, .int .i64 n] w fun e w' => e = .returned (.int .i64 (yb2 xs c n)) ∧ Mod [] w w' := by
 obtain ⟨ll, hS, hO, rfl⟩ := h
 have hl : ll.length ≤ 1000000 := by simpa using hl
 refine ya7 (yu0 ?_)
 intro b3 f3 b4 f4 w10 A10 c3 c4
 have q3 : ∀ w', Mod [] w10 w' → w'.heap[b3]? = some (.cells #[.int .i64 c] 3) := fun w' M => M.keep0 c3
 have q4 : ∀ w', Mod [] w10 w' → w'.heap[b4]? = some (.cells #[.int .i64 n] 3) := fun w' M => M.keep0 c4
 refine (yr7 (c := c) (n := n) (hS.keep0 A10.mod) hl (fun w' M => by rw [yb5 (q3 w' M)]; rfl) (fun w' M => by rw [yb5 (q4 w' M)]; rfl)).mono ?_
 rintro _ w11 ⟨rfl, M11⟩
 exact ⟨_, rfl, _, q3 _ M11, _, q4 _ M11, rfl, A10.mod.go0 M11 (by simp)⟩
theorem yfT {κ β : Type} [DecidableEq κ] (L : List (κ × β)) (k : κ) (v : β) (x : κ) : lkp (put L k v) x = if x = k then some v else lkp L x := by
 induction L with
 | nil => simp [put, lkp, eq_comm]
 | cons q r ih =>
  rw [put]
  by_cases h : q.1 = k
  ·rw [if_pos h, lkp, lkp]
   by_cases hx : x = k
   ·simp [hx, h]
   ·have : ¬ k = x := fun e => hx e.symm
    simp [hx, h, this]
  ·rw [if_neg h, lkp, lkp, ih]
   by_cases hx : x = k
   ·subst hx; simp [h]
   ·simp [hx]
def ymT : List (Int × Int) → List PCall → Bool
 | _, [] => true
 | L, q :: r => match lkp L q.c with
  | some n => if q.n ≤ n then false else ymT (put L q.c q.n) r
  | none => ymT (put L q.c q.n) r
theorem ywH (w : World) : (zeroValue 3).run pP w = .ok (.int .i64 0) w := by kernel_rfl
theorem ydT {w : World} {s : Sl} {xs : List PCall} (h : ya8 w s xs) (hl : xs.length ≤ 1000000) (hw : ∀ q ∈ xs, s64 q.c) :
  Calls pP 13 #[.slice s.a s.n s.c] w fun e w' => e = .returned (.bool (ymT [] xs)) ∧ Mod [] w w' := by
 obtain ⟨ll, hS, hO, rfl⟩ := h
 have hl : ll.length ≤ 1000000 := by simpa using hl
 have hn := hS.1
 refine ya7 (yuZ ?_)
 refine ybM fun b3 w4 c4 M4 f4 => ?_
 refine yoM (fun mm x w' => ∃ (k : Nat) (L : List (Int × Int)), x = k ∧ k ≤ ll.length ∧ ybT pP 3 hki hki w' b3 L ∧ ymT [] (ll.map (·.x)) = ymT L ((ll.map (·.x)).drop k) ∧ Mod [] w w' ∧ mm = ll.length - k) ll.length ⟨0, [], rfl, by omega, ybT.of_new c4, by simp, M4, rfl⟩ ?_
 rintro mm x w1 ⟨k, L, rfl, hk, hM, hf, M1, rfl⟩
 have hfr : ∀ i ∈ [b3], w.heap.size ≤ i := fun i hi => by simp at hi; omega
 refine yaP (fun hlt => ?_) fun hge => ?_
 ·obtain ⟨q, hq⟩ : ∃ q, ll[k]? = some q := ⟨_, List.getElem?_eq_getElem (by omega)⟩
  have hq' : (ll.map (·.x))[k]? = some q.x := by simp [hq]
  have hd : (ll.map (·.x)).drop k = q.x :: (ll.map (·.x)).drop (k + 1) := by
   obtain ⟨h1, h2⟩ := List.getElem?_eq_some_iff.1 hq'
   rw [List.drop_eq_getElem_cons h1, h2]
  have hqw : s64 q.x.c := hw _ (List.mem_map.2 ⟨q, List.mem_of_getElem? hq, rfl⟩)
  rw [hd, ymT] at hf
  refine (hS.keep0 M1).ix hq fun ad had => yaI had ?_
  intro b48 f48 w52 A52
  have N52 := M1.go0 A52.mod (by simp)
  have hM52 := hM.of_block (A52.mod.block _ hM.lt (by simp))
  have hlk := fun w' (M : Mod [] w52 w') => (hM52.of_block (M.block _ hM52.lt (by simp))).look (T := 78) true ygU ycC Tryz.underlying78 (ywH w') (ycQ hqw)
  obtain ⟨o, ho1, ho2⟩ := hM52.update ygU ycC Tryz.underlying78 q.x.n (ycQ hqw)
  have hlt3 := hM.lt
  have step : ymT [] (ll.map (·.x)) = ymT (put L q.x.c q.x.n) ((ll.map (·.x)).drop (k + 1)) → yg2 pP (Instr.mapUpdate 78 (.map (some b3)) (.int .i64 q.x.c) (.int .i64 q.x.n)) w52 fun w56 => yaJ [b48] w52 w56 ∧ KS (ylJ (some b3) s.a s.n s.c (s.n : Int) (fun mm x w' => ∃ (k : Nat) (L : List (Int × Int)), x = k ∧ k ≤ ll.length ∧ ybT pP 3 hki hki w' b3 L ∧ ymT [] (ll.map (·.x)) = ymT L ((ll.map (·.x)).drop k) ∧ Mod [] w w' ∧ mm = ll.length - k) (ll.length - k)) (yfH (some b3) s.a s.n s.c (s.n : Int) (IntKind.wrap .i64 ((k : Int) + 1))) w56 := fun hf' =>
   ⟨_, ho1, yaJ.of ydI (by simp; omega), yoL (ll.length - (k + 1)) (by omega) ⟨k + 1, _, by rw [yaW (by omega) (by omega)]; omega, by omega, ho2, hf', N52.go0 ydI hfr, rfl⟩⟩
  cases hx : lkp L q.x.c with
  | some n =>
   rw [hx] at hf
   simp only at hf
   refine ⟨n, true, fun w' M => (hlk w' M).trans (by rw [hx]; rfl), brT rfl ?_⟩
   refine yaP (fun g => ?_) fun g => ?_
   ·rw [if_pos g] at hf
    exact ⟨by rw [hf], N52⟩
   ·rw [if_neg g] at hf
    exact step hf
  | none =>
   rw [hx] at hf
   exact ⟨0, false, fun w' M => (hlk w' M).trans (by rw [hx]; rfl), brF rfl (step hf)⟩
 ·have hk : k = ll.length := by omega
  subst hk
  refine ⟨?_, M1⟩
  rw [hf, List.drop_of_length_le (by simp)]
  rfl
end Go.Proofs.YtkepmmocldnnfaaGreat
namespace Go.Proofs.YtkepmmocldnnfaaGreat
open Go Go.RowKit Go.Maps Go.MapKept
set_option linter.unusedVariables false
set_option linter.unusedSimpArgs false
structure HV where
 x : PRep
 f : Sl
 p : Sl
def HV.cs (q : HV) : List Value := [.int .i64 q.x.e, .int .i64 q.x.off, .int .i64 q.x.n, .int .i64 q.x.gen, .slice q.f.a q.f.n q.f.c, .slice q.p.a q.p.n q.p.c]
def HV.v (q : HV) : Value := q.x.v q.f q.p
theorem HV.cs_len (q : HV) : q.cs.length = 6 := rfl
theorem HV.cs_one (q : HV) : ∀ u ∈ q.cs, u.oneCell' = true := by simp [HV.cs, Value.oneCell']
theorem yu5 : (Tryz.prog.info? 44).map (fun i => (i.zero, i.size, i.bytes)) = some (some (.agg #[.int .i64 0, .int .i64 0, .int .i64 0, .int .i64 0, .slice none 0 0, .slice none 0 0]), 6, 80) := by kernel_rfl
theorem yc4 {α : Type} {w : World} {base T sz : Nat} {enc : α → List Value} {a : Option Addr} {n c : Nat} {l : List α} (h : Row w base T sz enc a n c l) : ∀ i ∈ ydS a, base ≤ i ∧ i < w.heap.size := fun i hi => ⟨(ybH h i hi).1, (ybH h i hi).2.1⟩
theorem yoP {α : Type} {w : World} {base T sz : Nat} {enc : α → List Value} {a : Option Addr} {n c : Nat} {l : List α} (h : Row w base T sz enc a n c l) {b : Nat} {cs : Array Value} {T' : TypeId} (hb : w.heap[b]? = some (.cells cs T')) (hT : T' ≠ T) : b ∉ ydS a := fun hi => by
 obtain ⟨_, _, cur, hc⟩ := ybH h b hi
 rw [hb] at hc; cases hc; exact hT rfl
theorem ybF {α : Type} {w w' : World} {base T sz : Nat} {enc : α → List Value} {a : Option Addr} {n c : Nat} {l : List α} {S : List Nat} (h : Row w base T sz enc a n c l) (M : Mod S w w') (hS : ∀ k ∈ S, k ∉ ydS a) : Row w' base T sz enc a n c l :=
 h.keep M fun ad ha hk => hS _ hk (by rw [ha]; simp [ydS])
theorem yr8 {w : World} {B : Nat} {f : Sl} {l : List HV} {y : HV} {bs : List Nat} {F : Option Addr → Nat → Nat → World → Prop} (hR : Row w B 44 6 HV.cs f.a f.n f.c l) (hl : l.length ≤ 1000000) (hB : B ≤ w.heap.size) (hbs : ∀ b ∈ bs, b ∉ ydS f.a)
  (hF : ∀ a' c' w', Row w' B 44 6 HV.cs a' (f.n + 1) c' (l ++ [y]) → Mod (ydS f.a) w w' → F a' (f.n + 1) c' w') :
  al w (.cells (HV.cs y).toArray 44) fun b w1 => ydJ pP (Builtin.append_ #[36, 36] 36 #[.slice f.a f.n f.c, .slice (some ⟨b, 0, none⟩) 1 1]) w1 fun a n c w2 => yaJ bs w1 w2 ∧ F a n c w2 := by
 refine ybM fun b w1 c1 M1 f1 => ?_
 have s1 := M1.size
 obtain ⟨i0, hi0, hz0, hz1, hz2⟩ := info_parts yu5
 refine yf6 (x := y) (hR.keep0 M1) Tryz.underlying36 hi0 hz0 hz1 hz2 rfl (by decide) c1 rfl (HV.cs_one _) (by omega) (by unfold maxLen; omega) (by omega) fun a' c' w8 hR8 hM8 => ?_
 have M8 := hM8 _ (yiD f.a)
 refine ⟨yaJ.of M8 fun b hb _ => hbs b hb, hF a' c' w8 hR8 ?_⟩
 exact (M1.trans M8).less fun k hk _ => by simpa using hk
def yd7 : POp := ⟨12, ⟨⟨#[]⟩, 0⟩, 1, 0, yd1, ⟨#[]⟩, ⟨#[]⟩, 0, false, []⟩
theorem yoQ : opE yd7 = 0 := by decide
def ybB (k : Nat) : HV := ⟨⟨0, (k : Int) + 1, 0, 0, [], []⟩, yeQ, yeQ⟩
def ybV (n : Nat) : List HV := (List.range n).map ybB
theorem ye5 (n : Nat) : (ybV n).length = n := by simp [ybV]
theorem ykN (n : Nat) : ybV (n + 1) = ybV n ++ [ybB n] := by simp [ybV, List.range_succ]
theorem ydB {n k : Nat} (h : k < n) : (ybV n)[k]? = some (ybB k) := by simp [ybV, h]
theorem ydU {w : World} {s : Sl} {xs : List PCall} (h : ya8 w s xs) (hl : xs.length ≤ 1000) (hT : ∀ q ∈ xs, q.op = yd7) (room : Int) :
  Calls pP 8 #[.int .i64 room, .slice s.a s.n s.c] w fun e w' => ∃ v, e = .returned v ∧ ∃ s' : Sl, v = .tuple #[.slice s'.a s'.n s'.c, .int .i64 (if 1 ≤ room ∧ room ≤ 64 then 0 else 1)] ∧ Mod [] w w' ∧ (1 ≤ room ∧ room ≤ 64 → Row w' w.heap.size 44 6 HV.cs s'.a s'.n s'.c (ybV xs.length)) := by
 obtain ⟨ll, hS, hO, rfl⟩ := h
 have hl : ll.length ≤ 1000 := by simpa using hl
 have hn := hS.1
 refine yuW ?_
 refine (yr6 room w).mono ?_
 rintro _ w4 ⟨_, rfl, M4, hv⟩
 by_cases g : 1 ≤ room ∧ room ≤ 64
 ·rw [if_pos g] at hv
  obtain ⟨b, bg, rfl, fb, fg, h4⟩ := hv
  refine ⟨_, _, rfl, brF rfl ?_⟩
  rw [if_pos g]
  refine yoK (fun mm a n c x w' => ∃ k : Nat, x = k ∧ k ≤ ll.length ∧ Row w' w.heap.size 44 6 HV.cs a n c (ybV k) ∧ BrT w' b room k bg ∧ Mod [] w w' ∧ mm = ll.length - k) ll.length ⟨0, rfl, by omega, Row.nil .., h4, M4, rfl⟩ ?_
  rintro mm a n c x w1 ⟨k, rfl, hk, hR, hB, M1, rfl⟩
  have s1 := M1.size
  refine yaP (fun hlt => ?_) fun hge => ?_
  ·obtain ⟨q, hq⟩ : ∃ q, ll[k]? = some q := ⟨_, List.getElem?_eq_getElem (by omega)⟩
   have hqm := List.mem_of_getElem? hq
   have hqo : q.x.op = yd7 := hT _ (List.mem_map.2 ⟨q, hqm, rfl⟩)
   refine (hS.keep0 M1).ix hq fun ad had => yaI had ?_
   intro b50 f50 w69 A69
   have l50 := A69.lt b50 (by simp)
   have N69 := M1.go0 A69.mod (by simp)
   have hB69 := hB.keep0 A69.mod
   have hlt := hB.lt
   refine (yuT hB69 ((hO q hqm).keep0 N69) (by rw [hqo]; rfl) (by rw [hqo]; exact yoQ) (by omega) (by rw [hqo]; decide) (by rw [hqo]; simp [yd7]; omega)).mono ?_
   rintro _ w70 ⟨rfl, M70, hB70⟩
   refine ⟨_, _, _, _, _, _, _, _, _, _, rfl, yaJ.of M70 (fun i hi _ hc => by simp at hi hc; omega), ?_⟩
   have hR69 := hR.keep0 A69.mod
   obtain ⟨p1, p2, p3, p4, hc69⟩ := hB69.cells
   obtain ⟨p5, p6, p7, p8, hc70⟩ := hB70.cells
   have hR70 : Row w70 w.heap.size 44 6 HV.cs a n c (ybV k) := ybF hR69 M70 (by simp; exact yoP hR69 hc69 (by decide))
   have K70 : Mod [b] w1 w70 := (A69.mod.trans M70).less (by simp)
   have s70 := K70.size
   have lk := yc4 hR
   have e1 : (k : Int) + q.x.op.n = (k : Int) + 1 := by rw [hqo]; rfl
   rw [e1] at hB70
   rw [e1]
   refine yr8 (y := ybB k) (f := ⟨a, n, c⟩) hR70 (by rw [ye5]; omega) (by omega) (fun i hi hi' => ?_) fun a' c' w83 hR83 M83 => ?_
   ·have := lk i hi'
    simp at hi; omega
   ·have hb : b ∉ ydS a := yoP hR69 hc69 (by decide)
    have hbg : bg ∉ ydS a := fun hi => by
     obtain ⟨_, _, cur, hc⟩ := ybH hR69 bg hi
     rw [hB69.g] at hc; cases hc
    refine yoJ (ll.length - (k + 1)) (by omega) ⟨k + 1, by rw [yaW (by omega) (by omega)]; omega, by omega, by rw [ykN]; exact hR83, ?_, ?_, rfl⟩
    ·have e2 : (((k + 1 : Nat) : Int)) = (k : Int) + 1 := by omega
     rw [e2]
     exact hB70.keep M83 hb hbg
    ·refine (M1.go0 K70 (by simp; omega)).go0 M83 fun i hi => (lk i hi).1
  ·have hk : k = ll.length := by omega
   subst hk
   refine ⟨⟨a, n, c⟩, rfl, M1, fun _ => ?_⟩
   simpa using hR
 ·rw [if_neg g] at hv
  subst hv
  refine ⟨_, _, rfl, brT rfl ?_⟩
  rw [if_neg g]
  exact ⟨⟨none, 0, 0⟩, rfl, M4, fun h => absurd h g⟩
end Go.Proofs.YtkepmmocldnnfaaGreat
namespace Go.Proofs.YtkepmmocldnnfaaGreat
open Go Go.RowKit
set_option linter.all false
section
set_option maxRecDepth 100000
variable {R : VWP} {w w0 : World} {m : Nat} {i0 i1 i2 i3 i4 i5 i6 i7 i8 i9 j0 j1 j2 j3 j4 j5 j6 j7 j8 j9 k0 k1 k2 k3 k4 k5 k6 k7 k8 k9 l0 l1 l2 l3 l4 l5 l6 l7 l8 l9 : Int} {s0 s1 s2 s3 s4 s5 s6 s7 s8 s9 t0 t1 t2 t3 t4 t5 t6 t7 t8 t9 : BA} {n0 n1 n2 n3 n4 n5 n6 n7 n8 n9 o0 o1 o2 o3 o4 o5 o6 o7 o8 o9 p0 p1 p2 p3 p4 p5 p6 p7 p8 p9 : Nat} {q0 q1 q2 q3 q4 q5 q6 q7 q8 q9 r0 r1 r2 r3 r4 r5 r6 r7 r8 r9 : OA} {B0 B1 B2 B3 B4 B5 B6 B7 B8 B9 : Bool} {M0 M1 M2 M3 : Option Nat} {V0 V1 V2 V3 V4 V5 : Value} {A0 A1 A2 : Addr}
theorem yu6 {b0 : Nat} {o0_n o0_c : Nat} {o1_n o1_c : Nat} {c2 : BA} {a2 a1 : Nat} {a9 b1 : BA} {a5 a4 : Nat} {b7 b6 : Nat} {c0 b9 : Nat} (hb : w.heap[b0]? = some (.cells #[.slice q0 o0_n o0_c, .slice q1 o1_n o1_c, (.map M0), .int .i64 i0] 68)) (h :
 ∀ b2, w.heap.size ≤ b2 →
 ∀ w3, Adv [] [b2] w w3 →
 ∃ t4 x5 x6 s7 x8 x9 e8 e9 f0 f1 d9 e3 e1 e5 e6 f2 e7 e0 e4 e2 f3, (∀ w', Mod [] w3 w' → (Instr.lookup 66 (.map M0) (.int .i64 i1) false).run pP w' = .ok (.agg (Z7 t4 x5 x6 s7 x8 x9 e8 e9 f0 f1 d9 e3 e1 e5 e6 f2 e7 e0 e4 e2 f3)) w') ∧
 ∀ c8, w3.heap.size ≤ c8 →
 brB t4 (
 ∀ d4, Adv [] [c8] w3 d4 → d4.heap[b0]? = some (.cells #[.slice q0 o0_n o0_c, .slice q1 o1_n o1_c, (.map M0), .int .i64 i0] 68) →
 R (.bool false) d4)
 (
 brB (i2 != (IntKind.wrap .i64 (x5 + 1))) (
 ∀ d5, Adv [] [c8] w3 d5 → d5.heap[b0]? = some (.cells #[.slice q0 o0_n o0_c, .slice q1 o1_n o1_c, (.map M0), .int .i64 i0] 68) →
 R (.bool false) d5)
 (
 ∀ d6, Adv [] [c8] w3 d6 →
 yg2 pP (Instr.mapUpdate 66 (.map M0) (.int .i64 i1) (.agg (Z7 true i2 i3 c2 i4 i5 i6 i7 i8 i9 q2 a2 a1 a9 b1 j0 B1 q3 a5 a4 i0))) d6 fun d8 => yaJ [b0, b2, c8] d6 d8 ∧
 ∀ d7, Adv [] [] d8 d7 → d7.heap[b0]? = some (.cells #[.slice q0 o0_n o0_c, .slice q1 o1_n o1_c, (.map M0), .int .i64 i0] 68) →
 R (.bool true) d7))) :
 CR pP 22 #[(.pointer (some ⟨b0, 0, none⟩)), (.agg (Z1 i1 i2 B0 i3 c2 i4 i5 i6 i7 i8 i9 q2 a2 a1 a9 b1 j0 B1 q3 a5 a4 j1 j2 j3 j4 q4 b7 b6 q5 c0 b9))] w R :=
 yeP Tryz.wide_mixed (an := []) Tryz.func22 rfl rfl (by kernel_rfl) rfl hb (Eq.mpr (by kernel_rfl) h)
theorem yu7 {b0 : Nat} {o0_n o0_c : Nat} {o1_n o1_c : Nat} {d5 : BA} {c2 c1 : Nat} {c8 c9 : BA} {c5 c4 : Nat} {a6 a5 : Nat} {a9 a8 : Nat} (hb : w.heap[b0]? = some (.cells #[.slice q0 o0_n o0_c, .slice q1 o1_n o1_c, (.map M0), .int .i64 i0] 68)) (h :
 ∀ b2, w.heap.size ≤ b2 →
 ∀ w3, Adv [] [b2] w w3 →
 ∃ t4 x5 x6 s7 x8 x9 f8 f9 g0 g1 d2 e4 e2 e6 e7 g2 e8 e1 e5 e3 g3, (∀ w', Mod [] w3 w' → (Instr.lookup 66 (.map M0) (.int .i64 i1) false).run pP w' = .ok (.agg (Z7 t4 x5 x6 s7 x8 x9 f8 f9 g0 g1 d2 e4 e2 e6 e7 g2 e8 e1 e5 e3 g3)) w') ∧
 ∀ b3, w3.heap.size ≤ b3 →
 ∀ e9, Adv [] [b3] w3 e9 →
 Calls pP 17 #[.slice q0 o0_n o0_c, .int .i64 i1, .int .i64 i2] e9 fun e c6 => ∃ b9, e = .returned (.int .i64 b9) ∧ yaJ [b0, b2, b3] e9 c6 ∧
 brB (!t4) (
 ∀ f0, Adv [] [] c6 f0 → f0.heap[b0]? = some (.cells #[.slice q0 o0_n o0_c, .slice q1 o1_n o1_c, (.map M0), .int .i64 i0] 68) →
 R (.bool false) f0)
 (
 brB (i2 != x5) (
 ∀ f1, Adv [] [] c6 f1 → f1.heap[b0]? = some (.cells #[.slice q0 o0_n o0_c, .slice q1 o1_n o1_c, (.map M0), .int .i64 i0] 68) →
 R (.bool false) f1)
 (
 brB (decide (b9 ≤ g3)) (
 ∀ f2, Adv [] [] c6 f2 → f2.heap[b0]? = some (.cells #[.slice q0 o0_n o0_c, .slice q1 o1_n o1_c, (.map M0), .int .i64 i0] 68) →
 R (.bool false) f2)
 (
 ixA q0 o0_n b9 16 fun a1 =>
 ∀ a0, Adv [] [] c6 a0 →
 yaA .i64 a0 (Addr.add a1 2) fun u3 => yaC a0 (Addr.add (Addr.add a1 2) 1) fun h9 => yaA .i64 a0 (Addr.add (Addr.add a1 2) 2) fun u4 => yaA .i64 a0 (Addr.add (Addr.add a1 2) 3) fun u5 => yaA .i64 a0 (Addr.add (Addr.add a1 2) 4) fun u6 => yaA .i64 a0 (Addr.add (Addr.add a1 2) 5) fun u7 => yaA .i64 a0 (Addr.add (Addr.add a1 2) 6) fun u9 => yaA .i64 a0 (Addr.add (Addr.add a1 2) 7) fun v0 => yaB a0 (Addr.add (Addr.add a1 2) 8) fun g7 h5 h1 => yaC a0 (Addr.add (Addr.add a1 2) 9) fun u0 => yaC a0 (Addr.add (Addr.add a1 2) 10) fun u1 => yaA .i64 a0 (Addr.add (Addr.add a1 2) 11) fun v1 => yaG a0 (Addr.add (Addr.add a1 2) 12) fun u2 => yaB a0 (Addr.add (Addr.add a1 2) 13) fun g8 h6 h2 =>
 Calls pP 53 #[(.agg (Z4 u3 h9 u4 u5 u6 u7 u9 v0 g7 h5 h1 u0 u1 v1 u2 g8 h6 h2)), (.agg (Z4 x6 s7 x8 x9 f8 f9 g0 g1 d2 e4 e2 e6 e7 g2 e8 e1 e5 e3))] a0 fun e a2 => ∃ g4, e = .returned (.bool g4) ∧ yaJ [b0, b2, b3] a0 a2 ∧
 brB (!g4) (
 ∀ f3, Adv [] [] a2 f3 → f3.heap[b0]? = some (.cells #[.slice q0 o0_n o0_c, .slice q1 o1_n o1_c, (.map M0), .int .i64 i0] 68) →
 R (.bool false) f3)
 (
 ixA q1 o1_n b9 6 fun b8 =>
 yaA .i64 a2 b8 fun v2 => yaA .i64 a2 (Addr.add b8 1) fun v3 => yaA .i64 a2 (Addr.add b8 2) fun v4 => yaA .i64 a2 (Addr.add b8 3) fun v5 => yaB a2 (Addr.add b8 4) fun g9 h7 h3 => yaB a2 (Addr.add b8 5) fun h0 h8 h4 =>
 Calls pP 54 #[(.agg (Z3 j1 j2 j3 j4 q4 a6 a5 q5 a9 a8)), (.agg (Z3 v2 v3 v4 v5 g9 h7 h3 h0 h8 h4))] a2 fun e f4 => ∃ g5, e = .returned (.bool g5) ∧ yaJ [b0, b2, b3] a2 f4 ∧
 brB (!g5) (
 ∀ f5, Adv [] [] f4 f5 → f5.heap[b0]? = some (.cells #[.slice q0 o0_n o0_c, .slice q1 o1_n o1_c, (.map M0), .int .i64 i0] 68) →
 R (.bool false) f5)
 (
 ∀ f6, Adv [b3] [] f4 f6 →
 yg2 pP (Instr.mapUpdate 66 (.map M0) (.int .i64 i1) (.agg (Z7 false x5 x6 s7 x8 x9 f8 f9 g0 g1 d2 e4 e2 e6 e7 g2 e8 e1 e5 e3 g3))) f6 fun g6 => yaJ [b0, b2, b3] f6 g6 ∧
 ∀ f7, Adv [b0] [] g6 f7 → f7.heap[b0]? = some (.cells #[.slice q0 o0_n o0_c, .slice q1 o1_n o1_c, (.map M0), (.int .i64 (if b9 > i0 then b9 else i0))] 68) →
 R (.bool true) f7)))))) :
 CR pP 23 #[(.pointer (some ⟨b0, 0, none⟩)), (.agg (Z1 i1 i2 B0 i3 d5 i4 i5 i6 i7 i8 i9 q2 c2 c1 c8 c9 j0 B1 q3 c5 c4 j1 j2 j3 j4 q4 a6 a5 q5 a9 a8))] w R :=
 yeP Tryz.wide_mixed (an := []) Tryz.func23 rfl rfl (by kernel_rfl) rfl hb (Eq.mpr (by kernel_rfl) h)
end
end Go.Proofs.YtkepmmocldnnfaaGreat
namespace Go.Proofs.YtkepmmocldnnfaaGreat
open Go Go.RowKit Go.Maps Go.MapKept
set_option linter.unusedVariables false
set_option linter.unusedSimpArgs false
structure PEv where
 c : Int
 n : Int
 a : Bool
 op : POp
 r : PRep
structure EV where
 x : PEv
 rs : Sl
 ts : Sl
 f : Sl
 p : Sl
def EV.cs (q : EV) : List Value := [.int .i64 q.x.c, .int .i64 q.x.n, .bool q.x.a, .int .i64 q.x.op.kind, .string q.x.op.part.t, .int .i64 q.x.op.part.n, .int .i64 q.x.op.n, .int .i64 q.x.op.off, .int .i64 q.x.op.b.prod, .int .i64 q.x.op.b.epoch, .int .i64 q.x.op.b.seq, .slice q.rs.a q.rs.n q.rs.c, .string q.x.op.g, .string q.x.op.m, .int .i64 q.x.op.gen, .bool q.x.op.robin, .slice q.ts.a q.ts.n q.ts.c, .int .i64 q.x.r.e, .int .i64 q.x.r.off, .int .i64 q.x.r.n, .int .i64 q.x.r.gen, .slice q.f.a q.f.n q.f.c, .slice q.p.a q.p.n q.p.c]
def EV.v (q : EV) : Value := .agg #[.int .i64 q.x.c, .int .i64 q.x.n, .bool q.x.a, .int .i64 q.x.op.kind, .string q.x.op.part.t, .int .i64 q.x.op.part.n, .int .i64 q.x.op.n, .int .i64 q.x.op.off, .int .i64 q.x.op.b.prod, .int .i64 q.x.op.b.epoch, .int .i64 q.x.op.b.seq, .slice q.rs.a q.rs.n q.rs.c, .string q.x.op.g, .string q.x.op.m, .int .i64 q.x.op.gen, .bool q.x.op.robin, .slice q.ts.a q.ts.n q.ts.c, .int .i64 q.x.r.e, .int .i64 q.x.r.off, .int .i64 q.x.r.n, .int .i64 q.x.r.gen, .slice q.f.a q.f.n q.f.c, .slice q.p.a q.p.n q.p.c]
theorem EV.cs_len (q : EV) : q.cs.length = 23 := rfl
theorem EV.cs_one (q : EV) : ∀ u ∈ q.cs, u.oneCell' = true := by simp [EV.cs, Value.oneCell']
structure EvAt (w : World) (q : EV) : Prop where
 op : OpAt w q.x.op q.rs q.ts
 rep : RepAt w q.x.r q.f q.p
theorem EvAt.keep0 {w w' : World} {q : EV} (h : EvAt w q) (M : Mod [] w w') : EvAt w' q := ⟨h.op.keep0 M, h.rep.keep0 M⟩
structure Kn where
 waits : Bool
 last : Int
 op : POp
 since : Int
structure KnV where
 k : Kn
 rs : Sl
 ts : Sl
def KnV.v (q : KnV) : Value := .agg #[.bool q.k.waits, .int .i64 q.k.last, .int .i64 q.k.op.kind, .string q.k.op.part.t, .int .i64 q.k.op.part.n, .int .i64 q.k.op.n, .int .i64 q.k.op.off, .int .i64 q.k.op.b.prod, .int .i64 q.k.op.b.epoch, .int .i64 q.k.op.b.seq, .slice q.rs.a q.rs.n q.rs.c, .string q.k.op.g, .string q.k.op.m, .int .i64 q.k.op.gen, .bool q.k.op.robin, .slice q.ts.a q.ts.n q.ts.c, .int .i64 q.k.since]
def kn0 : Kn := ⟨false, 0, op0, 0⟩
def yp5 : KnV := ⟨kn0, yeQ, yeQ⟩
theorem yq5 (w : World) : (zeroValue 103).run pP w = .ok yp5.v w := by kernel_rfl
abbrev KL := List (Int × Kn)
def ymL (L : KL) (ans : Int) (e : PEv) : Option KL :=
 if ((lkp L e.c).getD kn0).waits = true then none else if e.n ≠ IntKind.wrap .i64 (((lkp L e.c).getD kn0).last + 1) then none else some (put L e.c ⟨true, e.n, e.op, ans⟩)
def ymM (calls : List PCall) (reps : List PRep) (L : KL) (ans : Int) (e : PEv) : Option (KL × Int) :=
 if ((lkp L e.c).getD kn0).waits = false then none else if e.n ≠ ((lkp L e.c).getD kn0).last then none else
  if yb2 calls e.c e.n ≤ ((lkp L e.c).getD kn0).since then none else
   match calls[(yb2 calls e.c e.n).toNat]?, reps[(yb2 calls e.c e.n).toNat]? with
   | some q, some r => if q.op ≠ ((lkp L e.c).getD kn0).op then none else if e.r ≠ r then none else
    some (put L e.c ⟨false, ((lkp L e.c).getD kn0).last, ((lkp L e.c).getD kn0).op, ((lkp L e.c).getD kn0).since⟩, if yb2 calls e.c e.n > ans then yb2 calls e.c e.n else ans)
   | _, _ => none
def knL (L : List (Int × KnV)) : KL := L.map fun p => (p.1, p.2.k)
theorem ylL {κ β γ : Type} [DecidableEq κ] (f : β → γ) (L : List (κ × β)) (k : κ) : lkp (L.map fun p => (p.1, f p.2)) k = (lkp L k).map f := by
 induction L with
 | nil => rfl
 | cons q r ih => rw [List.map_cons, lkp, lkp, ih]; split <;> rfl
theorem ylM {κ β γ : Type} [DecidableEq κ] (f : β → γ) (L : List (κ × β)) (k : κ) (v : β) : put (L.map fun p => (p.1, f p.2)) k (f v) = (put L k v).map fun p => (p.1, f p.2) := by
 induction L with
 | nil => rfl
 | cons q r ih => rw [List.map_cons, put, put, ih]; split <;> simp_all
theorem yeR {κ β : Type} [DecidableEq κ] {L : List (κ × β)} {k : κ} {v : β} {p : κ × β} (h : p ∈ put L k v) : p = (k, v) ∨ p ∈ L := by
 induction L with
 | nil => simp [put] at h; exact .inl h
 | cons q r ih =>
  rw [put] at h
  split at h
  ·rcases List.mem_cons.1 h with h | h
   ·exact .inl h
   ·exact .inr (List.mem_cons_of_mem _ h)
  ·rcases List.mem_cons.1 h with h | h
   ·exact .inr (h ▸ List.mem_cons_self)
   ·rcases ih h with h | h
    ·exact .inl h
    ·exact .inr (List.mem_cons_of_mem _ h)
theorem yoR (L : List (Int × KnV)) (c : Int) : ((lkp (knL L) c).getD kn0) = ((lkp L c).getD yp5).k := by
 unfold knL
 rw [ylL]
 cases lkp L c <;> rfl
theorem yoS (L : List (Int × KnV)) (c : Int) (v : KnV) : put (knL L) c v.k = knL (put L c v) := ylM _ L c v
theorem yq6 (o : Option KnV) : o.elim yp5.v KnV.v = (o.getD yp5).v := by cases o <;> rfl
structure WtAt (w0 w : World) (b : Nat) (sc sr : Sl) (bm : Nat) (ans : Int) (L : List (Int × KnV)) : Prop where
 cells : w.heap[b]? = some (.cells #[.slice sc.a sc.n sc.c, .slice sr.a sr.n sr.c, .map (some bm), .int .i64 ans] 68)
 mp : ybT pP 3 hki KnV.v w bm L
 ops : ∀ p ∈ L, OpAt w0 p.2.k.op p.2.rs p.2.ts
 base : Mod [] w0 w
 fb : w0.heap.size ≤ b
 fm : w0.heap.size ≤ bm
 since : ∀ p ∈ L, -1 ≤ p.2.k.since
 lo : -1 ≤ ans
theorem WtAt.ne {w0 w : World} {b bm : Nat} {sc sr : Sl} {ans : Int} {L : List (Int × KnV)} (h : WtAt w0 w b sc sr bm ans L) : b ≠ bm := by
 rintro rfl
 obtain ⟨es, cl, hb, _⟩ := h.mp
 rw [h.cells] at hb; cases hb
theorem WtAt.keep0 {w0 w w' : World} {b bm : Nat} {sc sr : Sl} {ans : Int} {L : List (Int × KnV)} (h : WtAt w0 w b sc sr bm ans L) (M : Mod [] w w') : WtAt w0 w' b sc sr bm ans L :=
 ⟨M.keep0 h.cells, h.mp.of_block (M.block _ h.mp.lt (by simp)), h.ops, h.base.go0 M (by simp), h.fb, h.fm, h.since, h.lo⟩
theorem WtAt.get {w0 w : World} {b bm : Nat} {sc sr : Sl} {ans : Int} {L : List (Int × KnV)} (h : WtAt w0 w b sc sr bm ans L) (c : Int) : OpAt w0 ((lkp L c).getD yp5).k.op ((lkp L c).getD yp5).rs ((lkp L c).getD yp5).ts ∧ -1 ≤ ((lkp L c).getD yp5).k.since := by
 cases hx : lkp L c with
 | none => exact ⟨(yj6 w0 0).at, by decide⟩
 | some v => have hm := yl4 hx; exact ⟨h.ops _ hm, h.since _ hm⟩
theorem yoT {w0 w : World} {b bm : Nat} {sc sr : Sl} {ans : Int} {L : List (Int × KnV)} (h : WtAt w0 w b sc sr bm ans L) (q : EV) (hO : OpAt w0 q.x.op q.rs q.ts) (hc : s64 q.x.c) :
  Calls pP 22 #[.pointer (some ⟨b, 0, none⟩), q.v] w fun e w' => ∃ v, e = .returned v ∧ ∃ t, v = .bool t ∧ Mod [b, bm] w w' ∧ match ymL (knL L) ans q.x with
   | none => t = false ∧ WtAt w0 w' b sc sr bm ans L
   | some L' => t = true ∧ ∃ L2, knL L2 = L' ∧ WtAt w0 w' b sc sr bm ans L2 := by
 have hne := h.ne
 have lb := ya5 h.cells
 have lm := h.mp.lt
 refine yu6 h.cells ?_
 intro b2 f2 w3 A3
 have h3 := h.keep0 A3.mod
 have s3 := A3.mod.size
 have l2 := A3.lt b2 (by simp)
 have hlk := fun w' (M : Mod [] w3 w') => (h3.keep0 M).mp.look (T := 66) false ygU ycC Tryz.underlying66 (yq5 w') (ycQ hc)
 simp only [yq6, Bool.false_eq_true, if_false] at hlk
 unfold ymL
 rw [yoR]
 refine ⟨_, _, _, _, _, _, _, _, _, _, _, _, _, _, _, _, _, _, _, _, _, fun w' M => hlk w' M, ?_⟩
 intro b25 f25
 refine yaH (fun g => ?_) fun g => ?_
 ·intro w26 A26 _
  have N := A3.mod.go0 A26.mod (by simp)
  rw [if_pos g]
  exact ⟨_, rfl, N.less (by simp), rfl, h.keep0 N⟩
 rw [if_neg (by rw [g]; simp)]
 refine yaH (fun g2 => ?_) fun g2 => ?_
 ·intro w26 A26 _
  have N := A3.mod.go0 A26.mod (by simp)
  rw [if_pos (by simpa using g2)]
  exact ⟨_, rfl, N.less (by simp), rfl, h.keep0 N⟩
 rw [if_neg (by simpa using g2)]
 intro w28 A28
 have N28 := A3.mod.go0 A28.mod (by simp)
 have h28 := h.keep0 N28
 have l25 := A28.lt b25 (by simp)
 obtain ⟨o, ho1, ho2⟩ := h28.mp.update ygU ycC Tryz.underlying66 (⟨⟨true, q.x.n, q.x.op, ans⟩, q.rs, q.ts⟩ : KnV) (ycQ hc)
 refine ⟨_, ho1, yaJ.of ydI (by simp; omega), ?_⟩
 intro w30 A30 _
 have N30 : Mod [bm] w w30 := ((N28.trans ydI).trans A30.mod).less (by simp)
 refine ⟨_, rfl, N30.less (by simp), rfl, put L q.x.c ⟨⟨true, q.x.n, q.x.op, ans⟩, q.rs, q.ts⟩, (yoS L q.x.c ⟨⟨true, q.x.n, q.x.op, ans⟩, q.rs, q.ts⟩).symm, ?_⟩
 refine ⟨N30.keep h.cells (by simp; exact hne), ho2.of_block (A30.mod.block _ ho2.lt (by simp)), fun p hp => ?_, h.base.go0 N30 (by simp; exact h.fm), h.fb, h.fm, fun p hp => ?_, h.lo⟩
 ·rcases yeR hp with rfl | hp
  ·exact hO
  ·exact h.ops p hp
 ·rcases yeR hp with rfl | hp
  ·exact h.lo
  ·exact h.since p hp
set_option maxHeartbeats 1000000 in
theorem yr9 {w0 w : World} {b bm : Nat} {sc sr : Sl} {ans : Int} {L : List (Int × KnV)} (h : WtAt w0 w b sc sr bm ans L) (q : EV) (hO : EvAt w0 q) (hc : s64 q.x.c) {calls : List PCall} {reps : List HV} (hC : ya8 w0 sc calls) (hl : calls.length ≤ 1000000) (hR : ybU w0 6 HV.cs sr.a sr.n reps) (hRO : ∀ r ∈ reps, RepAt w0 r.x r.f r.p) (hlen : reps.length = calls.length) :
  Calls pP 23 #[.pointer (some ⟨b, 0, none⟩), q.v] w fun e w' => ∃ v, e = .returned v ∧ ∃ t, v = .bool t ∧ Mod [b, bm] w w' ∧ match ymM calls (reps.map (·.x)) (knL L) ans q.x with
   | none => t = false ∧ WtAt w0 w' b sc sr bm ans L
   | some (L', ans') => t = true ∧ ∃ L2, knL L2 = L' ∧ WtAt w0 w' b sc sr bm ans' L2 := by
 have hne := h.ne
 have lb := ya5 h.cells
 have lm := h.mp.lt
 refine yu7 h.cells ?_
 intro b2 f2 w3 A3
 have h3 := h.keep0 A3.mod
 have s3 := A3.mod.size
 have l2 := A3.lt b2 (by simp)
 have hlk := fun w' (M : Mod [] w3 w') => (h3.keep0 M).mp.look (T := 66) false ygU ycC Tryz.underlying66 (yq5 w') (ycQ hc)
 simp only [yq6, Bool.false_eq_true, if_false] at hlk
 obtain ⟨hkO, hks⟩ := h.get q.x.c
 unfold ymM
 rw [yoR]
 generalize (lkp L q.x.c).getD yp5 = kv at hlk hkO hks ⊢
 refine ⟨_, _, _, _, _, _, _, _, _, _, _, _, _, _, _, _, _, _, _, _, _, fun w' M => hlk w' M, ?_⟩
 intro b25 f25 w26 A26
 have l25 := A26.lt b25 (by simp)
 have N26 := A3.mod.go0 A26.mod (by simp)
 have B26 := h.base.go0 N26 (by simp)
 refine (yiJ (hC.keep0 B26) hl q.x.c q.x.n).mono ?_
 rintro _ w27 ⟨rfl, M27⟩
 have N27 := N26.go0 M27 (by simp)
 have B27 := h.base.go0 N27 (by simp)
 refine ⟨_, rfl, yaJ.of0 M27, ?_⟩
 have no : ∀ {w' w''}, Mod [] w w' → Adv [] [] w' w'' → ∃ t, Value.bool false = Value.bool t ∧ Mod [b, bm] w w'' ∧ (t = false ∧ WtAt w0 w'' b sc sr bm ans L) := fun N A => ⟨_, rfl, (N.go0 A.mod (by simp)).less (by simp), rfl, h.keep0 (N.go0 A.mod (by simp))⟩
 refine yaH (fun g => ?_) fun g => ?_
 ·intro w29 A29 _
  rw [if_pos (by simpa using g)]
  exact no N27 A29
 rw [if_neg (by rw [show kv.k.waits = true by simpa using g]; simp)]
 refine yaH (fun g2 => ?_) fun g2 => ?_
 ·intro w29 A29 _
  rw [if_pos (by simpa using g2)]
  exact no N27 A29
 rw [if_neg (by simpa using g2)]
 refine yaP (fun g3 => ?_) fun g3 => ?_
 ·intro w29 A29 _
  rw [if_pos g3]
  exact no N27 A29
 rw [if_neg g3]
 obtain ⟨k, hk⟩ : ∃ k : Nat, yb2 calls q.x.c q.x.n = k := ⟨(yb2 calls q.x.c q.x.n).toNat, by omega⟩
 have hkc : ∃ y, calls[k]? = some y := by
  unfold yb2 at hk
  cases hf : calls.findIdx? (isC q.x.c q.x.n) with
  | none => rw [hf] at hk; simp only at hk; omega
  | some i =>
   rw [hf] at hk
   simp only at hk
   obtain ⟨hl, _⟩ := List.findIdx?_eq_some_iff_getElem.1 hf
   have : i = k := by omega
   subst this
   exact ⟨_, List.getElem?_eq_getElem hl⟩
 obtain ⟨y, hy⟩ := hkc
 rw [hk]
 obtain ⟨ll, hS, hSO, hcl⟩ := hC
 rw [← hcl] at hy
 obtain ⟨cv, hcv, hyv⟩ : ∃ cv, ll[k]? = some cv ∧ cv.x = y := by
  rw [List.getElem?_map] at hy
  simpa using hy
 have hkl := (List.getElem?_eq_some_iff.1 hy).1
 obtain ⟨rv, hrv⟩ : ∃ rv, reps[k]? = some rv := ⟨_, List.getElem?_eq_getElem (by rw [hlen, ← hcl]; exact hkl)⟩
 have e1 : calls[((k : Nat) : Int).toNat]? = some y := by rw [← hcl]; exact hy
 have e2 : (reps.map (·.x))[((k : Nat) : Int).toNat]? = some rv.x := by simp [hrv]
 rw [e1, e2]
 simp only
 refine (hS.keep0 B27).ixW hcv fun ad had => ?_
 intro w33 A33
 have N33 := N27.go0 A33.mod (by simp)
 have B33 := h.base.go0 N33 (by simp)
 refine ykH (yiI (had w33 A33.mod)) ?_
 refine (yjB ((hSO cv (List.mem_of_getElem? hcv)).keep0 B33) (hkO.keep0 B33)).mono ?_
 rintro _ w52 ⟨rfl, M52⟩
 have N52 := N33.go0 M52 (by simp)
 have B52 := h.base.go0 N52 (by simp)
 refine ⟨_, rfl, yaJ.of0 M52, ?_⟩
 subst hyv
 refine yaH (fun g4 => ?_) fun g4 => ?_
 ·intro w54 A54 _
  rw [if_pos (by simpa using g4)]
  exact no N52 A54
 rw [if_neg (by simpa using g4)]
 refine (hR.keep0 B52).ix hrv fun a2 ha2 => ?_
 refine yaF (x := rv.x.e) (by simpa [add_zero] using ha2 0 _ rfl) (yaF (ha2 1 _ rfl) (yaF (ha2 2 _ rfl) (yaF (ha2 3 _ rfl) (yaY (ha2 4 _ rfl) (yaY (ha2 5 _ rfl) ?_)))))
 refine (ypP (hO.rep.keep0 B52) ((hRO rv (List.mem_of_getElem? hrv)).keep0 B52)).mono ?_
 rintro _ w66 ⟨rfl, M66⟩
 have N66 := N52.go0 M66 (by simp)
 refine ⟨_, rfl, yaJ.of0 M66, ?_⟩
 refine yaH (fun g5 => ?_) fun g5 => ?_
 ·intro w68 A68 _
  rw [if_pos (by simpa using g5)]
  exact no N66 A68
 rw [if_neg (show ¬ q.x.r ≠ rv.x by simpa using g5)]
 intro w69 A69
 have N69 := N66.go0 A69.mod (by simp; omega)
 have h69 := h.keep0 N69
 have s69 := N69.size
 have s26 := N26.size
 obtain ⟨o, ho1, ho2⟩ := h69.mp.update ygU ycC Tryz.underlying66 (⟨⟨false, kv.k.last, kv.k.op, kv.k.since⟩, kv.rs, kv.ts⟩ : KnV) (ycQ hc)
 refine ⟨_, ho1, yaJ.of ydI (by simp; omega), ?_⟩
 intro w71 A71 h71
 have N71 : Mod [b, bm] w w71 := ((N69.trans ydI).trans A71.mod).less (by simp)
 refine ⟨_, rfl, N71, rfl, put L q.x.c ⟨⟨false, kv.k.last, kv.k.op, kv.k.since⟩, kv.rs, kv.ts⟩, (yoS L q.x.c ⟨⟨false, kv.k.last, kv.k.op, kv.k.since⟩, kv.rs, kv.ts⟩).symm, ?_⟩
 refine ⟨h71, ho2.of_block (A71.mod.block _ ho2.lt (by simp; omega)), fun p hp => ?_, h.base.go0 N71 (by simp; exact ⟨h.fb, h.fm⟩), h.fb, h.fm, fun p hp => ?_, ?_⟩
 ·rcases yeR hp with rfl | hp
  ·exact hkO
  ·exact h.ops p hp
 ·rcases yeR hp with rfl | hp
  ·exact hks
  ·exact h.since p hp
 ·have := h.lo
  split <;> omega
end Go.Proofs.YtkepmmocldnnfaaGreat
namespace Go.Proofs.YtkepmmocldnnfaaGreat
open Go Go.RowKit
set_option linter.all false
section
set_option maxRecDepth 100000
variable {R : VWP} {w w0 : World} {m : Nat} {i0 i1 i2 i3 i4 i5 i6 i7 i8 i9 j0 j1 j2 j3 j4 j5 j6 j7 j8 j9 k0 k1 k2 k3 k4 k5 k6 k7 k8 k9 l0 l1 l2 l3 l4 l5 l6 l7 l8 l9 : Int} {s0 s1 s2 s3 s4 s5 s6 s7 s8 s9 t0 t1 t2 t3 t4 t5 t6 t7 t8 t9 : BA} {n0 n1 n2 n3 n4 n5 n6 n7 n8 n9 o0 o1 o2 o3 o4 o5 o6 o7 o8 o9 p0 p1 p2 p3 p4 p5 p6 p7 p8 p9 : Nat} {q0 q1 q2 q3 q4 q5 q6 q7 q8 q9 r0 r1 r2 r3 r4 r5 r6 r7 r8 r9 : OA} {B0 B1 B2 B3 B4 B5 B6 B7 B8 B9 : Bool} {M0 M1 M2 M3 : Option Nat} {V0 V1 V2 V3 V4 V5 : Value} {A0 A1 A2 : Addr}
def ykO : LA := ⟨[0, 0, 1, 0, 1, 1, 1], [8, 9, 24, 25, 26], [(9, 0, 0)], 1, [0]⟩
def ylN : List LA := [ykO]
abbrev yu8 := dnF pP ylN (code Tryz.f11)
abbrev yxF := ybE pP ylN (code Tryz.f11)
abbrev yu9 (p : List Nat) (K : List Kh) (R : VWP) := ybE pP ylN (code Tryz.f11) p K (ycT pP Tryz.f11 [] R)
def ygV (b3 : Int) (a8 : OA) (b0 a9 : Nat) (b1 : Int) (bm0 : Nat) : Int × (Option Addr) × Nat × Nat × (Option Addr) × Nat × Nat × (Option Nat) × Int → List Value × List TB := fun (b2, a0, a5, a2, a1, a6, a3, a4, a7) => ([.int .i64 b3, (.pointer (some ⟨bm0, 0, none⟩)), .slice a8 b0 a9, .int .i64 b1, .int .i64 b2], [⟨bm0, 68, [.slice a0 a5 a2, .slice a1 a6 a3, (.map a4), .int .i64 a7], true⟩])
abbrev yoU (a4 : Int) (a0 : OA) (a2 a1 : Nat) (a3 : Int) (bm0 : Nat) (I : Nat → Int → Option Addr → Nat → Nat → Option Addr → Nat → Nat → Option Nat → Int → World → Prop) (m : Nat) : Kh := KG (ygV a4 a0 a2 a1 a3 bm0) (U9 I) m
theorem yjI {I : Nat → Int → Option Addr → Nat → Nat → Option Addr → Nat → Nat → Option Nat → Int → World → Prop} (m' : Nat) (h1 : m' < m) (h2 : I m' i2 q1 n3 n4 q2 n5 n6 M0 i3 w) : KS (yoU i0 q0 n0 n1 i1 n2 I m) (ygV i0 q0 n0 n1 i1 n2 (i2, q1, n3, n4, q2, n5, n6, M0, i3)) w := ⟨m', h1, _, rfl, rfl, h2⟩
theorem yoV (I : Nat → Int → Option Addr → Nat → Nat → Option Addr → Nat → Nat → Option Nat → Int → World → Prop) (m0 : Nat) (h0 : I m0 i2 q1 n3 n4 q2 n5 n6 M0 i3 w0)
 (hr : ∀ (m : Nat) (a9 : Int) (a1 : OA) (a6 a3 : Nat) (a2 : OA) (a7 a4 : Nat) (a5 : Option Nat) (a8 : Int) (w : World), I m a9 a1 a6 a3 a2 a7 a4 a5 a8 w →
 w.heap[n2]? = some (.cells #[.slice a1 a6 a3, .slice a2 a7 a4, (.map a5), .int .i64 a8] 68) →
 brB (decide (a9 < i1)) (
 ixA q0 n0 a9 23 fun a0 =>
 yaA .i64 w a0 fun g4 => yaA .i64 w (Addr.add a0 1) fun g5 => yaG w (Addr.add a0 2) fun e1 => yaA .i64 w (Addr.add a0 3) fun g6 => yaC w (Addr.add a0 4) fun f9 => yaA .i64 w (Addr.add a0 5) fun g7 => yaA .i64 w (Addr.add a0 6) fun g8 => yaA .i64 w (Addr.add a0 7) fun g9 => yaA .i64 w (Addr.add a0 8) fun h1 => yaA .i64 w (Addr.add a0 9) fun h2 => yaA .i64 w (Addr.add a0 10) fun h3 => yaB w (Addr.add a0 11) fun e5 f4 f0 => yaC w (Addr.add a0 12) fun g0 => yaC w (Addr.add a0 13) fun g1 => yaA .i64 w (Addr.add a0 14) fun h4 => yaG w (Addr.add a0 15) fun g2 => yaB w (Addr.add a0 16) fun e6 f5 f1 => yaA .i64 w (Addr.add a0 17) fun h5 => yaA .i64 w (Addr.add a0 18) fun h6 => yaA .i64 w (Addr.add a0 19) fun h7 => yaA .i64 w (Addr.add a0 20) fun h8 => yaB w (Addr.add a0 21) fun e7 f6 f2 => yaB w (Addr.add a0 22) fun e8 f7 f3 =>
 ∀ b3, w.heap.size ≤ b3 →
 brB e1 (
 brB (i0 != 0) (
 ∀ e2, Adv [] [b3] w e2 → e2.heap[n2]? = some (.cells #[.slice a1 a6 a3, .slice a2 a7 a4, (.map a5), .int .i64 a8] 68) →
 R (.int .i64 a9) e2)
 (
 ∀ c7, Adv [] [b3] w c7 → c7.heap[n2]? = some (.cells #[.slice a1 a6 a3, .slice a2 a7 a4, (.map a5), .int .i64 a8] 68) →
 Calls pP 23 #[(.pointer (some ⟨n2, 0, none⟩)), (.agg (Z1 g4 g5 e1 g6 f9 g7 g8 g9 h1 h2 h3 e5 f4 f0 g0 g1 h4 g2 e6 f5 f1 h5 h6 h7 h8 e7 f6 f2 e8 f7 f3))] c7 fun e c8 => ∃ g3, e = .returned (.bool g3) ∧ yfK [n2] [(b3, 46)] [b3] c7 c8 ∧ ∃ e9 f8 d3 d0 d7 d4, ∃ m104 : Option Nat, ∃ e3, c8.heap[n2]? = some (.cells #[.slice e9 f8 d3, .slice d0 d7 d4, (.map m104), .int .i64 e3] 68) ∧
 brB (!g3) (
 R (.int .i64 a9) c8)
 (
 KS (yoU i0 q0 n0 n1 i1 n2 I m) (ygV i0 q0 n0 n1 i1 n2 ((IntKind.wrap .i64 (a9 + 1)), e9, f8, d3, d0, d7, d4, m104, e3)) c8)))
 (
 brB (i0 != 0) (
 ∀ c6, Adv [] [b3] w c6 → c6.heap[n2]? = some (.cells #[.slice a1 a6 a3, .slice a2 a7 a4, (.map a5), .int .i64 a8] 68) →
 R (.int .i64 a9) c6)
 (
 ∀ c4, Adv [] [b3] w c4 → c4.heap[n2]? = some (.cells #[.slice a1 a6 a3, .slice a2 a7 a4, (.map a5), .int .i64 a8] 68) →
 Calls pP 22 #[(.pointer (some ⟨n2, 0, none⟩)), (.agg (Z1 g4 g5 e1 g6 f9 g7 g8 g9 h1 h2 h3 e5 f4 f0 g0 g1 h4 g2 e6 f5 f1 h5 h6 h7 h8 e7 f6 f2 e8 f7 f3))] c4 fun e c5 => ∃ e0, e = .returned (.bool e0) ∧ yfK [n2] [(b3, 46)] [b3] c4 c5 ∧ ∃ d1 d8 d5 d2 d9 d6, ∃ m127 : Option Nat, ∃ e4, c5.heap[n2]? = some (.cells #[.slice d1 d8 d5, .slice d2 d9 d6, (.map m127), .int .i64 e4] 68) ∧
 brB (!e0) (
 R (.int .i64 a9) c5)
 (
 KS (yoU i0 q0 n0 n1 i1 n2 I m) (ygV i0 q0 n0 n1 i1 n2 ((IntKind.wrap .i64 (a9 + 1)), d1, d8, d5, d2, d9, d6, m127, e4)) c5))))
 (
 R (.int .i64 (-1)) w)) :
 ybC ykO (yu8 395 [0, 0, 1, 0, 1, 1, 1]) (yu9 [1, 1, 1, 0, 1, 0] [] R) (ygV i0 q0 n0 n1 i1 n2 (i2, q1, n3, n4, q2, n5, n6, M0, i3)) w0 :=
 lrule (ygV i0 q0 n0 n1 i1 n2) (U9 I) h0 (by rintro m ⟨a9, a1, a6, a3, a2, a7, a4, a5, a8⟩ w h; exact ⟨by kernel_rfl, by kernel_rfl, fun js => Eq.mpr (by kernel_rfl) (hr m a9 a1 a6 a3 a2 a7 a4 a5 a8 w h)⟩)
theorem yvA {a2 a1 : Nat} {a3 a5 : Nat} (h :
 Calls pP 8 #[.int .i64 i0, .slice q0 a2 a1] w fun e w6 => ∃ a7 n8 c9 b2, e = .returned (.tuple #[.slice a7 n8 c9, .int .i64 b2]) ∧
 al w6 (.map #[] 0) fun b0 b1 =>
 ∀ a9, b1.heap.size ≤ a9 →
 ∀ a8, Adv [] [a9] b1 a8 → a8.heap[a9]? = some (.cells #[.slice q0 a2 a1, .slice a7 n8 c9, (.map (some b0)), (.int .i64 (-1))] 68) →
 ybC ykO (yu8 395 [0, 0, 1, 0, 1, 1, 1]) (yu9 [1, 1, 1, 0, 1, 0] [] R) (ygV b2 q1 a3 a5 (a3 : Int) a9 (0, q0, a2, a1, a7, n8, c9, (some b0), (-1))) a8) :
 CR pP 11 (Z10 i0 q0 a2 a1 q1 a3 a5) w R :=
 yaD Tryz.wide_mixed (an := ylN) Tryz.func11 rfl rfl (by kernel_rfl) rfl (Eq.mpr (by kernel_rfl) h)
end
end Go.Proofs.YtkepmmocldnnfaaGreat
namespace Go.Proofs.YtkepmmocldnnfaaGreat
open Go Go.RowKit Go.Maps Go.MapKept
set_option linter.unusedVariables false
set_option linter.unusedSimpArgs false
def goF (calls : List PCall) (reps : List PRep) : Nat → KL → Int → List PEv → Int
 | _, _, _, [] => -1
 | i, L, ans, e :: r => if e.a = true then (match ymM calls reps L ans e with
  | none => (i : Int)
  | some (L', ans') => goF calls reps (i + 1) L' ans' r) else (match ymL L ans e with
  | none => (i : Int)
  | some L' => goF calls reps (i + 1) L' ans r)
def ybZ (er : Int) (calls : List PCall) (reps : List PRep) (evs : List PEv) : Int := if er = 0 then goF calls reps 0 [] (-1) evs else if evs.length = 0 then -1 else 0
theorem yoW {w : World} {a : Addr} {q : EV} {F : Int → Int → Bool → Int → ByteArray → Int → Int → Int → Int → Int → Int → Option Addr → Nat → Nat → ByteArray → ByteArray → Int → Bool → Option Addr → Nat → Nat → Int → Int → Int → Int → Option Addr → Nat → Nat → Option Addr → Nat → Nat → Prop} (h : ∀ j v, q.cs[j]? = some v → w.cell? (a.add j) = some v)
  (hF : F q.x.c q.x.n q.x.a q.x.op.kind q.x.op.part.t q.x.op.part.n q.x.op.n q.x.op.off q.x.op.b.prod q.x.op.b.epoch q.x.op.b.seq q.rs.a q.rs.n q.rs.c q.x.op.g q.x.op.m q.x.op.gen q.x.op.robin q.ts.a q.ts.n q.ts.c q.x.r.e q.x.r.off q.x.r.n q.x.r.gen q.f.a q.f.n q.f.c q.p.a q.p.n q.p.c) :
  yaA .i64 w a fun x0 => yaA .i64 w (a.add 1) fun x1 => yaG w (a.add 2) fun x2 => yaA .i64 w (a.add 3) fun x3 => yaC w (a.add 4) fun x4 => yaA .i64 w (a.add 5) fun x5 => yaA .i64 w (a.add 6) fun x6 => yaA .i64 w (a.add 7) fun x7 => yaA .i64 w (a.add 8) fun x8 => yaA .i64 w (a.add 9) fun x9 => yaA .i64 w (a.add 10) fun x10 => yaB w (a.add 11) fun a11 n11 c11 => yaC w (a.add 12) fun x12 => yaC w (a.add 13) fun x13 => yaA .i64 w (a.add 14) fun x14 => yaG w (a.add 15) fun x15 => yaB w (a.add 16) fun a16 n16 c16 => yaA .i64 w (a.add 17) fun x17 => yaA .i64 w (a.add 18) fun x18 => yaA .i64 w (a.add 19) fun x19 => yaA .i64 w (a.add 20) fun x20 => yaB w (a.add 21) fun a21 n21 c21 => yaB w (a.add 22) fun a22 n22 c22 => F x0 x1 x2 x3 x4 x5 x6 x7 x8 x9 x10 a11 n11 c11 x12 x13 x14 x15 a16 n16 c16 x17 x18 x19 x20 a21 n21 c21 a22 n22 c22 :=
 yaF (x := q.x.c) (by simpa [add_zero] using h 0 _ rfl) (yaF (h 1 _ rfl) (yaR (h 2 _ rfl) (yaF (h 3 _ rfl) (yaK (h 4 _ rfl) (yaF (h 5 _ rfl) (yaF (h 6 _ rfl) (yaF (h 7 _ rfl) (yaF (h 8 _ rfl) (yaF (h 9 _ rfl) (yaF (h 10 _ rfl) (yaY (h 11 _ rfl) (yaK (h 12 _ rfl) (yaK (h 13 _ rfl) (yaF (h 14 _ rfl) (yaR (h 15 _ rfl) (yaY (h 16 _ rfl) (yaF (h 17 _ rfl) (yaF (h 18 _ rfl) (yaF (h 19 _ rfl) (yaF (h 20 _ rfl) (yaY (h 21 _ rfl) (yaY (h 22 _ rfl) hF))))))))))))))))))))))
set_option maxHeartbeats 1000000 in
theorem yp6 {w : World} {s t : Sl} {calls : List PCall} {evs : List EV} {room er : Int} {reps : List HV}
  (hRep : Calls pP 8 #[.int .i64 room, .slice s.a s.n s.c] w fun e w' => ∃ v, e = .returned v ∧ ∃ s' : Sl, v = .tuple #[.slice s'.a s'.n s'.c, .int .i64 er] ∧ Mod [] w w' ∧ (er = 0 → ybU w' 6 HV.cs s'.a s'.n reps ∧ ∀ r ∈ reps, RepAt w' r.x r.f r.p))
  (hC : ya8 w s calls) (hl : calls.length ≤ 1000000) (hlen : reps.length = calls.length) (hE : ybU w 23 EV.cs t.a t.n evs) (hEO : ∀ q ∈ evs, EvAt w q ∧ s64 q.x.c) (hle : evs.length ≤ 1000000) :
  Calls pP 11 #[.int .i64 room, .slice s.a s.n s.c, .slice t.a t.n t.c] w fun e w' => e = .returned (.int .i64 (ybZ er calls (reps.map (·.x)) (evs.map (·.x)))) ∧ Mod [] w w' := by
 refine ya7 (yvA ?_)
 refine hRep.mono ?_
 rintro _ w6 ⟨_, rfl, sr, rfl, M6, hr⟩
 refine ⟨_, _, _, _, rfl, ybM fun b14 w15 c15 M15 f15 => ?_⟩
 intro b16 f16 w129 A129 h129
 have s15 := M15.size
 have hn := hE.1
 have B129 : Mod [] w6 w129 := M15.go0 A129.mod (by simp)
 have hE6 := hE.keep0 M6
 have hEO6 : ∀ q ∈ evs, EvAt w6 q ∧ s64 q.x.c := fun q hq => ⟨(hEO q hq).1.keep0 M6, (hEO q hq).2⟩
 have hC6 := hC.keep0 M6
 clear hE hEO hC
 have h0 : WtAt w6 w129 b16 s sr b14 (-1) [] := ⟨h129, ybT.of_new (A129.mod.keep0 c15), by simp, B129, by omega, f15, by simp, by omega⟩
 refine yoV (fun mm x a0 n0 c0 a1 n1 c1 m2 x3 w' => ∃ (k : Nat) (L : List (Int × KnV)), x = k ∧ k ≤ evs.length ∧ (a0 = s.a ∧ n0 = s.n ∧ c0 = s.c) ∧ (a1 = sr.a ∧ n1 = sr.n ∧ c1 = sr.c) ∧ m2 = some b14 ∧ WtAt w6 w' b16 s sr b14 x3 L ∧
   (er = 0 → goF calls (reps.map (·.x)) 0 [] (-1) (evs.map (·.x)) = goF calls (reps.map (·.x)) k (knL L) x3 ((evs.map (·.x)).drop k)) ∧ (er ≠ 0 → k = 0) ∧ mm = evs.length - k) evs.length
  ⟨0, [], rfl, by omega, ⟨rfl, rfl, rfl⟩, ⟨rfl, rfl, rfl⟩, rfl, h0, fun _ => rfl, fun _ => rfl, rfl⟩ ?_
 rintro mm x a0 n0 c0 a1 n1 c1 m2 x3 w1 ⟨k, L, rfl, hk, ⟨rfl, rfl, rfl⟩, ⟨rfl, rfl, rfl⟩, rfl, hW, hf, he, rfl⟩
 intro _
 have hne := hW.ne
 have N1 : Mod [] w w1 := M6.go0 hW.base (by simp)
 have lb := ya5 hW.cells
 have lm := hW.mp.lt
 have s6 := M6.size
 have sb := hW.fb
 have sm := hW.fm
 refine yaP (fun hlt => ?_) fun hge => ?_
 ·obtain ⟨q, hq⟩ : ∃ q, evs[k]? = some q := ⟨_, List.getElem?_eq_getElem (by omega)⟩
  have hqm := List.mem_of_getElem? hq
  have hq' : (evs.map (·.x))[k]? = some q.x := by simp [hq]
  have hd : (evs.map (·.x)).drop k = q.x :: (evs.map (·.x)).drop (k + 1) := by
   obtain ⟨h1, h2⟩ := List.getElem?_eq_some_iff.1 hq'
   rw [List.drop_eq_getElem_cons h1, h2]
  rw [hd] at hf
  simp only [goF] at hf
  obtain ⟨hqE, hqc⟩ := hEO6 q hqm
  have bad : ∀ {w'}, er ≠ 0 → Mod [] w1 w' → Value.int .i64 (k : Int) = .int .i64 (ybZ er calls (reps.map (·.x)) (evs.map (·.x))) ∧ Mod [] w w' := fun hne M => by
   refine ⟨?_, N1.go0 M (by simp)⟩
   rw [ybZ, if_neg hne, if_neg (by rw [List.length_map]; omega), he hne]
   rfl
  refine (hE6.keep0 hW.base).ix hq fun ad had => yoW had ?_
  intro b82 f82
  refine yaH (fun ga => ?_) fun ga => ?_
  ·rw [if_pos ga] at hf
   refine yaH (fun g => ?_) fun g => ?_
   ·intro w94 A94 _
    exact bad (by simpa using g) A94.mod
   have g : er = 0 := by simpa using g
   have hf := hf g
   obtain ⟨hr1, hr2⟩ := hr g
   intro w95 A95 _
   have l82 := A95.lt b82 (by simp)
   refine (yr9 (hW.keep0 A95.mod) q hqE hqc hC6 hl hr1 hr2 hlen).mono ?_
   rintro _ w96 ⟨_, rfl, t, rfl, M96, hm⟩
   refine ⟨_, rfl, yaJ.of M96 (fun i hi _ hc => by simp at hi hc; omega), ?_⟩
   have N96 : Mod [] w w96 := N1.go0 ((A95.mod.trans M96).less (T := [b16, b14]) (by simp)) (by simp; omega)
   cases hx : ymM calls (reps.map (·.x)) (knL L) x3 q.x with
   | none =>
    rw [hx] at hm hf
    obtain ⟨rfl, hW96⟩ := hm
    refine ⟨_, _, _, _, _, _, _, _, hW96.cells, brT rfl ⟨?_, N96⟩⟩
    rw [ybZ, if_pos g, hf]
   | some p =>
    obtain ⟨L', ans'⟩ := p
    rw [hx] at hm hf
    obtain ⟨rfl, L2, rfl, hW96⟩ := hm
    refine ⟨_, _, _, _, _, _, _, _, hW96.cells, brF rfl ?_⟩
    exact yjI (evs.length - (k + 1)) (by omega) ⟨k + 1, L2, by rw [yaW (by omega) (by omega)]; omega, by omega, ⟨rfl, rfl, rfl⟩, ⟨rfl, rfl, rfl⟩, rfl, hW96, fun _ => hf, fun h => absurd g h, rfl⟩
  ·rw [if_neg (by rw [ga]; simp)] at hf
   refine yaH (fun g => ?_) fun g => ?_
   ·intro w94 A94 _
    exact bad (by simpa using g) A94.mod
   have g : er = 0 := by simpa using g
   have hf := hf g
   intro w95 A95 _
   have l82 := A95.lt b82 (by simp)
   refine (yoT (hW.keep0 A95.mod) q hqE.op hqc).mono ?_
   rintro _ w96 ⟨_, rfl, t, rfl, M96, hm⟩
   refine ⟨_, rfl, yaJ.of M96 (fun i hi _ hc => by simp at hi hc; omega), ?_⟩
   have N96 : Mod [] w w96 := N1.go0 ((A95.mod.trans M96).less (T := [b16, b14]) (by simp)) (by simp; omega)
   cases hx : ymL (knL L) x3 q.x with
   | none =>
    rw [hx] at hm hf
    obtain ⟨rfl, hW96⟩ := hm
    refine ⟨_, _, _, _, _, _, _, _, hW96.cells, brT rfl ⟨?_, N96⟩⟩
    rw [ybZ, if_pos g, hf]
   | some L' =>
    rw [hx] at hm hf
    obtain ⟨rfl, L2, rfl, hW96⟩ := hm
    refine ⟨_, _, _, _, _, _, _, _, hW96.cells, brF rfl ?_⟩
    exact yjI (evs.length - (k + 1)) (by omega) ⟨k + 1, L2, by rw [yaW (by omega) (by omega)]; omega, by omega, ⟨rfl, rfl, rfl⟩, ⟨rfl, rfl, rfl⟩, rfl, hW96, fun _ => hf, fun h => absurd g h, rfl⟩
 ·have hk : k = evs.length := by omega
  subst hk
  refine ⟨?_, N1⟩
  rw [ybZ]
  by_cases g : er = 0
  ·rw [if_pos g, hf g, List.drop_of_length_le (by simp)]
   rfl
  ·rw [if_neg g, if_pos (by rw [List.length_map, he g])]
theorem ydV {w : World} {s t : Sl} {calls : List PCall} {evs : List EV} (room : Int) (hC : ya8 w s calls) (hl : calls.length ≤ 1000) (hT : ∀ q ∈ calls, q.op = yd7) (hE : ybU w 23 EV.cs t.a t.n evs) (hEO : ∀ q ∈ evs, EvAt w q ∧ s64 q.x.c) (hle : evs.length ≤ 1000000) :
  Calls pP 11 #[.int .i64 room, .slice s.a s.n s.c, .slice t.a t.n t.c] w fun e w' => e = .returned (.int .i64 (ybZ (if 1 ≤ room ∧ room ≤ 64 then 0 else 1) calls ((ybV calls.length).map (·.x)) (evs.map (·.x)))) ∧ Mod [] w w' := by
 refine yp6 (reps := ybV calls.length) ((ydU hC hl hT room).mono ?_) hC (by omega) (ye5 _) hE hEO hle
 rintro _ w' ⟨v, rfl, s', rfl, M, hr⟩
 refine ⟨_, rfl, s', rfl, M, fun h => ?_⟩
 have g : 1 ≤ room ∧ room ≤ 64 := by
  by_cases g : 1 ≤ room ∧ room ≤ 64
  ·exact g
  ·rw [if_neg g] at h; cases h
 refine ⟨(hr g).sl HV.cs_len, fun r hr' => ?_⟩
 simp only [ybV, List.mem_map] at hr'
 obtain ⟨k, _, rfl⟩ := hr'
 exact ⟨⟨rfl, by simp [ybB]⟩, ⟨rfl, by simp [ybB]⟩, by simp [ybB], by simp [ybB]⟩
end Go.Proofs.YtkepmmocldnnfaaGreat
namespace Go.Proofs
open Go.Shelf
shelf_lay_g SlLaysF0.n6 Slsf 6 at Tryz 26 as Tryz.hsortL
shelf_lay_g SlLaysC2.n5 Slgc 5 at Tryz 28 as Tryz.hcmpL
end Go.Proofs
namespace Go.Proofs.YtkepmmocldnnfaaGreat
open Go Go.RowKit Go.Shelf Go.Lib Go.Sort
set_option linter.unusedVariables false
set_option linter.unusedSimpArgs false
instance : Inhabited CV := ⟨⟨⟨0, 0, op0⟩, yeQ, yeQ⟩⟩
def ysA (x y : CV) : Int := Lib.compareInt x.x.c y.x.c
theorem ltC (x y : CV) : ltOf ysA x y = decide (x.x.c < y.x.c) := by
 unfold ltOf ysA Lib.compareInt
 by_cases h1 : x.x.c < y.x.c
 ·simp [h1]
 ·by_cases h2 : y.x.c < x.x.c <;> simp [h1, h2]
theorem yxG : SWO (ltOf ysA) where
 irrefl x := by rw [ltC]; simp
 trans x y z h1 h2 := by rw [ltC] at *; simp at *; omega
 ntrans x y z h1 h2 := by rw [ltC] at *; simp at *; omega
set_option maxHeartbeats 4000000 in
theorem yp7 (x y : CV) (W : World) : Calls pP 27 #[.agg x.cs.toArray, .agg y.cs.toArray] W fun e w' => e = .returned (.int .i64 (ysA x y)) ∧ ∃ q os', w' = grow (W.drewN q) os' := by
 have hcon := fun W' => AnyG.cmp_Compare_int Tryz.hcmpL x.x.c y.x.c W'
 change ∀ W', Calls pP 28 _ _ _ at hcon
 unfold ysA CV.cs
 generalize Lib.compareInt x.x.c y.x.c = r at hcon ⊢
 go_enter Tryz.func27, Tryz.ntmps27
 go_wp2_with (go_at_call 28; refine (hcon _).mono ?_; rintro e w' ⟨rfl, rfl⟩)
 go_ret
 exact ⟨rfl, 0, _, by rw [alloc_eq_grow, alloc_eq_grow, grow_grow]; rfl⟩
theorem yp8 (blk off size : Nat) (w : World) : CmpLays pP 27 #[] CV.cs 16 ysA blk off size w :=
 fun _ _ _ _ x y => yp7 x y _
theorem yhV {α : Type} [Inhabited α] {enc : α → List Value} {k : Nat} (hk : ∀ x, (enc x).length = k) (d : Array α) (t : Nat) (ht : t < d.size * k) : (d.toList.flatMap enc)[t]? = some ((flatK enc k d)[t]!) := by
  have k0 : 0 < k := by rcases Nat.eq_zero_or_pos k with h | h; · subst h; simp at ht
                        · exact h
  have hi : t / k < d.size := (Nat.div_lt_iff_lt_mul k0).2 ht
  have hj : t % k < k := Nat.mod_lt _ k0
  rw [get_flatK _ _ _ _ ht]
  have hx : d.toList[t / k]? = some d[t / k]! := by rw [getElem!_pos d (t / k) hi]; simp [hi]
  have := ybN hk d.toList (t / k) (t % k) _ hx hj
  have e : t / k * k + t % k = t := by rw [Nat.mul_comm]; exact Nat.div_add_mod t k
  rw [e] at this
  rw [this]
  have hl : t % k < (enc d[t / k]!).length := by rw [hk]; exact hj
  rw [List.getElem?_eq_getElem hl, getElem!_pos (enc d[t / k]!) (t % k) hl]
theorem ymN {α : Type} [Inhabited α] {w : World} {B T k g n c : Nat} {enc : α → List Value} {l : List α} (hk : ∀ x, (enc x).length = k) (h : Row w B T k enc (some ⟨g, 0, none⟩) n c l) : HoldsK enc k w g 0 l.toArray := by
 obtain ⟨hn, hlen, h⟩ := h
 rcases h with ⟨h, _⟩ | ⟨g', cap, cur, h1, h2, h3, h4, h5, h6, h7⟩
 ·cases h
 ·cases h1
  intro j hj
  have hj : j < l.length * k := by simpa using hj
  have e := yhV hk l.toArray j (by simpa using hj)
  have hcur : cur[j]? = some ((flatK enc k l.toArray)[j]!) := by
   rw [← e, ← h7]
   simp only [← Array.getElem?_toList]
   rw [List.getElem?_take, if_pos (by rw [hn]; exact hj)]
  refine ⟨?_, ?_⟩
  ·rw [yb5 h3]; simpa using hcur
  ·simp [World.frozen?, h3]
theorem ymO {α : Type} [Inhabited α] {w : World} {B T k g n c m : Nat} {enc : α → List Value} {l : List α} {d : Array α} {os : Array Obj} (hk : ∀ x, (enc x).length = k) (h : Row w B T k enc (some ⟨g, 0, none⟩) n c l) (hd : d.size = l.length) :
  Row (sortWorldK enc k w g 0 m d os) B T k enc (some ⟨g, 0, none⟩) n c d.toList ∧ Mod [g] w (sortWorldK enc k w g 0 m d os) := by
 obtain ⟨hn, hlen, h⟩ := h
 rcases h with ⟨h, _⟩ | ⟨g', cap, cur, h1, h2, h3, h4, h5, h6, h7⟩
 ·cases h
 ·cases h1
  have lg : g < w.heap.size := ya5 h3
  have hb : (sortWorldK enc k w g 0 m d os).heap[g]? = some (.cells (putCells id 0 (flatK enc k d) cur) T (0, 0)) := by
   show ((w.heap.modify g (onCells (putCells id 0 (flatK enc k d)))) ++ os)[g]? = _
   rw [Array.getElem?_append_left (by simpa using lg), Array.getElem?_modify, if_pos rfl, h3]
   rfl
  have hsz : (w.heap.modify g (onCells (putCells id 0 (flatK enc k d)))).size = w.heap.size := by simp
  refine ⟨⟨by simpa [hd] using hn, ?_, .inr ⟨g, c, putCells id 0 (flatK enc k d) cur, rfl, h2, hb, h4, h5, by simp [putCells, h6], ?_⟩⟩, rfl, rfl, rfl, ?_, fun i hi hS => ?_⟩
  ·have : ∀ (L : List α), (L.flatMap enc).length = L.length * k := fun L => by
    induction L with
    | nil => simp
    | cons x r ih => rw [List.flatMap_cons, List.length_append, ih, hk, List.length_cons, Nat.add_mul]; omega
   rw [this]; simp [hd, hn]
  ·refine List.ext_getElem? fun t => ?_
   by_cases ht : t < n * k
   ·have htd : t < d.size * k := by rw [hd, ← hn]; exact ht
    rw [yhV hk d t htd, List.getElem?_take, if_pos ht]
    have hc : t < cur.size := by
     rw [h6]; exact Nat.lt_of_lt_of_le ht (Nat.mul_le_mul_right k h4)
    have : (putCells id 0 (flatK enc k d) cur)[t]? = some ((flatK enc k d)[t]!) := by
     simp only [putCells, Array.getElem?_mapIdx]
     rw [Array.getElem?_eq_getElem hc]
     simp [htd]
    rw [Array.getElem?_toList, this]
   ·have h1 : ((putCells id 0 (flatK enc k d) cur).toList.take (n * k))[t]? = none := by rw [List.getElem?_take, if_neg ht]
    have h2 : (d.toList.flatMap enc)[t]? = none := by
     rw [List.getElem?_eq_none_iff]
     have : ∀ (L : List α), (L.flatMap enc).length = L.length * k := fun L => by
      induction L with
      | nil => simp
      | cons x r ih => rw [List.flatMap_cons, List.length_append, ih, hk, List.length_cons, Nat.add_mul]; omega
     rw [this]
     have : d.toList.length = n := by simp [hd, hn]
     rw [this]; omega
    rw [h1, h2]
  ·show w.heap.size ≤ ((w.heap.modify g (onCells (putCells id 0 (flatK enc k d)))) ++ os).size
   simp
  ·show ((w.heap.modify g (onCells (putCells id 0 (flatK enc k d)))) ++ os)[i]? = _
   rw [Array.getElem?_append_left (by simpa using hi), Array.getElem?_modify, if_neg (by intro e; exact hS (by simp [e]))]
theorem yp9 {w : World} {B : Nat} {s : Sl} {ll : List CV} (hR : Row w B 35 16 CV.cs s.a s.n s.c ll) (hl : ll.length ≤ 1000000) :
  Calls pP 26 #[.slice s.a s.n s.c, .func (.func 27) #[] #[]] w fun e w' => e = .returned (.tuple #[]) ∧ ∃ ll' : List CV, ll'.Perm ll ∧ ll'.Pairwise (fun a b => a.x.c ≤ b.x.c) ∧ Row w' B 35 16 CV.cs s.a s.n s.c ll' ∧ Mod (ydS s.a) w w' := by
 obtain ⟨sa, sn, sc⟩ := s
 have hn : sn = ll.length := hR.1
 subst hn
 cases sa with
 | none =>
  have h0 : ll = [] := by
   obtain ⟨_, _, h⟩ := hR
   rcases h with ⟨h, h2⟩ | ⟨g', cap, cur, h1, _⟩
   ·exact List.eq_nil_of_length_eq_zero h2
   ·cases h1
  subst h0
  refine (AnyF.slices_SortFunc_none Tryz.hsortL none sc (.func (.func 27) #[] #[]) w).mono ?_
  rintro _ w' ⟨rfl, rfl⟩
  exact ⟨rfl, [], List.Perm.refl _, List.Pairwise.nil, hR, (Mod.refl _).less (by simp)⟩
 | some ad =>
  obtain ⟨g, rfl⟩ : ∃ g, ad = ⟨g, 0, none⟩ := by
   obtain ⟨_, _, h⟩ := hR
   rcases h with ⟨h, h2⟩ | ⟨g', cap, cur, h1, _⟩
   ·cases h
   ·cases h1; exact ⟨g', rfl⟩
  have hH := ymN CV.cs_len hR
  have lg : g < w.heap.size := by
   obtain ⟨_, cur, hc⟩ := hR.block _ rfl
   exact ya5 hc
  have eg : ∀ args w, (callFunc 27 args).run pP w = .ok (.enter 27 args) w := enters_of Tryz.func27 (by kernel_rfl) rfl
  have hcon := AnyQ.slices_SortFunc Tryz.hsortL 16 (by intro w; kernel_rfl) (by intro w; kernel_rfl) CV.cs CV.cs_len CV.cs_one ysA yxG 27 #[] g 0 sc ll.toArray w eg (yp8 g 0 _ w) hH lg (by simp; omega)
  change Calls pP 26 _ _ _ at hcon
  refine hcon.mono ?_
  rintro _ w' ⟨rfl, d', m, os, hP, hSd, rfl⟩
  obtain ⟨p1, p2, p3⟩ := hP
  have hsz : d'.size = ll.length := by simpa using p1
  obtain ⟨hR', hM⟩ := ymO (m := m) (os := os) CV.cs_len hR hsz
  refine ⟨rfl, d'.toList, ?_, ?_, hR', hM⟩
  ·have et : d'.toList.take ll.length = d'.toList := List.take_of_length_le (by simp [hsz])
   simpa [hsz, et] using p3
  ·refine List.pairwise_iff_getElem.2 fun i j hi hj hij => ?_
   have := hSd i j (Nat.zero_le _) hij (by simpa [hsz] using hj)
   rw [ltC] at this
   simp only [decide_eq_false_iff_not] at this
   have hi' : i < d'.size := by simpa using hi
   have hj' : j < d'.size := by simpa using hj
   rw [getElem!_pos d' i hi', getElem!_pos d' j hj'] at this
   simp only [Array.getElem_toList]
   omega
end Go.Proofs.YtkepmmocldnnfaaGreat
namespace Go.Proofs.YtkepmmocldnnfaaGreat
open Go Go.RowKit
set_option linter.all false
section
set_option maxRecDepth 100000
variable {R : VWP} {w w0 : World} {m : Nat} {i0 i1 i2 i3 i4 i5 i6 i7 i8 i9 j0 j1 j2 j3 j4 j5 j6 j7 j8 j9 k0 k1 k2 k3 k4 k5 k6 k7 k8 k9 l0 l1 l2 l3 l4 l5 l6 l7 l8 l9 : Int} {s0 s1 s2 s3 s4 s5 s6 s7 s8 s9 t0 t1 t2 t3 t4 t5 t6 t7 t8 t9 : BA} {n0 n1 n2 n3 n4 n5 n6 n7 n8 n9 o0 o1 o2 o3 o4 o5 o6 o7 o8 o9 p0 p1 p2 p3 p4 p5 p6 p7 p8 p9 : Nat} {q0 q1 q2 q3 q4 q5 q6 q7 q8 q9 r0 r1 r2 r3 r4 r5 r6 r7 r8 r9 : OA} {B0 B1 B2 B3 B4 B5 B6 B7 B8 B9 : Bool} {M0 M1 M2 M3 : Option Nat} {V0 V1 V2 V3 V4 V5 : Value} {A0 A1 A2 : Addr}
def ykP : LA := ⟨[0, 0, 1, 0, 1, 1], [3, 10, 11, 12], [], 0, []⟩
def ykQ : LA := ⟨[0, 0, 1, 0, 1, 1, 1, 1], [6, 44], [], 0, []⟩
def ylO : List LA := [ykP, ykQ]
abbrev yqA := dnF pP ylO (code Tryz.f12)
abbrev yxH := ybE pP ylO (code Tryz.f12)
abbrev yqB (p : List Nat) (K : List Kh) (R : VWP) := ybE pP ylO (code Tryz.f12) p K (ycT pP Tryz.f12 [] R)
def yfI (a5 : Option Nat) (a0 : OA) (a2 a1 : Nat) (a3 : Int) : Int → List Value × List TB := fun a4 => ([(.map a5), .slice a0 a2 a1, .int .i64 a3, .int .i64 a4], [])
def yhW (a0 : Addr) : (Option Addr) × Nat × Nat → List Value × List TB := fun (a1, a3, a2) => ([.slice a1 a3 a2, (.pointer (some a0))], [])
abbrev ylP (a4 : Option Nat) (a0 : OA) (a2 a1 : Nat) (a3 : Int) (I : Nat → Int → World → Prop) (m : Nat) : Kh := KG (yfI a4 a0 a2 a1 a3) (U1 I) m
theorem ygW {I : Nat → Int → World → Prop} (m' : Nat) (h1 : m' < m) (h2 : I m' i1 w) : KS (ylP M0 q0 n0 n1 i0 I m) (yfI M0 q0 n0 n1 i0 i1) w := ⟨m', h1, _, rfl, rfl, h2⟩
theorem yoX (I : Nat → Int → World → Prop) (m0 : Nat) (h0 : I m0 i1 w0)
 (hr : ∀ m a6 w, I m a6 w →
 brB (decide (a6 < i0)) (
 ixA q0 n0 a6 23 fun a0 =>
 yaA .i64 w a0 fun a9 => yaA .i64 w (Addr.add a0 1) fun b4 => yaG w (Addr.add a0 2) fun e4 => yaA .i64 w (Addr.add a0 3) fun e6 => yaC w (Addr.add a0 4) fun e1 => yaA .i64 w (Addr.add a0 5) fun e7 => yaA .i64 w (Addr.add a0 6) fun e8 => yaA .i64 w (Addr.add a0 7) fun e9 => yaA .i64 w (Addr.add a0 8) fun f0 => yaA .i64 w (Addr.add a0 9) fun f1 => yaA .i64 w (Addr.add a0 10) fun f2 => yaB w (Addr.add a0 11) fun d5 d9 d7 => yaC w (Addr.add a0 12) fun e2 => yaC w (Addr.add a0 13) fun e3 => yaA .i64 w (Addr.add a0 14) fun f3 => yaG w (Addr.add a0 15) fun e5 => yaB w (Addr.add a0 16) fun d6 e0 d8 => yaA .i64 w (Addr.add a0 17) fun g3 => yaA .i64 w (Addr.add a0 18) fun g4 => yaA .i64 w (Addr.add a0 19) fun g5 => yaA .i64 w (Addr.add a0 20) fun g6 => yaB w (Addr.add a0 21) fun f7 g1 f9 => yaB w (Addr.add a0 22) fun f8 g2 g0 =>
 ∀ a7, w.heap.size ≤ a7 →
 brB (!e4) (
 ∀ b2, Adv [] [a7] w b2 →
 yg2 pP (Instr.mapUpdate 70 (.map M0) (.int .i64 a9) (.agg (Z0 a9 b4 e6 e1 e7 e8 e9 f0 f1 f2 d5 d9 d7 e2 e3 f3 e5 d6 e0 d8))) b2 fun b3 => yaJ [a7] b2 b3 ∧
 KS (ylP M0 q0 n0 n1 i0 I m) (yfI M0 q0 n0 n1 i0 (IntKind.wrap .i64 (a6 + 1))) b3)
 (
 ∀ a8, Adv [] [a7] w a8 →
 ∃ f4 b5 f5 c3 c8 c9 d0 d1 d2 d3 b6 c0 b8 c4 c5 d4 c6 b7 c1 b9, (∀ w', Mod [] a8 w' → (Instr.lookup 70 (.map M0) (.int .i64 a9) false).run pP w' = .ok (.agg (Z0 f4 b5 f5 c3 c8 c9 d0 d1 d2 d3 b6 c0 b8 c4 c5 d4 c6 b7 c1 b9)) w') ∧
 brB (b5 == b4) (
 yvV pP (Builtin.delete_ #[70, 3] 0 #[(.map M0), .int .i64 a9]) a8 fun f6 b1 => yaJ [a7] a8 b1 ∧
 KS (ylP M0 q0 n0 n1 i0 I m) (yfI M0 q0 n0 n1 i0 (IntKind.wrap .i64 (a6 + 1))) b1)
 (
 KS (ylP M0 q0 n0 n1 i0 I m) (yfI M0 q0 n0 n1 i0 (IntKind.wrap .i64 (a6 + 1))) a8)))
 (
 ymY pP (Instr.range 70 (.map M0)) w fun c2 c7 =>
 ybC ykQ (yqA 394 [0, 0, 1, 0, 1, 1, 1, 1]) (yqB [1, 1, 1, 1, 0, 1, 0] [] R) (yhW c2 (none, 0, 0)) c7)) :
 ybC ykP (yqA 396 [0, 0, 1, 0, 1, 1]) (yqB [1, 1, 0, 1, 0] [] R) (yfI M0 q0 n0 n1 i0 i1) w0 :=
 lrule (yfI M0 q0 n0 n1 i0) (U1 I) h0 (by rintro m a6 w h; exact ⟨by kernel_rfl, by kernel_rfl, fun js => Eq.mpr (by kernel_rfl) (hr m a6 w h)⟩)
abbrev yq7 (a0 : Addr) (I : Nat → Option Addr → Nat → Nat → World → Prop) (m : Nat) : Kh := KG (yhW a0) (U3 I) m
theorem yoY {I : Nat → Option Addr → Nat → Nat → World → Prop} (m' : Nat) (h1 : m' < m) (h2 : I m' q0 n0 n1 w) : KS (yq7 A0 I m) (yhW A0 (q0, n0, n1)) w := ⟨m', h1, _, rfl, rfl, h2⟩
theorem yoZ (I : Nat → Option Addr → Nat → Nat → World → Prop) (m0 : Nat) (h0 : I m0 q0 n0 n1 w0)
 (hr : ∀ m a2 a4 a3 w, I m a2 a4 a3 w →
 yrE pP (.pointer (some A0)) 0 w (fun e6 =>
 Calls pP 26 #[.slice a2 a4 a3, (.func (.func 27) #[] #[])] e6 fun e e8 => e = .returned (.tuple #[]) ∧
 R (.slice a2 a4 a3) e8)
 (fun e9 f0 e7 =>
 ∃ e5 d1 d2 d3 c3 d4 d5 d6 d7 d8 d9 a5 a7 a6 c4 c5 e0 c6 b1 b9 b5, ∃ a8, (Instr.entry (.pointer (some A0))).run pP e7 = .ok (.tuple #[e5, (.agg (Z0 d1 d2 d3 c3 d4 d5 d6 d7 d8 d9 a5 a7 a6 c4 c5 e0 c6 b1 b9 b5))]) a8 ∧
 ∀ a0, a8.heap.size ≤ a0 →
 ∀ a9, Adv [] [a0] a8 a9 →
 Calls pP 24 #[.slice b1 b9 b5] a9 fun e b0 => ∃ b2 c0 b6, e = .returned (.slice b2 c0 b6) ∧ yaJ [a0] a9 b0 ∧ (((.slice a5 a7 a6) : Value) = (.slice a5 a7 a6)) ∧
 Calls pP 25 #[.slice a5 a7 a6] b0 fun e c7 => ∃ b3 c1 b7, e = .returned (.slice b3 c1 b7) ∧ yaJ [a0] b0 c7 ∧
 ∀ c8, Adv [a0] [] c7 c8 →
 al c8 (.cells (Z0 d1 d2 d3 c3 d4 d5 d6 d7 d8 d9 b3 c1 b7 c4 c5 e0 c6 b2 c0 b6) 35) fun e2 c9 =>
 ydJ pP (Builtin.append_ #[23, 23] 23 #[.slice a2 a4 a3, (.slice (some ⟨e2, 0, none⟩) 1 1)]) c9 fun e1 e4 e3 d0 => yaJ [a0] c9 d0 ∧
 KS (yq7 A0 I m) (yhW A0 (e1, e4, e3)) d0)) :
 ybC ykQ (yqA 394 [0, 0, 1, 0, 1, 1, 1, 1]) (yqB [1, 1, 1, 1, 0, 1, 0] [] R) (yhW A0 (q0, n0, n1)) w0 :=
 lrule (yhW A0) (U3 I) h0 (by rintro m ⟨a2, a4, a3⟩ w h; exact ⟨by kernel_rfl, by kernel_rfl, fun js => Eq.mpr (by kernel_rfl) (hr m a2 a4 a3 w h)⟩)
theorem yvB (h :
 al w (.map #[] 0) fun b3 w4 =>
 ybC ykP (yqA 396 [0, 0, 1, 0, 1, 1]) (yqB [1, 1, 0, 1, 0] [] R) (yfI (some b3) q0 n0 n1 (n0 : Int) 0) w4) :
 CR pP 12 #[.slice q0 n0 n1] w R :=
 yaD Tryz.wide_mixed (an := ylO) Tryz.func12 rfl rfl (by kernel_rfl) rfl (Eq.mpr (by kernel_rfl) h)
end
end Go.Proofs.YtkepmmocldnnfaaGreat
namespace Go.Proofs.YtkepmmocldnnfaaGreat
open Go Go.RowKit Go.Maps Go.MapKept
set_option linter.unusedVariables false
set_option linter.unusedSimpArgs false
def ywI : PCall := ⟨0, 0, op0⟩
def yqC : CV := ⟨ywI, yeQ, yeQ⟩
theorem yvC (w : World) : (zeroValue 35).run pP w = .ok yqC.v w := by kernel_rfl
def yiK : List (Int × PCall) → List PEv → List (Int × PCall)
 | L, [] => L
 | L, e :: r => yiK (if e.a = false then put L e.c ⟨e.c, e.n, e.op⟩ else if ((lkp L e.c).getD ywI).n = e.n then del L e.c else L) r
def cvL (L : List (Int × CV)) : List (Int × PCall) := L.map fun p => (p.1, p.2.x)
theorem yqD {κ β γ : Type} [DecidableEq κ] (f : β → γ) (L : List (κ × β)) (k : κ) : del (L.map fun p => (p.1, f p.2)) k = (del L k).map fun p => (p.1, f p.2) := by
 induction L with
 | nil => rfl
 | cons q r ih => rw [List.map_cons, del, del, ih]; split <;> simp
theorem yqE {κ β : Type} [DecidableEq κ] {L : List (κ × β)} {k : κ} {q : κ × β} (h : q ∈ del L k) : q ∈ L := by
 induction L with
 | nil => exact h
 | cons p r ih =>
  unfold del at h
  split at h
  ·exact List.mem_cons_of_mem _ h
  ·rcases List.mem_cons.1 h with h | h
   ·rw [h]; exact List.mem_cons_self
   ·exact List.mem_cons_of_mem _ (ih h)
theorem yqF {κ β : Type} [DecidableEq κ] (L : List (κ × β)) (k : κ) (v : β) : (put L k v).length ≤ L.length + 1 := by
 induction L with
 | nil => simp [put]
 | cons q r ih => rw [put]; split <;> simp; omega
theorem yqG {κ β : Type} [DecidableEq κ] (L : List (κ × β)) (k : κ) : (del L k).length ≤ L.length := by
 induction L with
 | nil => simp [del]
 | cons q r ih => rw [del]; split <;> simp; omega
theorem yvD (o : Option CV) : o.elim yqC.v CV.v = (o.getD yqC).v := by cases o <;> rfl
theorem ysB (L : List (Int × CV)) (c : Int) : ((lkp (cvL L) c).getD ywI) = ((lkp L c).getD yqC).x := by
 unfold cvL
 rw [ylL]
 cases lkp L c <;> rfl
theorem yjJ {β : Type} : ∀ {L : List (Int × β)} {p : Int × β}, p ∈ L → (L.map (·.1)).Nodup → L.Perm (p :: yrX L p.1)
 | q :: r, p, hp, hn => by
  rw [List.map_cons, List.nodup_cons] at hn
  unfold yrX
  rcases List.mem_cons.1 hp with rfl | hp
  ·rw [List.filter_cons_of_neg (by simp)]
   have : r.filter (fun x => decide (x.1 ≠ p.1)) = r := List.filter_eq_self.2 fun x hx => by
    have : x.1 ≠ p.1 := fun e => hn.1 (e ▸ List.mem_map.2 ⟨x, hx, rfl⟩)
    simp [this]
   rw [this]
  ·have hne : q.1 ≠ p.1 := fun e => hn.1 (e ▸ List.mem_map.2 ⟨p, hp, rfl⟩)
   rw [List.filter_cons_of_pos (by simp [hne])]
   exact (List.Perm.cons q (yjJ hp hn.2)).trans (List.Perm.swap ..)
theorem ysC {w : World} {B : Nat} {f : Sl} {l : List CV} {y : CV} {bs : List Nat} {F : Option Addr → Nat → Nat → World → Prop} (hR : Row w B 35 16 CV.cs f.a f.n f.c l) (hl : l.length ≤ 1000000) (hB : B ≤ w.heap.size) (hbs : ∀ b ∈ bs, b ∉ ydS f.a)
  (hF : ∀ a' c' w', Row w' B 35 16 CV.cs a' (f.n + 1) c' (l ++ [y]) → Mod (ydS f.a) w w' → F a' (f.n + 1) c' w') :
  al w (.cells (CV.cs y).toArray 35) fun b w1 => ydJ pP (Builtin.append_ #[23, 23] 23 #[.slice f.a f.n f.c, .slice (some ⟨b, 0, none⟩) 1 1]) w1 fun a n c w2 => yaJ bs w1 w2 ∧ F a n c w2 := by
 refine ybM fun b w1 c1 M1 f1 => ?_
 have s1 := M1.size
 obtain ⟨i0, hi0, hz0, hz1, hz2⟩ := info_parts ylC
 refine yf6 (x := y) (hR.keep0 M1) Tryz.underlying23 hi0 hz0 hz1 hz2 rfl (by decide) c1 rfl (CV.cs_one _) (by omega) (by unfold maxLen; omega) (by omega) fun a' c' w8 hR8 hM8 => ?_
 have M8 := hM8 _ (yiD f.a)
 refine ⟨yaJ.of M8 fun b hb _ => hbs b hb, hF a' c' w8 hR8 ?_⟩
 exact (M1.trans M8).less fun k hk _ => by simpa using hk
set_option maxHeartbeats 2000000 in
theorem ysD {w : World} {t : Sl} {evs : List EV} (hE : ybU w 23 EV.cs t.a t.n evs) (hEO : ∀ q ∈ evs, OpAt w q.x.op q.rs q.ts ∧ s64 q.x.c) (hle : evs.length ≤ 1000) :
  Calls pP 12 #[.slice t.a t.n t.c] w fun e w' => ∃ v, e = .returned v ∧ ∃ (s' : Sl) (out : List PCall), v = .slice s'.a s'.n s'.c ∧ yiH w' w.heap.size s' out ∧ out.Perm ((yiK [] (evs.map (·.x))).map (·.2)) ∧ out.Pairwise (fun a b => a.c ≤ b.c) ∧ Mod [] w w' := by
 have hn := hE.1
 refine yvB ?_
 refine ybM fun b3 w4 c4 M4 f4 => ?_
 refine yoX (fun mm x w' => ∃ (k : Nat) (L : List (Int × CV)), x = k ∧ k ≤ evs.length ∧ ybT pP 3 hki CV.v w' b3 L ∧ (∀ p ∈ L, OpAt w p.2.x.op p.2.rs p.2.ts) ∧ yiK [] (evs.map (·.x)) = yiK (cvL L) ((evs.map (·.x)).drop k) ∧ L.length ≤ k ∧ Mod [] w w' ∧ mm = evs.length - k) evs.length
  ⟨0, [], rfl, by omega, ybT.of_new c4, by simp, rfl, by simp, M4, rfl⟩ ?_
 rintro mm x w1 ⟨k, L, rfl, hk, hM, hO, hf, hL, M1, rfl⟩
 have hfr : ∀ i ∈ [b3], w.heap.size ≤ i := fun i hi => by simp at hi; omega
 have lm := hM.lt
 refine yaP (fun hlt => ?_) fun hge => ?_
 ·obtain ⟨q, hq⟩ : ∃ q, evs[k]? = some q := ⟨_, List.getElem?_eq_getElem (by omega)⟩
  have hqm := List.mem_of_getElem? hq
  have hq' : (evs.map (·.x))[k]? = some q.x := by simp [hq]
  have hd : (evs.map (·.x)).drop k = q.x :: (evs.map (·.x)).drop (k + 1) := by
   obtain ⟨h1, h2⟩ := List.getElem?_eq_some_iff.1 hq'
   rw [List.drop_eq_getElem_cons h1, h2]
  obtain ⟨hqO, hqc⟩ := hEO q hqm
  rw [hd, yiK] at hf
  refine (hE.keep0 M1).ix hq fun ad had => yoW had ?_
  intro b70 f70
  refine yaH (fun ga => ?_) fun ga => ?_
  ·have ga : q.x.a = false := by simpa using ga
   rw [if_pos ga] at hf
   intro w73 A73
   have N73 := M1.go0 A73.mod (by simp)
   have hM73 := hM.of_block (A73.mod.block _ hM.lt (by simp))
   obtain ⟨o, ho1, ho2⟩ := hM73.update ygU ycC Tryz.underlying70 (⟨⟨q.x.c, q.x.n, q.x.op⟩, q.rs, q.ts⟩ : CV) (ycQ hqc)
   refine ⟨_, ho1, yaJ.of ydI (by simp; omega), ?_⟩
   refine ygW (evs.length - (k + 1)) (by omega) ⟨k + 1, _, by rw [yaW (by omega) (by omega)]; omega, by omega, ho2, fun p hp => ?_, ?_, ?_, N73.go0 ydI hfr, rfl⟩
   ·rcases yeR hp with rfl | hp
    ·exact hqO
    ·exact hO p hp
   ·rw [hf]
    exact congrArg (fun L => yiK L _) (ylM CV.x L q.x.c ⟨⟨q.x.c, q.x.n, q.x.op⟩, q.rs, q.ts⟩)
   ·have := yqF L q.x.c (⟨⟨q.x.c, q.x.n, q.x.op⟩, q.rs, q.ts⟩ : CV); omega
  ·have ga : q.x.a = true := by simpa using ga
   rw [if_neg (by rw [ga]; simp), ysB] at hf
   intro w96 A96
   have N96 := M1.go0 A96.mod (by simp)
   have hM96 := hM.of_block (A96.mod.block _ hM.lt (by simp))
   have hlk := fun w' (M : Mod [] w96 w') => (hM96.of_block (M.block _ hM96.lt (by simp))).look (T := 70) false ygU ycC Tryz.underlying70 (yvC w') (ycQ hqc)
   simp only [yvD, Bool.false_eq_true, if_false] at hlk
   refine ⟨_, _, _, _, _, _, _, _, _, _, _, _, _, _, _, _, _, _, _, _, fun w' M => hlk w' M, ?_⟩
   refine yaH (fun g => ?_) fun g => ?_
   ·rw [if_pos (by simpa using g)] at hf
    obtain ⟨o, ho1, ho2⟩ := hM96.delete ygU ycC Tryz.underlying70 (ycQ hqc) 0
    refine ⟨_, _, ho1, yaJ.of ydI (by simp; omega), ?_⟩
    refine ygW (evs.length - (k + 1)) (by omega) ⟨k + 1, _, by rw [yaW (by omega) (by omega)]; omega, by omega, ho2, fun p hp => hO p (yqE hp), ?_, ?_, N96.go0 ydI hfr, rfl⟩
    ·rw [hf]
     exact congrArg (fun L => yiK L _) (yqD CV.x L q.x.c)
    ·have := yqG L q.x.c; omega
   ·rw [if_neg (by simpa using g)] at hf
    exact ygW (evs.length - (k + 1)) (by omega) ⟨k + 1, L, by rw [yaW (by omega) (by omega)]; omega, by omega, hM96, hO, hf, by omega, N96, rfl⟩
 ·have hk : k = evs.length := by omega
  subst hk
  rw [List.drop_of_length_le (by simp)] at hf
  have hf : yiK [] (evs.map (·.x)) = cvL L := hf
  rw [hf]
  obtain ⟨w2, h2, M2, I2⟩ := ycF.start (T := 70) hM Tryz.underlying70
  refine ⟨_, w2, h2, ?_⟩
  have s1 := M1.size
  generalize hr : w1.heap.size = r at I2 ⊢
  have N2 := M1.go0 M2 (by simp)
  refine yoZ (fun mm a n c w' => ∃ (left : List (Int × CV)) (out : List CV), ycF pP 3 hki CV.v w' r b3 L left ∧ Row w' w.heap.size 35 16 CV.cs a n c out ∧ (∀ q ∈ out, OpOwn w' w.heap.size q.x.op q.rs q.ts) ∧ (out.map (·.x) ++ left.map (·.2.x)).Perm (L.map (·.2.x)) ∧ (∀ p ∈ left, p ∈ L) ∧ (left.map (·.1)).Nodup ∧ Mod [] w w' ∧ mm = left.length) L.length
   ⟨L, [], I2, Row.nil .., by simp, by simp, fun p hp => hp, hM.nodup, N2, rfl⟩ ?_
  rintro mm a n c w3 ⟨left, out, I3, hR, hOw, hP, hsub, hnd, N3, rfl⟩
  have hlen : out.length + left.length = L.length := by have := hP.length_eq; simpa using this
  have s3 := N3.size
  rcases I3.step (ty := 0) ycC with ⟨hl, hs⟩ | ⟨p, hp, w4', hs, M4', I4, hen⟩
  ·subst hl
   refine .inl ⟨_, hs, ?_⟩
   refine (yp9 (s := ⟨a, n, c⟩) hR (by omega)).mono ?_
   rintro _ w132 ⟨rfl, ll', hp1, hp2, hR', M'⟩
   have lk := yc4 hR
   refine ⟨rfl, ⟨a, n, c⟩, ll'.map (·.x), rfl, ⟨ll', hR', fun q hq => ?_, rfl⟩, ?_, ?_, N3.go0 M' fun i hi => (lk i hi).1⟩
   ·refine (hOw q (hp1.mem_iff.1 hq)).keep M' fun i hi cs T hc => ?_
    obtain ⟨_, _, cur, hcur⟩ := ybH hR i hi
    rw [hcur] at hc; cases hc
    decide
   ·refine (hp1.map (·.x)).trans ?_
    have : (out.map (·.x)).Perm (L.map (·.2.x)) := by simpa using hP
    refine this.trans ?_
    unfold cvL
    rw [List.map_map]
    exact List.Perm.refl _
   ·exact List.pairwise_map.2 hp2
  ·have hpL := hsub p hp
   have hrr : ∀ i ∈ [r], w.heap.size ≤ i := fun i hi => by simp at hi; omega
   have N4 := N3.go0 M4' hrr
   have nr : r ∉ ydS a := fun hi => by
    obtain ⟨_, _, cur, hc⟩ := ybH hR r hi
    obtain ⟨es, clock, since, seen, c0, h1, _⟩ := I3
    rw [h1] at hc; cases hc
   have hR4 : Row w4' w.heap.size 35 16 CV.cs a n c out := ybF hR M4' (by simpa using nr)
   have hOw4 : ∀ q ∈ out, OpOwn w4' w.heap.size q.x.op q.rs q.ts := fun q hq => (hOw q hq).keep M4' fun i hi cs T hc => by
    simp at hi; subst hi
    obtain ⟨es, clock, since, seen, c0, h1, _⟩ := I3
    rw [h1] at hc; cases hc
   refine .inr ⟨_, _, w4', hs, _, _, _, _, _, _, _, _, _, _, _, _, _, _, _, _, _, _, _, _, _, w4', hen w4' (Mod.refl _), ?_⟩
   have hpO := (hO p hpL).keep0 N4
   intro b180 f180 w181 A181
   have l180 := A181.lt b180 (by simp)
   have s181 := A181.mod.size
   have s4 := M4'.size
   refine (yoB (s := p.2.ts) (l := p.2.x.op.topics) (hpO.keep0 A181.mod).topics hpO.lt).mono ?_
   rintro _ w182 ⟨_, rfl, ts', rfl, hTs, M182⟩
   refine ⟨_, _, _, rfl, yaJ.of0 M182, rfl, ?_⟩
   have s182 := M182.size
   refine (yoC (s := p.2.rs) (l := p.2.x.op.b.recs) ((hpO.keep0 A181.mod).keep0 M182).recs hpO.lr).mono ?_
   rintro _ w186 ⟨_, rfl, rs', rfl, hRs, M186⟩
   refine ⟨_, _, _, rfl, yaJ.of0 M186, ?_⟩
   have s186 := M186.size
   intro w197 A197
   have s197 := A197.mod.size
   have K197 : Mod [] w4' w197 := ((A181.mod.go0 M182 (by simp)).go0 M186 (by simp)).go0 A197.mod (by simpa using f180)
   have nb : ∀ i ∈ [b180], i ∉ ydS a := fun i hi hi' => by
    have := (yc4 hR4 i hi').2
    simp at hi; omega
   have hTs' : Row w197 w.heap.size 9 1 yj5 ts'.a ts'.n ts'.c p.2.x.op.topics := (ybF (hTs.keep0 M186) A197.mod (fun i hi hi' => by have := yc4 hTs i hi'; simp at hi; omega)).rebase (by omega)
   have hRs' : Row w197 w.heap.size 74 4 yiN rs'.a rs'.n rs'.c p.2.x.op.b.recs := (ybF hRs A197.mod (fun i hi hi' => by have := yc4 hRs i hi'; simp at hi; omega)).rebase (by omega)
   have hR197 := hR4.keep0 K197
   have lk := yc4 hR197
   refine ysC (y := ⟨p.2.x, rs', ts'⟩) (f := ⟨a, n, c⟩) hR197 (by omega) (by have := K197.size; omega) nb fun a' c' w200 hR200 M200 => ?_
   have N200 : Mod [] w w200 := (N4.go0 K197 (by simp)).go0 M200 fun i hi => (lk i hi).1
   have dk : ∀ {o : POp} {rs ts : Sl}, OpOwn w197 w.heap.size o rs ts → OpOwn w200 w.heap.size o rs ts := fun h => h.keep M200 fun i hi cs T hc => by
    obtain ⟨_, _, cur, hcur⟩ := ybH hR197 i hi
    rw [hcur] at hc; cases hc
    decide
   have I197 : ycF pP 3 hki CV.v w197 r b3 L (yrX left p.1) := I4.keep K197 (by simp) (by simp)
   have nr2 : r ∉ ydS a := nr
   have nb3 : b3 ∉ ydS a := fun hi => by
    obtain ⟨_, _, cur, hc⟩ := ybH hR b3 hi
    obtain ⟨es, cl, hb, _⟩ := I3.map
    rw [hb] at hc; cases hc
   have hpm := yjJ hp hnd
   have hsl : (yrX left p.1).Sublist left := List.filter_sublist
   have hll := hpm.length_eq
   rw [List.length_cons] at hll
   refine yoY (yrX left p.1).length (by omega) ⟨yrX left p.1, out ++ [⟨p.2.x, rs', ts'⟩], I197.keep M200 nr2 nb3, hR200, fun q hq => ?_, ?_, fun q hq => hsub q (hsl.subset hq), hnd.sublist (hsl.map _), N200, rfl⟩
   ·rcases List.mem_append.1 hq with hq | hq
    ·exact dk ((hOw4 q hq).keep0 K197)
    ·simp at hq; subst hq
     exact dk ⟨hRs', hTs', hpO.lr, hpO.lt⟩
   ·refine List.Perm.trans ?_ hP
    rw [List.map_append, List.append_assoc]
    refine List.Perm.append_left _ ?_
    exact (hpm.map (fun q : Int × CV => q.2.x)).symm
end Go.Proofs.YtkepmmocldnnfaaGreat
namespace Go.Proofs.YtkepmmocldnnfaaGreat
open Go Go.RowKit
set_option linter.all false
section
set_option maxRecDepth 100000
variable {R : VWP} {w w0 : World} {m : Nat} {i0 i1 i2 i3 i4 i5 i6 i7 i8 i9 j0 j1 j2 j3 j4 j5 j6 j7 j8 j9 k0 k1 k2 k3 k4 k5 k6 k7 k8 k9 l0 l1 l2 l3 l4 l5 l6 l7 l8 l9 : Int} {s0 s1 s2 s3 s4 s5 s6 s7 s8 s9 t0 t1 t2 t3 t4 t5 t6 t7 t8 t9 : BA} {n0 n1 n2 n3 n4 n5 n6 n7 n8 n9 o0 o1 o2 o3 o4 o5 o6 o7 o8 o9 p0 p1 p2 p3 p4 p5 p6 p7 p8 p9 : Nat} {q0 q1 q2 q3 q4 q5 q6 q7 q8 q9 r0 r1 r2 r3 r4 r5 r6 r7 r8 r9 : OA} {B0 B1 B2 B3 B4 B5 B6 B7 B8 B9 : Bool} {M0 M1 M2 M3 : Option Nat} {V0 V1 V2 V3 V4 V5 : Value} {A0 A1 A2 : Addr}
theorem yvE (h :
 ∀ b2, w.heap.size ≤ b2 →
 ∀ w3, Adv [] [b2] w w3 →
 R (.agg (Z0 i0 i1 12 ByteArray.empty 0 1 0 0 0 0 none 0 0 ByteArray.empty ByteArray.empty 0 false none 0 0)) w3) :
 CR pP 15 #[.int .i64 i0, .int .i64 i1] w R :=
 yaD Tryz.wide_mixed (an := []) Tryz.func15 rfl rfl (by kernel_rfl) rfl (Eq.mpr (by kernel_rfl) h)
theorem yvF (h :
 ∀ b3, w.heap.size ≤ b3 →
 ∀ b4, w.heap.size ≤ b4 →
 ∀ w5, Adv [] [b4, b3] w w5 →
 R (.agg (Z1 i0 i1 false i2 s0 i3 i4 i5 i6 i7 i8 q0 n0 n1 s1 s2 i9 B0 q1 n2 n3 0 0 0 0 none 0 0 none 0 0)) w5) :
 CR pP 9 #[(.agg (Z0 i0 i1 i2 s0 i3 i4 i5 i6 i7 i8 q0 n0 n1 s1 s2 i9 B0 q1 n2 n3))] w R :=
 yaD Tryz.wide_mixed (an := []) Tryz.func9 rfl rfl (by kernel_rfl) rfl (Eq.mpr (by kernel_rfl) h)
theorem yvG (h :
 ∀ b4, w.heap.size ≤ b4 →
 ∀ b5, w.heap.size ≤ b5 →
 ∀ b6, w.heap.size ≤ b6 →
 ∀ w7, Adv [] [b6, b5, b4] w w7 →
 R (.agg (Z1 i0 i1 true 0 ByteArray.empty 0 0 0 0 0 0 none 0 0 ByteArray.empty ByteArray.empty 0 false none 0 0 j0 j1 j2 j3 q2 n4 n5 q3 n6 n7)) w7) :
 CR pP 10 #[(.agg (Z0 i0 i1 i2 s0 i3 i4 i5 i6 i7 i8 q0 n0 n1 s1 s2 i9 B0 q1 n2 n3)), (.agg (Z3 j0 j1 j2 j3 q2 n4 n5 q3 n6 n7))] w R :=
 yaD Tryz.wide_mixed (an := []) Tryz.func10 rfl rfl (by kernel_rfl) rfl (Eq.mpr (by kernel_rfl) h)
def ykR : LA := ⟨[0, 0, 1, 0, 1, 1, 1], [1, 2, 7, 8, 9, 10], [], 0, []⟩
def ykS : LA := ⟨[0, 0, 1, 0, 1, 1, 1, 1, 1, 1, 1], [1, 2, 7, 8, 9, 11, 13, 14], [], 0, []⟩
def yd8 : LA := ⟨[1, 1, 1, 0, 0, 1, 0, 0, 1, 0, 1, 1, 1, 1, 1, 1, 1], [1, 2, 7, 8, 9, 11, 13, 14, 15, 94], [], 0, []⟩
def ylQ : List LA := [ykR, ykS, yd8]
abbrev yg8 := dnF pP ylQ (code Tryz.f4)
abbrev yxI := ybE pP ylQ (code Tryz.f4)
abbrev yg9 (p : List Nat) (K : List Kh) (R : VWP) := ybE pP ylQ (code Tryz.f4) p K (ycT pP Tryz.f4 [] R)
def yhX (a1 : OA) (a7 a4 : Nat) (b0 b1 : Int) : (Option Addr) × Nat × Nat × (Option Addr) × Nat × Nat × Int → List Value × List TB := fun (a2, a8, a5, a3, a9, a6, a0) => ([.slice a1 a7 a4, .int .i64 b0, .int .i64 b1, .slice a2 a8 a5, .slice a3 a9 a6, .int .i64 a0], [])
def ygX (a7 : OA) (b3 b0 : Nat) (b6 b7 : Int) (a8 : OA) (b4 b1 : Nat) (a0 : OA) (a4 a2 : Nat) (a1 : OA) (a5 a3 : Nat) : (Option Addr) × Nat × Nat × Int → List Value × List TB := fun (a9, b5, b2, a6) => ([.slice a7 b3 b0, .int .i64 b6, .int .i64 b7, .slice a8 b4 b1, .slice a9 b5 b2, .slice a0 a4 a2, .slice a1 a5 a3, .int .i64 a6], [])
def ygY : (Option Addr) × Nat × Nat × Int × Int × (Option Addr) × Nat × Nat × (Option Addr) × Nat × Nat × (Option Addr) × Nat × Nat × (Option Addr) × Nat × Nat × Int × Int × Bool → List Value × List TB := fun (a9, b5, b2, b8, b9, b0, b6, b3, b1, b7, b4, a0, a4, a2, a1, a5, a3, a7, a8, a6) => ([.slice a9 b5 b2, .int .i64 b8, .int .i64 b9, .slice b0 b6 b3, .slice b1 b7 b4, .slice a0 a4 a2, .slice a1 a5 a3, .int .i64 a7, .int .i64 a8, .bool a6], [])
abbrev yq8 (a0 : OA) (a2 a1 : Nat) (a3 a4 : Int) (I : Nat → Option Addr → Nat → Nat → Option Addr → Nat → Nat → Int → World → Prop) (m : Nat) : Kh := KG (yhX a0 a2 a1 a3 a4) (U7 I) m
theorem yo0 {I : Nat → Option Addr → Nat → Nat → Option Addr → Nat → Nat → Int → World → Prop} (m' : Nat) (h1 : m' < m) (h2 : I m' q1 n2 n3 q2 n4 n5 i2 w) : KS (yq8 q0 n0 n1 i0 i1 I m) (yhX q0 n0 n1 i0 i1 (q1, n2, n3, q2, n4, n5, i2)) w := ⟨m', h1, _, rfl, rfl, h2⟩
theorem yo1 (I : Nat → Option Addr → Nat → Nat → Option Addr → Nat → Nat → Int → World → Prop) (m0 : Nat) (h0 : I m0 q1 n2 n3 q2 n4 n5 i2 w0)
 (hr : ∀ m a4 a6 a5 a8 b2 b0 a2 w, I m a4 a6 a5 a8 b2 b0 a2 w →
 brB (decide (a2 < i1)) (
 Calls pP 15 #[(.int .i64 (IntKind.wrap .i64 (1 + a2))), .int .i64 1] w fun e x6 => ∃ h1 h2 h3 g6 h4 h5 h6 h7 h8 h9 f8 g3 g1 g7 g8 u0 g9 f9 g4 g2, e = .returned (.agg (Z0 h1 h2 h3 g6 h4 h5 h6 h7 h8 h9 f8 g3 g1 g7 g8 u0 g9 f9 g4 g2)) ∧
 al x6 (.cells (Z0 h1 h2 h3 g6 h4 h5 h6 h7 h8 h9 f8 g3 g1 g7 g8 u0 g9 f9 g4 g2) 35) fun x4 x7 =>
 ydJ pP (Builtin.append_ #[23, 23] 23 #[.slice a4 a6 a5, (.slice (some ⟨x4, 0, none⟩) 1 1)]) x7 fun g0 g5 x5 a1 =>
 ixA g0 g5 a2 16 fun a0 =>
 yaA .i64 a1 a0 fun w4 => yaA .i64 a1 (Addr.add a0 1) fun w5 => yaA .i64 a1 (Addr.add a0 2) fun w6 => yaC a1 (Addr.add a0 3) fun v5 => yaA .i64 a1 (Addr.add a0 4) fun w7 => yaA .i64 a1 (Addr.add a0 5) fun w8 => yaA .i64 a1 (Addr.add a0 6) fun w9 => yaA .i64 a1 (Addr.add a0 7) fun x0 => yaA .i64 a1 (Addr.add a0 8) fun x1 => yaA .i64 a1 (Addr.add a0 9) fun x2 => yaB a1 (Addr.add a0 10) fun u1 v1 u6 => yaC a1 (Addr.add a0 11) fun v6 => yaC a1 (Addr.add a0 12) fun v7 => yaA .i64 a1 (Addr.add a0 13) fun x3 => yaG a1 (Addr.add a0 14) fun v8 => yaB a1 (Addr.add a0 15) fun u2 v2 u7 =>
 Calls pP 9 #[(.agg (Z0 w4 w5 w6 v5 w7 w8 w9 x0 x1 x2 u1 v1 u6 v6 v7 x3 v8 u2 v2 u7))] a1 fun e v9 => ∃ e2 e3 e0 e4 d7 e5 e6 e7 e8 e9 f0 b7 d1 c4 d8 d9 f1 e1 b8 d2 c5 f2 f3 f5 f6 b9 d3 c6 c0 d4 c7, e = .returned (.agg (Z1 e2 e3 e0 e4 d7 e5 e6 e7 e8 e9 f0 b7 d1 c4 d8 d9 f1 e1 b8 d2 c5 f2 f3 f5 f6 b9 d3 c6 c0 d4 c7)) ∧
 al v9 (.cells (Z1 e2 e3 e0 e4 d7 e5 e6 e7 e8 e9 f0 b7 d1 c4 d8 d9 f1 e1 b8 d2 c5 f2 f3 f5 f6 b9 d3 c6 c0 d4 c7) 46) fun u5 w1 =>
 ydJ pP (Builtin.append_ #[40, 40] 40 #[.slice a8 b2 b0, (.slice (some ⟨u5, 0, none⟩) 1 1)]) w1 fun u3 v3 u9 w2 =>
 KS (yq8 q0 n0 n1 i0 i1 I m) (yhX q0 n0 n1 i0 i1 (g0, g5, x5, u3, v3, u9, (IntKind.wrap .i64 (a2 + 1)))) w2)
 (
 Calls pP 8 #[.int .i64 4, .slice a4 a6 a5] w fun e b5 => ∃ c1 b4 c8 f7, e = .returned (.tuple #[.slice c1 b4 c8, .int .i64 f7]) ∧
 brB (f7 != 0) (
 R (.bool false) b5)
 (
 brB ((b4 : Int) != i1) (
 R (.bool false) b5)
 (
 ydJ pP (Instr.makeSlice 55 (.int .i64 i1) (.int .i64 i1)) b5 fun u4 v4 v0 w3 =>
 ybC ykS (yg8 391 [0, 0, 1, 0, 1, 1, 1, 1, 1, 1, 1]) (yg9 [1, 1, 1, 1, 1, 1, 1, 0, 1, 0] [] R) (ygX q0 n0 n1 i0 i1 a4 a6 a5 c1 b4 c8 u4 v4 v0 (a8, b2, b0, 0)) w3)))) :
 ybC ykR (yg8 395 [0, 0, 1, 0, 1, 1, 1]) (yg9 [1, 1, 1, 0, 1, 0] [] R) (yhX q0 n0 n1 i0 i1 (q1, n2, n3, q2, n4, n5, i2)) w0 :=
 lrule (yhX q0 n0 n1 i0 i1) (U7 I) h0 (by rintro m ⟨a4, a6, a5, a8, b2, b0, a2⟩ w h; exact ⟨by kernel_rfl, by kernel_rfl, fun js => Eq.mpr (by kernel_rfl) (hr m a4 a6 a5 a8 b2 b0 a2 w h)⟩)
abbrev yhY (a6 : OA) (b0 a8 : Nat) (b2 b3 : Int) (a7 : OA) (b1 a9 : Nat) (a0 : OA) (a4 a2 : Nat) (a1 : OA) (a5 a3 : Nat) (I : Nat → Option Addr → Nat → Nat → Int → World → Prop) (m : Nat) : Kh := KG (ygX a6 b0 a8 b2 b3 a7 b1 a9 a0 a4 a2 a1 a5 a3) (U4 I) m
theorem yjK {I : Nat → Option Addr → Nat → Nat → Int → World → Prop} (m' : Nat) (h1 : m' < m) (h2 : I m' q4 n8 n9 i2 w) : KS (yhY q0 n0 n1 i0 i1 q1 n2 n3 q2 n4 n5 q3 n6 n7 I m) (ygX q0 n0 n1 i0 i1 q1 n2 n3 q2 n4 n5 q3 n6 n7 (q4, n8, n9, i2)) w := ⟨m', h1, _, rfl, rfl, h2⟩
theorem yo2 (I : Nat → Option Addr → Nat → Nat → Int → World → Prop) (m0 : Nat) (h0 : I m0 q4 n8 n9 i2 w0)
 (hr : ∀ m d5 d7 d6 c2 w, I m d5 d7 d6 c2 w →
 brB (decide (c2 < (IntKind.wrap .i64 ((n0 : Int) + i1)))) (
 brB (decide (c2 < 50)) (
 brB (decide ((IntKind.wrap .i64 (c2 - (n0 : Int))) < 0)) (
 ixA q0 n0 c2 1 fun tx =>
 yaA .i64 w tx fun h2 => nz i1 (
 brB (decide ((Int.tmod (ydP .i64 h2 65535) i1) < i1)) (
 ixA q3 n6 (Int.tmod (ydP .i64 h2 65535) i1) 1 fun ty =>
 yaG w ty fun vm =>
 yaZ yd8 ((yg8 387 [1, 1, 1, 0, 0, 1, 0, 0, 1, 0, 1, 1, 1, 1, 1, 1, 1]) (yg9 [1, 1, 1, 1, 1, 1, 1, 0, 1, 0, 0, 1, 0, 0, 1, 1] [(yhY q0 n0 n1 i0 i1 q1 n2 n3 q2 n4 n5 q3 n6 n7 I m)] R)) (ygY (q0, n0, n1, i0, i1, q1, n2, n3, d5, d7, d6, q2, n4, n5, q3, n6, n7, c2, (Int.tmod (ydP .i64 h2 65535) i1), (!vm))) w)
 (
 yaZ yd8 ((yg8 387 [1, 1, 1, 0, 0, 1, 0, 0, 1, 0, 1, 1, 1, 1, 1, 1, 1]) (yg9 [1, 1, 1, 1, 1, 1, 1, 0, 1, 0, 0, 1, 0, 0, 1, 1] [(yhY q0 n0 n1 i0 i1 q1 n2 n3 q2 n4 n5 q3 n6 n7 I m)] R)) (ygY (q0, n0, n1, i0, i1, q1, n2, n3, d5, d7, d6, q2, n4, n5, q3, n6, n7, c2, (Int.tmod (ydP .i64 h2 65535) i1), false)) w)))
 (
 brB (decide ((IntKind.wrap .i64 (c2 - (n0 : Int))) < i1)) (
 ixA q3 n6 (IntKind.wrap .i64 (c2 - (n0 : Int))) 1 fun tz =>
 yaG w tz fun vn =>
 yaZ yd8 ((yg8 387 [1, 1, 1, 0, 0, 1, 0, 0, 1, 0, 1, 1, 1, 1, 1, 1, 1]) (yg9 [1, 1, 1, 1, 1, 1, 1, 0, 1, 0, 0, 1, 0, 0, 1, 1] [(yhY q0 n0 n1 i0 i1 q1 n2 n3 q2 n4 n5 q3 n6 n7 I m)] R)) (ygY (q0, n0, n1, i0, i1, q1, n2, n3, d5, d7, d6, q2, n4, n5, q3, n6, n7, c2, (IntKind.wrap .i64 (c2 - (n0 : Int))), (!vn))) w)
 (
 yaZ yd8 ((yg8 387 [1, 1, 1, 0, 0, 1, 0, 0, 1, 0, 1, 1, 1, 1, 1, 1, 1]) (yg9 [1, 1, 1, 1, 1, 1, 1, 0, 1, 0, 0, 1, 0, 0, 1, 1] [(yhY q0 n0 n1 i0 i1 q1 n2 n3 q2 n4 n5 q3 n6 n7 I m)] R)) (ygY (q0, n0, n1, i0, i1, q1, n2, n3, d5, d7, d6, q2, n4, n5, q3, n6, n7, c2, (IntKind.wrap .i64 (c2 - (n0 : Int))), false)) w)))
 (
 Calls pP 11 (Z10 4 q1 n2 n3 d5 d7 d6) w fun e iu => ∃ iz, e = .returned (.int .i64 iz) ∧
 brB (iz != (-1)) (
 R (.bool false) iu)
 (nz i1 (nz i1 (
 ixA q1 n2 (Int.tmod (ydP .i64 i0 65535) i1) 16 fun c0 =>
 ∀ a0, Adv [] [] iu a0 →
 yaA .i64 a0 c0 fun wd => yaA .i64 a0 (Addr.add c0 1) fun we => yaA .i64 a0 (Addr.add c0 2) fun wf => yaC a0 (Addr.add c0 3) fun ua => yaA .i64 a0 (Addr.add c0 4) fun wg => yaA .i64 a0 (Addr.add c0 5) fun wh => yaA .i64 a0 (Addr.add c0 6) fun wi => yaA .i64 a0 (Addr.add c0 7) fun wj => yaA .i64 a0 (Addr.add c0 8) fun wk => yaA .i64 a0 (Addr.add c0 9) fun wl => yaB a0 (Addr.add c0 10) fun ph si qv => yaC a0 (Addr.add c0 11) fun ub => yaC a0 (Addr.add c0 12) fun uc => yaA .i64 a0 (Addr.add c0 13) fun wm => yaG a0 (Addr.add c0 14) fun vo => yaB a0 (Addr.add c0 15) fun pi sj qw =>
 ixA q1 n2 (Int.tmod (ydP .i64 i0 65535) i1) 16 fun b0 =>
 yaA .i64 a0 b0 fun ja => yaA .i64 a0 (Addr.add b0 1) fun jb => yaA .i64 a0 (Addr.add b0 2) fun jc => yaC a0 (Addr.add b0 3) fun hc => yaA .i64 a0 (Addr.add b0 4) fun jd => yaA .i64 a0 (Addr.add b0 5) fun je => yaA .i64 a0 (Addr.add b0 6) fun jf => yaA .i64 a0 (Addr.add b0 7) fun jg => yaA .i64 a0 (Addr.add b0 8) fun jh => yaA .i64 a0 (Addr.add b0 9) fun ji => yaB a0 (Addr.add b0 10) fun dc fu el => yaC a0 (Addr.add b0 11) fun hd => yaC a0 (Addr.add b0 12) fun he => yaA .i64 a0 (Addr.add b0 13) fun jj => yaG a0 (Addr.add b0 14) fun ib => yaB a0 (Addr.add b0 15) fun dd fv em =>
 ixA q2 n4 (Int.tmod (ydP .i64 i0 65535) i1) 6 fun c8 =>
 yaA .i64 a0 c8 fun jl => yaA .i64 a0 (Addr.add c8 1) fun jm => yaA .i64 a0 (Addr.add c8 2) fun jn => yaA .i64 a0 (Addr.add c8 3) fun jo => yaB a0 (Addr.add c8 4) fun de fw en => yaB a0 (Addr.add c8 5) fun df fx eo =>
 ixA q1 n2 (Int.tmod (IntKind.wrap .i64 ((ydP .i64 i0 65535) + 1)) i1) 16 fun a6 =>
 yaA .i64 a0 a6 fun y3 => yaA .i64 a0 (Addr.add a6 1) fun y4 => yaA .i64 a0 (Addr.add a6 2) fun y5 => yaC a0 (Addr.add a6 3) fun x5 => yaA .i64 a0 (Addr.add a6 4) fun y6 => yaA .i64 a0 (Addr.add a6 5) fun y7 => yaA .i64 a0 (Addr.add a6 6) fun y8 => yaA .i64 a0 (Addr.add a6 7) fun y9 => yaA .i64 a0 (Addr.add a6 8) fun z0 => yaA .i64 a0 (Addr.add a6 9) fun z1 => yaB a0 (Addr.add a6 10) fun w3 x1 w7 => yaC a0 (Addr.add a6 11) fun x6 => yaC a0 (Addr.add a6 12) fun x7 => yaA .i64 a0 (Addr.add a6 13) fun z2 => yaG a0 (Addr.add a6 14) fun y1 => yaB a0 (Addr.add a6 15) fun w4 x2 w8 =>
 ixA q1 n2 (Int.tmod (IntKind.wrap .i64 ((ydP .i64 i0 65535) + 1)) i1) 16 fun a2 =>
 yaA .i64 a0 a2 fun h3 => yaA .i64 a0 (Addr.add a2 1) fun h4 => yaA .i64 a0 (Addr.add a2 2) fun h5 => yaC a0 (Addr.add a2 3) fun g3 => yaA .i64 a0 (Addr.add a2 4) fun h6 => yaA .i64 a0 (Addr.add a2 5) fun h7 => yaA .i64 a0 (Addr.add a2 6) fun h8 => yaA .i64 a0 (Addr.add a2 7) fun h9 => yaA .i64 a0 (Addr.add a2 8) fun u0 => yaA .i64 a0 (Addr.add a2 9) fun u1 => yaB a0 (Addr.add a2 10) fun d8 f5 e6 => yaC a0 (Addr.add a2 11) fun g4 => yaC a0 (Addr.add a2 12) fun g5 => yaA .i64 a0 (Addr.add a2 13) fun u2 => yaG a0 (Addr.add a2 14) fun g9 => yaB a0 (Addr.add a2 15) fun d9 f6 e7 =>
 ixA q2 n4 (Int.tmod (IntKind.wrap .i64 ((ydP .i64 i0 65535) + 1)) i1) 6 fun b4 =>
 yaA .i64 a0 b4 fun u3 => yaA .i64 a0 (Addr.add b4 1) fun u4 => yaA .i64 a0 (Addr.add b4 2) fun u5 => yaA .i64 a0 (Addr.add b4 3) fun u6 => yaB a0 (Addr.add b4 4) fun e0 f7 e8 => yaB a0 (Addr.add b4 5) fun e1 f8 e9 =>
 Calls pP 9 #[(.agg (Z0 wd we wf ua wg wh wi wj wk wl ph si qv ub uc wm vo pi sj qw))] a0 fun e a4 => ∃ jp jq ic jr hf jt ju jv jw jx jy dg fy ep hg hh jz id dh fz eq ka kb kc kd di ga er dj gb et, e = .returned (.agg (Z1 jp jq ic jr hf jt ju jv jw jx jy dg fy ep hg hh jz id dh fz eq ka kb kc kd di ga er dj gb et)) ∧ (yaA .i64 a4 b4 fun wn => yaA .i64 a4 (Addr.add b4 1) fun wo => yaA .i64 a4 (Addr.add b4 2) fun wp => yaA .i64 a4 (Addr.add b4 3) fun wq => yaB a4 (Addr.add b4 4) fun pj sk qx => yaB a4 (Addr.add b4 5) fun pk sl qy => ((.agg (Z3 wn wo wp wq pj sk qx pk sl qy)) : Value) = (.agg (Z3 u3 u4 u5 u6 e0 f7 e8 e1 f8 e9))) ∧ (yaA .i64 a4 a2 fun wr => yaA .i64 a4 (Addr.add a2 1) fun ws => yaA .i64 a4 (Addr.add a2 2) fun wt => yaC a4 (Addr.add a2 3) fun ud => yaA .i64 a4 (Addr.add a2 4) fun wu => yaA .i64 a4 (Addr.add a2 5) fun wv => yaA .i64 a4 (Addr.add a2 6) fun ww => yaA .i64 a4 (Addr.add a2 7) fun wx => yaA .i64 a4 (Addr.add a2 8) fun wy => yaA .i64 a4 (Addr.add a2 9) fun wz => yaB a4 (Addr.add a2 10) fun pl sm qz => yaC a4 (Addr.add a2 11) fun ue => yaC a4 (Addr.add a2 12) fun uf => yaA .i64 a4 (Addr.add a2 13) fun xa => yaG a4 (Addr.add a2 14) fun vp => yaB a4 (Addr.add a2 15) fun pm sn ra => ((.agg (Z0 wr ws wt ud wu wv ww wx wy wz pl sm qz ue uf xa vp pm sn ra)) : Value) = (.agg (Z0 h3 h4 h5 g3 h6 h7 h8 h9 u0 u1 d8 f5 e6 g4 g5 u2 g9 d9 f6 e7))) ∧ (yaA .i64 a4 a6 fun xb => yaA .i64 a4 (Addr.add a6 1) fun xc => yaA .i64 a4 (Addr.add a6 2) fun xd => yaC a4 (Addr.add a6 3) fun ug => yaA .i64 a4 (Addr.add a6 4) fun xe => yaA .i64 a4 (Addr.add a6 5) fun xf => yaA .i64 a4 (Addr.add a6 6) fun xg => yaA .i64 a4 (Addr.add a6 7) fun xh => yaA .i64 a4 (Addr.add a6 8) fun xi => yaA .i64 a4 (Addr.add a6 9) fun xj => yaB a4 (Addr.add a6 10) fun pn so rb => yaC a4 (Addr.add a6 11) fun uh => yaC a4 (Addr.add a6 12) fun ui => yaA .i64 a4 (Addr.add a6 13) fun xk => yaG a4 (Addr.add a6 14) fun vq => yaB a4 (Addr.add a6 15) fun po sp rc => ((.agg (Z0 xb xc xd ug xe xf xg xh xi xj pn so rb uh ui xk vq po sp rc)) : Value) = (.agg (Z0 y3 y4 y5 x5 y6 y7 y8 y9 z0 z1 w3 x1 w7 x6 x7 z2 y1 w4 x2 w8))) ∧ (yaA .i64 a4 c8 fun xl => yaA .i64 a4 (Addr.add c8 1) fun xm => yaA .i64 a4 (Addr.add c8 2) fun xn => yaA .i64 a4 (Addr.add c8 3) fun xo => yaB a4 (Addr.add c8 4) fun pp sq rd => yaB a4 (Addr.add c8 5) fun pq sr re => ((.agg (Z3 xl xm xn xo pp sq rd pq sr re)) : Value) = (.agg (Z3 jl jm jn jo de fw en df fx eo))) ∧ (yaA .i64 a4 b0 fun xp => yaA .i64 a4 (Addr.add b0 1) fun xq => yaA .i64 a4 (Addr.add b0 2) fun xr => yaC a4 (Addr.add b0 3) fun uj => yaA .i64 a4 (Addr.add b0 4) fun xs => yaA .i64 a4 (Addr.add b0 5) fun xt => yaA .i64 a4 (Addr.add b0 6) fun xu => yaA .i64 a4 (Addr.add b0 7) fun xv => yaA .i64 a4 (Addr.add b0 8) fun xw => yaA .i64 a4 (Addr.add b0 9) fun xx => yaB a4 (Addr.add b0 10) fun pr ss rf => yaC a4 (Addr.add b0 11) fun uk => yaC a4 (Addr.add b0 12) fun ul => yaA .i64 a4 (Addr.add b0 13) fun xy => yaG a4 (Addr.add b0 14) fun vr => yaB a4 (Addr.add b0 15) fun ps su rg => ((.agg (Z0 xp xq xr uj xs xt xu xv xw xx pr ss rf uk ul xy vr ps su rg)) : Value) = (.agg (Z0 ja jb jc hc jd je jf jg jh ji dc fu el hd he jj ib dd fv em))) ∧
 Calls pP 10 #[(.agg (Z0 ja jb jc hc jd je jf jg jh ji dc fu el hd he jj ib dd fv em)), (.agg (Z3 jl jm jn jo de fw en df fx eo))] a4 fun e a8 => ∃ ke kf ie kg hi kh ki kj kk kl km dk gc eu hj hk kn ig dl gd ew ko kp kq kr dm ge ex dn gf ey, e = .returned (.agg (Z1 ke kf ie kg hi kh ki kj kk kl km dk gc eu hj hk kn ig dl gd ew ko kp kq kr dm ge ex dn gf ey)) ∧ (yaA .i64 a8 b4 fun xz => yaA .i64 a8 (Addr.add b4 1) fun ya => yaA .i64 a8 (Addr.add b4 2) fun yb => yaA .i64 a8 (Addr.add b4 3) fun yc => yaB a8 (Addr.add b4 4) fun pu sv rh => yaB a8 (Addr.add b4 5) fun pv sw ri => ((.agg (Z3 xz ya yb yc pu sv rh pv sw ri)) : Value) = (.agg (Z3 u3 u4 u5 u6 e0 f7 e8 e1 f8 e9))) ∧ (yaA .i64 a8 a2 fun yd => yaA .i64 a8 (Addr.add a2 1) fun ye => yaA .i64 a8 (Addr.add a2 2) fun yf => yaC a8 (Addr.add a2 3) fun um => yaA .i64 a8 (Addr.add a2 4) fun yg => yaA .i64 a8 (Addr.add a2 5) fun yh => yaA .i64 a8 (Addr.add a2 6) fun yi => yaA .i64 a8 (Addr.add a2 7) fun yj => yaA .i64 a8 (Addr.add a2 8) fun yk => yaA .i64 a8 (Addr.add a2 9) fun yl => yaB a8 (Addr.add a2 10) fun pw sx rj => yaC a8 (Addr.add a2 11) fun un => yaC a8 (Addr.add a2 12) fun uo => yaA .i64 a8 (Addr.add a2 13) fun ym => yaG a8 (Addr.add a2 14) fun vs => yaB a8 (Addr.add a2 15) fun px sy rk => ((.agg (Z0 yd ye yf um yg yh yi yj yk yl pw sx rj un uo ym vs px sy rk)) : Value) = (.agg (Z0 h3 h4 h5 g3 h6 h7 h8 h9 u0 u1 d8 f5 e6 g4 g5 u2 g9 d9 f6 e7))) ∧ (yaA .i64 a8 a6 fun yn => yaA .i64 a8 (Addr.add a6 1) fun yo => yaA .i64 a8 (Addr.add a6 2) fun yp => yaC a8 (Addr.add a6 3) fun up => yaA .i64 a8 (Addr.add a6 4) fun yq => yaA .i64 a8 (Addr.add a6 5) fun yr => yaA .i64 a8 (Addr.add a6 6) fun ys => yaA .i64 a8 (Addr.add a6 7) fun yt => yaA .i64 a8 (Addr.add a6 8) fun yu => yaA .i64 a8 (Addr.add a6 9) fun yv => yaB a8 (Addr.add a6 10) fun py sz rl => yaC a8 (Addr.add a6 11) fun uq => yaC a8 (Addr.add a6 12) fun ur => yaA .i64 a8 (Addr.add a6 13) fun yw => yaG a8 (Addr.add a6 14) fun vt => yaB a8 (Addr.add a6 15) fun pz ta rm => ((.agg (Z0 yn yo yp up yq yr ys yt yu yv py sz rl uq ur yw vt pz ta rm)) : Value) = (.agg (Z0 y3 y4 y5 x5 y6 y7 y8 y9 z0 z1 w3 x1 w7 x6 x7 z2 y1 w4 x2 w8))) ∧
 Calls pP 9 #[(.agg (Z0 y3 y4 y5 x5 y6 y7 y8 y9 z0 z1 w3 x1 w7 x6 x7 z2 y1 w4 x2 w8))] a8 fun e b6 => ∃ ks kt ih ku hl kv kw kx ky kz la dp gg ez hm hn lc ii dq gh fa le lf lg lh dr gi fb ds gj fc, e = .returned (.agg (Z1 ks kt ih ku hl kv kw kx ky kz la dp gg ez hm hn lc ii dq gh fa le lf lg lh dr gi fb ds gj fc)) ∧ (yaA .i64 b6 b4 fun yx => yaA .i64 b6 (Addr.add b4 1) fun yy => yaA .i64 b6 (Addr.add b4 2) fun yz => yaA .i64 b6 (Addr.add b4 3) fun za => yaB b6 (Addr.add b4 4) fun qa tb rn => yaB b6 (Addr.add b4 5) fun qb tc ro => ((.agg (Z3 yx yy yz za qa tb rn qb tc ro)) : Value) = (.agg (Z3 u3 u4 u5 u6 e0 f7 e8 e1 f8 e9))) ∧ (yaA .i64 b6 a2 fun zb => yaA .i64 b6 (Addr.add a2 1) fun zc => yaA .i64 b6 (Addr.add a2 2) fun zd => yaC b6 (Addr.add a2 3) fun us => yaA .i64 b6 (Addr.add a2 4) fun ze => yaA .i64 b6 (Addr.add a2 5) fun zf => yaA .i64 b6 (Addr.add a2 6) fun zg => yaA .i64 b6 (Addr.add a2 7) fun zh => yaA .i64 b6 (Addr.add a2 8) fun zi => yaA .i64 b6 (Addr.add a2 9) fun zj => yaB b6 (Addr.add a2 10) fun qc td rp => yaC b6 (Addr.add a2 11) fun ut => yaC b6 (Addr.add a2 12) fun uu => yaA .i64 b6 (Addr.add a2 13) fun zk => yaG b6 (Addr.add a2 14) fun vu => yaB b6 (Addr.add a2 15) fun qd te rq => ((.agg (Z0 zb zc zd us ze zf zg zh zi zj qc td rp ut uu zk vu qd te rq)) : Value) = (.agg (Z0 h3 h4 h5 g3 h6 h7 h8 h9 u0 u1 d8 f5 e6 g4 g5 u2 g9 d9 f6 e7))) ∧
 Calls pP 10 #[(.agg (Z0 h3 h4 h5 g3 h6 h7 h8 h9 u0 u1 d8 f5 e6 g4 g5 u2 g9 d9 f6 e7)), (.agg (Z3 u3 u4 u5 u6 e0 f7 e8 e1 f8 e9))] b6 fun e wa => ∃ li lj ij lk ho ll lm ln lo lp lq dt gk fd hp hq lr ik du gl fe ls lt lu lv dv gm ff dw gn fg, e = .returned (.agg (Z1 li lj ij lk ho ll lm ln lo lp lq dt gk fd hp hq lr ik du gl fe ls lt lu lv dv gm ff dw gn fg)) ∧
 al wa (.cells (Z2 jp jq ic jr hf jt ju jv jw jx jy dg fy ep hg hh jz id dh fz eq ka kb kc kd di ga er dj gb et ke kf ie kg hi kh ki kj kk kl km dk gc eu hj hk kn ig dl gd ew ko kp kq kr dm ge ex dn gf ey ks kt ih ku hl kv kw kx ky kz la dp gg ez hm hn lc ii dq gh fa le lf lg lh dr gi fb ds gj fc li lj ij lk ho ll lm ln lo lp lq dt gk fd hp hq lr ik du gl fe ls lt lu lv dv gm ff dw gn fg) 46) fun ek iv =>
 brB (decide ((Int.tmod (IntKind.wrap .i64 ((ydP .i64 i0 65535) + 1)) i1) < (Int.tmod (ydP .i64 i0 65535) i1))) (
 Calls pP 11 (Z10 4 q1 n2 n3 (some ⟨ek, 0, none⟩) 4 4) iv fun e iw => ∃ lw, e = .returned (.int .i64 lw) ∧
 brB (lw == 3) (
 Calls pP 14 #[] iw fun e wb => ∃ il, e = .returned (.bool il) ∧
 R (.bool il) wb)
 (
 R (.bool false) iw))
 (
 Calls pP 11 (Z10 4 q1 n2 n3 (some ⟨ek, 0, none⟩) 4 4) iv fun e ix => ∃ lx, e = .returned (.int .i64 lx) ∧
 brB (lx == (-1)) (
 Calls pP 14 #[] ix fun e wc => ∃ im, e = .returned (.bool im) ∧
 R (.bool im) wc)
 (
 R (.bool false) ix)))))))
 (
 Calls pP 11 (Z10 4 q1 n2 n3 d5 d7 d6) w fun e iy => ∃ ly, e = .returned (.int .i64 ly) ∧
 brB (ly != (-1)) (
 R (.bool false) iy)
 (nz i1 (nz i1 (
 ixA q1 n2 (Int.tmod (ydP .i64 i0 65535) i1) 16 fun c1 =>
 ∀ a1, Adv [] [] iy a1 →
 yaA .i64 a1 c1 fun zl => yaA .i64 a1 (Addr.add c1 1) fun zm => yaA .i64 a1 (Addr.add c1 2) fun zn => yaC a1 (Addr.add c1 3) fun uv => yaA .i64 a1 (Addr.add c1 4) fun zo => yaA .i64 a1 (Addr.add c1 5) fun zp => yaA .i64 a1 (Addr.add c1 6) fun zq => yaA .i64 a1 (Addr.add c1 7) fun zr => yaA .i64 a1 (Addr.add c1 8) fun zs => yaA .i64 a1 (Addr.add c1 9) fun zt => yaB a1 (Addr.add c1 10) fun qe tf rr => yaC a1 (Addr.add c1 11) fun uw => yaC a1 (Addr.add c1 12) fun ux => yaA .i64 a1 (Addr.add c1 13) fun zu => yaG a1 (Addr.add c1 14) fun vv => yaB a1 (Addr.add c1 15) fun qf th rs =>
 ixA q1 n2 (Int.tmod (ydP .i64 i0 65535) i1) 16 fun b1 =>
 yaA .i64 a1 b1 fun lz => yaA .i64 a1 (Addr.add b1 1) fun ma => yaA .i64 a1 (Addr.add b1 2) fun mb => yaC a1 (Addr.add b1 3) fun hs => yaA .i64 a1 (Addr.add b1 4) fun mc => yaA .i64 a1 (Addr.add b1 5) fun md => yaA .i64 a1 (Addr.add b1 6) fun me => yaA .i64 a1 (Addr.add b1 7) fun mf => yaA .i64 a1 (Addr.add b1 8) fun mg => yaA .i64 a1 (Addr.add b1 9) fun mh => yaB a1 (Addr.add b1 10) fun dx go fh => yaC a1 (Addr.add b1 11) fun ht => yaC a1 (Addr.add b1 12) fun hu => yaA .i64 a1 (Addr.add b1 13) fun mi => yaG a1 (Addr.add b1 14) fun io => yaB a1 (Addr.add b1 15) fun dy gp fi =>
 ixA q2 n4 (Int.tmod (ydP .i64 i0 65535) i1) 6 fun c9 =>
 yaA .i64 a1 c9 fun mj => yaA .i64 a1 (Addr.add c9 1) fun mk => yaA .i64 a1 (Addr.add c9 2) fun ml => yaA .i64 a1 (Addr.add c9 3) fun mm => yaB a1 (Addr.add c9 4) fun dz gq fj => yaB a1 (Addr.add c9 5) fun ea gr fk =>
 ixA q1 n2 (Int.tmod (IntKind.wrap .i64 ((ydP .i64 i0 65535) + 1)) i1) 16 fun a7 =>
 yaA .i64 a1 a7 fun z3 => yaA .i64 a1 (Addr.add a7 1) fun z4 => yaA .i64 a1 (Addr.add a7 2) fun z5 => yaC a1 (Addr.add a7 3) fun x8 => yaA .i64 a1 (Addr.add a7 4) fun z6 => yaA .i64 a1 (Addr.add a7 5) fun z7 => yaA .i64 a1 (Addr.add a7 6) fun z8 => yaA .i64 a1 (Addr.add a7 7) fun z9 => yaA .i64 a1 (Addr.add a7 8) fun aa => yaA .i64 a1 (Addr.add a7 9) fun ab => yaB a1 (Addr.add a7 10) fun w5 x3 w9 => yaC a1 (Addr.add a7 11) fun x9 => yaC a1 (Addr.add a7 12) fun y0 => yaA .i64 a1 (Addr.add a7 13) fun ac => yaG a1 (Addr.add a7 14) fun y2 => yaB a1 (Addr.add a7 15) fun w6 x4 x0 =>
 ixA q1 n2 (Int.tmod (IntKind.wrap .i64 ((ydP .i64 i0 65535) + 1)) i1) 16 fun a3 =>
 yaA .i64 a1 a3 fun u7 => yaA .i64 a1 (Addr.add a3 1) fun u9 => yaA .i64 a1 (Addr.add a3 2) fun v0 => yaC a1 (Addr.add a3 3) fun g6 => yaA .i64 a1 (Addr.add a3 4) fun v1 => yaA .i64 a1 (Addr.add a3 5) fun v2 => yaA .i64 a1 (Addr.add a3 6) fun v3 => yaA .i64 a1 (Addr.add a3 7) fun v4 => yaA .i64 a1 (Addr.add a3 8) fun v5 => yaA .i64 a1 (Addr.add a3 9) fun v6 => yaB a1 (Addr.add a3 10) fun e2 f9 f0 => yaC a1 (Addr.add a3 11) fun g7 => yaC a1 (Addr.add a3 12) fun g8 => yaA .i64 a1 (Addr.add a3 13) fun v7 => yaG a1 (Addr.add a3 14) fun h1 => yaB a1 (Addr.add a3 15) fun e3 g0 f1 =>
 ixA q2 n4 (Int.tmod (IntKind.wrap .i64 ((ydP .i64 i0 65535) + 1)) i1) 6 fun b5 =>
 yaA .i64 a1 b5 fun v8 => yaA .i64 a1 (Addr.add b5 1) fun v9 => yaA .i64 a1 (Addr.add b5 2) fun w1 => yaA .i64 a1 (Addr.add b5 3) fun w2 => yaB a1 (Addr.add b5 4) fun e4 g1 f2 => yaB a1 (Addr.add b5 5) fun e5 g2 f3 =>
 Calls pP 9 #[(.agg (Z0 zl zm zn uv zo zp zq zr zs zt qe tf rr uw ux zu vv qf th rs))] a1 fun e a5 => ∃ mn mo ip mp hv mq mr ms mt mu mv eb gs fl hw hx mw iq ec gt fm mx my mz na ed gu fn ee gv fo, e = .returned (.agg (Z1 mn mo ip mp hv mq mr ms mt mu mv eb gs fl hw hx mw iq ec gt fm mx my mz na ed gu fn ee gv fo)) ∧ (yaA .i64 a5 b5 fun zv => yaA .i64 a5 (Addr.add b5 1) fun zw => yaA .i64 a5 (Addr.add b5 2) fun zx => yaA .i64 a5 (Addr.add b5 3) fun zy => yaB a5 (Addr.add b5 4) fun qg ti rt => yaB a5 (Addr.add b5 5) fun qh tj ru => ((.agg (Z3 zv zw zx zy qg ti rt qh tj ru)) : Value) = (.agg (Z3 v8 v9 w1 w2 e4 g1 f2 e5 g2 f3))) ∧ (yaA .i64 a5 a3 fun zz => yaA .i64 a5 (Addr.add a3 1) fun aa0 => yaA .i64 a5 (Addr.add a3 2) fun aa1 => yaC a5 (Addr.add a3 3) fun uy => yaA .i64 a5 (Addr.add a3 4) fun aa2 => yaA .i64 a5 (Addr.add a3 5) fun aa3 => yaA .i64 a5 (Addr.add a3 6) fun aa4 => yaA .i64 a5 (Addr.add a3 7) fun aa5 => yaA .i64 a5 (Addr.add a3 8) fun aa6 => yaA .i64 a5 (Addr.add a3 9) fun aa7 => yaB a5 (Addr.add a3 10) fun qi tk rv => yaC a5 (Addr.add a3 11) fun uz => yaC a5 (Addr.add a3 12) fun va => yaA .i64 a5 (Addr.add a3 13) fun aa8 => yaG a5 (Addr.add a3 14) fun vw => yaB a5 (Addr.add a3 15) fun qj tl rx => ((.agg (Z0 zz aa0 aa1 uy aa2 aa3 aa4 aa5 aa6 aa7 qi tk rv uz va aa8 vw qj tl rx)) : Value) = (.agg (Z0 u7 u9 v0 g6 v1 v2 v3 v4 v5 v6 e2 f9 f0 g7 g8 v7 h1 e3 g0 f1))) ∧ (yaA .i64 a5 a7 fun aa9 => yaA .i64 a5 (Addr.add a7 1) fun ab0 => yaA .i64 a5 (Addr.add a7 2) fun ab1 => yaC a5 (Addr.add a7 3) fun vb => yaA .i64 a5 (Addr.add a7 4) fun ab2 => yaA .i64 a5 (Addr.add a7 5) fun ab3 => yaA .i64 a5 (Addr.add a7 6) fun ab4 => yaA .i64 a5 (Addr.add a7 7) fun ab5 => yaA .i64 a5 (Addr.add a7 8) fun ab6 => yaA .i64 a5 (Addr.add a7 9) fun ab7 => yaB a5 (Addr.add a7 10) fun qk tm ry => yaC a5 (Addr.add a7 11) fun vc => yaC a5 (Addr.add a7 12) fun vd => yaA .i64 a5 (Addr.add a7 13) fun ab8 => yaG a5 (Addr.add a7 14) fun vx => yaB a5 (Addr.add a7 15) fun ql tn rz => ((.agg (Z0 aa9 ab0 ab1 vb ab2 ab3 ab4 ab5 ab6 ab7 qk tm ry vc vd ab8 vx ql tn rz)) : Value) = (.agg (Z0 z3 z4 z5 x8 z6 z7 z8 z9 aa ab w5 x3 w9 x9 y0 ac y2 w6 x4 x0))) ∧ (yaA .i64 a5 c9 fun ab9 => yaA .i64 a5 (Addr.add c9 1) fun ac0 => yaA .i64 a5 (Addr.add c9 2) fun ac1 => yaA .i64 a5 (Addr.add c9 3) fun ac2 => yaB a5 (Addr.add c9 4) fun qm to sa => yaB a5 (Addr.add c9 5) fun qn tp sb => ((.agg (Z3 ab9 ac0 ac1 ac2 qm to sa qn tp sb)) : Value) = (.agg (Z3 mj mk ml mm dz gq fj ea gr fk))) ∧ (yaA .i64 a5 b1 fun ac3 => yaA .i64 a5 (Addr.add b1 1) fun ac4 => yaA .i64 a5 (Addr.add b1 2) fun ac5 => yaC a5 (Addr.add b1 3) fun ve => yaA .i64 a5 (Addr.add b1 4) fun ac6 => yaA .i64 a5 (Addr.add b1 5) fun ac7 => yaA .i64 a5 (Addr.add b1 6) fun ac8 => yaA .i64 a5 (Addr.add b1 7) fun ac9 => yaA .i64 a5 (Addr.add b1 8) fun ad0 => yaA .i64 a5 (Addr.add b1 9) fun ad1 => yaB a5 (Addr.add b1 10) fun qo tq sc => yaC a5 (Addr.add b1 11) fun vf => yaC a5 (Addr.add b1 12) fun vh => yaA .i64 a5 (Addr.add b1 13) fun ad2 => yaG a5 (Addr.add b1 14) fun vy => yaB a5 (Addr.add b1 15) fun qp tr sd => ((.agg (Z0 ac3 ac4 ac5 ve ac6 ac7 ac8 ac9 ad0 ad1 qo tq sc vf vh ad2 vy qp tr sd)) : Value) = (.agg (Z0 lz ma mb hs mc md me mf mg mh dx go fh ht hu mi io dy gp fi))) ∧
 Calls pP 10 #[(.agg (Z0 lz ma mb hs mc md me mf mg mh dx go fh ht hu mi io dy gp fi)), (.agg (Z3 mj mk ml mm dz gq fj ea gr fk))] a5 fun e a9 => ∃ nb nc ir nd hy ne nf ng nh ni nj ef gw fp hz ia nk it eg gx fq nl nm no np eh gy fr ei gz fs, e = .returned (.agg (Z1 nb nc ir nd hy ne nf ng nh ni nj ef gw fp hz ia nk it eg gx fq nl nm no np eh gy fr ei gz fs)) ∧ (yaA .i64 a9 b5 fun ad3 => yaA .i64 a9 (Addr.add b5 1) fun ad4 => yaA .i64 a9 (Addr.add b5 2) fun ad5 => yaA .i64 a9 (Addr.add b5 3) fun ad6 => yaB a9 (Addr.add b5 4) fun qq ts se => yaB a9 (Addr.add b5 5) fun qr tt sf => ((.agg (Z3 ad3 ad4 ad5 ad6 qq ts se qr tt sf)) : Value) = (.agg (Z3 v8 v9 w1 w2 e4 g1 f2 e5 g2 f3))) ∧ (yaA .i64 a9 a3 fun ad7 => yaA .i64 a9 (Addr.add a3 1) fun ad8 => yaA .i64 a9 (Addr.add a3 2) fun ad9 => yaC a9 (Addr.add a3 3) fun vi => yaA .i64 a9 (Addr.add a3 4) fun ae0 => yaA .i64 a9 (Addr.add a3 5) fun ae1 => yaA .i64 a9 (Addr.add a3 6) fun ae2 => yaA .i64 a9 (Addr.add a3 7) fun ae3 => yaA .i64 a9 (Addr.add a3 8) fun ae4 => yaA .i64 a9 (Addr.add a3 9) fun ae5 => yaB a9 (Addr.add a3 10) fun qs tu sg => yaC a9 (Addr.add a3 11) fun vj => yaC a9 (Addr.add a3 12) fun vk => yaA .i64 a9 (Addr.add a3 13) fun ae6 => yaG a9 (Addr.add a3 14) fun vz => yaB a9 (Addr.add a3 15) fun qt tv sh => ((.agg (Z0 ad7 ad8 ad9 vi ae0 ae1 ae2 ae3 ae4 ae5 qs tu sg vj vk ae6 vz qt tv sh)) : Value) = (.agg (Z0 u7 u9 v0 g6 v1 v2 v3 v4 v5 v6 e2 f9 f0 g7 g8 v7 h1 e3 g0 f1))) ∧ (yaA .i64 a9 a7 fun ae7 => yaA .i64 a9 (Addr.add a7 1) fun ae8 => yaA .i64 a9 (Addr.add a7 2) fun ae9 => yaC a9 (Addr.add a7 3) fun vl => yaA .i64 a9 (Addr.add a7 4) fun af0 => yaA .i64 a9 (Addr.add a7 5) fun af1 => yaA .i64 a9 (Addr.add a7 6) fun af2 => yaA .i64 a9 (Addr.add a7 7) fun af3 => yaA .i64 a9 (Addr.add a7 8) fun af4 => yaA .i64 a9 (Addr.add a7 9) fun af5 => yaB a9 (Addr.add a7 10) fun qu tw nv => yaC a9 (Addr.add a7 11) fun oh => yaC a9 (Addr.add a7 12) fun oi => yaA .i64 a9 (Addr.add a7 13) fun os => yaG a9 (Addr.add a7 14) fun om => yaB a9 (Addr.add a7 15) fun nq oc nw => ((.agg (Z0 ae7 ae8 ae9 vl af0 af1 af2 af3 af4 af5 qu tw nv oh oi os om nq oc nw)) : Value) = (.agg (Z0 z3 z4 z5 x8 z6 z7 z8 z9 aa ab w5 x3 w9 x9 y0 ac y2 w6 x4 x0))) ∧
 Calls pP 9 #[(.agg (Z0 z3 z4 z5 x8 z6 z7 z8 z9 aa ab w5 x3 w9 x9 y0 ac y2 w6 x4 x0))] a9 fun e b2 => ∃ bv bw bl bx bf bz ca cb cc cd ce ad ax an bg bh cf bm ae ay ao ch ci cj ck af az ap ag ba aq, e = .returned (.agg (Z1 bv bw bl bx bf bz ca cb cc cd ce ad ax an bg bh cf bm ae ay ao ch ci cj ck af az ap ag ba aq)) ∧ (yaA .i64 b2 b5 fun ot => yaA .i64 b2 (Addr.add b5 1) fun ou => yaA .i64 b2 (Addr.add b5 2) fun ov => yaA .i64 b2 (Addr.add b5 3) fun ow => yaB b2 (Addr.add b5 4) fun nr od nx => yaB b2 (Addr.add b5 5) fun ns oe ny => ((.agg (Z3 ot ou ov ow nr od nx ns oe ny)) : Value) = (.agg (Z3 v8 v9 w1 w2 e4 g1 f2 e5 g2 f3))) ∧ (yaA .i64 b2 a3 fun ox => yaA .i64 b2 (Addr.add a3 1) fun oy => yaA .i64 b2 (Addr.add a3 2) fun oz => yaC b2 (Addr.add a3 3) fun oj => yaA .i64 b2 (Addr.add a3 4) fun pa => yaA .i64 b2 (Addr.add a3 5) fun pb => yaA .i64 b2 (Addr.add a3 6) fun pc => yaA .i64 b2 (Addr.add a3 7) fun pd => yaA .i64 b2 (Addr.add a3 8) fun pe => yaA .i64 b2 (Addr.add a3 9) fun pf => yaB b2 (Addr.add a3 10) fun nt of oa => yaC b2 (Addr.add a3 11) fun ok => yaC b2 (Addr.add a3 12) fun ol => yaA .i64 b2 (Addr.add a3 13) fun pg => yaG b2 (Addr.add a3 14) fun on => yaB b2 (Addr.add a3 15) fun nu og ob => ((.agg (Z0 ox oy oz oj pa pb pc pd pe pf nt of oa ok ol pg on nu og ob)) : Value) = (.agg (Z0 u7 u9 v0 g6 v1 v2 v3 v4 v5 v6 e2 f9 f0 g7 g8 v7 h1 e3 g0 f1))) ∧
 Calls pP 10 #[(.agg (Z0 u7 u9 v0 g6 v1 v2 v3 v4 v5 v6 e2 f9 f0 g7 g8 v7 h1 e3 g0 f1)), (.agg (Z3 v8 v9 w1 w2 e4 g1 f2 e5 g2 f3))] b2 fun e oo => ∃ cl cm bn cn bi co cp cq cr cs ct ah bb ar bj bk cu bo ai bc au cv cw cx cy aj bd av ak be aw, e = .returned (.agg (Z1 cl cm bn cn bi co cp cq cr cs ct ah bb ar bj bk cu bo ai bc au cv cw cx cy aj bd av ak be aw)) ∧
 al oo (.cells (Z2 mn mo ip mp hv mq mr ms mt mu mv eb gs fl hw hx mw iq ec gt fm mx my mz na ed gu fn ee gv fo nb nc ir nd hy ne nf ng nh ni nj ef gw fp hz ia nk it eg gx fq nl nm no np eh gy fr ei gz fs bv bw bl bx bf bz ca cb cc cd ce ad ax an bg bh cf bm ae ay ao ch ci cj ck af az ap ag ba aq cl cm bn cn bi co cp cq cr cs ct ah bb ar bj bk cu bo ai bc au cv cw cx cy aj bd av ak be aw) 46) fun am br =>
 brB (decide ((Int.tmod (IntKind.wrap .i64 ((ydP .i64 i0 65535) + 1)) i1) < (Int.tmod (ydP .i64 i0 65535) i1))) (
 Calls pP 11 (Z10 4 q1 n2 n3 (some ⟨am, 0, none⟩) 4 4) br fun e bt => ∃ cz, e = .returned (.int .i64 cz) ∧
 brB (cz == 3) (
 Calls pP 14 #[] bt fun e op => ∃ bp, e = .returned (.bool bp) ∧
 R (.bool bp) op)
 (
 R (.bool false) bt))
 (
 Calls pP 11 (Z10 4 q1 n2 n3 (some ⟨am, 0, none⟩) 4 4) br fun e bu => ∃ da, e = .returned (.int .i64 da) ∧
 brB (da == (-1)) (
 Calls pP 14 #[] bu fun e oq => ∃ bq, e = .returned (.bool bq) ∧
 R (.bool bq) oq)
 (
 R (.bool false) bu))))))) :
 ybC ykS (yg8 391 [0, 0, 1, 0, 1, 1, 1, 1, 1, 1, 1]) (yg9 [1, 1, 1, 1, 1, 1, 1, 0, 1, 0] [] R) (ygX q0 n0 n1 i0 i1 q1 n2 n3 q2 n4 n5 q3 n6 n7 (q4, n8, n9, i2)) w0 :=
 lrule (ygX q0 n0 n1 i0 i1 q1 n2 n3 q2 n4 n5 q3 n6 n7) (U4 I) h0 (by rintro m ⟨d5, d7, d6, c2⟩ w h; exact ⟨by kernel_rfl, by kernel_rfl, fun js => Eq.mpr (by kernel_rfl) (hr m d5 d7 d6 c2 w h)⟩)
def ylR (e4 : OA) (e9 e6 : Nat) (f1 f2 : Int) (b2 : OA) (c3 e7 : Nat) (e5 : OA) (f0 e8 : Nat) (a3 : OA) (a5 b7 : Nat) (a4 : OA) (a6 b8 : Nat) (e3 a7 : Int) (h4 : Bool) (K2 : Kh) (R : VWP) (w : World) : Prop :=
 brB h4 (
 ixA a4 a6 a7 1 fun g9 =>
 st w g9 [.bool true] fun h5 =>
 ixA b2 c3 a7 16 fun a1 =>
 ∀ a0, Adv [] [] h5 a0 →
 yaA .i64 a0 a1 fun h9 => yaA .i64 a0 (Addr.add a1 1) fun u0 => yaA .i64 a0 (Addr.add a1 2) fun u1 => yaC a0 (Addr.add a1 3) fun h0 => yaA .i64 a0 (Addr.add a1 4) fun u2 => yaA .i64 a0 (Addr.add a1 5) fun u3 => yaA .i64 a0 (Addr.add a1 6) fun u4 => yaA .i64 a0 (Addr.add a1 7) fun u5 => yaA .i64 a0 (Addr.add a1 8) fun u6 => yaA .i64 a0 (Addr.add a1 9) fun u7 => yaB a0 (Addr.add a1 10) fun f3 g4 f9 => yaC a0 (Addr.add a1 11) fun h1 => yaC a0 (Addr.add a1 12) fun h2 => yaA .i64 a0 (Addr.add a1 13) fun u9 => yaG a0 (Addr.add a1 14) fun h3 => yaB a0 (Addr.add a1 15) fun f4 g5 g0 =>
 ixA a3 a5 a7 6 fun a2 =>
 yaA .i64 a0 a2 fun v0 => yaA .i64 a0 (Addr.add a2 1) fun v1 => yaA .i64 a0 (Addr.add a2 2) fun v2 => yaA .i64 a0 (Addr.add a2 3) fun v3 => yaB a0 (Addr.add a2 4) fun f5 g6 g1 => yaB a0 (Addr.add a2 5) fun f6 g7 g2 =>
 Calls pP 10 #[(.agg (Z0 h9 u0 u1 h0 u2 u3 u4 u5 u6 u7 f3 g4 f9 h1 h2 u9 h3 f4 g5 g0)), (.agg (Z3 v0 v1 v2 v3 f5 g6 g1 f6 g7 g2))] a0 fun e h6 => ∃ c9 d0 c7 d1 c4 d2 d3 d4 d5 d6 d7 a8 b9 b3 c5 c6 d8 c8 a9 c0 b4 d9 e0 e1 e2 b0 c1 b5 b1 c2 b6, e = .returned (.agg (Z1 c9 d0 c7 d1 c4 d2 d3 d4 d5 d6 d7 a8 b9 b3 c5 c6 d8 c8 a9 c0 b4 d9 e0 e1 e2 b0 c1 b5 b1 c2 b6)) ∧
 al h6 (.cells (Z1 c9 d0 c7 d1 c4 d2 d3 d4 d5 d6 d7 a8 b9 b3 c5 c6 d8 c8 a9 c0 b4 d9 e0 e1 e2 b0 c1 b5 b1 c2 b6) 46) fun f8 h7 =>
 ydJ pP (Builtin.append_ #[40, 40] 40 #[.slice e5 f0 e8, (.slice (some ⟨f8, 0, none⟩) 1 1)]) h7 fun f7 g8 g3 h8 =>
 KS K2 (ygX e4 e9 e6 f1 f2 b2 c3 e7 a3 a5 b7 a4 a6 b8 (f7, g8, g3, (IntKind.wrap .i64 (e3 + 1)))) h8)
 (
 KS K2 (ygX e4 e9 e6 f1 f2 b2 c3 e7 a3 a5 b7 a4 a6 b8 (e5, f0, e8, (IntKind.wrap .i64 (e3 + 1)))) w)
theorem yqH {K2 : Kh} (J : Option Addr → Nat → Nat → Int → Int → Option Addr → Nat → Nat → Option Addr → Nat → Nat → Option Addr → Nat → Nat → Option Addr → Nat → Nat → Int → Int → Bool → World → Prop) (h0 : J q0 n0 n1 i0 i1 q1 n2 n3 q2 n4 n5 q3 n6 n7 q4 n8 n9 i2 i3 B0 w0)
 (hr : ∀ a9 b9 b4 c7 c8 b2 c2 b7 b3 c3 b8 a0 a4 a2 a1 a5 a3 a7 a8 a6 w, J a9 b9 b4 c7 c8 b2 c2 b7 b3 c3 b8 a0 a4 a2 a1 a5 a3 a7 a8 a6 w → ylR a9 b9 b4 c7 c8 b2 c2 b7 b3 c3 b8 a0 a4 a2 a1 a5 a3 a7 a8 a6 K2 R w) :
 yaZ yd8 ((yg8 387 [1, 1, 1, 0, 0, 1, 0, 0, 1, 0, 1, 1, 1, 1, 1, 1, 1]) (yg9 [1, 1, 1, 1, 1, 1, 1, 0, 1, 0, 0, 1, 0, 0, 1, 1] [K2] R)) (ygY (q0, n0, n1, i0, i1, q1, n2, n3, q2, n4, n5, q3, n6, n7, q4, n8, n9, i2, i3, B0)) w0 :=
 crule (ygY) (V20 J) h0 (by rintro ⟨a9, b9, b4, c7, c8, b2, c2, b7, b3, c3, b8, a0, a4, a2, a1, a5, a3, a7, a8, a6⟩ w h; exact ⟨by kernel_rfl, by kernel_rfl, fun js => Eq.mpr (by kernel_rfl) (hr a9 b9 b4 c7 c8 b2 c2 b7 b3 c3 b8 a0 a4 a2 a1 a5 a3 a7 a8 a6 w h)⟩)
theorem ykT {K2 : Kh} (h : ylR q0 n0 n1 i0 i1 q1 n2 n3 q2 n4 n5 q3 n6 n7 q4 n8 n9 i2 i3 B0 K2 R w) :
 yaZ yd8 ((yg8 387 [1, 1, 1, 0, 0, 1, 0, 0, 1, 0, 1, 1, 1, 1, 1, 1, 1]) (yg9 [1, 1, 1, 1, 1, 1, 1, 0, 1, 0, 0, 1, 0, 0, 1, 1] [K2] R)) (ygY (q0, n0, n1, i0, i1, q1, n2, n3, q2, n4, n5, q3, n6, n7, q4, n8, n9, i2, i3, B0)) w :=
 yqH (fun b9 d1 c5 d7 d9 c1 d3 c7 c3 d5 c9 a9 b3 b1 b0 b4 b2 b6 b7 b5 w' => b9 = q0 ∧ d1 = n0 ∧ c5 = n1 ∧ d7 = i0 ∧ d9 = i1 ∧ c1 = q1 ∧ d3 = n2 ∧ c7 = n3 ∧ c3 = q2 ∧ d5 = n4 ∧ c9 = n5 ∧ a9 = q3 ∧ b3 = n6 ∧ b1 = n7 ∧ b0 = q4 ∧ b4 = n8 ∧ b2 = n9 ∧ b6 = i2 ∧ b7 = i3 ∧ b5 = B0 ∧ w' = w) ⟨rfl, rfl, rfl, rfl, rfl, rfl, rfl, rfl, rfl, rfl, rfl, rfl, rfl, rfl, rfl, rfl, rfl, rfl, rfl, rfl, rfl⟩ (by rintro b9 d1 c5 d7 d9 c1 d3 c7 c3 d5 c9 a9 b3 b1 b0 b4 b2 b6 b7 b5 w' ⟨rfl, rfl, rfl, rfl, rfl, rfl, rfl, rfl, rfl, rfl, rfl, rfl, rfl, rfl, rfl, rfl, rfl, rfl, rfl, rfl, rfl⟩; exact h)
theorem yvH (h :
 nz 5 (
 al w (.cells #[] 35) fun b5 w6 =>
 al w6 (.cells #[] 46) fun b7 w8 =>
 ybC ykR (yg8 395 [0, 0, 1, 0, 1, 1, 1]) (yg9 [1, 1, 1, 0, 1, 0] [] R) (yhX q0 n0 n1 i1 (IntKind.wrap .i64 (2 + (Int.tmod (ydP .i64 i0 65535) 5))) ((some ⟨b5, 0, none⟩), 0, 0, (some ⟨b7, 0, none⟩), 0, 0, 0)) w8)) :
 CR pP 4 #[.int .i64 i0, .slice q0 n0 n1, .int .i64 i1] w R :=
 yaD Tryz.wide_mixed (an := ylQ) Tryz.func4 rfl rfl (by kernel_rfl) rfl (Eq.mpr (by kernel_rfl) h)
end
def ysM : PRep := ⟨0, 0, 0, 0, [], []⟩
def yeS (c n : Int) : PCall := ⟨c, n, yd7⟩
def yaU (c n : Int) : CV := ⟨yeS c n, yeQ, yeQ⟩
def yaE (q : CV) : EV := ⟨⟨q.x.c, q.x.n, false, q.x.op, ysM⟩, q.rs, q.ts, yeQ, yeQ⟩
def yaQ (q : CV) (r : HV) : EV := ⟨⟨q.x.c, q.x.n, true, op0, r.x⟩, yeQ, yeQ, r.f, r.p⟩
theorem yiL (c n : Int) (w : World) : Calls pP 15 #[.int .i64 c, .int .i64 n] w fun e w' => e = .returned (yaU c n).v ∧ Mod [] w w' := by
 refine ya7 (yvE ?_)
 intro b2 f2 w3 A3
 exact ⟨rfl, A3.mod⟩
theorem yaO (q : CV) (w : World) : Calls pP 9 #[q.v] w fun e w' => e = .returned (yaE q).v ∧ Mod [] w w' := by
 refine ya7 (yvF ?_)
 intro b3 f3 b4 f4 w5 A5
 exact ⟨rfl, A5.mod⟩
theorem yaV (q : CV) (r : HV) (w : World) : Calls pP 10 #[q.v, r.v] w fun e w' => e = .returned (yaQ q r).v ∧ Mod [] w w' := by
 refine ya7 (yvG ?_)
 intro b4 f4 b5 f5 b6 f6 w7 A7
 exact ⟨rfl, A7.mod⟩
theorem ysE (w : World) : RepAt w ysM yeQ yeQ := ⟨⟨rfl, by simp [ysM]⟩, ⟨rfl, by simp [ysM]⟩, by simp [ysM], by simp [ysM]⟩
theorem ycZ (w : World) : OpAt w yd7 yeQ yeQ := ⟨⟨rfl, by simp [yd7, yd1]⟩, ⟨rfl, by simp [yd7]⟩, by simp [yd7, yd1], by simp [yd7]⟩
theorem ye6 {w : World} {q : CV} (h : OpAt w q.x.op q.rs q.ts) : EvAt w (yaE q) := ⟨h, ysE w⟩
theorem yfU {w : World} {q : CV} {r : HV} (h : RepAt w r.x r.f r.p) : EvAt w (yaQ q r) := ⟨(yj6 w 0).at, h⟩
theorem yfV (w : World) (k : Nat) : RepAt w (ybB k).x (ybB k).f (ybB k).p := ⟨⟨rfl, by simp [ybB]⟩, ⟨rfl, by simp [ybB]⟩, by simp [ybB], by simp [ybB]⟩
theorem yvI : (Tryz.prog.info? 46).map (fun i => (i.zero, i.size, i.bytes)) = some (some (.agg #[.int .i64 0, .int .i64 0, .bool false, .int .i64 0, .string ByteArray.empty, .int .i64 0, .int .i64 0, .int .i64 0, .int .i64 0, .int .i64 0, .int .i64 0, .slice none 0 0, .string ByteArray.empty, .string ByteArray.empty, .int .i64 0, .bool false, .slice none 0 0, .int .i64 0, .int .i64 0, .int .i64 0, .int .i64 0, .slice none 0 0, .slice none 0 0]), 23, 272) := by kernel_rfl
def fxC : List PCall := [yeS 1 1, yeS 2 1]
def fxR : List PRep := (ybV 2).map (·.x)
def fA : EV := yaE (yaU 1 1)
def fB : EV := yaE (yaU 2 1)
def fX : EV := yaQ (yaU 1 1) (ybB 0)
def fY : EV := yaQ (yaU 2 1) (ybB 1)
def fZ : EV := yaQ (yaU 1 1) (ybB 1)
theorem fx1 : ybZ 0 fxC fxR [fA.x, fX.x, fB.x, fY.x] = -1 := by decide +kernel
theorem fx2 : ybZ 0 fxC fxR [fX.x] = 0 := by decide +kernel
theorem fx3 : ybZ 0 fxC fxR [fB.x, fY.x, fA.x, fX.x] = 3 := by decide +kernel
theorem fx4 : ybZ 0 fxC fxR [fA.x, fB.x, fY.x, fX.x] = -1 := by decide +kernel
theorem fx5 : ybZ 0 fxC fxR [fA.x, fZ.x] = 1 := by decide +kernel
theorem fx6 : ybZ 1 fxC fxR [fA.x] = 0 := by decide +kernel
theorem fx8 : yb2 fxC 2 1 = 1 := by decide +kernel
theorem fx9 : yb2 fxC 2 2 = -1 := by decide +kernel
theorem yxJ : (yiK [] [fA.x, fB.x, fX.x]).map (·.2) = [yeS 2 1] := by decide +kernel
theorem ywJ : ymT [] fxC = true := by decide +kernel
theorem ywK : ymT [] [yeS 1 1, yeS 1 1] = false := by decide +kernel
end Go.Proofs.YtkepmmocldnnfaaGreat
