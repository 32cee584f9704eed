/- A map's block that holds just the pairs of a list, keys and elements of any type of ours: looked up, written, struck, counted, copied. -/
import Derived.Test.YtohgihgddknmmaaRows
import Derived.WalkKit
import Derived.WalkSpells
import Derived.WalkLawsBesides
import Derived.Maps.Keyed
import Derived.Maps.RangeRun
import Derived.DeepKeys4
namespace Go.Proofs.Ytohgihgddknmmaa
open Go.RowKit Go.Maps Go.MapKept
open Go.ChangeMaps (setBlock)

section
set_option linter.unusedSectionVars false
variable {κ β : Type} [DecidableEq κ]

/-- What stands at a key. -/
def lkp (L : List (κ × β)) (k : κ) : Option β := match L with
  | [] => none
  | p :: r => if p.1 = k then some p.2 else lkp r k
/-- The list with a key's element set: in its place, or at the end. -/
def put (L : List (κ × β)) (k : κ) (v : β) : List (κ × β) := match L with
  | [] => [(k, v)]
  | p :: r => if p.1 = k then (k, v) :: r else p :: put r k v
/-- .. without a key. -/
def del (L : List (κ × β)) (k : κ) : List (κ × β) := match L with
  | [] => []
  | p :: r => if p.1 = k then r else p :: del r k

/-- Block b of w is a map that holds just L, in this order. -/
def MapAt (P : Program) (t : TypeId) (ek : κ → Value) (ev : β → Value) (w : World) (b : Nat) (L : List (κ × β)) : Prop :=
  ∃ es clock, w.heap[b]? = some (.map es clock) ∧ es.toList.map (fun e => (e.key, e.val)) = L.map (fun p => (ek p.1, ev p.2)) ∧
    (∀ p ∈ L, ∃ l, keyOf P t (ek p.1) = some l) ∧ Stamped es clock

variable {P : Program} {t : TypeId} {ek : κ → Value} {ev : β → Value} {w w' : World} {b : Nat} {L : List (κ × β)}

theorem MapAt.lt (h : MapAt P t ek ev w b L) : b < w.heap.size := by
  obtain ⟨es, clock, hb, _⟩ := h
  exact (Array.getElem?_eq_some_iff.1 hb).1

theorem MapAt.of_block (h : MapAt P t ek ev w b L) (e : w'.heap[b]? = w.heap[b]?) : MapAt P t ek ev w' b L := by
  obtain ⟨es, clock, hb, r⟩ := h
  exact ⟨es, clock, e.trans hb, r⟩

theorem MapAt.made (P : Program) (t : TypeId) (ek : κ → Value) (ev : β → Value) (w : World) : MapAt P t ek ev (w.alloc (.map #[] 0)) w.heap.size [] :=
  ⟨#[], 0, (MapKept.heap_alloc w _).1, by simp, by simp, stamped_empty 0⟩

theorem MapAt.of_new (h : w.heap[b]? = some (.map #[] 0)) : MapAt P t ek ev w b [] := ⟨#[], 0, h, by simp, by simp, stamped_empty 0⟩

theorem lkp_of_mem {L : List (κ × β)} {k : κ} {v : β} (hn : (L.map (·.1)).Nodup) (h : (k, v) ∈ L) : lkp L k = some v := by
  induction L with
  | nil => cases h
  | cons p r ih =>
    simp only [List.map_cons, List.nodup_cons] at hn
    rcases List.mem_cons.1 h with rfl | h
    · simp [lkp]
    · have : p.1 ≠ k := fun e => hn.1 (by rw [e]; exact List.mem_map.2 ⟨_, h, rfl⟩)
      simp [lkp, this, ih hn.2 h]

theorem lkp_none {L : List (κ × β)} {k : κ} : lkp L k = none ↔ ∀ p ∈ L, p.1 ≠ k := by
  induction L with
  | nil => simp [lkp]
  | cons p r ih =>
    by_cases h : p.1 = k
    · simp [lkp, h]
    · simp [lkp, h, ih]

theorem mem_of_lkp {L : List (κ × β)} {k : κ} {v : β} (h : lkp L k = some v) : (k, v) ∈ L := by
  induction L with
  | nil => cases h
  | cons p r ih =>
    by_cases hp : p.1 = k
    · simp [lkp, hp] at h; subst h; subst hp; simp
    · simp [lkp, hp] at h; simp [ih h]

/-- The keys differ. -/
theorem MapAt.nodup (h : MapAt P t ek ev w b L) : (L.map (·.1)).Nodup := by
  obtain ⟨es, clock, hb, he, hk, hs⟩ := h
  have := ((stamped_iff es clock).1 hs).2.2
  have h2 : (es.toList.map (·.key)).Pairwise (· ≠ ·) := List.pairwise_map.2 this
  have e1 : es.toList.map (·.key) = (es.toList.map (fun e => (e.key, e.val))).map (·.1) := by simp
  rw [e1, he] at h2
  simp only [List.map_map] at h2
  rw [List.pairwise_map] at h2
  unfold List.Nodup
  rw [List.pairwise_map]
  exact h2.imp (fun h e => h (by simp [e]))

theorem MapAt.find (K : Keyed P t) (hi : ∀ a b, ek a = ek b → a = b) (h : MapAt P t ek ev w b L) {es : Array MapEntry} {clock : Nat} (hb : w.heap[b]? = some (.map es clock)) {k : κ} {l : Lit} (hk : keyOf P t (ek k) = some l) (w0 : World) :
    (lkp L k = none ∧ (Instr.findKey t (ek k) es.toList).run P w0 = .ok none w0) ∨
    ∃ j v, lkp L k = some v ∧ L[j]? = some (k, v) ∧ (Instr.findKey t (ek k) es.toList).run P w0 = .ok (some (j, ev v)) w0 := by
  obtain ⟨es', clock', hb', he, hkk, hs⟩ := id h
  rw [hb] at hb'; cases hb'
  have hn := h.nodup
  have hes : ∀ e ∈ es.toList, ∃ l, keyOf P t e.key = some l := fun e hm => by
    have : (e.key, e.val) ∈ L.map (fun p => (ek p.1, ev p.2)) := he ▸ List.mem_map.2 ⟨e, hm, rfl⟩
    obtain ⟨p, hp, e2⟩ := List.mem_map.1 this
    simp only [Prod.mk.injEq] at e2
    rw [← e2.1]; exact hkk p hp
  rcases K.find w0 hk es.toList hes with ⟨h1, h2⟩ | ⟨j, e, h1, h2, h3⟩
  · refine .inl ⟨?_, h1⟩
    rw [lkp_none]
    intro p hp ek'
    have : (ek p.1, ev p.2) ∈ es.toList.map (fun e => (e.key, e.val)) := he ▸ List.mem_map.2 ⟨p, hp, rfl⟩
    obtain ⟨e, hm, e2⟩ := List.mem_map.1 this
    simp only [Prod.mk.injEq] at e2
    exact h2 e hm (by rw [e2.1, ek'])
  · have g : (es.toList.map (fun e => (e.key, e.val)))[j]? = some (e.key, e.val) := by simp [h2]
    rw [he, List.getElem?_map, Option.map_eq_some_iff] at g
    obtain ⟨p, hp, e2⟩ := g
    simp only [Prod.mk.injEq] at e2
    have hpk : p.1 = k := hi _ _ (by rw [e2.1, h3])
    have hp' : p = (k, p.2) := by rw [← hpk]
    refine .inr ⟨j, p.2, lkp_of_mem hn (by rw [← hp']; exact List.mem_of_getElem? hp), by rw [← hp']; exact hp, by rw [h1, e2.2]⟩

theorem put_of_none {L : List (κ × β)} {k : κ} {v : β} (h : lkp L k = none) : put L k v = L ++ [(k, v)] := by
  induction L with
  | nil => rfl
  | cons p r ih =>
    by_cases hp : p.1 = k
    · simp [lkp, hp] at h
    · simp [lkp, hp] at h; simp [put, hp, ih h]

theorem put_of_at {L : List (κ × β)} {k : κ} {v x : β} {j : Nat} (hn : (L.map (·.1)).Nodup) (h : L[j]? = some (k, x)) : put L k v = L.set j (k, v) := by
  induction L generalizing j with
  | nil => cases h
  | cons p r ih =>
    simp only [List.map_cons, List.nodup_cons] at hn
    cases j with
    | zero => simp at h; subst h; simp [put]
    | succ j =>
      have hm : (k, x) ∈ r := List.mem_of_getElem? (by simpa using h)
      have : p.1 ≠ k := fun e => hn.1 (by rw [e]; exact List.mem_map.2 ⟨_, hm, rfl⟩)
      simp [put, this, ih hn.2 (by simpa using h)]

theorem del_of_none {L : List (κ × β)} {k : κ} (h : lkp L k = none) : del L k = L := by
  induction L with
  | nil => rfl
  | cons p r ih =>
    by_cases hp : p.1 = k
    · simp [lkp, hp] at h
    · simp [lkp, hp] at h; simp [del, hp, ih h]

theorem del_of_at {L : List (κ × β)} {k : κ} {x : β} {j : Nat} (hn : (L.map (·.1)).Nodup) (h : L[j]? = some (k, x)) : del L k = L.eraseIdx j := by
  induction L generalizing j with
  | nil => cases h
  | cons p r ih =>
    simp only [List.map_cons, List.nodup_cons] at hn
    cases j with
    | zero => simp at h; subst h; simp [del]
    | succ j =>
      have hm : (k, x) ∈ r := List.mem_of_getElem? (by simpa using h)
      have : p.1 ≠ k := fun e => hn.1 (by rw [e]; exact List.mem_map.2 ⟨_, hm, rfl⟩)
      simp [del, this, ih hn.2 (by simpa using h)]

theorem modify_map {es : Array MapEntry} {j : Nat} {e : MapEntry} {kv vv : Value} (h : es[j]? = some e) :
    (es.modify j (fun e => { e with key := kv, val := vv })).toList.map (fun e => (e.key, e.val)) = (es.toList.map (fun e => (e.key, e.val))).set j (kv, vv) := by
  apply List.ext_getElem?
  intro i
  simp only [Array.toList_modify, List.getElem?_map, List.getElem?_modify, List.getElem?_set, List.length_map, Array.length_toList]
  by_cases hij : j = i
  · subst hij
    obtain ⟨hl, _⟩ := Array.getElem?_eq_some_iff.1 h
    simp [hl]
  · simp [hij]

/-- 'v, ok := m[k]', 'v := m[k]'. -/
theorem MapAt.look {T e : TypeId} (c : Bool) (h : MapAt P t ek ev w b L) (K : Keyed P t) (hi : ∀ a b, ek a = ek b → a = b) (ht : P.underlying T = some (.map t e)) {z : Value} (hz : (zeroValue e).run P w = .ok z w) {k : κ} {l : Lit} (hk : keyOf P t (ek k) = some l) :
    (Instr.lookup T (.map (some b)) (ek k) c).run P w = .ok (if c then .tuple #[(lkp L k).elim z ev, .bool (lkp L k).isSome] else (lkp L k).elim z ev) w := by
  obtain ⟨es, clock, hb, _⟩ := id h
  rcases h.find K hi hb hk w with ⟨h1, h2⟩ | ⟨j, v, h1, _, h2⟩
  · simp [Instr.lookup, run_underlying ht, MapKept.run_getObj_map hb, K.check w _ hk, h2, hz, Result.andThen, h1]
  · simp [Instr.lookup, run_underlying ht, MapKept.run_getObj_map hb, K.check w _ hk, h2, Result.andThen, h1]

/-- Behind 'setBlock' the block is what was laid; every other is what it was. -/
theorem setBlock_at {o o' : Obj} (hb : w.heap[b]? = some o) : (setBlock w b o').heap[b]? = some o' := by
  obtain ⟨h, _⟩ := Array.getElem?_eq_some_iff.1 hb
  simp [setBlock, h]
theorem setBlock_other {o' : Obj} {i : Nat} (h : i ≠ b) : (setBlock w b o').heap[i]? = w.heap[i]? := by
  simp [setBlock, Array.getElem?_setIfInBounds, Ne.symm h]
theorem setBlock_size {o' : Obj} : (setBlock w b o').heap.size = w.heap.size := by simp [setBlock]

/-- 'm[k] = v'. -/
theorem MapAt.update {T e : TypeId} (h : MapAt P t ek ev w b L) (K : Keyed P t) (hi : ∀ a b, ek a = ek b → a = b) (ht : P.underlying T = some (.map t e)) {k : κ} (v : β) {l : Lit} (hk : keyOf P t (ek k) = some l) :
    ∃ o, (Instr.mapUpdate T (.map (some b)) (ek k) (ev v)).run P w = .ok () (setBlock w b o) ∧ MapAt P t ek ev (setBlock w b o) b (put L k v) := by
  have hn := h.nodup
  obtain ⟨es, clock, hb, he, hkk, hs⟩ := id h
  rcases h.find K hi hb hk w with ⟨h1, h2⟩ | ⟨j, x, h1, hj, h2⟩
  · refine ⟨.map (es.push { key := ek k, val := ev v, born := clock }) (clock + 1), ?_, _, _, setBlock_at hb, ?_, ?_, ?_⟩
    · simp [Instr.mapUpdate, run_underlying ht, MapKept.run_getObj_map hb, K.check w _ hk, h2, Result.andThen, MapKept.run_setObj_map _ hb, setBlock]
    · rw [put_of_none h1]; simp [he]
    · rw [put_of_none h1]; intro p hp
      rcases List.mem_append.1 hp with hp | hp
      · exact hkk p hp
      · simp at hp; subst hp; exact ⟨l, hk⟩
    · refine stamped_push hs (fun x hx e => ?_)
      have : (x.key, x.val) ∈ L.map (fun p => (ek p.1, ev p.2)) := he ▸ List.mem_map.2 ⟨x, hx, rfl⟩
      obtain ⟨p, hp, e2⟩ := List.mem_map.1 this
      simp only [Prod.mk.injEq] at e2
      exact lkp_none.1 h1 p hp (hi _ _ (by rw [e2.1, e]))
  · have g : (es.toList.map (fun e => (e.key, e.val)))[j]? = some (ek k, ev x) := by rw [he, List.getElem?_map, hj]; rfl
    rw [List.getElem?_map, Option.map_eq_some_iff] at g
    obtain ⟨e0, he0, e2⟩ := g
    simp only [Prod.mk.injEq] at e2
    have he1 : es[j]? = some e0 := by rw [← Array.getElem?_toList]; exact he0
    refine ⟨.map (es.modify j fun e => { e with key := ek k, val := ev v }) clock, ?_, _, _, setBlock_at hb, ?_, ?_, ?_⟩
    · simp [Instr.mapUpdate, run_underlying ht, MapKept.run_getObj_map hb, K.check w _ hk, h2, Result.andThen, MapKept.run_setObj_map _ hb, setBlock, he1, e2.1, K.stays w hk]
    · rw [put_of_at hn hj, modify_map he1, he, List.map_set]
    · rw [put_of_at hn hj]; intro p hp
      rcases List.mem_or_eq_of_mem_set hp with hp | rfl
      · exact hkk p hp
      · exact ⟨l, hk⟩
    · exact stamped_modify hs _ _ (fun _ _ => rfl) (fun e' _ he' => by rw [he1] at he'; cases he'; exact e2.1.symm)

/-- 'delete(m, k)'. -/
theorem MapAt.delete {T e : TypeId} (h : MapAt P t ek ev w b L) (K : Keyed P t) (hi : ∀ a b, ek a = ek b → a = b) (ht : P.underlying T = some (.map t e)) {k : κ} {l : Lit} (hk : keyOf P t (ek k) = some l) (ty : TypeId) :
    ∃ o, (Builtin.delete_ #[T, t] ty #[.map (some b), ek k]).run P w = .ok (.tuple #[]) (setBlock w b o) ∧ MapAt P t ek ev (setBlock w b o) b (del L k) := by
  have hn := h.nodup
  obtain ⟨es, clock, hb, he, hkk, hs⟩ := id h
  rcases h.find K hi hb hk w with ⟨h1, h2⟩ | ⟨j, x, h1, hj, h2⟩
  · refine ⟨.map es clock, ?_, _, _, setBlock_at hb, ?_, ?_, hs⟩
    · simp [Builtin.delete_, run_underlying ht, MapKept.run_getObj_map hb, K.check w _ hk, h2, Result.andThen, MapKept.run_setObj_map _ hb, setBlock]
    · rw [del_of_none h1, he]
    · rw [del_of_none h1]; exact hkk
  · refine ⟨.map (es.eraseIdxIfInBounds j) clock, ?_, _, _, setBlock_at hb, ?_, ?_, stamped_erase hs j⟩
    · simp [Builtin.delete_, run_underlying ht, MapKept.run_getObj_map hb, K.check w _ hk, h2, Result.andThen, MapKept.run_setObj_map _ hb, setBlock]
    · have hl : j < es.size := by
        have := (List.getElem?_eq_some_iff.1 hj).1
        have e3 := congrArg List.length he
        simp at e3; omega
      rw [del_of_at hn hj, Go.ChangeMaps.map_eraseIdx, ← he, ← Go.ChangeMaps.map_eraseIdx]
      simp [Array.eraseIdxIfInBounds, hl]
    · rw [del_of_at hn hj]; exact fun p hp => hkk p (List.mem_of_mem_eraseIdx hp)

/-- 'len(m)'. -/
theorem MapAt.len {T e : TypeId} (h : MapAt P t ek ev w b L) (ht : P.underlying T = some (.map t e)) (ty : TypeId) : (Builtin.len_ #[T] ty #[.map (some b)]).run P w = .ok (.int .i64 L.length) w := by
  obtain ⟨es, clock, hb, he, _⟩ := h
  have e3 := congrArg List.length he
  simp at e3
  simp [Builtin.len_, run_underlying ht, MapKept.run_getObj_map hb, Result.andThen, goInt, e3]

end
end Go.Proofs.Ytohgihgddknmmaa
