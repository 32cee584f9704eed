/- The program's Copy; the law that both boxes answer alike: walked. -/
import Derived.Test.YtkdpopkbongabaaR4
namespace Go.Proofs.Ytkdpopkbongabaa
open Go Go.RowKit Go.Maps Go.MapKept
open Go.Shelf
set_option linter.unusedVariables false
set_option linter.unusedSimpArgs false
end Go.Proofs.Ytkdpopkbongabaa
namespace Go.Proofs
open Go.Shelf
shelf_lay_g SlLaysW.n5 Slmc 5 at Try 34 as Try.layClone
end Go.Proofs
namespace Go.Proofs.Ytkdpopkbongabaa
open Go Go.RowKit Go.Maps Go.MapKept

theorem Copy_ok {b m : Nat} {n : Int} {L : List (Ky × Vt)} {w : World} (hB : BoxAt w b n m L) :
    Calls Try.prog 23 #[.pointer (some ⟨b, 0, none⟩)] w fun e w' => ∃ b' m', e = .returned (.pointer (some ⟨b', 0, none⟩)) ∧ BoxAt w' b' n m' L ∧ Mod [] w w' ∧ w.heap.size ≤ b' ∧ w.heap.size ≤ m' := by
  refine (k_quorum_Box_Copy_go (R := fun v w' => ∃ b' m', v = .pointer (some ⟨b', 0, none⟩) ∧ BoxAt w' b' n m' L ∧ Mod [] w w' ∧ w.heap.size ≤ b' ∧ w.heap.size ≤ m') hB.cells ?_).mono (fun e w' ⟨v, he, b', m', hv, h⟩ => ⟨b', m', by rw [he, hv], h⟩)
  intro w1 A1
  have B1 := hB.keep0 A1.mod
  obtain ⟨es, clock, hb, hr⟩ := B1.map
  refine (AnyW.maps_Clone Try.layClone m es clock w1 hb).mono ?_
  rintro e w2 ⟨rfl, rfl⟩
  have M2 : Mod [] w1 (w1.alloc (.map es clock)) := Mod.of_below ((Below.refl _ _).alloc (Nat.le_refl _) _)
  have hnew := (MapKept.heap_alloc w1 (.map es clock)).1
  refine ⟨_, rfl, Keep.of0 M2, rfl, ?_⟩
  intro b4 f4 w5 A5 h5 h5'
  have hs := A1.mod.size
  refine ⟨b4, _, rfl, ⟨h5', es, clock, (A5.mod.new (by simp)).keep0 hnew, hr⟩, (A1.mod.go0 M2 (by simp)).go0 A5.mod (by simp), ?_, by omega⟩
  have := M2.size; omega

theorem put_len {κ β : Type} [DecidableEq κ] : ∀ (L : List (κ × β)) (k : κ) (v : β), (put L k v).length ≤ L.length + 1
  | [], k, v => by simp [put]
  | p :: r, k, v => by
    unfold put
    split
    · simp
    · have := put_len r k v; simp; omega
theorem voteL_len (n : Int) (L : List (Ky × Vt)) (view kind : Int) (x : Vt) : (voteL n L view kind x).length ≤ L.length + 1 := by
  unfold voteL; split
  · exact put_len ..
  · omega
theorem dropL_len (below : Int) (L : List (Ky × Vt)) : (dropL below L).length ≤ L.length := List.length_filter_le ..

/-- Both boxes: the program's, the reference's, of the same votes. -/
structure Both (w0 w : World) (b m rb : Nat) (n : Int) (L : List (Ky × Vt)) : Prop where
  box : BoxAt w b n m L
  ref : RefAt w rb n w0.heap.size L
  mod : Mod [] w0 w
  fb : w0.heap.size ≤ b
  fm : w0.heap.size ≤ m
  fr : w0.heap.size ≤ rb
theorem ref_ne {w : World} {b m rb base : Nat} {n n' : Int} {L L' : List (Ky × Vt)} (hb : BoxAt w b n m L) (hr : RefAt w rb n' base L') : ¬ RefB w rb base b ∧ ¬ RefB w rb base m := by
  obtain ⟨⟨a, len, c, k1, k2⟩, ho⟩ := hr
  obtain ⟨es, clock, hm, _⟩ := hb.map
  constructor
  · rintro (e | ⟨_, ⟨cur, e⟩, _⟩)
    · have := hb.cells; rw [e, k1] at this; simp at this
    · have := hb.cells; rw [e] at this; simp at this
  · rintro (e | ⟨_, ⟨cur, e⟩, _⟩)
    · rw [e, k1] at hm; cases hm
    · rw [e] at hm; cases hm
theorem Both.ne {w0 w : World} {b m rb : Nat} {n : Int} {L : List (Ky × Vt)} (h : Both w0 w b m rb n L) : ¬ RefB w rb w0.heap.size b ∧ ¬ RefB w rb w0.heap.size m := ref_ne h.box h.ref
/-- The blocks that the reference writes were there. -/
theorem RefAt.lt {w : World} {b base k : Nat} {n : Int} {L : List (Ky × Vt)} (h : RefAt w b n base L) (hk : RefB w b base k) : k < w.heap.size := by
  obtain ⟨⟨a, len, c, k1, k2⟩, ho⟩ := h
  rcases hk with rfl | ⟨_, ⟨cur, e⟩, _⟩
  · exact lt_of_block k1
  · exact lt_of_block e
theorem RefAt.same {w w' : World} {b base k : Nat} {n : Int} {L : List (Ky × Vt)} (h : RefAt w b n base L) (e : w'.heap[b]? = w.heap[b]?) (hk : RefB w' b base k) : k < w.heap.size := by
  obtain ⟨⟨a, len, c, k1, k2⟩, ho⟩ := h
  rcases hk with rfl | ⟨_, _, n', len', c', ad, h1, rfl⟩
  · exact lt_of_block k1
  · rw [e, k1] at h1
    simp only [Option.some.injEq, Obj.cells.injEq, Array.mk.injEq, List.cons.injEq, Value.slice.injEq] at h1
    obtain ⟨_, cur, hc⟩ := k2.block ad h1.1.2.1.1
    exact lt_of_block hc

theorem Both.keep0 {w0 w w' : World} {b m rb : Nat} {n : Int} {L : List (Ky × Vt)} (h : Both w0 w b m rb n L) (M : Mod [] w w') : Both w0 w' b m rb n L :=
  ⟨h.box.keep0 M, h.ref.keep0 M, h.mod.go0 M (by simp), h.fb, h.fm, h.fr⟩
/-- .. where another slice's row is written. -/
theorem Both.keepS {S : List Nat} {w0 w w1 w' : World} {b m rb : Nat} {n : Int} {L : List (Ky × Vt)} (h : Both w0 w b m rb n L) (h1 : Both w0 w1 b m rb n L) (M : Mod S w1 w') (hS : ∀ k ∈ S, w.heap.size ≤ k) (hr : ∀ k ∈ S, ∀ cur, w1.heap[k]? ≠ some (.cells cur 63)) : Both w0 w' b m rb n L := by
  have e1 := lt_of_block h.box.cells
  have e2 := h.box.map.lt
  obtain ⟨⟨a, len, c, k1, k2⟩, ho⟩ := h.ref
  have e3 := lt_of_block k1
  have e4 := h.mod.size
  refine ⟨h1.box.keep M (fun hk => by have := hS _ hk; omega) (fun hk => by have := hS _ hk; omega), h1.ref.keep M fun k hk hb => ?_, h1.mod.go0 M fun i hi => by have := hS i hi; omega, h.fb, h.fm, h.fr⟩
  rcases hb with rfl | ⟨_, ⟨cur, e⟩, _⟩
  · have := hS _ hk; omega
  · exact hr k hk cur e
end Go.Proofs.Ytkdpopkbongabaa
