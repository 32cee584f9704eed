/- Layer 17: votes of views below go. -/
import Derived.Test.YtkdpopkbongabaaQ2
import Derived.Test.YtkdpopkbongabaaIter
namespace Go.Proofs.Ytkdpopkbongabaa
open Go Go.RowKit Go.Maps Go.MapKept
set_option linter.unusedVariables false
set_option linter.unusedSimpArgs false

def dropL (below : Int) (L : List (Ky × Vt)) : List (Ky × Vt) := L.filter fun p => decide (below ≤ p.1.1)

theorem Drop_ok {b m : Nat} {n below : Int} {L : List (Ky × Vt)} {w : World} (hB : BoxAt w b n m L) (hlen : L.length ≤ 1000000) :
    Calls Try.prog 17 #[.pointer (some ⟨b, 0, none⟩), .int .i64 below] w fun e w' =>
      e = .returned (.int .i64 ((L.length : Int) - (dropL below L).length)) ∧ BoxAt w' b n m (dropL below L) ∧ Mod [m] w w' := by
  refine go_of (quorum_Box_Drop_go (a0_b := ⟨b, 0, none⟩) ?_)
  refine ldMap_at hB.cells rfl ?_
  refine ⟨_, fun w' hm => (hB.keep0 hm).map.len Try.underlying52 _, ?_⟩
  refine ldMap_at hB.cells rfl ?_
  obtain ⟨w1, hr, M1, hI⟩ := IterAt.start hB.map Try.underlying52
  refine ⟨_, w1, hr, ?_⟩
  have hbr : b < w.heap.size := lt_of_block hB.cells
  have hmr : m < w.heap.size := hB.map.lt
  refine quorum_Box_Drop_rule1 (fun mm w' => ∃ L' left, IterAt Try.prog 56 Ky.v Vt.v w' w.heap.size m L' left ∧ L' = L.filter (fun p => decide (below ≤ p.1.1) || decide (p.1 ∈ left.map (·.1))) ∧
    w'.heap[b]? = some (.cells #[.int .i64 n, .map (some m)] 54) ∧ Mod [m] w w' ∧ mm = left.length) L.length ⟨L, L, hI, ?_, M1.keep0 hB.cells, M1.less (by simp), rfl⟩ ?_
  · refine (List.filter_eq_self.2 fun p hp => ?_).symm
    have : p.1 ∈ L.map (·.1) := List.mem_map.2 ⟨p, hp, rfl⟩
    simp only [this, decide_true, Bool.or_true]
  rintro mm js w2 ⟨L', left, hI, hL', hc, M2, rfl⟩
  rcases hI.step (ty := 0) Ky_inj with ⟨rfl, hrun⟩ | ⟨p, hp, w3, hrun, M3, hI3, hent⟩
  · refine .inl ⟨w2, hrun, ?_⟩
    have hL2 : L' = dropL below L := by rw [hL']; simp [dropL]
    subst hL2
    refine ldMap_at hc rfl ?_
    refine ⟨_, fun w' hm => ((hI.map).of_block (hm.block m hI.map.lt (by simp))).len Try.underlying52 _, ?_⟩
    have : (dropL below L).length ≤ L.length := List.length_filter_le _ _
    refine ⟨?_, ⟨hc, hI.map⟩, M2⟩
    rw [wrap_id (by omega) (by omega)]
  · refine .inr ⟨_, _, w3, hrun, ?_⟩
    have hbm : b ≠ w.heap.size := by omega
    have hc3 := M3.keep hc (by simpa using hbm)
    refine ⟨p.1.1, p.1.2.1, p.1.2.2, p.2.v, w3, hent w3 (Mod.refl _), ?_⟩
    refine al_st rfl rfl fun b4 w4 c4 M4 f4 => ?_
    refine ldInt_at c4 rfl ?_
    have hll : (delF left p.1).length < left.length := by
      have : left.length ≠ (delF left p.1).length := fun e => by
        have := (List.length_filter_eq_length_iff.1 e.symm) p hp
        simp at this
      have := List.length_filter_le (fun q : Ky × Vt => decide (q.1 ≠ p.1)) left
      unfold delF at *; omega
    have M24 : Mod [m] w w4 := ((M2.trans M3).trans M4).less (fun j hj hlt => by simp at hj; simp; omega)
    have hI4 := hI3.keep M4 (by simp) (by simp)
    have hc4 := M4.keep0 hc3
    refine brB_dec (fun hlt => ?_) fun hge => ?_
    · intro w5 M5
      have hI5 := hI4.keep M5 (by simp) (by simp)
      have hc5 := M5.keep0 hc4
      refine ldMap_at hc5 rfl ?_
      have c5 := M5.keep0 c4
      refine ldInt_at c5 rfl (ldInt_at c5 rfl (ldInt_at c5 rfl ?_))
      have hkey : ∃ l, keyOf Try.prog 56 (Ky.v p.1) = some l := by
        obtain ⟨es, clock, since, seen, c0, h1, h2, he, hk, hs, _, _, _, hl⟩ := hI
        have : (Ky.v p.1, Vt.v p.2) ∈ (es.toList.filter fun e => !seen.contains e.born).map (fun e => (e.key, e.val)) := hl ▸ List.mem_map.2 ⟨p, hp, rfl⟩
        obtain ⟨a, ha, hae⟩ := List.mem_map.1 this
        have : (a.key, a.val) ∈ L'.map (fun p => (Ky.v p.1, Vt.v p.2)) := he ▸ List.mem_map.2 ⟨a, (List.mem_filter.1 ha).1, rfl⟩
        obtain ⟨q, hq, hqe⟩ := List.mem_map.1 this
        simp only [Prod.mk.injEq] at hae hqe
        obtain ⟨l, hl⟩ := hk q hq
        exact ⟨l, by rw [← hae.1, ← hqe.1]; exact hl⟩
      obtain ⟨l, hkey⟩ := hkey
      obtain ⟨w6, hdel, M6, hI6⟩ := hI5.delete keyLaw Ky_inj Try.underlying52 hkey 0
      refine ⟨_, w6, hdel, ?_⟩
      have ed : delF (delF left p.1) p.1 = delF left p.1 := List.filter_eq_self.2 fun q hq => (List.mem_filter.1 hq).2
      rw [ed] at hI6
      refine quorum_Box_Drop_leaf1 (delF left p.1).length hll ⟨_, _, hI6, ?_, M6.keep hc5 (by simpa using hB.ne), ((M24.trans M5).trans M6).less (fun j hj hlt => by simpa using hj), rfl⟩
      rw [hL', delF, List.filter_filter]
      refine List.filter_congr fun q hq => ?_
      by_cases hqp : q.1 = p.1
      · have : ¬ below ≤ q.1.1 := by rw [hqp]; omega
        have h2 : q.1 ∉ (delF left p.1).map (·.1) := fun h => by
          obtain ⟨z, hz, hze⟩ := List.mem_map.1 h
          have := (List.mem_filter.1 hz).2
          simp [hze, hqp] at this
        simp [hqp]
        rw [hqp] at this h2
        refine ⟨by omega, ?_⟩
        simpa using h2
      · have : q.1 ∈ left.map (·.1) ↔ q.1 ∈ (delF left p.1).map (·.1) := by
          constructor
          · intro h
            obtain ⟨z, hz, hze⟩ := List.mem_map.1 h
            exact List.mem_map.2 ⟨z, List.mem_filter.2 ⟨hz, by rw [hze]; simpa using hqp⟩, hze⟩
          · intro h
            obtain ⟨z, hz, hze⟩ := List.mem_map.1 h
            exact List.mem_map.2 ⟨z, (List.mem_filter.1 hz).1, hze⟩
        rw [show decide (q.1 ≠ p.1) = true by simpa using hqp, Bool.true_and]
        congr 1
        exact decide_eq_decide.2 this
    · refine quorum_Box_Drop_leaf1 (delF left p.1).length hll ⟨_, _, hI4, ?_, hc4, M24, rfl⟩
      rw [hL']
      refine List.filter_congr fun q hq => ?_
      by_cases hqp : q.1 = p.1
      · have : below ≤ q.1.1 := by rw [hqp]; omega
        simp [this]
      · have : q.1 ∈ left.map (·.1) ↔ q.1 ∈ (delF left p.1).map (·.1) := by
          constructor
          · intro h
            obtain ⟨z, hz, hze⟩ := List.mem_map.1 h
            exact List.mem_map.2 ⟨z, List.mem_filter.2 ⟨hz, by rw [hze]; simpa using hqp⟩, hze⟩
          · intro h
            obtain ⟨z, hz, hze⟩ := List.mem_map.1 h
            exact List.mem_map.2 ⟨z, (List.mem_filter.1 hz).1, hze⟩
        congr 1
        exact decide_eq_decide.2 this

end Go.Proofs.Ytkdpopkbongabaa
