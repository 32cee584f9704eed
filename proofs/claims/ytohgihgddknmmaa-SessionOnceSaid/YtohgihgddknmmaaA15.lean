/- Commands cut short, as the statements do it. -/
import Derived.Test.YtohgihgddknmmaaA14
import Derived.Test.YtohgihgddknmmaaIN
import Derived.Test.YtohgihgddknmmaaGenA5
namespace Go.Proofs.Ytohgihgddknmmaa
open Go Go.RowKit
set_option linter.unusedVariables false
set_option linter.unusedSimpArgs false

theorem cut3_ok (r : PRec) (w : World) : Calls Try.prog 42 #[r.v] w fun e w' => ∃ v, e = .returned v ∧ ∃ r' : PRec, v = r'.v ∧ Mod [] w w' := by
  refine law03_cut_go ?_
  intro b1 f1 b2 f2
  refine ⟨by omega, by split <;> omega, by split <;> omega, by omega, by split <;> omega, by split <;> omega, ?_⟩
  intro w3 A3
  exact ⟨⟨r.hk, r.key.extract (Int.toNat 0) (if 80 < (r.key.size : Int) then 80 else (r.key.size : Int)).toNat, r.tomb, r.val.extract (Int.toNat 0) (if 600 < (r.val.size : Int) then 600 else (r.val.size : Int)).toNat⟩, rfl, A3.mod⟩
theorem Bound_ok {w : World} {b : PBatch} {rs : Sl} (h : SlAt w 4 encR rs.a rs.n b.recs) (hw : rs.n ≤ maxLen) :
    Calls Try.prog 20 #[b.v rs] w fun e w' => ∃ v, e = .returned v ∧ ∃ (b' : PBatch) (rs' : Sl), v = b'.v rs' ∧ Row w' w.heap.size 90 4 encR rs'.a rs'.n rs'.c b'.recs ∧ b'.recs.length ≤ 20 ∧ Mod [] w w' := by
  refine law03_Bound_go ?_
  intro b1 f1 b2 f2 b3 f3 w1 A1
  have l1 := A1.lt b1 (by simp)
  have l2 := A1.lt b2 (by simp)
  have l3 := A1.lt b3 (by simp)
  have s1 := A1.mod.size
  have hn := h.1
  refine law03_Bound_rule1 (fun mm x a n c w' => ∃ (k : Nat) (l : List PRec), x = k ∧ k ≤ b.recs.length ∧ k ≤ 20 ∧ l.length = k ∧ Row w' w1.heap.size 90 4 encR a n c l ∧ Mod [] w w' ∧ w1.heap.size ≤ w'.heap.size ∧ mm = b.recs.length - k) b.recs.length
    ⟨0, [], rfl, by omega, by omega, rfl, Row.nil .., A1.mod, Nat.le_refl _, rfl⟩ ?_
  rintro mm x a n c w2 ⟨k, l, rfl, hk, hk2, hlk, hRow, N2, s2, rfl⟩
  have fin : ∀ {w'}, Adv [b2] [] w2 w' → ∃ (b' : PBatch) (rs' : Sl), Value.agg #[.int .i64 b.prod, .int .i64 b.epoch, .int .i64 b.seq, .slice a n c] = b'.v rs' ∧ Row w' w.heap.size 90 4 encR rs'.a rs'.n rs'.c b'.recs ∧ b'.recs.length ≤ 20 ∧ Mod [] w w' := fun {w'} A =>
    ⟨⟨b.prod, b.epoch, b.seq, l⟩, ⟨a, n, c⟩, rfl, (hRow.keep A.mod fun ad ha hk => by have := hRow.base ad ha; simp at hk; omega).rebase s1, by show l.length ≤ 20; omega, N2.go0 A.mod (by simpa using f2)⟩
  refine brB_dec (fun hlt => ?_) fun hge => fun w3 A3 => fin A3
  refine brB_dec (fun hlt2 => ?_) fun hge => fun w3 A3 => fin A3
  obtain ⟨r, hr⟩ : ∃ r, b.recs[k]? = some r := ⟨_, List.getElem?_eq_getElem (by omega)⟩
  refine (h.keep0 N2).ixW hr fun q hq => ?_
  intro w3 A3
  have hq := hq w3 A3.mod
  refine ldBool_of (x := r.hk) (by simpa [add_zero] using hq 0 _ rfl) (ldStr_of (hq 1 _ rfl) (ldBool_of (hq 2 _ rfl) (ldStr_of (hq 3 _ rfl) ?_)))
  refine (cut3_ok r w3).mono ?_
  rintro e w4 ⟨_, rfl, r', rfl, M4⟩
  refine ⟨_, _, _, _, rfl, Keep.of0 M4, rfl, ?_⟩
  refine al_of fun b5 w5 c5 M5 f5 => ?_
  have K5 : Mod [] w2 w5 := (A3.mod.go0 M4 (by simp)).go0 M5 (by simp)
  have s5 := K5.size
  obtain ⟨i0, hi, hz0, hz1, hz2⟩ := info_parts infoR
  refine append_of (x := r') (hRow.keep0 K5) Try.underlying30 hi hz0 hz1 hz2 rfl (by decide) c5 rfl (encR_one _) (by omega) (by unfold maxLen; omega) (by omega) fun a' c' w6 hR6 hM6 => ?_
  have M6 := hM6 _ (rowS_ok a)
  have hrow := rowS_block hRow
  refine ⟨Keep.of M6 fun b hb _ hb' => ?_, ?_⟩
  · have := hrow b hb'; simp at hb; omega
  intro w7 A7
  unfold maxLen at hw
  refine law03_Bound_leaf1 (b.recs.length - (k + 1)) (by omega) ⟨k + 1, _, by rw [wrap_id (by omega) (by omega)]; omega, by omega, by omega, by rw [List.length_append, hlk]; rfl, hR6.keep A7.mod fun ad ha hk => ?_, ?_, by have := M6.size; have := A7.mod.size; omega, rfl⟩
  · have := hR6.base ad ha; simp at hk; omega
  · refine ((N2.go0 K5 (by simp)).go0 M6 fun i hi => ?_).go0 A7.mod (by simpa using f3)
    have := hrow i hi; omega
theorem Cut_ok {w : World} {o : POp} {rs ts : Sl} (h : OpRd w o rs ts) :
    Calls Try.prog 7 #[o.v rs ts] w fun e w' => ∃ v, e = .returned v ∧ ∃ (o' : POp) (rs' ts' : Sl), v = o'.v rs' ts' ∧ OpOwn w' w.heap.size o' rs' ts' ∧ Mod [] w w' := by
  refine law04_Cut_go ?_
  intro b1 f1 b2 f2 b3 f3
  refine ⟨by omega, by split <;> omega, by split <;> omega, by omega, by split <;> omega, by split <;> omega, by omega, by split <;> omega, by split <;> omega, ?_⟩
  intro w1 A1
  have l1 := A1.lt b1 (by simp)
  have l2 := A1.lt b2 (by simp)
  have l3 := A1.lt b3 (by simp)
  have s1 := A1.mod.size
  have hn := h.topics.1
  have hw := h.wt
  unfold maxLen at hw
  refine (Bound_ok (b := o.b) (rs := rs) (h.recs.keep0 A1.mod) h.wr).mono ?_
  rintro e w2 ⟨_, rfl, b', rs', rfl, hB, hbl, M2⟩
  have s2 := M2.size
  refine ⟨_, _, _, _, _, _, rfl, Keep.of0 M2, ?_⟩
  intro w3 A3
  have s3 := A3.mod.size
  have hB3 : Row w3 w1.heap.size 90 4 encR rs'.a rs'.n rs'.c b'.recs := hB.keep A3.mod fun ad ha hk => by have := hB.base ad ha; simp at hk; omega
  have N3 := (A1.mod.go0 M2 (by simp)).go0 A3.mod (by simpa using f3)
  refine law04_Cut_rule1 (fun mm x a n c w' => ∃ (k : Nat) (l : List ByteArray), x = k ∧ k ≤ o.topics.length ∧ k ≤ 12 ∧ l.length = k ∧ Row w' w1.heap.size 9 1 encS a n c l ∧ Row w' w1.heap.size 90 4 encR rs'.a rs'.n rs'.c b'.recs ∧ Mod [] w w' ∧ w1.heap.size ≤ w'.heap.size ∧ mm = o.topics.length - k) o.topics.length
    ⟨0, [], rfl, by omega, by omega, rfl, Row.nil .., hB3, N3, by omega, rfl⟩ ?_
  rintro mm x a n c w4 ⟨k, l, rfl, hk, hk2, hlk, hRow, hB4, N4, s4, rfl⟩
  have fin : ∀ {w'} {s1 s2 s3 : ByteArray}, Adv [b2] [] w4 w' → ∃ (o' : POp) (rs'' ts' : Sl), Value.agg #[.int .i64 o.kind, .string s1, .int .i64 o.part.n, .int .i64 o.n, .int .i64 o.off, .int .i64 b'.prod, .int .i64 b'.epoch, .int .i64 b'.seq, .slice rs'.a rs'.n rs'.c, .string s2, .string s3, .int .i64 o.gen, .bool o.robin, .slice a n c] = o'.v rs'' ts' ∧ OpOwn w' w.heap.size o' rs'' ts' ∧ Mod [] w w' := fun {w' t1 t2 t3} A =>
    ⟨⟨o.kind, ⟨t1, o.part.n⟩, o.n, o.off, b', t2, t3, o.gen, o.robin, l⟩, rs', ⟨a, n, c⟩, rfl, ⟨(hB4.keep A.mod fun ad ha hk => by have := hB4.base ad ha; simp at hk; omega).rebase s1, (hRow.keep A.mod fun ad ha hk => by have := hRow.base ad ha; simp at hk; omega).rebase s1, by show b'.recs.length ≤ _; omega, by show l.length ≤ _; omega⟩, N4.go0 A.mod (by simpa using f2)⟩
  refine brB_dec (fun hlt => ?_) fun hge => fun w5 A5 => fin A5
  refine brB_dec (fun hlt2 => ?_) fun hge => fun w5 A5 => fin A5
  obtain ⟨t, ht⟩ : ∃ t, o.topics[k]? = some t := ⟨_, List.getElem?_eq_getElem (by omega)⟩
  refine (h.topics.keep0 N4).ixW ht fun q hq => ?_
  intro w5 A5
  refine ldStr_of (x := t) (by simpa [add_zero] using hq w5 A5.mod 0 _ rfl) ?_
  refine (h.topics.keep0 N4).ixW ht fun q hq => ?_
  refine ldStr_of (x := t) (by simpa [add_zero] using hq w5 A5.mod 0 _ rfl) ?_
  refine ⟨by omega, by split <;> omega, by split <;> omega, ?_⟩
  refine al_of fun b6 w6 c6 M6 f6 => ?_
  have K6 : Mod [] w4 w6 := A5.mod.go0 M6 (by simp)
  have s6 := K6.size
  obtain ⟨i0, hi, hz0, hz1, hz2⟩ := info_parts infoS
  refine append_of (enc := encS) (x := (_ : ByteArray)) (hRow.keep0 K6) Try.underlying33 hi hz0 hz1 hz2 rfl (by decide) c6 rfl (encS_one _) (by omega) (by unfold maxLen; omega) (by omega) fun a' c' w7 hR7 hM7 => ?_
  have M7 := hM7 _ (rowS_ok a)
  have s7 := M7.size
  have hrow := rowS_block hRow
  refine ⟨Keep.of M7 fun b hb _ hb' => ?_, ?_⟩
  · have := hrow b hb'; simp at hb; omega
  intro w8 A8
  have s8 := A8.mod.size
  have hB7 : Row w7 w1.heap.size 90 4 encR rs'.a rs'.n rs'.c b'.recs := (hB4.keep0 K6).keep M7 fun ad ha hk => by
    obtain ⟨_, cur, hc⟩ := hB4.block ad ha
    obtain ⟨_, _, cur2, hc2⟩ := hrow _ hk
    rw [hc2] at hc; cases hc
  refine law04_Cut_leaf1 (o.topics.length - (k + 1)) (by omega) ⟨k + 1, _, by rw [wrap_id (by omega) (by omega)]; omega, by omega, by omega, by rw [List.length_append, hlk]; rfl, hR7.keep A8.mod fun ad ha hk => ?_, hB7.keep A8.mod fun ad ha hk => ?_, ?_, by omega, rfl⟩
  · have := hR7.base ad ha; simp at hk; omega
  · have := hB7.base ad ha; simp at hk; omega
  · refine ((N4.go0 K6 (by simp)).go0 M7 fun i hi => ?_).go0 A8.mod (by simpa using f3)
    have := hrow i hi; omega
end Go.Proofs.Ytohgihgddknmmaa
