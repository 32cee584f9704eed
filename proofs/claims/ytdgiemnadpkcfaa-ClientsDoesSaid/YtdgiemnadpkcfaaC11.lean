/- The statements' fixed calls; are rows the same? -/
import Derived.Test.YtdgiemnadpkcfaaC10
import Derived.Test.YtdgiemnadpkcfaaWd3
import Derived.Test.YtdgiemnadpkcfaaCP
import Derived.Test.YtdgiemnadpkcfaaGenC4
import Derived.Test.YtdgiemnadpkcfaaGenC5
namespace Go.Proofs.Ytdgiemnadpkcfaa
open Go Go.RowKit Go.Maps Go.MapKept
set_option linter.unusedVariables false
set_option linter.unusedSimpArgs false

theorem RepAt.keep {S : List Nat} {w w' : World} {r : PRep} {f p : Sl} (h : RepAt w r f p) (M : Mod S w w') (hf : ∀ ad, f.a = some ad → ad.block ∉ S) (hp : ∀ ad, p.a = some ad → ad.block ∉ S) : RepAt w' r f p :=
  ⟨h.found.keep M hf, h.parts.keep M hp, h.lf, h.lp⟩
theorem Same_ok {w : World} {s t : Sl} {xs ys : List PLast} (h : RowsAt w s xs) (h' : RowsAt w t ys) (hl : xs.length ≤ 1000000) :
    Calls Try.prog 12 #[s.v, t.v] w fun e w' => e = .returned (.bool (decide (xs = ys))) ∧ Mod [] w w' := by
  obtain ⟨la, hA, gA, rfl⟩ := h
  obtain ⟨lb, hB, gB, rfl⟩ := h'
  have hl : la.length ≤ 1000000 := by simpa using hl
  have e1 := hA.1
  have e2 := hB.1
  refine go_of (ref15_Same_go ?_)
  refine brB_of (fun g => ⟨congrArg Value.bool (decide_eq_false fun e => ?_).symm, Mod.refl _⟩) fun g => ?_
  · have := congrArg List.length e
    simp at this g
    omega
  have g : la.length = lb.length := by simp at g; omega
  refine ref15_Same_rule1 (fun mm x w' => ∃ k : Nat, x = k ∧ k ≤ la.length ∧ (la.take k).map (·.x) = (lb.take k).map (·.x) ∧ Mod [] w w' ∧ mm = la.length - k) la.length ⟨0, rfl, by omega, by simp, Mod.refl _, rfl⟩ ?_
  rintro mm x w1 ⟨k, rfl, hk, ht, M1, rfl⟩
  refine brB_dec (fun hlt => ?_) fun hge => ?_
  · have g1 : k < la.length := by omega
    have g2 : k < lb.length := by omega
    obtain ⟨x, hx⟩ : ∃ x, la[k]? = some x := ⟨_, List.getElem?_eq_getElem g1⟩
    obtain ⟨y, hy⟩ : ∃ y, lb[k]? = some y := ⟨_, List.getElem?_eq_getElem g2⟩
    have bad : ∀ {w'}, x.x ≠ y.x → Mod [] w w' → (Value.bool false = Value.bool (decide (la.map (·.x) = lb.map (·.x))) ∧ Mod [] w w') := fun {w'} hne M => by
      refine ⟨congrArg Value.bool (decide_eq_false fun e => hne ?_).symm, M⟩
      have := congrArg (fun l : List PLast => l[k]?) e
      simpa [hx, hy] using this
    refine (hA.keep0 M1).ixW hx fun q hq => ?_
    intro w2 A2
    have hq := hq w2 A2.mod
    have N2 := M1.go0 A2.mod (by simp)
    have rx := (gA x (List.mem_of_getElem? hx)).keep0 N2
    have ry := (gB y (List.mem_of_getElem? hy)).keep0 N2
    refine ldInt_of (x := x.x.c) (by simpa [add_zero] using hq 0 _ rfl) ?_
    refine (hB.keep0 N2).ix hy fun q' hq' => ldInt_of (x := y.x.c) (by simpa [add_zero] using hq' 0 _ rfl) ?_
    refine brB_of (fun g3 => bad (fun e => by rw [e] at g3; simp at g3) N2) fun g3 => ?_
    refine (hA.keep0 N2).ix hx fun q hq => ldInt_of (x := x.x.n) (hq 1 _ rfl) ?_
    refine (hB.keep0 N2).ix hy fun q' hq' => ldInt_of (x := y.x.n) (hq' 1 _ rfl) ?_
    refine brB_of (fun g4 => bad (fun e => by rw [e] at g4; simp at g4) N2) fun g4 => ?_
    refine (hA.keep0 N2).ix hx fun q hq => ldBool_of (x := x.x.done) (hq 2 _ rfl) ?_
    refine (hB.keep0 N2).ix hy fun q' hq' => ldBool_of (x := y.x.done) (hq' 2 _ rfl) ?_
    refine brB_of (fun g5 => bad (fun e => by rw [e] at g5; simp at g5) N2) fun g5 => ?_
    refine (hA.keep0 N2).ix hx fun q hq => ldInt_of (hq 3 _ rfl) (ldInt_of (by rw [add_add]; exact hq 4 _ rfl) (ldInt_of (by rw [add_add]; exact hq 5 _ rfl) (ldInt_of (by rw [add_add]; exact hq 6 _ rfl) (ldSlice_of (by rw [add_add]; exact hq 7 _ rfl) (ldSlice_of (by rw [add_add]; exact hq 8 _ rfl) ?_)))))
    refine (hB.keep0 N2).ix hy fun q hq => ldInt_of (hq 3 _ rfl) (ldInt_of (by rw [add_add]; exact hq 4 _ rfl) (ldInt_of (by rw [add_add]; exact hq 5 _ rfl) (ldInt_of (by rw [add_add]; exact hq 6 _ rfl) (ldSlice_of (by rw [add_add]; exact hq 7 _ rfl) (ldSlice_of (by rw [add_add]; exact hq 8 _ rfl) ?_)))))
    refine (RAlike_ok rx ry).mono ?_
    rintro e w3 ⟨rfl, M3⟩
    have N3 := N2.go0 M3 (by simp)
    refine ⟨_, rfl, ?_⟩
    refine brB_of (fun g6 => bad (fun e => by rw [e] at g6; simp at g6) N3) fun g6 => ?_
    have e : x.x = y.x := by
      obtain ⟨⟨c1, n1, d1, r1⟩, f1, p1⟩ := x
      obtain ⟨⟨c2, n2, d2, r2⟩, f2, p2⟩ := y
      simp at g3 g4 g5 g6
      simp [g3, g4, g5, g6]
    refine ref15_Same_leaf1 (la.length - (k + 1)) (by omega) ⟨k + 1, by rw [wrap_id (by omega) (by omega)]; omega, by omega, ?_, N3, rfl⟩
    rw [List.take_add_one, List.take_add_one, hx, hy, List.map_append, List.map_append, ht]
    simp [e]
  · have hk' : k = la.length := by omega
    subst hk'
    rw [List.take_length, g, List.take_length] at ht
    exact ⟨by rw [decide_eq_true ht], M1⟩

def r7 : PRep := ⟨0, 7, 0, 0, [], [⟨⟨#[116]⟩, 0⟩]⟩
structure Fx (w : World) (b m b3 : Nat) (T : Tb) (w' : World) : Prop where
  tab : TabAt w' w.heap.size b m T
  rep : RepAt w' r7 sl0 ⟨some ⟨b3, 0, none⟩, 1, 1⟩
  mod : Mod [] w w'
  lt : m < w'.heap.size
  ne : m ≠ b3
  le : w.heap.size ≤ m
theorem Fx.m0 {w w1 w2 : World} {b m b3 : Nat} {T : Tb} (h : Fx w b m b3 T w1) (M : Mod [] w1 w2) : Fx w b m b3 T w2 :=
  ⟨h.tab.keep0 M, h.rep.keep0 M, h.mod.go0 M (by simp), Nat.lt_of_lt_of_le h.lt M.size, h.ne, h.le⟩
theorem Fx.mm {w w1 w2 : World} {b m b3 : Nat} {T T' : Tb} (h : Fx w b m b3 T w1) (hT : TabAt w2 w.heap.size b m T') (M : Mod [m] w1 w2) : Fx w b m b3 T' w2 :=
  ⟨hT, h.rep.keep M (by simp [sl0]) (by simp; exact Ne.symm h.ne), h.mod.go0 M (by simpa using h.le), Nat.lt_of_lt_of_le h.lt M.size, h.ne, h.le⟩
theorem Keep.ofm {bs : List Nat} {m : Nat} {w w' : World} (M : Mod [m] w w') (h : m ∉ bs) : Keep bs w w' := Keep.of M fun b hb _ hm => by simp at hm; subst hm; exact h hb
theorem fixed15_ok (w : World) : Calls Try.prog 14 #[] w fun e w' => e = .returned (.bool true) ∧ Mod [] w w' := by
  refine go_of (law15_fixed_go ?_)
  refine (New_ok w).mono ?_
  rintro e w1 ⟨_, rfl, b, m, rfl, hT, M1, hb, hm⟩
  refine ⟨_, rfl, brF rfl ?_⟩
  refine al_of fun b3 w4 c3 M4 f3 => ?_
  have hml := hT.map.lt
  have s4 := M4.size
  have F4 : Fx w b m b3 [] w4 := by
    refine ⟨⟨[], hT.keep0 M4, rfl⟩, ⟨(Row.nil _ 0 62 5 encF).sl encF_len, ⟨rfl, fun i x hx => ?_⟩, by simp [r7], by simp [r7]⟩, M1.go0 M4 (by simp), by omega, by omega, hm⟩
    cases i with
    | zero =>
      simp [r7] at hx
      subst hx
      refine ⟨_, rfl, fun j v hj => ?_⟩
      have := cell_at (i := j) c3
      simp only [Addr.add, Nat.zero_mul, Nat.zero_add]
      cases j with
      | zero => simp [encP] at hj ⊢; rw [this]; simp [← hj]
      | succ j => 
        cases j with
        | zero => simp [encP] at hj ⊢; rw [this]; simp [← hj]
        | succ j => simp [encP] at hj
    | succ i => simp [r7] at hx
  intro b5 f5 w6 A6
  have F6 := F4.m0 A6.mod
  have s6 := A6.mod.size
  have l6 := A6.lt b5 (by simp)
  refine (Begin_ok (c := 1) (n := 5) F6.tab F6.mod.size).mono ?_
  rintro e w7 ⟨rfl, hT7, M7⟩
  have F7 := F6.mm hT7 M7
  have s7 := M7.size
  refine ⟨_, rfl, Keep.ofm M7 (by simp; omega), ?_⟩
  refine (Ask_ok (c := 1) (n := 5) F7.tab).mono ?_
  rintro e w9 ⟨_, rfl, f9, p9, rfl, R9, M9⟩
  have F9 := F7.m0 M9
  have s9 := M9.size
  refine ⟨_, _, _, _, _, _, _, _, _, _, _, _, rfl, Keep.of0 M9, ?_⟩
  intro b22 f22 w23 A23
  have F23 := F9.m0 A23.mod
  have s23 := A23.mod.size
  have l23 := A23.lt b22 (by simp)
  refine (Done_ok (c := 1) (n := 5) (r := r7) F23.tab F23.mod.size (by unfold i64B; omega) F23.rep).mono ?_
  rintro e w24 ⟨rfl, hT24, M24⟩
  have F24 := F23.mm hT24 M24
  have s24 := M24.size
  refine ⟨_, rfl, Keep.ofm M24 (by simp; omega), ?_⟩
  refine (Ask_ok (c := 1) (n := 5) F24.tab).mono ?_
  rintro e w26 ⟨_, rfl, f26, p26, rfl, R26, M26⟩
  have F26 := F24.m0 M26
  have s26 := M26.size
  refine ⟨_, _, _, _, _, _, _, _, _, _, _, _, rfl, Keep.of0 M26, ?_⟩
  intro b39 f39 w40 A40
  have F40 := F26.m0 A40.mod
  have s40 := A40.mod.size
  refine (Ask_ok (c := 1) (n := 4) F40.tab).mono ?_
  rintro e w41 ⟨_, rfl, f41, p41, rfl, R41, M41⟩
  have F41 := F40.m0 M41
  have s41 := M41.size
  refine ⟨_, _, _, _, _, _, _, _, _, _, _, _, rfl, Keep.of0 M41, ?_⟩
  intro b54 f54 w55 A55
  have F55 := F41.m0 A55.mod
  have s55 := A55.mod.size
  refine (Ask_ok (c := 1) (n := 9) F55.tab).mono ?_
  rintro e w56 ⟨_, rfl, f56, p56, rfl, R56, M56⟩
  have F56 := F55.m0 M56
  have s56 := M56.size
  refine ⟨_, _, _, _, _, _, _, _, _, _, _, _, rfl, Keep.of0 M56, ?_⟩
  intro b69 f69 w70 A70
  have F70 := F56.m0 A70.mod
  have s70 := A70.mod.size
  refine (Done_ok (c := 1) (n := 4) (r := r7) F70.tab F70.mod.size (by unfold i64B; omega) F70.rep).mono ?_
  rintro e w71 ⟨rfl, hT71, M71⟩
  have F71 := F70.mm hT71 M71
  have s71 := M71.size
  refine ⟨_, rfl, Keep.ofm M71 (by simp; omega), rfl, ?_⟩
  refine (Done_ok (c := 2) (n := 4) (r := r7) F71.tab F71.mod.size (by unfold i64B; omega) F71.rep).mono ?_
  rintro e w73 ⟨rfl, hT73, M73⟩
  have F73 := F71.mm hT73 M73
  have s73 := M73.size
  refine ⟨_, rfl, Keep.ofm M73 (by simp; omega), ?_⟩
  refine (Begin_ok (c := 0) (n := 1) F73.tab F73.mod.size).mono ?_
  rintro e w75 ⟨rfl, hT75, M75⟩
  have F75 := F73.mm hT75 M75
  have s75 := M75.size
  refine ⟨_, rfl, Keep.ofm M75 (by simp; omega), ?_⟩
  refine (List_ok F75.tab (by decide)).mono ?_
  rintro e w77 ⟨_, rfl, sl, rfl, hL, M77⟩
  have F77 := F75.m0 M77
  refine ⟨_, _, _, rfl, Keep.of0 M77, ?_⟩
  refine (Load_ok (s := sl) hL.at).mono ?_
  rintro e w81 ⟨v81, rfl, h81⟩
  have e75 : beginT (doneT (doneT (doneT (beginT [] 1 5) 1 5 r7) 1 4 r7) 2 4 r7) 0 1 = loadT [⟨1, 5, true, r7⟩] := by decide
  rw [e75, listS_loadT (by simp [Rise])] at h81
  have q81 : ∃ b' : Nat, v81 = Value.tuple #[.pointer (some ⟨b', 0, none⟩), .int .i64 0] ∧ Mod [] w77 w81 := by
    rcases h81 with ⟨h, _⟩ | ⟨_, b', m', e, _, hM, _⟩
    · exact absurd (by decide) h
    · exact ⟨b', e, hM⟩
  obtain ⟨b', rfl, M81⟩ := q81
  have F81 := F77.m0 M81
  refine ⟨_, _, rfl, Keep.of0 M81, ?_⟩
  refine al_of fun b84 w85 c84 M85 f84 => ?_
  have F85 := F81.m0 M85
  have hrow : RowsAt w85 ⟨some ⟨b84, 0, none⟩, 1, 1⟩ [⟨1, 1, false, r7⟩] := by
    refine ⟨[⟨⟨1, 1, false, r7⟩, sl0, ⟨some ⟨b3, 0, none⟩, 1, 1⟩⟩], ⟨rfl, fun i x hx => ?_⟩, by simpa using F85.rep, rfl⟩
    cases i with
    | zero =>
      simp at hx
      subst hx
      refine ⟨_, rfl, fun j v hj => ?_⟩
      have h2 := cell_at (i := j) c84
      have e : (Addr.add ⟨b84, 0, none⟩ (0 * 9)).add j = ⟨b84, j, none⟩ := by simp [Addr.add]; omega
      rw [e, h2, ← hj]
      simp [LV.cs, sl0, r7]
    | succ i => simp at hx
  refine (Load_ok (s := ⟨some ⟨b84, 0, none⟩, 1, 1⟩) hrow).mono ?_
  rintro e w86 ⟨v86, rfl, h86⟩
  have q86 : v86 = Value.tuple #[.pointer none, .int .i64 1] ∧ Mod [] w85 w86 := by
    rcases h86 with ⟨_, e, hM⟩ | ⟨h, _⟩
    · exact ⟨e, hM⟩
    · exact absurd h (by decide)
  obtain ⟨rfl, M86⟩ := q86
  have F86 := F85.m0 M86
  refine ⟨_, _, rfl, Keep.of0 M86, ?_⟩
  refine brT (by decide) (brT (by decide) (brT (by decide) (brT (by decide) (brT (by decide) ?_))))
  have Mt : Mod [m] w26 w86 := (((((((((((A40.mod.trans M41).trans A55.mod).trans M56).trans A70.mod).trans M71).trans M73).trans M75).trans M77).trans M81).trans M85).trans M86).less (by simp)
  have R86 : RepAt w86 r7 f26 p26 := by
    have lm := F24.lt
    refine RepAt.keep (r := r7) R26.at Mt (fun ad ha => ?_) fun ad ha => ?_
    · have := R26.found.base ad ha; have := F23.lt; simp; omega
    · have := R26.parts.base ad ha; have := F23.lt; simp; omega
  refine (RAlike_ok R86 F86.rep).mono ?_
  rintro e w89 ⟨rfl, M89⟩
  refine ⟨_, rfl, Keep.of0 M89, ?_⟩
  exact brT (by decide) (brT (by decide) (brT (by decide) (brT (by decide) (brT (by decide) (brT (by decide) (brT (by decide) (brT (by decide) (brT rfl (brT (by decide) (pkB_of (fun _ => ⟨rfl, (F86.m0 M89).mod⟩) (fun h => absurd h (by decide))))))))))))
end Go.Proofs.Ytdgiemnadpkcfaa
