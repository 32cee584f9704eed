/- Are commands, calls, messages the same? The document's answers. -/
import Derived.Test.YtohgihgddknmmaaA7
import Derived.Test.YtohgihgddknmmaaC2
namespace Go.Proofs.Ytohgihgddknmmaa
open Go Go.RowKit
set_option linter.unusedVariables false
set_option linter.unusedSimpArgs false

theorem TextsR_ok {w : World} {a1 a2 : Option Addr} {n1 c1 n2 c2 : Nat} {l1 l2 : List ByteArray} (h1 : SlAt w 1 encS a1 n1 l1) (h2 : SlAt w 1 encS a2 n2 l2) (hl : l1.length ≤ 1000000) :
    Calls Try.prog 33 #[.slice a1 n1 c1, .slice a2 n2 c2] w fun e w' => e = .returned (.bool (decide (l1 = l2))) ∧ Mod [] w w' := by
  refine go_of (ref04_Texts_go ?_)
  have e1 := h1.1
  have e2 := h2.1
  refine brB_of (fun h => ⟨congrArg Value.bool (decide_eq_false fun e => ?_).symm, Mod.refl _⟩) fun h => ?_
  · subst e
    rw [e1, e2] at h
    simp at h
  have hlen : l1.length = l2.length := by
    simp at h
    omega
  refine ref04_Texts_rule1 (fun mm x w' => ∃ k : Nat, x = k ∧ k ≤ l1.length ∧ l1.take k = l2.take k ∧ Mod [] w w' ∧ mm = l1.length - k) l1.length ⟨0, rfl, by omega, by simp, Mod.refl _, rfl⟩ ?_
  rintro mm x w1 ⟨k, rfl, hk, ht, M, rfl⟩
  refine brB_dec (fun hlt => ?_) fun hge => ?_
  · have g1 : k < l1.length := by omega
    have g2 : k < l2.length := by omega
    obtain ⟨x, hx⟩ : ∃ x, l1[k]? = some x := ⟨_, List.getElem?_eq_getElem g1⟩
    obtain ⟨y, hy⟩ : ∃ y, l2[k]? = some y := ⟨_, List.getElem?_eq_getElem g2⟩
    refine (h1.keep0 M).ix hx fun q hq => ldStr_of (by simpa [add_zero] using hq 0 _ rfl) ?_
    refine (h2.keep0 M).ix hy fun q hq => ldStr_of (by simpa [add_zero] using hq 0 _ rfl) ?_
    rw [strEq x y]
    refine brB_of (fun hne => ?_) fun heq => ?_
    rotate_left
    rotate_right
    · intro w2 A2
      refine ⟨congrArg Value.bool (decide_eq_false fun e => (show ¬ x = y by simpa using hne) ?_).symm, M.go0 A2.mod (by simp)⟩
      subst e
      rw [hx] at hy
      exact Option.some.inj hy
    · intro w2 A2
      have he : x = y := by simpa using heq
      subst he
      exact ref04_Texts_leaf1 (l1.length - (k + 1)) (by omega) ⟨k + 1, by rw [wrap_id (by omega) (by omega)]; omega, by omega, take_step ht hx hy, M.go0 A2.mod (by simp), rfl⟩
  · have hk : k = l1.length := by omega
    subst hk
    rw [List.take_length, hlen, List.take_length] at ht
    exact ⟨congrArg Value.bool (decide_eq_true ht).symm, M⟩
theorem RecordsR_ok {w : World} {a1 a2 : Option Addr} {n1 c1 n2 c2 : Nat} {l1 l2 : List PRec} (h1 : SlAt w 4 encR a1 n1 l1) (h2 : SlAt w 4 encR a2 n2 l2) (hl : l1.length ≤ 1000000) :
    Calls Try.prog 47 #[.slice a1 n1 c1, .slice a2 n2 c2] w fun e w' => e = .returned (.bool (decide (l1 = l2))) ∧ Mod [] w w' := by
  refine go_of (ref03_Records_go ?_)
  have e1 := h1.1
  have e2 := h2.1
  refine brB_of (fun h => ⟨congrArg Value.bool (decide_eq_false fun e => ?_).symm, Mod.refl _⟩) fun h => ?_
  · subst e
    rw [e1, e2] at h
    simp at h
  have hlen : l1.length = l2.length := by
    simp at h
    omega
  refine ref03_Records_rule1 (fun mm x w' => ∃ k : Nat, x = k ∧ k ≤ l1.length ∧ l1.take k = l2.take k ∧ Mod [] w w' ∧ mm = l1.length - k) l1.length ⟨0, rfl, by omega, by simp, Mod.refl _, rfl⟩ ?_
  rintro mm x w1 ⟨k, rfl, hk, ht, M, rfl⟩
  refine brB_dec (fun hlt => ?_) fun hge => ?_
  · have g1 : k < l1.length := by omega
    have g2 : k < l2.length := by omega
    obtain ⟨x, hx⟩ : ∃ x, l1[k]? = some x := ⟨_, List.getElem?_eq_getElem g1⟩
    obtain ⟨y, hy⟩ : ∃ y, l2[k]? = some y := ⟨_, List.getElem?_eq_getElem g2⟩
    refine (h1.keep0 M).ix hx fun q hq => ldBool_of (by simpa [add_zero] using hq 0 _ rfl) (ldStr_of (hq 1 _ rfl) (ldBool_of (hq 2 _ rfl) (ldStr_of (hq 3 _ rfl) ?_)))
    refine (h2.keep0 M).ix hy fun q hq => ldBool_of (by simpa [add_zero] using hq 0 _ rfl) (ldStr_of (hq 1 _ rfl) (ldBool_of (hq 2 _ rfl) (ldStr_of (hq 3 _ rfl) ?_)))
    refine ⟨_, fun w' _ => neR x y _ _ w', ?_⟩
    refine brB_dec (fun hne => ?_) fun heq => ?_
    · intro w2 A2
      refine ⟨congrArg Value.bool (decide_eq_false fun e => hne ?_).symm, M.go0 A2.mod (by simp)⟩
      subst e
      rw [hx] at hy
      exact Option.some.inj hy
    · intro w2 A2
      have he : x = y := Decidable.not_not.1 heq
      subst he
      exact ref03_Records_leaf1 (l1.length - (k + 1)) (by omega) ⟨k + 1, by rw [wrap_id (by omega) (by omega)]; omega, by omega, take_step ht hx hy, M.go0 A2.mod (by simp), rfl⟩
  · have hk : k = l1.length := by omega
    subst hk
    rw [List.take_length, hlen, List.take_length] at ht
    exact ⟨congrArg Value.bool (decide_eq_true ht).symm, M⟩
theorem BatchR_ok {w : World} {x y : PBatch} {s t : Sl} (h1 : SlAt w 4 encR s.a s.n x.recs) (h2 : SlAt w 4 encR t.a t.n y.recs) (hl : x.recs.length ≤ 1000000) :
    Calls Try.prog 32 #[x.v s, y.v t] w fun e w' => e = .returned (.bool (decide (x = y))) ∧ Mod [] w w' := by
  obtain ⟨a1, a2, a3, a4⟩ := x
  obtain ⟨b1, b2, b3, b4⟩ := y
  refine go_of (ref03_Same_go ?_)
  intro c1 f1 c2 f2
  simp only [PBatch.mk.injEq]
  refine brB_of (fun g1 => ?_) fun g1 => ?_
  · have g1 : a1 = b1 := by simpa using g1
    refine brB_of (fun g2 => ?_) fun g2 => ?_
    · have g2 : a2 = b2 := by simpa using g2
      refine brB_of (fun g3 => ?_) fun g3 => ?_
      · have g3 : a3 = b3 := by simpa using g3
        intro w1 A1
        refine (RecordsR_ok (h1.keep0 A1.mod) (h2.keep0 A1.mod) hl).mono ?_
        rintro e w2 ⟨rfl, M2⟩
        exact ⟨_, rfl, Keep.of0 M2, by simp [g1, g2, g3], A1.mod.go0 M2 (by simp)⟩
      · intro w1 A1
        exact ⟨congrArg Value.bool (decide_eq_false (by simp at g3; rintro ⟨_, _, h, _⟩; exact g3 h)).symm, A1.mod⟩
    · intro w1 A1
      exact ⟨congrArg Value.bool (decide_eq_false (by simp at g2; rintro ⟨_, h, _⟩; exact g2 h)).symm, A1.mod⟩
  · intro w1 A1
    exact ⟨congrArg Value.bool (decide_eq_false (by simp at g1; rintro ⟨h, _⟩; exact g1 h)).symm, A1.mod⟩

theorem ldOp_of {w : World} {a : Addr} {o : POp} {rs ts : Sl} {F : Int → ByteArray → Int → Int → Int → Int → Int → Int → Option Addr → Nat → Nat → ByteArray → ByteArray → Int → Bool → Option Addr → Nat → Nat → Prop} (h : ∀ j v, (o.cs rs ts)[j]? = some v → w.cell? (a.add j) = some v) (hF : F o.kind o.part.t o.part.n o.n o.off o.b.prod o.b.epoch o.b.seq rs.a rs.n rs.c o.g o.m o.gen o.robin ts.a ts.n ts.c) :
    ldInt .i64 w a fun x0 => ldStr w (a.add 1) fun x1 => ldInt .i64 w (a.add 2) fun x2 => ldInt .i64 w (a.add 3) fun x3 => ldInt .i64 w (a.add 4) fun x4 => ldInt .i64 w (a.add 5) fun x5 => ldInt .i64 w (a.add 6) fun x6 => ldInt .i64 w (a.add 7) fun x7 => ldSlice w (a.add 8) fun a8 n8 c8 => ldStr w (a.add 9) fun x9 => ldStr w (a.add 10) fun x10 => ldInt .i64 w (a.add 11) fun x11 => ldBool w (a.add 12) fun x12 => ldSlice w (a.add 13) fun a13 n13 c13 => F x0 x1 x2 x3 x4 x5 x6 x7 a8 n8 c8 x9 x10 x11 x12 a13 n13 c13 :=
  ldInt_of (x := o.kind) (by simpa [add_zero] using h 0 _ rfl) (ldStr_of (h 1 _ rfl) (ldInt_of (h 2 _ rfl) (ldInt_of (h 3 _ rfl) (ldInt_of (h 4 _ rfl) (ldInt_of (h 5 _ rfl) (ldInt_of (h 6 _ rfl) (ldInt_of (h 7 _ rfl) (ldSlice_of (h 8 _ rfl) (ldStr_of (h 9 _ rfl) (ldStr_of (h 10 _ rfl) (ldInt_of (h 11 _ rfl) (ldBool_of (h 12 _ rfl) (ldSlice_of (h 13 _ rfl) hF)))))))))))))

theorem ldMail_of {w : World} {a : Addr} {m : PMail} {s f p : Sl} {F : Int → Int → Int → Int → Int → Int → Int → Int → Int → Int → Option Addr → Nat → Nat → Int → Int → Int → Int → Option Addr → Nat → Nat → Option Addr → Nat → Nat → Prop} (h : ∀ j v, (m.cs s f p)[j]? = some v → w.cell? (a.add j) = some v) (hF : F m.kind m.fr m.to m.view m.normal m.last m.commit m.nonce m.base m.n s.a s.n s.c m.r.e m.r.off m.r.n m.r.gen f.a f.n f.c p.a p.n p.c) :
    ldInt .i64 w a fun x0 => ldInt .i64 w (a.add 1) fun x1 => ldInt .i64 w (a.add 2) fun x2 => ldInt .i64 w (a.add 3) fun x3 => ldInt .i64 w (a.add 4) fun x4 => ldInt .i64 w (a.add 5) fun x5 => ldInt .i64 w (a.add 6) fun x6 => ldInt .i64 w (a.add 7) fun x7 => ldInt .i64 w (a.add 8) fun x8 => ldInt .i64 w (a.add 9) fun x9 => ldSlice w (a.add 10) fun a10 n10 c10 => ldInt .i64 w (a.add 11) fun x11 => ldInt .i64 w (a.add 12) fun x12 => ldInt .i64 w (a.add 13) fun x13 => ldInt .i64 w (a.add 14) fun x14 => ldSlice w (a.add 15) fun a15 n15 c15 => ldSlice w (a.add 16) fun a16 n16 c16 => F x0 x1 x2 x3 x4 x5 x6 x7 x8 x9 a10 n10 c10 x11 x12 x13 x14 a15 n15 c15 a16 n16 c16 :=
  ldInt_of (x := m.kind) (by simpa [add_zero] using h 0 _ rfl) (ldInt_of (h 1 _ rfl) (ldInt_of (h 2 _ rfl) (ldInt_of (h 3 _ rfl) (ldInt_of (h 4 _ rfl) (ldInt_of (h 5 _ rfl) (ldInt_of (h 6 _ rfl) (ldInt_of (h 7 _ rfl) (ldInt_of (h 8 _ rfl) (ldInt_of (h 9 _ rfl) (ldSlice_of (h 10 _ rfl) (ldInt_of (h 11 _ rfl) (ldInt_of (h 12 _ rfl) (ldInt_of (h 13 _ rfl) (ldInt_of (h 14 _ rfl) (ldSlice_of (h 15 _ rfl) (ldSlice_of (h 16 _ rfl) hF))))))))))))))))

theorem OpR_ok {w : World} {x y : POp} {rs ts rs' ts' : Sl} (h1 : OpAt w x rs ts) (h2 : OpAt w y rs' ts') :
    Calls Try.prog 10 #[x.v rs ts, y.v rs' ts'] w fun e w' => e = .returned (.bool (decide (x = y))) ∧ Mod [] w w' := by
  obtain ⟨k1, p1, n1, o1, b1, g1, m1, e1, r1, t1⟩ := x
  obtain ⟨k2, p2, n2, o2, b2, g2, m2, e2, r2, t2⟩ := y
  refine go_of (ref04_Same_go ?_)
  intro c1 f1 c2 f2
  simp only [POp.mk.injEq]
  have no : ∀ {P : Prop} [Decidable P] {w' : World}, ¬ P → Mod [] w w' → (Value.bool false = Value.bool (decide P) ∧ Mod [] w w') := fun hn M => ⟨congrArg Value.bool (decide_eq_false hn).symm, M⟩
  refine brB_of (fun q1 => ?_) fun q1 => ?_
  rotate_left
  · intro w1 A1
    exact no (by simp at q1; rintro ⟨h, _⟩; exact q1 h) A1.mod
  have q1 : k1 = k2 := by simpa using q1
  intro w1 A1
  have M1 := A1.mod
  refine ⟨_, fun w' _ => eqPp p1 p2 _ _ w', brB_of (fun q2 => ?_) fun q2 => no (by simp at q2; rintro ⟨_, h, _⟩; exact q2 h) M1⟩
  have q2 : p1 = p2 := by simpa using q2
  refine brB_of (fun q3 => ?_) fun q3 => no (by simp at q3; rintro ⟨_, _, h, _⟩; exact q3 h) M1
  have q3 : n1 = n2 := by simpa using q3
  refine brB_of (fun q4 => ?_) fun q4 => no (by simp at q4; rintro ⟨_, _, _, h, _⟩; exact q4 h) M1
  have q4 : o1 = o2 := by simpa using q4
  refine (BatchR_ok (x := b1) (y := b2) (s := rs) (t := rs') (h1.recs.keep0 M1) (h2.recs.keep0 M1) h1.lr).mono ?_
  rintro e w2 ⟨rfl, M2⟩
  have N2 := M1.go0 M2 (by simp)
  refine ⟨_, rfl, Keep.of0 M2, brB_of (fun q9 => ?_) fun q9 => no (by simp at q9; rintro ⟨_, _, _, _, h, _⟩; exact q9 h) N2⟩
  have q9 : b1 = b2 := by simpa using q9
  rw [strEq, strEq]
  refine brB_of (fun q5 => ?_) fun q5 => no (by simp at q5; rintro ⟨_, _, _, _, _, h, _⟩; exact q5 h) N2
  have q5 : g1 = g2 := by simpa using q5
  refine brB_of (fun q6 => ?_) fun q6 => no (by simp at q6; rintro ⟨_, _, _, _, _, _, h, _⟩; exact q6 h) N2
  have q6 : m1 = m2 := by simpa using q6
  refine brB_of (fun q7 => ?_) fun q7 => no (by simp at q7; rintro ⟨_, _, _, _, _, _, _, h, _⟩; exact q7 h) N2
  have q7 : e1 = e2 := by simpa using q7
  refine brB_of (fun q8 => ?_) fun q8 => no (by simp at q8; rintro ⟨_, _, _, _, _, _, _, _, h, _⟩; exact q8 h) N2
  have q8 : r1 = r2 := by simpa using q8
  refine (TextsR_ok (h1.topics.keep0 N2) (h2.topics.keep0 N2) h1.lt).mono ?_
  rintro e w3 ⟨rfl, M3⟩
  exact ⟨_, rfl, Keep.of0 M3, by simp [q1, q2, q3, q4, q5, q6, q7, q8, q9], N2.go0 M3 (by simp)⟩

theorem op_cells {w : World} {q : CV} {a : Addr} (h : ∀ j v, q.cs[j]? = some v → w.cell? (a.add j) = some v) : ∀ j v, (q.x.op.cs q.rs q.ts)[j]? = some v → w.cell? ((a.add 2).add j) = some v := fun j v hv => by
  rw [add_add, Nat.add_comm 2 j]
  exact h (j + 2) v hv
theorem CallsR_ok {w : World} {s t : Sl} {xs ys : List PCall} (h : CallsAt w s xs) (h' : CallsAt w t ys) (hl : xs.length ≤ 1000000) :
    Calls Try.prog 39 #[.slice s.a s.n s.c, .slice t.a t.n t.c] w fun e w' => e = .returned (.bool (decide (xs = ys))) ∧ Mod [] w w' := by
  obtain ⟨la, hA, gA, rfl⟩ := h
  obtain ⟨lb, hB, gB, rfl⟩ := h'
  have hl : la.length ≤ 1000000 := by simpa using hl
  have e1 := hA.1
  have e2 := hB.1
  refine go_of (ref16_Same_go ?_)
  refine brB_of (fun g => ⟨congrArg Value.bool (decide_eq_false fun e => ?_).symm, Mod.refl _⟩) fun g => ?_
  · have := congrArg List.length e
    simp at this g
    omega
  have g : la.length = lb.length := by simp at g; omega
  refine ref16_Same_rule1 (fun mm x w' => ∃ k : Nat, x = k ∧ k ≤ la.length ∧ (la.take k).map (·.x) = (lb.take k).map (·.x) ∧ Mod [] w w' ∧ mm = la.length - k) la.length ⟨0, rfl, by omega, by simp, Mod.refl _, rfl⟩ ?_
  rintro mm x w1 ⟨k, rfl, hk, ht, M1, rfl⟩
  refine brB_dec (fun hlt => ?_) fun hge => ?_
  · have g1 : k < la.length := by omega
    have g2 : k < lb.length := by omega
    obtain ⟨x, hx⟩ : ∃ x, la[k]? = some x := ⟨_, List.getElem?_eq_getElem g1⟩
    obtain ⟨y, hy⟩ : ∃ y, lb[k]? = some y := ⟨_, List.getElem?_eq_getElem g2⟩
    have bad : ∀ {w'}, x.x ≠ y.x → Mod [] w w' → (Value.bool false = Value.bool (decide (la.map (·.x) = lb.map (·.x))) ∧ Mod [] w w') := fun {w'} hne M => by
      refine ⟨congrArg Value.bool (decide_eq_false fun e => hne ?_).symm, M⟩
      have := congrArg (fun l : List PCall => l[k]?) e
      simpa [hx, hy] using this
    refine (hA.keep0 M1).ixW hx fun q hq => ?_
    intro w2 A2
    have hq := hq w2 A2.mod
    have N2 := M1.go0 A2.mod (by simp)
    refine ldInt_of (x := x.x.c) (by simpa [add_zero] using hq 0 _ rfl) ?_
    refine (hB.keep0 N2).ix hy fun q' hq' => ldInt_of (x := y.x.c) (by simpa [add_zero] using hq' 0 _ rfl) ?_
    refine brB_of (fun h1 => bad (fun e => by simp [e] at h1) N2) fun h1 => ?_
    have h1 : x.x.c = y.x.c := by simpa using h1
    refine (hA.keep0 N2).ix hx fun q hq => ldInt_of (x := x.x.n) (hq 1 _ rfl) ?_
    refine (hB.keep0 N2).ix hy fun q' hq' => ldInt_of (x := y.x.n) (hq' 1 _ rfl) ?_
    refine brB_of (fun h2 => bad (fun e => by simp [e] at h2) N2) fun h2 => ?_
    have h2 : x.x.n = y.x.n := by simpa using h2
    refine (hA.keep0 N2).ix hx fun q hq => ldOp_of (op_cells hq) ?_
    refine (hB.keep0 N2).ix hy fun q' hq' => ldOp_of (op_cells hq') ?_
    refine (OpR_ok ((gA x (List.mem_of_getElem? hx)).keep0 N2) ((gB y (List.mem_of_getElem? hy)).keep0 N2)).mono ?_
    rintro e w3 ⟨rfl, M3⟩
    have N3 := N2.go0 M3 (by simp)
    refine ⟨_, rfl, brB_of (fun h3 => bad (fun e => by simp [e] at h3) N3) fun h3 => ?_⟩
    have h3 : x.x.op = y.x.op := by simpa using h3
    have he : x.x = y.x := by
      obtain ⟨⟨a, b, c⟩, _, _⟩ := x
      obtain ⟨⟨a', b', c'⟩, _, _⟩ := y
      simp at h1 h2 h3 ⊢; exact ⟨h1, h2, h3⟩
    exact ref16_Same_leaf1 (la.length - (k + 1)) (by omega) ⟨k + 1, by rw [wrap_id (by omega) (by omega)]; omega, by omega, by rw [List.take_add_one, List.take_add_one, hx, hy, List.map_append, List.map_append, ht]; simp [he], N3, rfl⟩
  · have hk : k = la.length := by omega
    subst hk
    rw [List.take_length, g, List.take_length] at ht
    exact ⟨congrArg Value.bool (decide_eq_true ht).symm, M1⟩

/-! ### messages -/
theorem nums_ok {w : World} (m : PMail) (s f p : Sl) : Calls Try.prog 38 #[m.v s f p] w fun e w' => ∃ v, e = .returned v ∧ ∃ b, v = .slice (some ⟨b, 0, none⟩) 10 10 ∧ SlAt w' 1 (fun x : Int => [.int .i64 x]) (some ⟨b, 0, none⟩) 10 (numsL m) ∧ Mod [] w w' := by
  refine ref18_nums_go ?_
  intro b1 f1 w2 A2
  refine al_of fun b w1 c1 M1 f1 => ?_
  refine ⟨b, rfl, ⟨rfl, fun i x hx => ⟨_, rfl, fun j v hv => ?_⟩⟩, A2.mod.go0 M1 (by simp)⟩
  have hj : j = 0 := by have := (List.getElem?_eq_some_iff.1 hv).1; simp at this; omega
  subst hj
  simp at hv; subst hv
  rw [addr_add, addr_add, cell_at c1]
  have hi := (List.getElem?_eq_some_iff.1 hx).1
  simp [numsL] at hi
  match i, hi, hx with
  | 0, _, hx | 1, _, hx | 2, _, hx | 3, _, hx | 4, _, hx | 5, _, hx | 6, _, hx | 7, _, hx | 8, _, hx | 9, _, hx => simp [numsL] at hx; subst hx; rfl
theorem MailR_ok {w : World} {m m' : PMail} {s f p s' f' p' : Sl} (h : MailAt w m s f p) (h' : MailAt w m' s' f' p') (hl : m.calls.length ≤ 1000000) :
    Calls Try.prog 17 #[m.v s f p, m'.v s' f' p'] w fun e w' => e = .returned (.bool (decide (m = m'))) ∧ Mod [] w w' := by
  refine go_of (ref18_Same_go ?_)
  intro b1 f1 b2 f2 w3 A3
  refine (nums_ok m s f p).mono ?_
  rintro e w4 ⟨_, rfl, c4, rfl, h4, M4⟩
  refine ⟨_, _, _, rfl, Keep.of0 M4, rfl, ?_⟩
  refine (nums_ok m' s' f' p').mono ?_
  rintro e w5 ⟨_, rfl, c5, rfl, h5, M5⟩
  refine ⟨_, _, _, rfl, Keep.of0 M5, ?_⟩
  have N5 := (A3.mod.go0 M4 (by simp)).go0 M5 (by simp)
  have h4 := h4.keep0 M5
  have hm : m = m' ↔ numsL m = numsL m' ∧ m.calls = m'.calls ∧ m.r = m'.r := by
    obtain ⟨a1, a2, a3, a4, a5, a6, a7, a8, a9, a10, a11, a12⟩ := m
    obtain ⟨b1, b2, b3, b4, b5, b6, b7, b8, b9, b10, b11, b12⟩ := m'
    simp [numsL, and_assoc]
  have no : ∀ {w'}, m ≠ m' → Mod [] w w' → (Value.bool false = Value.bool (decide (m = m')) ∧ Mod [] w w') := fun hn M => ⟨congrArg Value.bool (decide_eq_false hn).symm, M⟩
  refine ref18_Same_rule1 (fun mm x w' => ∃ k : Nat, x = k ∧ k ≤ 10 ∧ (numsL m).take k = (numsL m').take k ∧ Mod [] w5 w' ∧ mm = 10 - k) 10 ⟨0, rfl, by omega, by simp, Mod.refl _, rfl⟩ ?_
  rintro mm x w6 ⟨k, rfl, hk, ht, M6, rfl⟩
  have N6 := N5.go0 M6 (by simp)
  refine brB_dec (fun hlt => ?_) fun hge => ?_
  · have hk : k < 10 := by omega
    obtain ⟨x, hx⟩ : ∃ x, (numsL m)[k]? = some x := ⟨_, List.getElem?_eq_getElem (by simpa [numsL] using hk)⟩
    obtain ⟨y, hy⟩ : ∃ y, (numsL m')[k]? = some y := ⟨_, List.getElem?_eq_getElem (by simpa [numsL] using hk)⟩
    refine (h4.keep0 M6).ix hx fun q hq => ldInt_of (x := x) (by simpa [add_zero] using hq 0 _ rfl) ?_
    refine (h5.keep0 M6).ix hy fun q hq => ldInt_of (x := y) (by simpa [add_zero] using hq 0 _ rfl) ?_
    refine brB_of (fun g => fun w7 A7 => no (fun e => ?_) (N6.go0 A7.mod (by simp))) fun g => fun w7 A7 => ?_
    · subst e
      rw [hx] at hy
      have := Option.some.inj hy
      simp [this] at g
    · have g : x = y := by simpa using g
      subst g
      exact ref18_Same_leaf1 (10 - (k + 1)) (by omega) ⟨k + 1, by rw [wrap_id (by omega) (by omega)]; omega, by omega, take_step ht hx hy, M6.go0 A7.mod (by simp), rfl⟩
  · have hk : k = 10 := by omega
    subst hk
    rw [List.take_of_length_le (by simp [numsL]), List.take_of_length_le (by simp [numsL])] at ht
    refine (CallsR_ok (s := s) (t := s') (h.calls.keep0 N6) (h'.calls.keep0 N6) hl).mono ?_
    rintro e w7 ⟨rfl, M7⟩
    have N7 := N6.go0 M7 (by simp)
    refine ⟨_, rfl, Keep.of0 M7, brB_of (fun g => ?_) fun g => no (fun e => by simp [e] at g) N7⟩
    have g : m.calls = m'.calls := by simpa using g
    refine (RAlike_ok (h.rep.keep0 N7) (h'.rep.keep0 N7)).mono ?_
    rintro e w8 ⟨rfl, M8⟩
    refine ⟨_, rfl, Keep.of0 M8, ?_, N7.go0 M8 (by simp)⟩
    congr 1
    apply Bool.eq_iff_iff.2
    simp [hm, ht, g]
theorem AllR_ok {w : World} {s t : Sl} {xs ys : List PMail} {B B' : Nat} (h : MailsOwn w B s xs) (h' : MailsOwn w B' t ys) (hl : xs.length ≤ 1000000) (hc : ∀ m ∈ xs, m.calls.length ≤ 1000000) :
    Calls Try.prog 18 #[.slice s.a s.n s.c, .slice t.a t.n t.c] w fun e w' => e = .returned (.bool (decide (xs = ys))) ∧ Mod [] w w' := by
  obtain ⟨la, hA, gA, rfl⟩ := h
  obtain ⟨lb, hB, gB, rfl⟩ := h'
  have hA := hA.sl MV.cs_len
  have hB := hB.sl MV.cs_len
  have hl : la.length ≤ 1000000 := by simpa using hl
  have e1 := hA.1
  have e2 := hB.1
  refine go_of (ref18_All_go ?_)
  refine brB_of (fun g => ⟨congrArg Value.bool (decide_eq_false fun e => ?_).symm, Mod.refl _⟩) fun g => ?_
  · have := congrArg List.length e
    simp at this g
    omega
  have g : la.length = lb.length := by simp at g; omega
  refine ref18_All_rule1 (fun mm x w' => ∃ k : Nat, x = k ∧ k ≤ la.length ∧ (la.take k).map (·.m) = (lb.take k).map (·.m) ∧ Mod [] w w' ∧ mm = la.length - k) la.length ⟨0, rfl, by omega, by simp, Mod.refl _, rfl⟩ ?_
  rintro mm x w1 ⟨k, rfl, hk, ht, M1, rfl⟩
  refine brB_dec (fun hlt => ?_) fun hge => ?_
  · have g1 : k < la.length := by omega
    have g2 : k < lb.length := by omega
    obtain ⟨x, hx⟩ : ∃ x, la[k]? = some x := ⟨_, List.getElem?_eq_getElem g1⟩
    obtain ⟨y, hy⟩ : ∃ y, lb[k]? = some y := ⟨_, List.getElem?_eq_getElem g2⟩
    have bad : ∀ {w'}, x.m ≠ y.m → Mod [] w w' → (Value.bool false = Value.bool (decide (la.map (·.m) = lb.map (·.m))) ∧ Mod [] w w') := fun {w'} hne M => by
      refine ⟨congrArg Value.bool (decide_eq_false fun e => hne ?_).symm, M⟩
      have := congrArg (fun l : List PMail => l[k]?) e
      simpa [hx, hy] using this
    refine (hA.keep0 M1).ixW hx fun q hq => ?_
    intro w2 A2
    have hq := hq w2 A2.mod
    have N2 := M1.go0 A2.mod (by simp)
    refine ldMail_of (m := x.m) (s := x.s) (f := x.f) (p := x.p) hq ?_
    refine (hB.keep0 N2).ix hy fun q' hq' => ldMail_of (m := y.m) (s := y.s) (f := y.f) (p := y.p) hq' ?_
    refine (MailR_ok (((gA x (List.mem_of_getElem? hx)).at).keep0 N2) (((gB y (List.mem_of_getElem? hy)).at).keep0 N2) (hc _ (List.mem_map.2 ⟨x, List.mem_of_getElem? hx, rfl⟩))).mono ?_
    rintro e w3 ⟨rfl, M3⟩
    have N3 := N2.go0 M3 (by simp)
    refine ⟨_, rfl, brB_of (fun h3 => bad (fun e => by simp [e] at h3) N3) fun h3 => ?_⟩
    have he : x.m = y.m := by simpa using h3
    exact ref18_All_leaf1 (la.length - (k + 1)) (by omega) ⟨k + 1, by rw [wrap_id (by omega) (by omega)]; omega, by omega, by rw [List.take_add_one, List.take_add_one, hx, hy, List.map_append, List.map_append, ht]; simp [he], N3, rfl⟩
  · have hk : k = la.length := by omega
    subst hk
    rw [List.take_length, g, List.take_length] at ht
    exact ⟨congrArg Value.bool (decide_eq_true ht).symm, M1⟩
end Go.Proofs.Ytohgihgddknmmaa
