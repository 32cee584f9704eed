/- QuorumDoes: walked. -/
import Derived.Test.YtkdpopkbongabaaR5
namespace Go.Proofs.Ytkdpopkbongabaa
open Go Go.RowKit Go.Maps Go.MapKept
set_option linter.unusedVariables false
set_option linter.unusedSimpArgs false


/-- Behind a call: what is asked of both is alike. -/
theorem Does_rest {w0 w : World} {rep view what : Int} {rb b m k : Nat} {L : List (Ky × Vt)} {a1 : Option Addr} {n1 c1 bm0 : Nat} {x y0 y3 y4 y5 y6 : Int} {K1 : Kh} (hB : Both w0 w b m rb rep L) (hn : 1 ≤ rep ∧ rep ≤ 7) (hv : i64B view) (hk : i64B what) (hlen : L.length ≤ 1000) (hb0 : bm0 < w.heap.size)
    (hK : ∀ w', Both w0 w' b m rb rep L → K1 (k_law17_QuorumDoes_v1 rep a1 n1 c1 (some ⟨rb, 0, none⟩) (some ⟨b, 0, none⟩) (IntKind.wrap .i64 ((k : Int) + 1))) k_law17_QuorumDoes_m1 w') :
    k_law17_QuorumDoes_C2 rep a1 n1 c1 (some ⟨b, 0, none⟩) (some ⟨rb, 0, none⟩) k x x bm0 y0 view what y3 y4 y5 y6 K1 (fun v w' => v = .bool true ∧ Mod [] w0 w') w := by
  have hnd := hB.box.map.nodup
  refine (Best_ok hB.box hv hk (by omega)).mono ?_
  rintro e w29 ⟨rfl, M29⟩
  refine ⟨_, _, _, _, _, rfl, Keep.of0 M29, ?_⟩
  intro b35 f35 w36 A36
  have M36 : Mod [] w w36 := M29.go0 A36.mod (by simp)
  have H36 := hB.keep0 M36
  refine (RBest_ok H36.ref hnd (by omega) (by omega)).mono ?_
  rintro e w37 ⟨rfl, M37⟩
  refine ⟨_, _, _, _, _, rfl, Keep.of0 M37, ?_⟩
  intro b43 f43 w44 A44
  have M44 : Mod [] w w44 := (M36.go0 M37 (by simp)).go0 A44.mod (by simp)
  have H44 := hB.keep0 M44
  refine (Votes_ok H44.box hv hk (by omega)).mono ?_
  rintro e w45 ⟨a46, c48, rfl, hA, M45⟩
  refine ⟨_, _, _, rfl, Keep.of0 M45, ?_⟩
  refine brB_of (fun h => by simp at h) fun _ => ?_
  intro w50 A50
  have M50 : Mod [] w44 w50 := M45.go0 A50.mod (by simp)
  refine ⟨false, fun w' _ => by have := neV (bestOf (votesTo L view what rep.toNat)).1 (bestOf (votesTo L view what rep.toNat)).1 (.tmp 142) (.tmp 143) w'; rw [decide_eq_false (fun h => h rfl)] at this; exact this, ?_⟩
  refine brF rfl (brF (by simp) ?_)
  have H50 := H44.keep0 M50
  refine (RVotes_ok H50.ref hnd (by omega) (by omega)).mono ?_
  rintro e w52 ⟨a53, c55, rfl, hA2, M52⟩
  refine ⟨_, _, _, rfl, Keep.of0 M52, ?_⟩
  have hl := votesTo_len L view what rep.toNat
  have hA50 : Row w52 w44.heap.size 29 4 encV a46 _ c48 _ := (hA.keep0 (A50.mod.new (by simp))).keep0 M52
  refine (RSame_ok (hA50.sl encV_len) (hA2.sl encV_len) (by omega)).mono ?_
  rintro e w56 ⟨rfl, M56⟩
  refine ⟨_, rfl, Keep.of0 M56, brF (by simp) ?_⟩
  have M56' : Mod [] w44 w56 := (M50.go0 M52 (by simp)).go0 M56 (by simp)
  have H56 := H44.keep0 M56'
  refine (Full_ok H56.box hv hk (by omega)).mono ?_
  rintro e w58 ⟨rfl, M58⟩
  refine ⟨_, rfl, Keep.of0 M58, rfl, rfl, ?_⟩
  refine (RFull_ok (H56.keep0 M58).ref hnd hn (by omega)).mono ?_
  rintro e w60 ⟨rfl, M60⟩
  refine ⟨_, rfl, Keep.of0 M60, brF (by simp) ?_⟩
  have H60 := (H56.keep0 M58).keep0 M60
  refine (Commit_ok H60.box hv hk (by omega)).mono ?_
  rintro e w62 ⟨rfl, M62⟩
  refine ⟨_, rfl, Keep.of0 M62, rfl, rfl, ?_⟩
  refine (RCommit_ok (H60.keep0 M62).ref hnd (by omega) (by omega)).mono ?_
  rintro e w64 ⟨rfl, M64⟩
  refine ⟨_, rfl, Keep.of0 M64, brF (by simp) ?_⟩
  refine (Primary_ok _ _ _).mono ?_
  rintro e w66 ⟨rfl, rfl⟩
  refine ⟨_, rfl, Keep.of0 (Mod.refl _), rfl, ?_⟩
  refine (RPrimary_ok _ _ _).mono ?_
  rintro e w68 ⟨rfl, rfl⟩
  refine ⟨_, rfl, Keep.of0 (Mod.refl _), brF (by simp) ?_⟩
  -- what was told is spoilt
  have M68 : Mod [] w56 w68 := ((M58.go0 M60 (by simp)).go0 M62 (by simp)).go0 M64 (by simp)
  have hA68 := (hA50.keep0 M56).keep0 M68
  have H68 := H56.keep0 M68
  have z44 : b35 < w44.heap.size ∧ b43 < w44.heap.size ∧ bm0 < w44.heap.size := by
    have s1 := A36.lt b35 (by simp)
    have s2 := M37.size
    have s3 := A44.mod.size
    have s4 := A44.lt b43 (by simp)
    have s5 := M44.size
    omega
  generalize votesTo L view what rep.toNat = l at *
  obtain ⟨hn1, hl2, ho⟩ := hA68
  rcases ho with ⟨ho, _⟩ | ⟨g, cap, cur, hv', hg, hh, r1, r2, r3, r4⟩
  · simp only [Value.slice.injEq] at ho
    have h0 : l.length = 0 := by omega
    refine k_law17_QuorumDoes_rule3 (fun m x w' => x = 0 ∧ w' = w68) 0 ⟨rfl, rfl⟩ ?_
    rintro m x w' ⟨rfl, rfl⟩
    refine brB_dec (fun h => by omega) fun _ => ?_
    exact hK _ H68
  · simp only [Value.slice.injEq] at hv'
    obtain ⟨rfl, _, _⟩ := hv'
    refine k_law17_QuorumDoes_rule3 (fun mm x w' => ∃ j : Nat, x = j ∧ j ≤ l.length ∧ Both w0 w' b m rb rep L ∧ (∃ cu, w'.heap[g]? = some (.cells cu 29) ∧ l.length * 4 ≤ cu.size) ∧ mm = l.length - j) l.length ⟨0, rfl, Nat.zero_le _, H68, ⟨cur, hh, by rw [r3]; omega⟩, rfl⟩ ?_
    rintro mm x w1 ⟨j, rfl, hj, H1, ⟨cu, hc, hsz⟩, rfl⟩
    refine brB_dec (fun hlt => ?_) fun hge => ?_
    · have hlt : j < l.length := by omega
      refine ⟨⟨g, 0, none⟩, rfl, by omega, by omega, ?_⟩
      have ea : (((⟨g, 0, none⟩ : Addr).add (Int.toNat (j : Int) * 4)).add 2) = ⟨g, j * 4 + 2, none⟩ := by
        rw [addr_add, addr_add]; simp
      simp only [ea]
      refine st_of hc rfl (by simp; omega) fun w2 h2 M2 => ⟨?_, ?_⟩
      · refine Keep.of M2 fun y hy _ => ?_
        simp at hy ⊢
        omega
      · refine k_law17_QuorumDoes_leaf3 (l.length - (j + 1)) (by omega) ⟨j + 1, by rw [wrap_id (by omega) (by omega)]; omega, by omega, ?_, ⟨_, h2, by rw [size_setFrom]; exact hsz⟩, rfl⟩
        refine H44.keepS H1 M2 (by simp; exact hg) fun k hk cur' => ?_
        simp at hk; subst hk
        rw [hc]; simp
    · exact hK _ H1

theorem Does_ok {rep : Int} {a1 : Option Addr} {n1 c1 : Nat} {la : List Op17} {w : World} (sa : SlAt w 7 encO a1 n1 la) (ga : ∀ x ∈ la, i64B x.view ∧ i64B x.what ∧ i64B x.v.f) :
    Calls Try.prog 7 #[.int .i64 rep, .slice a1 n1 c1] w fun e w' => e = .returned (.bool true) ∧ Mod [] w w' := by
  refine go_of (k_law17_QuorumDoes_go ?_)
  refine (New_ok rep w).mono ?_
  rintro e w1 (⟨hm, rfl, rfl⟩ | ⟨hm, b, m, rfl, B1, M1, fb, fm⟩)
  · refine ⟨none, 1, rfl, ?_⟩
    refine (RNew_ok rep w1).mono ?_
    rintro e w2 (⟨_, rfl, rfl⟩ | ⟨hm', _⟩)
    · refine ⟨none, 1, rfl, brF rfl (brF rfl ?_)⟩
      refine (Need_ok _ _).mono ?_
      rintro e w3 ⟨rfl, rfl⟩
      refine ⟨_, rfl, ?_⟩
      refine (RNeed_ok _ _).mono ?_
      rintro e w4 ⟨rfl, rfl⟩
      refine ⟨_, rfl, brF (by simp) (brT rfl ?_)⟩
      refine (fixed_ok _).mono ?_
      rintro e w5 ⟨rfl, M5⟩
      exact ⟨_, rfl, rfl, M5⟩
    · rw [hm] at hm'; cases hm'
  · refine ⟨_, _, rfl, ?_⟩
    refine (RNew_ok rep w1).mono ?_
    rintro e w3 (⟨hm', _⟩ | ⟨_, rb, rfl, hR, M2, fr⟩)
    · rw [hm] at hm'; cases hm'
    refine ⟨_, _, rfl, brF rfl (brF rfl ?_)⟩
    refine (Need_ok _ _).mono ?_
    rintro e w4 ⟨rfl, rfl⟩
    refine ⟨_, rfl, ?_⟩
    refine (RNeed_ok _ _).mono ?_
    rintro e w2 ⟨rfl, rfl⟩
    refine ⟨_, rfl, brF (by simp) (brF rfl (brF rfl ?_))⟩
    have hn : 1 ≤ rep ∧ rep ≤ 7 := by simpa [mayB] using hm
    have M02 : Mod [] w w2 := M1.go0 M2 (by simp)
    have H0 : Both w w2 b m rb rep [] := ⟨B1.keep0 M2, hR _, M02, fb, fm, Nat.le_trans M1.size fr⟩
    refine k_law17_QuorumDoes_rule1 (fun mm p x w' => ∃ (k : Nat) (L : List (Ky × Vt)) (b m : Nat), x = k ∧ k ≤ la.length ∧ k ≤ 80 ∧ p = some ⟨b, 0, none⟩ ∧ Both w w' b m rb rep L ∧ L.length ≤ k ∧ mm = la.length - k) la.length ⟨0, [], b, m, rfl, Nat.zero_le _, by omega, rfl, H0, by simp, rfl⟩ ?_
    rintro mm p x w5 ⟨k, L, b, m, rfl, hk, hk8, rfl, hB, hL, rfl⟩
    have fin : ∀ {w6 : World}, Mod [] w w6 → Calls Try.prog 13 #[] w6 fun e w' => ∃ t : Bool, e = .returned (.bool t) ∧ ((.bool t : Value) = .bool true ∧ Mod [] w w') := fun {w6} M6 => by
      refine (fixed_ok _).mono ?_
      rintro e w7 ⟨rfl, M7⟩
      exact ⟨_, rfl, rfl, M6.go0 M7 (by simp)⟩
    have hn1 := sa.1
    refine brB_dec (fun hlt => ?_) fun _ => fin hB.mod
    refine brB_dec (fun hlt8 => ?_) fun _ => fin hB.mod
    obtain ⟨o, ho⟩ : ∃ o, la[k]? = some o := ⟨la[k]'(by omega), by simp⟩
    obtain ⟨g1, g2, g3⟩ := ga o (List.mem_of_getElem? ho)
    refine (sa.keep0 hB.mod).ix ho fun q hq => ldInt_of (by simpa [add_zero] using hq 0 _ rfl) (ldInt_of (hq 1 _ rfl) (ldInt_of (hq 2 _ rfl) (ldInt_of (hq 3 _ rfl) (ldInt_of (hq 4 _ rfl) (ldInt_of (hq 5 _ rfl) (ldInt_of (hq 6 _ rfl) ?_))))))
    intro b23 f23
    -- behind the call
    have rest : ∀ {w' : World} {L' : List (Ky × Vt)} {b' m' : Nat} {x : Int}, Both w w' b' m' rb rep L' → L'.length ≤ k + 1 → b23 < w'.heap.size → _ := fun {w' L' b' m' x} hB' hL' hb' =>
      k_law17_QuorumDoes_cut2 (x_00 := rep) (a_10 := a1) (n_10 := n1) (c_10 := c1) (p_50 := some ⟨b', 0, none⟩) (p_70 := some ⟨rb, 0, none⟩) (x_90 := k) (x_110 := x) (x_120 := x) (bm00 := b23) (x_m0_00 := o.kind) (x_m0_10 := o.view) (x_m0_20 := o.what) (x_m0_30 := o.v.f) (x_m0_40 := o.v.n) (x_m0_50 := o.v.l) (x_m0_60 := o.v.c)
        (K1 := k_law17_QuorumDoes_K1 rep a1 n1 c1 (some ⟨rb, 0, none⟩) (fun mm p x w' => ∃ (k : Nat) (L : List (Ky × Vt)) (b m : Nat), x = k ∧ k ≤ la.length ∧ k ≤ 80 ∧ p = some ⟨b, 0, none⟩ ∧ Both w w' b m rb rep L ∧ L.length ≤ k ∧ mm = la.length - k) (la.length - k))
        (R := fun v w' => v = .bool true ∧ Mod [] w w') (w0 := w')
        (fun x0 a_1 n_1 c_1 p5 p7 x9 x11 x12 bm y0 y1 y2 y3 y4 y5 y6 w'' => x0 = rep ∧ a_1 = a1 ∧ n_1 = n1 ∧ c_1 = c1 ∧ p5 = some ⟨b', 0, none⟩ ∧ p7 = some ⟨rb, 0, none⟩ ∧ x9 = (k : Int) ∧ x11 = x12 ∧ y1 = o.view ∧ y2 = o.what ∧ bm < w''.heap.size ∧ Both w w'' b' m' rb rep L')
        ⟨rfl, rfl, rfl, rfl, rfl, rfl, rfl, rfl, rfl, rfl, hb', hB'⟩ (by
          rintro x0 a_1 n_1 c_1 p5 p7 x9 x11 x12 bm y0 y1 y2 y3 y4 y5 y6 w'' ⟨rfl, rfl, rfl, rfl, rfl, rfl, rfl, rfl, rfl, rfl, hbm, hB''⟩
          refine Does_rest hB'' hn g1 g2 (by omega) hbm fun w3 H3 => ?_
          exact k_law17_QuorumDoes_leaf1 (la.length - (k + 1)) (by omega) ⟨k + 1, L', b', m', by rw [wrap_id (by omega) (by omega)]; omega, by omega, by omega, rfl, H3, hL', rfl⟩)
    refine brB_of (fun e0 => ?_) fun e0 => ?_
    · intro w24 A24
      have H24 := hB.keep0 (A24.mod.new (by simp))
      refine (Vote_ok H24.box g1 g2 g3).mono ?_
      rintro e w25 ⟨rfl, B25, M25⟩
      refine ⟨_, rfl, Keep.of M25 fun y hy hlt => ?_, ?_⟩
      · simp at hy ⊢; subst hy
        have := hB.box.map.lt; omega
      have ne := H24.ne
      have R25 : RefAt w25 rb rep w.heap.size L := H24.ref.keep M25 (by simpa using ne.2)
      have M025 : Mod [] w w25 := H24.mod.go0 M25 (by simp; exact hB.fm)
      refine (RVote_ok R25 (by omega) M025.size).mono ?_
      rintro e w27 ⟨rfl, R27, S, MS, hS⟩
      have e25 : w25.heap[rb]? = w5.heap[rb]? := by
        obtain ⟨⟨a, len, c, k1, k2⟩, _⟩ := hB.ref
        have e1 := (A24.mod.new (by simp)).keep0 k1
        rw [M25.keep e1 (fun h => ne.2 (by simp at h; rw [← h]; exact .inl rfl)), k1]
      have ne25 := ref_ne B25 R25
      have rf : ∀ k, RefB w25 rb w.heap.size k → w.heap.size ≤ k ∧ k ≠ b ∧ k ≠ m ∧ k ≠ b23 := fun k hk => by
        refine ⟨?_, fun e => ne25.1 (by rw [← e]; exact hk), fun e => ne25.2 (by rw [← e]; exact hk), ?_⟩
        · rcases id hk with rfl | ⟨h, _⟩
          · exact hB.fr
          · exact h
        · have := hB.ref.same e25 hk; omega
      refine ⟨_, rfl, Keep.of MS fun y hy hlt hyS => ?_, ?_⟩
      · simp at hy; subst hy; exact (rf _ (hS _ hyS)).2.2.2 rfl
      · refine rest ⟨B25.keep MS (fun h => (rf _ (hS _ h)).2.1 rfl) (fun h => (rf _ (hS _ h)).2.2.1 rfl), R27, M025.go0 MS fun i hi => (rf _ (hS _ hi)).1, hB.fb, hB.fm, hB.fr⟩ ?_ ?_
        · have := voteL_len rep L o.view o.what o.v; omega
        · have := A24.lt b23 (by simp); have := M25.size; have := MS.size; omega
    refine brB_of (fun e1 => ?_) fun e1 => ?_
    · intro w24 A24
      have H24 := hB.keep0 (A24.mod.new (by simp))
      refine (Drop_ok H24.box (by omega)).mono ?_
      rintro e w25 ⟨rfl, B25, M25⟩
      refine ⟨_, rfl, Keep.of M25 fun y hy hlt => ?_, ?_⟩
      · simp at hy ⊢; subst hy
        have := hB.box.map.lt; omega
      have ne := H24.ne
      have R25 : RefAt w25 rb rep w.heap.size L := H24.ref.keep M25 (by simpa using ne.2)
      have M025 : Mod [] w w25 := H24.mod.go0 M25 (by simp; exact hB.fm)
      refine (RDrop_ok R25 (by omega) M025.size).mono ?_
      rintro e w27 ⟨rfl, R27, MS⟩
      have ne25 := ref_ne B25 R25
      have hrb : rb < w5.heap.size := hB.ref.lt (.inl rfl)
      refine ⟨_, rfl, Keep.of MS fun y hy hlt hyS => by simp at hy hyS; omega, ?_⟩
      refine rest ⟨B25.keep MS (fun h => ne25.1 (by simp at h; exact .inl h)) (fun h => ne25.2 (by simp at h; exact .inl h)), R27, M025.go0 MS (by simp; exact hB.fr), hB.fb, hB.fm, hB.fr⟩ ?_ ?_
      · have := dropL_len o.view L; omega
      · have := A24.lt b23 (by simp); have := M25.size; have := MS.size; omega
    refine brB_of (fun e2 => ?_) fun e2 => ?_
    · intro w24 A24
      have H24 := hB.keep0 (A24.mod.new (by simp))
      refine (Copy_ok H24.box).mono ?_
      rintro e w25 ⟨b', m', rfl, Bc, M25, fb', fm'⟩
      refine ⟨_, rfl, Keep.of0 M25, ?_⟩
      have H25 := H24.keep0 M25
      have lb := hB.box.map.lt
      have lm := H24.box.map.lt
      have lbb := lt_of_block H24.box.cells
      refine (Vote_ok (x := ⟨0, 0, 77, 0⟩) H25.box g1 g2 (by simp [i64B])).mono ?_
      rintro e w26 ⟨rfl, B26, M26⟩
      refine ⟨_, rfl, Keep.of M26 fun y hy hlt hyS => by simp at hy hyS; omega, ?_⟩
      have hv := voteL_len rep L o.view o.what ⟨0, 0, 77, 0⟩
      refine (Drop_ok B26 (by omega)).mono ?_
      rintro e w27 ⟨rfl, B27, M27⟩
      refine ⟨_, rfl, Keep.of M27 fun y hy hlt hyS => by simp at hy hyS; omega, brF rfl ?_⟩
      have M67 : Mod [m] w25 w27 := (M26.trans M27).less (by simp)
      have sz : w.heap.size ≤ w24.heap.size := H24.mod.size
      refine rest ⟨Bc.keep M67 (by simp; omega) (by simp; omega), H25.ref.keep M67 (by simpa using H25.ne.2), H25.mod.go0 M67 (by simp; exact hB.fm), by omega, by omega, hB.fr⟩ (by omega) ?_
      have := A24.lt b23 (by simp); have := M25.size; have := M67.size; omega
    · intro w24 A24
      exact rest (hB.keep0 (A24.mod.new (by simp))) (by omega) (A24.lt b23 (by simp))
end Go.Proofs.Ytkdpopkbongabaa
