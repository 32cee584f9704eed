/- WiresRoom, for every input. No conditions. -/
import Derived.Test.YtjellhflalbbmaaGreatPWRoomK4
namespace Go.Proofs.YtjellhflalbbmaaGreat
open Go Go.RowKit
set_option linter.all false
theorem yDD {w0 w : World} (N : Mod [] w0 w) : Calls pP 9 #[] w fun e w' => ∃ t : Bool, e = .returned (.bool t) ∧ (Value.bool t = .bool true ∧ Mod [] w0 w') := by
 refine (yrL w).mono ?_
 rintro _ w1 ⟨rfl, M1⟩
 exact ⟨_, rfl, rfl, N.go0 M1 (by simp)⟩
def zeros (k : Nat) : PL := (List.range k).map fun i => (((i + 1 : Nat) : Int), ycP)
theorem yiB (k : Nat) : (zeros k).length = k := by simp [zeros]
theorem yrM (k : Nat) : zeros (k + 1) = zeros k ++ [(((k + 1 : Nat) : Int), ycP)] := by simp [zeros, List.range_succ]
theorem yvT {k : Nat} {j : Int} (h : 1 ≤ j ∧ j ≤ k) : (lkp (zeros k) j).isSome = true := by
 cases hl : lkp (zeros k) j with
 | some m => rfl
 | none =>
  have := ygX.1 hl (j, ycP) (by
   unfold zeros
   exact List.mem_map.2 ⟨(j - 1).toNat, List.mem_range.2 (by omega), by simp; omega⟩)
  exact absurd rfl this
theorem yAz {κ β : Type} [DecidableEq κ] {L : List (κ × β)} {k : κ} (h : (lkp L k).isSome = true) : (del L k).length + 1 = L.length := by
 induction L with
 | nil => simp [lkp] at h
 | cons q r ih =>
  rw [lkp] at h
  unfold del
  split
  ·simp
  ·rename_i hq
   rw [if_neg hq] at h
   have := ih h
   simp; omega
set_option maxHeartbeats 2000000 in
theorem yvU {room k : Int} (w : World) :
  Calls pP 6 #[.int .i64 room, .int .i64 k] w fun e w' => e = .returned (.bool true) ∧ Mod [] w w' := by
 obtain ⟨e0, z0⟩ := yk4 (m := ycP) (by decide) (by decide) rfl rfl
 have r15 := yjU (x := room) (m := 15) (by decide) (by decide)
 obtain ⟨n, hn, hn1, hn2⟩ : ∃ n : Nat, IntKind.wrap .i64 (1 + yfW .i64 room 15) = (n : Int) ∧ 1 ≤ n ∧ n ≤ 16 := ⟨(1 + yfW .i64 room 15).toNat, by rw [yaE (by omega) (by omega)]; omega, by omega, by omega⟩
 refine yaQ (yAy ?_)
 rw [hn]
 refine (yoG n w).mono ?_
 rintro _ w1 ⟨_, rfl, M1, hv⟩
 rw [if_pos (by omega)] at hv
 obtain ⟨b, bl, ba, rfl, fb, fl, fa, h1⟩ := hv
 refine ⟨_, _, rfl, brF rfl (brF rfl ?_)⟩
 have sS : ∀ i ∈ [b, bl], w.heap.size ≤ i := fun i hi => by simp at hi; omega
 have sL : ∀ i ∈ [bl], w.heap.size ≤ i := fun i hi => by simp at hi; omega
 refine yrK (fun mm x w' => ∃ j : Nat, x = j ∧ j ≤ n ∧ WiAt w' b n j bl ba (zeros j) [] ∧ Mod [] w w' ∧ mm = n - j) n ⟨0, rfl, by omega, h1, M1, rfl⟩ ?_
 rintro mm x w2 ⟨j, rfl, hj, h2, N2, rfl⟩
 refine yaC (fun hlt => ?_) fun hge => ?_
 ·refine (ydD h2 (yeY w2 ycP rfl rfl) (by simp [ycP]) (fun _ => z0) (by omega)).mono ?_
  have q : yc5 n (zeros j) ycP = 0 := by rw [yc5, if_neg (by simpa using e0), yiB, if_neg (by omega)]
  rw [q]
  rintro _ w4 ⟨rfl, M4, h4⟩
  simp only [if_true] at h4
  have e1 : IntKind.wrap .i64 ((j : Int) + 1) = ((j + 1 : Nat) : Int) := by rw [yaE (by omega) (by omega)]; omega
  refine ⟨_, _, rfl, brF (by rw [e1]; simp) (brF rfl ?_)⟩
  exact yrJ (n - (j + 1)) (by omega) ⟨j + 1, e1, by omega, by rw [yrM]; exact h4, N2.go0 M4 sS, rfl⟩
 ·have hj : j = n := by omega
  subst hj
  refine (ydD h2 (yeY w2 ycP rfl rfl) (by simp [ycP]) (fun _ => z0) (by omega)).mono ?_
  have q : yc5 j (zeros j) ycP = 2 := by rw [yc5, if_neg (by simpa using e0), yiB, if_pos (by omega)]
  rw [q]
  rintro _ w7 ⟨rfl, M7, h7⟩
  rw [if_neg (by decide), if_neg (by decide)] at h7
  refine ⟨_, _, rfl, by omega, ?_⟩
  have N7 := N2.go0 M7 sS
  obtain ⟨i, hi, hij⟩ : ∃ i : Nat, Int.tmod (yfW .i64 k 65535) (j : Int) = (i : Int) ∧ i < j := by
   have h1 := yjU (x := k) (m := 65535) (by decide) (by decide)
   have h2 := Int.tmod_nonneg (j : Int) h1.1
   have h3 := Int.tmod_lt_of_pos (yfW .i64 k 65535) (b := (j : Int)) (by omega)
   exact ⟨(Int.tmod (yfW .i64 k 65535) (j : Int)).toNat, by omega, by omega⟩
  rw [hi]
  have e2 : IntKind.wrap .i64 (1 + (i : Int)) = ((i + 1 : Nat) : Int) := by rw [yaE (by omega) (by omega)]; omega
  have hs := yvT (k := j) (j := ((i + 1 : Nat) : Int)) (by omega)
  first | rw [e2] | skip
  refine (yqA h7 (id := ((i + 1 : Nat) : Int)) (by unfold r64; omega)).mono ?_
  rw [if_pos hs]
  rintro _ w10 ⟨rfl, M10, h10⟩
  refine ⟨_, rfl, ?_⟩
  have N10 := N7.go0 M10 sL
  have hdl := yAz hs
  rw [yiB] at hdl
  refine (ydD h10 (yeY w10 ycP rfl rfl) (by simp [ycP]) (fun _ => z0) (by omega)).mono ?_
  have q2 : yc5 j (del (zeros j) ((i + 1 : Nat) : Int)) ycP = 0 := by rw [yc5, if_neg (by simpa using e0), if_neg (by omega)]
  rw [q2]
  rintro _ w12 ⟨rfl, M12, h12⟩
  simp only [if_true] at h12
  have N12 := N10.go0 M12 sS
  have e3 : IntKind.wrap .i64 ((j : Int) + 1) = ((j + 1 : Nat) : Int) := by rw [yaE (by omega) (by omega)]; omega
  refine ⟨_, _, rfl, brT rfl (brT rfl (brT (by rw [e3]; simp) (brT rfl ?_)))⟩
  refine (yoK h12).mono ?_
  rintro _ w15 ⟨_, rfl, a, c1, c2, rfl, hR, M15⟩
  have hn := hR.1
  rw [List.length_map, List.length_append, List.length_cons, List.length_nil] at hn
  have hc : c1 = j := by omega
  refine ⟨_, _, _, rfl, brT (by rw [hc]; simp) (yDD (N12.go0 M15 (by simp)))⟩
end Go.Proofs.YtjellhflalbbmaaGreat
namespace Go.Proofs.YtjellhflalbbmaaGreat.wiresRoom
open Go.ChangeShapes Go.WideShapes Go.ChangeAt Go.RowKit
open Go.ChangeMaps (open_string shut_string)
set_option linter.unusedVariables false
theorem own : ownKnob Tryz.prog.godebug = none := by kernel_rfl
theorem laidOut : laidOutB Tryz.prog = true := by kernel_rfl
set_option maxRecDepth 100000 in
theorem lifted (os : Os) (started : os.Started) (H : Type) (enc : TypeId × Value → H) :
    ReturnsInHanded {} Tryz.checked os 6 .any (Rows.wiresRoomSpec.pre6 enc Tryz.prog Tryz.f6 Rows.wiresRoomRow.domain false) (Rows.wiresRoomSpec.post enc Tryz.prog Tryz.f6 false true false false) := by
  refine returnsInHanded_of_change (C := Tryz.checked) own started (by kernel_rfl) Tryz.func6
    (ChangeSpec.witness6 (enc := enc) (C := Tryz.checked) false ⟨#[], #[.int .i64 0, .int .i64 0], []⟩ 8 (by kernel_rfl) (by kernel_rfl) (by kernel_rfl) (by kernel_rfl)) ?_
  intro W base args ds gs before hval0 hW hcnd _
  have hval : ∀ (j : Nat) t v, Tryz.f6.params[j]? = some t → args[j]? = some v → Value.okWide Tryz.prog W .any base t v := hval0
  have hW' := hW
  obtain ⟨p, q, hA0, hV, rfl, hfz, hnd⟩ := hW
  have hA : DataW.TrodAll enc Tryz.prog W 0 (fun _ => true) true Tryz.f6.params.toList args.toList ds p := hA0
  rw [Tryz.params6] at hA hval
  obtain ⟨v0, vs0, d0, ds0, p0, q0, hargs, rfl, rfl, h0, r0⟩ := trodAll_cons hA
  obtain ⟨v1, vs1, d1, ds1, p1, q1, rfl, rfl, rfl, h1, r1⟩ := trodAll_cons r0
  obtain ⟨rfl, rfl, rfl⟩ := trodAll_nil r1
  obtain rfl : args = #[v0, v1] := by cases args; simp_all
  obtain ⟨rfl, rfl⟩ := trodVars_none hV
  have k0 := h0
  have lt0 : ∀ x ∈ p0, x.block < W.heap.size := by obtain ⟨m, hm⟩ := k0; exact DataW.trod_lt m _ _ _ hm
  have k1 := h1
  have lt1 : ∀ x ∈ p1, x.block < W.heap.size := by obtain ⟨m, hm⟩ := k1; exact DataW.trod_lt m _ _ _ hm
  obtain ⟨a0, rfl, _, _, w0⟩ := open_int Tryz.underlying3 (hval 0 3 v0 rfl rfl) h0
  obtain ⟨a1, rfl, _, _, w1⟩ := open_int Tryz.underlying3 (hval 1 3 v1 rfl rfl) h1
  clear hA0 hval0
  refine (yvU (room := a0) (k := a1) W).mono fun e W' ⟨he, hM⟩ => ?_
  have bel : Below W.heap.size W W' := hM.below (by simp)
  subst he
  exact ⟨_, rfl, _, _, _, [], _, [], hW', trodAll_mk1 (shut_bool Tryz.underlying4 _), (trodAll_cons_mk (Below.trod laidOut (by kernel_rfl) (of_decide_eq_true (by kernel_rfl)) k0 bel lt0) (trodAll_cons_mk (Below.trod laidOut (by kernel_rfl) (of_decide_eq_true (by kernel_rfl)) k1 bel lt1) trodAll_mk0)), rfl, bel.frame _, fun h => by cases h⟩
theorem over : Rows.wiresRoomRow.holds Tryz.pinned (OpenSpec.ofChange Rows.wiresRoomSpec) :=
  OpenClaim.holds_of_wide 6 Tryz.f6 rfl rfl rfl rfl rfl rfl rfl ⟨rfl, rfl, rfl, rfl, rfl⟩ rfl rfl rfl rfl rfl (by kernel_rfl) Tryz.func6 (by kernel_rfl)
    (of_decide_eq_true (by kernel_rfl)) (by unfold Func.isWrapper; first | (rw [if_pos (by decide +kernel)]; kernel_rfl) | (rw [if_neg (by decide +kernel)]; exact ⟨rfl, rfl⟩))
    (fun os started H enc _ => lifted os started H enc)
theorem proved : Rows.WiresRoomSaid := over
#print axioms proved
end Go.Proofs.YtjellhflalbbmaaGreat.wiresRoom
