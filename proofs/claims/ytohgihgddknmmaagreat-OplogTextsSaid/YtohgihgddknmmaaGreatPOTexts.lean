/- OplogTexts, for every input. No conditions. -/
import Derived.WalkKit
import Derived.WalkSpells
import Derived.WalkLawsBesides
import Derived.Deep.Quiet
import Derived.Test.YtohgihgddknmmaaGreatRows
import Derived.KernelRfl
import Derived.Maps.Keyed
import Derived.Maps.RangeRun
import Derived.DeepKeys4
import Derived.Lib.Strings
import Derived.Shelf.RegionOpenPlain
import Derived.Lib.Slices
import Derived.Lib.Walk
import Derived.Lib.Builder
import Derived.Lib.FrozenHead
import Derived.Lib.OthersKept
import Derived.Lib.AppendStr
import Derived.Lib.UnsafeStr
import Derived.Lib.MakeNoZero
import Derived.Laws.Externs
import Derived.Laws.IdiomCopy
import Derived.Laws.BitsLemmas
import Derived.RangeFuncBox
import Derived.RangeFuncLeaves
import Derived.RangeFuncNested
import Derived.Shelf.Abstract
import Derived.OwnWalkIn
import Derived.TacticsInMore
import Derived.LoopNIn
import Derived.LoopIn
import Derived.Maps.AppendAt
import Derived.Sort.LoopGhostIn
import Derived.Laws.Bits64b
import Derived.Laws.IdiomStrings
import Derived.Test.YtohgihgddknmmaaGreatProg
import Derived.Shelf.Lay
import Derived.Shelf.Strings.FuncGrows
import Derived.Laws.RangeAny
import Derived.Ground.GgwProg
import Derived.Ground.NamesProg
import Derived.ArgAppend
import Derived.Deep.RegionWith
import Derived.ProofKit
import Derived.OpenShut
import Derived.ShutString
import Derived.ChangeOld
import Derived.Below
import Derived.Deep.Slices
import Derived.Test.YtohgihgddknmmaaGreatPOTextsK6
/- The reference's readers of numbers, texts, frames. -/
namespace Go.Proofs.YtohgihgddknmmaaGreat
open Go Go.RowKit
set_option linter.unusedVariables false
set_option linter.unusedSimpArgs false

set_option maxRecDepth 20000 in
theorem R1Get_ok (s : ByteArray) (a : Nat) (hs : s.size ≤ 1000000000000) (ha : a ≤ s.size) (w : World) :
    Calls Tryz.prog 90 #[.string s, .int .i64 (a : Nat)] w fun e w' => ∃ v, e = .returned v ∧ GetV a (vg 0 (s.data.toList.drop a)) v ∧ w' = w := by
  refine ref01_Get_go ?_
  refine brB_dec (fun h => by omega) fun _ => brB_dec (fun h => by omega) fun _ => ?_
  refine ref01_Get_rule1 (fun mm x p y w' => ∃ k acc : Nat, y = k ∧ x = acc ∧ p = (2 ^ (7 * k) : Nat) ∧ k ≤ 9 ∧ acc < 2 ^ (7 * k) ∧ w' = w ∧ a + k ≤ s.size ∧
    vg 0 (s.data.toList.drop a) = (vg k (s.data.toList.drop (a + k))).map (fun p => (acc + 2 ^ (7 * k) * p.1, k + p.2)) ∧ mm = 9 - k) 9 ⟨0, 0, rfl, rfl, rfl, by omega, by simp, rfl, by omega, by simp, rfl⟩ ?_
  rintro mm x p y w1 ⟨k, acc, rfl, rfl, rfl, hk, hacc, rfl, hak, hv, rfl⟩
  have e1 : IntKind.wrap .i64 ((a : Int) + (k : Int)) = ((a + k : Nat) : Int) := by rw [wrap_id (by omega) (by omega)]; omega
  unfold ref01_Get_L1
  rw [e1, decide_eq_true (by omega), brB_true]
  refine brB_dec (fun hge => ?_) fun hlt => ?_
  · refine ⟨?_, rfl⟩
    rw [hv, List.drop_eq_nil_of_le (by simp; omega)]
    exact ⟨10, by decide, rfl⟩
  have hlt' : a + k < s.size := by omega
  obtain ⟨c, hc, hcv⟩ := byteAt_mem hlt'
  refine ⟨by omega, by omega, ?_⟩
  rw [Int.toNat_natCast, hcv]
  have hdr : s.data.toList.drop (a + k) = c :: s.data.toList.drop (a + (k + 1)) := by
    obtain ⟨hl, he⟩ := List.getElem?_eq_some_iff.1 hc
    rw [List.drop_eq_getElem_cons hl, he]; rfl
  have hc8 := c.toNat_lt
  have hc8' : c.toNat < 256 := hc8
  dsimp only
  rw [wrapU (n := c.toNat) (by omega)]
  rw [hdr, vg_cons] at hv
  have hp7 : 2 ^ (7 * k) ≤ 2 ^ 63 := Nat.pow_le_pow_right (by omega) (by omega)
  have bad : ((k = 9 ∧ 1 < c.toNat) ∨ (0 < k ∧ c.toNat = 0)) → ∃ v, (Value.tuple #[.int .u64 0, .int .i64 0, .int .i64 11]) = v ∧ GetV a (vg 0 (s.data.toList.drop a)) v ∧ w1 = w1 := fun hb => ⟨_, rfl, by rw [hv, if_pos hb]; exact ⟨11, by decide, rfl⟩, rfl⟩
  have bad' : ((k = 9 ∧ 1 < c.toNat) ∨ (0 < k ∧ c.toNat = 0)) → GetV a (vg 0 (s.data.toList.drop a)) (Value.tuple #[.int .u64 0, .int .i64 0, .int .i64 11]) ∧ w1 = w1 := fun hb => ⟨by rw [hv, if_pos hb]; exact ⟨11, by decide, rfl⟩, rfl⟩
  have emod : Int.tmod ((c.toNat : Nat) : Int) 128 = ((c.toNat % 128 : Nat) : Int) := by rw [Int.tmod_eq_emod_of_nonneg (by omega)]; omega
  rw [emod]
  have hp : 2 ^ (7 * k) * (c.toNat % 128) < 2 ^ 64 ∨ (k = 9 ∧ 1 < c.toNat) := by
    have hcs : k = 0 ∨ k = 1 ∨ k = 2 ∨ k = 3 ∨ k = 4 ∨ k = 5 ∨ k = 6 ∨ k = 7 ∨ k = 8 ∨ k = 9 := by omega
    rcases hcs with rfl | rfl | rfl | rfl | rfl | rfl | rfl | rfl | rfl | rfl <;> simp <;> omega
  have ek : IntKind.wrap .i64 ((k : Int) + 1) = ((k + 1 : Nat) : Int) := by rw [wrap_id (by omega) (by omega)]; omega
  rw [ek]
  have good : ∀ {K : Kh}, K = ref01_Get_K1 s (a : Int) (fun mm x p y w' => ∃ k acc : Nat, y = k ∧ x = acc ∧ p = (2 ^ (7 * k) : Nat) ∧ k ≤ 9 ∧ acc < 2 ^ (7 * k) ∧ w' = w1 ∧ a + k ≤ s.size ∧
    vg 0 (s.data.toList.drop a) = (vg k (s.data.toList.drop (a + k))).map (fun p => (acc + 2 ^ (7 * k) * p.1, k + p.2)) ∧ mm = 9 - k) (9 - k) → ¬ ((k = 9 ∧ 1 < c.toNat) ∨ (0 < k ∧ c.toNat = 0)) →
      nz 128 (brB (decide (((c.toNat : Nat) : Int) < 128)) (GetV a (vg 0 (s.data.toList.drop a)) (.tuple #[(.int .u64 (IntKind.wrap .u64 ((acc : Int) + (IntKind.wrap .u64 (((c.toNat % 128 : Nat) : Int) * ((2 ^ (7 * k) : Nat) : Int)))))), (.int .i64 (IntKind.wrap .i64 (((a + k : Nat) : Int) + 1))), (.int .i64 0)]) ∧ w1 = w1)
        (K (ref01_Get_v1 s (a : Int) (IntKind.wrap .u64 ((acc : Int) + (IntKind.wrap .u64 (((c.toNat % 128 : Nat) : Int) * ((2 ^ (7 * k) : Nat) : Int))))) (IntKind.wrap .u64 (((2 ^ (7 * k) : Nat) : Int) * 128)) ((k + 1 : Nat) : Int)) (ref01_Get_m1) w1)) := fun {K} hK hb => by
    subst hK
    rw [if_neg hb] at hv
    have hp : 2 ^ (7 * k) * (c.toNat % 128) < 2 ^ 64 := hp.elim id fun h => absurd (.inl h) hb
    have e2 : (((c.toNat % 128 : Nat) : Int) * ((2 ^ (7 * k) : Nat) : Int)) = ((2 ^ (7 * k) * (c.toNat % 128) : Nat) : Int) := by
      rw [Int.natCast_mul, Int.mul_comm]
    rw [e2, wrapU (by omega)]
    have hsum : acc + 2 ^ (7 * k) * (c.toNat % 128) < 2 ^ 64 := by
      have h9 : k = 9 → c.toNat ≤ 1 := by omega
      have hcs : k = 0 ∨ k = 1 ∨ k = 2 ∨ k = 3 ∨ k = 4 ∨ k = 5 ∨ k = 6 ∨ k = 7 ∨ k = 8 ∨ k = 9 := by omega
      rcases hcs with rfl | rfl | rfl | rfl | rfl | rfl | rfl | rfl | rfl | rfl <;> simp at hacc ⊢ <;> omega
    have e3 : (acc : Int) + ((2 ^ (7 * k) * (c.toNat % 128) : Nat) : Int) = ((acc + 2 ^ (7 * k) * (c.toNat % 128) : Nat) : Int) := by omega
    rw [e3, wrapU (by omega)]
    refine ⟨by omega, brB_dec (fun hsm => ?_) fun hbg => ?_⟩
    · have hsm : c.toNat < 128 := by omega
      rw [if_pos hsm] at hv
      refine ⟨?_, rfl⟩
      rw [hv, wrap_id (by omega) (by omega)]
      have e4 : c.toNat % 128 = c.toNat := by omega
      simp only [Option.map_some, GetV, e4]
      congr 3
    · have hbg : ¬ c.toNat < 128 := by omega
      rw [if_neg hbg] at hv
      have k8 : k ≤ 8 := by omega
      have h56 : 2 ^ (7 * k) ≤ 2 ^ 56 := Nat.pow_le_pow_right (by omega) (by omega)
      have e : 7 * (k + 1) = 7 * k + 7 := by omega
      refine ref01_Get_leaf1 (9 - (k + 1)) (by omega) ⟨k + 1, acc + 2 ^ (7 * k) * (c.toNat % 128), rfl, rfl, ?_, by omega, ?_, rfl, by omega, ?_, rfl⟩
      · rw [e, Nat.pow_add, show ((2 ^ (7 * k) : Nat) : Int) * 128 = ((2 ^ (7 * k) * 2 ^ 7 : Nat) : Int) by omega, wrapU (by omega)]
      · rw [e, Nat.pow_add]
        have h5 : c.toNat % 128 ≤ 127 := by omega
        have := Nat.mul_le_mul_left (2 ^ (7 * k)) h5
        omega
      · rw [hv, Option.map_map]
        congr 1
        funext p
        simp only [Function.comp]
        rw [e, Nat.pow_add, Nat.mul_add, ← Nat.mul_assoc]
        congr 1
        · rw [Nat.add_assoc]
        · omega
  refine brB_of (fun h9 => ?_) fun h9 => ?_
  · have h9 : k = 9 := by simp at h9; omega
    refine brB_dec (fun h1 => bad' (.inl ⟨h9, by omega⟩)) fun h1 => ?_
    refine brB_of (fun h0 => brB_dec (fun hk0 => bad' (.inr ⟨by omega, by simp at h0; omega⟩)) fun hk0 => by omega) fun h0 => ?_
    have h0 : c.toNat ≠ 0 := by simp at h0; omega
    exact good rfl (by omega)
  · have h9 : k ≠ 9 := by simp at h9; omega
    refine brB_of (fun h0 => brB_dec (fun hk0 => bad' (.inr ⟨by omega, by simp at h0; omega⟩)) fun hk0 => good rfl (by omega)) fun h0 => ?_
    have h0 : c.toNat ≠ 0 := by simp at h0; omega
    exact good rfl (by omega)
set_option maxRecDepth 20000 in
theorem R1GetText_ok (s : ByteArray) (a : Nat) (lim : Nat) (hs : s.size ≤ 1000000000000) (ha : a ≤ s.size) (hl : lim ≤ 1000000000000) (w : World) :
    Calls Tryz.prog 138 #[.string s, .int .i64 (a : Nat), .int .i64 (lim : Nat)] w fun e w' => ∃ v, e = .returned v ∧ TextV a (tg lim (s.data.toList.drop a)) v ∧ w' = w := by
  refine ref01_GetText_go ?_
  refine (R1Get_ok s a hs ha w).mono ?_
  rintro e w1 ⟨v, rfl, hv, rfl⟩
  cases hg : vg 0 (s.data.toList.drop a) with
  | none =>
    rw [hg] at hv
    obtain ⟨e, he, rfl⟩ := hv
    refine ⟨_, _, _, rfl, ?_⟩
    rw [show (e != 0) = true by simpa using he]
    refine ⟨?_, rfl⟩
    unfold tg; rw [hg]
    exact ⟨e, he, rfl⟩
  | some p =>
    obtain ⟨n, m⟩ := p
    rw [hg] at hv
    have hv : v = .tuple #[.int .u64 (n : Nat), .int .i64 ((a + m : Nat) : Int), .int .i64 0] := hv
    subst hv
    have hm := vg_len _ hg
    have hn := vg_lt _ (by omega) hg
    have el : (s.data.toList.drop a).length = s.size - a := by simp
    have et : tg lim (s.data.toList.drop a) = if n ≤ lim ∧ n ≤ (s.data.toList.drop a).length - m then some (bs (((s.data.toList.drop a).drop m).take n), m + n) else none := by
      unfold tg; rw [hg]
    rw [el] at hm et
    refine ⟨_, _, _, rfl, ?_⟩
    rw [show ((0 : Int) != 0) = false from rfl, brB_false]
    refine brB_dec (fun h => by omega) fun _ => ?_
    have e1 : IntKind.wrap .i64 ((s.size : Int) - ((a + m : Nat) : Int)) = ((s.size - (a + m) : Nat) : Int) := by rw [wrap_id (by omega) (by omega)]; omega
    rw [wrapU (by omega), e1, wrapU (by omega)]
    refine brB_dec (fun h => ?_) fun h => ?_
    · refine ⟨?_, rfl⟩
      rw [et, if_neg (by omega)]
      exact ⟨2, by decide, rfl⟩
    refine brB_dec (fun h2 => ?_) fun h2 => ?_
    · refine ⟨?_, rfl⟩
      rw [et, if_neg (by omega)]
      exact ⟨10, by decide, rfl⟩
    have e2 : IntKind.wrap .i64 ((n : Nat) : Int) = ((n : Nat) : Int) := wrap_id (by omega) (by omega)
    have e3 : IntKind.wrap .i64 (((a + m : Nat) : Int) + ((n : Nat) : Int)) = ((a + m + n : Nat) : Int) := by rw [wrap_id (by omega) (by omega)]; omega
    rw [e2, e3]
    refine ⟨by omega, by omega, by omega, ?_, rfl⟩
    rw [et, if_pos (by omega), Int.toNat_natCast, Int.toNat_natCast, ext_bs s (a + m) n (by omega), List.drop_drop]
    show _ = _
    congr 5
    omega
set_option maxRecDepth 20000 in
theorem R2Cut_ok (s : ByteArray) (a : Nat) (lim : Nat) (hs : s.size ≤ 1000000000000) (ha : a ≤ s.size) (hl : lim ≤ 1000000000000) (w : World) :
    Calls Tryz.prog 91 #[.string s, .int .i64 (a : Nat), .int .i64 (lim : Nat)] w fun e w' => ∃ v, e = .returned v ∧ TextV a (cg lim (s.data.toList.drop a)) v ∧ Mod [] w w' := by
  refine ref02_Cut_go ?_
  refine (R1GetText_ok s a lim hs ha hl w).mono ?_
  rintro e w1 ⟨v, rfl, hv, rfl⟩
  cases hg : tg lim (s.data.toList.drop a) with
  | none =>
    rw [hg] at hv
    obtain ⟨e, he, rfl⟩ := hv
    refine ⟨_, _, _, rfl, ?_⟩
    rw [show (e != 0) = true by simpa using he]
    refine ⟨?_, Mod.refl _⟩
    unfold cg; rw [hg]
    exact ⟨e, he, rfl⟩
  | some p =>
    obtain ⟨t, m⟩ := p
    rw [hg] at hv
    have hv : v = .tuple #[.string t, .int .i64 ((a + m : Nat) : Int), .int .i64 0] := hv
    subst hv
    have hm := tg_len hg
    have el : (s.data.toList.drop a).length = s.size - a := by simp
    have et : cg lim (s.data.toList.drop a) = if 4 ≤ (s.data.toList.drop a).length - m ∧ ((s.data.toList.drop a).drop m).take 4 = laidB (crcN t.data.toList) then some (t, m + 4) else none := by
      unfold cg; rw [hg]
    rw [el] at hm et
    refine ⟨_, _, _, rfl, ?_⟩
    have e1 : IntKind.wrap .i64 ((s.size : Int) - ((a + m : Nat) : Int)) = ((s.size - (a + m) : Nat) : Int) := by rw [wrap_id (by omega) (by omega)]; omega
    have e2 : IntKind.wrap .i64 (((a + m : Nat) : Int) + 4) = ((a + m + 4 : Nat) : Int) := by rw [wrap_id (by omega) (by omega)]; omega
    rw [show ((0 : Int) != 0) = false from rfl, brB_false]
    rw [e1, e2]
    refine brB_dec (fun h => ?_) fun h => ?_
    · refine ⟨?_, Mod.refl _⟩
      rw [et, if_neg (by omega)]
      exact ⟨20, by decide, rfl⟩
    refine ⟨by omega, by omega, by omega, fun w2 A2 => ?_⟩
    refine (RSum_ok t (by omega) w2).mono ?_
    rintro e w3 ⟨rfl, M3⟩
    refine ⟨_, rfl, ?_⟩
    have hcu := crcN_U t.data.toList
    refine (show Calls Tryz.prog 133 #[.int .u32 (crcN t.data.toList)] w3 fun e w' => e = .returned (.string (bs (laidB (crcN t.data.toList)))) ∧ Mod [] w3 w' by rw [hcu]; exact Four_ok (crcU_lt _) w3).mono ?_
    rintro e w4 ⟨rfl, M4⟩
    have hM : Mod [] w1 w4 := (A2.mod.go0 M3 (by simp)).go0 M4 (by simp)
    refine ⟨_, rfl, ?_⟩
    rw [Int.toNat_natCast, Int.toNat_natCast, ext_bs s (a + m) 4 (by omega)]
    have hbe : ((bs (List.take 4 (List.drop (a + m) s.data.toList))).toList == (bs (laidB (crcN t.data.toList))).toList) = decide (List.take 4 (List.drop (a + m) s.data.toList) = laidB (crcN t.data.toList)) := by
      rw [Bool.eq_iff_iff, beq_iff_eq, decide_eq_true_iff]
      constructor
      · intro h; exact bs_inj (toList_inj.1 h)
      · intro h; rw [h]
    rw [hbe]
    rw [List.drop_drop] at et
    refine brB_of (fun h => ?_) fun h => ?_
    · have h : ¬ List.take 4 (List.drop (a + m) s.data.toList) = laidB (crcN t.data.toList) := by simpa using h
      refine ⟨?_, hM⟩
      rw [et, if_neg (fun hh => h hh.2)]
      exact ⟨21, by decide, rfl⟩
    · have h : List.take 4 (List.drop (a + m) s.data.toList) = laidB (crcN t.data.toList) := by simpa using h
      refine ⟨?_, hM⟩
      rw [et, if_pos ⟨by omega, h⟩]
      show _ = _
      congr 5
end Go.Proofs.YtohgihgddknmmaaGreat

/- The reference's readers of records, batches. -/
namespace Go.Proofs.YtohgihgddknmmaaGreat
open Go Go.RowKit
set_option linter.unusedVariables false
set_option linter.unusedSimpArgs false

def rec0 : PRec := ⟨false, ⟨#[]⟩, false, ⟨#[]⟩⟩
def RecGV : Option (PRec × Nat) → Value → Prop
  | some (x, b), v => v = .tuple #[x.v, .int .i64 (b : Nat), .int .i64 0]
  | none, v => ∃ e : Int, e ≠ 0 ∧ v = .tuple #[rec0.v, .int .i64 0, .int .i64 e]
theorem recA_3 {l : List UInt8} {a k : Nat} (h : fstA l a = some (k, a + 1)) (hk : k = 3) : recA l a = (txtA 64 l (a + 1)).bind fun q => some (⟨true, q.1, true, ⟨#[]⟩⟩, q.2) := by
  subst hk; simp [recA, h, txtIf]
theorem recA_1 {l : List UInt8} {a k : Nat} (h : fstA l a = some (k, a + 1)) (hk : k = 1) : recA l a = (txtA 64 l (a + 1)).bind fun q => (txtA 512 l q.2).bind fun r => some (⟨true, q.1, false, r.1⟩, r.2) := by
  subst hk; simp [recA, h, txtIf]
theorem recA_0 {l : List UInt8} {a k : Nat} (h : fstA l a = some (k, a + 1)) (hk : k = 0) : recA l a = (txtA 512 l (a + 1)).bind fun r => some (⟨false, ⟨#[]⟩, false, r.1⟩, r.2) := by
  subst hk; simp [recA, h, txtIf]
set_option maxRecDepth 20000 in
theorem R3Get_ok (s : ByteArray) (a : Nat) (hs : s.size ≤ 1000000000000) (ha : a ≤ s.size) (w : World) :
    Calls Tryz.prog 174 #[.string s, .int .i64 (a : Nat)] w fun e w' => ∃ v, e = .returned v ∧ RecGV (recA s.data.toList a) v ∧ Mod [] w w' := by
  refine ref03_Get_go ?_
  intro b1 f1
  refine brB_dec (fun h => by omega) fun _ => brB_dec (fun h => by omega) fun _ => ?_
  have el : s.data.toList.length = s.size := by simp
  refine brB_of (fun h => ?_) fun h => ?_
  · have h : a = s.size := by simp at h; omega
    intro w4 A4
    have : recA s.data.toList a = none := by unfold recA fstA; rw [List.getElem?_eq_none (by omega)]; rfl
    exact ⟨by rw [this]; exact ⟨10, by decide, rfl⟩, A4.mod⟩
  have h : a < s.size := by simp at h; omega
  obtain ⟨c, hc, hcv⟩ := byteAt_mem h
  have hc8 := u8lt c
  refine ⟨by omega, by omega, ?_⟩
  rw [Int.toNat_natCast, hcv]
  have ef : fstA s.data.toList a = if c.toNat = 0 ∨ c.toNat = 1 ∨ c.toNat = 3 then some (c.toNat, a + 1) else none := by unfold fstA; rw [hc]
  have none1 : ¬ (c.toNat = 0 ∨ c.toNat = 1 ∨ c.toNat = 3) → recA s.data.toList a = none := fun hn => by unfold recA; rw [ef, if_neg hn]; rfl
  have ea : IntKind.wrap .i64 ((a : Int) + 1) = ((a + 1 : Nat) : Int) := by rw [wrap_id (by omega) (by omega)]; omega
  intro b6 f6
  refine brB_of (fun h2 => fun w7 A7 => ?_) fun h2 => ?_
  · have h2 : c.toNat = 2 := by simp at h2; omega
    exact ⟨by rw [none1 (by omega)]; exact ⟨30, by decide, rfl⟩, A7.mod⟩
  have h2 : c.toNat ≠ 2 := by simp at h2; omega
  refine brB_dec (fun h3 => fun w7 A7 => ?_) fun h3 => ?_
  · exact ⟨by rw [none1 (by omega)]; exact ⟨30, by decide, rfl⟩, A7.mod⟩
  rw [if_pos (by omega)] at ef
  refine brB_dec (fun h4 => fun w9 A9 => ?_) fun h4 => ?_
  · have hcs : c.toNat = 1 ∨ c.toNat = 3 := by omega
    rw [ea]
    refine (R1GetText_ok s (a + 1) 64 hs (by omega) (by omega) w9).mono ?_
    rintro e w10 ⟨v, rfl, hv, rfl⟩
    cases hg : tg 64 (s.data.toList.drop (a + 1)) with
    | none =>
      rw [hg] at hv
      obtain ⟨e, he, rfl⟩ := hv
      refine ⟨_, _, _, rfl, Keep.of0 (Mod.refl _), ?_⟩
      rw [show (e != 0) = true by simpa using he]
      intro w11 A11
      have : recA s.data.toList a = none := by
        rcases hcs with h1 | h1
        · rw [recA_1 ef h1, txtA, hg]; rfl
        · rw [recA_3 ef h1, txtA, hg]; rfl
      exact ⟨by rw [this]; exact ⟨e, he, rfl⟩, A9.mod.go0 A11.mod (by simp; omega)⟩
    | some p =>
      obtain ⟨t, m⟩ := p
      rw [hg] at hv
      have hv : v = .tuple #[.string t, .int .i64 ((a + 1 + m : Nat) : Int), .int .i64 0] := hv
      subst hv
      have hm := tg_len hg
      have el1 : (s.data.toList.drop (a + 1)).length = s.size - (a + 1) := by simp
      rw [el1] at hm
      refine ⟨_, _, _, rfl, Keep.of0 (Mod.refl _), ?_⟩
      rw [show ((0 : Int) != 0) = false from rfl, brB_false]
      refine brB_of (fun h5 => fun w11 A11 => ?_) fun h5 => fun w11 A11 => ?_
      · have h5 : c.toNat = 3 := by simp at h5; omega
        have : recA s.data.toList a = some (⟨true, t, true, ⟨#[]⟩⟩, a + 1 + m) := by
          rw [recA_3 ef h5, txtA, hg]; rfl
        exact ⟨by rw [this]; rfl, A9.mod.go0 A11.mod (by simp; omega)⟩
      · have h5 : c.toNat = 1 := by simp at h5; omega
        refine (R1GetText_ok s (a + 1 + m) 512 hs (by omega) (by omega) w11).mono ?_
        rintro e w12 ⟨v, rfl, hv, rfl⟩
        cases hg2 : tg 512 (s.data.toList.drop (a + 1 + m)) with
        | none =>
          rw [hg2] at hv
          obtain ⟨e, he, rfl⟩ := hv
          refine ⟨_, _, _, rfl, Keep.of0 (Mod.refl _), ?_⟩
          rw [show (e != 0) = true by simpa using he]
          intro w13 A13
          have : recA s.data.toList a = none := by
            rw [recA_1 ef h5, txtA, hg]; show Option.bind (txtA _ _ _) _ = _; rw [txtA, hg2]; rfl
          exact ⟨by rw [this]; exact ⟨e, he, rfl⟩, (A9.mod.go0 A11.mod (by simp; omega)).go0 A13.mod (by simp; omega)⟩
        | some p =>
          obtain ⟨t2, m2⟩ := p
          rw [hg2] at hv
          have hv : v = .tuple #[.string t2, .int .i64 ((a + 1 + m + m2 : Nat) : Int), .int .i64 0] := hv
          subst hv
          refine ⟨_, _, _, rfl, Keep.of0 (Mod.refl _), ?_⟩
          rw [show ((0 : Int) != 0) = false from rfl, brB_false]
          intro w13 A13
          have : recA s.data.toList a = some (⟨true, t, false, t2⟩, a + 1 + m + m2) := by
            rw [recA_1 ef h5, txtA, hg]; show Option.bind (txtA _ _ _) _ = _; rw [txtA, hg2]; rfl
          exact ⟨by rw [this]; rfl, (A9.mod.go0 A11.mod (by simp; omega)).go0 A13.mod (by simp; omega)⟩
  · have h0 : c.toNat = 0 := by omega
    refine brB_of (fun h5 => by simp at h5; omega) fun h5 => fun w9 A9 => ?_
    rw [ea]
    refine (R1GetText_ok s (a + 1) 512 hs (by omega) (by omega) w9).mono ?_
    rintro e w10 ⟨v, rfl, hv, rfl⟩
    cases hg : tg 512 (s.data.toList.drop (a + 1)) with
    | none =>
      rw [hg] at hv
      obtain ⟨e, he, rfl⟩ := hv
      refine ⟨_, _, _, rfl, Keep.of0 (Mod.refl _), ?_⟩
      rw [show (e != 0) = true by simpa using he]
      intro w11 A11
      have : recA s.data.toList a = none := by rw [recA_0 ef h0, txtA, hg]; rfl
      exact ⟨by rw [this]; exact ⟨e, he, rfl⟩, A9.mod.go0 A11.mod (by simp; omega)⟩
    | some p =>
      obtain ⟨t, m⟩ := p
      rw [hg] at hv
      have hv : v = .tuple #[.string t, .int .i64 ((a + 1 + m : Nat) : Int), .int .i64 0] := hv
      subst hv
      refine ⟨_, _, _, rfl, Keep.of0 (Mod.refl _), ?_⟩
      rw [show ((0 : Int) != 0) = false from rfl, brB_false]
      intro w11 A11
      have : recA s.data.toList a = some (⟨false, ⟨#[]⟩, false, t⟩, a + 1 + m) := by
        rw [recA_0 ef h0, txtA, hg]; rfl
      exact ⟨by rw [this]; rfl, A9.mod.go0 A11.mod (by simp; omega)⟩

/-! ### batches -/
theorem Row.fresh0 {α : Type} {w : World} {base T sz b : Nat} {enc : α → List Value} (h : w.heap[b]? = some (.cells #[] T)) (hb : base ≤ b) : Row w base T sz enc (some ⟨b, 0, none⟩) 0 0 [] :=
  ⟨rfl, by simp, .inr ⟨b, 0, #[], rfl, hb, h, by simp, by simp, by simp, by simp⟩⟩
def encU (n : Nat) : List Value := [.int .u64 (n : Nat)]
theorem infoU64 : (Tryz.prog.info? 130).map (fun i => (i.zero, i.size, i.bytes)) = some (some (.int .u64 0), 1, 8) := by kernel_rfl
theorem recA_le2 {l : List UInt8} {a b : Nat} {x : PRec} (h : recA l a = some (x, b)) : a ≤ b ∧ (a ≤ l.length → b ≤ l.length) := by
  unfold recA at h
  cases hf : fstA l a with
  | none => rw [hf] at h; simp at h
  | some p =>
    rw [hf] at h
    have hp : a + 1 = p.2 ∧ a < l.length := by
      unfold fstA at hf
      cases hl : l[a]? with
      | none => rw [hl] at hf; simp at hf
      | some c =>
        rw [hl] at hf
        have := (List.getElem?_eq_some_iff.1 hl).1
        simp only at hf
        split at hf
        · simp at hf; subst hf; exact ⟨rfl, this⟩
        · simp at hf
    simp only [Option.bind_some] at h
    have ti : ∀ {has : Bool} {lim a b : Nat} {t : ByteArray}, txtIf has lim l a = some (t, b) → a ≤ b ∧ (a ≤ l.length → b ≤ l.length) := fun {has lim a b t} h => by
      unfold txtIf at h
      split at h
      · have := txtA_le h; omega
      · simp at h; omega
    cases h1 : txtIf (decide (p.1 % 2 = 1)) 64 l p.2 with
    | none => rw [h1] at h; simp at h
    | some q =>
      rw [h1] at h
      simp only [Option.bind_some] at h
      have t1 := ti h1
      cases h2 : txtIf (decide (p.1 / 2 % 2 = 0)) 512 l q.2 with
      | none => rw [h2] at h; simp at h
      | some r =>
        rw [h2] at h
        have t2 := ti h2
        simp at h
        omega
theorem RecGV.out {o : Option (PRec × Nat)} {v : Value} (h : RecGV o v) : ∃ (x : PRec) (b e : Int), v = .tuple #[x.v, .int .i64 b, .int .i64 e] ∧ ((e = 0 ∧ ∃ n : Nat, b = n ∧ o = some (x, n)) ∨ (e ≠ 0 ∧ o = none)) := by
  cases o with
  | none => obtain ⟨e, he, rfl⟩ := h; exact ⟨_, _, _, rfl, .inr ⟨he, rfl⟩⟩
  | some p => obtain ⟨x, b⟩ := p; exact ⟨_, _, _, h, .inl ⟨rfl, b, rfl, rfl⟩⟩
theorem GetV.out {a : Nat} {o : Option (Nat × Nat)} {v : Value} (h : GetV a o v) : ∃ (n : Nat) (b e : Int), v = .tuple #[.int .u64 (n : Nat), .int .i64 b, .int .i64 e] ∧ ((e = 0 ∧ ∃ m : Nat, b = ((a + m : Nat) : Int) ∧ o = some (n, m)) ∨ (e ≠ 0 ∧ o = none)) := by
  cases o with
  | none => obtain ⟨e, he, rfl⟩ := h; exact ⟨0, _, _, rfl, .inr ⟨he, rfl⟩⟩
  | some p => obtain ⟨x, b⟩ := p; exact ⟨_, _, _, h, .inl ⟨rfl, b, rfl, rfl⟩⟩
theorem TextV.out {a : Nat} {o : Option (ByteArray × Nat)} {v : Value} (h : TextV a o v) : ∃ (n : ByteArray) (b e : Int), v = .tuple #[.string n, .int .i64 b, .int .i64 e] ∧ ((e = 0 ∧ ∃ m : Nat, b = ((a + m : Nat) : Int) ∧ o = some (n, m)) ∨ (e ≠ 0 ∧ o = none ∧ n = ⟨#[]⟩ ∧ b = 0)) := by
  cases o with
  | none => obtain ⟨e, he, rfl⟩ := h; exact ⟨_, _, _, rfl, .inr ⟨he, rfl, rfl, rfl⟩⟩
  | some p => obtain ⟨x, b⟩ := p; exact ⟨_, _, _, h, .inl ⟨rfl, b, rfl, rfl⟩⟩
set_option maxHeartbeats 2000000 in
set_option maxRecDepth 20000 in
theorem R3Parse_ok (s : ByteArray) (a : Nat) (hs : s.size ≤ 1000000000000) (ha : a ≤ s.size) (w : World) :
    Calls Tryz.prog 169 #[.string s, .int .i64 (a : Nat)] w fun e w' => ∃ v, e = .returned v ∧ ParseV w w' (batA s.data.toList a) v ∧ Mod [] w w' := by
  refine ref03_Parse_go ?_
  intro b1 f1 w2 A2
  have l1 := A2.lt b1 (by simp)
  have s2 := A2.mod.size
  refine al_of fun b3 w4 c4 M4 f4 => ?_
  have s4 := M4.size
  have el : s.data.toList.length = s.size := by simp
  have bad : ∀ {e : Int} {w'}, e ≠ 0 → batA s.data.toList a = none → Mod [] w w' → ParseV w w' (batA s.data.toList a) (.tuple #[.agg #[.int .i64 0, .int .i64 0, .int .i64 0, .slice none 0 0], .int .i64 0, .int .i64 e]) ∧ Mod [] w w' := fun he hn M => ⟨by rw [hn]; exact ⟨_, he, rfl⟩, M⟩
  refine ref03_Parse_rule1 (fun mm ar nr cr x8 x9 w' => ∃ (j : Nat) (xs : List Nat) (a1 : Nat), x9 = j ∧ xs.length = j ∧ j ≤ 4 ∧ x8 = a1 ∧ a1 ≤ s.size ∧ (∀ x ∈ xs, x < 18446744073709551616) ∧ Mod [] w w' ∧ w2.heap.size ≤ w'.heap.size ∧
    timesA numA s.data.toList 4 a = (timesA numA s.data.toList (4 - j) a1).map (fun p => (xs ++ p.1, p.2)) ∧ Row w' w2.heap.size 130 1 encU ar nr cr xs ∧ mm = 4 - j) 4
    ⟨0, [], a, rfl, rfl, by omega, rfl, ha, by simp, A2.mod.go0 M4 (by simp), by omega, by simp, Row.fresh0 c4 (by omega), rfl⟩ ?_
  rintro mm ar nr cr x8 x9 w5 ⟨j, xs, a1, rfl, hxl, hj, rfl, ha1, hxs, N5, s5, q5, hRow, rfl⟩
  refine brB_dec (fun hlt => ?_) fun hge => ?_
  · have hlt : j < 4 := by omega
    have ej : 4 - j = (4 - (j + 1)) + 1 := by omega
    refine (R1Get_ok s a1 hs ha1 w5).mono ?_
    rintro e w6 ⟨v, rfl, hv, rfl⟩
    obtain ⟨n, b, e, rfl, hor⟩ := hv.out
    refine ⟨_, _, _, rfl, Keep.of0 (Mod.refl _), ?_⟩
    rcases hor with ⟨rfl, m, rfl, hg⟩ | ⟨he, hg⟩
    · rw [show ((0 : Int) != 0) = false from rfl, brB_false]
      have en : numA s.data.toList a1 = some (n, a1 + m) := by unfold numA; rw [hg]; rfl
      have hm := numA_le en
      refine al_of fun b9 w9 c9 M9 f9 => ?_
      have s9 := M9.size
      obtain ⟨i0, hi, hz0, hz1, hz2⟩ := info_parts infoU64
      have hR9 := hRow.keep0 M9
      refine append_of (x := n) hR9 Tryz.underlying236 hi hz0 hz1 hz2 rfl (by decide) c9 rfl (by simp [encU, Value.oneCell']) (by omega) (by unfold maxLen; omega) (by omega) fun a' c' w10 hR10 hM10 => ?_
      have M10 := hM10 _ (rowS_ok ar)
      have s10 := M10.size
      have hnew := hR9.newS
      refine ⟨Keep.of M10 fun b hb _ hb' => ?_, ?_⟩
      · have := hnew b hb'; simp at hb; omega
      refine ref03_Parse_leaf1 (4 - (j + 1)) (by omega) ⟨j + 1, xs ++ [n], a1 + m, by rw [wrap_id (by omega) (by omega)]; omega, by rw [List.length_append, hxl]; rfl, by omega, rfl, by omega, ?_, ?_, by omega, ?_, hR10, rfl⟩
      · intro x hx
        rcases List.mem_append.1 hx with h | h
        · exact hxs x h
        · simp at h; subst h; exact hm.2.2
      · exact (N5.go0 M9 (by simp)).go0 M10 fun i hi => by have := hnew i hi; omega
      · rw [q5, ej]
        show Option.map _ ((numA _ _).bind _) = _
        rw [en]
        simp only [Option.bind_some, Option.map_map]
        congr 1
        funext p; simp
    · rw [show (e != 0) = true by simpa using he]
      intro w9 A9
      refine bad he ?_ (N5.go0 A9.mod (by simp; omega))
      have en : numA s.data.toList a1 = none := by unfold numA; rw [hg]; rfl
      have : timesA numA s.data.toList 4 a = none := by
        rw [q5, ej]; show Option.map _ ((numA _ _).bind _) = _; rw [en]; rfl
      unfold batA hdA
      rw [this]; rfl
  · have hj4 : j = 4 := by omega
    subst hj4
    obtain ⟨x, y, z, k, rfl⟩ : ∃ x y z k, xs = [x, y, z, k] := by
      match xs, hxl with
      | [x, y, z, k], _ => exact ⟨x, y, z, k, rfl⟩
    have hx := hxs x (by simp)
    have hy := hxs y (by simp)
    have hz := hxs z (by simp)
    have hk := hxs k (by simp)
    have q4 : timesA numA s.data.toList 4 a = some ([x, y, z, k], a1) := q5
    have hhd : hdA s.data.toList a = if x ≤ 1099511627776 ∧ y ≤ 1099511627776 ∧ z ≤ 1099511627776 ∧ 1 ≤ k ∧ k ≤ 16 then some ([x, y, z, k], a1) else none := by unfold hdA; rw [q4]; rfl
    have none1 : ¬ (x ≤ 1099511627776 ∧ y ≤ 1099511627776 ∧ z ≤ 1099511627776 ∧ 1 ≤ k ∧ k ≤ 16) → batA s.data.toList a = none := fun hn => by unfold batA; rw [hhd, if_neg hn]; rfl
    have hU := hRow.sl (fun _ => rfl)
    have ix : ∀ {w' : World} {i : Nat} {v : Nat} {F : Addr → Prop}, [x, y, z, k][i]? = some v → (∀ q, (∀ w', Mod [] w5 w' → w'.cell? q = some (.int .u64 (v : Nat))) → F q) → ixA ar nr (i : Nat) 1 F := fun {w' i v F} hv hF => hU.ixW hv fun q hq => hF q fun w' M => by have := hq w' M 0 _ rfl; rwa [add_zero] at this
    refine ix (w' := w5) (i := 0) rfl fun q0 h0 => ldInt_of (h0 _ (Mod.refl _)) (brB_dec (fun g w7 A7 => bad (by decide) (none1 (by omega)) (N5.go0 A7.mod (by simp; omega))) fun g1 => ?_)
    refine ix (w' := w5) (i := 1) rfl fun q1 h1 => ldInt_of (h1 _ (Mod.refl _)) (brB_dec (fun g w7 A7 => bad (by decide) (none1 (by omega)) (N5.go0 A7.mod (by simp; omega))) fun g2 => ?_)
    refine ix (w' := w5) (i := 2) rfl fun q2 h2 => ldInt_of (h2 _ (Mod.refl _)) (brB_dec (fun g w7 A7 => bad (by decide) (none1 (by omega)) (N5.go0 A7.mod (by simp; omega))) fun g3 => ?_)
    refine ix (w' := w5) (i := 3) rfl fun q3 h3 => ldInt_of (h3 _ (Mod.refl _)) (brB_of (fun g w7 A7 => bad (by decide) (none1 (by simp at g; omega)) (N5.go0 A7.mod (by simp; omega))) fun g4 => ?_)
    refine ix (w' := w5) (i := 3) rfl fun q3 h3 => ldInt_of (h3 _ (Mod.refl _)) (brB_dec (fun g w7 A7 => bad (by decide) (none1 (by omega)) (N5.go0 A7.mod (by simp; omega))) fun g5 => ?_)
    have g4 : k ≠ 0 := by simp at g4; omega
    rw [if_pos (by omega)] at hhd
    refine ix (w' := w5) (i := 0) rfl fun q0 h0 => ?_
    intro w7 A7
    have s7 := A7.mod.size
    refine ldInt_of (h0 _ A7.mod) (ix (w' := w5) (i := 1) rfl fun q1 h1 => ldInt_of (h1 _ A7.mod) (ix (w' := w5) (i := 2) rfl fun q2 h2 => ldInt_of (h2 _ A7.mod) ?_))
    intro b8 f8 w9 A9
    have l8 := A9.lt b8 (by simp)
    have s9 := A9.mod.size
    rw [wrap_id (x := ((x : Nat) : Int)) (by omega) (by omega), wrap_id (x := ((y : Nat) : Int)) (by omega) (by omega), wrap_id (x := ((z : Nat) : Int)) (by omega) (by omega)]
    have N9 : Mod [] w w9 := (N5.go0 A7.mod (by simp)).go0 A9.mod (by simp)
    have M59 : Mod [] w5 w9 := A7.mod.go0 A9.mod (by simp)
    have qb : batA s.data.toList a = (timesA recA s.data.toList k a1).map fun q => (⟨(x : Nat), (y : Nat), (z : Nat), q.1⟩, q.2) := by unfold batA; rw [hhd]; rfl
    refine ref03_Parse_rule2 (fun mm x8 x14 ar nr cr w' => ∃ (j : Nat) (xs : List PRec) (a2 : Nat), x14 = j ∧ xs.length = j ∧ j ≤ k ∧ x8 = a2 ∧ a2 ≤ s.size ∧ Mod [] w w' ∧ Mod [] w5 w' ∧ w9.heap.size ≤ w'.heap.size ∧
      timesA recA s.data.toList k a1 = (timesA recA s.data.toList (k - j) a2).map (fun p => (xs ++ p.1, p.2)) ∧ Row w' w9.heap.size 149 4 encR ar nr cr xs ∧ mm = k - j) k
      ⟨0, [], a1, rfl, rfl, by omega, rfl, ha1, N9, M59, by omega, by simp, Row.nil .., rfl⟩ ?_
    rintro mm x8 x14 ar2 nr2 cr2 w10 ⟨j, xs, a2, rfl, hxl2, hj, rfl, ha2, N10, M10, s10, q10, hRow2, rfl⟩
    refine hU.ixW (i := 3) rfl fun q3 h3 => ldInt_of (by have := h3 _ M10 0 _ rfl; rwa [add_zero] at this) ?_
    rw [wrap_id (x := ((k : Nat) : Int)) (by omega) (by omega)]
    refine brB_dec (fun hlt => ?_) fun hge => fun w11 A11 => ?_
    · have ej : k - j = (k - (j + 1)) + 1 := by omega
      refine (R3Get_ok s a2 hs ha2 w10).mono ?_
      rintro e w11 ⟨v, rfl, hv, M11⟩
      have s11 := M11.size
      obtain ⟨r, b, e, rfl, hor⟩ := hv.out
      refine ⟨_, _, _, _, _, _, rfl, Keep.of0 M11, ?_⟩
      intro b12 f12
      have N11 := N10.go0 M11 (by simp)
      rcases hor with ⟨rfl, n, rfl, hg⟩ | ⟨he, hg⟩
      · rw [show ((0 : Int) != 0) = false from rfl, brB_false]
        intro w12 A12
        have s12 := A12.mod.size
        have l12 := A12.lt b12 (by simp)
        have hm := (recA_le2 hg).2 (by omega)
        refine al_of fun b13 w13 c13 M13 f13 => ?_
        have s13 := M13.size
        have K13 : Mod [] w10 w13 := (M11.go0 A12.mod (by simp)).go0 M13 (by simp)
        have hR13 := hRow2.keep0 K13
        obtain ⟨i0, hi, hz0, hz1, hz2⟩ := info_parts infoR
        refine append_of (x := r) hR13 Tryz.underlying33 hi hz0 hz1 hz2 rfl (by decide) c13 rfl (encR_one _) (by omega) (by unfold maxLen; omega) (by omega) fun a' c' w14 hR14 hM14 => ?_
        have M14 := hM14 _ (rowS_ok ar2)
        have s14 := M14.size
        have hnew := hR13.newS
        have hrow := rowS_block hRow2
        refine ⟨Keep.of M14 fun b hb _ hb' => ?_, ?_⟩
        · have := hrow b hb'; simp at hb; omega
        intro w15 A15
        have s15 := A15.mod.size
        refine ref03_Parse_leaf2 (k - (j + 1)) (by omega) ⟨j + 1, xs ++ [r], n, by rw [wrap_id (by omega) (by omega)]; omega, by rw [List.length_append, hxl2]; rfl, by omega, rfl, by omega, ?_, ?_, by omega, ?_, ?_, rfl⟩
        · refine ((N10.go0 K13 (by simp)).go0 M14 fun i hi => ?_).go0 A15.mod (by simp; omega)
          have := hnew i hi; omega
        · refine ((M10.go0 K13 (by simp)).go0 M14 fun i hi => ?_).go0 A15.mod (by simp; omega)
          have := hnew i hi; omega
        · rw [q10, ej]
          show Option.map _ ((recA _ _).bind _) = _
          rw [hg]
          simp only [Option.bind_some, Option.map_map]
          congr 1
          funext p; simp
        · refine hR14.keep A15.mod fun ad ha hk => ?_
          have := hR14.base ad ha; simp at hk; omega
      · rw [show (e != 0) = true by simpa using he]
        intro w12 A12
        refine bad he ?_ (N11.go0 A12.mod (by simp; omega))
        rw [qb, q10, ej]
        show Option.map _ (Option.map _ ((recA _ _).bind _)) = _
        rw [hg]; rfl
    · have hjk : k - j = 0 := by omega
      rw [qb, q10, hjk]
      refine ⟨⟨⟨ar2, nr2, cr2⟩, rfl, ?_, ?_⟩, N10.go0 A11.mod (by simp; omega)⟩
      · show Row w11 w.heap.size 149 4 encR ar2 nr2 cr2 (xs ++ [])
        rw [List.append_nil]
        refine (hRow2.keep A11.mod fun ad ha hk => ?_).rebase (by omega)
        have := hRow2.base ad ha; simp at hk; omega
      · show (xs ++ []).length ≤ 16
        rw [List.append_nil]; omega
end Go.Proofs.YtohgihgddknmmaaGreat

/- The reference's reader of commands. -/
namespace Go.Proofs.YtohgihgddknmmaaGreat
open Go Go.RowKit
set_option linter.unusedVariables false
set_option linter.unusedSimpArgs false

abbrev InT : TypeId := 224
def RdI (s : ByteArray) (br : Nat) (st : Option Nat) (w : World) : Prop :=
  ∃ (a : Nat) (bad : Bool), w.heap[br]? = some (.cells #[.string s, .int .i64 (a : Nat), .bool bad] InT) ∧ a ≤ s.size ∧ st = if bad then none else some a
def numL (l : List UInt8) (a : Nat) : Option (Int × Nat) := (numA l a).bind fun p => if p.1 ≤ 1099511627776 then some (((p.1 : Nat) : Int), p.2) else none
theorem numL_put {l r : List UInt8} {a : Nat} {x : Int} (hx : num x = true) (h : l.drop a = vPutL x.toNat ++ r) : numL l a = some (x, a + (vPutL x.toNat).length) := by
  have := num_le hx
  unfold numL; rw [numA_put (by omega) h]
  show (if _ then _ else _) = _
  rw [if_pos (by omega)]
  congr 2; omega
theorem Inum_ok {s : ByteArray} {br : Nat} {st : Option Nat} {w : World} (hs : s.size ≤ 1000000000000) (h : RdI s br st w) :
    Calls Tryz.prog 158 #[.pointer (some ⟨br, 0, none⟩)] w fun e w' => ∃ v, e = .returned v ∧ ∃ x : Int, v = .int .i64 x ∧ num x = true ∧ Mod [br] w w' ∧ ∃ st', RdI s br st' w' ∧ st.bind (numL s.data.toList) = st'.map fun a => (x, a) := by
  obtain ⟨a, bad, h1, ha, rfl⟩ := h
  refine ref04_In_num_go h1 ?_
  intro w1 A1
  refine (R1Get_ok s a hs ha w1).mono ?_
  rintro e w2 ⟨v, rfl, hv, rfl⟩
  obtain ⟨n, b, e, rfl, hor⟩ := hv.out
  refine ⟨_, _, _, rfl, Keep.of0 (Mod.refl _), ?_⟩
  have hM : ∀ {w6}, Adv [br] [] w2 w6 → Mod [br] w w6 := fun A6 => A1.mod.trans A6.mod
  refine brB_of (fun g w6 A6 h6 => ⟨0, rfl, by decide, hM A6, none, ⟨a, true, h6, ha, rfl⟩, by rw [if_pos g]; rfl⟩) fun g => ?_
  have g : bad = false := g
  subst g
  rcases hor with ⟨rfl, m, rfl, hg⟩ | ⟨he, hg⟩
  · rw [show ((0 : Int) != 0) = false from rfl, brB_false]
    have en : numA s.data.toList a = some (n, a + m) := by unfold numA; rw [hg]; rfl
    have hm := numA_le en
    have el : s.data.toList.length = s.size := by simp
    refine brB_dec (fun g w6 A6 h6 => ⟨0, rfl, by decide, hM A6, none, ⟨a, true, h6, ha, rfl⟩, ?_⟩) fun g w6 A6 h6 => ⟨_, rfl, ?_, hM A6, some (a + m), ⟨a + m, false, h6, by omega, rfl⟩, ?_⟩
    · show numL _ a = none
      unfold numL; rw [en]; show (if _ then _ else _) = _; rw [if_neg (by omega)]
    · rw [wrap_id (by omega) (by omega)]; simp [num]; omega
    · rw [wrap_id (by omega) (by omega)]
      show numL _ a = _
      unfold numL; rw [en]; show (if _ then _ else _) = _; rw [if_pos (by omega)]; rfl
  · rw [show (e != 0) = true by simpa using he]
    intro w6 A6 h6
    refine ⟨0, rfl, by decide, hM A6, none, ⟨a, true, h6, ha, rfl⟩, ?_⟩
    show numL _ a = none
    unfold numL numA; rw [hg]; rfl
theorem Itext_ok {s : ByteArray} {br : Nat} {st : Option Nat} {w : World} (hs : s.size ≤ 1000000000000) (h : RdI s br st w) :
    Calls Tryz.prog 168 #[.pointer (some ⟨br, 0, none⟩)] w fun e w' => ∃ v, e = .returned v ∧ ∃ x : ByteArray, v = .string x ∧ Mod [br] w w' ∧ ∃ st', RdI s br st' w' ∧ st.bind (txtA 16 s.data.toList) = st'.map fun a => (x, a) := by
  obtain ⟨a, bad, h1, ha, rfl⟩ := h
  refine ref04_In_text_go h1 ?_
  intro w1 A1
  refine (R1GetText_ok s a 16 hs ha (by omega) w1).mono ?_
  rintro e w2 ⟨v, rfl, hv, rfl⟩
  obtain ⟨n, b, e, rfl, hor⟩ := hv.out
  refine ⟨_, _, _, rfl, Keep.of0 (Mod.refl _), ?_⟩
  have hM : ∀ {w6}, Adv [br] [] w2 w6 → Mod [br] w w6 := fun A6 => A1.mod.trans A6.mod
  refine brB_of (fun g w6 A6 h6 => ⟨_, rfl, hM A6, none, ⟨a, true, h6, ha, rfl⟩, by rw [if_pos g]; rfl⟩) fun g => ?_
  have g : bad = false := g
  subst g
  rcases hor with ⟨rfl, m, rfl, hg⟩ | ⟨he, hg, _, _⟩
  · rw [show ((0 : Int) != 0) = false from rfl, brB_false]
    have en : txtA 16 s.data.toList a = some (n, a + m) := by unfold txtA; rw [hg]; rfl
    have hm := txtA_le en
    have el : s.data.toList.length = s.size := by simp
    intro w6 A6 h6
    exact ⟨_, rfl, hM A6, some (a + m), ⟨a + m, false, h6, by omega, rfl⟩, en⟩
  · rw [show (e != 0) = true by simpa using he]
    intro w6 A6 h6
    refine ⟨_, rfl, hM A6, none, ⟨a, true, h6, ha, rfl⟩, ?_⟩
    show txtA 16 _ a = none
    unfold txtA; rw [hg]; rfl
theorem st_out {α : Type} {st st1 : Option Nat} {f : Nat → Option (α × Nat)} {x y : α} {a b : Nat} (h : st.bind f = st1.map fun a => (x, a)) (hs : st = some a) (hf : f a = some (y, b)) : st1 = some b ∧ x = y := by
  subst hs
  rw [Option.bind_some, hf] at h
  cases st1 with
  | none => simp at h
  | some c => simp at h; exact ⟨by rw [h.2], h.1.symm⟩
/-- What a letter sets. -/
def setL (o : POp) (c : Nat) (o' : POp) : POp :=
  if c = 116 then { o with part := ⟨o'.part.t, o.part.n⟩ } else if c = 112 then { o with part := o'.part } else if c = 110 then { o with n := o'.n } else if c = 111 then { o with off := o'.off } else if c = 98 then { o with b := o'.b }
  else if c = 103 then { o with g := o'.g } else if c = 109 then { o with m := o'.m } else if c = 101 then { o with gen := o'.gen } else if c = 114 then { o with robin := o'.robin } else { o with topics := o'.topics }
theorem encS_one1 (x : ByteArray) : ∀ u ∈ encS x, u.oneCell' = true := by simp [encS, Value.oneCell']
set_option maxHeartbeats 4000000 in
set_option maxRecDepth 20000 in
theorem Ione_ok {s : ByteArray} {br base : Nat} {st : Option Nat} {w : World} {o : POp} {rs : Sl} {c : Nat} (hs : s.size ≤ 1000000000000) (h : RdI s br st w) (hO : OpOwn w base o rs nilS) (ht : o.topics = []) (hb : base ≤ w.heap.size) (hc : c ∈ [112, 116, 110, 111, 98, 103, 109, 101, 114, 108]) :
    Calls Tryz.prog 159 #[.pointer (some ⟨br, 0, none⟩), o.v rs nilS, .int .u8 (c : Nat)] w fun e w' => ∃ v, e = .returned v ∧ ∃ (o1 : POp) (rs1 ts1 : Sl) (st1 : Option Nat), v = o1.v rs1 ts1 ∧ OpOwn w' base o1 rs1 ts1 ∧ (c ≠ 108 → o1.topics = [] ∧ ts1 = nilS) ∧
      o1.kind = o.kind ∧ RdI s br st1 w' ∧ Mod [br] w w' ∧ (∀ (a : Nat) (o' : POp) (r : List UInt8), st = some a → OpGood o' → ha o'.kind c = true → s.data.toList.drop a = oneL o' c ++ r → st1 = some (a + (oneL o' c).length) ∧ o1 = setL o c o') := by
  obtain ⟨a0, bad, h1, ha0, hst⟩ := h
  have hlt := lt_of_block h1
  refine ref04_In_one_go h1 ?_
  intro b1 f1 b2 f2
  have keepO : ∀ {w' : World}, Mod [br] w w' → OpOwn w' base o rs nilS := fun M => hO.keep M fun k hk cs T hT => by
    simp at hk; subst hk; rw [h1] at hT; cases hT; exact ⟨by decide, by decide⟩
  have fin : ∀ {w4 w9 : World} {x1 : Int} {t1 : Bool}, Mod [br] w w4 → Adv [b2, b1] [] w4 w9 → Mod [br] w w9 := fun M A => (M.trans A.mod).less fun i hi hl => by simp at hi ⊢; omega
  have kE : ∀ {w3 w4 : World}, Mod [br] w3 w4 → KeepE [br] [(b1, 38), (b2, 38)] [b1, b2] w3 w4 := fun M => Keep.ofE M fun k hk hl he => he
  refine brB_of (fun g w3 A3 h3 => ?_) fun g => ?_
  · have g : c = 116 := by simp at g; omega
    subst g
    refine (Itext_ok (st := st) hs ⟨a0, bad, h3, ha0, hst⟩).mono ?_
    rintro e w4 ⟨v, rfl, x, rfl, M4, st4, ⟨a4, bad4, h4, ha4, hst4⟩, hq⟩
    refine ⟨_, rfl, kE M4, _, _, _, h4, fun w9 A9 h9 => ?_⟩
    have N := fin (x1 := 0) (t1 := true) (A3.mod.trans M4) A9
    have hO9 := keepO N
    refine ⟨{ o with part := ⟨x, o.part.n⟩ }, rs, nilS, st4, rfl, ⟨hO9.recs, hO9.topics, hO9.lr, hO9.lt⟩, fun _ => ⟨ht, rfl⟩, rfl, ⟨a4, bad4, h9, ha4, hst4⟩, N, fun a o' r hsa G hcc hd => ?_⟩
    obtain ⟨e1, e2⟩ := st_out hq hsa (txtA_put (s := o'.part.t) (name_le (G.nt (by rw [hcc]; simp))).1 (by have := (name_le (G.nt (by rw [hcc]; simp))).1; omega) hd)
    exact ⟨e1, by rw [e2]; rfl⟩
  have g116 : c ≠ 116 := by simp at g; omega
  refine brB_of (fun g w3 A3 h3 => ?_) fun g => ?_
  · have g : c = 112 := by simp at g; omega
    subst g
    refine (Itext_ok (st := st) hs ⟨a0, bad, h3, ha0, hst⟩).mono ?_
    rintro e w4 ⟨v, rfl, x, rfl, M4, st4, ⟨a4, bad4, h4, ha4, hst4⟩, hq⟩
    refine ⟨_, rfl, kE M4, _, _, _, h4, fun w5 A5 h5 => ?_⟩
    refine (Inum_ok (st := st4) hs ⟨a4, bad4, h5, ha4, hst4⟩).mono ?_
    rintro e w6 ⟨v, rfl, y, rfl, hy, M6, st6, ⟨a6, bad6, h6, ha6, hst6⟩, hq6⟩
    refine ⟨_, rfl, kE M6, _, _, _, h6, fun w9 A9 h9 => ?_⟩
    have N : Mod [br] w w9 := ((((A3.mod.trans M4).trans A5.mod).trans M6).trans A9.mod).less fun i hi hl => by simp at hi ⊢; omega
    have hO9 := keepO N
    refine ⟨{ o with part := ⟨x, y⟩ }, rs, nilS, st6, rfl, ⟨hO9.recs, hO9.topics, hO9.lr, hO9.lt⟩, fun _ => ⟨ht, rfl⟩, rfl, ⟨a6, bad6, h9, ha6, hst6⟩, N, fun a o' r hsa G hcc hd => ?_⟩
    have hd : s.data.toList.drop a = putT o'.part.t ++ (vPutL o'.part.n.toNat ++ r) := by rw [hd]; simp [oneL, partB]
    obtain ⟨e1, e2⟩ := st_out hq hsa (txtA_put (s := o'.part.t) (name_le (G.nt (by rw [hcc]; simp))).1 (by have := (name_le (G.nt (by rw [hcc]; simp))).1; omega) hd)
    obtain ⟨e3, e4⟩ := st_out hq6 e1 (numL_put G.nn.1 (drop_of hd))
    refine ⟨by rw [e3]; simp [oneL, partB]; omega, by rw [e2, e4]; rfl⟩
  have g112 : c ≠ 112 := by simp at g; omega
  refine brB_of (fun g w3 A3 h3 => ?_) fun g => ?_
  · have g : c = 110 := by simp at g; omega
    subst g
    refine (Inum_ok (st := st) hs ⟨a0, bad, h3, ha0, hst⟩).mono ?_
    rintro e w4 ⟨v, rfl, x, rfl, hx, M4, st4, ⟨a4, bad4, h4, ha4, hst4⟩, hq⟩
    refine ⟨_, rfl, kE M4, _, _, _, h4, fun w9 A9 h9 => ?_⟩
    have N := fin (x1 := 0) (t1 := true) (A3.mod.trans M4) A9
    have hO9 := keepO N
    refine ⟨{ o with n := x }, rs, nilS, st4, rfl, ⟨hO9.recs, hO9.topics, hO9.lr, hO9.lt⟩, fun _ => ⟨ht, rfl⟩, rfl, ⟨a4, bad4, h9, ha4, hst4⟩, N, fun a o' r hsa G hcc hd => ?_⟩
    obtain ⟨e1, e2⟩ := st_out hq hsa (numL_put G.nn.2.1 hd)
    exact ⟨e1, by rw [e2]; rfl⟩
  have g110 : c ≠ 110 := by simp at g; omega
  refine brB_of (fun g w3 A3 h3 => ?_) fun g => ?_
  · have g : c = 111 := by simp at g; omega
    subst g
    refine (Inum_ok (st := st) hs ⟨a0, bad, h3, ha0, hst⟩).mono ?_
    rintro e w4 ⟨v, rfl, x, rfl, hx, M4, st4, ⟨a4, bad4, h4, ha4, hst4⟩, hq⟩
    refine ⟨_, rfl, kE M4, _, _, _, h4, fun w9 A9 h9 => ?_⟩
    have N := fin (x1 := 0) (t1 := true) (A3.mod.trans M4) A9
    have hO9 := keepO N
    refine ⟨{ o with off := x }, rs, nilS, st4, rfl, ⟨hO9.recs, hO9.topics, hO9.lr, hO9.lt⟩, fun _ => ⟨ht, rfl⟩, rfl, ⟨a4, bad4, h9, ha4, hst4⟩, N, fun a o' r hsa G hcc hd => ?_⟩
    obtain ⟨e1, e2⟩ := st_out hq hsa (numL_put G.nn.2.2.1 hd)
    exact ⟨e1, by rw [e2]; rfl⟩
  have g111 : c ≠ 111 := by simp at g; omega
  refine brB_of (fun g => ?_) fun g => ?_
  · have g : c = 98 := by simp at g; omega
    subst g
    have el : s.data.toList.length = s.size := by simp
    have tail : ∀ {w3 w4 w9 : World} {N1 N2 : List Nat} {v : Value} {b : PBatch} {rs1 : Sl} {x : Int} {e : Int} {bd : Bool}, Adv [] N1 w w3 → ParseV w3 w4 (batA s.data.toList a0) v → Mod [] w3 w4 → (∀ i ∈ N2, i < w3.heap.size ∧ (i = br ∨ w.heap.size ≤ i)) →
        v = .tuple #[b.v rs1, .int .i64 x, .int .i64 e] → Mod N2 w4 w9 → w9.heap[br]? = some (.cells #[.string s, .int .i64 x, .bool bd] InT) → (bd = (bad || (e != 0))) →
        (∃ (o1 : POp) (rs1' ts1 : Sl) (st1 : Option Nat), ({ o with b := b } : POp).v rs1 nilS = o1.v rs1' ts1 ∧ OpOwn w9 base o1 rs1' ts1 ∧ (98 ≠ 108 → o1.topics = [] ∧ ts1 = nilS) ∧ o1.kind = o.kind ∧ RdI s br st1 w9 ∧ Mod [br] w w9 ∧ (∀ (a : Nat) (o' : POp) (r : List UInt8), st = some a → OpGood o' → ha o'.kind 98 = true → s.data.toList.drop a = oneL o' 98 ++ r → st1 = some (a + (oneL o' 98).length) ∧ o1 = setL o 98 o')) := by
      intro w3 w4 w9 N1 N2 v b rs1 x e bd A3 hv M4 hN2 hve M9 h9 hbd
      have N : Mod [br] w w9 := ((A3.mod.trans M4).trans M9).less fun i hi hl => by
        simp at hi ⊢
        have := hN2 i hi; omega
      have hO9 := keepO N
      have s3 := A3.mod.size
      have s4 := M4.size
      cases hbat : batA s.data.toList a0 with
      | none =>
        rw [hbat] at hv
        obtain ⟨e', he', hv⟩ := hv
        rw [hve] at hv
        obtain ⟨pr, ep, sq, rl⟩ := b
        obtain ⟨ra, rn, rc⟩ := rs1
        simp only [PBatch.v, Value.tuple.injEq, Array.mk.injEq, List.cons.injEq, Value.agg.injEq, Value.int.injEq, Value.slice.injEq, and_true, true_and] at hv
        obtain ⟨⟨rfl, rfl, rfl, rfl, rfl, rfl⟩, rfl, rfl⟩ := hv
        have hbt : bd = true := by rw [hbd]; simp [he']
        subst hbt
        refine ⟨{ o with b := batch0 }, nilS, nilS, none, rfl, ⟨Row.nil .., hO9.topics, by simp [batch0], hO9.lt⟩, fun _ => ⟨ht, rfl⟩, rfl, ⟨0, true, h9, by omega, rfl⟩, N, fun a o' r hsa G hcc hd => ?_⟩
        rw [hst] at hsa
        cases bad with
        | true => cases hsa
        | false =>
          cases hsa
          rw [batA_put (G.b (ha_b G.k.1 G.k.2 hcc)) hd] at hbat
          cases hbat
      | some p =>
        obtain ⟨b', a'⟩ := p
        rw [hbat] at hv
        obtain ⟨rs', hv, hRow, hl16⟩ := hv
        rw [hve] at hv
        obtain ⟨pr, ep, sq, rl⟩ := b
        obtain ⟨ra, rn, rc⟩ := rs1
        obtain ⟨pr', ep', sq', rl'⟩ := b'
        obtain ⟨ra', rn', rc'⟩ := rs'
        simp only [PBatch.v, Value.tuple.injEq, Array.mk.injEq, List.cons.injEq, Value.agg.injEq, Value.int.injEq, Value.slice.injEq, and_true, true_and] at hv
        obtain ⟨⟨rfl, rfl, rfl, rfl, rfl, rfl⟩, rfl, rfl⟩ := hv
        have hle := batA_le (by omega) hbat
        have hR9 : Row w9 base 149 4 encR ra rn rc rl' := by
          refine (hRow.keep M9 fun ad ha hk => ?_).rebase (by omega)
          obtain ⟨hb1, cur, hcur⟩ := hRow.block ad ha
          have := (hN2 _ hk).1
          omega
        refine ⟨{ o with b := ⟨pr, ep, sq, rl'⟩ }, ⟨ra, rn, rc⟩, nilS, if bd then none else some a', rfl, ⟨hR9, hO9.topics, by show rl'.length ≤ _; simp at hl16; omega, hO9.lt⟩, fun _ => ⟨ht, rfl⟩, rfl, ⟨a', bd, h9, by omega, rfl⟩, N, fun a o' r hsa G hcc hd => ?_⟩
        rw [hst] at hsa
        cases bad with
        | true => cases hsa
        | false =>
          cases hsa
          rw [batA_put (G.b (ha_b G.k.1 G.k.2 hcc)) hd] at hbat
          simp only [Option.some.injEq, Prod.mk.injEq] at hbat
          obtain ⟨hb', rfl⟩ := hbat
          have : bd = false := by rw [hbd]; rfl
          subst this
          exact ⟨rfl, by rw [← hb']; rfl⟩
    refine ⟨fun b37 f37 w3 A3 => ?_, fun w3 A3 => ?_⟩
    · have l1 := A3.lt b1 (by simp)
      have l2 := A3.lt b2 (by simp)
      have l3 := A3.lt b37 (by simp)
      have s3 := A3.mod.size
      refine (R3Parse_ok s a0 hs ha0 w3).mono ?_
      rintro e w4 ⟨v, rfl, hv, M4⟩
      obtain ⟨b, rs1, x, e, rfl⟩ : ∃ (b : PBatch) (rs1 : Sl) (x e : Int), v = .tuple #[b.v rs1, .int .i64 x, .int .i64 e] := by
        cases hbat : batA s.data.toList a0 with
        | none => rw [hbat] at hv; obtain ⟨e, _, rfl⟩ := hv; exact ⟨batch0, nilS, _, _, rfl⟩
        | some p => rw [hbat] at hv; obtain ⟨rs', hv, _⟩ := hv; exact ⟨_, _, _, _, hv⟩
      refine ⟨_, _, _, _, _, _, _, _, rfl, Keep.of0 M4, brB_of (fun g w9 A9 h9 => tail A3 hv M4 (fun i hi => ?_) rfl A9.mod h9 (by rw [g]; rfl)) fun g w9 A9 h9 => tail A3 hv M4 (fun i hi => ?_) rfl A9.mod h9 (by rw [g]; rfl)⟩
      · simp at hi; omega
      · simp at hi; omega
    · have l1 := A3.lt b1 (by simp)
      have l2 := A3.lt b2 (by simp)
      have s3 := A3.mod.size
      refine (R3Parse_ok s a0 hs ha0 w3).mono ?_
      rintro e w4 ⟨v, rfl, hv, M4⟩
      obtain ⟨b, rs1, x, e, rfl⟩ : ∃ (b : PBatch) (rs1 : Sl) (x e : Int), v = .tuple #[b.v rs1, .int .i64 x, .int .i64 e] := by
        cases hbat : batA s.data.toList a0 with
        | none => rw [hbat] at hv; obtain ⟨e, _, rfl⟩ := hv; exact ⟨batch0, nilS, _, _, rfl⟩
        | some p => rw [hbat] at hv; obtain ⟨rs', hv, _⟩ := hv; exact ⟨_, _, _, _, hv⟩
      refine ⟨_, _, _, _, _, _, _, _, rfl, Keep.of0 M4, fun b60 f60 => brB_of (fun g w9 A9 h9 => tail A3 hv M4 (fun i hi => ?_) rfl A9.mod h9 (by rw [g]; rfl)) fun g w9 A9 h9 => tail A3 hv M4 (fun i hi => ?_) rfl A9.mod h9 (by rw [g]; rfl)⟩
      · simp at hi; omega
      · simp at hi; omega
  have g98 : c ≠ 98 := by simp at g; omega
  refine brB_of (fun g w3 A3 h3 => ?_) fun g => ?_
  · have g : c = 103 := by simp at g; omega
    subst g
    refine (Itext_ok (st := st) hs ⟨a0, bad, h3, ha0, hst⟩).mono ?_
    rintro e w4 ⟨v, rfl, x, rfl, M4, st4, ⟨a4, bad4, h4, ha4, hst4⟩, hq⟩
    refine ⟨_, rfl, kE M4, _, _, _, h4, fun w9 A9 h9 => ?_⟩
    have N := fin (x1 := 0) (t1 := true) (A3.mod.trans M4) A9
    have hO9 := keepO N
    refine ⟨{ o with g := x }, rs, nilS, st4, rfl, ⟨hO9.recs, hO9.topics, hO9.lr, hO9.lt⟩, fun _ => ⟨ht, rfl⟩, rfl, ⟨a4, bad4, h9, ha4, hst4⟩, N, fun a o' r hsa G hcc hd => ?_⟩
    have hn := (name_le (G.ng hcc)).1
    obtain ⟨e1, e2⟩ := st_out hq hsa (txtA_put (s := o'.g) hn (by omega) hd)
    exact ⟨e1, by rw [e2]; rfl⟩
  have g103 : c ≠ 103 := by simp at g; omega
  refine brB_of (fun g w3 A3 h3 => ?_) fun g => ?_
  · have g : c = 109 := by simp at g; omega
    subst g
    refine (Itext_ok (st := st) hs ⟨a0, bad, h3, ha0, hst⟩).mono ?_
    rintro e w4 ⟨v, rfl, x, rfl, M4, st4, ⟨a4, bad4, h4, ha4, hst4⟩, hq⟩
    refine ⟨_, rfl, kE M4, _, _, _, h4, fun w9 A9 h9 => ?_⟩
    have N := fin (x1 := 0) (t1 := true) (A3.mod.trans M4) A9
    have hO9 := keepO N
    refine ⟨{ o with m := x }, rs, nilS, st4, rfl, ⟨hO9.recs, hO9.topics, hO9.lr, hO9.lt⟩, fun _ => ⟨ht, rfl⟩, rfl, ⟨a4, bad4, h9, ha4, hst4⟩, N, fun a o' r hsa G hcc hd => ?_⟩
    have hn := (name_le (G.nm hcc)).1
    obtain ⟨e1, e2⟩ := st_out hq hsa (txtA_put (s := o'.m) hn (by omega) hd)
    exact ⟨e1, by rw [e2]; rfl⟩
  have g109 : c ≠ 109 := by simp at g; omega
  refine brB_of (fun g w3 A3 h3 => ?_) fun g => ?_
  · have g : c = 101 := by simp at g; omega
    subst g
    refine (Inum_ok (st := st) hs ⟨a0, bad, h3, ha0, hst⟩).mono ?_
    rintro e w4 ⟨v, rfl, x, rfl, hx, M4, st4, ⟨a4, bad4, h4, ha4, hst4⟩, hq⟩
    refine ⟨_, rfl, kE M4, _, _, _, h4, fun w9 A9 h9 => ?_⟩
    have N := fin (x1 := 0) (t1 := true) (A3.mod.trans M4) A9
    have hO9 := keepO N
    refine ⟨{ o with gen := x }, rs, nilS, st4, rfl, ⟨hO9.recs, hO9.topics, hO9.lr, hO9.lt⟩, fun _ => ⟨ht, rfl⟩, rfl, ⟨a4, bad4, h9, ha4, hst4⟩, N, fun a o' r hsa G hcc hd => ?_⟩
    obtain ⟨e1, e2⟩ := st_out hq hsa (numL_put G.nn.2.2.2 hd)
    exact ⟨e1, by rw [e2]; rfl⟩
  have g101 : c ≠ 101 := by simp at g; omega
  refine brB_of (fun g w3 A3 h3 => ?_) fun g => ?_
  · have g : c = 114 := by simp at g; omega
    subst g
    refine (Inum_ok (st := st) hs ⟨a0, bad, h3, ha0, hst⟩).mono ?_
    rintro e w4 ⟨v, rfl, x, rfl, hx, M4, st4, ⟨a4, bad4, h4, ha4, hst4⟩, hq⟩
    refine ⟨_, rfl, kE M4, _, _, _, h4, fun w9 A9 h9 => ?_⟩
    have N := fin (x1 := 0) (t1 := true) (A3.mod.trans M4) A9
    have hO9 := keepO N
    refine ⟨{ o with robin := x == 1 }, rs, nilS, st4, rfl, ⟨hO9.recs, hO9.topics, hO9.lr, hO9.lt⟩, fun _ => ⟨ht, rfl⟩, rfl, ⟨a4, bad4, h9, ha4, hst4⟩, N, fun a o' r hsa G hcc hd => ?_⟩
    have ef : ((flagN o'.robin : Nat) : Int).toNat = flagN o'.robin := by omega
    obtain ⟨e1, e2⟩ := st_out hq hsa (numL_put (x := (flagN o'.robin : Nat)) (by cases o'.robin <;> decide) (by rw [ef]; exact hd))
    rw [ef] at e1
    refine ⟨e1, ?_⟩
    rw [e2]
    show ({ o with robin := _ } : POp) = { o with robin := o'.robin }
    congr 1
    cases o'.robin <;> rfl
  have g114 : c ≠ 114 := by simp at g; omega
  have hc8 : c = 108 := by simp at hc; omega
  subst hc8
  intro w3 A3 h3
  have l1 := A3.lt b1 (by simp)
  have l2 := A3.lt b2 (by simp)
  have s3 := A3.mod.size
  refine (Inum_ok (st := st) hs ⟨a0, bad, h3, ha0, hst⟩).mono ?_
  rintro e w4 ⟨v, rfl, k, rfl, hk, M4, st4, ⟨a4, bad4, h4, ha4, hst4⟩, hq⟩
  have s4 := M4.size
  refine ⟨_, rfl, kE M4, _, _, _, h4, ?_⟩
  have N4 : Mod [br] w w4 := A3.mod.trans M4
  refine ref04_In_one_rule1 (fun mm i s0 x0 t0 ar nr cr w' => ∃ (j : Nat) (xs : List ByteArray) (a1 : Nat) (st1 : Option Nat), i = j ∧ xs.length = j ∧ j ≤ 9 ∧ s0 = s ∧ x0 = a1 ∧ a1 ≤ s.size ∧ (st1 = if t0 then none else some a1) ∧ Mod [br] w w' ∧ w4.heap.size ≤ w'.heap.size ∧
      Row w' w4.heap.size 9 1 encS ar nr cr xs ∧ (∀ (a : Nat) (o' : POp) (r : List UInt8), st = some a → OpGood o' → ha o'.kind 108 = true → s.data.toList.drop a = namesL o'.topics ++ r →
        k = (o'.topics.length : Nat) ∧ j ≤ o'.topics.length ∧ st1 = some (a + (vPutL o'.topics.length).length + ((o'.topics.take j).flatMap putT).length) ∧ xs = o'.topics.take j) ∧ mm = 9 - j) 9
    ⟨0, [], a4, st4, rfl, rfl, by omega, rfl, rfl, ha4, hst4, N4, Nat.le_refl _, Row.nil .., fun a o' r hsa G hcc hd => ?_, rfl⟩ ?_
  · have hd : s.data.toList.drop a = vPutL ((o'.topics.length : Nat) : Int).toNat ++ (o'.topics.flatMap putT ++ r) := by rw [hd, Int.toNat_natCast]; simp [namesL]
    have hl8 := (namesL_size (G.nl hcc)).1
    obtain ⟨e1, e2⟩ := st_out hq hsa (numL_put (by simp [num]; omega) hd)
    refine ⟨e2, by omega, by rw [e1, Int.toNat_natCast]; simp, by simp⟩
  rintro mm i s0 x0 t0 ar nr cr w5 ⟨j, xs, a1, st1, rfl, hxl, hj9, rfl, rfl, ha1, hst1, N5, s5, hRow, himp, rfl⟩ h5
  have done : ∀ {w9 : World}, Adv [b2] [] w5 w9 → w9.heap[br]? = some (.cells #[.string s0, .int .i64 (a1 : Nat), .bool t0] InT) → ((∀ (a : Nat) (o' : POp) (r : List UInt8), st = some a → OpGood o' → ha o'.kind 108 = true → s0.data.toList.drop a = namesL o'.topics ++ r → j = o'.topics.length)) →
      ∃ (o1 : POp) (rs1 ts1 : Sl) (st1 : Option Nat), Value.agg #[.int .i64 o.kind, .string o.part.t, .int .i64 o.part.n, .int .i64 o.n, .int .i64 o.off, .int .i64 o.b.prod, .int .i64 o.b.epoch, .int .i64 o.b.seq, .slice rs.a rs.n rs.c, .string o.g, .string o.m, .int .i64 o.gen, .bool o.robin, .slice ar nr cr] = o1.v rs1 ts1 ∧ OpOwn w9 base o1 rs1 ts1 ∧ (108 ≠ 108 → o1.topics = [] ∧ ts1 = nilS) ∧
      o1.kind = o.kind ∧ RdI s0 br st1 w9 ∧ Mod [br] w w9 ∧ (∀ (a : Nat) (o' : POp) (r : List UInt8), st = some a → OpGood o' → ha o'.kind 108 = true → s0.data.toList.drop a = oneL o' 108 ++ r → st1 = some (a + (oneL o' 108).length) ∧ o1 = setL o 108 o') := by
    intro w9 A9 h9 hfull
    have N : Mod [br] w w9 := (N5.trans A9.mod).less fun i hi hl => by simp at hi ⊢; omega
    have hO9 := keepO N
    have hR9 : Row w9 base 9 1 encS ar nr cr xs := by
      refine (hRow.keep A9.mod fun ad ha hk => ?_).rebase (by omega)
      have := hRow.base ad ha; simp at hk; omega
    refine ⟨{ o with topics := xs }, rs, ⟨ar, nr, cr⟩, st1, rfl, ⟨hO9.recs, hR9, hO9.lr, by show xs.length ≤ _; omega⟩, fun h => absurd rfl h, rfl, ⟨a1, t0, h9, ha1, hst1⟩, N, fun a o' r hsa G hcc hd => ?_⟩
    obtain ⟨e1, e2, e3, e4⟩ := himp a o' r hsa G hcc hd
    have ej := hfull a o' r hsa G hcc hd
    rw [ej, List.take_length] at e3 e4
    refine ⟨by rw [e3]; show some (_ : Nat) = some (a + (namesL o'.topics).length); congr 1; simp [namesL]; omega, by rw [e4]; rfl⟩
  refine brB_dec (fun hlt => ?_) fun hge => fun w9 A9 h9 => done A9 h9 fun a o' r hsa G hcc hd => ?_
  · refine brB_of (fun gb => ?_) fun gb => fun w9 A9 h9 => done A9 h9 fun a o' r hsa G hcc hd => ?_
    · have gb : t0 = false := by simpa using gb
      subst gb
      refine brB_dec (fun hl9 => ?_) fun hg9 => fun w9 A9 h9 => done A9 h9 fun a o' r hsa G hcc hd => ?_
      · intro w6 A6 h6
        have s6 := A6.mod.size
        refine (Itext_ok (st := st1) hs ⟨a1, false, h6, ha1, hst1⟩).mono ?_
        rintro e w7 ⟨v, rfl, x, rfl, M7, st7, ⟨a7, bad7, h7, ha7, hst7⟩, hq7⟩
        have s7 := M7.size
        refine ⟨_, rfl, kE M7, _, _, _, h7, rfl, ?_⟩
        refine al_of fun b8 w8 c8 M8 f8 => ?_
        have s8 := M8.size
        have K8 : Mod [br] w5 w8 := ((A6.mod.trans M7).trans M8).less fun i hi hl => by simp at hi ⊢; omega
        have hR8 : Row w8 w4.heap.size 9 1 encS ar nr cr xs := hRow.keep K8 fun ad ha hk => by have := hRow.base ad ha; simp at hk; omega
        obtain ⟨i0, hi, hz0, hz1, hz2⟩ := info_parts infoS
        refine append_of (x := x) hR8 Tryz.underlying36 hi hz0 hz1 hz2 rfl (by decide) c8 rfl (encS_one1 _) (by omega) (by unfold maxLen; omega) (by omega) fun a' c' w9 hR9 hM9 => ?_
        have M9 := hM9 _ (rowS_ok ar)
        have s9 := M9.size
        have hrow := rowS_block hRow
        refine ⟨Keep.of M9 fun b hb _ hb' => ?_, ?_⟩
        · have := hrow b hb'; simp at hb; omega
        intro w10 A10 h10
        have s10 := A10.mod.size
        refine ref04_In_one_leaf1 (9 - (j + 1)) (by omega) ⟨j + 1, xs ++ [x], a7, st7, by rw [wrap_id (by omega) (by omega)]; omega, by rw [List.length_append, hxl]; rfl, by omega, rfl, rfl, ha7, hst7, ?_, by omega, ?_, fun a o' r hsa G hcc hd => ?_, rfl⟩
        · refine (((N5.trans K8).trans M9).trans A10.mod).less fun i hi hl => ?_
          simp only [List.mem_append, List.mem_singleton] at hi ⊢
          rcases hi with ((h | h) | h) | h
          · exact h
          · exact h
          · have := hrow i h; omega
          · omega
        · refine hR9.keep A10.mod fun ad ha hk => ?_
          have := hR9.base ad ha; simp at hk; omega
        · obtain ⟨e1, e2, e3, e4⟩ := himp a o' r hsa G hcc hd
          have hlt' : j < o'.topics.length := by omega
          obtain ⟨y, hy⟩ : ∃ y, o'.topics[j]? = some y := ⟨_, List.getElem?_eq_getElem hlt'⟩
          have hy16 := (namesL_size (G.nl hcc)).2 y (List.mem_of_getElem? hy)
          have hsplit : o'.topics.flatMap putT = (o'.topics.take j).flatMap putT ++ (putT y ++ (o'.topics.drop (j + 1)).flatMap putT) := by
            conv => lhs; rw [← List.take_append_drop j o'.topics]
            rw [List.flatMap_append]
            congr 1
            obtain ⟨hl, he⟩ := List.getElem?_eq_some_iff.1 hy
            rw [List.drop_eq_getElem_cons hl, he, List.flatMap_cons]
          have hd2 : s0.data.toList.drop a = vPutL o'.topics.length ++ ((o'.topics.take j).flatMap putT ++ (putT y ++ ((o'.topics.drop (j + 1)).flatMap putT ++ r))) := by
            rw [hd, namesL, hsplit]; simp
          have hd3 := drop_of (drop_of hd2)
          obtain ⟨e5, e6⟩ := st_out hq7 e3 (txtA_put (s := y) hy16 (by omega) hd3)
          refine ⟨e1, by omega, ?_, ?_⟩
          · rw [e5, take_flat hy, List.length_append]; congr 1; omega
          · rw [e4, e6, List.take_add_one, hy]; rfl
      · obtain ⟨e1, e2, e3, e4⟩ := himp a o' r hsa G hcc hd
        have := (namesL_size (G.nl hcc)).1
        omega
    · have gb : t0 = true := by simpa using gb
      obtain ⟨e1, e2, e3, e4⟩ := himp a o' r hsa G hcc hd
      rw [hst1, gb] at e3; cases e3
  · obtain ⟨e1, e2, e3, e4⟩ := himp a o' r hsa G hcc hd
    omega
theorem setAll {o : POp} (G : OpGood o) : (hasL o.kind).foldl (fun x c => setL x c o) (op0k o.kind) = o := by
  obtain ⟨hk, ⟨n1, n2, n3, n4⟩, hT, hG, hMm, hL, hb, ho⟩ := G
  obtain ⟨kd, pt, n, off, b, g, m, gen, robin, topics⟩ := o
  simp only at hk hT hG hMm hL hb n1 n2 n3 n4
  have hk : kd = 0 ∨ kd = 1 ∨ kd = 2 ∨ kd = 3 ∨ kd = 4 ∨ kd = 5 ∨ kd = 6 ∨ kd = 7 ∨ kd = 8 ∨ kd = 9 ∨ kd = 10 ∨ kd = 11 ∨ kd = 12 := by omega
  obtain ⟨pt, pn⟩ := pt
  rcases hk with rfl | rfl | rfl | rfl | rfl | rfl | rfl | rfl | rfl | rfl | rfl | rfl | rfl
  all_goals
    simp [onlyB, ha, hasL, emptyB_iff, and_assoc] at ho
    simp [hasL, setL, op0k, ho]
theorem hasS_last {k : Int} (h0 : 0 ≤ k) (h1 : k ≤ 12) {i : Nat} (h : (hasL k)[i]? = some 108) : i + 1 = (hasL k).length := by
  have hi := (List.getElem?_eq_some_iff.1 h).1
  have hl : (hasL k).length ≤ 5 := by have := hasS_size h0 h1; rwa [hasS_len] at this
  rcases kind_cases h0 h1 with rfl | rfl | rfl | rfl | rfl | rfl | rfl | rfl | rfl | rfl | rfl | rfl | rfl <;>
    (have h5 : i = 0 ∨ i = 1 ∨ i = 2 ∨ i = 3 ∨ i = 4 := by omega
     rcases h5 with rfl | rfl | rfl | rfl | rfl <;> simp [hasL] at h ⊢)
theorem OpOwn.keepD {S : List Nat} {w w' : World} {base : Nat} {o : POp} {rs ts : Sl} (h : OpOwn w base o rs ts) (M : Mod S w w') (hS : ∀ k ∈ S, k < base) : OpOwn w' base o rs ts :=
  ⟨h.recs.keep M fun ad ha hk => by have := h.recs.base ad ha; have := hS _ hk; omega, h.topics.keep M fun ad ha hk => by have := h.topics.base ad ha; have := hS _ hk; omega, h.lr, h.lt⟩
theorem op0k_own (w : World) (base : Nat) (k : Int) : OpOwn w base (op0k k) nilS nilS := ⟨Row.nil .., Row.nil .., by simp [op0k, batch0], by simp [op0k]⟩
set_option maxHeartbeats 4000000 in
set_option maxRecDepth 20000 in
theorem R4Get_ok {s : ByteArray} (hs : s.size ≤ 900000) (w : World) :
    Calls Tryz.prog 139 #[.string s] w fun e w' => ∃ v, e = .returned v ∧ GetOV w w' (getO s) v ∧ Mod [] w w' := by
  refine ref04_Get_go ?_
  intro b1 f1 b2 f2 w3 A3 h3
  have l1 := A3.lt b1 (by simp)
  have l2 := A3.lt b2 (by simp)
  have s3 := A3.mod.size
  refine (Inum_ok (st := some 0) (by omega) ⟨0, false, h3, by omega, rfl⟩).mono ?_
  rintro e w4 ⟨v, rfl, k, rfl, hk, M4, st4, ⟨a4, bad4, h4, ha4, hst4⟩, hq⟩
  have s4 := M4.size
  refine ⟨_, rfl, Keep.ofE M4 fun k hk hl he => he, _, _, _, h4, ?_⟩
  have N4 : Mod [] w w4 := (A3.mod.trans M4).new fun i hi => by simp at hi; omega
  have canon : ∀ {o : POp}, opE o = 0 → s = bs (opB o) → o.kind = k ∧ st4 = some (vPutL o.kind.toNat).length := fun {o} he hso => by
    have G := OpGood.of he
    have hk := G.k
    obtain ⟨e1, e2⟩ := st_out (a := 0) hq rfl (numL_put (r := opBody o) (x := o.kind) (by simp [num]; omega) (by rw [hso, bs_data]; rfl))
    exact ⟨e2.symm, by rw [e1]; simp⟩
  have bad : ∀ {w' : World}, Mod [] w w' → (¬ ∃ o, opE o = 0 ∧ s = bs (opB o)) → (GetOV w w' (getO s) (op0.v nilS nilS |> fun x => .tuple #[x, .int .i64 40])) ∧ Mod [] w w' := fun M hn => ⟨by rw [getO_none hn]; rfl, M⟩
  have hk := num_le hk
  intro b9 f9
  refine brB_of (fun g w5 A5 h5 => bad (N4.go0 A5.mod (by simp; omega)) ?_) fun g => ?_
  · rintro ⟨o, he, hso⟩
    have := (canon he hso).2
    rw [hst4, g] at this; cases this
  have g : bad4 = false := g
  subst g
  refine brB_dec (fun g w5 A5 h5 => bad (N4.go0 A5.mod (by simp; omega)) ?_) fun g => ?_
  · rintro ⟨o, he, hso⟩
    have := (canon he hso).1
    have := (OpGood.of he).k
    omega
  have k0 : 0 ≤ k := hk.1
  have k1 : k ≤ 12 := by omega
  intro w5 A5 h5
  have l9 := A5.lt b9 (by simp)
  have s5 := A5.mod.size
  refine (has_ok k0 k1 w5).mono ?_
  rintro _ w6 ⟨rfl, M6⟩
  have s6 := M6.size
  have h6 := M6.keep0 h5
  refine ⟨_, rfl, Keep.of0 M6, _, _, _, h6, ?_⟩
  have N6 : Mod [] w w6 := (N4.go0 A5.mod (by simp)).go0 M6 (by simp)
  have hlen := hasS_len (k := k)
  have hsz5 := hasS_size k0 k1
  refine ref04_Get_rule1 (fun mm x7 s0 x1 t2 y0 y1 y2 y3 y4 y5 y6 y7 ra rn rc y9 y10 y11 y12 ta tn tc w' => ∃ (i : Nat) (o : POp) (rs ts : Sl) (a1 : Nat) (st1 : Option Nat), x7 = i ∧ i ≤ (hasS k).size ∧ s0 = s ∧ x1 = a1 ∧ a1 ≤ s.size ∧ (st1 = if t2 then none else some a1) ∧
      y0 = o.kind ∧ y1 = o.part.t ∧ y2 = o.part.n ∧ y3 = o.n ∧ y4 = o.off ∧ y5 = o.b.prod ∧ y6 = o.b.epoch ∧ y7 = o.b.seq ∧ ra = rs.a ∧ rn = rs.n ∧ rc = rs.c ∧ y9 = o.g ∧ y10 = o.m ∧ y11 = o.gen ∧ y12 = o.robin ∧ ta = ts.a ∧ tn = ts.n ∧ tc = ts.c ∧
      OpOwn w' w6.heap.size o rs ts ∧ (i < (hasS k).size → o.topics = [] ∧ ts = nilS) ∧ o.kind = k ∧ Mod [] w w' ∧ w6.heap.size ≤ w'.heap.size ∧
      (∀ o', opE o' = 0 → s = bs (opB o') → st1 = some (vPutL o'.kind.toNat ++ ((hasL k).take i).flatMap (oneL o')).length ∧ o = ((hasL k).take i).foldl (fun x c => setL x c o') (op0k k)) ∧ mm = (hasS k).size - i) (hasS k).size
    ⟨0, op0k k, nilS, nilS, a4, st4, rfl, by omega, rfl, rfl, ha4, hst4, rfl, rfl, rfl, rfl, rfl, rfl, rfl, rfl, rfl, rfl, rfl, rfl, rfl, rfl, rfl, rfl, rfl, rfl, op0k_own _ _ _, fun _ => ⟨rfl, rfl⟩, rfl, N6, Nat.le_refl _, fun o' he hso => ⟨by rw [(canon he hso).2]; simp, rfl⟩, rfl⟩ ?_
  rintro mm x7 s0 x1 t2 y0 y1 y2 y3 y4 y5 y6 y7 ra rn rc y9 y10 y11 y12 ta tn tc w7 ⟨i, o, rs, ts, a1, st1, rfl, hi, rfl, rfl, ha1, hst1, rfl, rfl, rfl, rfl, rfl, rfl, rfl, rfl, rfl, rfl, rfl, rfl, rfl, rfl, rfl, rfl, rfl, rfl, hO, hts, hok, N7, s7, himp, rfl⟩ h7
  -- what is left to do, when all is read
  have fin : (t2 = true ∨ i = (hasS k).size) → Calls Tryz.prog 84 #[o.v rs ts] w7 fun e w43 => ∃ s44 : ByteArray, ∃ x45 : Int, e = .returned (.tuple #[(.string s44), (.int .i64 x45)]) ∧ KeepE [b2] [(b1, 38), (b9, 38)] [b1, b9] w7 w43 ∧ ∃ s46 : ByteArray, ∃ x47 : Int, ∃ t48 : Bool, w43.heap[b2]? = some (.cells #[(.string s46), (.int .i64 x47), (.bool t48)] InT) ∧
      brB t48 (
        ∀ w49, Adv [b1] [] w43 w49 → w49.heap[b2]? = some (.cells #[(.string s46), (.int .i64 x47), (.bool t48)] InT) →
        GetOV w w49 (getO s0) (.tuple #[op0.v nilS nilS, (.int .i64 40)]) ∧ Mod [] w w49)
      (
        brB (x45 != 0) (
          ∀ w50, Adv [b1] [] w43 w50 → w50.heap[b2]? = some (.cells #[(.string s46), (.int .i64 x47), (.bool t48)] InT) →
          GetOV w w50 (getO s0) (.tuple #[op0.v nilS nilS, (.int .i64 40)]) ∧ Mod [] w w50)
        (
          brB (!(s44.toList == s0.toList)) (
            ∀ w51, Adv [b1] [] w43 w51 → w51.heap[b2]? = some (.cells #[(.string s46), (.int .i64 x47), (.bool t48)] InT) →
            GetOV w w51 (getO s0) (.tuple #[op0.v nilS nilS, (.int .i64 40)]) ∧ Mod [] w w51)
          (
            ∀ w52, Adv [b1] [] w43 w52 → w52.heap[b2]? = some (.cells #[(.string s46), (.int .i64 x47), (.bool t48)] InT) →
            GetOV w w52 (getO s0) (.tuple #[o.v rs ts, (.int .i64 0)]) ∧ Mod [] w w52))) := by
    intro hcase
    refine (R4Put_ok hO.at).mono ?_
    rintro _ w8 ⟨rfl, M8⟩
    have N8 := N7.go0 M8 (by simp)
    have s8 := M8.size
    have last : ∀ {w9 : World}, Adv [b1] [] w8 w9 → Mod [] w w9 := fun A9 => N8.go0 A9.mod (by simp; omega)
    have full : ∀ o', opE o' = 0 → s0 = bs (opB o') → t2 = false ∧ o = o' := fun o' he hso => by
      obtain ⟨e1, e2⟩ := himp o' he hso
      have ht2 : t2 = false := by
        cases t2 with
        | true => rw [hst1] at e1; cases e1
        | false => rfl
      refine ⟨ht2, ?_⟩
      have hi2 : i = (hasL k).length := by
        rcases hcase with h | h
        · rw [ht2] at h; cases h
        · rw [h, hlen]
      rw [hi2, List.take_length] at e2
      have ek := (canon he hso).1
      rw [e2, ← ek]
      exact setAll (OpGood.of he)
    refine ⟨_, _, rfl, Keep.of0 M8, _, _, _, M8.keep0 h7, ?_⟩
    refine brB_of (fun g w9 A9 h9 => bad (last A9) ?_) fun g => ?_
    · rintro ⟨o', he, hso⟩
      rw [(full o' he hso).1] at g; cases g
    refine brB_of (fun g2 w9 A9 h9 => bad (last A9) ?_) fun g2 => ?_
    · rintro ⟨o', he, hso⟩
      rw [(full o' he hso).2, he] at g2; simp at g2
    have g2 : opE o = 0 := by simpa using g2
    rw [if_pos g2]
    refine brB_of (fun g3 w9 A9 h9 => bad (last A9) ?_) fun g3 w9 A9 h9 => ?_
    · rintro ⟨o', he, hso⟩
      rw [(full o' he hso).2, ← hso] at g3; simp at g3
    · have g3 : bs (opB o) = s0 := toList_inj.1 (by simpa using g3)
      refine ⟨?_, last A9⟩
      rw [getO_iff.2 ⟨g2, g3.symm⟩]
      refine ⟨rs, ts, rfl, ?_⟩
      exact ((hO.keep0 M8).keepD A9.mod (fun k hk => by simp at hk; omega)).rebase (by omega)
  refine brB_dec (fun hlt => ?_) fun hge => fin (.inr (by omega))
  refine brB_of (fun gb => ?_) fun gb => fin (.inl (by simpa using gb))
  have gb : t2 = false := by simpa using gb
  subst gb
  obtain ⟨c, hc1, hc2, hc3⟩ := hasS_at k0 k1 (i := i) (by omega)
  refine ⟨by omega, by omega, ?_⟩
  rw [Int.toNat_natCast, hc2]
  intro w8 A8 h8
  have s8 := A8.mod.size
  obtain ⟨ht, rfl⟩ := hts (by omega)
  refine (Ione_ok (st := st1) (o := o) (rs := rs) (by omega) ⟨a1, false, h8, ha1, hst1⟩ (hO.keep0 A8.mod) ht (by omega) (ha_list k0 k1 hc3)).mono ?_
  rintro _ w9 ⟨v, rfl, o1, rs1, ts1, st9, rfl, hO9, hts9, hk9, ⟨a9, bad9, h9, ha9, hst9⟩, M9, himp9⟩
  have s9 := M9.size
  refine ⟨_, _, _, _, _, _, _, _, _, _, _, _, _, _, _, _, _, _, rfl, Keep.ofE M9 fun k hk hl he => he, _, _, _, h9, ?_⟩
  intro w10 A10 h10
  have s10 := A10.mod.size
  have N10 : Mod [] w w10 := (((N7.trans A8.mod).trans M9).trans A10.mod).new fun i hi => by simp at hi; omega
  refine ref04_Get_leaf1 ((hasS k).size - (i + 1)) (by omega) ⟨i + 1, o1, rs1, ts1, a9, st9, by rw [wrap_id (by omega) (by omega)]; omega, by omega, rfl, rfl, ha9, hst9, rfl, rfl, rfl, rfl, rfl, rfl, rfl, rfl, rfl, rfl, rfl, rfl, rfl, rfl, rfl, rfl, rfl, rfl, ?_, fun hi1 => hts9 fun h108 => ?_, by rw [hk9, hok], N10, by omega, fun o' he hso => ?_, rfl⟩
  · exact hO9.keepD A10.mod (fun k hk => by simp at hk; omega)
  · subst h108
    have := hasS_last k0 k1 hc1
    omega
  · obtain ⟨e1, e2⟩ := himp o' he hso
    have ek := (canon he hso).1
    have G := OpGood.of he
    have hsplit : (hasL k).flatMap (oneL o') = ((hasL k).take i).flatMap (oneL o') ++ (oneL o' c ++ ((hasL k).drop (i + 1)).flatMap (oneL o')) := by
      conv => lhs; rw [← List.take_append_drop i (hasL k)]
      rw [List.flatMap_append]
      congr 1
      obtain ⟨hl, he⟩ := List.getElem?_eq_some_iff.1 hc1
      rw [List.drop_eq_getElem_cons hl, he, List.flatMap_cons]
    have hd : s0.data.toList.drop (vPutL o'.kind.toNat ++ ((hasL k).take i).flatMap (oneL o')).length = oneL o' c ++ ((hasL k).drop (i + 1)).flatMap (oneL o') := by
      rw [hso, bs_data, opB, opBody_letters G.k.1 G.k.2, ek, hsplit, ← List.append_assoc, List.drop_left']
      rfl
    obtain ⟨e3, e4⟩ := himp9 _ o' _ e1 G (by rw [ek]; exact hc3) hd
    refine ⟨by rw [e3, take_flat hc1]; simp only [List.length_append]; congr 1; omega, ?_⟩
    rw [e4, e2, List.take_add_one, hc1, List.foldl_append]
    rfl
end Go.Proofs.YtohgihgddknmmaaGreat

/- The reference's reader of calls; OplogTexts. -/
namespace Go.Proofs.YtohgihgddknmmaaGreat
open Go Go.RowKit
set_option linter.unusedVariables false
set_option linter.unusedSimpArgs false

set_option maxHeartbeats 2000000 in
set_option maxRecDepth 20000 in
theorem R16one_ok {s : ByteArray} (hs : s.size ≤ 900000) (w : World) :
    Calls Tryz.prog 92 #[.string s] w fun e w' => ∃ v, e = .returned v ∧ ∃ (x : PCall) (rs ts : Sl) (b : Bool), v = .tuple #[(⟨x, rs, ts⟩ : CV).v, .bool b] ∧ OpOwn w' w.heap.size x.op rs ts ∧ Mod [] w w' ∧
      (∀ x', oddC x' = false → opE x'.op = 0 → s = bs (callR x') → b = true ∧ x = x') := by
  refine ref16_one_go ?_
  intro b1 f1 w2 A2
  have l1 := A2.lt b1 (by simp)
  have s2 := A2.mod.size
  have el : s.data.toList.length = s.size := by simp
  have bad : ∀ {w' : World}, Mod [] w w' → (∀ x', oddC x' = false → opE x'.op = 0 → s = bs (callR x') → False) → ∃ (x : PCall) (rs ts : Sl) (b : Bool), Value.tuple #[(⟨call0, nilS, nilS⟩ : CV).v, .bool false] = .tuple #[(⟨x, rs, ts⟩ : CV).v, .bool b] ∧ OpOwn w' w.heap.size x.op rs ts ∧ Mod [] w w' ∧
      (∀ x', oddC x' = false → opE x'.op = 0 → s = bs (callR x') → b = true ∧ x = x') := fun {w'} M hn => ⟨call0, nilS, nilS, false, rfl, op0_own w' _, M, fun x' h1 h2 h3 => (hn x' h1 h2 h3).elim⟩
  have can0 : ∀ x', oddC x' = false → opE x'.op = 0 → s = bs (callR x') → s.data.toList.drop 0 = vPutL x'.c.toNat ++ (vPutL x'.n.toNat ++ (putT (bs (opB x'.op)) ++ [])) := fun x' h1 h2 h3 => by
    rw [h3, bs_data]; simp [callR]
  refine (R1Get_ok s 0 (by omega) (by omega) w2).mono ?_
  rintro e w3 ⟨v, rfl, hv, rfl⟩
  obtain ⟨n, b, e, rfl, hor⟩ := hv.out
  refine ⟨_, _, _, rfl, Keep.of0 (Mod.refl _), ?_⟩
  have c1 : ∀ x', oddC x' = false → opE x'.op = 0 → s = bs (callR x') → numA s.data.toList 0 = some (x'.c.toNat, 0 + (vPutL x'.c.toNat).length) := fun x' h1 h2 h3 => numA_put (by have := oddC_out h1; omega) (can0 x' h1 h2 h3)
  rcases hor with ⟨rfl, m, rfl, hg⟩ | ⟨he, hg⟩
  rotate_left
  · rw [show (e != 0) = true by simpa using he]
    intro w7 A7
    refine bad (A2.mod.go0 A7.mod (by simp; omega)) fun x' h1 h2 h3 => ?_
    have := c1 x' h1 h2 h3
    unfold numA at this; rw [hg] at this; cases this
  rw [show ((0 : Int) != 0) = false from rfl, brB_false]
  have en : numA s.data.toList 0 = some (n, 0 + m) := by unfold numA; rw [hg]; rfl
  have hm := numA_le en
  refine brB_dec (fun g w7 A7 => bad (A2.mod.go0 A7.mod (by simp; omega)) fun x' h1 h2 h3 => ?_) fun g => ?_
  · have := c1 x' h1 h2 h3
    rw [en] at this
    have := oddC_out h1
    simp at *; omega
  refine (R1Get_ok s (0 + m) (by omega) (by omega) w3).mono ?_
  rintro e w4 ⟨v, rfl, hv, rfl⟩
  obtain ⟨n2, b, e, rfl, hor⟩ := hv.out
  refine ⟨_, _, _, rfl, Keep.of0 (Mod.refl _), ?_⟩
  have c2 : ∀ x', oddC x' = false → opE x'.op = 0 → s = bs (callR x') → x'.c.toNat = n ∧ numA s.data.toList (0 + m) = some (x'.n.toNat, 0 + m + (vPutL x'.n.toNat).length) ∧ s.data.toList.drop (0 + m) = vPutL x'.n.toNat ++ (putT (bs (opB x'.op)) ++ []) := fun x' h1 h2 h3 => by
    have h4 := c1 x' h1 h2 h3
    rw [en] at h4
    simp only [Option.some.injEq, Prod.mk.injEq] at h4
    have hd := drop_of (can0 x' h1 h2 h3)
    rw [← h4.2] at hd
    exact ⟨h4.1.symm, numA_put (by have := oddC_out h1; omega) hd, hd⟩
  rcases hor with ⟨rfl, m2, rfl, hg2⟩ | ⟨he, hg2⟩
  rotate_left
  · rw [show (e != 0) = true by simpa using he]
    intro w7 A7
    refine bad (A2.mod.go0 A7.mod (by simp; omega)) fun x' h1 h2 h3 => ?_
    have := (c2 x' h1 h2 h3).2.1
    unfold numA at this; rw [hg2] at this; cases this
  rw [show ((0 : Int) != 0) = false from rfl, brB_false]
  have en2 : numA s.data.toList (0 + m) = some (n2, 0 + m + m2) := by unfold numA; rw [hg2]; rfl
  have hm2 := numA_le en2
  refine brB_dec (fun g w7 A7 => bad (A2.mod.go0 A7.mod (by simp; omega)) fun x' h1 h2 h3 => ?_) fun g2 => ?_
  · have := (c2 x' h1 h2 h3).2.1
    rw [en2] at this
    have := oddC_out h1
    simp at *; omega
  refine (R1GetText_ok s (0 + m + m2) 65536 (by omega) (by omega) (by omega) w4).mono ?_
  rintro e w5 ⟨v, rfl, hv, rfl⟩
  obtain ⟨t, bt, et, rfl, hor⟩ := hv.out
  refine ⟨_, _, _, rfl, Keep.of0 (Mod.refl _), ?_⟩
  have ht : t.size ≤ 900000 := by
    rcases hor with ⟨_, m3, _, hg3⟩ | ⟨_, _, rfl, _⟩
    · have := tg_len hg3; omega
    · decide
  refine (R4Get_ok (s := t) ht w5).mono ?_
  rintro _ w6 ⟨v, rfl, hv, M6⟩
  have s6 := M6.size
  obtain ⟨o, rs, ts, eo, rfl, hO, heo⟩ : ∃ (o : POp) (rs ts : Sl) (eo : Int), v = .tuple #[o.v rs ts, .int .i64 eo] ∧ OpOwn w6 w5.heap.size o rs ts ∧ (∀ o', getO t = some o' → eo = 0 ∧ o = o') := by
    cases hg : getO t with
    | none => rw [hg] at hv; exact ⟨op0, nilS, nilS, 40, hv, op0_own _ _, fun _ h => by cases h⟩
    | some o => rw [hg] at hv; obtain ⟨rs, ts, hv, hO⟩ := hv; exact ⟨o, rs, ts, 0, hv, hO, fun _ h => by cases h; exact ⟨rfl, rfl⟩⟩
  refine ⟨_, _, _, _, _, _, _, _, _, _, _, _, _, _, _, _, _, _, _, rfl, Keep.of0 M6, ?_⟩
  intro b7 f7
  rw [wrap_id (x := ((n : Nat) : Int)) (by omega) (by omega), wrap_id (x := ((n2 : Nat) : Int)) (by omega) (by omega)]
  have N6 : Mod [] w w6 := A2.mod.go0 M6 (by simp)
  have c3 : ∀ x', oddC x' = false → opE x'.op = 0 → s = bs (callR x') → x'.n.toNat = n2 ∧ et = 0 ∧ eo = 0 ∧ o = x'.op ∧ bt = (s.size : Int) := fun x' h1 h2 h3 => by
    obtain ⟨q1, q2, q3⟩ := c2 x' h1 h2 h3
    rw [en2] at q2
    simp only [Option.some.injEq, Prod.mk.injEq] at q2
    have hd := drop_of q3
    rw [← q2.2] at hd
    have lo := opB_len (OpGood.of h2)
    have ht := tg_put (lim := 65536) (bs (opB x'.op)) [] (by rw [bs_size]; omega) (by rw [bs_size]; omega)
    rw [← hd] at ht
    rcases hor with ⟨e0, m3, rfl, hg3⟩ | ⟨_, hg3, _, _⟩
    · rw [hg3] at ht
      simp only [Option.some.injEq, Prod.mk.injEq] at ht
      obtain ⟨rfl, rfl⟩ := ht
      obtain ⟨r1, r2⟩ := heo _ (getO_put h2)
      refine ⟨q2.1.symm, e0, r1, r2, ?_⟩
      have hl := congrArg List.length hd
      rw [List.length_drop, List.length_append] at hl
      simp at hl
      have := putT_len (bs (opB x'.op)) (by rw [bs_size]; omega)
      omega
    · rw [hg3] at ht; cases ht
  have last : ∀ {w7 : World} (bb : Bool), Adv [b1] [b7] w6 w7 → (∀ x', oddC x' = false → opE x'.op = 0 → s = bs (callR x') → bb = true) → ∃ (x : PCall) (rs' ts' : Sl) (b : Bool), Value.tuple #[(⟨⟨(n : Nat), (n2 : Nat), o⟩, rs, ts⟩ : CV).v, .bool bb] = .tuple #[(⟨x, rs', ts'⟩ : CV).v, .bool b] ∧ OpOwn w7 w.heap.size x.op rs' ts' ∧ Mod [] w w7 ∧
      (∀ x', oddC x' = false → opE x'.op = 0 → s = bs (callR x') → b = true ∧ x = x') := fun {w7} bb A7 hbb => by
    refine ⟨_, rs, ts, bb, rfl, (hO.keepD A7.mod (fun k hk => by simp at hk; omega)).rebase (by omega), N6.go0 A7.mod (by simp; omega), fun x' h1 h2 h3 => ⟨hbb x' h1 h2 h3, ?_⟩⟩
    obtain ⟨r1, r2, r3, r4, r5⟩ := c3 x' h1 h2 h3
    obtain ⟨q1, _, _⟩ := c2 x' h1 h2 h3
    have := oddC_out h1
    obtain ⟨c', n', o'⟩ := x'
    simp only at q1 r1 r4 this
    rw [r4]
    congr 1 <;> omega
  refine brB_of (fun g3 => brB_of (fun g4 w7 A7 => last _ A7 fun x' h1 h2 h3 => ?_) fun g4 w7 A7 => last _ A7 fun x' h1 h2 h3 => ?_) fun g3 w7 A7 => last _ A7 fun x' h1 h2 h3 => ?_
  · obtain ⟨r1, r2, r3, r4, r5⟩ := c3 x' h1 h2 h3
    rw [r5]; simp
  · obtain ⟨r1, r2, r3, r4, r5⟩ := c3 x' h1 h2 h3
    rw [r3] at g4; simp at g4
  · obtain ⟨r1, r2, r3, r4, r5⟩ := c3 x' h1 h2 h3
    rw [r2] at g3; simp at g3
theorem parseO_none {s : ByteArray} (h : ¬ ∃ xs, textE xs = 0 ∧ s = bs (textB xs)) : parseO s = none := by
  cases hg : parseO s with
  | none => rfl
  | some o => exact absurd ⟨o, parseO_iff.1 hg⟩ h
set_option maxHeartbeats 2000000 in
set_option maxRecDepth 20000 in
theorem R16Parse_ok {s : ByteArray} (hs : s.size ≤ 900000) (w : World) :
    Calls Tryz.prog 34 #[.string s] w fun e w' => ∃ v, e = .returned v ∧ ParseCV w w' (parseO s) v ∧ Mod [] w w' := by
  have el : s.data.toList.length = s.size := by simp
  refine ref16_Parse_go ?_
  have bad : ∀ {w' : World}, Mod [] w w' → (∀ xs, textE xs = 0 → s = bs (textB xs) → False) → ParseCV w w' (parseO s) (.tuple #[.slice none 0 0, .int .i64 162]) ∧ Mod [] w w' := fun M hn => ⟨by rw [parseO_none fun ⟨xs, h1, h2⟩ => hn xs h1 h2]; rfl, M⟩
  have can0 : ∀ xs, textE xs = 0 → s = bs (textB xs) → s.data.toList.drop 0 = vPutL xs.length ++ (xs.flatMap callB ++ []) := fun xs h1 h2 => by rw [h2, bs_data]; simp [textB]
  refine (R1Get_ok s 0 (by omega) (by omega) w).mono ?_
  rintro e w1 ⟨v, rfl, hv, rfl⟩
  obtain ⟨n, b, e, rfl, hor⟩ := hv.out
  refine ⟨_, _, _, rfl, ?_⟩
  have c1 : ∀ xs, textE xs = 0 → s = bs (textB xs) → numA s.data.toList 0 = some (xs.length, 0 + (vPutL xs.length).length) := fun xs h1 h2 => numA_put (by have := (textE_out h1).1; omega) (can0 xs h1 h2)
  rcases hor with ⟨rfl, m, rfl, hg⟩ | ⟨he, hg⟩
  rotate_left
  · rw [show (e != 0) = true by simpa using he]
    refine bad (Mod.refl _) fun xs h1 h2 => ?_
    have := c1 xs h1 h2
    unfold numA at this; rw [hg] at this; cases this
  rw [show ((0 : Int) != 0) = false from rfl, brB_false]
  have en : numA s.data.toList 0 = some (n, 0 + m) := by unfold numA; rw [hg]; rfl
  have hm := numA_le en
  refine brB_dec (fun g => bad (Mod.refl _) fun xs h1 h2 => ?_) fun g => ?_
  · have := c1 xs h1 h2
    rw [en] at this
    have := (textE_out h1).1
    simp at *; omega
  refine al_of fun b5 w6 c6 M6 f6 => ?_
  have s6 := M6.size
  refine ref16_Parse_rule1 (fun mm x5 ar nr cr x8 w' => ∃ (j : Nat) (ll : List CV) (a1 : Nat), x8 = j ∧ ll.length = j ∧ j ≤ n ∧ x5 = a1 ∧ a1 ≤ s.size ∧ Mod [] w1 w' ∧ w1.heap.size ≤ w'.heap.size ∧ Row w' w1.heap.size 57 16 CV.cs ar nr cr ll ∧ (∀ q ∈ ll, OpOwn w' w1.heap.size q.x.op q.rs q.ts) ∧
      (∀ xs, textE xs = 0 → s = bs (textB xs) → n = xs.length ∧ a1 = (vPutL n ++ (xs.take j).flatMap callB).length ∧ ll.map (·.x) = xs.take j) ∧ mm = n - j) n
    ⟨0, [], 0 + m, rfl, rfl, by omega, rfl, by omega, M6, s6, Row.fresh0 c6 f6, by simp, fun xs h1 h2 => ?_, rfl⟩ ?_
  · have := c1 xs h1 h2
    rw [en] at this
    simp only [Option.some.injEq, Prod.mk.injEq] at this
    exact ⟨this.1, by rw [this.2, this.1]; simp, by simp⟩
  rintro mm x5 ar nr cr x8 w7 ⟨j, ll, a1, rfl, hll, hj, rfl, ha1, N7, s7, hRow, hOw, himp, rfl⟩
  unfold ref16_Parse_L1
  rw [wrap_id (x := ((n : Nat) : Int)) (by omega) (by omega)]
  refine brB_dec (fun hlt => ?_) fun hge => ?_
  · refine (R2Cut_ok s a1 65536 (by omega) ha1 (by omega) w7).mono ?_
    rintro e w8 ⟨v, rfl, hv, M8⟩
    have s8 := M8.size
    obtain ⟨t, bt, et, rfl, hor⟩ := hv.out
    refine ⟨_, _, _, rfl, ?_⟩
    have ht : t.size ≤ 900000 := by
      rcases hor with ⟨_, m3, _, hg3⟩ | ⟨_, _, rfl, _⟩
      · have := cg_len hg3; omega
      · decide
    refine (R16one_ok (s := t) ht w8).mono ?_
    rintro _ w9 ⟨v, rfl, x, rs, ts, bb, rfl, hO, M9, himp9⟩
    have s9 := M9.size
    refine ⟨_, _, _, _, _, _, _, _, _, _, _, _, _, _, _, _, _, _, _, _, _, rfl, ?_⟩
    intro b10 f10
    have N9 : Mod [] w1 w9 := (N7.go0 M8 (by simp)).go0 M9 (by simp)
    -- the canonical case
    have can : ∀ xs, textE xs = 0 → s = bs (textB xs) → ∃ y, xs[j]? = some y ∧ et = 0 ∧ bb = true ∧ x = y ∧ bt = ((a1 + (callB y).length : Nat) : Int) := fun xs h1 h2 => by
      obtain ⟨q1, q2, q3⟩ := himp xs h1 h2
      obtain ⟨y, hy⟩ : ∃ y, xs[j]? = some y := ⟨_, List.getElem?_eq_getElem (by omega)⟩
      obtain ⟨g1, g2⟩ := (textE_out h1).2 y (List.mem_of_getElem? hy)
      have hsplit : xs.flatMap callB = (xs.take j).flatMap callB ++ (callB y ++ (xs.drop (j + 1)).flatMap callB) := by
        conv => lhs; rw [← List.take_append_drop j xs]
        rw [List.flatMap_append]
        congr 1
        obtain ⟨hl, he⟩ := List.getElem?_eq_some_iff.1 hy
        rw [List.drop_eq_getElem_cons hl, he, List.flatMap_cons]
      have hd : s.data.toList.drop a1 = frameB (bs (callR y)) ++ (xs.drop (j + 1)).flatMap callB := by
        have h0 := can0 xs h1 h2
        rw [hsplit, ← q1, List.drop_zero] at h0
        rw [h0, q2, List.append_nil, ← List.append_assoc, List.drop_left']
        · rfl
        · rfl
      have lr := callR_len g1 g2
      have hc := cg_put (lim := 65536) (bs (callR y)) ((xs.drop (j + 1)).flatMap callB) (by rw [bs_size]; omega) (by rw [bs_size]; omega)
      rw [← hd] at hc
      rcases hor with ⟨e0, m3, rfl, hg3⟩ | ⟨_, hg3, _, _⟩
      · rw [hg3] at hc
        simp only [Option.some.injEq, Prod.mk.injEq] at hc
        obtain ⟨rfl, rfl⟩ := hc
        obtain ⟨r1, r2⟩ := himp9 y g1 g2 rfl
        exact ⟨y, hy, e0, r1, r2, rfl⟩
      · rw [hg3] at hc; cases hc
    rcases hor with ⟨rfl, m3, rfl, hg3⟩ | ⟨he, hg3, _, _⟩
    rotate_left
    · rw [show (et != 0) = true by simpa using he]
      intro w10 A10
      refine bad (N9.go0 A10.mod (by simp)) fun xs h1 h2 => ?_
      obtain ⟨y, _, e0, _⟩ := can xs h1 h2
      exact he e0
    rw [show ((0 : Int) != 0) = false from rfl, brB_false]
    have hcl := cg_len hg3
    rw [List.length_drop] at hcl
    refine brB_of (fun gb w10 A10 => ?_) fun gb w10 A10 => ?_
    · refine bad (N9.go0 A10.mod (by simp)) fun xs h1 h2 => ?_
      obtain ⟨y, _, _, r, _⟩ := can xs h1 h2
      rw [r] at gb; simp at gb
    have s10 := A10.mod.size
    have l10 := A10.lt b10 (by simp)
    refine al_of fun b11 w11 c11 M11 f11 => ?_
    have s11 := M11.size
    have K11 : Mod [] w7 w11 := ((M8.go0 M9 (by simp)).go0 A10.mod (by simp)).go0 M11 (by simp)
    have N11 : Mod [] w1 w11 := N7.go0 K11 (by simp)
    have hR11 := hRow.keep0 K11
    have hO11 := hO.keep0 (A10.mod.go0 M11 (by simp))
    obtain ⟨i0, hi, hz0, hz1, hz2⟩ := info_parts infoCall
    refine append_of (x := (⟨x, rs, ts⟩ : CV)) hR11 Tryz.underlying39 hi hz0 hz1 hz2 rfl (by decide) c11 rfl (CV.cs_one _) (by omega) (by unfold maxLen; omega) (by omega) fun a' c' w12 hR12 hM12 => ?_
    have M12 := hM12 _ (rowS_ok ar)
    have s12 := M12.size
    have hnew := hR11.newS
    have hrow := rowS_block hRow
    have hrow11 := rowS_block hR11
    refine ⟨Keep.of M12 fun b hb _ hb' => ?_, ?_⟩
    · have := hrow b hb'; simp at hb; omega
    have keepO : ∀ {o : POp} {rs ts : Sl} {B : Nat}, OpOwn w11 B o rs ts → OpOwn w12 B o rs ts := fun h => h.keep M12 fun k hk cs T hT => by
      obtain ⟨_, _, cur, hc⟩ := hrow11 k hk
      rw [hc] at hT; cases hT; exact ⟨by decide, by decide⟩
    refine ref16_Parse_leaf1 (n - (j + 1)) (by omega) ⟨j + 1, ll ++ [⟨x, rs, ts⟩], a1 + m3, by rw [wrap_id (by omega) (by omega)]; omega, by rw [List.length_append, hll]; rfl, by omega, rfl, by omega, N11.go0 M12 (fun i hi => by have := hnew i hi; omega), by omega, hR12, fun q hq => ?_, fun xs h1 h2 => ?_, rfl⟩
    · rcases List.mem_append.1 hq with h | h
      · exact keepO ((hOw q h).keep0 K11)
      · simp at h; subst h; exact (keepO hO11).rebase (by omega)
    · obtain ⟨q1, q2, q3⟩ := himp xs h1 h2
      obtain ⟨y, hy, _, _, r1, r2⟩ := can xs h1 h2
      refine ⟨q1, ?_, ?_⟩
      · have : a1 + m3 = a1 + (callB y).length := by omega
        rw [this, q2, take_flat hy]; simp only [List.length_append]; omega
      · rw [List.map_append, q3, List.take_add_one, hy]; simp [r1]
  · have hjn : j = n := by omega
    have hC : CsAt w7 ⟨ar, nr, cr⟩ ll := ⟨hRow.sl CV.cs_len, fun q hq => (hOw q hq).at⟩
    refine (R16Text_ok (s := ⟨ar, nr, cr⟩) hC (by omega)).mono ?_
    rintro _ w8 ⟨rfl, M8⟩
    have N8 := N7.go0 M8 (by simp)
    have full : ∀ xs, textE xs = 0 → s = bs (textB xs) → ll.map (·.x) = xs := fun xs h1 h2 => by
      obtain ⟨q1, q2, q3⟩ := himp xs h1 h2
      rw [q3, hjn, q1, List.take_length]
    refine ⟨_, _, rfl, brB_of (fun g1 => bad N8 fun xs h1 h2 => ?_) fun g1 => ?_⟩
    · rw [full xs h1 h2, h1] at g1; simp at g1
    have g1 : textE (ll.map (·.x)) = 0 := by simpa using g1
    rw [if_pos g1]
    refine brB_of (fun g2 => bad N8 fun xs h1 h2 => ?_) fun g2 => ?_
    · rw [full xs h1 h2, ← h2] at g2; simp at g2
    have g2 : bs (textB (ll.map (·.x))) = s := toList_inj.1 (by simpa using g2)
    refine ⟨?_, N8⟩
    rw [parseO_iff.2 ⟨g1, g2.symm⟩]
    exact ⟨⟨ar, nr, cr⟩, rfl, ll, hRow.keep0 M8, fun q hq => (hOw q hq).keep0 M8, rfl⟩
theorem Texts_law {a a2 : Option Addr} {n c n2 c2 : Nat} {ll lm : List CV} (s0 : ByteArray) (w : World) (h : SlAt w 16 CV.cs a n ll) (hO : ∀ q ∈ ll, OpRd w q.x.op q.rs q.ts) (hw : n ≤ maxLen) (h' : SlAt w 16 CV.cs a2 n2 lm) (hO' : ∀ q ∈ lm, OpRd w q.x.op q.rs q.ts) (hw' : n2 ≤ maxLen) :
    Calls Tryz.prog 4 #[.slice a n c, .slice a2 n2 c2, .string s0] w fun e w' => e = .returned (.bool true) ∧ Mod [] w w' := by
  refine go_of (law16_OplogTexts_go ?_)
  refine (LCut_ok h hO hw).mono ?_
  rintro _ w1 ⟨_, rfl, s, lc, rfl, hR, hOw, hlen, M1⟩
  have hl12 : lc.length ≤ 12 := by rw [hlen]; unfold cutLen; omega
  refine ⟨_, _, _, rfl, ?_⟩
  refine (LCut_ok (h'.keep0 M1) (fun q hq => (hO' q hq).keep0 M1) hw').mono ?_
  rintro _ w2 ⟨_, rfl, t, lt, rfl, hR2, hOw2, hlen2, M2⟩
  have hlt12 : lt.length ≤ 12 := by rw [hlen2]; unfold cutLen; omega
  have N2 := M1.go0 M2 (by simp)
  have hC : CsAt w2 s lc := ⟨(hR.sl CV.cs_len).keep0 M2, fun q hq => (hOw q hq).at.keep0 M2⟩
  have hD : CsAt w2 t lt := ⟨hR2.sl CV.cs_len, fun q hq => (hOw2 q hq).at⟩
  refine ⟨_, _, _, rfl, by omega, by split <;> omega, by split <;> omega, ?_⟩
  obtain ⟨s5, hs5⟩ : ∃ s5, s0.extract (Int.toNat 0) (Int.toNat (if 1500 < (s0.size : Int) then 1500 else (s0.size : Int))) = s5 := ⟨_, rfl⟩
  rw [hs5]
  have hsz : s5.size ≤ 1500 := by rw [← hs5, ByteArray.size_extract]; split <;> omega
  refine (Text_ok hC (by omega)).mono ?_
  rintro _ w3 ⟨rfl, M3⟩
  refine ⟨_, _, rfl, ?_⟩
  refine (R16Text_ok (hC.keep0 M3) (by omega)).mono ?_
  rintro _ w4 ⟨rfl, M4⟩
  refine ⟨_, _, rfl, ?_⟩
  refine (OParse_ok (s := s5) (by omega) w4).mono ?_
  rintro _ w5 ⟨v, rfl, hv, M5⟩
  obtain ⟨x, e1, rfl, hx⟩ : ∃ (x : Sl) (e : Int), v = .tuple #[.slice x.a x.n x.c, .int .i64 e] ∧ (CallsAt w5 x ((parseO s5).getD []) ∧ e = if parseO s5 = none then 162 else 0) := by
    cases hp : parseO s5 with
    | none => rw [hp] at hv; exact ⟨nilS, 162, hv, ⟨[], ⟨rfl, by simp⟩, by simp, rfl⟩, rfl⟩
    | some xs => rw [hp] at hv; obtain ⟨s', hv, hc⟩ := hv; exact ⟨s', 0, hv, hc.at, rfl⟩
  refine ⟨_, _, _, _, rfl, ?_⟩
  refine (R16Parse_ok (s := s5) (by omega) w5).mono ?_
  rintro _ w6 ⟨v, rfl, hv, M6⟩
  obtain ⟨y, e2, rfl, hy⟩ : ∃ (x : Sl) (e : Int), v = .tuple #[.slice x.a x.n x.c, .int .i64 e] ∧ (CallsAt w6 x ((parseO s5).getD []) ∧ e = if parseO s5 = none then 162 else 0) := by
    cases hp : parseO s5 with
    | none => rw [hp] at hv; exact ⟨nilS, 162, hv, ⟨[], ⟨rfl, by simp⟩, by simp, rfl⟩, rfl⟩
    | some xs => rw [hp] at hv; obtain ⟨s', hv, hc⟩ := hv; exact ⟨s', 0, hv, hc.at, rfl⟩
  have N6 : Mod [] w2 w6 := ((M3.go0 M4 (by simp)).go0 M5 (by simp)).go0 M6 (by simp)
  refine ⟨_, _, _, _, rfl, brT (by simp) (brT (by simp) ?_)⟩
  have hlp : ((parseO s5).getD []).length ≤ 1000000 := by
    cases hp : parseO s5 with
    | none => simp
    | some xs => have := (textE_out (parseO_iff.1 hp).1).1; simp; omega
  refine (CallsR_ok (hx.1.keep0 M6) hy.1 hlp).mono ?_
  rintro _ w7 ⟨rfl, M7⟩
  refine ⟨_, rfl, brT (by simp) (brT (by rw [hx.2, hy.2]; simp) ?_)⟩
  have N7 := N6.go0 M7 (by simp)
  refine (OSame_ok (hC.keep0 N7) (hD.keep0 N7) (by omega)).mono ?_
  rintro _ w8 ⟨rfl, M8⟩
  refine ⟨_, rfl, ?_⟩
  have N8 := N7.go0 M8 (by simp)
  refine (CallsR_ok (xs := lc.map (·.x)) (ys := lt.map (·.x)) ⟨lc, (hC.keep0 N8).sl, (hC.keep0 N8).op, rfl⟩ ⟨lt, (hD.keep0 N8).sl, (hD.keep0 N8).op, rfl⟩ (by simp; omega)).mono ?_
  rintro _ w9 ⟨rfl, M9⟩
  refine ⟨_, rfl, brT (by simp) ?_⟩
  exact fix_step ((N2.go0 N8 (by simp)).go0 M9 (by simp))
end Go.Proofs.YtohgihgddknmmaaGreat

/- OplogTexts, for every input. No conditions. -/
namespace Go.Proofs.YtohgihgddknmmaaGreat.oplogTexts
open Go.ChangeShapes Go.WideShapes Go.ChangeAt Go.RowKit
open Go.ChangeMaps (open_string shut_string)
set_option linter.unusedVariables false

theorem own : ownKnob Tryz.prog.godebug = none := by kernel_rfl
theorem laidOut : laidOutB Tryz.prog = true := by kernel_rfl

set_option maxRecDepth 100000 in
theorem lifted (os : Os) (started : os.Started) (H : Type) (enc : TypeId × Value → H) :
    ReturnsInHanded {} Tryz.checked os 4 .any (Rows.oplogTextsSpec.pre6 enc Tryz.prog Tryz.f4 Rows.oplogTextsRow.domain false) (Rows.oplogTextsSpec.post enc Tryz.prog Tryz.f4 false true false false) := by
  refine returnsInHanded_of_change (C := Tryz.checked) own started (by kernel_rfl) Tryz.func4
    (ChangeSpec.witness6 (enc := enc) (C := Tryz.checked) false ⟨#[], #[.slice none 0 0, .slice none 0 0, .string ByteArray.empty], []⟩ 8 (by kernel_rfl) (by kernel_rfl) (by kernel_rfl) (by kernel_rfl)) ?_
  intro W base args ds gs before hval0 hW hcnd _
  have hval : ∀ (j : Nat) t v, Tryz.f4.params[j]? = some t → args[j]? = some v → Value.okWide Tryz.prog W .any base t v := hval0
  have hW' := hW
  obtain ⟨p, q, hA0, hV, rfl, hfz, hnd⟩ := hW
  have hA : DataW.TrodAll enc Tryz.prog W 0 (fun _ => true) true Tryz.f4.params.toList args.toList ds p := hA0
  rw [Tryz.params4] at hA hval
  obtain ⟨v0, vs0, d0, ds0, p0, q0, hargs, rfl, rfl, h0, r0⟩ := trodAll_cons hA
  obtain ⟨v1, vs1, d1, ds1, p1, q1, rfl, rfl, rfl, h1, r1⟩ := trodAll_cons r0
  obtain ⟨v2, vs2, d2, ds2, p2, q2, rfl, rfl, rfl, h2, r2⟩ := trodAll_cons r1
  obtain ⟨rfl, rfl, rfl⟩ := trodAll_nil r2
  obtain rfl : args = #[v0, v1, v2] := by cases args; simp_all
  obtain ⟨rfl, rfl⟩ := trodVars_none hV
  have k0 := h0
  have lt0 : ∀ x ∈ p0, x.block < W.heap.size := by obtain ⟨m, hm⟩ := k0; exact DataW.trod_lt m _ _ _ hm
  have k1 := h1
  have lt1 : ∀ x ∈ p1, x.block < W.heap.size := by obtain ⟨m, hm⟩ := k1; exact DataW.trod_lt m _ _ _ hm
  have k2 := h2
  have lt2 : ∀ x ∈ p2, x.block < W.heap.size := by obtain ⟨m, hm⟩ := k2; exact DataW.trod_lt m _ _ _ hm
  obtain ⟨b0, len0, cap0, rfl⟩ := okWide_slice Tryz.underlying39 (hval 0 39 v0 rfl rfl)
  obtain ⟨fuel0, hf0⟩ := h0
  obtain ⟨b0', len0', cap0', l0, e0, s0, g0, u0, c0⟩ := (trod_ok hf0).slice_inv Tryz.underlying39 (inv_call W)
  simp [Value.cells] at e0
  obtain ⟨rfl, rfl, rfl⟩ := e0
  rw [show Tryz.prog.cellsOf 57 = 16 by kernel_rfl] at s0
  obtain ⟨b1, len1, cap1, rfl⟩ := okWide_slice Tryz.underlying39 (hval 1 39 v1 rfl rfl)
  obtain ⟨fuel1, hf1⟩ := h1
  obtain ⟨b1', len1', cap1', l1, e1, s1, g1, u1, c1⟩ := (trod_ok hf1).slice_inv Tryz.underlying39 (inv_call W)
  simp [Value.cells] at e1
  obtain ⟨rfl, rfl, rfl⟩ := e1
  rw [show Tryz.prog.cellsOf 57 = 16 by kernel_rfl] at s1
  obtain ⟨a2, rfl, _, _, w2⟩ := open_string Tryz.underlying9 (hval 2 9 v2 rfl rfl) h2
  clear hA0 hval0
  refine (Texts_law a2 W s0 g0 (by omega) s1 g1 (by omega)).mono fun e W' ⟨he, hM⟩ => ?_
  have bel : Below W.heap.size W W' := hM.below (by simp)
  subst he
  exact ⟨_, rfl, _, _, _, [], _, [], hW', trodAll_mk1 (shut_bool Tryz.underlying4 _), (trodAll_cons_mk (Below.trod laidOut (by kernel_rfl) (of_decide_eq_true (by kernel_rfl)) k0 bel lt0) (trodAll_cons_mk (Below.trod laidOut (by kernel_rfl) (of_decide_eq_true (by kernel_rfl)) k1 bel lt1) (trodAll_cons_mk (Below.trod laidOut (by kernel_rfl) (of_decide_eq_true (by kernel_rfl)) k2 bel lt2) trodAll_mk0))), rfl, bel.frame _, fun h => by cases h⟩

theorem over : Rows.oplogTextsRow.holds Tryz.pinned (OpenSpec.ofChange Rows.oplogTextsSpec) :=
  OpenClaim.holds_of_wide 4 Tryz.f4 rfl rfl rfl rfl rfl rfl rfl ⟨rfl, rfl, rfl, rfl, rfl⟩ rfl rfl rfl rfl rfl (by kernel_rfl) Tryz.func4 (by kernel_rfl)
    (of_decide_eq_true (by kernel_rfl)) (by unfold Func.isWrapper; first | (rw [if_pos (by decide +kernel)]; kernel_rfl) | (rw [if_neg (by decide +kernel)]; exact ⟨rfl, rfl⟩))
    (fun os started H enc _ => lifted os started H enc)

theorem proved : Rows.OplogTextsSaid := over
#print axioms proved
end Go.Proofs.YtohgihgddknmmaaGreat.oplogTexts
