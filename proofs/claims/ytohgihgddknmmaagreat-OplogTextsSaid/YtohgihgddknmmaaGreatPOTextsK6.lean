/- Part 6 of the proof of POTexts. -/
import Derived.WalkKit
import Derived.WalkSpells
import Derived.WalkLawsBesides
import Derived.Deep.Quiet
import Derived.Test.YtohgihgddknmmaaGreatRows
import Derived.KernelRfl
import Derived.Maps.Keyed
import Derived.Maps.RangeRun
import Derived.DeepKeys4
import Derived.Lib.Strings
import Derived.Shelf.RegionOpenPlain
import Derived.Lib.Slices
import Derived.Lib.Walk
import Derived.Lib.Builder
import Derived.Lib.FrozenHead
import Derived.Lib.OthersKept
import Derived.Lib.AppendStr
import Derived.Lib.UnsafeStr
import Derived.Lib.MakeNoZero
import Derived.Laws.Externs
import Derived.Laws.IdiomCopy
import Derived.Laws.BitsLemmas
import Derived.RangeFuncBox
import Derived.RangeFuncLeaves
import Derived.RangeFuncNested
import Derived.Shelf.Abstract
import Derived.OwnWalkIn
import Derived.TacticsInMore
import Derived.LoopNIn
import Derived.LoopIn
import Derived.Maps.AppendAt
import Derived.Sort.LoopGhostIn
import Derived.Laws.Bits64b
import Derived.Laws.IdiomStrings
import Derived.Test.YtohgihgddknmmaaGreatProg
import Derived.Shelf.Lay
import Derived.Shelf.Strings.FuncGrows
import Derived.Laws.RangeAny
import Derived.Ground.GgwProg
import Derived.Ground.NamesProg
import Derived.ArgAppend
import Derived.Deep.RegionWith
import Derived.ProofKit
import Derived.OpenShut
import Derived.ShutString
import Derived.ChangeOld
import Derived.Below
import Derived.Deep.Slices
import Derived.Test.YtohgihgddknmmaaGreatPOTextsK5
/- The reference's sums. -/
namespace Go.Proofs.YtohgihgddknmmaaGreat
open Go Go.RowKit
set_option linter.unusedVariables false
set_option linter.unusedSimpArgs false

/-! ### bits -/
theorem xor_div2 (a b k : Nat) : (a ^^^ b) / 2 ^ k = (a / 2 ^ k) ^^^ (b / 2 ^ k) := by
  rw [← Nat.shiftRight_eq_div_pow, ← Nat.shiftRight_eq_div_pow, ← Nat.shiftRight_eq_div_pow, Nat.shiftRight_xor_distrib]
theorem xor_half (a b : Nat) : (a ^^^ b) / 2 = (a / 2) ^^^ (b / 2) := xor_div2 a b 1
theorem xor_mod2 (a b : Nat) : (a ^^^ b) % 2 = (a + b) % 2 := by
  have h := @Nat.xor_mod_two_eq_one a b
  omega
theorem xor32 {a b : Nat} (ha : a < 4294967296) (hb : b < 4294967296) : a ^^^ b < 4294967296 := Nat.xor_lt_two_pow (n := 32) ha hb
theorem bXor32 {a b : Nat} (ha : a < 4294967296) (hb : b < 4294967296) : bXor .u32 a b = ((a ^^^ b : Nat) : Int) := by
  have h := xor32 ha hb
  unfold bXor
  rw [IntKind.wrap_u32]
  simp only [BitVec.toNat_xor, BitVec.toNat_ofInt]
  have e1 : ((a : Int) % ((2 ^ IntKind.bits .u32 : Nat) : Int)).toNat = a := by
    show ((a : Int) % ((2 ^ 32 : Nat) : Int)).toNat = a
    omega
  have e2 : ((b : Int) % ((2 ^ IntKind.bits .u32 : Nat) : Int)).toNat = b := by
    show ((b : Int) % ((2 ^ 32 : Nat) : Int)).toNat = b
    omega
  rw [e1, e2]
  omega
theorem bAnd32 {a b : Nat} (ha : a < 4294967296) (hb : b < 4294967296) : bAnd .u32 a b = ((a &&& b : Nat) : Int) := by
  have h : a &&& b < 4294967296 := Nat.lt_of_le_of_lt Nat.and_le_left ha
  unfold bAnd
  rw [IntKind.wrap_u32]
  simp only [BitVec.toNat_and, BitVec.toNat_ofInt]
  have e1 : ((a : Int) % ((2 ^ IntKind.bits .u32 : Nat) : Int)).toNat = a := by
    show ((a : Int) % ((2 ^ 32 : Nat) : Int)).toNat = a
    omega
  have e2 : ((b : Int) % ((2 ^ IntKind.bits .u32 : Nat) : Int)).toNat = b := by
    show ((b : Int) % ((2 ^ 32 : Nat) : Int)).toNat = b
    omega
  rw [e1, e2]
  omega
theorem Turn_ok {a b : Nat} (ha : a < 4294967296) (hb : b < 4294967296) (w : World) :
    Calls Tryz.prog 166 #[.int .u32 (a : Nat), .int .u32 (b : Nat)] w fun e w' => e = .returned (.int .u32 ((a ^^^ b : Nat) : Int)) ∧ w' = w := by
  refine go_of (ref02_Turn_go ?_)
  refine ref02_Turn_rule1 (fun mm x0 x1 x5 x6 x7 w' => ∃ k : Nat, k ≤ 32 ∧ x7 = k ∧ x0 = (a / 2 ^ k : Nat) ∧ x1 = (b / 2 ^ k : Nat) ∧ x5 = ((a ^^^ b) % 2 ^ k : Nat) ∧ x6 = (if k = 32 then 0 else 2 ^ k : Nat) ∧ w' = w ∧ mm = 32 - k) 32
    ⟨0, by omega, rfl, by simp, by simp, by simp [Nat.mod_one], by simp, rfl, rfl⟩ ?_
  rintro mm x0 x1 x5 x6 x7 w' ⟨k, hk, rfl, rfl, rfl, rfl, rfl, rfl, rfl⟩
  refine brB_dec (fun hlt => ?_) fun hge => ?_
  · have hk' : k < 32 := by omega
    rw [if_neg (by omega)]
    have hp : 2 ^ k ≤ 2 ^ 31 := Nat.pow_le_pow_right (by omega) (by omega)
    have hx := xor32 ha hb
    have a1 : a / 2 ^ k ≤ a := Nat.div_le_self _ _
    have b1 : b / 2 ^ k ≤ b := Nat.div_le_self _ _
    have dx := xor_div2 a b k
    have dm := xor_mod2 (a / 2 ^ k) (b / 2 ^ k)
    rw [← dx] at dm
    have ms : (a ^^^ b) % 2 ^ (k + 1) = (a ^^^ b) % 2 ^ k + 2 ^ k * ((a ^^^ b) / 2 ^ k % 2) := Nat.mod_pow_succ
    have lt1 : (a ^^^ b) % 2 ^ k < 2 ^ k := Nat.mod_lt _ (Nat.pow_pos (by omega))
    have da : a / 2 ^ (k + 1) = a / 2 ^ k / 2 := by rw [Nat.pow_succ, Nat.div_div_eq_div_mul]
    have db : b / 2 ^ (k + 1) = b / 2 ^ k / 2 := by rw [Nat.pow_succ, Nat.div_div_eq_div_mul]
    have p31 : k = 31 → 2 ^ k = 2147483648 := fun h => by subst h; rfl
    have ps : 2 ^ (k + 1) = 2 * 2 ^ k := by rw [Nat.pow_succ]; omega
    have p30 : k ≠ 31 → 2 ^ k ≤ 1073741824 := fun h => Nat.pow_le_pow_right (n := 2) (by omega) (show k ≤ 30 by omega)
    generalize hP : 2 ^ k = P at *
    generalize a / P = A at *
    generalize b / P = B at *
    generalize (a ^^^ b) / P = X at *
    generalize (a ^^^ b) % P = Y at *
    have ek : IntKind.wrap .i64 ((k : Int) + 1) = ((k + 1 : Nat) : Int) := by rw [wrap_id (by omega) (by omega)]; omega
    have eA : IntKind.wrap .u32 (Int.tdiv (A : Int) 2) = ((A / 2 : Nat) : Int) := by rw [Int.tdiv_eq_ediv_of_nonneg (by omega), IntKind.wrap_u32]; omega
    have eB : IntKind.wrap .u32 (Int.tdiv (B : Int) 2) = ((B / 2 : Nat) : Int) := by rw [Int.tdiv_eq_ediv_of_nonneg (by omega), IntKind.wrap_u32]; omega
    have eP : IntKind.wrap .u32 ((P : Int) * 2) = ((if k + 1 = 32 then 0 else 2 ^ (k + 1) : Nat) : Int) := by
      rw [IntKind.wrap_u32]
      by_cases h : k = 31
      · rw [if_pos (by omega)]; have := p31 h; omega
      · rw [if_neg (by omega)]; have := p30 h; omega
    have eT : ((Int.tmod (A : Int) 2) != (Int.tmod (B : Int) 2)) = decide (X % 2 = 1) := by
      rw [Int.tmod_eq_emod_of_nonneg (by omega), Int.tmod_eq_emod_of_nonneg (by omega), Bool.eq_iff_iff]
      simp
      omega
    refine ⟨by omega, by omega, ?_⟩
    rw [eT, eA, eB, eP, ek]
    refine brB_dec (fun hX => ⟨by omega, by omega, ?_⟩) fun hX => ⟨by omega, by omega, ?_⟩
    · have e5 : IntKind.wrap .u32 ((Y : Int) + (P : Int)) = (((a ^^^ b) % 2 ^ (k + 1) : Nat) : Int) := by
        rw [ms, hX, IntKind.wrap_u32]; omega
      rw [e5]
      exact ref02_Turn_leaf1 (32 - (k + 1)) (by omega) ⟨k + 1, by omega, rfl, by rw [da], by rw [db], rfl, rfl, rfl, rfl⟩
    · have e5 : (Y : Int) = (((a ^^^ b) % 2 ^ (k + 1) : Nat) : Int) := by
        have : X % 2 = 0 := by omega
        rw [ms, this]; omega
      rw [e5]
      exact ref02_Turn_leaf1 (32 - (k + 1)) (by omega) ⟨k + 1, by omega, rfl, by rw [da], by rw [db], rfl, rfl, rfl, rfl⟩
  · have hk : k = 32 := by omega
    subst hk
    refine ⟨?_, rfl⟩
    rw [Nat.mod_eq_of_lt (by have := xor32 ha hb; omega)]
/-! ### a step of a sum -/
def stN (x : Nat) : Nat := if x % 2 = 1 then (x / 2) ^^^ 3988292384 else x / 2
def itN (x : Nat) : Nat → Nat
  | 0 => x
  | k + 1 => stN (itN x k)
theorem stN_lt {x : Nat} (h : x < 4294967296) : stN x < 4294967296 := by
  unfold stN
  split
  · exact xor32 (by omega) (by omega)
  · omega
theorem itN_lt {x : Nat} (h : x < 4294967296) : ∀ k, itN x k < 4294967296
  | 0 => h
  | k + 1 => stN_lt (itN_lt h k)
theorem stN_xor (x y : Nat) : stN (x ^^^ y) = stN x ^^^ stN y := by
  have hp := xor_mod2 x y
  have hh := xor_half x y
  unfold stN
  by_cases h1 : x % 2 = 1 <;> by_cases h2 : y % 2 = 1
  · rw [if_neg (by omega), if_pos h1, if_pos h2, hh, Nat.xor_assoc, Nat.xor_comm 3988292384, Nat.xor_assoc, Nat.xor_self, Nat.xor_zero]
  · rw [if_pos (by omega), if_pos h1, if_neg h2, hh, Nat.xor_assoc, Nat.xor_assoc, Nat.xor_comm 3988292384]
  · rw [if_pos (by omega), if_neg h1, if_pos h2, hh, Nat.xor_assoc]
  · rw [if_neg (by omega), if_neg h1, if_neg h2, hh]
theorem itN_xor (x y : Nat) : ∀ k, itN (x ^^^ y) k = itN x k ^^^ itN y k
  | 0 => rfl
  | k + 1 => by show stN _ = stN _ ^^^ stN _; rw [itN_xor x y k, stN_xor]
theorem itN_add (x : Nat) (j : Nat) : ∀ k, itN x (j + k) = itN (itN x j) k
  | 0 => rfl
  | k + 1 => congrArg stN (itN_add x j k)
theorem stN_two (y : Nat) : stN (2 * y) = y := by unfold stN; rw [if_neg (by omega)]; omega
theorem itN_16 (h : Nat) : itN (16 * h) 4 = h := by
  show stN (stN (stN (stN (16 * h)))) = h
  rw [show 16 * h = 2 * (8 * h) by omega, stN_two, show 8 * h = 2 * (4 * h) by omega, stN_two, show 4 * h = 2 * (2 * h) by omega, stN_two, stN_two]
theorem nib (x : Nat) : x = (16 * (x / 16)) ^^^ (x % 16) := by
  apply Nat.eq_of_testBit_eq
  intro i
  rw [Nat.testBit_xor, show 16 * (x / 16) = 2 ^ 4 * (x / 2 ^ 4) by omega, show x % 16 = x % 2 ^ 4 by omega, Nat.testBit_two_pow_mul, Nat.testBit_mod_two_pow, Nat.testBit_div_two_pow]
  by_cases h : i < 4
  · simp [h, show ¬ 4 ≤ i by omega]
  · simp [h, show 4 ≤ i by omega]
theorem itN_nib (x : Nat) : itN x 4 = (x / 16) ^^^ itN (x % 16) 4 := by
  have h := itN_xor (16 * (x / 16)) (x % 16) 4
  rw [← nib, itN_16] at h
  exact h
theorem rowStep_N {x : Nat} (h : x < 4294967296) : rowStep (x : Nat) = ((stN x : Nat) : Int) := by
  have e1 : Int.fdiv (x : Int) (2 ^ (min (Int.toNat 1) 32)) = ((x / 2 : Nat) : Int) := by
    rw [Int.fdiv_eq_ediv_of_nonneg _ (by decide)]; show (x : Int) / 2 = _; omega
  have e2 : bAnd .u32 (x : Nat) 1 = ((x % 2 : Nat) : Int) := by
    have := bAnd32 h (b := 1) (by omega)
    rw [Nat.and_one_is_mod] at this; exact this
  unfold rowStep stN
  rw [e1, e2]
  by_cases hx : x % 2 = 1
  · rw [if_pos hx, hx]
    have e3 : bAnd .u32 3988292384 (IntKind.wrap .u32 (0 - ((1 : Nat) : Int))) = ((3988292384 : Nat) : Int) := by decide +kernel
    rw [e3, bXor32 (by omega) (by omega)]
  · rw [if_neg hx, show x % 2 = 0 by omega]
    have e3 : bAnd .u32 3988292384 (IntKind.wrap .u32 (0 - ((0 : Nat) : Int))) = ((0 : Nat) : Int) := by decide +kernel
    rw [e3, bXor32 (by omega) (by omega), Nat.xor_zero]
theorem rowIt_N {x : Nat} (h : x < 4294967296) : ∀ k, rowIt (x : Nat) k = ((itN x k : Nat) : Int)
  | 0 => rfl
  | k + 1 => by show rowStep (rowIt _ k) = _; rw [rowIt_N h k, rowStep_N (itN_lt h k)]; rfl
theorem rowC_N {j : Nat} (h : j < 4294967296) : rowC j = ((itN j 4 : Nat) : Int) := by
  unfold rowC
  rw [show IntKind.wrap .u32 (j : Int) = (j : Nat) by rw [IntKind.wrap_u32]; omega]
  exact rowIt_N h 4
def byN (c : Nat) (b : UInt8) : Nat := itN (c ^^^ b.toNat) 8
theorem u8lt (b : UInt8) : b.toNat < 256 := b.toNat_lt
theorem byN_lt {c : Nat} (h : c < 4294967296) (b : UInt8) : byN c b < 4294967296 := itN_lt (xor32 h (by have := u8lt b; omega)) 8
theorem crcStep_N {c : Nat} (h : c < 4294967296) (b : UInt8) : crcStep (c : Nat) b = ((byN c b : Nat) : Int) := by
  have hb := u8lt b
  have ew : IntKind.wrap .u32 ((b.toNat : Nat) : Int) = ((b.toNat : Nat) : Int) := by rw [IntKind.wrap_u32]; omega
  have half : ∀ {x : Nat}, x < 4294967296 → bXor .u32 (Int.fdiv (x : Nat) (2 ^ (min (Int.toNat 4) 32))) (rowC (Int.tmod ((x : Nat) : Int) 16).toNat) = ((itN x 4 : Nat) : Int) := fun {x} hx => by
    have e1 : Int.fdiv (x : Int) (2 ^ (min (Int.toNat 4) 32)) = ((x / 16 : Nat) : Int) := by
      rw [Int.fdiv_eq_ediv_of_nonneg _ (by decide)]; show (x : Int) / 16 = _; omega
    have e2 : (Int.tmod ((x : Nat) : Int) 16).toNat = x % 16 := by rw [Int.tmod_eq_emod_of_nonneg (by omega)]; omega
    rw [e1, e2, rowC_N (by omega), bXor32 (by omega) (itN_lt (by omega) 4), itN_nib x]
  have hx := xor32 h (b := b.toNat) (by omega)
  unfold crcStep byN
  rw [ew, bXor32 h (by omega), half hx, half (itN_lt hx 4), ← itN_add]
def crcF (c : Nat) (l : List UInt8) : Nat := l.foldl byN c
theorem crcF_lt : ∀ (l : List UInt8) {c : Nat}, c < 4294967296 → crcF c l < 4294967296
  | [], c, h => h
  | b :: l, c, h => crcF_lt l (byN_lt h b)
theorem crcF_N : ∀ (l : List UInt8) {c : Nat}, c < 4294967296 → l.foldl crcStep (c : Nat) = ((crcF c l : Nat) : Int)
  | [], c, h => rfl
  | b :: l, c, h => by
    show l.foldl crcStep (crcStep (c : Nat) b) = _
    rw [crcStep_N h, crcF_N l (byN_lt h b)]; rfl
theorem not32 {c : Nat} (h : c < 4294967296) : 4294967295 ^^^ c = 4294967295 - c := by
  have e := congrArg BitVec.toNat (BitVec.xor_allOnes (x := BitVec.ofNat 32 c))
  rw [BitVec.toNat_not, BitVec.toNat_xor, BitVec.toNat_allOnes, BitVec.toNat_ofNat, Nat.mod_eq_of_lt (by omega), Nat.xor_comm] at e
  exact e
theorem not32I {c : Nat} (h : c < 4294967296) : bXor .u32 4294967295 (c : Nat) = ((4294967295 - c : Nat) : Int) := by
  have := bXor32 (a := 4294967295) (b := c) (by omega) h
  rw [not32 h] at this; exact this
theorem crcM_N {c : Nat} (h : c < 4294967296) (l : List UInt8) : crcM (c : Nat) l = ((4294967295 - crcF (4294967295 - c) l : Nat) : Int) := by
  unfold crcM
  rw [not32I h, crcF_N l (by omega), not32I (crcF_lt l (by omega))]
def crcU (l : List UInt8) : Nat := 4294967295 - crcF 4294967295 l
theorem crcN_U (l : List UInt8) : crcN l = ((crcU l : Nat) : Int) := crcM_N (c := 0) (by omega) l
theorem crcU_lt (l : List UInt8) : crcU l < 4294967296 := by unfold crcU; omega
theorem RMore_ok {c : Nat} (hc : c < 4294967296) (s : ByteArray) (hs : s.size ≤ 1000000000000) (w : World) : Calls Tryz.prog 156 #[.int .u32 (c : Nat), .string s] w fun e w' => e = .returned (.int .u32 (crcM (c : Nat) s.data.toList)) ∧ Mod [] w w' := by
  refine go_of (ref02_More_go ?_)
  rw [crcM_N hc]
  have e0 : IntKind.wrap .u32 (4294967295 - (c : Int)) = ((4294967295 - c : Nat) : Int) := by rw [IntKind.wrap_u32]; omega
  unfold ref02_More_T
  rw [e0]
  refine ref02_More_rule1 (fun mm x y w' => ∃ k : Nat, y = k ∧ k ≤ s.size ∧ x = (crcF (4294967295 - c) (s.data.toList.take k) : Nat) ∧ w' = w ∧ mm = s.size - k) s.size ⟨0, rfl, by omega, rfl, rfl, rfl⟩ ?_
  rintro mm x y w3 ⟨k, rfl, hk, rfl, rfl, rfl⟩
  have hlt1 := crcF_lt (s.data.toList.take k) (c := 4294967295 - c) (by omega)
  refine brB_dec (fun hlt => ?_) fun hge => ?_
  · have hk' : k < s.size := by omega
    obtain ⟨b, hb, hv⟩ := byteAt_mem hk'
    have hb8 := u8lt b
    refine ⟨by omega, by omega, ?_⟩
    rw [Int.toNat_natCast, hv]
    dsimp only
    rw [show IntKind.wrap .u32 ((b.toNat : Nat) : Int) = ((b.toNat : Nat) : Int) by rw [IntKind.wrap_u32]; omega]
    refine (Turn_ok hlt1 (by omega) w3).mono ?_
    rintro e w4 ⟨rfl, rfl⟩
    refine ⟨_, rfl, ?_⟩
    have hx := xor32 hlt1 (b := b.toNat) (by omega)
    refine ref02_More_rule2 (fun mm x y w' => ∃ j : Nat, y = j ∧ j ≤ 8 ∧ x = (itN (crcF (4294967295 - c) (s.data.toList.take k) ^^^ b.toNat) j : Nat) ∧ w' = w4 ∧ mm = 8 - j) 8 ⟨0, rfl, by omega, rfl, rfl, rfl⟩ ?_
    rintro mm x y w5 ⟨j, rfl, hj, rfl, rfl, rfl⟩
    have hi := itN_lt hx j
    have ej : IntKind.wrap .i64 ((j : Int) + 1) = ((j + 1 : Nat) : Int) := by rw [wrap_id (by omega) (by omega)]; omega
    refine brB_dec (fun hlt => ⟨by omega, by omega, ?_⟩) fun hge => ?_
    · have est : itN (crcF (4294967295 - c) (s.data.toList.take k) ^^^ b.toNat) (j + 1) = stN (itN (crcF (4294967295 - c) (s.data.toList.take k) ^^^ b.toNat) j) := rfl
      generalize itN (crcF (4294967295 - c) (s.data.toList.take k) ^^^ b.toNat) j = X at hi est
      have eT : ((Int.tmod (X : Int) 2) == 1) = decide (X % 2 = 1) := by
        rw [Int.tmod_eq_emod_of_nonneg (by omega), Bool.eq_iff_iff]; simp; omega
      have eH : IntKind.wrap .u32 (Int.tdiv (X : Int) 2) = ((X / 2 : Nat) : Int) := by rw [Int.tdiv_eq_ediv_of_nonneg (by omega), IntKind.wrap_u32]; omega
      rw [eT, eH, ej]
      refine brB_dec (fun hX => ?_) fun hX => ?_
      · refine (Turn_ok (a := X / 2) (b := 3988292384) (by omega) (by omega) w5).mono ?_
        rintro e w6 ⟨rfl, rfl⟩
        refine ⟨_, rfl, ref02_More_leaf2 (8 - (j + 1)) (by omega) ⟨j + 1, rfl, by omega, ?_, rfl, rfl⟩⟩
        rw [est, stN, if_pos hX]
      · refine ref02_More_leaf2 (8 - (j + 1)) (by omega) ⟨j + 1, rfl, by omega, ?_, rfl, rfl⟩
        rw [est, stN, if_neg hX]
    · have hj : j = 8 := by omega
      subst hj
      refine ref02_More_leaf1 (s.size - (k + 1)) (by omega) ⟨k + 1, by rw [wrap_id (by omega) (by omega)]; omega, by omega, ?_, rfl, rfl⟩
      rw [List.take_add_one, hb]
      show _ = (((List.foldl byN (4294967295 - c) (List.take k s.data.toList ++ [b])) : Nat) : Int)
      rw [List.foldl_append]
      rfl
  · have hk : k = s.size := by omega
    subst hk
    have e1 : IntKind.wrap .u32 (4294967295 - ((crcF (4294967295 - c) s.data.toList : Nat) : Int)) = ((4294967295 - crcF (4294967295 - c) s.data.toList : Nat) : Int) := by
      have := crcF_lt s.data.toList (c := 4294967295 - c) (by omega)
      rw [IntKind.wrap_u32]; omega
    rw [List.take_of_length_le (by simp), e1]
    exact ⟨rfl, Mod.refl _⟩
theorem RSum_ok (s : ByteArray) (hs : s.size ≤ 1000000000000) (w : World) : Calls Tryz.prog 134 #[.string s] w fun e w' => e = .returned (.int .u32 (crcN s.data.toList)) ∧ Mod [] w w' := by
  refine go_of (ref02_Sum_go ?_)
  refine (RMore_ok (c := 0) (by omega) s hs w).mono ?_
  rintro e w1 ⟨rfl, M1⟩
  exact ⟨_, rfl, rfl, M1⟩
theorem Four_ok {n : Nat} (hn : n < 4294967296) (w : World) : Calls Tryz.prog 133 #[.int .u32 (n : Nat)] w fun e w' => e = .returned (.string (bs (laidB (n : Nat)))) ∧ Mod [] w w' := by
  refine go_of (ref02_Four_go ?_)
  refine ⟨by omega, by omega, by omega, by omega, by omega, by omega, ?_⟩
  refine al_of fun b1 w1 c1 M1 f1 => ?_
  have k0 : lbI (n : Nat) 0 = ((n % 256 : Nat) : Int) := by
    unfold lbI; rw [Int.fdiv_eq_ediv_of_nonneg _ (by decide), IntKind.wrap_u8]; show ((n : Int) / 1) % 256 = _; omega
  have k1 : lbI (n : Nat) 1 = ((n / 256 % 256 : Nat) : Int) := by
    unfold lbI; rw [Int.fdiv_eq_ediv_of_nonneg _ (by decide), IntKind.wrap_u8]; show ((n : Int) / 256) % 256 = _; omega
  have k2 : lbI (n : Nat) 2 = ((n / 65536 % 256 : Nat) : Int) := by
    unfold lbI; rw [Int.fdiv_eq_ediv_of_nonneg _ (by decide), IntKind.wrap_u8]; show ((n : Int) / 65536) % 256 = _; omega
  have k3 : lbI (n : Nat) 3 = ((n / 16777216 : Nat) : Int) := by
    unfold lbI; rw [Int.fdiv_eq_ediv_of_nonneg _ (by decide), IntKind.wrap_u8]; show ((n : Int) / 16777216) % 256 = _; omega
  have v0 : IntKind.wrap .u8 (Int.tmod (n : Int) 256) = lbI (n : Nat) 0 := by
    rw [k0, Int.tmod_eq_emod_of_nonneg (a := (n : Int)) (by omega), IntKind.wrap_u8]; omega
  have v1 : IntKind.wrap .u8 (Int.tmod (IntKind.wrap .u32 (Int.tdiv (n : Int) 256)) 256) = lbI (n : Nat) 1 := by
    rw [k1, Int.tdiv_eq_ediv_of_nonneg (a := (n : Int)) (by omega), IntKind.wrap_u32, Int.tmod_eq_emod_of_nonneg (by omega), IntKind.wrap_u8]; omega
  have v2 : IntKind.wrap .u8 (Int.tmod (IntKind.wrap .u32 (Int.tdiv (n : Int) 65536)) 256) = lbI (n : Nat) 2 := by
    rw [k2, Int.tdiv_eq_ediv_of_nonneg (a := (n : Int)) (by omega), IntKind.wrap_u32, Int.tmod_eq_emod_of_nonneg (by omega), IntKind.wrap_u8]; omega
  have v3 : IntKind.wrap .u8 (IntKind.wrap .u32 (Int.tdiv (n : Int) 16777216)) = lbI (n : Nat) 3 := by
    rw [k3, Int.tdiv_eq_ediv_of_nonneg (a := (n : Int)) (by omega), IntKind.wrap_u32, IntKind.wrap_u8]; omega
  rw [v0, v1, v2, v3] at c1
  refine ⟨_, _, run_convert_bytes_back w1 _ _ 5 ⟨b1, 0, none⟩ 4 (laidB (n : Nat)) Tryz.underlying122 Tryz.underlying5 Tryz.underlying9 fun j hj => ?_, rfl, M1⟩
  rw [addr_add, Nat.zero_add, cell_at c1]
  have hj : j < 4 := hj
  match j, hj with
  | 0, _ => simp [laidB, lb_int]
  | 1, _ => simp [laidB, lb_int]
  | 2, _ => simp [laidB, lb_int]
  | 3, _ => simp [laidB, lb_int]
theorem RFrame_ok (s : ByteArray) (hs : s.size ≤ 1000000000000) (w : World) : Calls Tryz.prog 85 #[.string s] w fun e w' => e = .returned (.string (bs (frameB s))) ∧ Mod [] w w' := by
  refine go_of (ref02_Frame_go ?_)
  refine (R1Text_ok s hs w).mono ?_
  rintro e w1 ⟨rfl, M1⟩
  refine ⟨_, rfl, ?_⟩
  refine (RSum_ok s hs w1).mono ?_
  rintro e w2 ⟨rfl, M2⟩
  rw [crcN_U]
  refine ⟨_, rfl, ?_⟩
  refine (Four_ok (crcU_lt _) w2).mono ?_
  rintro e w3 ⟨rfl, M3⟩
  refine ⟨_, rfl, by have := (putT_len s (by omega)).2; rw [bs_size, bs_size]; simp only [laidB, List.length_cons, List.length_nil]; omega, ?_, M1.trans (M2.trans M3)⟩
  rw [bs_app, frameB, crcN_U]
end Go.Proofs.YtohgihgddknmmaaGreat

/- Are commands, calls, messages the same? The document's answers. -/
namespace Go.Proofs.YtohgihgddknmmaaGreat
open Go Go.RowKit
set_option linter.unusedVariables false
set_option linter.unusedSimpArgs false

theorem TextsR_ok {w : World} {a1 a2 : Option Addr} {n1 c1 n2 c2 : Nat} {l1 l2 : List ByteArray} (h1 : SlAt w 1 encS a1 n1 l1) (h2 : SlAt w 1 encS a2 n2 l2) (hl : l1.length ≤ 1000000) :
    Calls Tryz.prog 121 #[.slice a1 n1 c1, .slice a2 n2 c2] w fun e w' => e = .returned (.bool (decide (l1 = l2))) ∧ Mod [] w w' := by
  refine go_of (ref04_Texts_go ?_)
  have e1 := h1.1
  have e2 := h2.1
  refine brB_of (fun h => ⟨congrArg Value.bool (decide_eq_false fun e => ?_).symm, Mod.refl _⟩) fun h => ?_
  · subst e
    rw [e1, e2] at h
    simp at h
  have hlen : l1.length = l2.length := by
    simp at h
    omega
  refine ref04_Texts_rule1 (fun mm x w' => ∃ k : Nat, x = k ∧ k ≤ l1.length ∧ l1.take k = l2.take k ∧ Mod [] w w' ∧ mm = l1.length - k) l1.length ⟨0, rfl, by omega, by simp, Mod.refl _, rfl⟩ ?_
  rintro mm x w1 ⟨k, rfl, hk, ht, M, rfl⟩
  refine brB_dec (fun hlt => ?_) fun hge => ?_
  · have g1 : k < l1.length := by omega
    have g2 : k < l2.length := by omega
    obtain ⟨x, hx⟩ : ∃ x, l1[k]? = some x := ⟨_, List.getElem?_eq_getElem g1⟩
    obtain ⟨y, hy⟩ : ∃ y, l2[k]? = some y := ⟨_, List.getElem?_eq_getElem g2⟩
    refine (h1.keep0 M).ix hx fun q hq => ldStr_of (by simpa [add_zero] using hq 0 _ rfl) ?_
    refine (h2.keep0 M).ix hy fun q hq => ldStr_of (by simpa [add_zero] using hq 0 _ rfl) ?_
    rw [strEq x y]
    refine brB_of (fun hne => ?_) fun heq => ?_
    rotate_left
    rotate_right
    · intro w2 A2
      refine ⟨congrArg Value.bool (decide_eq_false fun e => (show ¬ x = y by simpa using hne) ?_).symm, M.go0 A2.mod (by simp)⟩
      subst e
      rw [hx] at hy
      exact Option.some.inj hy
    · intro w2 A2
      have he : x = y := by simpa using heq
      subst he
      exact ref04_Texts_leaf1 (l1.length - (k + 1)) (by omega) ⟨k + 1, by rw [wrap_id (by omega) (by omega)]; omega, by omega, take_step ht hx hy, M.go0 A2.mod (by simp), rfl⟩
  · have hk : k = l1.length := by omega
    subst hk
    rw [List.take_length, hlen, List.take_length] at ht
    exact ⟨congrArg Value.bool (decide_eq_true ht).symm, M⟩
theorem RecordsR_ok {w : World} {a1 a2 : Option Addr} {n1 c1 n2 c2 : Nat} {l1 l2 : List PRec} (h1 : SlAt w 4 encR a1 n1 l1) (h2 : SlAt w 4 encR a2 n2 l2) (hl : l1.length ≤ 1000000) :
    Calls Tryz.prog 150 #[.slice a1 n1 c1, .slice a2 n2 c2] w fun e w' => e = .returned (.bool (decide (l1 = l2))) ∧ Mod [] w w' := by
  refine go_of (ref03_Records_go ?_)
  have e1 := h1.1
  have e2 := h2.1
  refine brB_of (fun h => ⟨congrArg Value.bool (decide_eq_false fun e => ?_).symm, Mod.refl _⟩) fun h => ?_
  · subst e
    rw [e1, e2] at h
    simp at h
  have hlen : l1.length = l2.length := by
    simp at h
    omega
  refine ref03_Records_rule1 (fun mm x w' => ∃ k : Nat, x = k ∧ k ≤ l1.length ∧ l1.take k = l2.take k ∧ Mod [] w w' ∧ mm = l1.length - k) l1.length ⟨0, rfl, by omega, by simp, Mod.refl _, rfl⟩ ?_
  rintro mm x w1 ⟨k, rfl, hk, ht, M, rfl⟩
  refine brB_dec (fun hlt => ?_) fun hge => ?_
  · have g1 : k < l1.length := by omega
    have g2 : k < l2.length := by omega
    obtain ⟨x, hx⟩ : ∃ x, l1[k]? = some x := ⟨_, List.getElem?_eq_getElem g1⟩
    obtain ⟨y, hy⟩ : ∃ y, l2[k]? = some y := ⟨_, List.getElem?_eq_getElem g2⟩
    refine (h1.keep0 M).ix hx fun q hq => ldBool_of (by simpa [add_zero] using hq 0 _ rfl) (ldStr_of (hq 1 _ rfl) (ldBool_of (hq 2 _ rfl) (ldStr_of (hq 3 _ rfl) ?_)))
    refine (h2.keep0 M).ix hy fun q hq => ldBool_of (by simpa [add_zero] using hq 0 _ rfl) (ldStr_of (hq 1 _ rfl) (ldBool_of (hq 2 _ rfl) (ldStr_of (hq 3 _ rfl) ?_)))
    refine ⟨_, fun w' _ => neR x y _ _ w', ?_⟩
    refine brB_dec (fun hne => ?_) fun heq => ?_
    · intro w2 A2
      refine ⟨congrArg Value.bool (decide_eq_false fun e => hne ?_).symm, M.go0 A2.mod (by simp)⟩
      subst e
      rw [hx] at hy
      exact Option.some.inj hy
    · intro w2 A2
      have he : x = y := Decidable.not_not.1 heq
      subst he
      exact ref03_Records_leaf1 (l1.length - (k + 1)) (by omega) ⟨k + 1, by rw [wrap_id (by omega) (by omega)]; omega, by omega, take_step ht hx hy, M.go0 A2.mod (by simp), rfl⟩
  · have hk : k = l1.length := by omega
    subst hk
    rw [List.take_length, hlen, List.take_length] at ht
    exact ⟨congrArg Value.bool (decide_eq_true ht).symm, M⟩
theorem BatchR_ok {w : World} {x y : PBatch} {s t : Sl} (h1 : SlAt w 4 encR s.a s.n x.recs) (h2 : SlAt w 4 encR t.a t.n y.recs) (hl : x.recs.length ≤ 1000000) :
    Calls Tryz.prog 120 #[x.v s, y.v t] w fun e w' => e = .returned (.bool (decide (x = y))) ∧ Mod [] w w' := by
  obtain ⟨a1, a2, a3, a4⟩ := x
  obtain ⟨b1, b2, b3, b4⟩ := y
  refine go_of (ref03_Same_go ?_)
  intro c1 f1 c2 f2
  simp only [PBatch.mk.injEq]
  refine brB_of (fun g1 => ?_) fun g1 => ?_
  · have g1 : a1 = b1 := by simpa using g1
    refine brB_of (fun g2 => ?_) fun g2 => ?_
    · have g2 : a2 = b2 := by simpa using g2
      refine brB_of (fun g3 => ?_) fun g3 => ?_
      · have g3 : a3 = b3 := by simpa using g3
        intro w1 A1
        refine (RecordsR_ok (h1.keep0 A1.mod) (h2.keep0 A1.mod) hl).mono ?_
        rintro e w2 ⟨rfl, M2⟩
        exact ⟨_, rfl, Keep.of0 M2, by simp [g1, g2, g3], A1.mod.go0 M2 (by simp)⟩
      · intro w1 A1
        exact ⟨congrArg Value.bool (decide_eq_false (by simp at g3; rintro ⟨_, _, h, _⟩; exact g3 h)).symm, A1.mod⟩
    · intro w1 A1
      exact ⟨congrArg Value.bool (decide_eq_false (by simp at g2; rintro ⟨_, h, _⟩; exact g2 h)).symm, A1.mod⟩
  · intro w1 A1
    exact ⟨congrArg Value.bool (decide_eq_false (by simp at g1; rintro ⟨h, _⟩; exact g1 h)).symm, A1.mod⟩

theorem ldOp_of {w : World} {a : Addr} {o : POp} {rs ts : Sl} {F : Int → ByteArray → Int → Int → Int → Int → Int → Int → Option Addr → Nat → Nat → ByteArray → ByteArray → Int → Bool → Option Addr → Nat → Nat → Prop} (h : ∀ j v, (o.cs rs ts)[j]? = some v → w.cell? (a.add j) = some v) (hF : F o.kind o.part.t o.part.n o.n o.off o.b.prod o.b.epoch o.b.seq rs.a rs.n rs.c o.g o.m o.gen o.robin ts.a ts.n ts.c) :
    ldInt .i64 w a fun x0 => ldStr w (a.add 1) fun x1 => ldInt .i64 w (a.add 2) fun x2 => ldInt .i64 w (a.add 3) fun x3 => ldInt .i64 w (a.add 4) fun x4 => ldInt .i64 w (a.add 5) fun x5 => ldInt .i64 w (a.add 6) fun x6 => ldInt .i64 w (a.add 7) fun x7 => ldSlice w (a.add 8) fun a8 n8 c8 => ldStr w (a.add 9) fun x9 => ldStr w (a.add 10) fun x10 => ldInt .i64 w (a.add 11) fun x11 => ldBool w (a.add 12) fun x12 => ldSlice w (a.add 13) fun a13 n13 c13 => F x0 x1 x2 x3 x4 x5 x6 x7 a8 n8 c8 x9 x10 x11 x12 a13 n13 c13 :=
  ldInt_of (x := o.kind) (by simpa [add_zero] using h 0 _ rfl) (ldStr_of (h 1 _ rfl) (ldInt_of (h 2 _ rfl) (ldInt_of (h 3 _ rfl) (ldInt_of (h 4 _ rfl) (ldInt_of (h 5 _ rfl) (ldInt_of (h 6 _ rfl) (ldInt_of (h 7 _ rfl) (ldSlice_of (h 8 _ rfl) (ldStr_of (h 9 _ rfl) (ldStr_of (h 10 _ rfl) (ldInt_of (h 11 _ rfl) (ldBool_of (h 12 _ rfl) (ldSlice_of (h 13 _ rfl) hF)))))))))))))

theorem OpR_ok {w : World} {x y : POp} {rs ts rs' ts' : Sl} (h1 : OpAt w x rs ts) (h2 : OpAt w y rs' ts') :
    Calls Tryz.prog 74 #[x.v rs ts, y.v rs' ts'] w fun e w' => e = .returned (.bool (decide (x = y))) ∧ Mod [] w w' := by
  obtain ⟨k1, p1, n1, o1, b1, g1, m1, e1, r1, t1⟩ := x
  obtain ⟨k2, p2, n2, o2, b2, g2, m2, e2, r2, t2⟩ := y
  refine go_of (ref04_Same_go ?_)
  intro c1 f1 c2 f2
  simp only [POp.mk.injEq]
  have no : ∀ {P : Prop} [Decidable P] {w' : World}, ¬ P → Mod [] w w' → (Value.bool false = Value.bool (decide P) ∧ Mod [] w w') := fun hn M => ⟨congrArg Value.bool (decide_eq_false hn).symm, M⟩
  refine brB_of (fun q1 => ?_) fun q1 => ?_
  rotate_left
  · intro w1 A1
    exact no (by simp at q1; rintro ⟨h, _⟩; exact q1 h) A1.mod
  have q1 : k1 = k2 := by simpa using q1
  intro w1 A1
  have M1 := A1.mod
  refine ⟨_, fun w' _ => eqPp p1 p2 _ _ w', brB_of (fun q2 => ?_) fun q2 => no (by simp at q2; rintro ⟨_, h, _⟩; exact q2 h) M1⟩
  have q2 : p1 = p2 := by simpa using q2
  refine brB_of (fun q3 => ?_) fun q3 => no (by simp at q3; rintro ⟨_, _, h, _⟩; exact q3 h) M1
  have q3 : n1 = n2 := by simpa using q3
  refine brB_of (fun q4 => ?_) fun q4 => no (by simp at q4; rintro ⟨_, _, _, h, _⟩; exact q4 h) M1
  have q4 : o1 = o2 := by simpa using q4
  refine (BatchR_ok (x := b1) (y := b2) (s := rs) (t := rs') (h1.recs.keep0 M1) (h2.recs.keep0 M1) h1.lr).mono ?_
  rintro e w2 ⟨rfl, M2⟩
  have N2 := M1.go0 M2 (by simp)
  refine ⟨_, rfl, Keep.of0 M2, brB_of (fun q9 => ?_) fun q9 => no (by simp at q9; rintro ⟨_, _, _, _, h, _⟩; exact q9 h) N2⟩
  have q9 : b1 = b2 := by simpa using q9
  rw [strEq, strEq]
  refine brB_of (fun q5 => ?_) fun q5 => no (by simp at q5; rintro ⟨_, _, _, _, _, h, _⟩; exact q5 h) N2
  have q5 : g1 = g2 := by simpa using q5
  refine brB_of (fun q6 => ?_) fun q6 => no (by simp at q6; rintro ⟨_, _, _, _, _, _, h, _⟩; exact q6 h) N2
  have q6 : m1 = m2 := by simpa using q6
  refine brB_of (fun q7 => ?_) fun q7 => no (by simp at q7; rintro ⟨_, _, _, _, _, _, _, h, _⟩; exact q7 h) N2
  have q7 : e1 = e2 := by simpa using q7
  refine brB_of (fun q8 => ?_) fun q8 => no (by simp at q8; rintro ⟨_, _, _, _, _, _, _, _, h, _⟩; exact q8 h) N2
  have q8 : r1 = r2 := by simpa using q8
  refine (TextsR_ok (h1.topics.keep0 N2) (h2.topics.keep0 N2) h1.lt).mono ?_
  rintro e w3 ⟨rfl, M3⟩
  exact ⟨_, rfl, Keep.of0 M3, by simp [q1, q2, q3, q4, q5, q6, q7, q8, q9], N2.go0 M3 (by simp)⟩

theorem op_cells {w : World} {q : CV} {a : Addr} (h : ∀ j v, q.cs[j]? = some v → w.cell? (a.add j) = some v) : ∀ j v, (q.x.op.cs q.rs q.ts)[j]? = some v → w.cell? ((a.add 2).add j) = some v := fun j v hv => by
  rw [add_add, Nat.add_comm 2 j]
  exact h (j + 2) v hv
theorem CallsR_ok {w : World} {s t : Sl} {xs ys : List PCall} (h : CallsAt w s xs) (h' : CallsAt w t ys) (hl : xs.length ≤ 1000000) :
    Calls Tryz.prog 28 #[.slice s.a s.n s.c, .slice t.a t.n t.c] w fun e w' => e = .returned (.bool (decide (xs = ys))) ∧ Mod [] w w' := by
  obtain ⟨la, hA, gA, rfl⟩ := h
  obtain ⟨lb, hB, gB, rfl⟩ := h'
  have hl : la.length ≤ 1000000 := by simpa using hl
  have e1 := hA.1
  have e2 := hB.1
  refine go_of (ref16_Same_go ?_)
  refine brB_of (fun g => ⟨congrArg Value.bool (decide_eq_false fun e => ?_).symm, Mod.refl _⟩) fun g => ?_
  · have := congrArg List.length e
    simp at this g
    omega
  have g : la.length = lb.length := by simp at g; omega
  refine ref16_Same_rule1 (fun mm x w' => ∃ k : Nat, x = k ∧ k ≤ la.length ∧ (la.take k).map (·.x) = (lb.take k).map (·.x) ∧ Mod [] w w' ∧ mm = la.length - k) la.length ⟨0, rfl, by omega, by simp, Mod.refl _, rfl⟩ ?_
  rintro mm x w1 ⟨k, rfl, hk, ht, M1, rfl⟩
  refine brB_dec (fun hlt => ?_) fun hge => ?_
  · have g1 : k < la.length := by omega
    have g2 : k < lb.length := by omega
    obtain ⟨x, hx⟩ : ∃ x, la[k]? = some x := ⟨_, List.getElem?_eq_getElem g1⟩
    obtain ⟨y, hy⟩ : ∃ y, lb[k]? = some y := ⟨_, List.getElem?_eq_getElem g2⟩
    have bad : ∀ {w'}, x.x ≠ y.x → Mod [] w w' → (Value.bool false = Value.bool (decide (la.map (·.x) = lb.map (·.x))) ∧ Mod [] w w') := fun {w'} hne M => by
      refine ⟨congrArg Value.bool (decide_eq_false fun e => hne ?_).symm, M⟩
      have := congrArg (fun l : List PCall => l[k]?) e
      simpa [hx, hy] using this
    refine (hA.keep0 M1).ixW hx fun q hq => ?_
    intro w2 A2
    have hq := hq w2 A2.mod
    have N2 := M1.go0 A2.mod (by simp)
    refine ldInt_of (x := x.x.c) (by simpa [add_zero] using hq 0 _ rfl) ?_
    refine (hB.keep0 N2).ix hy fun q' hq' => ldInt_of (x := y.x.c) (by simpa [add_zero] using hq' 0 _ rfl) ?_
    refine brB_of (fun h1 => bad (fun e => by simp [e] at h1) N2) fun h1 => ?_
    have h1 : x.x.c = y.x.c := by simpa using h1
    refine (hA.keep0 N2).ix hx fun q hq => ldInt_of (x := x.x.n) (hq 1 _ rfl) ?_
    refine (hB.keep0 N2).ix hy fun q' hq' => ldInt_of (x := y.x.n) (hq' 1 _ rfl) ?_
    refine brB_of (fun h2 => bad (fun e => by simp [e] at h2) N2) fun h2 => ?_
    have h2 : x.x.n = y.x.n := by simpa using h2
    refine (hA.keep0 N2).ix hx fun q hq => ldOp_of (op_cells hq) ?_
    refine (hB.keep0 N2).ix hy fun q' hq' => ldOp_of (op_cells hq') ?_
    refine (OpR_ok ((gA x (List.mem_of_getElem? hx)).keep0 N2) ((gB y (List.mem_of_getElem? hy)).keep0 N2)).mono ?_
    rintro e w3 ⟨rfl, M3⟩
    have N3 := N2.go0 M3 (by simp)
    refine ⟨_, rfl, brB_of (fun h3 => bad (fun e => by simp [e] at h3) N3) fun h3 => ?_⟩
    have h3 : x.x.op = y.x.op := by simpa using h3
    have he : x.x = y.x := by
      obtain ⟨⟨a, b, c⟩, _, _⟩ := x
      obtain ⟨⟨a', b', c'⟩, _, _⟩ := y
      simp at h1 h2 h3 ⊢; exact ⟨h1, h2, h3⟩
    exact ref16_Same_leaf1 (la.length - (k + 1)) (by omega) ⟨k + 1, by rw [wrap_id (by omega) (by omega)]; omega, by omega, by rw [List.take_add_one, List.take_add_one, hx, hy, List.map_append, List.map_append, ht]; simp [he], N3, rfl⟩
  · have hk : k = la.length := by omega
    subst hk
    rw [List.take_length, g, List.take_length] at ht
    exact ⟨congrArg Value.bool (decide_eq_true ht).symm, M1⟩

end Go.Proofs.YtohgihgddknmmaaGreat

/- The document's check of a command. -/
namespace Go.Proofs.YtohgihgddknmmaaGreat
open Go Go.RowKit
set_option linter.unusedVariables false
set_option linter.unusedSimpArgs false

/-! ### letters -/
def hasS (k : Int) : ByteArray := ⟨((hasL k).map UInt8.ofNat).toArray⟩
def amongB (s : ByteArray) (c : Int) : Bool := s.data.toList.any fun b => decide ((b.toNat : Int) = c)
theorem kind_cases {k : Int} (h0 : 0 ≤ k) (h1 : k ≤ 12) : k = 0 ∨ k = 1 ∨ k = 2 ∨ k = 3 ∨ k = 4 ∨ k = 5 ∨ k = 6 ∨ k = 7 ∨ k = 8 ∨ k = 9 ∨ k = 10 ∨ k = 11 ∨ k = 12 := by omega
theorem has_ok {k : Int} (h0 : 0 ≤ k) (h1 : k ≤ 12) (w : World) : Calls Tryz.prog 105 #[.int .i64 k] w fun e w' => e = .returned (.string (hasS k)) ∧ Mod [] w w' := by
  refine go_of (ref04_has_go ?_)
  refine al_of fun b w1 c1 M1 f1 => ?_
  rcases kind_cases h0 h1 with rfl | rfl | rfl | rfl | rfl | rfl | rfl | rfl | rfl | rfl | rfl | rfl | rfl
  all_goals exact ⟨_, rfl, by decide, by decide, ldStr_of (by rw [addr_add, cell_at c1]; rfl) ⟨rfl, M1⟩⟩
theorem Among_ok (s : ByteArray) (hs : s.size ≤ 1000000) (c : Int) (w : World) : Calls Tryz.prog 107 #[.string s, .int .u8 c] w fun e w' => e = .returned (.bool (amongB s c)) ∧ w' = w := by
  refine go_of (ref04_among_go ?_)
  refine ref04_among_rule1 (fun mm x w' => ∃ k : Nat, x = k ∧ k ≤ s.size ∧ ((s.data.toList.take k).any fun b => decide ((b.toNat : Int) = c)) = false ∧ w' = w ∧ mm = s.size - k) s.size ⟨0, rfl, by omega, by simp, rfl, rfl⟩ ?_
  rintro mm x w' ⟨k, rfl, hk, ha, rfl, rfl⟩
  refine brB_dec (fun hlt => ?_) fun hge => ?_
  · have hk' : k < s.size := by omega
    obtain ⟨b, hb, hv⟩ := byteAt_mem hk'
    refine ⟨by omega, by omega, ?_⟩
    rw [Int.toNat_natCast, hv]
    refine brB_of (fun g => ⟨congrArg Value.bool ?_, rfl⟩) fun g => ?_
    · have g : (b.toNat : Int) = c := by simpa using g
      symm
      rw [amongB, List.any_eq_true]
      exact ⟨b, List.mem_of_getElem? hb, by simp [g]⟩
    · have g : ¬ (b.toNat : Int) = c := by simpa using g
      refine ref04_among_leaf1 (s.size - (k + 1)) (by omega) ⟨k + 1, by rw [wrap_id (by omega) (by omega)]; omega, by omega, ?_, rfl, rfl⟩
      rw [take_any hb, ha]; simp [g]
  · have hk : k = s.size := by omega
    subst hk
    rw [List.take_of_length_le (by simp)] at ha
    exact ⟨by rw [amongB, ha], rfl⟩
theorem among_ha {k : Int} (h0 : 0 ≤ k) (h1 : k ≤ 12) : ∀ c ∈ [112, 116, 110, 111, 98, 103, 109, 101, 114, 108], amongB (hasS k) ((c : Nat) : Int) = ha k c := by
  rcases kind_cases h0 h1 with rfl | rfl | rfl | rfl | rfl | rfl | rfl | rfl | rfl | rfl | rfl | rfl | rfl
  all_goals decide
theorem AmongK_ok {k : Int} (h0 : 0 ≤ k) (h1 : k ≤ 12) {c : Nat} (hc : c ∈ [112, 116, 110, 111, 98, 103, 109, 101, 114, 108]) (w : World) : Calls Tryz.prog 107 #[.string (hasS k), .int .u8 (c : Nat)] w fun e w' => e = .returned (.bool (ha k c)) ∧ w' = w := by
  have := Among_ok (hasS k) (by rcases kind_cases h0 h1 with rfl | rfl | rfl | rfl | rfl | rfl | rfl | rfl | rfl | rfl | rfl | rfl | rfl <;> decide) (c : Nat) w
  rwa [among_ha h0 h1 c hc] at this

/-! ### texts in order -/
theorem less_drop : ∀ (k : Nat) (x y : List UInt8), x.take k = y.take k → k ≤ x.length → k ≤ y.length → Op.bytesLess x y = Op.bytesLess (x.drop k) (y.drop k)
  | 0, x, y, _, _, _ => rfl
  | k + 1, [], _, _, h, _ => by simp at h
  | k + 1, _, [], _, _, h => by simp at h
  | k + 1, a :: x, b :: y, h, h1, h2 => by
    simp at h
    obtain ⟨rfl, h⟩ := h
    rw [List.drop_succ_cons, List.drop_succ_cons, ← less_drop k x y h (by simpa using h1) (by simpa using h2), Op.bytesLess]
    have : ¬ a < a := UInt8.lt_irrefl a
    simp [this]
theorem LessR_ok (s t : ByteArray) (hs : s.size ≤ 1000000) (w : World) : Calls Tryz.prog 144 #[.string s, .string t] w fun e w' => e = .returned (.bool (lessB s t)) ∧ Mod [] w w' := by
  refine go_of (ref04_Less_go ?_)
  have hl : lessB s t = Op.bytesLess s.data.toList t.data.toList := by rw [lessB, Lib.toList_data, Lib.toList_data]
  have l1 : s.data.toList.length = s.size := by simp
  have l2 : t.data.toList.length = t.size := by simp
  refine ref04_Less_rule1 (fun mm x w' => ∃ k : Nat, x = k ∧ k ≤ s.size ∧ k ≤ t.size ∧ s.data.toList.take k = t.data.toList.take k ∧ Mod [] w w' ∧ mm = s.size - k) s.size ⟨0, rfl, by omega, by omega, by simp, Mod.refl _, rfl⟩ ?_
  rintro mm x w' ⟨k, rfl, hk, hk2, ht, M, rfl⟩
  have hd : lessB s t = Op.bytesLess (s.data.toList.drop k) (t.data.toList.drop k) := by rw [hl, less_drop k _ _ ht (by omega) (by omega)]
  have dn : ∀ (l : List UInt8), l.length ≤ k → l.drop k = [] := fun l h => List.drop_eq_nil_of_le h
  refine brB_dec (fun hlt => ?_) fun hge => ?_
  · refine brB_dec (fun hlt2 => ?_) fun hge2 => ?_
    · obtain ⟨a, ha, hva⟩ := byteAt_mem (s := s) (k := k) (by omega)
      obtain ⟨b, hb, hvb⟩ := byteAt_mem (s := t) (k := k) (by omega)
      refine ⟨by omega, by omega, by omega, by omega, ?_⟩
      rw [Int.toNat_natCast, hva, hvb]
      refine brB_of (fun g => ⟨by omega, by omega, by omega, by omega, ?_⟩) fun g => ?_
      · rw [Int.toNat_natCast, hva, hvb]
        intro w2 A2
        refine ⟨congrArg Value.bool ?_, M.go0 A2.mod (by simp)⟩
        have g : a ≠ b := fun e => by simp [e] at g
        have ea := List.getElem?_eq_some_iff.1 ha
        have eb := List.getElem?_eq_some_iff.1 hb
        rw [hd, List.drop_eq_getElem_cons ea.1, List.drop_eq_getElem_cons eb.1, ea.2, eb.2, Op.bytesLess]
        have : (a == b) = false := by simpa using g
        rw [this]
        simp [UInt8.lt_iff_toNat_lt]
      · have g : a = b := by
          have : (a.toNat : Int) = b.toNat := by simpa using g
          exact UInt8.toNat_inj.1 (by omega)
        subst g
        intro w2 A2
        exact ref04_Less_leaf1 (s.size - (k + 1)) (by omega) ⟨k + 1, by rw [wrap_id (by omega) (by omega)]; omega, by omega, by omega, take_step ht ha hb, M.go0 A2.mod (by simp), rfl⟩
    · refine ⟨congrArg Value.bool ?_, M⟩
      rw [hd, dn t.data.toList (by omega)]
      have : ¬ ((s.size : Int) < (t.size : Int)) := by omega
      rw [decide_eq_false this]
      cases (s.data.toList.drop k) <;> rfl
  · refine ⟨congrArg Value.bool ?_, M⟩
    rw [hd, dn s.data.toList (by omega)]
    by_cases h2 : t.size ≤ k
    · rw [dn t.data.toList (by omega), decide_eq_false (by omega)]; rfl
    · rw [decide_eq_true (by omega), List.drop_eq_getElem_cons (l := t.data.toList) (by omega)]; rfl
theorem NamesR_ok {w : World} {l : List ByteArray} {ts : Sl} (h : SlAt w 1 encS ts.a ts.n l) :
    Calls Tryz.prog 109 #[.slice ts.a ts.n ts.c] w fun e w' => e = .returned (.bool (namesB l)) ∧ Mod [] w w' := by
  have hn := h.1
  refine go_of (ref04_names_go ?_)
  refine brB_dec (fun g => ⟨by rw [namesB, decide_eq_false (by omega)]; rfl, Mod.refl _⟩) fun g1 => ?_
  refine brB_dec (fun g => ⟨by rw [namesB, decide_eq_false (by omega)]; rfl, Mod.refl _⟩) fun g2 => ?_
  have hN : namesB l = (l.all nameB && riseB l) := by rw [namesB, decide_eq_true (by omega)]; simp
  have no1 : ∀ {w' : World}, l.all nameB = false → Mod [] w w' → (Value.bool false = Value.bool (namesB l) ∧ Mod [] w w') := fun hf M => ⟨by rw [hN, hf]; rfl, M⟩
  have no2 : ∀ {w' : World}, riseB l = false → Mod [] w w' → (Value.bool false = Value.bool (namesB l) ∧ Mod [] w w') := fun hf M => ⟨by rw [hN, hf]; simp, M⟩
  have pre : ∀ k : Nat, riseB (l.take k) = false → riseB l = false := fun k => by
    induction hm : l.length - k generalizing k with
    | zero => intro hf; rwa [List.take_of_length_le (by omega)] at hf
    | succ n ih =>
      intro hf
      refine ih (k + 1) (by omega) ?_
      cases k with
      | zero => simp [riseB] at hf
      | succ k =>
        obtain ⟨x, hx⟩ : ∃ x, l[k]? = some x := ⟨_, List.getElem?_eq_getElem (by omega)⟩
        obtain ⟨y, hy⟩ : ∃ y, l[k + 1]? = some y := ⟨_, List.getElem?_eq_getElem (by omega)⟩
        rw [rise_take hx hy, hf]; rfl
  refine ref04_names_rule1 (fun mm x w' => ∃ k : Nat, x = k ∧ k ≤ l.length ∧ (l.take k).all nameB = true ∧ riseB (l.take k) = true ∧ Mod [] w w' ∧ mm = l.length - k) l.length ⟨0, rfl, by omega, by simp, by simp [riseB], Mod.refl _, rfl⟩ ?_
  rintro mm x w1 ⟨k, rfl, hk, ha, hr, M1, rfl⟩
  refine brB_dec (fun hlt => ?_) fun hge => ?_
  · obtain ⟨x, hx⟩ : ∃ x, l[k]? = some x := ⟨_, List.getElem?_eq_getElem (by omega)⟩
    refine (h.keep0 M1).ixW hx fun q hq => ?_
    intro w2 A2
    have N2 := M1.go0 A2.mod (by simp)
    refine ldStr_of (x := x) (by simpa [add_zero] using hq w2 A2.mod 0 _ rfl) ?_
    refine (RName_ok x w2).mono ?_
    rintro e w3 ⟨rfl, rfl⟩
    have ew : IntKind.wrap .i64 ((k : Int) + 1) = ((k + 1 : Nat) : Int) := by rw [wrap_id (by omega) (by omega)]; omega
    refine ⟨_, rfl, brB_of (fun g => no1 ?_ N2) fun g => ?_⟩
    · rw [List.all_eq_false]; exact ⟨x, List.mem_of_getElem? hx, by rw [notT g]; decide⟩
    have hx1 : nameB x = true := notF g
    have ha' : (l.take (k + 1)).all nameB = true := by rw [take_all hx, ha, hx1]; rfl
    refine brB_dec (fun g3 => ?_) fun g3 => ?_
    · obtain ⟨j, rfl⟩ : ∃ j, k = j + 1 := ⟨k - 1, by omega⟩
      obtain ⟨y, hy⟩ : ∃ y, l[j]? = some y := ⟨_, List.getElem?_eq_getElem (by omega)⟩
      rw [show IntKind.wrap .i64 (((j + 1 : Nat) : Int) - 1) = ((j : Nat) : Int) by rw [wrap_id (by omega) (by omega)]; omega]
      refine (h.keep0 N2).ix hy fun q hq => ldStr_of (x := y) (by simpa [add_zero] using hq 0 _ rfl) ?_
      refine (h.keep0 N2).ix hx fun q hq => ldStr_of (x := x) (by simpa [add_zero] using hq 0 _ rfl) ?_
      have hys : y.size ≤ 16 := by
        have := List.all_eq_true.1 ha y (List.mem_of_getElem? (i := j) (by rw [List.getElem?_take]; simp [hy]))
        simp [nameB] at this; omega
      refine (LessR_ok y x (by omega) _).mono ?_
      rintro e w4 ⟨rfl, M4⟩
      have N4 := N2.go0 M4 (by simp)
      refine ⟨_, rfl, brB_of (fun g => no2 (pre (j + 2) ?_) N4) fun g => ?_⟩
      · rw [rise_take hy hx, notT g]; simp
      · exact ref04_names_leaf1 (l.length - (j + 1 + 1)) (by omega) ⟨j + 1 + 1, ew, by omega, ha', by rw [rise_take hy hx, notF g, hr]; rfl, N4, rfl⟩
    · have hk0 : k = 0 := by omega
      subst hk0
      refine ref04_names_leaf1 (l.length - (0 + 1)) (by omega) ⟨0 + 1, ew, by omega, ha', ?_, N2, rfl⟩
      cases l <;> simp [riseB]
  · have : k = l.length := by omega
    subst this
    rw [List.take_length] at ha hr
    exact ⟨by rw [hN, ha, hr]; rfl, M1⟩

/-! ### batches -/
theorem AllR3_ok {w : World} {b : PBatch} {rs : Sl} (h : SlAt w 4 encR rs.a rs.n b.recs) :
    Calls Tryz.prog 111 #[b.v rs] w fun e w' => e = .returned (.int .i64 (batchE b)) ∧ Mod [] w w' := by
  refine go_of (ref03_All_go ?_)
  have hn := h.1
  intro b1 f1 w1 A1
  have l1 := A1.lt b1 (by simp)
  have bad : ∀ {k : Int} {w' : World}, batchE b = k → Mod [] w w' → (Value.int .i64 k = Value.int .i64 (batchE b) ∧ Mod [] w w') := fun e M => ⟨by rw [e], M⟩
  refine (Num3_ok b.prod w1).mono ?_
  rintro e w2 ⟨rfl, rfl⟩
  refine ⟨_, rfl, Keep.of0 (Mod.refl _), brB_of (fun q1 => bad (by rw [batchE, if_pos (by rw [notT q1]; rfl)]) A1.mod) fun q1 => ?_⟩
  refine (Num3_ok b.epoch w2).mono ?_
  rintro e w3 ⟨rfl, rfl⟩
  refine ⟨_, rfl, Keep.of0 (Mod.refl _), brB_of (fun q2 => bad (by rw [batchE, if_pos (by rw [notT q2]; simp)]) A1.mod) fun q2 => ?_⟩
  refine (Num3_ok b.seq w3).mono ?_
  rintro e w4 ⟨rfl, rfl⟩
  refine ⟨_, rfl, Keep.of0 (Mod.refl _), brB_of (fun q3 => bad (by rw [batchE, if_pos (by rw [notT q3]; simp)]) A1.mod) fun q3 => ?_⟩
  have e0 : batchE b = if b.recs.length = 0 then 30 else if b.recs.length > 16 then 2 else match b.recs.find? fun r => recE r ≠ 0 with | none => 0 | some r => recE r := by
    rw [batchE, if_neg (by rw [notF q1, notF q2, notF q3]; decide)]; rfl
  refine brB_of (fun q4 => bad (by rw [e0, if_pos (by simp at q4; omega)]) A1.mod) fun q4 => ?_
  rw [if_neg (by simp at q4; omega)] at e0
  refine brB_dec (fun q5 => bad (by rw [e0, if_pos (by omega)]) A1.mod) fun q5 => ?_
  rw [if_neg (by omega)] at e0
  refine ref03_All_rule1 (fun mm x w' => ∃ k : Nat, x = k ∧ k ≤ b.recs.length ∧ (∀ y ∈ b.recs.take k, recE y = 0) ∧ Mod [] w w' ∧ mm = b.recs.length - k) b.recs.length ⟨0, rfl, by omega, by simp, A1.mod, rfl⟩ ?_
  rintro mm x w5 ⟨k, rfl, hk, hz, M5, rfl⟩
  refine brB_dec (fun hlt => ?_) fun hge => ?_
  · obtain ⟨y, hy⟩ : ∃ y, b.recs[k]? = some y := ⟨_, List.getElem?_eq_getElem (by omega)⟩
    refine (h.keep0 M5).ix hy fun q hq => ldBool_of (by simpa [add_zero] using hq 0 _ rfl) (ldStr_of (hq 1 _ rfl) (ldBool_of (hq 2 _ rfl) (ldStr_of (hq 3 _ rfl) ?_)))
    refine (RefCheck_ok y w5).mono ?_
    rintro e w7 ⟨rfl, M7⟩
    have N7 := M5.go0 M7 (by simp)
    refine ⟨_, rfl, Keep.of0 M7, brB_of (fun q6 => ?_) fun q6 => ?_⟩
    · have q6 : recE y ≠ 0 := by simpa using q6
      exact bad (by rw [e0, find_take hy hz q6]) N7
    · have q6 : recE y = 0 := by simpa using q6
      refine ref03_All_leaf1 (b.recs.length - (k + 1)) (by omega) ⟨k + 1, by rw [wrap_id (by omega) (by omega)]; omega, by omega, ?_, N7, rfl⟩
      rw [List.take_add_one, hy]
      intro z hz'
      rcases List.mem_append.1 hz' with h | h
      · exact hz z h
      · simp at h; subst h; exact q6
  · have : k = b.recs.length := by omega
    subst this
    rw [List.take_length] at hz
    refine bad ?_ M5
    rw [e0, List.find?_eq_none.2 (by intro y hy; simp [hz y hy])]
end Go.Proofs.YtohgihgddknmmaaGreat

/- The document's check of a command is the checker's. -/
namespace Go.Proofs.YtohgihgddknmmaaGreat
open Go Go.RowKit
set_option linter.unusedVariables false
set_option linter.unusedSimpArgs false

theorem emptyS (s : ByteArray) : (s.toList == (⟨#[]⟩ : ByteArray).toList) = emptyB s := by
  rw [strEq, emptyB]
  apply Bool.eq_iff_iff.2
  simp only [decide_eq_true_eq]
  constructor
  · rintro rfl; rfl
  · intro h; exact ByteArray.ext (Array.eq_empty_of_size_eq_zero h)
theorem decN (x : Int) : decide (x = 0) = !(x != 0) := by
  by_cases h : x = 0 <;> simp [h]
theorem b0_eq (b : PBatch) (n : Nat) (hr : n = b.recs.length) : decide (b = batch0) = (!(b.prod != 0) && !(b.epoch != 0) && !(b.seq != 0) && !(decide ((n : Int) > 0))) := by
  obtain ⟨b1, b2, b3, b4⟩ := b
  subst hr
  by_cases h1 : b1 = 0 <;> by_cases h2 : b2 = 0 <;> by_cases h3 : b3 = 0 <;> cases b4 <;> simp [batch0, h1, h2, h3] <;> omega
theorem onlyB_eq {o : POp} {rs ts : Sl} (hr : rs.n = o.b.recs.length) (ht : ts.n = o.topics.length) : onlyB o = (((ha o.kind 112 || ha o.kind 116 || (o.part.t.toList == (⟨#[]⟩ : ByteArray).toList)) && (ha o.kind 112 || !(o.part.n != 0)) && (ha o.kind 110 || !(o.n != 0)) && (ha o.kind 111 || !(o.off != 0))) && (ha o.kind 98 || (!(o.b.prod != 0) && !(o.b.epoch != 0) && !(o.b.seq != 0) && !(decide ((rs.n : Int) > 0)))) && ((ha o.kind 103 || (o.g.toList == (⟨#[]⟩ : ByteArray).toList)) && (ha o.kind 109 || (o.m.toList == (⟨#[]⟩ : ByteArray).toList)) && (ha o.kind 101 || !(o.gen != 0))) && (ha o.kind 114 || (!o.robin && ((ts.n : Int) == 0)))) := by
  have ht0 : decide (o.topics = []) = ((ts.n : Int) == 0) := by
    rw [ht]
    cases o.topics <;> simp
    omega
  unfold onlyB
  rw [b0_eq o.b rs.n hr, ht0, emptyS, emptyS, emptyS, decN, decN, decN, decN]
  simp only [Bool.and_assoc]
set_option maxHeartbeats 4000000 in
theorem Only_ok {w : World} {o : POp} {rs ts : Sl} (h0 : 0 ≤ o.kind) (h1 : o.kind ≤ 12) (hr : rs.n = o.b.recs.length) (ht : ts.n = o.topics.length) :
    Calls Tryz.prog 106 #[o.v rs ts] w fun e w' => e = .returned (.bool (onlyB o)) ∧ Mod [] w w' := by
  have hO := onlyB_eq hr ht
  have A112 : ∀ w, Calls Tryz.prog 107 #[.string (hasS o.kind), .int .u8 112] w fun e w' => e = .returned (.bool (ha o.kind 112)) ∧ w' = w := fun w => AmongK_ok h0 h1 (c := 112) (by decide) w
  have A116 : ∀ w, Calls Tryz.prog 107 #[.string (hasS o.kind), .int .u8 116] w fun e w' => e = .returned (.bool (ha o.kind 116)) ∧ w' = w := fun w => AmongK_ok h0 h1 (c := 116) (by decide) w
  have A110 : ∀ w, Calls Tryz.prog 107 #[.string (hasS o.kind), .int .u8 110] w fun e w' => e = .returned (.bool (ha o.kind 110)) ∧ w' = w := fun w => AmongK_ok h0 h1 (c := 110) (by decide) w
  have A111 : ∀ w, Calls Tryz.prog 107 #[.string (hasS o.kind), .int .u8 111] w fun e w' => e = .returned (.bool (ha o.kind 111)) ∧ w' = w := fun w => AmongK_ok h0 h1 (c := 111) (by decide) w
  have A98 : ∀ w, Calls Tryz.prog 107 #[.string (hasS o.kind), .int .u8 98] w fun e w' => e = .returned (.bool (ha o.kind 98)) ∧ w' = w := fun w => AmongK_ok h0 h1 (c := 98) (by decide) w
  have A103 : ∀ w, Calls Tryz.prog 107 #[.string (hasS o.kind), .int .u8 103] w fun e w' => e = .returned (.bool (ha o.kind 103)) ∧ w' = w := fun w => AmongK_ok h0 h1 (c := 103) (by decide) w
  have A109 : ∀ w, Calls Tryz.prog 107 #[.string (hasS o.kind), .int .u8 109] w fun e w' => e = .returned (.bool (ha o.kind 109)) ∧ w' = w := fun w => AmongK_ok h0 h1 (c := 109) (by decide) w
  have A101 : ∀ w, Calls Tryz.prog 107 #[.string (hasS o.kind), .int .u8 101] w fun e w' => e = .returned (.bool (ha o.kind 101)) ∧ w' = w := fun w => AmongK_ok h0 h1 (c := 101) (by decide) w
  have A114 : ∀ w, Calls Tryz.prog 107 #[.string (hasS o.kind), .int .u8 114] w fun e w' => e = .returned (.bool (ha o.kind 114)) ∧ w' = w := fun w => AmongK_ok h0 h1 (c := 114) (by decide) w
  refine go_of (ref04_only_go ?_)
  intro b1 f1 w2 A2
  refine (has_ok h0 h1 w2).mono ?_
  rintro e w3 ⟨rfl, M3⟩
  refine ⟨_, rfl, Keep.of0 M3, ?_⟩
  have N3 := A2.mod.go0 M3 (by simp)
  have c6 : ((ha o.kind 112 || ha o.kind 116 || (o.part.t.toList == (⟨#[]⟩ : ByteArray).toList)) && (ha o.kind 112 || !(o.part.n != 0)) && (ha o.kind 110 || !(o.n != 0)) && (ha o.kind 111 || !(o.off != 0))) = true → (ha o.kind 98 || (!(o.b.prod != 0) && !(o.b.epoch != 0) && !(o.b.seq != 0) && !(decide ((rs.n : Int) > 0)))) = true → ((ha o.kind 103 || (o.g.toList == (⟨#[]⟩ : ByteArray).toList)) && (ha o.kind 109 || (o.m.toList == (⟨#[]⟩ : ByteArray).toList)) && (ha o.kind 101 || !(o.gen != 0))) = true → ref04_only_C6 (hasS o.kind) b1 o.kind o.part.t o.part.n o.n o.off o.b.prod o.b.epoch o.b.seq rs.a rs.n rs.c o.g o.m o.gen o.robin ts.a ts.n ts.c (fun v w' => v = .bool (onlyB o) ∧ Mod [] w w') w3 := fun q1 q2 q3 => by
    rw [q1, q2, q3] at hO
    refine (A114 _).mono ?_
    rintro e w' ⟨rfl, rfl⟩
    refine ⟨_, rfl, Keep.of0 (Mod.refl _), ?_⟩
    refine brB_of (fun g => ⟨?_, N3⟩) fun g => brB_of (fun g2 => ⟨?_, N3⟩) fun g2 => ⟨?_, N3⟩
    · rw [hO, g]; rfl
    · rw [hO, g, g2]; rfl
    · rw [hO, g, g2]; rfl
  have c5 : ∀ t : Bool, ((ha o.kind 112 || ha o.kind 116 || (o.part.t.toList == (⟨#[]⟩ : ByteArray).toList)) && (ha o.kind 112 || !(o.part.n != 0)) && (ha o.kind 110 || !(o.n != 0)) && (ha o.kind 111 || !(o.off != 0))) = true → (ha o.kind 98 || (!(o.b.prod != 0) && !(o.b.epoch != 0) && !(o.b.seq != 0) && !(decide ((rs.n : Int) > 0)))) = true → t = !((ha o.kind 103 || (o.g.toList == (⟨#[]⟩ : ByteArray).toList)) && (ha o.kind 109 || (o.m.toList == (⟨#[]⟩ : ByteArray).toList)) && (ha o.kind 101 || !(o.gen != 0))) → ref04_only_C5 (hasS o.kind) t b1 o.kind o.part.t o.part.n o.n o.off o.b.prod o.b.epoch o.b.seq rs.a rs.n rs.c o.g o.m o.gen o.robin ts.a ts.n ts.c (fun v w' => v = .bool (onlyB o) ∧ Mod [] w w') w3 := fun t q1 q2 e => by
    subst e
    refine brB_of (fun g => ⟨?_, N3⟩) fun g => ref04_only_at6 (c6 q1 q2 (notF g))
    rw [hO, q1, q2, notT g]; simp
  have c4 : ((ha o.kind 112 || ha o.kind 116 || (o.part.t.toList == (⟨#[]⟩ : ByteArray).toList)) && (ha o.kind 112 || !(o.part.n != 0)) && (ha o.kind 110 || !(o.n != 0)) && (ha o.kind 111 || !(o.off != 0))) = true → (ha o.kind 98 || (!(o.b.prod != 0) && !(o.b.epoch != 0) && !(o.b.seq != 0) && !(decide ((rs.n : Int) > 0)))) = true → ref04_only_C4 (hasS o.kind) b1 o.kind o.part.t o.part.n o.n o.off o.b.prod o.b.epoch o.b.seq rs.a rs.n rs.c o.g o.m o.gen o.robin ts.a ts.n ts.c (fun v w' => v = .bool (onlyB o) ∧ Mod [] w w') w3 := fun q1 q2 => by
    unfold ref04_only_C4
    clear c6 N3 hO
    have c := fun t => c5 t q1 q2
    clear c5 q1 q2
    generalize ha o.kind 103 = G at *
    generalize ha o.kind 109 = M at *
    generalize ha o.kind 101 = E at *
    generalize (o.g.toList == (⟨#[]⟩ : ByteArray).toList) = eg at *
    generalize (o.m.toList == (⟨#[]⟩ : ByteArray).toList) = em at *
    generalize (o.gen != 0) = zg at *
    repeat' (first | ((with_reducible refine brB_of (fun g => ?_) fun g => ?_) <;> first | exact absurd g (by decide) | subst g | (replace g := notT g; subst g) | (replace g := notF g; subst g) | clear g) | (with_reducible refine Calls.mono (A112 _) ?_; rintro e w' ⟨rfl, rfl⟩; refine ⟨_, rfl, Keep.of0 (Mod.refl _), ?_⟩) | (with_reducible refine Calls.mono (A116 _) ?_; rintro e w' ⟨rfl, rfl⟩; refine ⟨_, rfl, Keep.of0 (Mod.refl _), ?_⟩) | (with_reducible refine Calls.mono (A110 _) ?_; rintro e w' ⟨rfl, rfl⟩; refine ⟨_, rfl, Keep.of0 (Mod.refl _), ?_⟩) | (with_reducible refine Calls.mono (A111 _) ?_; rintro e w' ⟨rfl, rfl⟩; refine ⟨_, rfl, Keep.of0 (Mod.refl _), ?_⟩) | (with_reducible refine Calls.mono (A98 _) ?_; rintro e w' ⟨rfl, rfl⟩; refine ⟨_, rfl, Keep.of0 (Mod.refl _), ?_⟩) | (with_reducible refine Calls.mono (A103 _) ?_; rintro e w' ⟨rfl, rfl⟩; refine ⟨_, rfl, Keep.of0 (Mod.refl _), ?_⟩) | (with_reducible refine Calls.mono (A109 _) ?_; rintro e w' ⟨rfl, rfl⟩; refine ⟨_, rfl, Keep.of0 (Mod.refl _), ?_⟩) | (with_reducible refine Calls.mono (A101 _) ?_; rintro e w' ⟨rfl, rfl⟩; refine ⟨_, rfl, Keep.of0 (Mod.refl _), ?_⟩) | (with_reducible refine Calls.mono (A114 _) ?_; rintro e w' ⟨rfl, rfl⟩; refine ⟨_, rfl, Keep.of0 (Mod.refl _), ?_⟩))
    all_goals exact ref04_only_at5 (c _ (by first | rfl | simp))
  have c3 : ∀ t : Bool, ((ha o.kind 112 || ha o.kind 116 || (o.part.t.toList == (⟨#[]⟩ : ByteArray).toList)) && (ha o.kind 112 || !(o.part.n != 0)) && (ha o.kind 110 || !(o.n != 0)) && (ha o.kind 111 || !(o.off != 0))) = true → t = !(ha o.kind 98 || (!(o.b.prod != 0) && !(o.b.epoch != 0) && !(o.b.seq != 0) && !(decide ((rs.n : Int) > 0)))) → ref04_only_C3 (hasS o.kind) t b1 o.kind o.part.t o.part.n o.n o.off o.b.prod o.b.epoch o.b.seq rs.a rs.n rs.c o.g o.m o.gen o.robin ts.a ts.n ts.c (fun v w' => v = .bool (onlyB o) ∧ Mod [] w w') w3 := fun t q1 e => by
    subst e
    refine brB_of (fun g => ⟨?_, N3⟩) fun g => ref04_only_at4 (c4 q1 (notF g))
    rw [hO, q1, notT g]; simp
  have c2 : ((ha o.kind 112 || ha o.kind 116 || (o.part.t.toList == (⟨#[]⟩ : ByteArray).toList)) && (ha o.kind 112 || !(o.part.n != 0)) && (ha o.kind 110 || !(o.n != 0)) && (ha o.kind 111 || !(o.off != 0))) = true → ref04_only_C2 (hasS o.kind) b1 o.kind o.part.t o.part.n o.n o.off o.b.prod o.b.epoch o.b.seq rs.a rs.n rs.c o.g o.m o.gen o.robin ts.a ts.n ts.c (fun v w' => v = .bool (onlyB o) ∧ Mod [] w w') w3 := fun q1 => by
    unfold ref04_only_C2
    clear c6 N3 hO c4 c5
    have c := fun t => c3 t q1
    clear c3 q1
    generalize ha o.kind 98 = B at *
    generalize (o.b.prod != 0) = z5 at *
    generalize (o.b.epoch != 0) = z6 at *
    generalize (o.b.seq != 0) = z7 at *
    generalize decide ((rs.n : Int) > 0) = z8 at *
    repeat' (first | ((with_reducible refine brB_of (fun g => ?_) fun g => ?_) <;> first | exact absurd g (by decide) | subst g | (replace g := notT g; subst g) | (replace g := notF g; subst g) | clear g) | (with_reducible refine Calls.mono (A112 _) ?_; rintro e w' ⟨rfl, rfl⟩; refine ⟨_, rfl, Keep.of0 (Mod.refl _), ?_⟩) | (with_reducible refine Calls.mono (A116 _) ?_; rintro e w' ⟨rfl, rfl⟩; refine ⟨_, rfl, Keep.of0 (Mod.refl _), ?_⟩) | (with_reducible refine Calls.mono (A110 _) ?_; rintro e w' ⟨rfl, rfl⟩; refine ⟨_, rfl, Keep.of0 (Mod.refl _), ?_⟩) | (with_reducible refine Calls.mono (A111 _) ?_; rintro e w' ⟨rfl, rfl⟩; refine ⟨_, rfl, Keep.of0 (Mod.refl _), ?_⟩) | (with_reducible refine Calls.mono (A98 _) ?_; rintro e w' ⟨rfl, rfl⟩; refine ⟨_, rfl, Keep.of0 (Mod.refl _), ?_⟩) | (with_reducible refine Calls.mono (A103 _) ?_; rintro e w' ⟨rfl, rfl⟩; refine ⟨_, rfl, Keep.of0 (Mod.refl _), ?_⟩) | (with_reducible refine Calls.mono (A109 _) ?_; rintro e w' ⟨rfl, rfl⟩; refine ⟨_, rfl, Keep.of0 (Mod.refl _), ?_⟩) | (with_reducible refine Calls.mono (A101 _) ?_; rintro e w' ⟨rfl, rfl⟩; refine ⟨_, rfl, Keep.of0 (Mod.refl _), ?_⟩) | (with_reducible refine Calls.mono (A114 _) ?_; rintro e w' ⟨rfl, rfl⟩; refine ⟨_, rfl, Keep.of0 (Mod.refl _), ?_⟩))
    all_goals exact ref04_only_at3 (c _ (by first | rfl | simp))
  have c1 : ∀ t : Bool, t = !((ha o.kind 112 || ha o.kind 116 || (o.part.t.toList == (⟨#[]⟩ : ByteArray).toList)) && (ha o.kind 112 || !(o.part.n != 0)) && (ha o.kind 110 || !(o.n != 0)) && (ha o.kind 111 || !(o.off != 0))) → ref04_only_C1 (hasS o.kind) t b1 o.kind o.part.t o.part.n o.n o.off o.b.prod o.b.epoch o.b.seq rs.a rs.n rs.c o.g o.m o.gen o.robin ts.a ts.n ts.c (fun v w' => v = .bool (onlyB o) ∧ Mod [] w w') w3 := fun t e => by
    subst e
    refine brB_of (fun g => ⟨?_, N3⟩) fun g => ref04_only_at2 (c2 (notF g))
    rw [hO, notT g]; simp
  clear c2 c3 c4 c5 c6 N3 hO
  generalize ha o.kind 112 = P at *
  generalize ha o.kind 116 = T at *
  generalize ha o.kind 110 = N at *
  generalize ha o.kind 111 = O at *
  generalize (o.part.t.toList == (⟨#[]⟩ : ByteArray).toList) = et at *
  generalize (o.part.n != 0) = z2 at *
  generalize (o.n != 0) = z3 at *
  generalize (o.off != 0) = z4 at *
  repeat' (first | ((with_reducible refine brB_of (fun g => ?_) fun g => ?_) <;> first | exact absurd g (by decide) | subst g | (replace g := notT g; subst g) | (replace g := notF g; subst g) | clear g) | (with_reducible refine Calls.mono (A112 _) ?_; rintro e w' ⟨rfl, rfl⟩; refine ⟨_, rfl, Keep.of0 (Mod.refl _), ?_⟩) | (with_reducible refine Calls.mono (A116 _) ?_; rintro e w' ⟨rfl, rfl⟩; refine ⟨_, rfl, Keep.of0 (Mod.refl _), ?_⟩) | (with_reducible refine Calls.mono (A110 _) ?_; rintro e w' ⟨rfl, rfl⟩; refine ⟨_, rfl, Keep.of0 (Mod.refl _), ?_⟩) | (with_reducible refine Calls.mono (A111 _) ?_; rintro e w' ⟨rfl, rfl⟩; refine ⟨_, rfl, Keep.of0 (Mod.refl _), ?_⟩) | (with_reducible refine Calls.mono (A98 _) ?_; rintro e w' ⟨rfl, rfl⟩; refine ⟨_, rfl, Keep.of0 (Mod.refl _), ?_⟩) | (with_reducible refine Calls.mono (A103 _) ?_; rintro e w' ⟨rfl, rfl⟩; refine ⟨_, rfl, Keep.of0 (Mod.refl _), ?_⟩) | (with_reducible refine Calls.mono (A109 _) ?_; rintro e w' ⟨rfl, rfl⟩; refine ⟨_, rfl, Keep.of0 (Mod.refl _), ?_⟩) | (with_reducible refine Calls.mono (A101 _) ?_; rintro e w' ⟨rfl, rfl⟩; refine ⟨_, rfl, Keep.of0 (Mod.refl _), ?_⟩) | (with_reducible refine Calls.mono (A114 _) ?_; rintro e w' ⟨rfl, rfl⟩; refine ⟨_, rfl, Keep.of0 (Mod.refl _), ?_⟩))
  all_goals exact ref04_only_at1 (c1 _ (by first | rfl | simp))
end Go.Proofs.YtohgihgddknmmaaGreat

/- The document's check of a command, whole. -/
namespace Go.Proofs.YtohgihgddknmmaaGreat
open Go Go.RowKit
set_option linter.unusedVariables false
set_option linter.unusedSimpArgs false

set_option maxHeartbeats 4000000 in
theorem CheckR_ok {w : World} {o : POp} {rs ts : Sl} (h1 : SlAt w 4 encR rs.a rs.n o.b.recs) (h2 : SlAt w 1 encS ts.a ts.n o.topics) :
    Calls Tryz.prog 63 #[o.v rs ts] w fun e w' => e = .returned (.int .i64 (opE o)) ∧ Mod [] w w' := by
  refine go_of (ref04_Check_go ?_)
  intro b1 f1
  refine brB_dec (fun g => fun w2 A2 => ⟨by rw [opE, if_pos (.inl g)], A2.mod⟩) fun k0 => ?_
  refine brB_dec (fun g => fun w2 A2 => ⟨by rw [opE, if_pos (.inr g)], A2.mod⟩) fun k1 => ?_
  have k0 : 0 ≤ o.kind := by omega
  have k1 : o.kind ≤ 12 := by omega
  have hE : opE o = if formB o = false then 40 else if (num o.part.n && num o.n && num o.off && num o.gen) = false then 1 else if o.kind = 2 then batchE o.b else 0 := by rw [opE, if_neg (by omega)]
  intro w4 A4
  refine (has_ok k0 k1 w4).mono ?_
  rintro e w5 ⟨rfl, M5⟩
  refine ⟨_, rfl, Keep.of0 M5, ?_⟩
  have N5 := A4.mod.go0 M5 (by simp)
  refine (Only_ok k0 k1 h1.1 h2.1).mono ?_
  rintro e w7 ⟨rfl, M7⟩
  refine ⟨_, rfl, Keep.of0 M7, ?_⟩
  have N7 := N5.go0 M7 (by simp)
  have bad : ∀ w', formB o = false → Mod [] w w' → (Value.int .i64 40 = Value.int .i64 (opE o) ∧ Mod [] w w') := fun w' hf M => ⟨by rw [hE, if_pos hf], M⟩
  have c1 : ∀ w', formB o = true → Mod [] w w' → ref04_Check_C1 b1 o.kind o.part.t o.part.n o.n o.off o.b.prod o.b.epoch o.b.seq rs.a rs.n rs.c o.g o.m o.gen o.robin ts.a ts.n ts.c (fun v w' => v = .int .i64 (opE o) ∧ Mod [] w w') w' := fun w' hf N => by
    rw [if_neg (by rw [hf]; decide)] at hE
    have no : ∀ {k : Int} {w'' : World}, opE o = k → Mod [] w w'' → (Value.int .i64 k = Value.int .i64 (opE o) ∧ Mod [] w w'') := fun e M => ⟨by rw [e], M⟩
    refine (Num3_ok o.part.n w').mono ?_
    rintro e w8 ⟨rfl, rfl⟩
    refine ⟨_, rfl, Keep.of0 (Mod.refl _), brB_of (fun g => no (by rw [hE, if_pos (by rw [notT g]; rfl)]) N) fun g1 => ?_⟩
    refine (Num3_ok o.n w8).mono ?_
    rintro e w9 ⟨rfl, rfl⟩
    refine ⟨_, rfl, Keep.of0 (Mod.refl _), brB_of (fun g => no (by rw [hE, if_pos (by rw [notT g]; simp)]) N) fun g2 => ?_⟩
    refine (Num3_ok o.off w9).mono ?_
    rintro e w10 ⟨rfl, rfl⟩
    refine ⟨_, rfl, Keep.of0 (Mod.refl _), brB_of (fun g => no (by rw [hE, if_pos (by rw [notT g]; simp)]) N) fun g3 => ?_⟩
    refine (Num3_ok o.gen w10).mono ?_
    rintro e w11 ⟨rfl, rfl⟩
    refine ⟨_, rfl, Keep.of0 (Mod.refl _), brB_of (fun g => no (by rw [hE, if_pos (by rw [notT g]; simp)]) N) fun g4 => ?_⟩
    rw [if_neg (by rw [notF g1, notF g2, notF g3, notF g4]; decide)] at hE
    refine brB_of (fun g => ?_) fun g => no (by rw [hE, if_neg (by simpa using g)]) N
    refine (AllR3_ok (b := o.b) (rs := rs) (h1.keep0 N)).mono ?_
    rintro e w12 ⟨rfl, M12⟩
    exact ⟨_, rfl, Keep.of0 M12, no (by rw [hE, if_pos (by simpa using g)]) (N.go0 M12 (by simp))⟩
  have hNs := fun w' (M : Mod [] w7 w') => NamesR_ok (l := o.topics) (ts := ts) (h2.keep0 (N7.go0 M (by simp)))
  have hN1 := RName_ok o.part.t
  have hN2 := RName_ok o.g
  have hN3 := RName_ok o.m
  unfold formB at bad c1
  have A112 : ∀ w, Calls Tryz.prog 107 #[.string (hasS o.kind), .int .u8 112] w fun e w' => e = .returned (.bool (ha o.kind 112)) ∧ w' = w := fun w => AmongK_ok k0 k1 (c := 112) (by decide) w
  have A116 : ∀ w, Calls Tryz.prog 107 #[.string (hasS o.kind), .int .u8 116] w fun e w' => e = .returned (.bool (ha o.kind 116)) ∧ w' = w := fun w => AmongK_ok k0 k1 (c := 116) (by decide) w
  have A103 : ∀ w, Calls Tryz.prog 107 #[.string (hasS o.kind), .int .u8 103] w fun e w' => e = .returned (.bool (ha o.kind 103)) ∧ w' = w := fun w => AmongK_ok k0 k1 (c := 103) (by decide) w
  have A109 : ∀ w, Calls Tryz.prog 107 #[.string (hasS o.kind), .int .u8 109] w fun e w' => e = .returned (.bool (ha o.kind 109)) ∧ w' = w := fun w => AmongK_ok k0 k1 (c := 109) (by decide) w
  have A108 : ∀ w, Calls Tryz.prog 107 #[.string (hasS o.kind), .int .u8 108] w fun e w' => e = .returned (.bool (ha o.kind 108)) ∧ w' = w := fun w => AmongK_ok k0 k1 (c := 108) (by decide) w
  clear hE h1 h2 N5 M7
  generalize ha o.kind 112 = P at *
  generalize ha o.kind 116 = T at *
  generalize ha o.kind 103 = G at *
  generalize ha o.kind 109 = M at *
  generalize ha o.kind 108 = L at *
  generalize nameB o.part.t = n1 at *
  generalize nameB o.g = n2 at *
  generalize nameB o.m = n3 at *
  generalize namesB o.topics = ns at *
  generalize onlyB o = on at *
  repeat' (first | ((with_reducible refine brB_of (fun g => ?_) fun g => ?_) <;> first | exact absurd g (by decide) | subst g | (replace g := notT g; subst g) | (replace g := notF g; subst g) | clear g) | (with_reducible refine Calls.mono (A112 _) ?_; rintro e w' ⟨rfl, rfl⟩; refine ⟨_, rfl, Keep.of0 (Mod.refl _), ?_⟩) | (with_reducible refine Calls.mono (A116 _) ?_; rintro e w' ⟨rfl, rfl⟩; refine ⟨_, rfl, Keep.of0 (Mod.refl _), ?_⟩) | (with_reducible refine Calls.mono (A103 _) ?_; rintro e w' ⟨rfl, rfl⟩; refine ⟨_, rfl, Keep.of0 (Mod.refl _), ?_⟩) | (with_reducible refine Calls.mono (A109 _) ?_; rintro e w' ⟨rfl, rfl⟩; refine ⟨_, rfl, Keep.of0 (Mod.refl _), ?_⟩) | (with_reducible refine Calls.mono (A108 _) ?_; rintro e w' ⟨rfl, rfl⟩; refine ⟨_, rfl, Keep.of0 (Mod.refl _), ?_⟩) | (with_reducible refine Calls.mono (hN1 _) ?_; rintro e w' ⟨rfl, rfl⟩; refine ⟨_, rfl, Keep.of0 (Mod.refl _), ?_⟩) | (with_reducible refine Calls.mono (hN2 _) ?_; rintro e w' ⟨rfl, rfl⟩; refine ⟨_, rfl, Keep.of0 (Mod.refl _), ?_⟩) | (with_reducible refine Calls.mono (hN3 _) ?_; rintro e w' ⟨rfl, rfl⟩; refine ⟨_, rfl, Keep.of0 (Mod.refl _), ?_⟩) | (with_reducible refine Calls.mono (hNs _ (Mod.refl _)) ?_; rintro e w8 ⟨rfl, M8⟩; have N8 := N7.go0 M8 (by simp); refine ⟨_, rfl, Keep.of0 M8, ?_⟩))
  all_goals first | exact bad _ (by first | rfl | simp) N7 | exact bad _ (by first | rfl | simp) N8 | exact ref04_Check_at1 (c1 _ (by first | rfl | simp) N7) | exact ref04_Check_at1 (c1 _ (by first | rfl | simp) N8)
end Go.Proofs.YtohgihgddknmmaaGreat

/- What an argument that reads as data looks like in memory, for types of numbers, bools, strings, structs and slices of such, to whatever depth. -/
namespace Go.Proofs.YtohgihgddknmmaaGreat
open Go Go.RowKit Go.ChangeShapes Go.WideShapes Go.ChangeAt
set_option linter.unusedVariables false
set_option linter.unusedSimpArgs false

def plainD : Option TypeDesc → Bool
  | some (.int _) | some .bool | some .string | some (.slice _) | some (.struct _) => true
  | _ => false

inductive OkT (P : Program) (w : World) : TypeId → List Value → Prop
  | int {t : TypeId} {k : IntKind} {x : Int} (h : P.underlying t = some (.int k)) (hw : (Lit.int k x).wf = true) : OkT P w t [.int k x]
  | bool {t : TypeId} {b : Bool} (h : P.underlying t = some .bool) : OkT P w t [.bool b]
  | string {t : TypeId} {s : ByteArray} (h : P.underlying t = some .string) (hs : s.size ≤ maxLen) : OkT P w t [.string s]
  | nilSlice {t e : TypeId} (h : P.underlying t = some (.slice e)) : OkT P w t [.slice none 0 0]
  | slice {t e : TypeId} {ad : Addr} {len cap : Nat} (rows : Nat → List Value) (h : P.underlying t = some (.slice e)) (hl : len ≤ cap) (hc : cap ≤ maxLen) (h1 : ∀ i, i < len → (rows i).length = P.cellsOf e)
      (h2 : ∀ i, i < len → ∀ j v, (rows i)[j]? = some v → w.cell? ((ad.add (i * P.cellsOf e)).add j) = some v) (h3 : ∀ i, i < len → OkT P w e (rows i)) : OkT P w t [.slice (some ad) len cap]
  | struct {t : TypeId} {fs : Array Field} {cs : List Value} (h : P.underlying t = some (.struct fs)) (hn : cs.length = P.cellsOf t) (hf : ∀ f ∈ fs.toList, OkT P w f.type ((cs.drop f.offset).take (P.cellsOf f.type))) : OkT P w t cs
  | other {t : TypeId} {cs : List Value} (h : plainD (P.underlying t) = false) : OkT P w t cs

theorem mapM_some {α β : Type} {f : α → Option β} : ∀ {l : List α} {r : List β}, l.mapM f = some r → ∀ a ∈ l, ∃ b, f a = some b
  | [], _, _, a, ha => by cases ha
  | x :: l, r, h, a, ha => by
    rw [List.mapM_cons] at h
    simp only [Option.pure_def, Option.bind_eq_bind, Option.bind_eq_some_iff] at h
    obtain ⟨b, hb, r', hr, _⟩ := h
    rcases List.mem_cons.1 ha with rfl | ha
    · exact ⟨b, hb⟩
    · exact mapM_some hr a ha

theorem mapM_get {α β : Type} {f : α → Option β} : ∀ {l : List α} {r : List β}, l.mapM f = some r → ∀ (j : Nat) (b : β), r[j]? = some b → ∃ a, l[j]? = some a ∧ f a = some b
  | [], r, h, j, b, hb => by simp at h; subst h; simp at hb
  | x :: l, r, h, j, b, hb => by
    rw [List.mapM_cons] at h
    simp only [Option.pure_def, Option.bind_eq_bind, Option.bind_eq_some_iff, Option.some.injEq] at h
    obtain ⟨b', hb', r', hr, rfl⟩ := h
    cases j with
    | zero => simp at hb; subst hb; exact ⟨x, rfl, hb'⟩
    | succ j => obtain ⟨a, h1, h2⟩ := mapM_get hr j b (by simpa using hb); exact ⟨a, by simpa using h1, h2⟩
theorem mapM_len {α β : Type} {f : α → Option β} : ∀ {l : List α} {r : List β}, l.mapM f = some r → r.length = l.length
  | [], r, h => by simp at h; subst h; rfl
  | x :: l, r, h => by
    rw [List.mapM_cons] at h
    simp only [Option.pure_def, Option.bind_eq_bind, Option.bind_eq_some_iff, Option.some.injEq] at h
    obtain ⟨b', hb', r', hr, rfl⟩ := h
    simp [mapM_len hr]

theorem cells_len {w : World} {base n : Nat} {a : Addr} {row : List Value} (h : w.cells? base a n = some row) : row.length = n := by
  unfold World.cells? at h
  split at h
  · simpa using mapM_len h
  · cases h
theorem cells_get {w : World} {base n : Nat} {a : Addr} {row : List Value} (h : w.cells? base a n = some row) : ∀ j v, row[j]? = some v → w.cell? (a.add j) = some v := by
  intro j v hv
  unfold World.cells? at h
  split at h
  · obtain ⟨j', h1, h2⟩ := mapM_get h j v hv
    obtain ⟨hj, rfl⟩ : j < n ∧ j = j' := by
      obtain ⟨x, y⟩ := List.getElem?_eq_some_iff.1 h1
      simp at x y; exact ⟨x, y⟩
    exact h2
  · cases h

theorem trod_ok {H : Type} {enc : TypeId × Value → H} {P : Program} {w : World} {base : Nat} {sp : Nat → Bool} {held : Bool} : ∀ {fuel : Nat} {t : TypeId} {cs : List Value} {x : DataW H × List MemPlace}, DataW.trod enc P w base sp held fuel t cs = some x → OkT P w t cs := by
  intro fuel
  induction fuel with
  | zero => intro t cs x h; cases h
  | succ n ih =>
    intro t cs x h
    cases hu : P.underlying t with
    | none => exact .other (by rw [hu]; rfl)
    | some d =>
      cases d with
      | bool =>
          unfold DataW.trod at h
          rw [hu] at h
          split at h <;> simp_all
          exact .bool hu
      | int k =>
          unfold DataW.trod at h
          rw [hu] at h
          split at h <;> simp_all
          obtain ⟨⟨rfl, hw⟩, _⟩ := h
          exact .int hu hw
      | string =>
          unfold DataW.trod at h
          rw [hu] at h
          split at h <;> simp_all
          exact .string hu h.1
      | slice e =>
          rcases Go.Deep.open_slice hu h with ⟨rfl, _⟩ | ⟨a, len, cap, m, n', D, Pl, rfl, hb, hl, hc, hm, _, hel⟩
          · exact .nilSlice hu
          · unfold DataW.trod at h
            rw [hu] at h
            simp only at h
            split at h
            case isFalse => cases h
            rename_i hcond
            simp only [Option.bind_eq_some_iff] at h
            obtain ⟨elems, h1, _⟩ := h
            have key : ∀ i, i < len → ∃ row y, w.cells? base (a.add (i * P.cellsOf e)) (P.cellsOf e) = some row ∧ DataW.trod enc P w base sp held n e row = some y := fun i hi => by
              obtain ⟨y, hy⟩ := mapM_some h1 i (by simpa using hi)
              simp only [Option.bind_eq_some_iff] at hy
              obtain ⟨row, hr1, hr2⟩ := hy
              exact ⟨row, y, hr1, hr2⟩
            classical
            refine .slice (fun i => if hi : i < len then (key i hi).choose else []) hu hl hc (fun i hi => ?_) (fun i hi j v hv => ?_) (fun i hi => ?_)
            · simp only [dif_pos hi]
              obtain ⟨y, hr1, hr2⟩ := (key i hi).choose_spec
              exact cells_len hr1
            · simp only [dif_pos hi] at hv
              obtain ⟨y, hr1, hr2⟩ := (key i hi).choose_spec
              exact cells_get hr1 j v hv
            · simp only [dif_pos hi]
              obtain ⟨y, hr1, hr2⟩ := (key i hi).choose_spec
              exact ih hr2
      | struct fs =>
        unfold DataW.trod at h
        rw [hu] at h
        simp only at h
        split at h
        · rename_i hn
          simp only [Option.map_eq_some_iff] at h
          obtain ⟨xs, h1, _⟩ := h
          refine .struct hu hn fun f hf => ?_
          obtain ⟨y, hy⟩ := mapM_some h1 f hf
          exact ih hy
        · cases h
      | _ => exact .other (by rw [hu]; rfl)

theorem OkT.int_inv {P : Program} {w : World} {t : TypeId} {k : IntKind} {cs : List Value} (h : OkT P w t cs) (hu : P.underlying t = some (.int k)) : ∃ x, cs = [.int k x] ∧ (Lit.int k x).wf = true := by
  cases h <;> simp_all [plainD]
theorem OkT.bool_inv {P : Program} {w : World} {t : TypeId} {cs : List Value} (h : OkT P w t cs) (hu : P.underlying t = some .bool) : ∃ b, cs = [.bool b] := by
  cases h <;> simp_all [plainD]
theorem OkT.string_inv {P : Program} {w : World} {t : TypeId} {cs : List Value} (h : OkT P w t cs) (hu : P.underlying t = some .string) : ∃ s, cs = [.string s] ∧ s.size ≤ maxLen := by
  cases h <;> simp_all [plainD]
theorem OkT.struct_inv {P : Program} {w : World} {t : TypeId} {fs : Array Field} {cs : List Value} (h : OkT P w t cs) (hu : P.underlying t = some (.struct fs)) : cs.length = P.cellsOf t ∧ ∀ f ∈ fs.toList, OkT P w f.type ((cs.drop f.offset).take (P.cellsOf f.type)) := by
  cases h with
  | struct h hn hf => rw [hu] at h; cases h; exact ⟨hn, hf⟩
  | _ => simp_all [plainD]
/-- A slice, by what each of its elements is. -/
theorem OkT.slice_inv {P : Program} {w : World} {t e : TypeId} {cs : List Value} {α : Type} {enc : α → List Value} {good : α → Prop} (h : OkT P w t cs) (hu : P.underlying t = some (.slice e))
    (he : ∀ row, OkT P w e row → row.length = P.cellsOf e → ∃ x, row = enc x ∧ good x) : ∃ a len cap l, cs = [.slice a len cap] ∧ SlAt w (P.cellsOf e) enc a len l ∧ (∀ x ∈ l, good x) ∧ len ≤ cap ∧ cap ≤ maxLen := by
  cases h with
  | nilSlice h => exact ⟨none, 0, 0, [], rfl, ⟨rfl, by simp⟩, by simp, Nat.le_refl _, by decide⟩
  | @slice _ _ ad len cap rows h hl hc h1 h2 h3 =>
    rw [hu] at h; cases h
    have key : ∀ i, i < len → ∃ x, rows i = enc x ∧ good x := fun i hi => he _ (h3 i hi) (h1 i hi)
    classical
    by_cases h0 : len = 0
    · subst h0
      exact ⟨_, _, _, [], rfl, ⟨rfl, by simp⟩, by simp, hl, hc⟩
    have x0 : α := (key 0 (by omega)).choose
    refine ⟨some ad, len, cap, (List.range len).map (fun i => if hi : i < len then (key i hi).choose else x0), rfl, ⟨by simp, fun i x hx => ⟨ad, rfl, fun j v hv => ?_⟩⟩, fun x hx => ?_, hl, hc⟩
    · rw [List.getElem?_map] at hx
      simp only [Option.map_eq_some_iff] at hx
      obtain ⟨i', hi', rfl⟩ := hx
      obtain ⟨hil, rfl⟩ : i < len ∧ i = i' := by
        obtain ⟨a, b⟩ := List.getElem?_eq_some_iff.1 hi'
        simp at a b; exact ⟨a, b⟩
      simp only [dif_pos hil] at hv
      rw [← (key i hil).choose_spec.1] at hv
      exact h2 i hil j v hv
    · simp only [List.mem_map, List.mem_range] at hx
      obtain ⟨i, hi, rfl⟩ := hx
      simp only [dif_pos hi]
      exact (key i hi).choose_spec.2
  | _ => simp_all [plainD]

end Go.Proofs.YtohgihgddknmmaaGreat

/- What is handed in, as data: records, replies, commands, calls, messages. -/
namespace Go.Proofs.YtohgihgddknmmaaGreat
open Go Go.RowKit Go.Maps Go.MapKept
set_option linter.unusedVariables false
set_option linter.unusedSimpArgs false

theorem cI : Tryz.prog.cellsOf 3 = 1 := by kernel_rfl
theorem cB : Tryz.prog.cellsOf 4 = 1 := by kernel_rfl
theorem cS : Tryz.prog.cellsOf 9 = 1 := by kernel_rfl
theorem cE : Tryz.prog.cellsOf 24 = 1 := by kernel_rfl
theorem cSF : Tryz.prog.cellsOf 40 = 1 := by kernel_rfl
theorem cSP : Tryz.prog.cellsOf 41 = 1 := by kernel_rfl
theorem cSR : Tryz.prog.cellsOf 33 = 1 := by kernel_rfl
theorem cSS : Tryz.prog.cellsOf 36 = 1 := by kernel_rfl
theorem cSC : Tryz.prog.cellsOf 39 = 1 := by kernel_rfl
theorem cRc : Tryz.prog.cellsOf 149 = 4 := by kernel_rfl
theorem cFd : Tryz.prog.cellsOf 152 = 5 := by kernel_rfl
theorem cPt : Tryz.prog.cellsOf 32 = 2 := by kernel_rfl
theorem cRp : Tryz.prog.cellsOf 43 = 6 := by kernel_rfl
theorem cBt : Tryz.prog.cellsOf 35 = 4 := by kernel_rfl
theorem cOp : Tryz.prog.cellsOf 38 = 14 := by kernel_rfl
theorem cCl : Tryz.prog.cellsOf 57 = 16 := by kernel_rfl
theorem inv_rec (w : World) (row : List Value) (h : OkT Tryz.prog w 149 row) (hl : row.length = Tryz.prog.cellsOf 149) : ∃ r : PRec, row = [.bool r.hk, .string r.key, .bool r.tomb, .string r.val] ∧ r.key.size ≤ maxLen ∧ r.val.size ≤ maxLen := by
  rw [cRc] at hl
  match row, hl with
  | [a, b, c, d], _ =>
    obtain ⟨_, hf⟩ := h.struct_inv Tryz.underlying149
    simp [cI, cB, cS, cE] at hf
    obtain ⟨ha, hb, hc, hd⟩ := hf
    obtain ⟨x1, e1⟩ := ha.bool_inv Tryz.underlying4
    obtain ⟨x2, e2, g2⟩ := hb.string_inv Tryz.underlying9
    obtain ⟨x3, e3⟩ := hc.bool_inv Tryz.underlying4
    obtain ⟨x4, e4, g4⟩ := hd.string_inv Tryz.underlying9
    simp at e1 e2 e3 e4
    subst e1 e2 e3 e4
    exact ⟨⟨x1, x2, x3, x4⟩, rfl, g2, g4⟩
theorem inv_part (w : World) (row : List Value) (h : OkT Tryz.prog w 32 row) (hl : row.length = Tryz.prog.cellsOf 32) : ∃ x : PPart, row = encP x ∧ x.t.size ≤ maxLen := by
  rw [cPt] at hl
  match row, hl with
  | [a, b], _ =>
    obtain ⟨_, hf⟩ := h.struct_inv Tryz.underlying32
    simp [cI, cB, cS, cE, cSF, cSP, cSR, cSS, cSC, cPt, cRc, cFd, cRp] at hf
    obtain ⟨ha, hb⟩ := hf
    obtain ⟨x1, e1, g1⟩ := ha.string_inv Tryz.underlying9
    obtain ⟨x2, e2, _⟩ := hb.int_inv Tryz.underlying3
    simp at e1 e2
    subst e1 e2
    exact ⟨⟨x1, x2⟩, rfl, g1⟩
theorem inv_str (w : World) (row : List Value) (h : OkT Tryz.prog w 9 row) (hl : row.length = Tryz.prog.cellsOf 9) : ∃ s : ByteArray, row = encS s ∧ s.size ≤ maxLen := by
  obtain ⟨s, rfl, g⟩ := h.string_inv Tryz.underlying9
  exact ⟨s, rfl, g⟩
/-- What a command reads as (of any length). -/
structure OpRd (w : World) (o : POp) (rs ts : Sl) : Prop where
  recs : SlAt w 4 encR rs.a rs.n o.b.recs
  topics : SlAt w 1 encS ts.a ts.n o.topics
  wr : rs.n ≤ maxLen
  wt : ts.n ≤ maxLen
  sr : ∀ r ∈ o.b.recs, r.key.size ≤ maxLen ∧ r.val.size ≤ maxLen
  st : ∀ s ∈ o.topics, s.size ≤ maxLen
  sp : o.part.t.size ≤ maxLen
  sg : o.g.size ≤ maxLen
  sm : o.m.size ≤ maxLen
theorem OpRd.keep0 {w w' : World} {o : POp} {rs ts : Sl} (h : OpRd w o rs ts) (M : Mod [] w w') : OpRd w' o rs ts := ⟨h.recs.keep0 M, h.topics.keep0 M, h.wr, h.wt, h.sr, h.st, h.sp, h.sg, h.sm⟩
structure OV where
  o : POp
  rs : Sl
  ts : Sl
def OV.cs (q : OV) : List Value := q.o.cs q.rs q.ts
theorem inv_batch (w : World) (row : List Value) (h : OkT Tryz.prog w 35 row) (hl : row.length = Tryz.prog.cellsOf 35) : ∃ (b : PBatch) (rs : Sl), row = [.int .i64 b.prod, .int .i64 b.epoch, .int .i64 b.seq, .slice rs.a rs.n rs.c] ∧ SlAt w 4 encR rs.a rs.n b.recs ∧ rs.n ≤ maxLen ∧ ∀ r ∈ b.recs, r.key.size ≤ maxLen ∧ r.val.size ≤ maxLen := by
  rw [cBt] at hl
  match row, hl with
  | [a, b, c, d], _ =>
    obtain ⟨_, hf⟩ := h.struct_inv Tryz.underlying35
    simp [cI, cB, cS, cE, cSF, cSP, cSR, cSS, cSC, cPt, cRc, cFd, cRp, cBt, cOp, cCl] at hf
    obtain ⟨ha, hb, hc, hd⟩ := hf
    obtain ⟨x1, e1, _⟩ := ha.int_inv Tryz.underlying3
    obtain ⟨x2, e2, _⟩ := hb.int_inv Tryz.underlying3
    obtain ⟨x3, e3, _⟩ := hc.int_inv Tryz.underlying3
    obtain ⟨ra, rn, rc, rl, e5, s5, g5, u5, c5⟩ := hd.slice_inv (enc := encR) Tryz.underlying33 (inv_rec w)
    simp at e1 e2 e3 e5
    subst e1 e2 e3 e5
    rw [cRc] at s5
    exact ⟨⟨x1, x2, x3, rl⟩, ⟨ra, rn, rc⟩, rfl, s5, by show rn ≤ _; omega, g5⟩
theorem inv_op (w : World) (row : List Value) (h : OkT Tryz.prog w 38 row) (hl : row.length = Tryz.prog.cellsOf 38) : ∃ x : OV, row = OV.cs x ∧ OpRd w x.o x.rs x.ts := by
  rw [cOp] at hl
  match row, hl with
  | [a, b, c, d, e, f, g, i, j, k, l, m, n, o], _ =>
    obtain ⟨_, hf⟩ := h.struct_inv Tryz.underlying38
    simp [cI, cB, cS, cE, cSF, cSP, cSR, cSS, cSC, cPt, cRc, cFd, cRp, cBt, cOp, cCl] at hf
    obtain ⟨h1, h2, h3, h4, h5, h6, h7, h8, h9, h10⟩ := hf
    obtain ⟨x1, e1, _⟩ := h1.int_inv Tryz.underlying3
    obtain ⟨x2, e2, g2⟩ := inv_part w _ h2 cPt.symm
    obtain ⟨x3, e3, _⟩ := h3.int_inv Tryz.underlying3
    obtain ⟨x4, e4, _⟩ := h4.int_inv Tryz.underlying3
    obtain ⟨x5, rs, e5, s5, w5, g5⟩ := inv_batch w _ h5 cBt.symm
    obtain ⟨x6, e6, g6⟩ := h6.string_inv Tryz.underlying9
    obtain ⟨x7, e7, g7⟩ := h7.string_inv Tryz.underlying9
    obtain ⟨x8, e8, _⟩ := h8.int_inv Tryz.underlying3
    obtain ⟨x9, e9⟩ := h9.bool_inv Tryz.underlying4
    obtain ⟨ta, tn, tc, tl, e10, s10, g10, u10, c10⟩ := h10.slice_inv (enc := encS) Tryz.underlying36 (inv_str w)
    simp [encP] at e1 e2 e3 e4 e5 e6 e7 e8 e9 e10
    subst e1 e3 e4 e6 e7 e8 e9 e10
    obtain ⟨rfl, rfl⟩ := e2
    obtain ⟨rfl, rfl, rfl, rfl⟩ := e5
    rw [cS] at s10
    exact ⟨⟨⟨x1, x2, x3, x4, x5, x6, x7, x8, x9, tl⟩, rs, ⟨ta, tn, tc⟩⟩, rfl, ⟨s5, s10, w5, by show tn ≤ _; omega, g5, g10, g2, g6, g7⟩⟩
theorem inv_call (w : World) (row : List Value) (h : OkT Tryz.prog w 57 row) (hl : row.length = Tryz.prog.cellsOf 57) : ∃ x : CV, row = CV.cs x ∧ OpRd w x.x.op x.rs x.ts := by
  rw [cCl] at hl
  match row, hl with
  | a :: b :: t, hl =>
    obtain ⟨_, hf⟩ := h.struct_inv Tryz.underlying57
    simp [cI, cB, cS, cE, cSF, cSP, cSR, cSS, cSC, cPt, cRc, cFd, cRp, cBt, cOp, cCl] at hf
    obtain ⟨h1, h2, h3⟩ := hf
    obtain ⟨x1, e1, _⟩ := h1.int_inv Tryz.underlying3
    obtain ⟨x2, e2, _⟩ := h2.int_inv Tryz.underlying3
    have ht : t.take 14 = t := List.take_of_length_le (by simp at hl; omega)
    rw [ht] at h3
    obtain ⟨x3, e3, g3⟩ := inv_op w _ h3 (by rw [cOp]; simp at hl; omega)
    simp at e1 e2
    subst e1 e2 e3
    exact ⟨⟨⟨x1, x2, x3.o⟩, x3.rs, x3.ts⟩, rfl, g3⟩
end Go.Proofs.YtohgihgddknmmaaGreat

/- The conditions of Go functions' bodies, printed by gen2.py. -/
namespace Go.Proofs.YtohgihgddknmmaaGreat
open Go Go.RowKit
set_option linter.unusedVariables false
set_option maxRecDepth 100000

def law03_cut_an : List LA := []
def law03_cut_T (a2 : Bool) (a0 : ByteArray) (a3 : Bool) (a1 : ByteArray) (R : Value → World → Prop) (w : World) : Prop :=
 ∀ b1, w.heap.size ≤ b1 →
 ∀ b2, w.heap.size ≤ b2 →
 slS a0 0 (if 80 < (a0.size : Int) then 80 else (a0.size : Int)) fun s3 =>
 slS a1 0 (if 600 < (a1.size : Int) then 600 else (a1.size : Int)) fun s4 =>
 ∀ w5, Adv [] [b2, b1] w w5 →
 R (.agg #[(.bool a2), (.string s3), (.bool a3), (.string s4)]) w5
theorem law03_cut_eq (a0 : Bool) (a1 : ByteArray) (a2 : Bool) (a3 : ByteArray) (R : Value → World → Prop) (w : World) :
 dnF Tryz.prog law03_cut_an (code Tryz.f103) 400 [] (post3 Tryz.prog Tryz.f103 [] R) ⟨args0 0 [(.agg #[(.bool a0), (.string a1), (.bool a2), (.string a3)])], fun _ => undef⟩ ⟨[], w, [], [], true⟩ = law03_cut_T a0 a1 a2 a3 R w := by kernel_rfl
theorem law03_cut_go {a0 : Bool} {a1 : ByteArray} {a2 : Bool} {a3 : ByteArray} {R : Value → World → Prop} {w : World} (h : law03_cut_T a0 a1 a2 a3 R w) :
 Calls Tryz.prog 103 #[(.agg #[(.bool a0), (.string a1), (.bool a2), (.string a3)])] w fun e w' => ∃ v, e = .returned v ∧ R v w' :=
 calls_none Tryz.wide_mixed (f := 103) (args := [(.agg #[(.bool a0), (.string a1), (.bool a2), (.string a3)])]) Tryz.func103 rfl rfl (by kernel_rfl) rfl (Eq.mpr (law03_cut_eq a0 a1 a2 a3 R w) h)
def law03_Bound_la1 : LA := ⟨[0, 0, 1, 0, 1, 1], [1, 2, 3, 4], [(1, 0, 0), (2, 1, 0), (3, 2, 0)], 3, []⟩
def law03_Bound_an : List LA := [law03_Bound_la1]
def law03_Bound_v1 (bm0 : Nat) (bm1 : Nat) (bm2 : Nat) (a0 : Int) : List Value := [(.pointer (some ⟨bm0, 0, none⟩)), (.pointer (some ⟨bm1, 0, none⟩)), (.pointer (some ⟨bm2, 0, none⟩)), (.int .i64 a0)]
def law03_Bound_m1 (bm0 : Nat) (a6 : Int) (a7 : Int) (a8 : Int) (a0 : Option Addr) (a4 : Nat) (a2 : Nat) (bm1 : Nat) (bm2 : Nat) (a9 : Int) (b0 : Int) (b1 : Int) (a1 : Option Addr) (a5 : Nat) (a3 : Nat) : List TB := [⟨bm0, 35, [(.int .i64 a6), (.int .i64 a7), (.int .i64 a8), (.slice a0 a4 a2)], false⟩, ⟨bm1, 35, [(.int .i64 0), (.int .i64 0), (.int .i64 0), (.slice none 0 0)], false⟩, ⟨bm2, 35, [(.int .i64 a9), (.int .i64 b0), (.int .i64 b1), (.slice a1 a5 a3)], false⟩]
def law03_Bound_L1 (bm0 : Nat) (b0 : Int) (b1 : Int) (b2 : Int) (a7 : Option Addr) (a3 : Nat) (a9 : Nat) (bm1 : Nat) (bm2 : Nat) (a4 : Int) (a5 : Int) (a6 : Int) (a8 : Int) (a0 : Option Addr) (a2 : Nat) (a1 : Nat) (K1 : Kh) (R : Value → World → Prop) (w : World) : Prop :=
 brB (decide (a8 < (a3 : Int))) (
 brB (decide (a8 < 20)) (
 ixA a7 a3 a8 4 fun q4 =>
 ∀ w5, Adv [] [] w w5 →
 ldBool w5 q4 fun t6 => ldStr w5 (Addr.add q4 1) fun s7 => ldBool w5 (Addr.add q4 2) fun t8 => ldStr w5 (Addr.add q4 3) fun s9 =>
 Calls Tryz.prog 103 #[(.agg #[(.bool t6), (.string s7), (.bool t8), (.string s9)])] w5 fun e w10 => ∃ t11 : Bool, ∃ s12 : ByteArray, ∃ t13 : Bool, ∃ s14 : ByteArray, e = .returned (.agg #[(.bool t11), (.string s12), (.bool t13), (.string s14)]) ∧ Keep [bm0, bm1, bm2] w5 w10 ∧ (((.slice a0 a2 a1) : Value) = (.slice a0 a2 a1)) ∧
 al w10 (.cells #[(.bool t11), (.string s12), (.bool t13), (.string s14)] 149) fun b15 w16 =>
 effSl Tryz.prog (Builtin.append_ #[33, 33] 33 #[(.slice a0 a2 a1), (.slice (some ⟨b15, 0, none⟩) 1 1)]) w16 fun a18 n19 c20 w17 => Keep [bm0, bm1, bm2] w16 w17 ∧
 ∀ w21, Adv [bm2] [] w17 w21 →
 K1 (law03_Bound_v1 bm0 bm1 bm2 (IntKind.wrap .i64 (a8 + 1))) (law03_Bound_m1 bm0 b0 b1 b2 a7 a3 a9 bm1 bm2 a4 a5 a6 a18 n19 c20) w21)
 (
 ∀ w22, Adv [bm1] [] w w22 →
 R (.agg #[(.int .i64 a4), (.int .i64 a5), (.int .i64 a6), (.slice a0 a2 a1)]) w22))
 (
 ∀ w23, Adv [bm1] [] w w23 →
 R (.agg #[(.int .i64 a4), (.int .i64 a5), (.int .i64 a6), (.slice a0 a2 a1)]) w23)
theorem law03_Bound_L1_eq (bm0 : Nat) (a6 : Int) (a7 : Int) (a8 : Int) (a0 : Option Addr) (a4 : Nat) (a2 : Nat) (bm1 : Nat) (bm2 : Nat) (a9 : Int) (b0 : Int) (b1 : Int) (b2 : Int) (a1 : Option Addr) (a5 : Nat) (a3 : Nat) (K1 : Kh) (js : Nat → Value) (R : Value → World → Prop) (w : World) :
 headA law03_Bound_la1 ((dnF Tryz.prog law03_Bound_an (code Tryz.f57) 396 [0, 0, 1, 0, 1, 1]) (kthen3 (atA law03_Bound_la1 K1) (kont3 Tryz.prog law03_Bound_an (code Tryz.f57) [1, 1, 0, 1, 0] [] (post3 Tryz.prog Tryz.f57 [] R)))) (law03_Bound_v1 bm0 bm1 bm2 b2) js (law03_Bound_m1 bm0 a6 a7 a8 a0 a4 a2 bm1 bm2 a9 b0 b1 a1 a5 a3) w = law03_Bound_L1 bm0 a6 a7 a8 a0 a4 a2 bm1 bm2 a9 b0 b1 b2 a1 a5 a3 K1 R w := by kernel_rfl
def law03_Bound_K1 (bm0 : Nat) (a6 : Int) (a7 : Int) (a8 : Int) (a3 : Option Addr) (a5 : Nat) (a4 : Nat) (bm1 : Nat) (bm2 : Nat) (a9 : Int) (b0 : Int) (b1 : Int) (I : Nat → Int → Option Addr → Nat → Nat → World → Prop) (m : Nat) (vals : List Value) (mem : List TB) (w : World) : Prop := ∃ m', m' < m ∧ ∃ b2 a0 a2 a1, vals = (law03_Bound_v1 bm0 bm1 bm2 b2) ∧ mem = (law03_Bound_m1 bm0 a6 a7 a8 a3 a5 a4 bm1 bm2 a9 b0 b1 a0 a2 a1) ∧ I m' b2 a0 a2 a1 w
theorem law03_Bound_leaf1 {bm0 : Nat} {a6 : Int} {a7 : Int} {a8 : Int} {a0 : Option Addr} {a4 : Nat} {a2 : Nat} {bm1 : Nat} {bm2 : Nat} {a9 : Int} {b0 : Int} {b1 : Int} {I : Nat → Int → Option Addr → Nat → Nat → World → Prop} {m : Nat} {b2 : Int} {a1 : Option Addr} {a5 : Nat} {a3 : Nat} {w : World} (m' : Nat) (h1 : m' < m) (h2 : I m' b2 a1 a5 a3 w) : law03_Bound_K1 bm0 a6 a7 a8 a0 a4 a2 bm1 bm2 a9 b0 b1 I m (law03_Bound_v1 bm0 bm1 bm2 b2) (law03_Bound_m1 bm0 a6 a7 a8 a0 a4 a2 bm1 bm2 a9 b0 b1 a1 a5 a3) w := ⟨m', h1, _, _, _, _, rfl, rfl, h2⟩
theorem law03_Bound_rule1 {bm0 : Nat} {a6 : Int} {a7 : Int} {a8 : Int} {a3 : Option Addr} {a5 : Nat} {a4 : Nat} {bm1 : Nat} {bm2 : Nat} {a9 : Int} {b0 : Int} {b1 : Int} {b6 : Int} {b3 : Option Addr} {b5 : Nat} {b4 : Nat} {R : Value → World → Prop} {w0 : World} (I : Nat → Int → Option Addr → Nat → Nat → World → Prop) (m0 : Nat) (h0 : I m0 b6 b3 b5 b4 w0)
 (hr : ∀ (m : Nat) (b2 : Int) (a0 : Option Addr) (a2 : Nat) (a1 : Nat) (w : World), I m b2 a0 a2 a1 w → law03_Bound_L1 bm0 a6 a7 a8 a3 a5 a4 bm1 bm2 a9 b0 b1 b2 a0 a2 a1 (law03_Bound_K1 bm0 a6 a7 a8 a3 a5 a4 bm1 bm2 a9 b0 b1 I m) R w) :
 loopD3 law03_Bound_la1 (dnF Tryz.prog law03_Bound_an (code Tryz.f57) 396 [0, 0, 1, 0, 1, 1]) (kont3 Tryz.prog law03_Bound_an (code Tryz.f57) [1, 1, 0, 1, 0] [] (post3 Tryz.prog Tryz.f57 [] R)) (law03_Bound_v1 bm0 bm1 bm2 b6) (law03_Bound_m1 bm0 a6 a7 a8 a3 a5 a4 bm1 bm2 a9 b0 b1 b3 b5 b4) w0 := by
 refine ⟨fun m vals mem w => ∃ b2 a0 a2 a1, vals = (law03_Bound_v1 bm0 bm1 bm2 b2) ∧ mem = (law03_Bound_m1 bm0 a6 a7 a8 a3 a5 a4 bm1 bm2 a9 b0 b1 a0 a2 a1) ∧ I m b2 a0 a2 a1 w, m0, ⟨_, _, _, _, rfl, rfl, h0⟩, ?_⟩
 rintro m vals mem w ⟨b2, a0, a2, a1, rfl, rfl, hI⟩
 refine ⟨rfl, rfl, fun js => ?_⟩
 have h := hr m b2 a0 a2 a1 w hI
 rw [← law03_Bound_L1_eq _ _ _ _ _ _ _ _ _ _ _ _ _ _ _ _ _ js] at h
 exact h
def law03_Bound_T (a0 : Int) (a1 : Int) (a2 : Int) (a3 : Option Addr) (a5 : Nat) (a4 : Nat) (R : Value → World → Prop) (w : World) : Prop :=
 ∀ b1, w.heap.size ≤ b1 →
 ∀ b2, w.heap.size ≤ b2 →
 ∀ b3, w.heap.size ≤ b3 →
 ∀ w24, Adv [] [b3, b2, b1] w w24 →
 loopD3 law03_Bound_la1 (dnF Tryz.prog law03_Bound_an (code Tryz.f57) 396 [0, 0, 1, 0, 1, 1]) (kont3 Tryz.prog law03_Bound_an (code Tryz.f57) [1, 1, 0, 1, 0] [] (post3 Tryz.prog Tryz.f57 [] R)) (law03_Bound_v1 b1 b2 b3 0) (law03_Bound_m1 b1 a0 a1 a2 a3 a5 a4 b2 b3 a0 a1 a2 none 0 0) w24
theorem law03_Bound_eq (a3 : Int) (a4 : Int) (a5 : Int) (a0 : Option Addr) (a2 : Nat) (a1 : Nat) (R : Value → World → Prop) (w : World) :
 dnF Tryz.prog law03_Bound_an (code Tryz.f57) 400 [] (post3 Tryz.prog Tryz.f57 [] R) ⟨args0 0 [(.agg #[(.int .i64 a3), (.int .i64 a4), (.int .i64 a5), (.slice a0 a2 a1)])], fun _ => undef⟩ ⟨[], w, [], [], true⟩ = law03_Bound_T a3 a4 a5 a0 a2 a1 R w := by kernel_rfl
theorem law03_Bound_go {a3 : Int} {a4 : Int} {a5 : Int} {a0 : Option Addr} {a2 : Nat} {a1 : Nat} {R : Value → World → Prop} {w : World} (h : law03_Bound_T a3 a4 a5 a0 a2 a1 R w) :
 Calls Tryz.prog 57 #[(.agg #[(.int .i64 a3), (.int .i64 a4), (.int .i64 a5), (.slice a0 a2 a1)])] w fun e w' => ∃ v, e = .returned v ∧ R v w' :=
 calls_none Tryz.wide_mixed (f := 57) (args := [(.agg #[(.int .i64 a3), (.int .i64 a4), (.int .i64 a5), (.slice a0 a2 a1)])]) Tryz.func57 rfl rfl (by kernel_rfl) rfl (Eq.mpr (law03_Bound_eq a3 a4 a5 a0 a2 a1 R w) h)
def law04_Cut_la1 : LA := ⟨[0, 0, 1, 0, 1, 1, 1, 1, 1, 1, 1], [1, 2, 3, 4], [(1, 0, 0), (2, 1, 0), (3, 2, 0)], 3, []⟩
def law04_Cut_an : List LA := [law04_Cut_la1]
def law04_Cut_v1 (bm0 : Nat) (bm1 : Nat) (bm2 : Nat) (a0 : Int) : List Value := [(.pointer (some ⟨bm0, 0, none⟩)), (.pointer (some ⟨bm1, 0, none⟩)), (.pointer (some ⟨bm2, 0, none⟩)), (.int .i64 a0)]
def law04_Cut_m1 (bm0 : Nat) (c2 : Int) (b8 : ByteArray) (c3 : Int) (c4 : Int) (c5 : Int) (c6 : Int) (c7 : Int) (c8 : Int) (b2 : Option Addr) (b6 : Nat) (b4 : Nat) (b9 : ByteArray) (a6 : ByteArray) (b0 : Int) (a8 : Bool) (a0 : Option Addr) (a4 : Nat) (a2 : Nat) (bm1 : Nat) (bm2 : Nat) (c9 : Int) (c0 : ByteArray) (d0 : Int) (d1 : Int) (d2 : Int) (d3 : Int) (d4 : Int) (d5 : Int) (b3 : Option Addr) (b7 : Nat) (b5 : Nat) (c1 : ByteArray) (a7 : ByteArray) (b1 : Int) (a9 : Bool) (a1 : Option Addr) (a5 : Nat) (a3 : Nat) : List TB := [⟨bm0, 38, [(.int .i64 c2), (.string b8), (.int .i64 c3), (.int .i64 c4), (.int .i64 c5), (.int .i64 c6), (.int .i64 c7), (.int .i64 c8), (.slice b2 b6 b4), (.string b9), (.string a6), (.int .i64 b0), (.bool a8), (.slice a0 a4 a2)], false⟩, ⟨bm1, 38, [(.int .i64 0), (.string ByteArray.empty), (.int .i64 0), (.int .i64 0), (.int .i64 0), (.int .i64 0), (.int .i64 0), (.int .i64 0), (.slice none 0 0), (.string ByteArray.empty), (.string ByteArray.empty), (.int .i64 0), (.bool false), (.slice none 0 0)], false⟩, ⟨bm2, 38, [(.int .i64 c9), (.string c0), (.int .i64 d0), (.int .i64 d1), (.int .i64 d2), (.int .i64 d3), (.int .i64 d4), (.int .i64 d5), (.slice b3 b7 b5), (.string c1), (.string a7), (.int .i64 b1), (.bool a9), (.slice a1 a5 a3)], false⟩]
def law04_Cut_L1 (bm0 : Nat) (d0 : Int) (c8 : ByteArray) (d1 : Int) (d2 : Int) (d3 : Int) (d4 : Int) (d5 : Int) (d6 : Int) (c5 : Option Addr) (c7 : Nat) (c6 : Nat) (c9 : ByteArray) (c2 : ByteArray) (c4 : Int) (c3 : Bool) (a1 : Option Addr) (a0 : Nat) (c1 : Nat) (bm1 : Nat) (bm2 : Nat) (b3 : Int) (b1 : ByteArray) (b4 : Int) (b5 : Int) (b6 : Int) (b7 : Int) (b8 : Int) (b9 : Int) (a8 : Option Addr) (b0 : Nat) (a9 : Nat) (b2 : ByteArray) (a5 : ByteArray) (a7 : Int) (a6 : Bool) (c0 : Int) (a2 : Option Addr) (a4 : Nat) (a3 : Nat) (K1 : Kh) (R : Value → World → Prop) (w : World) : Prop :=
 brB (decide (c0 < (a0 : Int))) (
 brB (decide (c0 < 12)) (
 ixA a1 a0 c0 1 fun q15 =>
 ∀ w16, Adv [] [] w w16 →
 ldStr w16 q15 fun s17 =>
 ixA a1 a0 c0 1 fun q18 =>
 ldStr w16 q18 fun s19 =>
 slS s17 0 (if 40 < (s19.size : Int) then 40 else (s19.size : Int)) fun s20 =>
 al w16 (.cells #[(.string s20)] 9) fun b21 w22 =>
 effSl Tryz.prog (Builtin.append_ #[36, 36] 36 #[(.slice a2 a4 a3), (.slice (some ⟨b21, 0, none⟩) 1 1)]) w22 fun a24 n25 c26 w23 => Keep [bm0, bm1, bm2] w22 w23 ∧
 ∀ w27, Adv [bm2] [] w23 w27 →
 K1 (law04_Cut_v1 bm0 bm1 bm2 (IntKind.wrap .i64 (c0 + 1))) (law04_Cut_m1 bm0 d0 c8 d1 d2 d3 d4 d5 d6 c5 c7 c6 c9 c2 c4 c3 a1 a0 c1 bm1 bm2 b3 b1 b4 b5 b6 b7 b8 b9 a8 b0 a9 b2 a5 a7 a6 a24 n25 c26) w27)
 (
 ∀ w28, Adv [bm1] [] w w28 →
 R (.agg #[(.int .i64 b3), (.string b1), (.int .i64 b4), (.int .i64 b5), (.int .i64 b6), (.int .i64 b7), (.int .i64 b8), (.int .i64 b9), (.slice a8 b0 a9), (.string b2), (.string a5), (.int .i64 a7), (.bool a6), (.slice a2 a4 a3)]) w28))
 (
 ∀ w29, Adv [bm1] [] w w29 →
 R (.agg #[(.int .i64 b3), (.string b1), (.int .i64 b4), (.int .i64 b5), (.int .i64 b6), (.int .i64 b7), (.int .i64 b8), (.int .i64 b9), (.slice a8 b0 a9), (.string b2), (.string a5), (.int .i64 a7), (.bool a6), (.slice a2 a4 a3)]) w29)
theorem law04_Cut_L1_eq (bm0 : Nat) (c2 : Int) (b8 : ByteArray) (c3 : Int) (c4 : Int) (c5 : Int) (c6 : Int) (c7 : Int) (c8 : Int) (b2 : Option Addr) (b6 : Nat) (b4 : Nat) (b9 : ByteArray) (a6 : ByteArray) (b0 : Int) (a8 : Bool) (a0 : Option Addr) (a4 : Nat) (a2 : Nat) (bm1 : Nat) (bm2 : Nat) (c9 : Int) (c0 : ByteArray) (d0 : Int) (d1 : Int) (d2 : Int) (d3 : Int) (d4 : Int) (d5 : Int) (b3 : Option Addr) (b7 : Nat) (b5 : Nat) (c1 : ByteArray) (a7 : ByteArray) (b1 : Int) (a9 : Bool) (d6 : Int) (a1 : Option Addr) (a5 : Nat) (a3 : Nat) (K1 : Kh) (js : Nat → Value) (R : Value → World → Prop) (w : World) :
 headA law04_Cut_la1 ((dnF Tryz.prog law04_Cut_an (code Tryz.f13) 391 [0, 0, 1, 0, 1, 1, 1, 1, 1, 1, 1]) (kthen3 (atA law04_Cut_la1 K1) (kont3 Tryz.prog law04_Cut_an (code Tryz.f13) [1, 1, 1, 1, 1, 1, 1, 0, 1, 0] [] (post3 Tryz.prog Tryz.f13 [] R)))) (law04_Cut_v1 bm0 bm1 bm2 d6) js (law04_Cut_m1 bm0 c2 b8 c3 c4 c5 c6 c7 c8 b2 b6 b4 b9 a6 b0 a8 a0 a4 a2 bm1 bm2 c9 c0 d0 d1 d2 d3 d4 d5 b3 b7 b5 c1 a7 b1 a9 a1 a5 a3) w = law04_Cut_L1 bm0 c2 b8 c3 c4 c5 c6 c7 c8 b2 b6 b4 b9 a6 b0 a8 a0 a4 a2 bm1 bm2 c9 c0 d0 d1 d2 d3 d4 d5 b3 b7 b5 c1 a7 b1 a9 d6 a1 a5 a3 K1 R w := by kernel_rfl
def law04_Cut_K1 (bm0 : Nat) (c2 : Int) (b8 : ByteArray) (c3 : Int) (c4 : Int) (c5 : Int) (c6 : Int) (c7 : Int) (c8 : Int) (b2 : Option Addr) (b6 : Nat) (b4 : Nat) (b9 : ByteArray) (a6 : ByteArray) (b0 : Int) (a8 : Bool) (a3 : Option Addr) (a5 : Nat) (a4 : Nat) (bm1 : Nat) (bm2 : Nat) (c9 : Int) (c0 : ByteArray) (d0 : Int) (d1 : Int) (d2 : Int) (d3 : Int) (d4 : Int) (d5 : Int) (b3 : Option Addr) (b7 : Nat) (b5 : Nat) (c1 : ByteArray) (a7 : ByteArray) (b1 : Int) (a9 : Bool) (I : Nat → Int → Option Addr → Nat → Nat → World → Prop) (m : Nat) (vals : List Value) (mem : List TB) (w : World) : Prop := ∃ m', m' < m ∧ ∃ d6 a0 a2 a1, vals = (law04_Cut_v1 bm0 bm1 bm2 d6) ∧ mem = (law04_Cut_m1 bm0 c2 b8 c3 c4 c5 c6 c7 c8 b2 b6 b4 b9 a6 b0 a8 a3 a5 a4 bm1 bm2 c9 c0 d0 d1 d2 d3 d4 d5 b3 b7 b5 c1 a7 b1 a9 a0 a2 a1) ∧ I m' d6 a0 a2 a1 w
theorem law04_Cut_leaf1 {bm0 : Nat} {c2 : Int} {b8 : ByteArray} {c3 : Int} {c4 : Int} {c5 : Int} {c6 : Int} {c7 : Int} {c8 : Int} {b2 : Option Addr} {b6 : Nat} {b4 : Nat} {b9 : ByteArray} {a6 : ByteArray} {b0 : Int} {a8 : Bool} {a0 : Option Addr} {a4 : Nat} {a2 : Nat} {bm1 : Nat} {bm2 : Nat} {c9 : Int} {c0 : ByteArray} {d0 : Int} {d1 : Int} {d2 : Int} {d3 : Int} {d4 : Int} {d5 : Int} {b3 : Option Addr} {b7 : Nat} {b5 : Nat} {c1 : ByteArray} {a7 : ByteArray} {b1 : Int} {a9 : Bool} {I : Nat → Int → Option Addr → Nat → Nat → World → Prop} {m : Nat} {d6 : Int} {a1 : Option Addr} {a5 : Nat} {a3 : Nat} {w : World} (m' : Nat) (h1 : m' < m) (h2 : I m' d6 a1 a5 a3 w) : law04_Cut_K1 bm0 c2 b8 c3 c4 c5 c6 c7 c8 b2 b6 b4 b9 a6 b0 a8 a0 a4 a2 bm1 bm2 c9 c0 d0 d1 d2 d3 d4 d5 b3 b7 b5 c1 a7 b1 a9 I m (law04_Cut_v1 bm0 bm1 bm2 d6) (law04_Cut_m1 bm0 c2 b8 c3 c4 c5 c6 c7 c8 b2 b6 b4 b9 a6 b0 a8 a0 a4 a2 bm1 bm2 c9 c0 d0 d1 d2 d3 d4 d5 b3 b7 b5 c1 a7 b1 a9 a1 a5 a3) w := ⟨m', h1, _, _, _, _, rfl, rfl, h2⟩
theorem law04_Cut_rule1 {bm0 : Nat} {c2 : Int} {b8 : ByteArray} {c3 : Int} {c4 : Int} {c5 : Int} {c6 : Int} {c7 : Int} {c8 : Int} {b2 : Option Addr} {b6 : Nat} {b4 : Nat} {b9 : ByteArray} {a6 : ByteArray} {b0 : Int} {a8 : Bool} {a3 : Option Addr} {a5 : Nat} {a4 : Nat} {bm1 : Nat} {bm2 : Nat} {c9 : Int} {c0 : ByteArray} {d0 : Int} {d1 : Int} {d2 : Int} {d3 : Int} {d4 : Int} {d5 : Int} {b3 : Option Addr} {b7 : Nat} {b5 : Nat} {c1 : ByteArray} {a7 : ByteArray} {b1 : Int} {a9 : Bool} {e0 : Int} {d6 : Option Addr} {d8 : Nat} {d7 : Nat} {R : Value → World → Prop} {w0 : World} (I : Nat → Int → Option Addr → Nat → Nat → World → Prop) (m0 : Nat) (h0 : I m0 e0 d6 d8 d7 w0)
 (hr : ∀ (m : Nat) (d9 : Int) (a0 : Option Addr) (a2 : Nat) (a1 : Nat) (w : World), I m d9 a0 a2 a1 w → law04_Cut_L1 bm0 c2 b8 c3 c4 c5 c6 c7 c8 b2 b6 b4 b9 a6 b0 a8 a3 a5 a4 bm1 bm2 c9 c0 d0 d1 d2 d3 d4 d5 b3 b7 b5 c1 a7 b1 a9 d9 a0 a2 a1 (law04_Cut_K1 bm0 c2 b8 c3 c4 c5 c6 c7 c8 b2 b6 b4 b9 a6 b0 a8 a3 a5 a4 bm1 bm2 c9 c0 d0 d1 d2 d3 d4 d5 b3 b7 b5 c1 a7 b1 a9 I m) R w) :
 loopD3 law04_Cut_la1 (dnF Tryz.prog law04_Cut_an (code Tryz.f13) 391 [0, 0, 1, 0, 1, 1, 1, 1, 1, 1, 1]) (kont3 Tryz.prog law04_Cut_an (code Tryz.f13) [1, 1, 1, 1, 1, 1, 1, 0, 1, 0] [] (post3 Tryz.prog Tryz.f13 [] R)) (law04_Cut_v1 bm0 bm1 bm2 e0) (law04_Cut_m1 bm0 c2 b8 c3 c4 c5 c6 c7 c8 b2 b6 b4 b9 a6 b0 a8 a3 a5 a4 bm1 bm2 c9 c0 d0 d1 d2 d3 d4 d5 b3 b7 b5 c1 a7 b1 a9 d6 d8 d7) w0 := by
 refine ⟨fun m vals mem w => ∃ d9 a0 a2 a1, vals = (law04_Cut_v1 bm0 bm1 bm2 d9) ∧ mem = (law04_Cut_m1 bm0 c2 b8 c3 c4 c5 c6 c7 c8 b2 b6 b4 b9 a6 b0 a8 a3 a5 a4 bm1 bm2 c9 c0 d0 d1 d2 d3 d4 d5 b3 b7 b5 c1 a7 b1 a9 a0 a2 a1) ∧ I m d9 a0 a2 a1 w, m0, ⟨_, _, _, _, rfl, rfl, h0⟩, ?_⟩
 rintro m vals mem w ⟨d9, a0, a2, a1, rfl, rfl, hI⟩
 refine ⟨rfl, rfl, fun js => ?_⟩
 have h := hr m d9 a0 a2 a1 w hI
 rw [← law04_Cut_L1_eq _ _ _ _ _ _ _ _ _ _ _ _ _ _ _ _ _ _ _ _ _ _ _ _ _ _ _ _ _ _ _ _ _ _ _ _ _ _ _ _ _ js] at h
 exact h
def law04_Cut_T (a8 : Int) (a1 : ByteArray) (b5 : Int) (b6 : Int) (b7 : Int) (b8 : Int) (b9 : Int) (c0 : Int) (a3 : Option Addr) (a5 : Nat) (a4 : Nat) (a2 : ByteArray) (a0 : ByteArray) (a6 : Int) (a7 : Bool) (a9 : Option Addr) (b4 : Nat) (b0 : Nat) (R : Value → World → Prop) (w : World) : Prop :=
 ∀ b1, w.heap.size ≤ b1 →
 ∀ b2, w.heap.size ≤ b2 →
 ∀ b3, w.heap.size ≤ b3 →
 slS a1 0 (if 40 < (a1.size : Int) then 40 else (a1.size : Int)) fun s4 =>
 slS a2 0 (if 40 < (a2.size : Int) then 40 else (a2.size : Int)) fun s5 =>
 slS a0 0 (if 40 < (a0.size : Int) then 40 else (a0.size : Int)) fun s6 =>
 ∀ w7, Adv [] [b3, b2, b1] w w7 →
 Calls Tryz.prog 57 #[(.agg #[(.int .i64 b8), (.int .i64 b9), (.int .i64 c0), (.slice a3 a5 a4)])] w7 fun e w8 => ∃ x9 : Int, ∃ x10 : Int, ∃ x11 : Int, ∃ (a12 : Option Addr) (n13 c14 : Nat), e = .returned (.agg #[(.int .i64 x9), (.int .i64 x10), (.int .i64 x11), (.slice a12 n13 c14)]) ∧ Keep [b1, b2, b3] w7 w8 ∧
 ∀ w30, Adv [b3] [] w8 w30 →
 loopD3 law04_Cut_la1 (dnF Tryz.prog law04_Cut_an (code Tryz.f13) 391 [0, 0, 1, 0, 1, 1, 1, 1, 1, 1, 1]) (kont3 Tryz.prog law04_Cut_an (code Tryz.f13) [1, 1, 1, 1, 1, 1, 1, 0, 1, 0] [] (post3 Tryz.prog Tryz.f13 [] R)) (law04_Cut_v1 b1 b2 b3 0) (law04_Cut_m1 b1 a8 a1 b5 b6 b7 b8 b9 c0 a3 a5 a4 a2 a0 a6 a7 a9 b4 b0 b2 b3 a8 s4 b5 b6 b7 x9 x10 x11 a12 n13 c14 s5 s6 a6 a7 none 0 0) w30
theorem law04_Cut_eq (a9 : Int) (b0 : ByteArray) (b1 : Int) (b2 : Int) (b3 : Int) (b4 : Int) (b5 : Int) (b6 : Int) (a3 : Option Addr) (a5 : Nat) (a4 : Nat) (b7 : ByteArray) (a6 : ByteArray) (a7 : Int) (a8 : Bool) (a0 : Option Addr) (a2 : Nat) (a1 : Nat) (R : Value → World → Prop) (w : World) :
 dnF Tryz.prog law04_Cut_an (code Tryz.f13) 400 [] (post3 Tryz.prog Tryz.f13 [] R) ⟨args0 0 [(.agg #[(.int .i64 a9), (.string b0), (.int .i64 b1), (.int .i64 b2), (.int .i64 b3), (.int .i64 b4), (.int .i64 b5), (.int .i64 b6), (.slice a3 a5 a4), (.string b7), (.string a6), (.int .i64 a7), (.bool a8), (.slice a0 a2 a1)])], fun _ => undef⟩ ⟨[], w, [], [], true⟩ = law04_Cut_T a9 b0 b1 b2 b3 b4 b5 b6 a3 a5 a4 b7 a6 a7 a8 a0 a2 a1 R w := by kernel_rfl
theorem law04_Cut_go {a9 : Int} {b0 : ByteArray} {b1 : Int} {b2 : Int} {b3 : Int} {b4 : Int} {b5 : Int} {b6 : Int} {a3 : Option Addr} {a5 : Nat} {a4 : Nat} {b7 : ByteArray} {a6 : ByteArray} {a7 : Int} {a8 : Bool} {a0 : Option Addr} {a2 : Nat} {a1 : Nat} {R : Value → World → Prop} {w : World} (h : law04_Cut_T a9 b0 b1 b2 b3 b4 b5 b6 a3 a5 a4 b7 a6 a7 a8 a0 a2 a1 R w) :
 Calls Tryz.prog 13 #[(.agg #[(.int .i64 a9), (.string b0), (.int .i64 b1), (.int .i64 b2), (.int .i64 b3), (.int .i64 b4), (.int .i64 b5), (.int .i64 b6), (.slice a3 a5 a4), (.string b7), (.string a6), (.int .i64 a7), (.bool a8), (.slice a0 a2 a1)])] w fun e w' => ∃ v, e = .returned v ∧ R v w' :=
 calls_none Tryz.wide_mixed (f := 13) (args := [(.agg #[(.int .i64 a9), (.string b0), (.int .i64 b1), (.int .i64 b2), (.int .i64 b3), (.int .i64 b4), (.int .i64 b5), (.int .i64 b6), (.slice a3 a5 a4), (.string b7), (.string a6), (.int .i64 a7), (.bool a8), (.slice a0 a2 a1)])]) Tryz.func13 rfl rfl (by kernel_rfl) rfl (Eq.mpr (law04_Cut_eq a9 b0 b1 b2 b3 b4 b5 b6 a3 a5 a4 b7 a6 a7 a8 a0 a2 a1 R w) h)
end Go.Proofs.YtohgihgddknmmaaGreat

/- Commands cut short, as the statements do it. -/
namespace Go.Proofs.YtohgihgddknmmaaGreat
open Go Go.RowKit
set_option linter.unusedVariables false
set_option linter.unusedSimpArgs false

theorem cut3_ok (r : PRec) (w : World) : Calls Tryz.prog 103 #[r.v] w fun e w' => ∃ v, e = .returned v ∧ ∃ r' : PRec, v = r'.v ∧ Mod [] w w' := by
  refine law03_cut_go ?_
  intro b1 f1 b2 f2
  refine ⟨by omega, by split <;> omega, by split <;> omega, by omega, by split <;> omega, by split <;> omega, ?_⟩
  intro w3 A3
  exact ⟨⟨r.hk, r.key.extract (Int.toNat 0) (if 80 < (r.key.size : Int) then 80 else (r.key.size : Int)).toNat, r.tomb, r.val.extract (Int.toNat 0) (if 600 < (r.val.size : Int) then 600 else (r.val.size : Int)).toNat⟩, rfl, A3.mod⟩
theorem Bound_ok {w : World} {b : PBatch} {rs : Sl} (h : SlAt w 4 encR rs.a rs.n b.recs) (hw : rs.n ≤ maxLen) :
    Calls Tryz.prog 57 #[b.v rs] w fun e w' => ∃ v, e = .returned v ∧ ∃ (b' : PBatch) (rs' : Sl), v = b'.v rs' ∧ Row w' w.heap.size 149 4 encR rs'.a rs'.n rs'.c b'.recs ∧ b'.recs.length ≤ 20 ∧ Mod [] w w' := by
  refine law03_Bound_go ?_
  intro b1 f1 b2 f2 b3 f3 w1 A1
  have l1 := A1.lt b1 (by simp)
  have l2 := A1.lt b2 (by simp)
  have l3 := A1.lt b3 (by simp)
  have s1 := A1.mod.size
  have hn := h.1
  refine law03_Bound_rule1 (fun mm x a n c w' => ∃ (k : Nat) (l : List PRec), x = k ∧ k ≤ b.recs.length ∧ k ≤ 20 ∧ l.length = k ∧ Row w' w1.heap.size 149 4 encR a n c l ∧ Mod [] w w' ∧ w1.heap.size ≤ w'.heap.size ∧ mm = b.recs.length - k) b.recs.length
    ⟨0, [], rfl, by omega, by omega, rfl, Row.nil .., A1.mod, Nat.le_refl _, rfl⟩ ?_
  rintro mm x a n c w2 ⟨k, l, rfl, hk, hk2, hlk, hRow, N2, s2, rfl⟩
  have fin : ∀ {w'}, Adv [b2] [] w2 w' → ∃ (b' : PBatch) (rs' : Sl), Value.agg #[.int .i64 b.prod, .int .i64 b.epoch, .int .i64 b.seq, .slice a n c] = b'.v rs' ∧ Row w' w.heap.size 149 4 encR rs'.a rs'.n rs'.c b'.recs ∧ b'.recs.length ≤ 20 ∧ Mod [] w w' := fun {w'} A =>
    ⟨⟨b.prod, b.epoch, b.seq, l⟩, ⟨a, n, c⟩, rfl, (hRow.keep A.mod fun ad ha hk => by have := hRow.base ad ha; simp at hk; omega).rebase s1, by show l.length ≤ 20; omega, N2.go0 A.mod (by simpa using f2)⟩
  refine brB_dec (fun hlt => ?_) fun hge => fun w3 A3 => fin A3
  refine brB_dec (fun hlt2 => ?_) fun hge => fun w3 A3 => fin A3
  obtain ⟨r, hr⟩ : ∃ r, b.recs[k]? = some r := ⟨_, List.getElem?_eq_getElem (by omega)⟩
  refine (h.keep0 N2).ixW hr fun q hq => ?_
  intro w3 A3
  have hq := hq w3 A3.mod
  refine ldBool_of (x := r.hk) (by simpa [add_zero] using hq 0 _ rfl) (ldStr_of (hq 1 _ rfl) (ldBool_of (hq 2 _ rfl) (ldStr_of (hq 3 _ rfl) ?_)))
  refine (cut3_ok r w3).mono ?_
  rintro e w4 ⟨_, rfl, r', rfl, M4⟩
  refine ⟨_, _, _, _, rfl, Keep.of0 M4, rfl, ?_⟩
  refine al_of fun b5 w5 c5 M5 f5 => ?_
  have K5 : Mod [] w2 w5 := (A3.mod.go0 M4 (by simp)).go0 M5 (by simp)
  have s5 := K5.size
  obtain ⟨i0, hi, hz0, hz1, hz2⟩ := info_parts infoR
  refine append_of (x := r') (hRow.keep0 K5) Tryz.underlying33 hi hz0 hz1 hz2 rfl (by decide) c5 rfl (encR_one _) (by omega) (by unfold maxLen; omega) (by omega) fun a' c' w6 hR6 hM6 => ?_
  have M6 := hM6 _ (rowS_ok a)
  have hrow := rowS_block hRow
  refine ⟨Keep.of M6 fun b hb _ hb' => ?_, ?_⟩
  · have := hrow b hb'; simp at hb; omega
  intro w7 A7
  unfold maxLen at hw
  refine law03_Bound_leaf1 (b.recs.length - (k + 1)) (by omega) ⟨k + 1, _, by rw [wrap_id (by omega) (by omega)]; omega, by omega, by omega, by rw [List.length_append, hlk]; rfl, hR6.keep A7.mod fun ad ha hk => ?_, ?_, by have := M6.size; have := A7.mod.size; omega, rfl⟩
  · have := hR6.base ad ha; simp at hk; omega
  · refine ((N2.go0 K5 (by simp)).go0 M6 fun i hi => ?_).go0 A7.mod (by simpa using f3)
    have := hrow i hi; omega
theorem Cut_ok {w : World} {o : POp} {rs ts : Sl} (h : OpRd w o rs ts) :
    Calls Tryz.prog 13 #[o.v rs ts] w fun e w' => ∃ v, e = .returned v ∧ ∃ (o' : POp) (rs' ts' : Sl), v = o'.v rs' ts' ∧ OpOwn w' w.heap.size o' rs' ts' ∧ Mod [] w w' := by
  refine law04_Cut_go ?_
  intro b1 f1 b2 f2 b3 f3
  refine ⟨by omega, by split <;> omega, by split <;> omega, by omega, by split <;> omega, by split <;> omega, by omega, by split <;> omega, by split <;> omega, ?_⟩
  intro w1 A1
  have l1 := A1.lt b1 (by simp)
  have l2 := A1.lt b2 (by simp)
  have l3 := A1.lt b3 (by simp)
  have s1 := A1.mod.size
  have hn := h.topics.1
  have hw := h.wt
  unfold maxLen at hw
  refine (Bound_ok (b := o.b) (rs := rs) (h.recs.keep0 A1.mod) h.wr).mono ?_
  rintro e w2 ⟨_, rfl, b', rs', rfl, hB, hbl, M2⟩
  have s2 := M2.size
  refine ⟨_, _, _, _, _, _, rfl, Keep.of0 M2, ?_⟩
  intro w3 A3
  have s3 := A3.mod.size
  have hB3 : Row w3 w1.heap.size 149 4 encR rs'.a rs'.n rs'.c b'.recs := hB.keep A3.mod fun ad ha hk => by have := hB.base ad ha; simp at hk; omega
  have N3 := (A1.mod.go0 M2 (by simp)).go0 A3.mod (by simpa using f3)
  refine law04_Cut_rule1 (fun mm x a n c w' => ∃ (k : Nat) (l : List ByteArray), x = k ∧ k ≤ o.topics.length ∧ k ≤ 12 ∧ l.length = k ∧ Row w' w1.heap.size 9 1 encS a n c l ∧ Row w' w1.heap.size 149 4 encR rs'.a rs'.n rs'.c b'.recs ∧ Mod [] w w' ∧ w1.heap.size ≤ w'.heap.size ∧ mm = o.topics.length - k) o.topics.length
    ⟨0, [], rfl, by omega, by omega, rfl, Row.nil .., hB3, N3, by omega, rfl⟩ ?_
  rintro mm x a n c w4 ⟨k, l, rfl, hk, hk2, hlk, hRow, hB4, N4, s4, rfl⟩
  have fin : ∀ {w'} {s1 s2 s3 : ByteArray}, Adv [b2] [] w4 w' → ∃ (o' : POp) (rs'' ts' : Sl), Value.agg #[.int .i64 o.kind, .string s1, .int .i64 o.part.n, .int .i64 o.n, .int .i64 o.off, .int .i64 b'.prod, .int .i64 b'.epoch, .int .i64 b'.seq, .slice rs'.a rs'.n rs'.c, .string s2, .string s3, .int .i64 o.gen, .bool o.robin, .slice a n c] = o'.v rs'' ts' ∧ OpOwn w' w.heap.size o' rs'' ts' ∧ Mod [] w w' := fun {w' t1 t2 t3} A =>
    ⟨⟨o.kind, ⟨t1, o.part.n⟩, o.n, o.off, b', t2, t3, o.gen, o.robin, l⟩, rs', ⟨a, n, c⟩, rfl, ⟨(hB4.keep A.mod fun ad ha hk => by have := hB4.base ad ha; simp at hk; omega).rebase s1, (hRow.keep A.mod fun ad ha hk => by have := hRow.base ad ha; simp at hk; omega).rebase s1, by show b'.recs.length ≤ _; omega, by show l.length ≤ _; omega⟩, N4.go0 A.mod (by simpa using f2)⟩
  refine brB_dec (fun hlt => ?_) fun hge => fun w5 A5 => fin A5
  refine brB_dec (fun hlt2 => ?_) fun hge => fun w5 A5 => fin A5
  obtain ⟨t, ht⟩ : ∃ t, o.topics[k]? = some t := ⟨_, List.getElem?_eq_getElem (by omega)⟩
  refine (h.topics.keep0 N4).ixW ht fun q hq => ?_
  intro w5 A5
  refine ldStr_of (x := t) (by simpa [add_zero] using hq w5 A5.mod 0 _ rfl) ?_
  refine (h.topics.keep0 N4).ixW ht fun q hq => ?_
  refine ldStr_of (x := t) (by simpa [add_zero] using hq w5 A5.mod 0 _ rfl) ?_
  refine ⟨by omega, by split <;> omega, by split <;> omega, ?_⟩
  refine al_of fun b6 w6 c6 M6 f6 => ?_
  have K6 : Mod [] w4 w6 := A5.mod.go0 M6 (by simp)
  have s6 := K6.size
  obtain ⟨i0, hi, hz0, hz1, hz2⟩ := info_parts infoS
  refine append_of (enc := encS) (x := (_ : ByteArray)) (hRow.keep0 K6) Tryz.underlying36 hi hz0 hz1 hz2 rfl (by decide) c6 rfl (encS_one _) (by omega) (by unfold maxLen; omega) (by omega) fun a' c' w7 hR7 hM7 => ?_
  have M7 := hM7 _ (rowS_ok a)
  have s7 := M7.size
  have hrow := rowS_block hRow
  refine ⟨Keep.of M7 fun b hb _ hb' => ?_, ?_⟩
  · have := hrow b hb'; simp at hb; omega
  intro w8 A8
  have s8 := A8.mod.size
  have hB7 : Row w7 w1.heap.size 149 4 encR rs'.a rs'.n rs'.c b'.recs := (hB4.keep0 K6).keep M7 fun ad ha hk => by
    obtain ⟨_, cur, hc⟩ := hB4.block ad ha
    obtain ⟨_, _, cur2, hc2⟩ := hrow _ hk
    rw [hc2] at hc; cases hc
  refine law04_Cut_leaf1 (o.topics.length - (k + 1)) (by omega) ⟨k + 1, _, by rw [wrap_id (by omega) (by omega)]; omega, by omega, by omega, by rw [List.length_append, hlk]; rfl, hR7.keep A8.mod fun ad ha hk => ?_, hB7.keep A8.mod fun ad ha hk => ?_, ?_, by omega, rfl⟩
  · have := hR7.base ad ha; simp at hk; omega
  · have := hB7.base ad ha; simp at hk; omega
  · refine ((N4.go0 K6 (by simp)).go0 M7 fun i hi => ?_).go0 A8.mod (by simpa using f3)
    have := hrow i hi; omega
end Go.Proofs.YtohgihgddknmmaaGreat

/- The conditions of Go functions' bodies, printed by gen2.py. -/
namespace Go.Proofs.YtohgihgddknmmaaGreat
open Go Go.RowKit
set_option linter.unusedVariables false
set_option maxRecDepth 100000

def law16_tick_an : List LA := []
def law16_tick_T (a0 : Int) (a1 : Int) (R : Value → World → Prop) (w : World) : Prop :=
 ∀ b1, w.heap.size ≤ b1 →
 ∀ w2, Adv [] [b1] w w2 →
 R (.agg #[(.int .i64 a0), (.int .i64 a1), (.int .i64 12), (.string ByteArray.empty), (.int .i64 0), (.int .i64 a1), (.int .i64 0), (.int .i64 0), (.int .i64 0), (.int .i64 0), (.slice none 0 0), (.string ByteArray.empty), (.string ByteArray.empty), (.int .i64 0), (.bool false), (.slice none 0 0)]) w2
theorem law16_tick_eq (a0 : Int) (a1 : Int) (R : Value → World → Prop) (w : World) :
 dnF Tryz.prog law16_tick_an (code Tryz.f52) 400 [] (post3 Tryz.prog Tryz.f52 [] R) ⟨args0 0 [(.int .i64 a0), (.int .i64 a1)], fun _ => undef⟩ ⟨[], w, [], [], true⟩ = law16_tick_T a0 a1 R w := by kernel_rfl
theorem law16_tick_go {a0 : Int} {a1 : Int} {R : Value → World → Prop} {w : World} (h : law16_tick_T a0 a1 R w) :
 Calls Tryz.prog 52 #[(.int .i64 a0), (.int .i64 a1)] w fun e w' => ∃ v, e = .returned v ∧ R v w' :=
 calls_none Tryz.wide_mixed (f := 52) (args := [(.int .i64 a0), (.int .i64 a1)]) Tryz.func52 rfl rfl (by kernel_rfl) rfl (Eq.mpr (law16_tick_eq a0 a1 R w) h)
def law16_Cut_la1 : LA := ⟨[0, 0, 1, 0, 1, 1], [0, 3, 4], [], 0, []⟩
def law16_Cut_an : List LA := [law16_Cut_la1]
def law16_Cut_v1 (a0 : Option Addr) (a4 : Nat) (a2 : Nat) (a1 : Option Addr) (a5 : Nat) (a3 : Nat) (a6 : Int) : List Value := [(.slice a0 a4 a2), (.slice a1 a5 a3), (.int .i64 a6)]
def law16_Cut_m1 : List TB := []
def law16_Cut_L1 (a2 : Option Addr) (a1 : Nat) (a6 : Nat) (a3 : Option Addr) (a5 : Nat) (a4 : Nat) (a0 : Int) (K1 : Kh) (R : Value → World → Prop) (w : World) : Prop :=
 brB (decide (a0 < (a1 : Int))) (
 brB (decide (a0 < 12)) (
 ixA a2 a1 a0 16 fun q3 =>
 ∀ w4, Adv [] [] w w4 →
 ldInt .i64 w4 q3 fun x5 =>
 ixA a2 a1 a0 16 fun q6 =>
 ldInt .i64 w4 (Addr.add q6 1) fun x7 =>
 ixA a2 a1 a0 16 fun q8 =>
 ldInt .i64 w4 (Addr.add q8 2) fun x9 => ldStr w4 (Addr.add (Addr.add q8 2) 1) fun s10 => ldInt .i64 w4 (Addr.add (Addr.add q8 2) 2) fun x11 => ldInt .i64 w4 (Addr.add (Addr.add q8 2) 3) fun x12 => ldInt .i64 w4 (Addr.add (Addr.add q8 2) 4) fun x13 => ldInt .i64 w4 (Addr.add (Addr.add q8 2) 5) fun x14 => ldInt .i64 w4 (Addr.add (Addr.add q8 2) 6) fun x15 => ldInt .i64 w4 (Addr.add (Addr.add q8 2) 7) fun x16 => ldSlice w4 (Addr.add (Addr.add q8 2) 8) fun a17 n18 c19 => ldStr w4 (Addr.add (Addr.add q8 2) 9) fun s20 => ldStr w4 (Addr.add (Addr.add q8 2) 10) fun s21 => ldInt .i64 w4 (Addr.add (Addr.add q8 2) 11) fun x22 => ldBool w4 (Addr.add (Addr.add q8 2) 12) fun t23 => ldSlice w4 (Addr.add (Addr.add q8 2) 13) fun a24 n25 c26 =>
 Calls Tryz.prog 13 #[(.agg #[(.int .i64 x9), (.string s10), (.int .i64 x11), (.int .i64 x12), (.int .i64 x13), (.int .i64 x14), (.int .i64 x15), (.int .i64 x16), (.slice a17 n18 c19), (.string s20), (.string s21), (.int .i64 x22), (.bool t23), (.slice a24 n25 c26)])] w4 fun e w27 => ∃ x28 : Int, ∃ s29 : ByteArray, ∃ x30 : Int, ∃ x31 : Int, ∃ x32 : Int, ∃ x33 : Int, ∃ x34 : Int, ∃ x35 : Int, ∃ (a36 : Option Addr) (n37 c38 : Nat), ∃ s39 : ByteArray, ∃ s40 : ByteArray, ∃ x41 : Int, ∃ t42 : Bool, ∃ (a43 : Option Addr) (n44 c45 : Nat), e = .returned (.agg #[(.int .i64 x28), (.string s29), (.int .i64 x30), (.int .i64 x31), (.int .i64 x32), (.int .i64 x33), (.int .i64 x34), (.int .i64 x35), (.slice a36 n37 c38), (.string s39), (.string s40), (.int .i64 x41), (.bool t42), (.slice a43 n44 c45)]) ∧ (ldInt .i64 w27 (Addr.add q6 1) fun x46 => ((.int .i64 x46) : Value) = (.int .i64 x7)) ∧ (ldInt .i64 w27 q3 fun x47 => ((.int .i64 x47) : Value) = (.int .i64 x5)) ∧
 al w27 (.cells #[(.int .i64 x5), (.int .i64 x7), (.int .i64 x28), (.string s29), (.int .i64 x30), (.int .i64 x31), (.int .i64 x32), (.int .i64 x33), (.int .i64 x34), (.int .i64 x35), (.slice a36 n37 c38), (.string s39), (.string s40), (.int .i64 x41), (.bool t42), (.slice a43 n44 c45)] 57) fun b48 w49 =>
 effSl Tryz.prog (Builtin.append_ #[39, 39] 39 #[(.slice a3 a5 a4), (.slice (some ⟨b48, 0, none⟩) 1 1)]) w49 fun a51 n52 c53 w50 =>
 K1 (law16_Cut_v1 a2 a1 a6 a51 n52 c53 (IntKind.wrap .i64 (a0 + 1))) (law16_Cut_m1) w50)
 (
 R (.slice a3 a5 a4) w))
 (
 R (.slice a3 a5 a4) w)
theorem law16_Cut_L1_eq (a0 : Option Addr) (a4 : Nat) (a2 : Nat) (a1 : Option Addr) (a5 : Nat) (a3 : Nat) (a6 : Int) (K1 : Kh) (js : Nat → Value) (R : Value → World → Prop) (w : World) :
 headA law16_Cut_la1 ((dnF Tryz.prog law16_Cut_an (code Tryz.f30) 396 [0, 0, 1, 0, 1, 1]) (kthen3 (atA law16_Cut_la1 K1) (kont3 Tryz.prog law16_Cut_an (code Tryz.f30) [1, 1, 0, 1, 0] [] (post3 Tryz.prog Tryz.f30 [] R)))) (law16_Cut_v1 a0 a4 a2 a1 a5 a3 a6) js (law16_Cut_m1) w = law16_Cut_L1 a0 a4 a2 a1 a5 a3 a6 K1 R w := by kernel_rfl
def law16_Cut_K1 (a4 : Option Addr) (a6 : Nat) (a5 : Nat) (I : Nat → Option Addr → Nat → Nat → Int → World → Prop) (m : Nat) (vals : List Value) (mem : List TB) (w : World) : Prop := ∃ m', m' < m ∧ ∃ a0 a2 a1 a3, vals = (law16_Cut_v1 a4 a6 a5 a0 a2 a1 a3) ∧ mem = (law16_Cut_m1) ∧ I m' a0 a2 a1 a3 w
theorem law16_Cut_leaf1 {a0 : Option Addr} {a4 : Nat} {a2 : Nat} {I : Nat → Option Addr → Nat → Nat → Int → World → Prop} {m : Nat} {a1 : Option Addr} {a5 : Nat} {a3 : Nat} {a6 : Int} {w : World} (m' : Nat) (h1 : m' < m) (h2 : I m' a1 a5 a3 a6 w) : law16_Cut_K1 a0 a4 a2 I m (law16_Cut_v1 a0 a4 a2 a1 a5 a3 a6) (law16_Cut_m1) w := ⟨m', h1, _, _, _, _, rfl, rfl, h2⟩
theorem law16_Cut_rule1 {a4 : Option Addr} {a6 : Nat} {a5 : Nat} {a7 : Option Addr} {a9 : Nat} {a8 : Nat} {b0 : Int} {R : Value → World → Prop} {w0 : World} (I : Nat → Option Addr → Nat → Nat → Int → World → Prop) (m0 : Nat) (h0 : I m0 a7 a9 a8 b0 w0)
 (hr : ∀ (m : Nat) (a0 : Option Addr) (a2 : Nat) (a1 : Nat) (a3 : Int) (w : World), I m a0 a2 a1 a3 w → law16_Cut_L1 a4 a6 a5 a0 a2 a1 a3 (law16_Cut_K1 a4 a6 a5 I m) R w) :
 loopD3 law16_Cut_la1 (dnF Tryz.prog law16_Cut_an (code Tryz.f30) 396 [0, 0, 1, 0, 1, 1]) (kont3 Tryz.prog law16_Cut_an (code Tryz.f30) [1, 1, 0, 1, 0] [] (post3 Tryz.prog Tryz.f30 [] R)) (law16_Cut_v1 a4 a6 a5 a7 a9 a8 b0) (law16_Cut_m1) w0 := by
 refine ⟨fun m vals mem w => ∃ a0 a2 a1 a3, vals = (law16_Cut_v1 a4 a6 a5 a0 a2 a1 a3) ∧ mem = (law16_Cut_m1) ∧ I m a0 a2 a1 a3 w, m0, ⟨_, _, _, _, rfl, rfl, h0⟩, ?_⟩
 rintro m vals mem w ⟨a0, a2, a1, a3, rfl, rfl, hI⟩
 refine ⟨rfl, rfl, fun js => ?_⟩
 have h := hr m a0 a2 a1 a3 w hI
 rw [← law16_Cut_L1_eq _ _ _ _ _ _ _ _ js] at h
 exact h
def law16_Cut_T (a0 : Option Addr) (a2 : Nat) (a1 : Nat) (R : Value → World → Prop) (w : World) : Prop :=
 al w (.cells #[] 57) fun b1 w2 =>
 loopD3 law16_Cut_la1 (dnF Tryz.prog law16_Cut_an (code Tryz.f30) 396 [0, 0, 1, 0, 1, 1]) (kont3 Tryz.prog law16_Cut_an (code Tryz.f30) [1, 1, 0, 1, 0] [] (post3 Tryz.prog Tryz.f30 [] R)) (law16_Cut_v1 a0 a2 a1 (some ⟨b1, 0, none⟩) 0 0 0) (law16_Cut_m1) w2
theorem law16_Cut_eq (a0 : Option Addr) (a2 : Nat) (a1 : Nat) (R : Value → World → Prop) (w : World) :
 dnF Tryz.prog law16_Cut_an (code Tryz.f30) 400 [] (post3 Tryz.prog Tryz.f30 [] R) ⟨args0 0 [(.slice a0 a2 a1)], fun _ => undef⟩ ⟨[], w, [], [], true⟩ = law16_Cut_T a0 a2 a1 R w := by kernel_rfl
theorem law16_Cut_go {a0 : Option Addr} {a2 : Nat} {a1 : Nat} {R : Value → World → Prop} {w : World} (h : law16_Cut_T a0 a2 a1 R w) :
 Calls Tryz.prog 30 #[(.slice a0 a2 a1)] w fun e w' => ∃ v, e = .returned v ∧ R v w' :=
 calls_none Tryz.wide_mixed (f := 30) (args := [(.slice a0 a2 a1)]) Tryz.func30 rfl rfl (by kernel_rfl) rfl (Eq.mpr (law16_Cut_eq a0 a2 a1 R w) h)
def law16_fixed_an : List LA := []
def law16_fixed_T (R : Value → World → Prop) (w : World) : Prop :=
 Calls Tryz.prog 41 #[] w fun e w1 => ∃ p2 : Option Addr, e = .returned (.pointer p2) ∧
 brB (Option.isNone p2) (
 R (.bool false) w1)
 (
 Calls Tryz.prog 52 #[(.int .i64 1), (.int .i64 1)] w1 fun e w3 => ∃ x4 : Int, ∃ x5 : Int, ∃ x6 : Int, ∃ s7 : ByteArray, ∃ x8 : Int, ∃ x9 : Int, ∃ x10 : Int, ∃ x11 : Int, ∃ x12 : Int, ∃ x13 : Int, ∃ (a14 : Option Addr) (n15 c16 : Nat), ∃ s17 : ByteArray, ∃ s18 : ByteArray, ∃ x19 : Int, ∃ t20 : Bool, ∃ (a21 : Option Addr) (n22 c23 : Nat), e = .returned (.agg #[(.int .i64 x4), (.int .i64 x5), (.int .i64 x6), (.string s7), (.int .i64 x8), (.int .i64 x9), (.int .i64 x10), (.int .i64 x11), (.int .i64 x12), (.int .i64 x13), (.slice a14 n15 c16), (.string s17), (.string s18), (.int .i64 x19), (.bool t20), (.slice a21 n22 c23)]) ∧
 Calls Tryz.prog 42 #[(.pointer p2), (.agg #[(.int .i64 x4), (.int .i64 x5), (.int .i64 x6), (.string s7), (.int .i64 x8), (.int .i64 x9), (.int .i64 x10), (.int .i64 x11), (.int .i64 x12), (.int .i64 x13), (.slice a14 n15 c16), (.string s17), (.string s18), (.int .i64 x19), (.bool t20), (.slice a21 n22 c23)])] w3 fun e w24 => ∃ x25 : Int, ∃ x26 : Int, e = .returned (.tuple #[(.int .i64 x25), (.int .i64 x26)]) ∧
 Calls Tryz.prog 52 #[(.int .i64 1), (.int .i64 2)] w24 fun e w27 => ∃ x28 : Int, ∃ x29 : Int, ∃ x30 : Int, ∃ s31 : ByteArray, ∃ x32 : Int, ∃ x33 : Int, ∃ x34 : Int, ∃ x35 : Int, ∃ x36 : Int, ∃ x37 : Int, ∃ (a38 : Option Addr) (n39 c40 : Nat), ∃ s41 : ByteArray, ∃ s42 : ByteArray, ∃ x43 : Int, ∃ t44 : Bool, ∃ (a45 : Option Addr) (n46 c47 : Nat), e = .returned (.agg #[(.int .i64 x28), (.int .i64 x29), (.int .i64 x30), (.string s31), (.int .i64 x32), (.int .i64 x33), (.int .i64 x34), (.int .i64 x35), (.int .i64 x36), (.int .i64 x37), (.slice a38 n39 c40), (.string s41), (.string s42), (.int .i64 x43), (.bool t44), (.slice a45 n46 c47)]) ∧
 Calls Tryz.prog 42 #[(.pointer p2), (.agg #[(.int .i64 x28), (.int .i64 x29), (.int .i64 x30), (.string s31), (.int .i64 x32), (.int .i64 x33), (.int .i64 x34), (.int .i64 x35), (.int .i64 x36), (.int .i64 x37), (.slice a38 n39 c40), (.string s41), (.string s42), (.int .i64 x43), (.bool t44), (.slice a45 n46 c47)])] w27 fun e w48 => ∃ x49 : Int, ∃ x50 : Int, e = .returned (.tuple #[(.int .i64 x49), (.int .i64 x50)]) ∧
 Calls Tryz.prog 43 #[(.pointer p2), (.int .i64 1)] w48 fun e w51 => ∃ x52 : Int, e = .returned (.int .i64 x52) ∧
 Calls Tryz.prog 40 #[(.pointer p2)] w51 fun e w53 => ∃ x54 : Int, ∃ x55 : Int, e = .returned (.tuple #[(.int .i64 x54), (.int .i64 x55)]) ∧
 Calls Tryz.prog 44 #[(.pointer p2), (.int .i64 1)] w53 fun e w56 => ∃ x57 : Int, ∃ x58 : Int, ∃ x59 : Int, ∃ s60 : ByteArray, ∃ x61 : Int, ∃ x62 : Int, ∃ x63 : Int, ∃ x64 : Int, ∃ x65 : Int, ∃ x66 : Int, ∃ (a67 : Option Addr) (n68 c69 : Nat), ∃ s70 : ByteArray, ∃ s71 : ByteArray, ∃ x72 : Int, ∃ t73 : Bool, ∃ (a74 : Option Addr) (n75 c76 : Nat), ∃ x77 : Int, e = .returned (.tuple #[(.agg #[(.int .i64 x57), (.int .i64 x58), (.int .i64 x59), (.string s60), (.int .i64 x61), (.int .i64 x62), (.int .i64 x63), (.int .i64 x64), (.int .i64 x65), (.int .i64 x66), (.slice a67 n68 c69), (.string s70), (.string s71), (.int .i64 x72), (.bool t73), (.slice a74 n75 c76)]), (.int .i64 x77)]) ∧
 ∀ b78, w56.heap.size ≤ b78 →
 ∀ w79, Adv [] [b78] w56 w79 →
 Calls Tryz.prog 44 #[(.pointer p2), (.int .i64 2)] w79 fun e w80 => ∃ x81 : Int, ∃ x82 : Int, ∃ x83 : Int, ∃ s84 : ByteArray, ∃ x85 : Int, ∃ x86 : Int, ∃ x87 : Int, ∃ x88 : Int, ∃ x89 : Int, ∃ x90 : Int, ∃ (a91 : Option Addr) (n92 c93 : Nat), ∃ s94 : ByteArray, ∃ s95 : ByteArray, ∃ x96 : Int, ∃ t97 : Bool, ∃ (a98 : Option Addr) (n99 c100 : Nat), ∃ x101 : Int, e = .returned (.tuple #[(.agg #[(.int .i64 x81), (.int .i64 x82), (.int .i64 x83), (.string s84), (.int .i64 x85), (.int .i64 x86), (.int .i64 x87), (.int .i64 x88), (.int .i64 x89), (.int .i64 x90), (.slice a91 n92 c93), (.string s94), (.string s95), (.int .i64 x96), (.bool t97), (.slice a98 n99 c100)]), (.int .i64 x101)]) ∧ Keep [b78] w79 w80 ∧
 ∀ b102, w80.heap.size ≤ b102 →
 ∀ w103, Adv [] [b102] w80 w103 →
 Calls Tryz.prog 38 #[(.pointer p2), (.int .i64 1)] w103 fun e w104 => ∃ (a105 : Option Addr) (n106 c107 : Nat), ∃ x108 : Int, e = .returned (.tuple #[(.slice a105 n106 c107), (.int .i64 x108)]) ∧ Keep [b78, b102] w103 w104 ∧
 Calls Tryz.prog 38 #[(.pointer p2), (.int .i64 3)] w104 fun e w109 => ∃ (a110 : Option Addr) (n111 c112 : Nat), ∃ x113 : Int, e = .returned (.tuple #[(.slice a110 n111 c112), (.int .i64 x113)]) ∧ Keep [b78, b102] w104 w109 ∧
 Calls Tryz.prog 42 #[(.pointer p2), (.agg #[(.int .i64 0), (.int .i64 0), (.int .i64 0), (.string ByteArray.empty), (.int .i64 0), (.int .i64 0), (.int .i64 0), (.int .i64 0), (.int .i64 0), (.int .i64 0), (.slice none 0 0), (.string ByteArray.empty), (.string ByteArray.empty), (.int .i64 0), (.bool false), (.slice none 0 0)])] w109 fun e w114 => ∃ x115 : Int, ∃ x116 : Int, e = .returned (.tuple #[(.int .i64 x115), (.int .i64 x116)]) ∧ Keep [b78, b102] w109 w114 ∧
 Calls Tryz.prog 31 #[(.slice a105 n106 c107)] w114 fun e w117 => ∃ s118 : ByteArray, ∃ x119 : Int, e = .returned (.tuple #[(.string s118), (.int .i64 x119)]) ∧ Keep [b78, b102] w114 w117 ∧
 Calls Tryz.prog 33 #[(.string s118)] w117 fun e w120 => ∃ (a121 : Option Addr) (n122 c123 : Nat), ∃ x124 : Int, e = .returned (.tuple #[(.slice a121 n122 c123), (.int .i64 x124)]) ∧ Keep [b78, b102] w117 w120 ∧
 catS s118 (⟨#[120]⟩ : ByteArray) fun s125 =>
 Calls Tryz.prog 33 #[(.string s125)] w120 fun e w126 => ∃ (a127 : Option Addr) (n128 c129 : Nat), ∃ x130 : Int, e = .returned (.tuple #[(.slice a127 n128 c129), (.int .i64 x130)]) ∧ Keep [b78, b102] w120 w126 ∧
 Calls Tryz.prog 52 #[(.int .i64 2), (.int .i64 5)] w126 fun e w131 => ∃ x132 : Int, ∃ x133 : Int, ∃ x134 : Int, ∃ s135 : ByteArray, ∃ x136 : Int, ∃ x137 : Int, ∃ x138 : Int, ∃ x139 : Int, ∃ x140 : Int, ∃ x141 : Int, ∃ (a142 : Option Addr) (n143 c144 : Nat), ∃ s145 : ByteArray, ∃ s146 : ByteArray, ∃ x147 : Int, ∃ t148 : Bool, ∃ (a149 : Option Addr) (n150 c151 : Nat), e = .returned (.agg #[(.int .i64 x132), (.int .i64 x133), (.int .i64 x134), (.string s135), (.int .i64 x136), (.int .i64 x137), (.int .i64 x138), (.int .i64 x139), (.int .i64 x140), (.int .i64 x141), (.slice a142 n143 c144), (.string s145), (.string s146), (.int .i64 x147), (.bool t148), (.slice a149 n150 c151)]) ∧ Keep [b78, b102] w126 w131 ∧
 Calls Tryz.prog 52 #[(.int .i64 2), (.int .i64 6)] w131 fun e w152 => ∃ x153 : Int, ∃ x154 : Int, ∃ x155 : Int, ∃ s156 : ByteArray, ∃ x157 : Int, ∃ x158 : Int, ∃ x159 : Int, ∃ x160 : Int, ∃ x161 : Int, ∃ x162 : Int, ∃ (a163 : Option Addr) (n164 c165 : Nat), ∃ s166 : ByteArray, ∃ s167 : ByteArray, ∃ x168 : Int, ∃ t169 : Bool, ∃ (a170 : Option Addr) (n171 c172 : Nat), e = .returned (.agg #[(.int .i64 x153), (.int .i64 x154), (.int .i64 x155), (.string s156), (.int .i64 x157), (.int .i64 x158), (.int .i64 x159), (.int .i64 x160), (.int .i64 x161), (.int .i64 x162), (.slice a163 n164 c165), (.string s166), (.string s167), (.int .i64 x168), (.bool t169), (.slice a170 n171 c172)]) ∧ Keep [b78, b102] w131 w152 ∧
 al w152 (.cells #[(.int .i64 x132), (.int .i64 x133), (.int .i64 x134), (.string s135), (.int .i64 x136), (.int .i64 x137), (.int .i64 x138), (.int .i64 x139), (.int .i64 x140), (.int .i64 x141), (.slice a142 n143 c144), (.string s145), (.string s146), (.int .i64 x147), (.bool t148), (.slice a149 n150 c151), (.int .i64 x153), (.int .i64 x154), (.int .i64 x155), (.string s156), (.int .i64 x157), (.int .i64 x158), (.int .i64 x159), (.int .i64 x160), (.int .i64 x161), (.int .i64 x162), (.slice a163 n164 c165), (.string s166), (.string s167), (.int .i64 x168), (.bool t169), (.slice a170 n171 c172)] 57) fun b173 w174 =>
 Calls Tryz.prog 39 #[(.pointer p2), (.int .i64 1), (.slice (some ⟨b173, 0, none⟩) 2 2)] w174 fun e w175 => ∃ x176 : Int, e = .returned (.int .i64 x176) ∧ Keep [b78, b102] w174 w175 ∧
 Calls Tryz.prog 45 #[(.pointer p2), (.int .i64 2)] w175 fun e w177 => ∃ x178 : Int, e = .returned (.int .i64 x178) ∧ Keep [b78, b102] w175 w177 ∧
 Calls Tryz.prog 37 #[(.int .i64 (-1)), (.slice none 0 0)] w177 fun e w179 => ∃ p180 : Option Addr, ∃ x181 : Int, e = .returned (.tuple #[(.pointer p180), (.int .i64 x181)]) ∧ Keep [b78, b102] w177 w179 ∧
 Calls Tryz.prog 38 #[(.pointer p2), (.int .i64 2)] w179 fun e w182 => ∃ (a183 : Option Addr) (n184 c185 : Nat), ∃ x186 : Int, e = .returned (.tuple #[(.slice a183 n184 c185), (.int .i64 x186)]) ∧ Keep [b78, b102] w179 w182 ∧
 brB (x25 == 1) (
 brB (x26 == 0) (
 brB (x49 == 2) (
 brB (x50 == 0) (
 brB (x52 == 0) (
 brB (x54 == 1) (
 brB (x55 == 2) (
 brB (x77 == 161) (
 brB (x82 == 2) (
 brB (x101 == 0) (
 brB ((n106 : Int) == 1) (
 brB (x108 == 0) (
 brB (x113 == 160) (
 brB (x116 == 1) (
 brB (x119 == 0) (
 Calls Tryz.prog 28 #[(.slice a121 n122 c123), (.slice a105 n106 c107)] w182 fun e w187 => ∃ t188 : Bool, e = .returned (.bool t188) ∧ Keep [b78, b102] w182 w187 ∧
 brB t188 (
 brB (x124 == 0) (
 brB (x130 == 162) (
 brB (x176 == 0) (
 brB (x178 == 0) (
 brB (x181 == 1) (
 brB (x186 == 0) (
 Calls Tryz.prog 35 #[(.slice a105 n106 c107), (.slice a121 n122 c123)] w187 fun e w189 => ∃ t190 : Bool, e = .returned (.bool t190) ∧ Keep [b78, b102] w187 w189 ∧
 brB t190 (
 Calls Tryz.prog 35 #[(.slice a105 n106 c107), (.slice none 0 0)] w189 fun e w191 => ∃ t192 : Bool, e = .returned (.bool t192) ∧ Keep [b78, b102] w189 w191 ∧
 R (.bool (!t192)) w191)
 (
 R (.bool false) w189))
 (
 R (.bool false) w187))
 (
 R (.bool false) w187))
 (
 R (.bool false) w187))
 (
 R (.bool false) w187))
 (
 R (.bool false) w187))
 (
 R (.bool false) w187))
 (
 R (.bool false) w187))
 (
 R (.bool false) w182))
 (
 R (.bool false) w182))
 (
 R (.bool false) w182))
 (
 R (.bool false) w182))
 (
 R (.bool false) w182))
 (
 R (.bool false) w182))
 (
 R (.bool false) w182))
 (
 R (.bool false) w182))
 (
 R (.bool false) w182))
 (
 R (.bool false) w182))
 (
 R (.bool false) w182))
 (
 R (.bool false) w182))
 (
 R (.bool false) w182))
 (
 R (.bool false) w182))
 (
 R (.bool false) w182))
theorem law16_fixed_eq (R : Value → World → Prop) (w : World) :
 dnF Tryz.prog law16_fixed_an (code Tryz.f36) 400 [] (post3 Tryz.prog Tryz.f36 [] R) ⟨args0 0 [], fun _ => undef⟩ ⟨[], w, [], [], true⟩ = law16_fixed_T R w := by kernel_rfl
theorem law16_fixed_go {R : Value → World → Prop} {w : World} (h : law16_fixed_T R w) :
 Calls Tryz.prog 36 #[] w fun e w' => ∃ v, e = .returned v ∧ R v w' :=
 calls_none Tryz.wide_mixed (f := 36) (args := []) Tryz.func36 rfl rfl (by kernel_rfl) rfl (Eq.mpr (law16_fixed_eq R w) h)
end Go.Proofs.YtohgihgddknmmaaGreat

/- The log's statements: what they have in common. -/
namespace Go.Proofs.YtohgihgddknmmaaGreat
open Go Go.RowKit
set_option linter.unusedVariables false
set_option linter.unusedSimpArgs false

def tickC (c n : Int) : PCall := ⟨c, n, ⟨12, ⟨⟨#[]⟩, 0⟩, n, 0, batch0, ⟨#[]⟩, ⟨#[]⟩, 0, false, []⟩⟩
theorem tickC_ok (c n : Int) (w : World) : Calls Tryz.prog 52 #[.int .i64 c, .int .i64 n] w fun e w' => e = .returned ((⟨tickC c n, nilS, nilS⟩ : CV).v) ∧ Mod [] w w' := by
  refine go_of (law16_tick_go ?_)
  intro b1 f1 w2 A2
  exact ⟨rfl, A2.mod⟩
theorem tickC_own (w : World) (B : Nat) (c n : Int) : OpOwn w B (tickC c n).op nilS nilS := ⟨Row.nil .., Row.nil .., by simp [tickC, batch0], by simp [tickC]⟩
def cutLen (n : Nat) : Nat := min n 12
set_option maxHeartbeats 1000000 in
theorem LCut_ok {w : World} {a : Option Addr} {n c : Nat} {ll : List CV} (h : SlAt w 16 CV.cs a n ll) (hO : ∀ q ∈ ll, OpRd w q.x.op q.rs q.ts) (hw : n ≤ maxLen) :
    Calls Tryz.prog 30 #[.slice a n c] w fun e w' => ∃ v, e = .returned v ∧ ∃ (s' : Sl) (l' : List CV), v = .slice s'.a s'.n s'.c ∧ Row w' w.heap.size 57 16 CV.cs s'.a s'.n s'.c l' ∧ (∀ q ∈ l', OpOwn w' w.heap.size q.x.op q.rs q.ts) ∧ l'.length = cutLen ll.length ∧ Mod [] w w' := by
  have hn := h.1
  unfold maxLen at hw
  refine law16_Cut_go ?_
  refine al_of fun b1 w1 c1 M1 f1 => ?_
  have s1 := M1.size
  refine law16_Cut_rule1 (fun mm a3 n3 c3 x w' => ∃ (k : Nat) (l : List CV), x = k ∧ k ≤ ll.length ∧ k ≤ 12 ∧ l.length = k ∧ Row w' w.heap.size 57 16 CV.cs a3 n3 c3 l ∧ (∀ q ∈ l, OpOwn w' w.heap.size q.x.op q.rs q.ts) ∧ Mod [] w w' ∧ mm = ll.length - k) ll.length
    ⟨0, [], rfl, by omega, by omega, rfl, Row.fresh c1 f1, by simp, M1, rfl⟩ ?_
  rintro mm a3 n3 c3 x w2 ⟨k, l, rfl, hk, hk2, hlk, hRow, hOw, M2, rfl⟩
  have s2 := M2.size
  refine brB_dec (fun hlt => ?_) fun hge => ⟨⟨a3, n3, c3⟩, l, rfl, hRow, hOw, by unfold cutLen; omega, M2⟩
  refine brB_dec (fun hlt2 => ?_) fun hge => ⟨⟨a3, n3, c3⟩, l, rfl, hRow, hOw, by unfold cutLen; omega, M2⟩
  obtain ⟨q, hq⟩ : ∃ q, ll[k]? = some q := ⟨_, List.getElem?_eq_getElem (by omega)⟩
  refine (h.keep0 M2).ixW hq fun ad had => ?_
  intro w3 A3
  have s3 := A3.mod.size
  have N3 := M2.go0 A3.mod (by simp)
  refine ldInt_of (x := q.x.c) (by simpa [add_zero] using had w3 A3.mod 0 _ rfl) ?_
  refine (h.keep0 N3).ixW hq fun ad2 had2 => ldInt_of (x := q.x.n) (had2 w3 (Mod.refl _) 1 _ rfl) ?_
  refine (h.keep0 N3).ixW hq fun ad3 had3 => ?_
  have hc := had3 w3 (Mod.refl _)
  refine ldOp_of (op_cells hc) ?_
  refine (Cut_ok ((hO q (List.mem_of_getElem? hq)).keep0 N3)).mono ?_
  rintro _ w4 ⟨_, rfl, o', rs', ts', rfl, hO', M4⟩
  have s4 := M4.size
  refine ⟨_, _, _, _, _, _, _, _, _, _, _, _, _, _, _, _, _, _, rfl, ?_, ?_, ?_⟩
  · exact ldInt_of (x := q.x.n) (had2 w4 M4 1 _ rfl) rfl
  · exact ldInt_of (x := q.x.c) (by simpa [add_zero] using had w4 (A3.mod.go0 M4 (by simp)) 0 _ rfl) rfl
  refine al_of fun b7 w7 c7 M7 f7 => ?_
  have s7 := M7.size
  have K7 : Mod [] w2 w7 := (A3.mod.go0 M4 (by simp)).go0 M7 (by simp)
  obtain ⟨i0, hi, hz0, hz1, hz2⟩ := info_parts infoCall
  refine append_of (x := (⟨⟨q.x.c, q.x.n, o'⟩, rs', ts'⟩ : CV)) (hRow.keep0 K7) Tryz.underlying39 hi hz0 hz1 hz2 rfl (by decide) c7 rfl (CV.cs_one _) (by omega) (by unfold maxLen; omega) (by omega) fun a' c' w8 hR8 hM8 => ?_
  have M8 := hM8 _ (rowS_ok a3)
  have hrow := rowS_block hRow
  have kp : ∀ {o rs ts}, OpOwn w7 w.heap.size o rs ts → OpOwn w8 w.heap.size o rs ts := fun hh => hh.keep M8 fun k hk cs T hc => by
    obtain ⟨_, _, cur, hcur⟩ := hrow k hk
    rw [K7.keep0 hcur] at hc; cases hc; decide
  refine law16_Cut_leaf1 (ll.length - (k + 1)) (by omega) ⟨k + 1, _, by rw [wrap_id (by omega) (by omega)]; omega, by omega, by omega, by rw [List.length_append, hlk]; rfl, hR8, fun y hy => ?_, (M2.go0 K7 (by simp)).go0 M8 fun i hi => (hrow i hi).1, rfl⟩
  rcases List.mem_append.1 hy with hy | hy
  · exact kp ((hOw y hy).keep0 K7)
  · simp at hy; subst hy; exact kp ((hO'.keep0 M7).rebase (by omega))

/-! ### calls whose answers the document fixes -/
theorem LogIs.tight {w : World} {D : Nat → Prop} {b0 : Nat} {start : Int} {xs : List PCall} (h : LogIs w D b0 start xs) : LogIs w (fun k => D k ∧ k < w.heap.size) b0 start xs := h.more fun k hk hd => ⟨hd, hk⟩
theorem ModD.list {D : Nat → Prop} {w w' : World} (h : ModD D w w') : ∃ S, Mod S w w' ∧ ∀ k ∈ S, D k := by
  obtain ⟨S, M, hS⟩ := h
  refine ⟨S.filter fun k => decide (k < w.heap.size), M.less fun k hk hl => List.mem_filter.2 ⟨hk, by simpa using hl⟩, fun k hk => ?_⟩
  obtain ⟨h1, h2⟩ := List.mem_filter.1 hk
  exact hS k h1 (by simpa using h2)
theorem CallsOwn.apart {w w' : World} {D : Nat → Prop} {B : Nat} {s : Sl} {xs : List PCall} (h : CallsOwn w B s xs) (M : ModD D w w') (hD : ∀ k, D k → k < B) : CallsOwn w' B s xs := by
  obtain ⟨S, M, hS⟩ := M.list
  exact h.keepB M fun k hk => hD k (hS k hk)
theorem Keep.apart {w w' : World} {D : Nat → Prop} {es : List Nat} {ts : List (Nat × TypeId)} {bs : List Nat} (M : ModD D w w') (h : ∀ b ∈ bs, b < w.heap.size → ¬ D b) : KeepE es ts bs w w' := by
  obtain ⟨S, M, hS⟩ := M.list
  exact Keep.of M fun b hb hl hk => h b hb hl (hS b hk)
theorem CallsOwn.cs {w : World} {B : Nat} {s : Sl} {xs : List PCall} (h : CallsOwn w B s xs) : ∃ ll : List CV, CsAt w s ll ∧ ll.map (·.x) = xs := by
  obtain ⟨ll, h1, h2, h3⟩ := h
  exact ⟨ll, ⟨h1.sl CV.cs_len, fun q hq => (h2 q hq).at⟩, h3⟩
theorem parseO_tail {xs : List PCall} {r : List UInt8} (h : textE xs = 0) (hr : r ≠ []) : parseO (bs (textB xs ++ r)) = none := by
  obtain ⟨hl, hx⟩ := textE_out h
  have e0 : (bs (textB xs ++ r)).data.toList = vPutL xs.length ++ (xs.flatMap callB ++ r) := by rw [bs_data]; simp [textB]
  have t1 := numA_put (l := (bs (textB xs ++ r)).data.toList) (a := 0) (n := xs.length) (by omega) (by rw [List.drop_zero]; exact e0)
  have d1 := drop_of (l := (bs (textB xs ++ r)).data.toList) (a := 0) (x := vPutL xs.length) (by rw [List.drop_zero]; exact e0)
  have t2 := rdC_put xs hx _ _ [] d1
  have e : parse0 (bs (textB xs ++ r)).data.toList = (some (0 + (vPutL xs.length).length + (xs.flatMap callB).length), xs) := by
    unfold parse0; rw [t1]; dsimp only; rw [t2]; rfl
  unfold parseO
  rw [e]
  dsimp only
  rw [if_neg]
  rintro ⟨_, _, h3⟩
  have := congrArg ByteArray.size h3
  rw [bs_size, bs_size, List.length_append] at this
  have := List.length_pos_iff.2 hr
  omega
theorem SlAt.flatB {α : Type} {w : World} {sz : Nat} {enc : α → List Value} {b : Nat} {T : TypeId} {l : List α} (hs : ∀ x, (enc x).length = sz) (h : w.heap[b]? = some (.cells (l.flatMap enc).toArray T)) : SlAt w sz enc (some ⟨b, 0, none⟩) l.length l :=
  ⟨rfl, fun i x hx => ⟨_, rfl, fun j v hv => by
    have hj : j < sz := by rw [← hs x]; exact (List.getElem?_eq_some_iff.1 hv).1
    rw [addr_add, addr_add, cell_at h]
    have := flatMap_get hs l i j x hx hj
    simp only [Nat.zero_add]
    rw [List.getElem?_toArray, this]
    exact hv⟩⟩
theorem fixed16_ok (w : World) : Calls Tryz.prog 36 #[] w fun e w' => e = .returned (.bool true) ∧ Mod [] w w' := by
  have hE : ∀ {start : Int} {len : Nat} {x : PCall}, checkE [x] = 0 → start + (len : Int) < 1099511627776 → putE start len x = 0 := fun {start len x} h1 h2 => by
    rw [putE, if_neg (by simpa using h1), if_neg (by omega)]
  have ck11 : checkE [tickC 1 1] = 0 := by decide
  have ck12 : checkE [tickC 1 2] = 0 := by decide
  have ck56 : checkE [tickC 2 5, tickC 2 6] = 0 := by decide
  have ck0 : checkE [call0] = 1 := by decide
  refine go_of (law16_fixed_go ?_)
  refine (ONew_ok w).mono ?_
  rintro _ w1 ⟨_, rfl, b0, rfl, L1, M1⟩
  have s1 := M1.size
  refine ⟨_, rfl, brB_of (fun g => by simp at g) fun _ => ?_⟩
  refine (tickC_ok 1 1 w1).mono ?_
  rintro _ w2 ⟨rfl, M2⟩
  refine ⟨_, _, _, _, _, _, _, _, _, _, _, _, _, _, _, _, _, _, _, _, rfl, ?_⟩
  have s2 := M2.size
  have L2 := L1.keep0 M2
  have N2 := M1.go0 M2 (by simp)
  refine (OPut_ok L2 ⟨by omega, by omega, by simp⟩ (q := ⟨tickC 1 1, nilS, nilS⟩) (tickC_own w2 0 1 1).at).mono ?_
  rintro _ w3 ⟨rfl, L3, D3, _⟩
  have p3 : putE 0 ([] : List PCall).length (tickC 1 1) = 0 := hE ck11 (by simp)
  rw [if_pos p3] at L3 ⊢
  have s3 := D3.size
  have N3 := D3.new N2 fun i hi => hi
  have L3 : LogIs w3 (fun k => w.heap.size ≤ k) b0 0 [tickC 1 1] := L3.more fun k _ hk => by rcases hk with hk | hk <;> omega
  refine ⟨_, _, rfl, ?_⟩
  refine (tickC_ok 1 2 w3).mono ?_
  rintro _ w4 ⟨rfl, M4⟩
  refine ⟨_, _, _, _, _, _, _, _, _, _, _, _, _, _, _, _, _, _, _, _, rfl, ?_⟩
  have s4 := M4.size
  have N4 := N3.go0 M4 (by simp)
  refine (OPut_ok (L3.keep0 M4) ⟨by omega, by omega, by simp⟩ (q := ⟨tickC 1 2, nilS, nilS⟩) (tickC_own w4 0 1 2).at).mono ?_
  rintro _ w5 ⟨rfl, L5, D5, _⟩
  have p5 : putE 0 ([tickC 1 1] : List PCall).length (tickC 1 2) = 0 := hE ck12 (by simp)
  rw [if_pos p5] at L5 ⊢
  have s5 := D5.size
  have N5 := D5.new N4 fun i hi => hi
  have L5 : LogIs w5 (fun k => w.heap.size ≤ k) b0 0 [tickC 1 1, tickC 1 2] := L5.more fun k _ hk => by rcases hk with hk | hk <;> omega
  refine ⟨_, _, rfl, ?_⟩
  refine (ODrop_ok L5 ⟨by omega, by omega, by simp⟩ 1).mono ?_
  rintro _ w6 ⟨rfl, L6, M6⟩
  have a6 : atE 0 ([tickC 1 1, tickC 1 2] : List PCall).length 1 = 0 := by decide
  rw [if_pos a6, if_pos a6] at L6
  rw [a6]
  have s6 := M6.size
  have N6 := N5.go0 M6 (by simp; exact L5.lt.2)
  have L6 : LogIs w6 (fun k => w.heap.size ≤ k) b0 1 [tickC 1 2] := L6.more fun k _ hk => by rcases hk with hk | hk <;> omega
  have B6 : LB 1 [tickC 1 2] := ⟨by omega, by omega, by simp⟩
  refine ⟨_, rfl, ?_⟩
  refine (Span_ok L6 B6).mono ?_
  rintro _ w7 ⟨rfl, M7⟩
  refine ⟨_, _, rfl, ?_⟩
  have L7 := L6.keep0 M7
  have N7 := N6.go0 M7 (by simp)
  have s7 := M7.size
  refine (OGet_ok L7 B6 1).mono ?_
  rintro _ w8 ⟨v, rfl, hv, M8⟩
  have g8 : getE 1 ([tickC 1 2] : List PCall).length 1 = 161 := by decide
  rw [g8, if_neg (by decide)] at hv
  subst hv
  refine ⟨_, _, _, _, _, _, _, _, _, _, _, _, _, _, _, _, _, _, _, _, _, rfl, ?_⟩
  have L8 := (L7.keep0 M8).tight
  have N8 := N7.go0 M8 (by simp)
  have s8 := M8.size
  intro b78 f78 w9 A9
  have l78 := A9.lt b78 (by simp)
  have N9 := N8.go0 A9.mod (by simp)
  have s9 := A9.mod.size
  have L9 := L8.keep0 A9.mod
  refine (OGet_ok L9 B6 2).mono ?_
  rintro _ w10 ⟨v, rfl, hv, M10⟩
  have g10 : getE 1 ([tickC 1 2] : List PCall).length 2 = 0 := by decide
  rw [g10, if_pos rfl] at hv
  obtain ⟨q10, rfl, hq10, _⟩ := hv
  have hq10 : q10.x = tickC 1 2 := by
    have e : (2 - 1 - 1 : Int).toNat = 0 := by decide
    rw [e] at hq10
    simpa using hq10.symm
  refine ⟨_, _, _, _, _, _, _, _, _, _, _, _, _, _, _, _, _, _, _, _, _, rfl, Keep.of0 M10, ?_⟩
  have L10 := L9.keep0 M10
  have N10 := N9.go0 M10 (by simp)
  have s10 := M10.size
  intro b102 f102 w11 A11
  have l102 := A11.lt b102 (by simp)
  have N11 := N10.go0 A11.mod (by simp)
  have s11 := A11.mod.size
  have L11 := L10.keep0 A11.mod
  refine (Since_ok L11 B6 1).mono ?_
  rintro _ w12 ⟨v, rfl, hv, M12⟩
  have a12 : atE 1 ([tickC 1 2] : List PCall).length 1 = 0 := by decide
  rw [a12, if_pos rfl] at hv
  obtain ⟨sl, rfl, hl12⟩ := hv
  have hl12 : CallsOwn w12 w11.heap.size sl [tickC 1 2] := hl12
  refine ⟨_, _, _, _, rfl, Keep.of0 M12, ?_⟩
  have L12 := L11.keep0 M12
  have N12 := N11.go0 M12 (by simp)
  have s12 := M12.size
  refine (Since_ok L12 B6 3).mono ?_
  rintro _ w13 ⟨v, rfl, hv, M13⟩
  have a13 : atE 1 ([tickC 1 2] : List PCall).length 3 = 160 := by decide
  rw [a13, if_neg (by decide)] at hv
  subst hv
  refine ⟨_, _, _, _, rfl, Keep.of0 M13, ?_⟩
  have L13 := L12.keep0 M13
  have N13 := N12.go0 M13 (by simp)
  have s13 := M13.size
  refine (OPut_ok L13 B6 (q := ⟨call0, nilS, nilS⟩) (op0_own w13 0).at).mono ?_
  rintro _ w14 ⟨rfl, _, _, M14⟩
  have p14 : putE 1 ([tickC 1 2] : List PCall).length call0 = 1 := by rw [putE, if_pos (by rw [ck0]; decide), ck0]
  have M14 := M14 (by rw [p14]; decide)
  rw [p14]
  have s14 := M14.size
  have L14 := L13.keep0 M14
  have N14 := N13.go0 M14 (by simp)
  have hl14 := (hl12.keep0 M13).keep0 M14
  refine ⟨_, _, rfl, Keep.of0 M14, ?_⟩
  obtain ⟨lc, hcs, hlc⟩ := hl14.cs
  have elc : lc.length = 1 := by have := congrArg List.length hlc; simpa using this
  refine (Text_ok hcs (by omega)).mono ?_
  rintro _ w15 ⟨rfl, M15⟩
  have s15 := M15.size
  have te : textE [tickC 1 2] = 0 := by rw [textE, if_neg (by simp), ck12]
  rw [hlc, te, if_pos rfl]
  have tl : (textB [tickC 1 2]).length ≤ 50000 := by
    have h1 := checkE_ok.1 ck12 _ (List.mem_singleton.2 rfl)
    have h2 := callB_len h1.1 h1.2
    have h3 := (vPutL_len 1 (by decide)).2
    have e : textB [tickC 1 2] = vPutL 1 ++ callB (tickC 1 2) := by simp [textB]
    rw [e, List.length_append]; omega
  refine ⟨_, _, rfl, Keep.of0 M15, ?_⟩
  refine (OParse_ok (s := bs (textB [tickC 1 2])) (by rw [bs_size]; omega) w15).mono ?_
  rintro _ w16 ⟨v, rfl, hv, M16⟩
  rw [parseO_put te] at hv
  obtain ⟨su, rfl, hu16⟩ := hv
  refine ⟨_, _, _, _, rfl, Keep.of0 M16, ?_⟩
  have ex : (⟨#[120]⟩ : ByteArray).size = 1 := rfl
  refine ⟨by rw [bs_size, ex]; omega, ?_⟩
  have ea : bs (textB [tickC 1 2]) ++ (⟨#[120]⟩ : ByteArray) = bs (textB [tickC 1 2] ++ [120]) := bs_append _ _
  rw [ea]
  refine (OParse_ok (s := bs (textB [tickC 1 2] ++ [120])) (by rw [bs_size, List.length_append]; simp only [List.length_cons, List.length_nil]; omega) w16).mono ?_
  rintro _ w17 ⟨v, rfl, hv, M17⟩
  rw [parseO_tail te (by simp)] at hv
  have hv : v = .tuple #[.slice none 0 0, .int .i64 162] := hv
  subst hv
  refine ⟨_, _, _, _, rfl, Keep.of0 M17, ?_⟩
  refine (tickC_ok 2 5 w17).mono ?_
  rintro _ w18 ⟨rfl, M18⟩
  refine ⟨_, _, _, _, _, _, _, _, _, _, _, _, _, _, _, _, _, _, _, _, rfl, Keep.of0 M18, ?_⟩
  refine (tickC_ok 2 6 w18).mono ?_
  rintro _ w19 ⟨rfl, M19⟩
  refine ⟨_, _, _, _, _, _, _, _, _, _, _, _, _, _, _, _, _, _, _, _, rfl, Keep.of0 M19, ?_⟩
  refine al_of fun b20 w20 c20 M20 f20 => ?_
  have K20 : Mod [] w14 w20 := (((M15.go0 M16 (by simp)).go0 M17 (by simp)).go0 M18 (by simp)).go0 (M19.go0 M20 (by simp)) (by simp)
  have s20 := K20.size
  have N20 := N14.go0 K20 (by simp)
  have L20 : LogIs w20 _ b0 1 [tickC 1 2] := L14.keep0 K20
  have hj : CsAt w20 ⟨some ⟨b20, 0, none⟩, 2, 2⟩ [⟨tickC 2 5, nilS, nilS⟩, ⟨tickC 2 6, nilS, nilS⟩] := by
    refine ⟨SlAt.flatB CV.cs_len (l := [(⟨tickC 2 5, nilS, nilS⟩ : CV), ⟨tickC 2 6, nilS, nilS⟩]) c20, fun q hq => ?_⟩
    simp at hq
    rcases hq with rfl | rfl
    · exact (tickC_own w20 0 2 5).at
    · exact (tickC_own w20 0 2 6).at
  refine (OJoin_ok L20 B6 1 hj (by simp)).mono ?_
  rintro _ w21 ⟨rfl, L21, D21⟩
  have j21 : joinE 1 ([tickC 1 2] : List PCall).length 1 [tickC 2 5, tickC 2 6] = 0 := by decide
  have hjm : ([(⟨tickC 2 5, nilS, nilS⟩ : CV), ⟨tickC 2 6, nilS, nilS⟩].map (·.x)) = [tickC 2 5, tickC 2 6] := rfl
  rw [hjm, j21, if_pos rfl] at L21
  rw [hjm, j21]
  have s21 := D21.size
  refine ⟨_, rfl, Keep.apart D21 fun b hb hl hd => by simp at hb; omega, ?_⟩
  have hl21 := ((hl14.keep0 K20).apart D21 fun k hk => by omega)
  have hu21 := (((hu16.keep0 M17).keep0 M18).keep0 M19).keep0 M20
  have N21 := D21.new N20 fun i hi => hi.1
  have L21 : LogIs w21 _ b0 1 [tickC 2 5, tickC 2 6] := L21
  have B21 : LB 1 [tickC 2 5, tickC 2 6] := ⟨by omega, by omega, by simp⟩
  refine (OCut_ok L21 B21 2).mono ?_
  rintro _ w22 ⟨rfl, L22, M22⟩
  have a22 : atE 1 ([tickC 2 5, tickC 2 6] : List PCall).length 2 = 0 := by decide
  rw [a22, if_pos rfl] at L22
  rw [a22]
  have s22 := M22.size
  have hb0 : w.heap.size ≤ b0 ∧ b0 < w8.heap.size := by
    have := L8.lt; exact ⟨this.2.1, this.1⟩
  refine ⟨_, rfl, Keep.of M22 fun b hb hl hd => by simp at hb hd; omega, ?_⟩
  have hl22 := hl21.keepB M22 (by simp; omega)
  have N22 := N21.go0 M22 (by simp; omega)
  refine (Load_ok (s := nilS) (ll := []) (start := -1) ⟨(Row.nil w22 0 57 16 CV.cs).sl CV.cs_len, by simp⟩ (by simp)).mono ?_
  rintro _ w23 ⟨v, rfl, hv, M23⟩
  have a23 : loadE (-1) ([] : List PCall) = 1 := by decide
  have hv : v = .tuple #[.pointer none, .int .i64 1] := by
    have e : (([] : List CV).map (·.x)) = [] := rfl
    rw [e, a23, if_neg (by decide)] at hv
    exact hv
  subst hv
  refine ⟨_, _, rfl, Keep.of0 M23, ?_⟩
  have B22 : LB 1 [tickC 2 5] := ⟨by omega, by omega, by simp⟩
  have L22 : LogIs w22 _ b0 1 [tickC 2 5] := L22
  refine (Since_ok (L22.keep0 M23) B22 2).mono ?_
  rintro _ w24 ⟨v, rfl, hv, M24⟩
  have a24 : atE 1 ([tickC 2 5] : List PCall).length 2 = 0 := by decide
  rw [a24, if_pos rfl] at hv
  obtain ⟨s24, rfl, _⟩ := hv
  have N24 := (N22.go0 M23 (by simp)).go0 M24 (by simp)
  have hl24 := (hl22.keep0 M23).keep0 M24
  have hu24 := (((((hu21.apart D21 fun k hk => by omega)).keepB M22 (by simp; omega)).keep0 M23).keep0 M24)
  have hu24 : CallsOwn w24 w15.heap.size su [tickC 1 2] := hu24
  have en : sl.n = 1 := by
    obtain ⟨ll, h1, _, h3⟩ := hl24
    have := congrArg List.length h3
    rw [(h1.sl CV.cs_len).1]; simpa using this
  refine ⟨_, _, _, _, rfl, Keep.of0 M24, ?_⟩
  rw [hq10]
  iterate 10 (refine brT rfl ?_)
  refine brT (by rw [en]; rfl) ?_
  iterate 4 (refine brT rfl ?_)
  refine (CallsR_ok hu24.at hl24.at (by simp)).mono ?_
  rintro _ w25 ⟨rfl, M25⟩
  refine ⟨_, rfl, Keep.of0 M25, brT (by simp) ?_⟩
  repeat (refine brT rfl ?_)
  obtain ⟨lu, hcu, hlu⟩ := (hu24.keep0 M25).cs
  obtain ⟨lv, hcv, hlv⟩ := (hl24.keep0 M25).cs
  have elv : lv.length = 1 := by have := congrArg List.length hlv; simpa using this
  refine (OSame_ok hcv hcu (by omega)).mono ?_
  rintro _ w26 ⟨rfl, M26⟩
  refine ⟨_, rfl, Keep.of0 M26, brT (by simp [hlu, hlv]) ?_⟩
  refine (OSame_ok (hcv.keep0 M26) (t := nilS) (lb := []) ⟨(Row.nil w26 0 57 16 CV.cs).sl CV.cs_len, by simp⟩ (by omega)).mono ?_
  rintro _ w27 ⟨rfl, M27⟩
  refine ⟨_, rfl, Keep.of0 M27, ?_, ((N24.go0 M25 (by simp)).go0 M26 (by simp)).go0 M27 (by simp)⟩
  rw [hlv]; rfl
end Go.Proofs.YtohgihgddknmmaaGreat

/- OplogCuts, OplogBack. -/
namespace Go.Proofs.YtohgihgddknmmaaGreat
open Go Go.RowKit
set_option linter.unusedVariables false
set_option linter.unusedSimpArgs false

theorem fix_step {w0 w : World} (M : Mod [] w0 w) : Calls Tryz.prog 36 #[] w fun e w' => ∃ t : Bool, e = .returned (.bool t) ∧ (Value.bool t = .bool true ∧ Mod [] w0 w') := by
  refine (fixed16_ok w).mono ?_
  rintro _ w1 ⟨rfl, M1⟩
  exact ⟨_, rfl, rfl, M.go0 M1 (by simp)⟩
end Go.Proofs.YtohgihgddknmmaaGreat

/- The conditions of Go functions' bodies, printed by gen2.py. -/
namespace Go.Proofs.YtohgihgddknmmaaGreat
open Go Go.RowKit
set_option linter.unusedVariables false
set_option maxRecDepth 100000

def ref16_number_an : List LA := []
def ref16_number_T (a0 : Int) (R : Value → World → Prop) (w : World) : Prop :=
 brB (decide (a0 ≥ 1)) (
 R (.bool (decide (a0 ≤ 1099511627776))) w)
 (
 R (.bool false) w)
theorem ref16_number_eq (a0 : Int) (R : Value → World → Prop) (w : World) :
 dnF Tryz.prog ref16_number_an (code Tryz.f130) 400 [] (post3 Tryz.prog Tryz.f130 [] R) ⟨args0 0 [(.int .i64 a0)], fun _ => undef⟩ ⟨[], w, [], [], true⟩ = ref16_number_T a0 R w := by kernel_rfl
theorem ref16_number_go {a0 : Int} {R : Value → World → Prop} {w : World} (h : ref16_number_T a0 R w) :
 Calls Tryz.prog 130 #[(.int .i64 a0)] w fun e w' => ∃ v, e = .returned v ∧ R v w' :=
 calls_none Tryz.wide_mixed (f := 130) (args := [(.int .i64 a0)]) Tryz.func130 rfl rfl (by kernel_rfl) rfl (Eq.mpr (ref16_number_eq a0 R w) h)
def ref16_Check_la1 : LA := ⟨[0, 0, 1, 0, 1], [0, 3], [], 0, []⟩
def ref16_Check_la2 : LA := ⟨[0, 0, 1, 0, 1, 1], [0, 4], [], 0, []⟩
def ref16_Check_an : List LA := [ref16_Check_la1, ref16_Check_la2]
def ref16_Check_v1 (a0 : Option Addr) (a2 : Nat) (a1 : Nat) (a3 : Int) : List Value := [(.slice a0 a2 a1), (.int .i64 a3)]
def ref16_Check_m1 : List TB := []
def ref16_Check_v2 (a0 : Option Addr) (a2 : Nat) (a1 : Nat) (a3 : Int) : List Value := [(.slice a0 a2 a1), (.int .i64 a3)]
def ref16_Check_m2 : List TB := []
def ref16_Check_L1 (a1 : Option Addr) (a0 : Nat) (a3 : Nat) (a2 : Int) (K1 : Kh) (R : Value → World → Prop) (w : World) : Prop :=
 brB (decide (a2 < (a0 : Int))) (
 ixA a1 a0 a2 16 fun q1 =>
 ldInt .i64 w q1 fun x2 =>
 Calls Tryz.prog 130 #[(.int .i64 x2)] w fun e w3 => ∃ t4 : Bool, e = .returned (.bool t4) ∧
 brB (!t4) (
 R (.int .i64 1) w3)
 (
 ixA a1 a0 a2 16 fun q5 =>
 ldInt .i64 w3 (Addr.add q5 1) fun x6 =>
 Calls Tryz.prog 130 #[(.int .i64 x6)] w3 fun e w7 => ∃ t8 : Bool, e = .returned (.bool t8) ∧
 brB (!t8) (
 R (.int .i64 1) w7)
 (
 K1 (ref16_Check_v1 a1 a0 a3 (IntKind.wrap .i64 (a2 + 1))) (ref16_Check_m1) w7)))
 (
 loopD3 ref16_Check_la2 (dnF Tryz.prog ref16_Check_an (code Tryz.f82) 396 [0, 0, 1, 0, 1, 1]) (kont3 Tryz.prog ref16_Check_an (code Tryz.f82) [1, 1, 0, 1, 0] [] (post3 Tryz.prog Tryz.f82 [] R)) (ref16_Check_v2 a1 a0 a3 0) (ref16_Check_m2) w)
theorem ref16_Check_L1_eq (a0 : Option Addr) (a2 : Nat) (a1 : Nat) (a3 : Int) (K1 : Kh) (js : Nat → Value) (R : Value → World → Prop) (w : World) :
 headA ref16_Check_la1 ((dnF Tryz.prog ref16_Check_an (code Tryz.f82) 397 [0, 0, 1, 0, 1]) (kthen3 (atA ref16_Check_la1 K1) (kont3 Tryz.prog ref16_Check_an (code Tryz.f82) [1, 0, 1, 0] [] (post3 Tryz.prog Tryz.f82 [] R)))) (ref16_Check_v1 a0 a2 a1 a3) js (ref16_Check_m1) w = ref16_Check_L1 a0 a2 a1 a3 K1 R w := by kernel_rfl
def ref16_Check_K1 (a1 : Option Addr) (a3 : Nat) (a2 : Nat) (I : Nat → Int → World → Prop) (m : Nat) (vals : List Value) (mem : List TB) (w : World) : Prop := ∃ m', m' < m ∧ ∃ a0, vals = (ref16_Check_v1 a1 a3 a2 a0) ∧ mem = (ref16_Check_m1) ∧ I m' a0 w
theorem ref16_Check_leaf1 {a0 : Option Addr} {a2 : Nat} {a1 : Nat} {I : Nat → Int → World → Prop} {m : Nat} {a3 : Int} {w : World} (m' : Nat) (h1 : m' < m) (h2 : I m' a3 w) : ref16_Check_K1 a0 a2 a1 I m (ref16_Check_v1 a0 a2 a1 a3) (ref16_Check_m1) w := ⟨m', h1, _, rfl, rfl, h2⟩
theorem ref16_Check_rule1 {a1 : Option Addr} {a3 : Nat} {a2 : Nat} {a4 : Int} {R : Value → World → Prop} {w0 : World} (I : Nat → Int → World → Prop) (m0 : Nat) (h0 : I m0 a4 w0)
 (hr : ∀ (m : Nat) (a0 : Int) (w : World), I m a0 w → ref16_Check_L1 a1 a3 a2 a0 (ref16_Check_K1 a1 a3 a2 I m) R w) :
 loopD3 ref16_Check_la1 (dnF Tryz.prog ref16_Check_an (code Tryz.f82) 397 [0, 0, 1, 0, 1]) (kont3 Tryz.prog ref16_Check_an (code Tryz.f82) [1, 0, 1, 0] [] (post3 Tryz.prog Tryz.f82 [] R)) (ref16_Check_v1 a1 a3 a2 a4) (ref16_Check_m1) w0 := by
 refine ⟨fun m vals mem w => ∃ a0, vals = (ref16_Check_v1 a1 a3 a2 a0) ∧ mem = (ref16_Check_m1) ∧ I m a0 w, m0, ⟨_, rfl, rfl, h0⟩, ?_⟩
 rintro m vals mem w ⟨a0, rfl, rfl, hI⟩
 refine ⟨rfl, rfl, fun js => ?_⟩
 have h := hr m a0 w hI
 rw [← ref16_Check_L1_eq _ _ _ _ _ js] at h
 exact h
def ref16_Check_L2 (a2 : Option Addr) (a0 : Nat) (a3 : Nat) (a1 : Int) (K2 : Kh) (R : Value → World → Prop) (w : World) : Prop :=
 brB (decide (a1 < (a0 : Int))) (
 ixA a2 a0 a1 16 fun q9 =>
 ldInt .i64 w (Addr.add q9 2) fun x10 => ldStr w (Addr.add (Addr.add q9 2) 1) fun s11 => ldInt .i64 w (Addr.add (Addr.add q9 2) 2) fun x12 => ldInt .i64 w (Addr.add (Addr.add q9 2) 3) fun x13 => ldInt .i64 w (Addr.add (Addr.add q9 2) 4) fun x14 => ldInt .i64 w (Addr.add (Addr.add q9 2) 5) fun x15 => ldInt .i64 w (Addr.add (Addr.add q9 2) 6) fun x16 => ldInt .i64 w (Addr.add (Addr.add q9 2) 7) fun x17 => ldSlice w (Addr.add (Addr.add q9 2) 8) fun a18 n19 c20 => ldStr w (Addr.add (Addr.add q9 2) 9) fun s21 => ldStr w (Addr.add (Addr.add q9 2) 10) fun s22 => ldInt .i64 w (Addr.add (Addr.add q9 2) 11) fun x23 => ldBool w (Addr.add (Addr.add q9 2) 12) fun t24 => ldSlice w (Addr.add (Addr.add q9 2) 13) fun a25 n26 c27 =>
 Calls Tryz.prog 63 #[(.agg #[(.int .i64 x10), (.string s11), (.int .i64 x12), (.int .i64 x13), (.int .i64 x14), (.int .i64 x15), (.int .i64 x16), (.int .i64 x17), (.slice a18 n19 c20), (.string s21), (.string s22), (.int .i64 x23), (.bool t24), (.slice a25 n26 c27)])] w fun e w28 => ∃ x29 : Int, e = .returned (.int .i64 x29) ∧
 brB (x29 != 0) (
 R (.int .i64 x29) w28)
 (
 K2 (ref16_Check_v2 a2 a0 a3 (IntKind.wrap .i64 (a1 + 1))) (ref16_Check_m2) w28))
 (
 R (.int .i64 0) w)
theorem ref16_Check_L2_eq (a0 : Option Addr) (a2 : Nat) (a1 : Nat) (a3 : Int) (K2 : Kh) (js : Nat → Value) (R : Value → World → Prop) (w : World) :
 headA ref16_Check_la2 ((dnF Tryz.prog ref16_Check_an (code Tryz.f82) 396 [0, 0, 1, 0, 1, 1]) (kthen3 (atA ref16_Check_la2 K2) (kont3 Tryz.prog ref16_Check_an (code Tryz.f82) [1, 1, 0, 1, 0] [] (post3 Tryz.prog Tryz.f82 [] R)))) (ref16_Check_v2 a0 a2 a1 a3) js (ref16_Check_m2) w = ref16_Check_L2 a0 a2 a1 a3 K2 R w := by kernel_rfl
def ref16_Check_K2 (a1 : Option Addr) (a3 : Nat) (a2 : Nat) (I : Nat → Int → World → Prop) (m : Nat) (vals : List Value) (mem : List TB) (w : World) : Prop := ∃ m', m' < m ∧ ∃ a0, vals = (ref16_Check_v2 a1 a3 a2 a0) ∧ mem = (ref16_Check_m2) ∧ I m' a0 w
theorem ref16_Check_leaf2 {a0 : Option Addr} {a2 : Nat} {a1 : Nat} {I : Nat → Int → World → Prop} {m : Nat} {a3 : Int} {w : World} (m' : Nat) (h1 : m' < m) (h2 : I m' a3 w) : ref16_Check_K2 a0 a2 a1 I m (ref16_Check_v2 a0 a2 a1 a3) (ref16_Check_m2) w := ⟨m', h1, _, rfl, rfl, h2⟩
theorem ref16_Check_rule2 {a1 : Option Addr} {a3 : Nat} {a2 : Nat} {a4 : Int} {R : Value → World → Prop} {w0 : World} (I : Nat → Int → World → Prop) (m0 : Nat) (h0 : I m0 a4 w0)
 (hr : ∀ (m : Nat) (a0 : Int) (w : World), I m a0 w → ref16_Check_L2 a1 a3 a2 a0 (ref16_Check_K2 a1 a3 a2 I m) R w) :
 loopD3 ref16_Check_la2 (dnF Tryz.prog ref16_Check_an (code Tryz.f82) 396 [0, 0, 1, 0, 1, 1]) (kont3 Tryz.prog ref16_Check_an (code Tryz.f82) [1, 1, 0, 1, 0] [] (post3 Tryz.prog Tryz.f82 [] R)) (ref16_Check_v2 a1 a3 a2 a4) (ref16_Check_m2) w0 := by
 refine ⟨fun m vals mem w => ∃ a0, vals = (ref16_Check_v2 a1 a3 a2 a0) ∧ mem = (ref16_Check_m2) ∧ I m a0 w, m0, ⟨_, rfl, rfl, h0⟩, ?_⟩
 rintro m vals mem w ⟨a0, rfl, rfl, hI⟩
 refine ⟨rfl, rfl, fun js => ?_⟩
 have h := hr m a0 w hI
 rw [← ref16_Check_L2_eq _ _ _ _ _ js] at h
 exact h
def ref16_Check_T (a0 : Option Addr) (a2 : Nat) (a1 : Nat) (R : Value → World → Prop) (w : World) : Prop :=
 loopD3 ref16_Check_la1 (dnF Tryz.prog ref16_Check_an (code Tryz.f82) 397 [0, 0, 1, 0, 1]) (kont3 Tryz.prog ref16_Check_an (code Tryz.f82) [1, 0, 1, 0] [] (post3 Tryz.prog Tryz.f82 [] R)) (ref16_Check_v1 a0 a2 a1 0) (ref16_Check_m1) w
theorem ref16_Check_eq (a0 : Option Addr) (a2 : Nat) (a1 : Nat) (R : Value → World → Prop) (w : World) :
 dnF Tryz.prog ref16_Check_an (code Tryz.f82) 400 [] (post3 Tryz.prog Tryz.f82 [] R) ⟨args0 0 [(.slice a0 a2 a1)], fun _ => undef⟩ ⟨[], w, [], [], true⟩ = ref16_Check_T a0 a2 a1 R w := by kernel_rfl
theorem ref16_Check_go {a0 : Option Addr} {a2 : Nat} {a1 : Nat} {R : Value → World → Prop} {w : World} (h : ref16_Check_T a0 a2 a1 R w) :
 Calls Tryz.prog 82 #[(.slice a0 a2 a1)] w fun e w' => ∃ v, e = .returned v ∧ R v w' :=
 calls_none Tryz.wide_mixed (f := 82) (args := [(.slice a0 a2 a1)]) Tryz.func82 rfl rfl (by kernel_rfl) rfl (Eq.mpr (ref16_Check_eq a0 a2 a1 R w) h)
end Go.Proofs.YtohgihgddknmmaaGreat

/- The document's log. -/
namespace Go.Proofs.YtohgihgddknmmaaGreat
open Go Go.RowKit
set_option linter.unusedVariables false
set_option linter.unusedSimpArgs false

theorem rnum_ok (n : Int) (w : World) : Calls Tryz.prog 130 #[.int .i64 n] w fun e w' => e = .returned (.bool (!oddN n)) ∧ w' = w := by
  refine go_of (ref16_number_go ?_)
  refine brB_dec (fun h => ⟨?_, rfl⟩) fun h => ⟨?_, rfl⟩
  · congr 1; rw [Bool.eq_iff_iff]; simp [oddN]; omega
  · congr 1; symm; rw [Bool.eq_false_iff]; simp [oddN]; omega
theorem RCheck_ok {w : World} {s : Sl} {ll : List CV} (h : CsAt w s ll) (hl : ll.length ≤ 1000000) :
    Calls Tryz.prog 82 #[.slice s.a s.n s.c] w fun e w' => e = .returned (.int .i64 (checkE (ll.map (·.x)))) ∧ Mod [] w w' := by
  have hn := h.sl.1
  have ea : ((ll.map (·.x)).any oddC) = ll.any fun q => oddC q.x := by rw [List.any_map]; rfl
  refine go_of (ref16_Check_go ?_)
  refine ref16_Check_rule1 (fun mm x w' => ∃ k : Nat, x = k ∧ k ≤ ll.length ∧ w' = w ∧ ((ll.take k).any fun q => oddC q.x) = false ∧ mm = ll.length - k) ll.length ⟨0, rfl, by omega, rfl, by simp, rfl⟩ ?_
  rintro mm x w1 ⟨k, rfl, hk, rfl, ha, rfl⟩
  refine brB_dec (fun hlt => ?_) fun hge => ?_
  · obtain ⟨q, hq⟩ : ∃ q, ll[k]? = some q := ⟨_, List.getElem?_eq_getElem (by omega)⟩
    have bad : oddC q.x = true → checkE (ll.map (·.x)) = 1 := fun ho => by
      rw [checkE, if_pos]
      rw [ea]
      exact List.any_eq_true.2 ⟨q, List.mem_of_getElem? hq, ho⟩
    refine h.sl.ix hq fun ad had => ldInt_of (x := q.x.c) (by simpa [add_zero] using had 0 _ rfl) ?_
    refine (rnum_ok q.x.c w1).mono ?_
    rintro _ w2 ⟨rfl, rfl⟩
    refine ⟨_, rfl, brB_of (fun g => ⟨by rw [bad (by simp at g; simp [oddC, g])], Mod.refl _⟩) fun g => ?_⟩
    refine h.sl.ix hq fun ad had => ldInt_of (x := q.x.n) (had 1 _ rfl) ?_
    refine (rnum_ok q.x.n w2).mono ?_
    rintro _ w3 ⟨rfl, rfl⟩
    refine ⟨_, rfl, brB_of (fun g2 => ⟨by rw [bad (by simp at g2; simp [oddC, g2])], Mod.refl _⟩) fun g2 => ?_⟩
    refine ref16_Check_leaf1 (ll.length - (k + 1)) (by omega) ⟨k + 1, by rw [wrap_id (by omega) (by omega)]; omega, by omega, rfl, ?_, rfl⟩
    rw [any_snoc hq, ha]
    simp at g g2
    simp [oddC, g, g2]
  have hk : k = ll.length := by omega
  subst hk
  rw [List.take_length] at ha
  have hE : checkE (ll.map (·.x)) = match (ll.map (·.x)).find? fun x => opE x.op ≠ 0 with
      | none => 0
      | some x => opE x.op := by rw [checkE, ea, ha]; rfl
  refine ref16_Check_rule2 (fun mm x w' => ∃ k : Nat, x = k ∧ k ≤ ll.length ∧ Mod [] w1 w' ∧ (∀ q ∈ ll.take k, opE q.x.op = 0) ∧ mm = ll.length - k) ll.length ⟨0, rfl, by omega, Mod.refl _, by simp, rfl⟩ ?_
  rintro mm x w4 ⟨k, rfl, hk, M4, hz, rfl⟩
  refine brB_dec (fun hlt => ?_) fun hge => ?_
  · obtain ⟨q, hq⟩ : ∃ q, ll[k]? = some q := ⟨_, List.getElem?_eq_getElem (by omega)⟩
    refine (h.sl.keep0 M4).ix hq fun ad had => ldOp_of (op_cells had) ?_
    have ho4 := (h.op q (List.mem_of_getElem? hq)).keep0 M4
    refine (CheckR_ok ho4.recs ho4.topics).mono ?_
    rintro _ w6 ⟨rfl, M6⟩
    have N6 := M4.go0 M6 (by simp)
    refine ⟨_, rfl, brB_of (fun g2 => ?_) fun g2 => ?_⟩
    · have g2 : opE q.x.op ≠ 0 := by simpa using g2
      refine ⟨?_, N6⟩
      rw [hE, find_snoc hz hq g2]
    · have g2 : opE q.x.op = 0 := by simpa using g2
      refine ref16_Check_leaf2 (ll.length - (k + 1)) (by omega) ⟨k + 1, by rw [wrap_id (by omega) (by omega)]; omega, by omega, N6, ?_, rfl⟩
      intro q' hq'
      rw [List.take_add_one, hq] at hq'
      simp at hq'
      rcases hq' with hq' | rfl
      · exact hz q' hq'
      · exact g2
  · have hk : k = ll.length := by omega
    subst hk
    rw [List.take_length] at hz
    refine ⟨?_, M4⟩
    rw [hE]
    have : (ll.map (·.x)).find? (fun x => opE x.op ≠ 0) = none := by
      rw [List.find?_eq_none]
      intro x hx
      obtain ⟨q', hq', rfl⟩ := List.mem_map.1 hx
      simpa using hz q' hq'
    rw [this]
end Go.Proofs.YtohgihgddknmmaaGreat

/- The conditions of Go functions' bodies, printed by gen2.py. -/
namespace Go.Proofs.YtohgihgddknmmaaGreat
open Go Go.RowKit
set_option linter.unusedVariables false
set_option maxRecDepth 100000

def ref04_In_num_an : List LA := []
def ref04_In_num_T (b0 : Nat) (o0 : ByteArray) (o1 : Int) (o2 : Bool) (R : Value → World → Prop) (w : World) : Prop :=
 ∀ w1, Adv [] [] w w1 →
 Calls Tryz.prog 90 #[(.string o0), (.int .i64 o1)] w1 fun e w2 => ∃ x3 : Int, ∃ x4 : Int, ∃ x5 : Int, e = .returned (.tuple #[(.int .u64 x3), (.int .i64 x4), (.int .i64 x5)]) ∧ Keep [b0] w1 w2 ∧
 brB o2 (
 ∀ w6, Adv [b0] [] w2 w6 → w6.heap[b0]? = some (.cells #[(.string o0), (.int .i64 o1), (.bool true)] 224) →
 R (.int .i64 0) w6)
 (
 brB (x5 != 0) (
 ∀ w7, Adv [b0] [] w2 w7 → w7.heap[b0]? = some (.cells #[(.string o0), (.int .i64 o1), (.bool true)] 224) →
 R (.int .i64 0) w7)
 (
 brB (decide (x3 > 1099511627776)) (
 ∀ w8, Adv [b0] [] w2 w8 → w8.heap[b0]? = some (.cells #[(.string o0), (.int .i64 o1), (.bool true)] 224) →
 R (.int .i64 0) w8)
 (
 ∀ w9, Adv [b0] [] w2 w9 → w9.heap[b0]? = some (.cells #[(.string o0), (.int .i64 x4), (.bool o2)] 224) →
 R (.int .i64 (IntKind.wrap .i64 x3)) w9)))
theorem ref04_In_num_eq (b0 : Nat) (o0 : ByteArray) (o1 : Int) (o2 : Bool) (R : Value → World → Prop) (w : World) :
 dnF Tryz.prog ref04_In_num_an (code Tryz.f158) 400 [] (post3 Tryz.prog Tryz.f158 [0] R) ⟨(0, .pointer (some ⟨b0, 0, none⟩), some (0, 0)) :: args0 1 [], fun _ => undef⟩ ⟨[⟨b0, 224, [(.string o0), (.int .i64 o1), (.bool o2)], false⟩], w, [], [], true⟩ = ref04_In_num_T b0 o0 o1 o2 R w := by kernel_rfl
theorem ref04_In_num_go {b0 : Nat} {o0 : ByteArray} {o1 : Int} {o2 : Bool} {R : Value → World → Prop} {w : World} (hb : w.heap[b0]? = some (.cells #[(.string o0), (.int .i64 o1), (.bool o2)] 224)) (h : ref04_In_num_T b0 o0 o1 o2 R w) :
 Calls Tryz.prog 158 #[(.pointer (some ⟨b0, 0, none⟩))] w fun e w' => ∃ v, e = .returned v ∧ R v w' :=
 calls_one Tryz.wide_mixed (f := 158) (args := []) Tryz.func158 rfl rfl (by kernel_rfl) rfl hb (Eq.mpr (ref04_In_num_eq b0 o0 o1 o2 R w) h)
def ref04_In_text_an : List LA := []
def ref04_In_text_T (b0 : Nat) (o0 : ByteArray) (o1 : Int) (o2 : Bool) (R : Value → World → Prop) (w : World) : Prop :=
 ∀ w1, Adv [] [] w w1 →
 Calls Tryz.prog 138 #[(.string o0), (.int .i64 o1), (.int .i64 16)] w1 fun e w2 => ∃ s3 : ByteArray, ∃ x4 : Int, ∃ x5 : Int, e = .returned (.tuple #[(.string s3), (.int .i64 x4), (.int .i64 x5)]) ∧ Keep [b0] w1 w2 ∧
 brB o2 (
 ∀ w6, Adv [b0] [] w2 w6 → w6.heap[b0]? = some (.cells #[(.string o0), (.int .i64 o1), (.bool true)] 224) →
 R (.string (⟨#[]⟩ : ByteArray)) w6)
 (
 brB (x5 != 0) (
 ∀ w7, Adv [b0] [] w2 w7 → w7.heap[b0]? = some (.cells #[(.string o0), (.int .i64 o1), (.bool true)] 224) →
 R (.string (⟨#[]⟩ : ByteArray)) w7)
 (
 ∀ w8, Adv [b0] [] w2 w8 → w8.heap[b0]? = some (.cells #[(.string o0), (.int .i64 x4), (.bool o2)] 224) →
 R (.string s3) w8))
theorem ref04_In_text_eq (b0 : Nat) (o0 : ByteArray) (o1 : Int) (o2 : Bool) (R : Value → World → Prop) (w : World) :
 dnF Tryz.prog ref04_In_text_an (code Tryz.f168) 400 [] (post3 Tryz.prog Tryz.f168 [0] R) ⟨(0, .pointer (some ⟨b0, 0, none⟩), some (0, 0)) :: args0 1 [], fun _ => undef⟩ ⟨[⟨b0, 224, [(.string o0), (.int .i64 o1), (.bool o2)], false⟩], w, [], [], true⟩ = ref04_In_text_T b0 o0 o1 o2 R w := by kernel_rfl
theorem ref04_In_text_go {b0 : Nat} {o0 : ByteArray} {o1 : Int} {o2 : Bool} {R : Value → World → Prop} {w : World} (hb : w.heap[b0]? = some (.cells #[(.string o0), (.int .i64 o1), (.bool o2)] 224)) (h : ref04_In_text_T b0 o0 o1 o2 R w) :
 Calls Tryz.prog 168 #[(.pointer (some ⟨b0, 0, none⟩))] w fun e w' => ∃ v, e = .returned v ∧ R v w' :=
 calls_one Tryz.wide_mixed (f := 168) (args := []) Tryz.func168 rfl rfl (by kernel_rfl) rfl hb (Eq.mpr (ref04_In_text_eq b0 o0 o1 o2 R w) h)
def ref04_In_one_la1 : LA := ⟨[0, 0, 1, 1, 1, 1, 1, 1, 1, 1, 1, 1, 1, 1, 1, 1, 1, 1, 1, 1, 1, 1, 0, 1, 0, 1], [0, 4, 6, 10, 11], [(0, 0, 0), (4, 1, 0), (6, 2, 0)], 3, [0]⟩
def ref04_In_one_an : List LA := [ref04_In_one_la1]
def ref04_In_one_v1 (a0 : Int) (bm0 : Nat) (bm1 : Nat) (bm2 : Nat) (a1 : Int) : List Value := [(.pointer (some ⟨bm0, 0, none⟩)), (.pointer (some ⟨bm1, 0, none⟩)), (.pointer (some ⟨bm2, 0, none⟩)), (.int .i64 a0), (.int .i64 a1)]
def ref04_In_one_m1 (bm0 : Nat) (bm1 : Nat) (b4 : Int) (b0 : ByteArray) (b5 : Int) (b6 : Int) (b7 : Int) (b8 : Int) (b9 : Int) (c0 : Int) (a6 : Option Addr) (a8 : Nat) (a7 : Nat) (b1 : ByteArray) (a3 : ByteArray) (a5 : Int) (a4 : Bool) (bm2 : Nat) (a9 : ByteArray) (b3 : Int) (b2 : Bool) (a0 : Option Addr) (a2 : Nat) (a1 : Nat) : List TB := [⟨bm0, 224, [(.string a9), (.int .i64 b3), (.bool b2)], true⟩, ⟨bm1, 38, [(.int .i64 b4), (.string b0), (.int .i64 b5), (.int .i64 b6), (.int .i64 b7), (.int .i64 b8), (.int .i64 b9), (.int .i64 c0), (.slice a6 a8 a7), (.string b1), (.string a3), (.int .i64 a5), (.bool a4), (.slice a0 a2 a1)], false⟩, ⟨bm2, 38, [(.int .i64 0), (.string ByteArray.empty), (.int .i64 0), (.int .i64 0), (.int .i64 0), (.int .i64 0), (.int .i64 0), (.int .i64 0), (.slice none 0 0), (.string ByteArray.empty), (.string ByteArray.empty), (.int .i64 0), (.bool false), (.slice none 0 0)], false⟩]
def ref04_In_one_L1 (c2 : Int) (bm0 : Nat) (bm1 : Nat) (b4 : Int) (b2 : ByteArray) (b5 : Int) (b6 : Int) (b7 : Int) (b8 : Int) (b9 : Int) (c0 : Int) (a9 : Option Addr) (b1 : Nat) (b0 : Nat) (b3 : ByteArray) (a6 : ByteArray) (a8 : Int) (a7 : Bool) (bm2 : Nat) (c1 : Int) (a4 : ByteArray) (a5 : Int) (a3 : Bool) (a0 : Option Addr) (a2 : Nat) (a1 : Nat) (K1 : Kh) (R : Value → World → Prop) (w : World) : Prop :=
 w.heap[bm0]? = some (.cells #[(.string a4), (.int .i64 a5), (.bool a3)] 224) →
 brB (decide (c1 < c2)) (
 brB (!a3) (
 brB (decide (c1 < 9)) (
 ∀ w97, Adv [] [] w w97 → w97.heap[bm0]? = some (.cells #[(.string a4), (.int .i64 a5), (.bool a3)] 224) →
 Calls Tryz.prog 168 #[(.pointer (some ⟨bm0, 0, none⟩))] w97 fun e w98 => ∃ s99 : ByteArray, e = .returned (.string s99) ∧ KeepE [bm0] [(bm1, 38), (bm2, 38)] [bm1, bm2] w97 w98 ∧ ∃ s100 : ByteArray, ∃ x101 : Int, ∃ t102 : Bool, w98.heap[bm0]? = some (.cells #[(.string s100), (.int .i64 x101), (.bool t102)] 224) ∧ (((.slice a0 a2 a1) : Value) = (.slice a0 a2 a1)) ∧
 al w98 (.cells #[(.string s99)] 9) fun b103 w104 =>
 effSl Tryz.prog (Builtin.append_ #[36, 36] 36 #[(.slice a0 a2 a1), (.slice (some ⟨b103, 0, none⟩) 1 1)]) w104 fun a106 n107 c108 w105 => Keep [bm0, bm1, bm2] w104 w105 ∧
 ∀ w109, Adv [bm1] [] w105 w109 → w109.heap[bm0]? = some (.cells #[(.string s100), (.int .i64 x101), (.bool t102)] 224) →
 K1 (ref04_In_one_v1 c2 bm0 bm1 bm2 (IntKind.wrap .i64 (c1 + 1))) (ref04_In_one_m1 bm0 bm1 b4 b2 b5 b6 b7 b8 b9 c0 a9 b1 b0 b3 a6 a8 a7 bm2 s100 x101 t102 a106 n107 c108) w109)
 (
 ∀ w110, Adv [bm2] [] w w110 → w110.heap[bm0]? = some (.cells #[(.string a4), (.int .i64 a5), (.bool a3)] 224) →
 R (.agg #[(.int .i64 b4), (.string b2), (.int .i64 b5), (.int .i64 b6), (.int .i64 b7), (.int .i64 b8), (.int .i64 b9), (.int .i64 c0), (.slice a9 b1 b0), (.string b3), (.string a6), (.int .i64 a8), (.bool a7), (.slice a0 a2 a1)]) w110))
 (
 ∀ w111, Adv [bm2] [] w w111 → w111.heap[bm0]? = some (.cells #[(.string a4), (.int .i64 a5), (.bool a3)] 224) →
 R (.agg #[(.int .i64 b4), (.string b2), (.int .i64 b5), (.int .i64 b6), (.int .i64 b7), (.int .i64 b8), (.int .i64 b9), (.int .i64 c0), (.slice a9 b1 b0), (.string b3), (.string a6), (.int .i64 a8), (.bool a7), (.slice a0 a2 a1)]) w111))
 (
 ∀ w112, Adv [bm2] [] w w112 → w112.heap[bm0]? = some (.cells #[(.string a4), (.int .i64 a5), (.bool a3)] 224) →
 R (.agg #[(.int .i64 b4), (.string b2), (.int .i64 b5), (.int .i64 b6), (.int .i64 b7), (.int .i64 b8), (.int .i64 b9), (.int .i64 c0), (.slice a9 b1 b0), (.string b3), (.string a6), (.int .i64 a8), (.bool a7), (.slice a0 a2 a1)]) w112)
theorem ref04_In_one_L1_eq (c1 : Int) (bm0 : Nat) (bm1 : Nat) (b4 : Int) (b0 : ByteArray) (b5 : Int) (b6 : Int) (b7 : Int) (b8 : Int) (b9 : Int) (c0 : Int) (a6 : Option Addr) (a8 : Nat) (a7 : Nat) (b1 : ByteArray) (a3 : ByteArray) (a5 : Int) (a4 : Bool) (bm2 : Nat) (c2 : Int) (a9 : ByteArray) (b3 : Int) (b2 : Bool) (a0 : Option Addr) (a2 : Nat) (a1 : Nat) (K1 : Kh) (js : Nat → Value) (R : Value → World → Prop) (w : World) :
 headA ref04_In_one_la1 ((dnF Tryz.prog ref04_In_one_an (code Tryz.f159) 386 [0, 0, 1, 1, 1, 1, 1, 1, 1, 1, 1, 1, 1, 1, 1, 1, 1, 1, 1, 1, 1, 1, 0, 1, 0, 1]) (kthen3 (atA ref04_In_one_la1 K1) (kont3 Tryz.prog ref04_In_one_an (code Tryz.f159) [1, 0, 1, 0, 1, 1, 1, 1, 1, 1, 1, 1, 1, 1, 1, 1, 1, 1, 1, 1, 1, 1, 1, 1, 0] [] (post3 Tryz.prog Tryz.f159 [0] R)))) (ref04_In_one_v1 c1 bm0 bm1 bm2 c2) js (ref04_In_one_m1 bm0 bm1 b4 b0 b5 b6 b7 b8 b9 c0 a6 a8 a7 b1 a3 a5 a4 bm2 a9 b3 b2 a0 a2 a1) w = ref04_In_one_L1 c1 bm0 bm1 b4 b0 b5 b6 b7 b8 b9 c0 a6 a8 a7 b1 a3 a5 a4 bm2 c2 a9 b3 b2 a0 a2 a1 K1 R w := by kernel_rfl
def ref04_In_one_K1 (c2 : Int) (bm0 : Nat) (bm1 : Nat) (b5 : Int) (b2 : ByteArray) (b6 : Int) (b7 : Int) (b8 : Int) (b9 : Int) (c0 : Int) (c1 : Int) (a9 : Option Addr) (b1 : Nat) (b0 : Nat) (b3 : ByteArray) (a6 : ByteArray) (a8 : Int) (a7 : Bool) (bm2 : Nat) (I : Nat → Int → ByteArray → Int → Bool → Option Addr → Nat → Nat → World → Prop) (m : Nat) (vals : List Value) (mem : List TB) (w : World) : Prop := ∃ m', m' < m ∧ ∃ b4 a3 a5 a4 a0 a2 a1, vals = (ref04_In_one_v1 c2 bm0 bm1 bm2 b4) ∧ mem = (ref04_In_one_m1 bm0 bm1 b5 b2 b6 b7 b8 b9 c0 c1 a9 b1 b0 b3 a6 a8 a7 bm2 a3 a5 a4 a0 a2 a1) ∧ I m' b4 a3 a5 a4 a0 a2 a1 w
theorem ref04_In_one_leaf1 {c1 : Int} {bm0 : Nat} {bm1 : Nat} {b4 : Int} {b0 : ByteArray} {b5 : Int} {b6 : Int} {b7 : Int} {b8 : Int} {b9 : Int} {c0 : Int} {a6 : Option Addr} {a8 : Nat} {a7 : Nat} {b1 : ByteArray} {a3 : ByteArray} {a5 : Int} {a4 : Bool} {bm2 : Nat} {I : Nat → Int → ByteArray → Int → Bool → Option Addr → Nat → Nat → World → Prop} {m : Nat} {c2 : Int} {a9 : ByteArray} {b3 : Int} {b2 : Bool} {a0 : Option Addr} {a2 : Nat} {a1 : Nat} {w : World} (m' : Nat) (h1 : m' < m) (h2 : I m' c2 a9 b3 b2 a0 a2 a1 w) : ref04_In_one_K1 c1 bm0 bm1 b4 b0 b5 b6 b7 b8 b9 c0 a6 a8 a7 b1 a3 a5 a4 bm2 I m (ref04_In_one_v1 c1 bm0 bm1 bm2 c2) (ref04_In_one_m1 bm0 bm1 b4 b0 b5 b6 b7 b8 b9 c0 a6 a8 a7 b1 a3 a5 a4 bm2 a9 b3 b2 a0 a2 a1) w := ⟨m', h1, _, _, _, _, _, _, _, rfl, rfl, h2⟩
theorem ref04_In_one_rule1 {c8 : Int} {bm0 : Nat} {bm1 : Nat} {b5 : Int} {b3 : ByteArray} {b6 : Int} {b7 : Int} {b8 : Int} {b9 : Int} {c0 : Int} {c1 : Int} {b0 : Option Addr} {b2 : Nat} {b1 : Nat} {b4 : ByteArray} {a6 : ByteArray} {a8 : Int} {a7 : Bool} {bm2 : Nat} {c9 : Int} {c5 : ByteArray} {c7 : Int} {c6 : Bool} {c2 : Option Addr} {c4 : Nat} {c3 : Nat} {R : Value → World → Prop} {w0 : World} (I : Nat → Int → ByteArray → Int → Bool → Option Addr → Nat → Nat → World → Prop) (m0 : Nat) (h0 : I m0 c9 c5 c7 c6 c2 c4 c3 w0)
 (hr : ∀ (m : Nat) (a9 : Int) (a3 : ByteArray) (a5 : Int) (a4 : Bool) (a0 : Option Addr) (a2 : Nat) (a1 : Nat) (w : World), I m a9 a3 a5 a4 a0 a2 a1 w → ref04_In_one_L1 c8 bm0 bm1 b5 b3 b6 b7 b8 b9 c0 c1 b0 b2 b1 b4 a6 a8 a7 bm2 a9 a3 a5 a4 a0 a2 a1 (ref04_In_one_K1 c8 bm0 bm1 b5 b3 b6 b7 b8 b9 c0 c1 b0 b2 b1 b4 a6 a8 a7 bm2 I m) R w) :
 loopD3 ref04_In_one_la1 (dnF Tryz.prog ref04_In_one_an (code Tryz.f159) 386 [0, 0, 1, 1, 1, 1, 1, 1, 1, 1, 1, 1, 1, 1, 1, 1, 1, 1, 1, 1, 1, 1, 0, 1, 0, 1]) (kont3 Tryz.prog ref04_In_one_an (code Tryz.f159) [1, 0, 1, 0, 1, 1, 1, 1, 1, 1, 1, 1, 1, 1, 1, 1, 1, 1, 1, 1, 1, 1, 1, 1, 0] [] (post3 Tryz.prog Tryz.f159 [0] R)) (ref04_In_one_v1 c8 bm0 bm1 bm2 c9) (ref04_In_one_m1 bm0 bm1 b5 b3 b6 b7 b8 b9 c0 c1 b0 b2 b1 b4 a6 a8 a7 bm2 c5 c7 c6 c2 c4 c3) w0 := by
 refine ⟨fun m vals mem w => ∃ a9 a3 a5 a4 a0 a2 a1, vals = (ref04_In_one_v1 c8 bm0 bm1 bm2 a9) ∧ mem = (ref04_In_one_m1 bm0 bm1 b5 b3 b6 b7 b8 b9 c0 c1 b0 b2 b1 b4 a6 a8 a7 bm2 a3 a5 a4 a0 a2 a1) ∧ I m a9 a3 a5 a4 a0 a2 a1 w, m0, ⟨_, _, _, _, _, _, _, rfl, rfl, h0⟩, ?_⟩
 rintro m vals mem w ⟨a9, a3, a5, a4, a0, a2, a1, rfl, rfl, hI⟩
 refine ⟨rfl, rfl, fun js => ?_⟩
 have h := hr m a9 a3 a5 a4 a0 a2 a1 w hI
 rw [← ref04_In_one_L1_eq _ _ _ _ _ _ _ _ _ _ _ _ _ _ _ _ _ _ _ _ _ _ _ _ _ _ _ js] at h
 exact h
def ref04_In_one_T (b0 : Nat) (o0 : ByteArray) (o1 : Int) (o2 : Bool) (a6 : Int) (b7 : ByteArray) (b3 : Int) (b4 : Int) (b5 : Int) (b8 : Int) (b9 : Int) (c0 : Int) (a7 : Option Addr) (a9 : Nat) (a8 : Nat) (b6 : ByteArray) (a3 : ByteArray) (a4 : Int) (a5 : Bool) (a0 : Option Addr) (a2 : Nat) (a1 : Nat) (c1 : Int) (R : Value → World → Prop) (w : World) : Prop :=
 ∀ b1, w.heap.size ≤ b1 →
 ∀ b2, w.heap.size ≤ b2 →
 brB (c1 == 116) (
 ∀ w3, Adv [] [b2, b1] w w3 → w3.heap[b0]? = some (.cells #[(.string o0), (.int .i64 o1), (.bool o2)] 224) →
 Calls Tryz.prog 168 #[(.pointer (some ⟨b0, 0, none⟩))] w3 fun e w4 => ∃ s5 : ByteArray, e = .returned (.string s5) ∧ KeepE [b0] [(b1, 38), (b2, 38)] [b1, b2] w3 w4 ∧ ∃ s6 : ByteArray, ∃ x7 : Int, ∃ t8 : Bool, w4.heap[b0]? = some (.cells #[(.string s6), (.int .i64 x7), (.bool t8)] 224) ∧
 ∀ w9, Adv [b2, b1] [] w4 w9 → w9.heap[b0]? = some (.cells #[(.string s6), (.int .i64 x7), (.bool t8)] 224) →
 R (.agg #[(.int .i64 a6), (.string s5), (.int .i64 b3), (.int .i64 b4), (.int .i64 b5), (.int .i64 b8), (.int .i64 b9), (.int .i64 c0), (.slice a7 a9 a8), (.string b6), (.string a3), (.int .i64 a4), (.bool a5), (.slice a0 a2 a1)]) w9)
 (
 brB (c1 == 112) (
 ∀ w10, Adv [] [b2, b1] w w10 → w10.heap[b0]? = some (.cells #[(.string o0), (.int .i64 o1), (.bool o2)] 224) →
 Calls Tryz.prog 168 #[(.pointer (some ⟨b0, 0, none⟩))] w10 fun e w11 => ∃ s12 : ByteArray, e = .returned (.string s12) ∧ KeepE [b0] [(b1, 38), (b2, 38)] [b1, b2] w10 w11 ∧ ∃ s13 : ByteArray, ∃ x14 : Int, ∃ t15 : Bool, w11.heap[b0]? = some (.cells #[(.string s13), (.int .i64 x14), (.bool t15)] 224) ∧
 ∀ w16, Adv [b1] [] w11 w16 → w16.heap[b0]? = some (.cells #[(.string s13), (.int .i64 x14), (.bool t15)] 224) →
 Calls Tryz.prog 158 #[(.pointer (some ⟨b0, 0, none⟩))] w16 fun e w17 => ∃ x18 : Int, e = .returned (.int .i64 x18) ∧ KeepE [b0] [(b1, 38), (b2, 38)] [b1, b2] w16 w17 ∧ ∃ s19 : ByteArray, ∃ x20 : Int, ∃ t21 : Bool, w17.heap[b0]? = some (.cells #[(.string s19), (.int .i64 x20), (.bool t21)] 224) ∧
 ∀ w22, Adv [b2, b1] [] w17 w22 → w22.heap[b0]? = some (.cells #[(.string s19), (.int .i64 x20), (.bool t21)] 224) →
 R (.agg #[(.int .i64 a6), (.string s12), (.int .i64 x18), (.int .i64 b4), (.int .i64 b5), (.int .i64 b8), (.int .i64 b9), (.int .i64 c0), (.slice a7 a9 a8), (.string b6), (.string a3), (.int .i64 a4), (.bool a5), (.slice a0 a2 a1)]) w22)
 (
 brB (c1 == 110) (
 ∀ w23, Adv [] [b2, b1] w w23 → w23.heap[b0]? = some (.cells #[(.string o0), (.int .i64 o1), (.bool o2)] 224) →
 Calls Tryz.prog 158 #[(.pointer (some ⟨b0, 0, none⟩))] w23 fun e w24 => ∃ x25 : Int, e = .returned (.int .i64 x25) ∧ KeepE [b0] [(b1, 38), (b2, 38)] [b1, b2] w23 w24 ∧ ∃ s26 : ByteArray, ∃ x27 : Int, ∃ t28 : Bool, w24.heap[b0]? = some (.cells #[(.string s26), (.int .i64 x27), (.bool t28)] 224) ∧
 ∀ w29, Adv [b2, b1] [] w24 w29 → w29.heap[b0]? = some (.cells #[(.string s26), (.int .i64 x27), (.bool t28)] 224) →
 R (.agg #[(.int .i64 a6), (.string b7), (.int .i64 b3), (.int .i64 x25), (.int .i64 b5), (.int .i64 b8), (.int .i64 b9), (.int .i64 c0), (.slice a7 a9 a8), (.string b6), (.string a3), (.int .i64 a4), (.bool a5), (.slice a0 a2 a1)]) w29)
 (
 brB (c1 == 111) (
 ∀ w30, Adv [] [b2, b1] w w30 → w30.heap[b0]? = some (.cells #[(.string o0), (.int .i64 o1), (.bool o2)] 224) →
 Calls Tryz.prog 158 #[(.pointer (some ⟨b0, 0, none⟩))] w30 fun e w31 => ∃ x32 : Int, e = .returned (.int .i64 x32) ∧ KeepE [b0] [(b1, 38), (b2, 38)] [b1, b2] w30 w31 ∧ ∃ s33 : ByteArray, ∃ x34 : Int, ∃ t35 : Bool, w31.heap[b0]? = some (.cells #[(.string s33), (.int .i64 x34), (.bool t35)] 224) ∧
 ∀ w36, Adv [b2, b1] [] w31 w36 → w36.heap[b0]? = some (.cells #[(.string s33), (.int .i64 x34), (.bool t35)] 224) →
 R (.agg #[(.int .i64 a6), (.string b7), (.int .i64 b3), (.int .i64 b4), (.int .i64 x32), (.int .i64 b8), (.int .i64 b9), (.int .i64 c0), (.slice a7 a9 a8), (.string b6), (.string a3), (.int .i64 a4), (.bool a5), (.slice a0 a2 a1)]) w36)
 (
 brB (c1 == 98) (
 ((
 ∀ b37, w.heap.size ≤ b37 →
 ∀ w38, Adv [] [b37, b2, b1] w w38 →
 Calls Tryz.prog 169 #[(.string o0), (.int .i64 o1)] w38 fun e w39 => ∃ x40 : Int, ∃ x41 : Int, ∃ x42 : Int, ∃ (a43 : Option Addr) (n44 c45 : Nat), ∃ x46 : Int, ∃ x47 : Int, e = .returned (.tuple #[(.agg #[(.int .i64 x40), (.int .i64 x41), (.int .i64 x42), (.slice a43 n44 c45)]), (.int .i64 x46), (.int .i64 x47)]) ∧ Keep [b0, b1, b2, b37] w38 w39 ∧
 brB o2 (
 ∀ w48, Adv [b2, b0, b1, b37] [] w39 w48 → w48.heap[b0]? = some (.cells #[(.string o0), (.int .i64 x46), (.bool true)] 224) →
 R (.agg #[(.int .i64 a6), (.string b7), (.int .i64 b3), (.int .i64 b4), (.int .i64 b5), (.int .i64 x40), (.int .i64 x41), (.int .i64 x42), (.slice a43 n44 c45), (.string b6), (.string a3), (.int .i64 a4), (.bool a5), (.slice a0 a2 a1)]) w48)
 (
 ∀ w49, Adv [b2, b0, b1, b37] [] w39 w49 → w49.heap[b0]? = some (.cells #[(.string o0), (.int .i64 x46), (.bool (x47 != 0))] 224) →
 R (.agg #[(.int .i64 a6), (.string b7), (.int .i64 b3), (.int .i64 b4), (.int .i64 b5), (.int .i64 x40), (.int .i64 x41), (.int .i64 x42), (.slice a43 n44 c45), (.string b6), (.string a3), (.int .i64 a4), (.bool a5), (.slice a0 a2 a1)]) w49)) ∧
 (
 ∀ w50, Adv [] [b2, b1] w w50 →
 Calls Tryz.prog 169 #[(.string o0), (.int .i64 o1)] w50 fun e w51 => ∃ x52 : Int, ∃ x53 : Int, ∃ x54 : Int, ∃ (a55 : Option Addr) (n56 c57 : Nat), ∃ x58 : Int, ∃ x59 : Int, e = .returned (.tuple #[(.agg #[(.int .i64 x52), (.int .i64 x53), (.int .i64 x54), (.slice a55 n56 c57)]), (.int .i64 x58), (.int .i64 x59)]) ∧ Keep [b0, b1, b2] w50 w51 ∧
 ∀ b60, w51.heap.size ≤ b60 →
 brB o2 (
 ∀ w61, Adv [b2, b0, b1] [b60] w51 w61 → w61.heap[b0]? = some (.cells #[(.string o0), (.int .i64 x58), (.bool true)] 224) →
 R (.agg #[(.int .i64 a6), (.string b7), (.int .i64 b3), (.int .i64 b4), (.int .i64 b5), (.int .i64 x52), (.int .i64 x53), (.int .i64 x54), (.slice a55 n56 c57), (.string b6), (.string a3), (.int .i64 a4), (.bool a5), (.slice a0 a2 a1)]) w61)
 (
 ∀ w62, Adv [b2, b0, b1] [b60] w51 w62 → w62.heap[b0]? = some (.cells #[(.string o0), (.int .i64 x58), (.bool (x59 != 0))] 224) →
 R (.agg #[(.int .i64 a6), (.string b7), (.int .i64 b3), (.int .i64 b4), (.int .i64 b5), (.int .i64 x52), (.int .i64 x53), (.int .i64 x54), (.slice a55 n56 c57), (.string b6), (.string a3), (.int .i64 a4), (.bool a5), (.slice a0 a2 a1)]) w62))))
 (
 brB (c1 == 103) (
 ∀ w63, Adv [] [b2, b1] w w63 → w63.heap[b0]? = some (.cells #[(.string o0), (.int .i64 o1), (.bool o2)] 224) →
 Calls Tryz.prog 168 #[(.pointer (some ⟨b0, 0, none⟩))] w63 fun e w64 => ∃ s65 : ByteArray, e = .returned (.string s65) ∧ KeepE [b0] [(b1, 38), (b2, 38)] [b1, b2] w63 w64 ∧ ∃ s66 : ByteArray, ∃ x67 : Int, ∃ t68 : Bool, w64.heap[b0]? = some (.cells #[(.string s66), (.int .i64 x67), (.bool t68)] 224) ∧
 ∀ w69, Adv [b2, b1] [] w64 w69 → w69.heap[b0]? = some (.cells #[(.string s66), (.int .i64 x67), (.bool t68)] 224) →
 R (.agg #[(.int .i64 a6), (.string b7), (.int .i64 b3), (.int .i64 b4), (.int .i64 b5), (.int .i64 b8), (.int .i64 b9), (.int .i64 c0), (.slice a7 a9 a8), (.string s65), (.string a3), (.int .i64 a4), (.bool a5), (.slice a0 a2 a1)]) w69)
 (
 brB (c1 == 109) (
 ∀ w70, Adv [] [b2, b1] w w70 → w70.heap[b0]? = some (.cells #[(.string o0), (.int .i64 o1), (.bool o2)] 224) →
 Calls Tryz.prog 168 #[(.pointer (some ⟨b0, 0, none⟩))] w70 fun e w71 => ∃ s72 : ByteArray, e = .returned (.string s72) ∧ KeepE [b0] [(b1, 38), (b2, 38)] [b1, b2] w70 w71 ∧ ∃ s73 : ByteArray, ∃ x74 : Int, ∃ t75 : Bool, w71.heap[b0]? = some (.cells #[(.string s73), (.int .i64 x74), (.bool t75)] 224) ∧
 ∀ w76, Adv [b2, b1] [] w71 w76 → w76.heap[b0]? = some (.cells #[(.string s73), (.int .i64 x74), (.bool t75)] 224) →
 R (.agg #[(.int .i64 a6), (.string b7), (.int .i64 b3), (.int .i64 b4), (.int .i64 b5), (.int .i64 b8), (.int .i64 b9), (.int .i64 c0), (.slice a7 a9 a8), (.string b6), (.string s72), (.int .i64 a4), (.bool a5), (.slice a0 a2 a1)]) w76)
 (
 brB (c1 == 101) (
 ∀ w77, Adv [] [b2, b1] w w77 → w77.heap[b0]? = some (.cells #[(.string o0), (.int .i64 o1), (.bool o2)] 224) →
 Calls Tryz.prog 158 #[(.pointer (some ⟨b0, 0, none⟩))] w77 fun e w78 => ∃ x79 : Int, e = .returned (.int .i64 x79) ∧ KeepE [b0] [(b1, 38), (b2, 38)] [b1, b2] w77 w78 ∧ ∃ s80 : ByteArray, ∃ x81 : Int, ∃ t82 : Bool, w78.heap[b0]? = some (.cells #[(.string s80), (.int .i64 x81), (.bool t82)] 224) ∧
 ∀ w83, Adv [b2, b1] [] w78 w83 → w83.heap[b0]? = some (.cells #[(.string s80), (.int .i64 x81), (.bool t82)] 224) →
 R (.agg #[(.int .i64 a6), (.string b7), (.int .i64 b3), (.int .i64 b4), (.int .i64 b5), (.int .i64 b8), (.int .i64 b9), (.int .i64 c0), (.slice a7 a9 a8), (.string b6), (.string a3), (.int .i64 x79), (.bool a5), (.slice a0 a2 a1)]) w83)
 (
 brB (c1 == 114) (
 ∀ w84, Adv [] [b2, b1] w w84 → w84.heap[b0]? = some (.cells #[(.string o0), (.int .i64 o1), (.bool o2)] 224) →
 Calls Tryz.prog 158 #[(.pointer (some ⟨b0, 0, none⟩))] w84 fun e w85 => ∃ x86 : Int, e = .returned (.int .i64 x86) ∧ KeepE [b0] [(b1, 38), (b2, 38)] [b1, b2] w84 w85 ∧ ∃ s87 : ByteArray, ∃ x88 : Int, ∃ t89 : Bool, w85.heap[b0]? = some (.cells #[(.string s87), (.int .i64 x88), (.bool t89)] 224) ∧
 ∀ w90, Adv [b2, b1] [] w85 w90 → w90.heap[b0]? = some (.cells #[(.string s87), (.int .i64 x88), (.bool t89)] 224) →
 R (.agg #[(.int .i64 a6), (.string b7), (.int .i64 b3), (.int .i64 b4), (.int .i64 b5), (.int .i64 b8), (.int .i64 b9), (.int .i64 c0), (.slice a7 a9 a8), (.string b6), (.string a3), (.int .i64 a4), (.bool (x86 == 1)), (.slice a0 a2 a1)]) w90)
 (
 ∀ w91, Adv [] [b2, b1] w w91 → w91.heap[b0]? = some (.cells #[(.string o0), (.int .i64 o1), (.bool o2)] 224) →
 Calls Tryz.prog 158 #[(.pointer (some ⟨b0, 0, none⟩))] w91 fun e w92 => ∃ x93 : Int, e = .returned (.int .i64 x93) ∧ KeepE [b0] [(b1, 38), (b2, 38)] [b1, b2] w91 w92 ∧ ∃ s94 : ByteArray, ∃ x95 : Int, ∃ t96 : Bool, w92.heap[b0]? = some (.cells #[(.string s94), (.int .i64 x95), (.bool t96)] 224) ∧
 loopD3 ref04_In_one_la1 (dnF Tryz.prog ref04_In_one_an (code Tryz.f159) 386 [0, 0, 1, 1, 1, 1, 1, 1, 1, 1, 1, 1, 1, 1, 1, 1, 1, 1, 1, 1, 1, 1, 0, 1, 0, 1]) (kont3 Tryz.prog ref04_In_one_an (code Tryz.f159) [1, 0, 1, 0, 1, 1, 1, 1, 1, 1, 1, 1, 1, 1, 1, 1, 1, 1, 1, 1, 1, 1, 1, 1, 0] [] (post3 Tryz.prog Tryz.f159 [0] R)) (ref04_In_one_v1 x93 b0 b1 b2 0) (ref04_In_one_m1 b0 b1 a6 b7 b3 b4 b5 b8 b9 c0 a7 a9 a8 b6 a3 a4 a5 b2 s94 x95 t96 a0 a2 a1) w92)))))))))
theorem ref04_In_one_eq (b0 : Nat) (o0 : ByteArray) (o1 : Int) (o2 : Bool) (a9 : Int) (b1 : ByteArray) (b2 : Int) (b3 : Int) (b4 : Int) (b5 : Int) (b6 : Int) (b7 : Int) (a3 : Option Addr) (a5 : Nat) (a4 : Nat) (b8 : ByteArray) (a6 : ByteArray) (a7 : Int) (a8 : Bool) (a0 : Option Addr) (a2 : Nat) (a1 : Nat) (b9 : Int) (R : Value → World → Prop) (w : World) :
 dnF Tryz.prog ref04_In_one_an (code Tryz.f159) 400 [] (post3 Tryz.prog Tryz.f159 [0] R) ⟨(0, .pointer (some ⟨b0, 0, none⟩), some (0, 0)) :: args0 1 [(.agg #[(.int .i64 a9), (.string b1), (.int .i64 b2), (.int .i64 b3), (.int .i64 b4), (.int .i64 b5), (.int .i64 b6), (.int .i64 b7), (.slice a3 a5 a4), (.string b8), (.string a6), (.int .i64 a7), (.bool a8), (.slice a0 a2 a1)]), (.int .u8 b9)], fun _ => undef⟩ ⟨[⟨b0, 224, [(.string o0), (.int .i64 o1), (.bool o2)], false⟩], w, [], [], true⟩ = ref04_In_one_T b0 o0 o1 o2 a9 b1 b2 b3 b4 b5 b6 b7 a3 a5 a4 b8 a6 a7 a8 a0 a2 a1 b9 R w := by kernel_rfl
theorem ref04_In_one_go {b0 : Nat} {o0 : ByteArray} {o1 : Int} {o2 : Bool} {a9 : Int} {b1 : ByteArray} {b2 : Int} {b3 : Int} {b4 : Int} {b5 : Int} {b6 : Int} {b7 : Int} {a3 : Option Addr} {a5 : Nat} {a4 : Nat} {b8 : ByteArray} {a6 : ByteArray} {a7 : Int} {a8 : Bool} {a0 : Option Addr} {a2 : Nat} {a1 : Nat} {b9 : Int} {R : Value → World → Prop} {w : World} (hb : w.heap[b0]? = some (.cells #[(.string o0), (.int .i64 o1), (.bool o2)] 224)) (h : ref04_In_one_T b0 o0 o1 o2 a9 b1 b2 b3 b4 b5 b6 b7 a3 a5 a4 b8 a6 a7 a8 a0 a2 a1 b9 R w) :
 Calls Tryz.prog 159 #[(.pointer (some ⟨b0, 0, none⟩)), (.agg #[(.int .i64 a9), (.string b1), (.int .i64 b2), (.int .i64 b3), (.int .i64 b4), (.int .i64 b5), (.int .i64 b6), (.int .i64 b7), (.slice a3 a5 a4), (.string b8), (.string a6), (.int .i64 a7), (.bool a8), (.slice a0 a2 a1)]), (.int .u8 b9)] w fun e w' => ∃ v, e = .returned v ∧ R v w' :=
 calls_one Tryz.wide_mixed (f := 159) (args := [(.agg #[(.int .i64 a9), (.string b1), (.int .i64 b2), (.int .i64 b3), (.int .i64 b4), (.int .i64 b5), (.int .i64 b6), (.int .i64 b7), (.slice a3 a5 a4), (.string b8), (.string a6), (.int .i64 a7), (.bool a8), (.slice a0 a2 a1)]), (.int .u8 b9)]) Tryz.func159 rfl rfl (by kernel_rfl) rfl hb (Eq.mpr (ref04_In_one_eq b0 o0 o1 o2 a9 b1 b2 b3 b4 b5 b6 b7 a3 a5 a4 b8 a6 a7 a8 a0 a2 a1 b9 R w) h)
def ref04_Get_la1 : LA := ⟨[0, 0, 1, 0, 1, 1, 1, 1, 1], [0, 2, 4, 5, 6, 7], [(2, 0, 0), (4, 1, 0), (5, 2, 0)], 3, [1]⟩
def ref04_Get_an : List LA := [ref04_Get_la1]
def ref04_Get_v1 (a0 : ByteArray) (a1 : ByteArray) (bm0 : Nat) (bm1 : Nat) (bm2 : Nat) (a2 : Int) : List Value := [(.string a0), (.pointer (some ⟨bm0, 0, none⟩)), (.pointer (some ⟨bm1, 0, none⟩)), (.pointer (some ⟨bm2, 0, none⟩)), (.string a1), (.int .i64 a2)]
def ref04_Get_m1 (bm0 : Nat) (bm1 : Nat) (bm2 : Nat) (a9 : ByteArray) (b3 : Int) (b2 : Bool) (b4 : Int) (b0 : ByteArray) (b5 : Int) (b6 : Int) (b7 : Int) (b8 : Int) (b9 : Int) (c0 : Int) (a6 : Option Addr) (a8 : Nat) (a7 : Nat) (b1 : ByteArray) (a3 : ByteArray) (a5 : Int) (a4 : Bool) (a0 : Option Addr) (a2 : Nat) (a1 : Nat) : List TB := [⟨bm0, 38, [(.int .i64 0), (.string ByteArray.empty), (.int .i64 0), (.int .i64 0), (.int .i64 0), (.int .i64 0), (.int .i64 0), (.int .i64 0), (.slice none 0 0), (.string ByteArray.empty), (.string ByteArray.empty), (.int .i64 0), (.bool false), (.slice none 0 0)], false⟩, ⟨bm1, 224, [(.string a9), (.int .i64 b3), (.bool b2)], true⟩, ⟨bm2, 38, [(.int .i64 b4), (.string b0), (.int .i64 b5), (.int .i64 b6), (.int .i64 b7), (.int .i64 b8), (.int .i64 b9), (.int .i64 c0), (.slice a6 a8 a7), (.string b1), (.string a3), (.int .i64 a5), (.bool a4), (.slice a0 a2 a1)], false⟩]
def ref04_Get_L1 (c1 : ByteArray) (c2 : ByteArray) (bm0 : Nat) (bm1 : Nat) (bm2 : Nat) (c3 : Int) (b9 : ByteArray) (c0 : Int) (b8 : Bool) (b1 : Int) (a9 : ByteArray) (b2 : Int) (b3 : Int) (b4 : Int) (b5 : Int) (b6 : Int) (b7 : Int) (a6 : Option Addr) (a8 : Nat) (a7 : Nat) (b0 : ByteArray) (a3 : ByteArray) (a5 : Int) (a4 : Bool) (a0 : Option Addr) (a2 : Nat) (a1 : Nat) (K1 : Kh) (R : Value → World → Prop) (w : World) : Prop :=
 w.heap[bm1]? = some (.cells #[(.string b9), (.int .i64 c0), (.bool b8)] 224) →
 brB (decide (c3 < (c2.size : Int))) (
 brB (!b8) (
 ixS c2 c3 fun x18 =>
 ∀ w19, Adv [] [] w w19 → w19.heap[bm1]? = some (.cells #[(.string b9), (.int .i64 c0), (.bool b8)] 224) →
 Calls Tryz.prog 159 #[(.pointer (some ⟨bm1, 0, none⟩)), (.agg #[(.int .i64 b1), (.string a9), (.int .i64 b2), (.int .i64 b3), (.int .i64 b4), (.int .i64 b5), (.int .i64 b6), (.int .i64 b7), (.slice a6 a8 a7), (.string b0), (.string a3), (.int .i64 a5), (.bool a4), (.slice a0 a2 a1)]), (.int .u8 x18)] w19 fun e w20 => ∃ x21 : Int, ∃ s22 : ByteArray, ∃ x23 : Int, ∃ x24 : Int, ∃ x25 : Int, ∃ x26 : Int, ∃ x27 : Int, ∃ x28 : Int, ∃ (a29 : Option Addr) (n30 c31 : Nat), ∃ s32 : ByteArray, ∃ s33 : ByteArray, ∃ x34 : Int, ∃ t35 : Bool, ∃ (a36 : Option Addr) (n37 c38 : Nat), e = .returned (.agg #[(.int .i64 x21), (.string s22), (.int .i64 x23), (.int .i64 x24), (.int .i64 x25), (.int .i64 x26), (.int .i64 x27), (.int .i64 x28), (.slice a29 n30 c31), (.string s32), (.string s33), (.int .i64 x34), (.bool t35), (.slice a36 n37 c38)]) ∧ KeepE [bm1] [(bm0, 38), (bm2, 38)] [bm0, bm2] w19 w20 ∧ ∃ s39 : ByteArray, ∃ x40 : Int, ∃ t41 : Bool, w20.heap[bm1]? = some (.cells #[(.string s39), (.int .i64 x40), (.bool t41)] 224) ∧
 ∀ w42, Adv [bm2] [] w20 w42 → w42.heap[bm1]? = some (.cells #[(.string s39), (.int .i64 x40), (.bool t41)] 224) →
 K1 (ref04_Get_v1 c1 c2 bm0 bm1 bm2 (IntKind.wrap .i64 (c3 + 1))) (ref04_Get_m1 bm0 bm1 bm2 s39 x40 t41 x21 s22 x23 x24 x25 x26 x27 x28 a29 n30 c31 s32 s33 x34 t35 a36 n37 c38) w42)
 (
 Calls Tryz.prog 84 #[(.agg #[(.int .i64 b1), (.string a9), (.int .i64 b2), (.int .i64 b3), (.int .i64 b4), (.int .i64 b5), (.int .i64 b6), (.int .i64 b7), (.slice a6 a8 a7), (.string b0), (.string a3), (.int .i64 a5), (.bool a4), (.slice a0 a2 a1)])] w fun e w43 => ∃ s44 : ByteArray, ∃ x45 : Int, e = .returned (.tuple #[(.string s44), (.int .i64 x45)]) ∧ KeepE [bm1] [(bm0, 38), (bm2, 38)] [bm0, bm2] w w43 ∧ ∃ s46 : ByteArray, ∃ x47 : Int, ∃ t48 : Bool, w43.heap[bm1]? = some (.cells #[(.string s46), (.int .i64 x47), (.bool t48)] 224) ∧
 brB t48 (
 ∀ w49, Adv [bm0] [] w43 w49 → w49.heap[bm1]? = some (.cells #[(.string s46), (.int .i64 x47), (.bool t48)] 224) →
 R (.tuple #[(.agg #[(.int .i64 0), (.string ByteArray.empty), (.int .i64 0), (.int .i64 0), (.int .i64 0), (.int .i64 0), (.int .i64 0), (.int .i64 0), (.slice none 0 0), (.string ByteArray.empty), (.string ByteArray.empty), (.int .i64 0), (.bool false), (.slice none 0 0)]), (.int .i64 40)]) w49)
 (
 brB (x45 != 0) (
 ∀ w50, Adv [bm0] [] w43 w50 → w50.heap[bm1]? = some (.cells #[(.string s46), (.int .i64 x47), (.bool t48)] 224) →
 R (.tuple #[(.agg #[(.int .i64 0), (.string ByteArray.empty), (.int .i64 0), (.int .i64 0), (.int .i64 0), (.int .i64 0), (.int .i64 0), (.int .i64 0), (.slice none 0 0), (.string ByteArray.empty), (.string ByteArray.empty), (.int .i64 0), (.bool false), (.slice none 0 0)]), (.int .i64 40)]) w50)
 (
 brB (!(s44.toList == c1.toList)) (
 ∀ w51, Adv [bm0] [] w43 w51 → w51.heap[bm1]? = some (.cells #[(.string s46), (.int .i64 x47), (.bool t48)] 224) →
 R (.tuple #[(.agg #[(.int .i64 0), (.string ByteArray.empty), (.int .i64 0), (.int .i64 0), (.int .i64 0), (.int .i64 0), (.int .i64 0), (.int .i64 0), (.slice none 0 0), (.string ByteArray.empty), (.string ByteArray.empty), (.int .i64 0), (.bool false), (.slice none 0 0)]), (.int .i64 40)]) w51)
 (
 ∀ w52, Adv [bm0] [] w43 w52 → w52.heap[bm1]? = some (.cells #[(.string s46), (.int .i64 x47), (.bool t48)] 224) →
 R (.tuple #[(.agg #[(.int .i64 b1), (.string a9), (.int .i64 b2), (.int .i64 b3), (.int .i64 b4), (.int .i64 b5), (.int .i64 b6), (.int .i64 b7), (.slice a6 a8 a7), (.string b0), (.string a3), (.int .i64 a5), (.bool a4), (.slice a0 a2 a1)]), (.int .i64 0)]) w52)))))
 (
 Calls Tryz.prog 84 #[(.agg #[(.int .i64 b1), (.string a9), (.int .i64 b2), (.int .i64 b3), (.int .i64 b4), (.int .i64 b5), (.int .i64 b6), (.int .i64 b7), (.slice a6 a8 a7), (.string b0), (.string a3), (.int .i64 a5), (.bool a4), (.slice a0 a2 a1)])] w fun e w53 => ∃ s54 : ByteArray, ∃ x55 : Int, e = .returned (.tuple #[(.string s54), (.int .i64 x55)]) ∧ KeepE [bm1] [(bm0, 38), (bm2, 38)] [bm0, bm2] w w53 ∧ ∃ s56 : ByteArray, ∃ x57 : Int, ∃ t58 : Bool, w53.heap[bm1]? = some (.cells #[(.string s56), (.int .i64 x57), (.bool t58)] 224) ∧
 brB t58 (
 ∀ w59, Adv [bm0] [] w53 w59 → w59.heap[bm1]? = some (.cells #[(.string s56), (.int .i64 x57), (.bool t58)] 224) →
 R (.tuple #[(.agg #[(.int .i64 0), (.string ByteArray.empty), (.int .i64 0), (.int .i64 0), (.int .i64 0), (.int .i64 0), (.int .i64 0), (.int .i64 0), (.slice none 0 0), (.string ByteArray.empty), (.string ByteArray.empty), (.int .i64 0), (.bool false), (.slice none 0 0)]), (.int .i64 40)]) w59)
 (
 brB (x55 != 0) (
 ∀ w60, Adv [bm0] [] w53 w60 → w60.heap[bm1]? = some (.cells #[(.string s56), (.int .i64 x57), (.bool t58)] 224) →
 R (.tuple #[(.agg #[(.int .i64 0), (.string ByteArray.empty), (.int .i64 0), (.int .i64 0), (.int .i64 0), (.int .i64 0), (.int .i64 0), (.int .i64 0), (.slice none 0 0), (.string ByteArray.empty), (.string ByteArray.empty), (.int .i64 0), (.bool false), (.slice none 0 0)]), (.int .i64 40)]) w60)
 (
 brB (!(s54.toList == c1.toList)) (
 ∀ w61, Adv [bm0] [] w53 w61 → w61.heap[bm1]? = some (.cells #[(.string s56), (.int .i64 x57), (.bool t58)] 224) →
 R (.tuple #[(.agg #[(.int .i64 0), (.string ByteArray.empty), (.int .i64 0), (.int .i64 0), (.int .i64 0), (.int .i64 0), (.int .i64 0), (.int .i64 0), (.slice none 0 0), (.string ByteArray.empty), (.string ByteArray.empty), (.int .i64 0), (.bool false), (.slice none 0 0)]), (.int .i64 40)]) w61)
 (
 ∀ w62, Adv [bm0] [] w53 w62 → w62.heap[bm1]? = some (.cells #[(.string s56), (.int .i64 x57), (.bool t58)] 224) →
 R (.tuple #[(.agg #[(.int .i64 b1), (.string a9), (.int .i64 b2), (.int .i64 b3), (.int .i64 b4), (.int .i64 b5), (.int .i64 b6), (.int .i64 b7), (.slice a6 a8 a7), (.string b0), (.string a3), (.int .i64 a5), (.bool a4), (.slice a0 a2 a1)]), (.int .i64 0)]) w62))))
theorem ref04_Get_L1_eq (c1 : ByteArray) (c2 : ByteArray) (bm0 : Nat) (bm1 : Nat) (bm2 : Nat) (c3 : Int) (a9 : ByteArray) (b3 : Int) (b2 : Bool) (b4 : Int) (b0 : ByteArray) (b5 : Int) (b6 : Int) (b7 : Int) (b8 : Int) (b9 : Int) (c0 : Int) (a6 : Option Addr) (a8 : Nat) (a7 : Nat) (b1 : ByteArray) (a3 : ByteArray) (a5 : Int) (a4 : Bool) (a0 : Option Addr) (a2 : Nat) (a1 : Nat) (K1 : Kh) (js : Nat → Value) (R : Value → World → Prop) (w : World) :
 headA ref04_Get_la1 ((dnF Tryz.prog ref04_Get_an (code Tryz.f139) 393 [0, 0, 1, 0, 1, 1, 1, 1, 1]) (kthen3 (atA ref04_Get_la1 K1) (kont3 Tryz.prog ref04_Get_an (code Tryz.f139) [1, 1, 1, 1, 1, 0, 1, 0] [] (post3 Tryz.prog Tryz.f139 [] R)))) (ref04_Get_v1 c1 c2 bm0 bm1 bm2 c3) js (ref04_Get_m1 bm0 bm1 bm2 a9 b3 b2 b4 b0 b5 b6 b7 b8 b9 c0 a6 a8 a7 b1 a3 a5 a4 a0 a2 a1) w = ref04_Get_L1 c1 c2 bm0 bm1 bm2 c3 a9 b3 b2 b4 b0 b5 b6 b7 b8 b9 c0 a6 a8 a7 b1 a3 a5 a4 a0 a2 a1 K1 R w := by kernel_rfl
def ref04_Get_K1 (c2 : ByteArray) (c3 : ByteArray) (bm0 : Nat) (bm1 : Nat) (bm2 : Nat) (I : Nat → Int → ByteArray → Int → Bool → Int → ByteArray → Int → Int → Int → Int → Int → Int → Option Addr → Nat → Nat → ByteArray → ByteArray → Int → Bool → Option Addr → Nat → Nat → World → Prop) (m : Nat) (vals : List Value) (mem : List TB) (w : World) : Prop := ∃ m', m' < m ∧ ∃ c1 a9 b3 b2 b4 b0 b5 b6 b7 b8 b9 c0 a6 a8 a7 b1 a3 a5 a4 a0 a2 a1, vals = (ref04_Get_v1 c2 c3 bm0 bm1 bm2 c1) ∧ mem = (ref04_Get_m1 bm0 bm1 bm2 a9 b3 b2 b4 b0 b5 b6 b7 b8 b9 c0 a6 a8 a7 b1 a3 a5 a4 a0 a2 a1) ∧ I m' c1 a9 b3 b2 b4 b0 b5 b6 b7 b8 b9 c0 a6 a8 a7 b1 a3 a5 a4 a0 a2 a1 w
theorem ref04_Get_leaf1 {c1 : ByteArray} {c2 : ByteArray} {bm0 : Nat} {bm1 : Nat} {bm2 : Nat} {I : Nat → Int → ByteArray → Int → Bool → Int → ByteArray → Int → Int → Int → Int → Int → Int → Option Addr → Nat → Nat → ByteArray → ByteArray → Int → Bool → Option Addr → Nat → Nat → World → Prop} {m : Nat} {c3 : Int} {a9 : ByteArray} {b3 : Int} {b2 : Bool} {b4 : Int} {b0 : ByteArray} {b5 : Int} {b6 : Int} {b7 : Int} {b8 : Int} {b9 : Int} {c0 : Int} {a6 : Option Addr} {a8 : Nat} {a7 : Nat} {b1 : ByteArray} {a3 : ByteArray} {a5 : Int} {a4 : Bool} {a0 : Option Addr} {a2 : Nat} {a1 : Nat} {w : World} (m' : Nat) (h1 : m' < m) (h2 : I m' c3 a9 b3 b2 b4 b0 b5 b6 b7 b8 b9 c0 a6 a8 a7 b1 a3 a5 a4 a0 a2 a1 w) : ref04_Get_K1 c1 c2 bm0 bm1 bm2 I m (ref04_Get_v1 c1 c2 bm0 bm1 bm2 c3) (ref04_Get_m1 bm0 bm1 bm2 a9 b3 b2 b4 b0 b5 b6 b7 b8 b9 c0 a6 a8 a7 b1 a3 a5 a4 a0 a2 a1) w := ⟨m', h1, _, _, _, _, _, _, _, _, _, _, _, _, _, _, _, _, _, _, _, _, _, _, rfl, rfl, h2⟩
theorem ref04_Get_rule1 {e2 : ByteArray} {e3 : ByteArray} {bm0 : Nat} {bm1 : Nat} {bm2 : Nat} {e4 : Int} {d1 : ByteArray} {d4 : Int} {d3 : Bool} {d5 : Int} {a0 : ByteArray} {d6 : Int} {d7 : Int} {d8 : Int} {d9 : Int} {e0 : Int} {e1 : Int} {c8 : Option Addr} {d0 : Nat} {c9 : Nat} {d2 : ByteArray} {c4 : ByteArray} {c7 : Int} {c5 : Bool} {c1 : Option Addr} {c3 : Nat} {c2 : Nat} {R : Value → World → Prop} {w0 : World} (I : Nat → Int → ByteArray → Int → Bool → Int → ByteArray → Int → Int → Int → Int → Int → Int → Option Addr → Nat → Nat → ByteArray → ByteArray → Int → Bool → Option Addr → Nat → Nat → World → Prop) (m0 : Nat) (h0 : I m0 e4 d1 d4 d3 d5 a0 d6 d7 d8 d9 e0 e1 c8 d0 c9 d2 c4 c7 c5 c1 c3 c2 w0)
 (hr : ∀ (m : Nat) (c6 : Int) (a9 : ByteArray) (b3 : Int) (b2 : Bool) (b4 : Int) (b0 : ByteArray) (b5 : Int) (b6 : Int) (b7 : Int) (b8 : Int) (b9 : Int) (c0 : Int) (a6 : Option Addr) (a8 : Nat) (a7 : Nat) (b1 : ByteArray) (a0 : ByteArray) (a5 : Int) (a4 : Bool) (a1 : Option Addr) (a3 : Nat) (a2 : Nat) (w : World), I m c6 a9 b3 b2 b4 b0 b5 b6 b7 b8 b9 c0 a6 a8 a7 b1 a0 a5 a4 a1 a3 a2 w → ref04_Get_L1 e2 e3 bm0 bm1 bm2 c6 a9 b3 b2 b4 b0 b5 b6 b7 b8 b9 c0 a6 a8 a7 b1 a0 a5 a4 a1 a3 a2 (ref04_Get_K1 e2 e3 bm0 bm1 bm2 I m) R w) :
 loopD3 ref04_Get_la1 (dnF Tryz.prog ref04_Get_an (code Tryz.f139) 393 [0, 0, 1, 0, 1, 1, 1, 1, 1]) (kont3 Tryz.prog ref04_Get_an (code Tryz.f139) [1, 1, 1, 1, 1, 0, 1, 0] [] (post3 Tryz.prog Tryz.f139 [] R)) (ref04_Get_v1 e2 e3 bm0 bm1 bm2 e4) (ref04_Get_m1 bm0 bm1 bm2 d1 d4 d3 d5 a0 d6 d7 d8 d9 e0 e1 c8 d0 c9 d2 c4 c7 c5 c1 c3 c2) w0 := by
 refine ⟨fun m vals mem w => ∃ c6 a9 b3 b2 b4 b0 b5 b6 b7 b8 b9 c0 a6 a8 a7 b1 a0 a5 a4 a1 a3 a2, vals = (ref04_Get_v1 e2 e3 bm0 bm1 bm2 c6) ∧ mem = (ref04_Get_m1 bm0 bm1 bm2 a9 b3 b2 b4 b0 b5 b6 b7 b8 b9 c0 a6 a8 a7 b1 a0 a5 a4 a1 a3 a2) ∧ I m c6 a9 b3 b2 b4 b0 b5 b6 b7 b8 b9 c0 a6 a8 a7 b1 a0 a5 a4 a1 a3 a2 w, m0, ⟨_, _, _, _, _, _, _, _, _, _, _, _, _, _, _, _, _, _, _, _, _, _, rfl, rfl, h0⟩, ?_⟩
 rintro m vals mem w ⟨c6, a9, b3, b2, b4, b0, b5, b6, b7, b8, b9, c0, a6, a8, a7, b1, a0, a5, a4, a1, a3, a2, rfl, rfl, hI⟩
 refine ⟨rfl, rfl, fun js => ?_⟩
 have h := hr m c6 a9 b3 b2 b4 b0 b5 b6 b7 b8 b9 c0 a6 a8 a7 b1 a0 a5 a4 a1 a3 a2 w hI
 rw [← ref04_Get_L1_eq _ _ _ _ _ _ _ _ _ _ _ _ _ _ _ _ _ _ _ _ _ _ _ _ _ _ _ _ js] at h
 exact h
def ref04_Get_T (a0 : ByteArray) (R : Value → World → Prop) (w : World) : Prop :=
 ∀ b1, w.heap.size ≤ b1 →
 ∀ b2, w.heap.size ≤ b2 →
 ∀ w3, Adv [] [b2, b1] w w3 → w3.heap[b2]? = some (.cells #[(.string a0), (.int .i64 0), (.bool false)] 224) →
 Calls Tryz.prog 158 #[(.pointer (some ⟨b2, 0, none⟩))] w3 fun e w4 => ∃ x5 : Int, e = .returned (.int .i64 x5) ∧ KeepE [b2] [(b1, 38)] [b1] w3 w4 ∧ ∃ s6 : ByteArray, ∃ x7 : Int, ∃ t8 : Bool, w4.heap[b2]? = some (.cells #[(.string s6), (.int .i64 x7), (.bool t8)] 224) ∧
 ∀ b9, w4.heap.size ≤ b9 →
 brB t8 (
 ∀ w10, Adv [b1] [b9] w4 w10 → w10.heap[b2]? = some (.cells #[(.string s6), (.int .i64 x7), (.bool t8)] 224) →
 R (.tuple #[(.agg #[(.int .i64 0), (.string ByteArray.empty), (.int .i64 0), (.int .i64 0), (.int .i64 0), (.int .i64 0), (.int .i64 0), (.int .i64 0), (.slice none 0 0), (.string ByteArray.empty), (.string ByteArray.empty), (.int .i64 0), (.bool false), (.slice none 0 0)]), (.int .i64 40)]) w10)
 (
 brB (decide (x5 > 12)) (
 ∀ w11, Adv [b1] [b9] w4 w11 → w11.heap[b2]? = some (.cells #[(.string s6), (.int .i64 x7), (.bool t8)] 224) →
 R (.tuple #[(.agg #[(.int .i64 0), (.string ByteArray.empty), (.int .i64 0), (.int .i64 0), (.int .i64 0), (.int .i64 0), (.int .i64 0), (.int .i64 0), (.slice none 0 0), (.string ByteArray.empty), (.string ByteArray.empty), (.int .i64 0), (.bool false), (.slice none 0 0)]), (.int .i64 40)]) w11)
 (
 ∀ w12, Adv [] [b9] w4 w12 → w12.heap[b2]? = some (.cells #[(.string s6), (.int .i64 x7), (.bool t8)] 224) →
 Calls Tryz.prog 105 #[(.int .i64 x5)] w12 fun e w13 => ∃ s14 : ByteArray, e = .returned (.string s14) ∧ KeepE [b2] [(b1, 38), (b9, 38)] [b1, b9] w12 w13 ∧ ∃ s15 : ByteArray, ∃ x16 : Int, ∃ t17 : Bool, w13.heap[b2]? = some (.cells #[(.string s15), (.int .i64 x16), (.bool t17)] 224) ∧
 loopD3 ref04_Get_la1 (dnF Tryz.prog ref04_Get_an (code Tryz.f139) 393 [0, 0, 1, 0, 1, 1, 1, 1, 1]) (kont3 Tryz.prog ref04_Get_an (code Tryz.f139) [1, 1, 1, 1, 1, 0, 1, 0] [] (post3 Tryz.prog Tryz.f139 [] R)) (ref04_Get_v1 a0 s14 b1 b2 b9 0) (ref04_Get_m1 b1 b2 b9 s15 x16 t17 x5 ByteArray.empty 0 0 0 0 0 0 none 0 0 ByteArray.empty ByteArray.empty 0 false none 0 0) w13))
theorem ref04_Get_eq (a0 : ByteArray) (R : Value → World → Prop) (w : World) :
 dnF Tryz.prog ref04_Get_an (code Tryz.f139) 400 [] (post3 Tryz.prog Tryz.f139 [] R) ⟨args0 0 [(.string a0)], fun _ => undef⟩ ⟨[], w, [], [], true⟩ = ref04_Get_T a0 R w := by kernel_rfl
theorem ref04_Get_go {a0 : ByteArray} {R : Value → World → Prop} {w : World} (h : ref04_Get_T a0 R w) :
 Calls Tryz.prog 139 #[(.string a0)] w fun e w' => ∃ v, e = .returned v ∧ R v w' :=
 calls_none Tryz.wide_mixed (f := 139) (args := [(.string a0)]) Tryz.func139 rfl rfl (by kernel_rfl) rfl (Eq.mpr (ref04_Get_eq a0 R w) h)
def ref16_Text_la1 : LA := ⟨[0, 0, 1, 0, 1, 1, 1, 1, 1], [0, 5, 6], [], 0, []⟩
def ref16_Text_an : List LA := [ref16_Text_la1]
def ref16_Text_v1 (a0 : Option Addr) (a2 : Nat) (a1 : Nat) (a3 : ByteArray) (a4 : Int) : List Value := [(.slice a0 a2 a1), (.string a3), (.int .i64 a4)]
def ref16_Text_m1 : List TB := []
def ref16_Text_L1 (a2 : Option Addr) (a0 : Nat) (a4 : Nat) (a3 : ByteArray) (a1 : Int) (K1 : Kh) (R : Value → World → Prop) (w : World) : Prop :=
 brB (decide (a1 < (a0 : Int))) (
 ixA a2 a0 a1 16 fun q5 =>
 ldInt .i64 w (Addr.add q5 2) fun x6 => ldStr w (Addr.add (Addr.add q5 2) 1) fun s7 => ldInt .i64 w (Addr.add (Addr.add q5 2) 2) fun x8 => ldInt .i64 w (Addr.add (Addr.add q5 2) 3) fun x9 => ldInt .i64 w (Addr.add (Addr.add q5 2) 4) fun x10 => ldInt .i64 w (Addr.add (Addr.add q5 2) 5) fun x11 => ldInt .i64 w (Addr.add (Addr.add q5 2) 6) fun x12 => ldInt .i64 w (Addr.add (Addr.add q5 2) 7) fun x13 => ldSlice w (Addr.add (Addr.add q5 2) 8) fun a14 n15 c16 => ldStr w (Addr.add (Addr.add q5 2) 9) fun s17 => ldStr w (Addr.add (Addr.add q5 2) 10) fun s18 => ldInt .i64 w (Addr.add (Addr.add q5 2) 11) fun x19 => ldBool w (Addr.add (Addr.add q5 2) 12) fun t20 => ldSlice w (Addr.add (Addr.add q5 2) 13) fun a21 n22 c23 =>
 Calls Tryz.prog 84 #[(.agg #[(.int .i64 x6), (.string s7), (.int .i64 x8), (.int .i64 x9), (.int .i64 x10), (.int .i64 x11), (.int .i64 x12), (.int .i64 x13), (.slice a14 n15 c16), (.string s17), (.string s18), (.int .i64 x19), (.bool t20), (.slice a21 n22 c23)])] w fun e w24 => ∃ s25 : ByteArray, ∃ x26 : Int, e = .returned (.tuple #[(.string s25), (.int .i64 x26)]) ∧
 ixA a2 a0 a1 16 fun q27 =>
 ∀ w28, Adv [] [] w24 w28 →
 ldInt .i64 w28 q27 fun x29 =>
 ixA a2 a0 a1 16 fun q30 =>
 ldInt .i64 w28 (Addr.add q30 1) fun x31 =>
 Calls Tryz.prog 83 #[(.int .u64 (IntKind.wrap .u64 x29))] w28 fun e w32 => ∃ s33 : ByteArray, e = .returned (.string s33) ∧ (ldInt .i64 w32 (Addr.add q30 1) fun x34 => ((.int .i64 x34) : Value) = (.int .i64 x31)) ∧
 Calls Tryz.prog 83 #[(.int .u64 (IntKind.wrap .u64 x31))] w32 fun e w35 => ∃ s36 : ByteArray, e = .returned (.string s36) ∧
 catS s33 s36 fun s37 =>
 Calls Tryz.prog 86 #[(.string s25)] w35 fun e w38 => ∃ s39 : ByteArray, e = .returned (.string s39) ∧
 catS s37 s39 fun s40 =>
 Calls Tryz.prog 85 #[(.string s40)] w38 fun e w41 => ∃ s42 : ByteArray, e = .returned (.string s42) ∧
 catS a3 s42 fun s43 =>
 K1 (ref16_Text_v1 a2 a0 a4 s43 (IntKind.wrap .i64 (a1 + 1))) (ref16_Text_m1) w41)
 (
 R (.tuple #[(.string a3), (.int .i64 0)]) w)
theorem ref16_Text_L1_eq (a0 : Option Addr) (a2 : Nat) (a1 : Nat) (a3 : ByteArray) (a4 : Int) (K1 : Kh) (js : Nat → Value) (R : Value → World → Prop) (w : World) :
 headA ref16_Text_la1 ((dnF Tryz.prog ref16_Text_an (code Tryz.f32) 393 [0, 0, 1, 0, 1, 1, 1, 1, 1]) (kthen3 (atA ref16_Text_la1 K1) (kont3 Tryz.prog ref16_Text_an (code Tryz.f32) [1, 1, 1, 1, 1, 0, 1, 0] [] (post3 Tryz.prog Tryz.f32 [] R)))) (ref16_Text_v1 a0 a2 a1 a3 a4) js (ref16_Text_m1) w = ref16_Text_L1 a0 a2 a1 a3 a4 K1 R w := by kernel_rfl
def ref16_Text_K1 (a2 : Option Addr) (a4 : Nat) (a3 : Nat) (I : Nat → ByteArray → Int → World → Prop) (m : Nat) (vals : List Value) (mem : List TB) (w : World) : Prop := ∃ m', m' < m ∧ ∃ a0 a1, vals = (ref16_Text_v1 a2 a4 a3 a0 a1) ∧ mem = (ref16_Text_m1) ∧ I m' a0 a1 w
theorem ref16_Text_leaf1 {a0 : Option Addr} {a2 : Nat} {a1 : Nat} {I : Nat → ByteArray → Int → World → Prop} {m : Nat} {a3 : ByteArray} {a4 : Int} {w : World} (m' : Nat) (h1 : m' < m) (h2 : I m' a3 a4 w) : ref16_Text_K1 a0 a2 a1 I m (ref16_Text_v1 a0 a2 a1 a3 a4) (ref16_Text_m1) w := ⟨m', h1, _, _, rfl, rfl, h2⟩
theorem ref16_Text_rule1 {a2 : Option Addr} {a4 : Nat} {a3 : Nat} {a5 : ByteArray} {a6 : Int} {R : Value → World → Prop} {w0 : World} (I : Nat → ByteArray → Int → World → Prop) (m0 : Nat) (h0 : I m0 a5 a6 w0)
 (hr : ∀ (m : Nat) (a0 : ByteArray) (a1 : Int) (w : World), I m a0 a1 w → ref16_Text_L1 a2 a4 a3 a0 a1 (ref16_Text_K1 a2 a4 a3 I m) R w) :
 loopD3 ref16_Text_la1 (dnF Tryz.prog ref16_Text_an (code Tryz.f32) 393 [0, 0, 1, 0, 1, 1, 1, 1, 1]) (kont3 Tryz.prog ref16_Text_an (code Tryz.f32) [1, 1, 1, 1, 1, 0, 1, 0] [] (post3 Tryz.prog Tryz.f32 [] R)) (ref16_Text_v1 a2 a4 a3 a5 a6) (ref16_Text_m1) w0 := by
 refine ⟨fun m vals mem w => ∃ a0 a1, vals = (ref16_Text_v1 a2 a4 a3 a0 a1) ∧ mem = (ref16_Text_m1) ∧ I m a0 a1 w, m0, ⟨_, _, rfl, rfl, h0⟩, ?_⟩
 rintro m vals mem w ⟨a0, a1, rfl, rfl, hI⟩
 refine ⟨rfl, rfl, fun js => ?_⟩
 have h := hr m a0 a1 w hI
 rw [← ref16_Text_L1_eq _ _ _ _ _ _ js] at h
 exact h
def ref16_Text_T (a1 : Option Addr) (a0 : Nat) (a2 : Nat) (R : Value → World → Prop) (w : World) : Prop :=
 brB (decide ((a0 : Int) > 4096)) (
 R (.tuple #[(.string (⟨#[]⟩ : ByteArray)), (.int .i64 2)]) w)
 (
 Calls Tryz.prog 82 #[(.slice a1 a0 a2)] w fun e w1 => ∃ x2 : Int, e = .returned (.int .i64 x2) ∧
 brB (x2 != 0) (
 R (.tuple #[(.string (⟨#[]⟩ : ByteArray)), (.int .i64 x2)]) w1)
 (
 Calls Tryz.prog 83 #[(.int .u64 (IntKind.wrap .u64 (a0 : Int)))] w1 fun e w3 => ∃ s4 : ByteArray, e = .returned (.string s4) ∧
 loopD3 ref16_Text_la1 (dnF Tryz.prog ref16_Text_an (code Tryz.f32) 393 [0, 0, 1, 0, 1, 1, 1, 1, 1]) (kont3 Tryz.prog ref16_Text_an (code Tryz.f32) [1, 1, 1, 1, 1, 0, 1, 0] [] (post3 Tryz.prog Tryz.f32 [] R)) (ref16_Text_v1 a1 a0 a2 s4 0) (ref16_Text_m1) w3))
theorem ref16_Text_eq (a0 : Option Addr) (a2 : Nat) (a1 : Nat) (R : Value → World → Prop) (w : World) :
 dnF Tryz.prog ref16_Text_an (code Tryz.f32) 400 [] (post3 Tryz.prog Tryz.f32 [] R) ⟨args0 0 [(.slice a0 a2 a1)], fun _ => undef⟩ ⟨[], w, [], [], true⟩ = ref16_Text_T a0 a2 a1 R w := by kernel_rfl
theorem ref16_Text_go {a0 : Option Addr} {a2 : Nat} {a1 : Nat} {R : Value → World → Prop} {w : World} (h : ref16_Text_T a0 a2 a1 R w) :
 Calls Tryz.prog 32 #[(.slice a0 a2 a1)] w fun e w' => ∃ v, e = .returned v ∧ R v w' :=
 calls_none Tryz.wide_mixed (f := 32) (args := [(.slice a0 a2 a1)]) Tryz.func32 rfl rfl (by kernel_rfl) rfl (Eq.mpr (ref16_Text_eq a0 a2 a1 R w) h)
def ref16_one_an : List LA := []
def ref16_one_T (a0 : ByteArray) (R : Value → World → Prop) (w : World) : Prop :=
 ∀ b1, w.heap.size ≤ b1 →
 ∀ w2, Adv [] [b1] w w2 →
 Calls Tryz.prog 90 #[(.string a0), (.int .i64 0)] w2 fun e w3 => ∃ x4 : Int, ∃ x5 : Int, ∃ x6 : Int, e = .returned (.tuple #[(.int .u64 x4), (.int .i64 x5), (.int .i64 x6)]) ∧ Keep [b1] w2 w3 ∧
 brB (x6 != 0) (
 ∀ w7, Adv [b1] [] w3 w7 →
 R (.tuple #[(.agg #[(.int .i64 0), (.int .i64 0), (.int .i64 0), (.string ByteArray.empty), (.int .i64 0), (.int .i64 0), (.int .i64 0), (.int .i64 0), (.int .i64 0), (.int .i64 0), (.slice none 0 0), (.string ByteArray.empty), (.string ByteArray.empty), (.int .i64 0), (.bool false), (.slice none 0 0)]), (.bool false)]) w7)
 (
 brB (decide (x4 > 1099511627776)) (
 ∀ w8, Adv [b1] [] w3 w8 →
 R (.tuple #[(.agg #[(.int .i64 0), (.int .i64 0), (.int .i64 0), (.string ByteArray.empty), (.int .i64 0), (.int .i64 0), (.int .i64 0), (.int .i64 0), (.int .i64 0), (.int .i64 0), (.slice none 0 0), (.string ByteArray.empty), (.string ByteArray.empty), (.int .i64 0), (.bool false), (.slice none 0 0)]), (.bool false)]) w8)
 (
 Calls Tryz.prog 90 #[(.string a0), (.int .i64 x5)] w3 fun e w9 => ∃ x10 : Int, ∃ x11 : Int, ∃ x12 : Int, e = .returned (.tuple #[(.int .u64 x10), (.int .i64 x11), (.int .i64 x12)]) ∧ Keep [b1] w3 w9 ∧
 brB (x12 != 0) (
 ∀ w13, Adv [b1] [] w9 w13 →
 R (.tuple #[(.agg #[(.int .i64 0), (.int .i64 0), (.int .i64 0), (.string ByteArray.empty), (.int .i64 0), (.int .i64 0), (.int .i64 0), (.int .i64 0), (.int .i64 0), (.int .i64 0), (.slice none 0 0), (.string ByteArray.empty), (.string ByteArray.empty), (.int .i64 0), (.bool false), (.slice none 0 0)]), (.bool false)]) w13)
 (
 brB (decide (x10 > 1099511627776)) (
 ∀ w14, Adv [b1] [] w9 w14 →
 R (.tuple #[(.agg #[(.int .i64 0), (.int .i64 0), (.int .i64 0), (.string ByteArray.empty), (.int .i64 0), (.int .i64 0), (.int .i64 0), (.int .i64 0), (.int .i64 0), (.int .i64 0), (.slice none 0 0), (.string ByteArray.empty), (.string ByteArray.empty), (.int .i64 0), (.bool false), (.slice none 0 0)]), (.bool false)]) w14)
 (
 Calls Tryz.prog 138 #[(.string a0), (.int .i64 x11), (.int .i64 65536)] w9 fun e w15 => ∃ s16 : ByteArray, ∃ x17 : Int, ∃ x18 : Int, e = .returned (.tuple #[(.string s16), (.int .i64 x17), (.int .i64 x18)]) ∧ Keep [b1] w9 w15 ∧
 Calls Tryz.prog 139 #[(.string s16)] w15 fun e w19 => ∃ x20 : Int, ∃ s21 : ByteArray, ∃ x22 : Int, ∃ x23 : Int, ∃ x24 : Int, ∃ x25 : Int, ∃ x26 : Int, ∃ x27 : Int, ∃ (a28 : Option Addr) (n29 c30 : Nat), ∃ s31 : ByteArray, ∃ s32 : ByteArray, ∃ x33 : Int, ∃ t34 : Bool, ∃ (a35 : Option Addr) (n36 c37 : Nat), ∃ x38 : Int, e = .returned (.tuple #[(.agg #[(.int .i64 x20), (.string s21), (.int .i64 x22), (.int .i64 x23), (.int .i64 x24), (.int .i64 x25), (.int .i64 x26), (.int .i64 x27), (.slice a28 n29 c30), (.string s31), (.string s32), (.int .i64 x33), (.bool t34), (.slice a35 n36 c37)]), (.int .i64 x38)]) ∧ Keep [b1] w15 w19 ∧
 ∀ b39, w19.heap.size ≤ b39 →
 brB (x18 == 0) (
 brB (x38 == 0) (
 ∀ w40, Adv [b1] [b39] w19 w40 →
 R (.tuple #[(.agg #[(.int .i64 (IntKind.wrap .i64 x4)), (.int .i64 (IntKind.wrap .i64 x10)), (.int .i64 x20), (.string s21), (.int .i64 x22), (.int .i64 x23), (.int .i64 x24), (.int .i64 x25), (.int .i64 x26), (.int .i64 x27), (.slice a28 n29 c30), (.string s31), (.string s32), (.int .i64 x33), (.bool t34), (.slice a35 n36 c37)]), (.bool (x17 == (a0.size : Int)))]) w40)
 (
 ∀ w41, Adv [b1] [b39] w19 w41 →
 R (.tuple #[(.agg #[(.int .i64 (IntKind.wrap .i64 x4)), (.int .i64 (IntKind.wrap .i64 x10)), (.int .i64 x20), (.string s21), (.int .i64 x22), (.int .i64 x23), (.int .i64 x24), (.int .i64 x25), (.int .i64 x26), (.int .i64 x27), (.slice a28 n29 c30), (.string s31), (.string s32), (.int .i64 x33), (.bool t34), (.slice a35 n36 c37)]), (.bool false)]) w41))
 (
 ∀ w42, Adv [b1] [b39] w19 w42 →
 R (.tuple #[(.agg #[(.int .i64 (IntKind.wrap .i64 x4)), (.int .i64 (IntKind.wrap .i64 x10)), (.int .i64 x20), (.string s21), (.int .i64 x22), (.int .i64 x23), (.int .i64 x24), (.int .i64 x25), (.int .i64 x26), (.int .i64 x27), (.slice a28 n29 c30), (.string s31), (.string s32), (.int .i64 x33), (.bool t34), (.slice a35 n36 c37)]), (.bool false)]) w42)))))
theorem ref16_one_eq (a0 : ByteArray) (R : Value → World → Prop) (w : World) :
 dnF Tryz.prog ref16_one_an (code Tryz.f92) 400 [] (post3 Tryz.prog Tryz.f92 [] R) ⟨args0 0 [(.string a0)], fun _ => undef⟩ ⟨[], w, [], [], true⟩ = ref16_one_T a0 R w := by kernel_rfl
theorem ref16_one_go {a0 : ByteArray} {R : Value → World → Prop} {w : World} (h : ref16_one_T a0 R w) :
 Calls Tryz.prog 92 #[(.string a0)] w fun e w' => ∃ v, e = .returned v ∧ R v w' :=
 calls_none Tryz.wide_mixed (f := 92) (args := [(.string a0)]) Tryz.func92 rfl rfl (by kernel_rfl) rfl (Eq.mpr (ref16_one_eq a0 R w) h)
def ref16_Parse_la1 : LA := ⟨[0, 0, 1, 0, 1, 1, 1, 1], [0, 4, 5, 7, 8], [], 0, []⟩
def ref16_Parse_an : List LA := [ref16_Parse_la1]
def ref16_Parse_v1 (a3 : ByteArray) (a4 : Int) (a5 : Int) (a0 : Option Addr) (a2 : Nat) (a1 : Nat) (a6 : Int) : List Value := [(.string a3), (.int .u64 a4), (.int .i64 a5), (.slice a0 a2 a1), (.int .i64 a6)]
def ref16_Parse_m1 : List TB := []
def ref16_Parse_L1 (a3 : ByteArray) (a4 : Int) (a6 : Int) (a0 : Option Addr) (a2 : Nat) (a1 : Nat) (a5 : Int) (K1 : Kh) (R : Value → World → Prop) (w : World) : Prop :=
 brB (decide (a5 < (IntKind.wrap .i64 a4))) (
 Calls Tryz.prog 91 #[(.string a3), (.int .i64 a6), (.int .i64 65536)] w fun e w7 => ∃ s8 : ByteArray, ∃ x9 : Int, ∃ x10 : Int, e = .returned (.tuple #[(.string s8), (.int .i64 x9), (.int .i64 x10)]) ∧
 Calls Tryz.prog 92 #[(.string s8)] w7 fun e w11 => ∃ x12 : Int, ∃ x13 : Int, ∃ x14 : Int, ∃ s15 : ByteArray, ∃ x16 : Int, ∃ x17 : Int, ∃ x18 : Int, ∃ x19 : Int, ∃ x20 : Int, ∃ x21 : Int, ∃ (a22 : Option Addr) (n23 c24 : Nat), ∃ s25 : ByteArray, ∃ s26 : ByteArray, ∃ x27 : Int, ∃ t28 : Bool, ∃ (a29 : Option Addr) (n30 c31 : Nat), ∃ t32 : Bool, e = .returned (.tuple #[(.agg #[(.int .i64 x12), (.int .i64 x13), (.int .i64 x14), (.string s15), (.int .i64 x16), (.int .i64 x17), (.int .i64 x18), (.int .i64 x19), (.int .i64 x20), (.int .i64 x21), (.slice a22 n23 c24), (.string s25), (.string s26), (.int .i64 x27), (.bool t28), (.slice a29 n30 c31)]), (.bool t32)]) ∧
 ∀ b33, w11.heap.size ≤ b33 →
 brB (x10 != 0) (
 ∀ w34, Adv [] [b33] w11 w34 →
 R (.tuple #[(.slice none 0 0), (.int .i64 162)]) w34)
 (
 brB (!t32) (
 ∀ w35, Adv [] [b33] w11 w35 →
 R (.tuple #[(.slice none 0 0), (.int .i64 162)]) w35)
 (
 ∀ w36, Adv [] [b33] w11 w36 →
 al w36 (.cells #[(.int .i64 x12), (.int .i64 x13), (.int .i64 x14), (.string s15), (.int .i64 x16), (.int .i64 x17), (.int .i64 x18), (.int .i64 x19), (.int .i64 x20), (.int .i64 x21), (.slice a22 n23 c24), (.string s25), (.string s26), (.int .i64 x27), (.bool t28), (.slice a29 n30 c31)] 57) fun b37 w38 =>
 effSl Tryz.prog (Builtin.append_ #[39, 39] 39 #[(.slice a0 a2 a1), (.slice (some ⟨b37, 0, none⟩) 1 1)]) w38 fun a40 n41 c42 w39 => Keep [b33] w38 w39 ∧
 K1 (ref16_Parse_v1 a3 a4 x9 a40 n41 c42 (IntKind.wrap .i64 (a5 + 1))) (ref16_Parse_m1) w39)))
 (
 Calls Tryz.prog 32 #[(.slice a0 a2 a1)] w fun e w43 => ∃ s44 : ByteArray, ∃ x45 : Int, e = .returned (.tuple #[(.string s44), (.int .i64 x45)]) ∧
 brB (x45 != 0) (
 R (.tuple #[(.slice none 0 0), (.int .i64 162)]) w43)
 (
 brB (!(s44.toList == a3.toList)) (
 R (.tuple #[(.slice none 0 0), (.int .i64 162)]) w43)
 (
 R (.tuple #[(.slice a0 a2 a1), (.int .i64 0)]) w43)))
theorem ref16_Parse_L1_eq (a3 : ByteArray) (a4 : Int) (a5 : Int) (a0 : Option Addr) (a2 : Nat) (a1 : Nat) (a6 : Int) (K1 : Kh) (js : Nat → Value) (R : Value → World → Prop) (w : World) :
 headA ref16_Parse_la1 ((dnF Tryz.prog ref16_Parse_an (code Tryz.f34) 394 [0, 0, 1, 0, 1, 1, 1, 1]) (kthen3 (atA ref16_Parse_la1 K1) (kont3 Tryz.prog ref16_Parse_an (code Tryz.f34) [1, 1, 1, 1, 0, 1, 0] [] (post3 Tryz.prog Tryz.f34 [] R)))) (ref16_Parse_v1 a3 a4 a5 a0 a2 a1 a6) js (ref16_Parse_m1) w = ref16_Parse_L1 a3 a4 a5 a0 a2 a1 a6 K1 R w := by kernel_rfl
def ref16_Parse_K1 (a5 : ByteArray) (a6 : Int) (I : Nat → Int → Option Addr → Nat → Nat → Int → World → Prop) (m : Nat) (vals : List Value) (mem : List TB) (w : World) : Prop := ∃ m', m' < m ∧ ∃ a3 a0 a2 a1 a4, vals = (ref16_Parse_v1 a5 a6 a3 a0 a2 a1 a4) ∧ mem = (ref16_Parse_m1) ∧ I m' a3 a0 a2 a1 a4 w
theorem ref16_Parse_leaf1 {a3 : ByteArray} {a4 : Int} {I : Nat → Int → Option Addr → Nat → Nat → Int → World → Prop} {m : Nat} {a5 : Int} {a0 : Option Addr} {a2 : Nat} {a1 : Nat} {a6 : Int} {w : World} (m' : Nat) (h1 : m' < m) (h2 : I m' a5 a0 a2 a1 a6 w) : ref16_Parse_K1 a3 a4 I m (ref16_Parse_v1 a3 a4 a5 a0 a2 a1 a6) (ref16_Parse_m1) w := ⟨m', h1, _, _, _, _, _, rfl, rfl, h2⟩
theorem ref16_Parse_rule1 {a5 : ByteArray} {a6 : Int} {b0 : Int} {a7 : Option Addr} {a9 : Nat} {a8 : Nat} {b1 : Int} {R : Value → World → Prop} {w0 : World} (I : Nat → Int → Option Addr → Nat → Nat → Int → World → Prop) (m0 : Nat) (h0 : I m0 b0 a7 a9 a8 b1 w0)
 (hr : ∀ (m : Nat) (a3 : Int) (a0 : Option Addr) (a2 : Nat) (a1 : Nat) (a4 : Int) (w : World), I m a3 a0 a2 a1 a4 w → ref16_Parse_L1 a5 a6 a3 a0 a2 a1 a4 (ref16_Parse_K1 a5 a6 I m) R w) :
 loopD3 ref16_Parse_la1 (dnF Tryz.prog ref16_Parse_an (code Tryz.f34) 394 [0, 0, 1, 0, 1, 1, 1, 1]) (kont3 Tryz.prog ref16_Parse_an (code Tryz.f34) [1, 1, 1, 1, 0, 1, 0] [] (post3 Tryz.prog Tryz.f34 [] R)) (ref16_Parse_v1 a5 a6 b0 a7 a9 a8 b1) (ref16_Parse_m1) w0 := by
 refine ⟨fun m vals mem w => ∃ a3 a0 a2 a1 a4, vals = (ref16_Parse_v1 a5 a6 a3 a0 a2 a1 a4) ∧ mem = (ref16_Parse_m1) ∧ I m a3 a0 a2 a1 a4 w, m0, ⟨_, _, _, _, _, rfl, rfl, h0⟩, ?_⟩
 rintro m vals mem w ⟨a3, a0, a2, a1, a4, rfl, rfl, hI⟩
 refine ⟨rfl, rfl, fun js => ?_⟩
 have h := hr m a3 a0 a2 a1 a4 w hI
 rw [← ref16_Parse_L1_eq _ _ _ _ _ _ _ _ js] at h
 exact h
def ref16_Parse_T (a0 : ByteArray) (R : Value → World → Prop) (w : World) : Prop :=
 Calls Tryz.prog 90 #[(.string a0), (.int .i64 0)] w fun e w1 => ∃ x2 : Int, ∃ x3 : Int, ∃ x4 : Int, e = .returned (.tuple #[(.int .u64 x2), (.int .i64 x3), (.int .i64 x4)]) ∧
 brB (x4 != 0) (
 R (.tuple #[(.slice none 0 0), (.int .i64 162)]) w1)
 (
 brB (decide (x2 > 4096)) (
 R (.tuple #[(.slice none 0 0), (.int .i64 162)]) w1)
 (
 al w1 (.cells #[] 57) fun b5 w6 =>
 loopD3 ref16_Parse_la1 (dnF Tryz.prog ref16_Parse_an (code Tryz.f34) 394 [0, 0, 1, 0, 1, 1, 1, 1]) (kont3 Tryz.prog ref16_Parse_an (code Tryz.f34) [1, 1, 1, 1, 0, 1, 0] [] (post3 Tryz.prog Tryz.f34 [] R)) (ref16_Parse_v1 a0 x2 x3 (some ⟨b5, 0, none⟩) 0 0 0) (ref16_Parse_m1) w6))
theorem ref16_Parse_eq (a0 : ByteArray) (R : Value → World → Prop) (w : World) :
 dnF Tryz.prog ref16_Parse_an (code Tryz.f34) 400 [] (post3 Tryz.prog Tryz.f34 [] R) ⟨args0 0 [(.string a0)], fun _ => undef⟩ ⟨[], w, [], [], true⟩ = ref16_Parse_T a0 R w := by kernel_rfl
theorem ref16_Parse_go {a0 : ByteArray} {R : Value → World → Prop} {w : World} (h : ref16_Parse_T a0 R w) :
 Calls Tryz.prog 34 #[(.string a0)] w fun e w' => ∃ v, e = .returned v ∧ R v w' :=
 calls_none Tryz.wide_mixed (f := 34) (args := [(.string a0)]) Tryz.func34 rfl rfl (by kernel_rfl) rfl (Eq.mpr (ref16_Parse_eq a0 R w) h)
def law16_OplogTexts_an : List LA := []
def law16_OplogTexts_T (a1 : Option Addr) (a4 : Nat) (a3 : Nat) (a5 : Option Addr) (a8 : Nat) (a7 : Nat) (a0 : ByteArray) (R : Value → World → Prop) (w : World) : Prop :=
 Calls Tryz.prog 30 #[(.slice a1 a4 a3)] w fun e w1 => ∃ (a2 : Option Addr) (n3 c4 : Nat), e = .returned (.slice a2 n3 c4) ∧
 Calls Tryz.prog 30 #[(.slice a5 a8 a7)] w1 fun e w5 => ∃ (a6 : Option Addr) (n7 c8 : Nat), e = .returned (.slice a6 n7 c8) ∧
 slS a0 0 (if 1500 < (a0.size : Int) then 1500 else (a0.size : Int)) fun s9 =>
 Calls Tryz.prog 31 #[(.slice a2 n3 c4)] w5 fun e w10 => ∃ s11 : ByteArray, ∃ x12 : Int, e = .returned (.tuple #[(.string s11), (.int .i64 x12)]) ∧
 Calls Tryz.prog 32 #[(.slice a2 n3 c4)] w10 fun e w13 => ∃ s14 : ByteArray, ∃ x15 : Int, e = .returned (.tuple #[(.string s14), (.int .i64 x15)]) ∧
 Calls Tryz.prog 33 #[(.string s9)] w13 fun e w16 => ∃ (a17 : Option Addr) (n18 c19 : Nat), ∃ x20 : Int, e = .returned (.tuple #[(.slice a17 n18 c19), (.int .i64 x20)]) ∧
 Calls Tryz.prog 34 #[(.string s9)] w16 fun e w21 => ∃ (a22 : Option Addr) (n23 c24 : Nat), ∃ x25 : Int, e = .returned (.tuple #[(.slice a22 n23 c24), (.int .i64 x25)]) ∧
 brB (s11.toList == s14.toList) (
 brB (x12 == x15) (
 Calls Tryz.prog 28 #[(.slice a17 n18 c19), (.slice a22 n23 c24)] w21 fun e w26 => ∃ t27 : Bool, e = .returned (.bool t27) ∧
 brB t27 (
 brB (x20 == x25) (
 Calls Tryz.prog 35 #[(.slice a2 n3 c4), (.slice a6 n7 c8)] w26 fun e w28 => ∃ t29 : Bool, e = .returned (.bool t29) ∧
 Calls Tryz.prog 28 #[(.slice a2 n3 c4), (.slice a6 n7 c8)] w28 fun e w30 => ∃ t31 : Bool, e = .returned (.bool t31) ∧
 brB (t29 == t31) (
 Calls Tryz.prog 36 #[] w30 fun e w32 => ∃ t33 : Bool, e = .returned (.bool t33) ∧
 R (.bool t33) w32)
 (
 R (.bool false) w30))
 (
 R (.bool false) w26))
 (
 R (.bool false) w26))
 (
 R (.bool false) w21))
 (
 R (.bool false) w21)
theorem law16_OplogTexts_eq (a0 : Option Addr) (a2 : Nat) (a1 : Nat) (a3 : Option Addr) (a5 : Nat) (a4 : Nat) (a6 : ByteArray) (R : Value → World → Prop) (w : World) :
 dnF Tryz.prog law16_OplogTexts_an (code Tryz.f4) 400 [] (post3 Tryz.prog Tryz.f4 [] R) ⟨args0 0 [(.slice a0 a2 a1), (.slice a3 a5 a4), (.string a6)], fun _ => undef⟩ ⟨[], w, [], [], true⟩ = law16_OplogTexts_T a0 a2 a1 a3 a5 a4 a6 R w := by kernel_rfl
theorem law16_OplogTexts_go {a0 : Option Addr} {a2 : Nat} {a1 : Nat} {a3 : Option Addr} {a5 : Nat} {a4 : Nat} {a6 : ByteArray} {R : Value → World → Prop} {w : World} (h : law16_OplogTexts_T a0 a2 a1 a3 a5 a4 a6 R w) :
 Calls Tryz.prog 4 #[(.slice a0 a2 a1), (.slice a3 a5 a4), (.string a6)] w fun e w' => ∃ v, e = .returned v ∧ R v w' :=
 calls_none Tryz.wide_mixed (f := 4) (args := [(.slice a0 a2 a1), (.slice a3 a5 a4), (.string a6)]) Tryz.func4 rfl rfl (by kernel_rfl) rfl (Eq.mpr (law16_OplogTexts_eq a0 a2 a1 a3 a5 a4 a6 R w) h)

end Go.Proofs.YtohgihgddknmmaaGreat

/- The reference's bytes of records, batches, commands, calls. -/
namespace Go.Proofs.YtohgihgddknmmaaGreat
open Go Go.RowKit
set_option linter.unusedVariables false
set_option linter.unusedSimpArgs false

theorem R3Text_ok (r : PRec) (hr : recE r = 0) (w : World) : Calls Tryz.prog 149 #[r.v] w fun e w' => e = .returned (.string (bs (recB r))) ∧ Mod [] w w' := by
  obtain ⟨hk, hv⟩ := recE_small hr
  obtain ⟨k, key, t, val⟩ := r
  refine go_of (ref03_Text_go ?_)
  intro b1 f1
  have hkt : t = true → k = true ∧ val.size = 0 := fun h => by
    subst h
    unfold recE recN at hr
    split at hr
    · omega
    · rename_i h; simp at h; cases k <;> simp_all
  have cat1 : ∀ (x : UInt8) (s : ByteArray), s.size ≤ 1000 → (⟨#[x]⟩ : ByteArray).size + (bs (putT s)).size ≤ 9223372036854775807 := fun x s hs => by
    have := (putT_len s (by omega)).2
    rw [bs_size]; show 1 + _ ≤ _; omega
  have one : ∀ (x : UInt8) (l : List UInt8), (⟨#[x]⟩ : ByteArray) ++ bs l = bs (x :: l) := fun x l => bs_app [x] l
  refine brB_of (fun g => ?_) fun g => ?_
  · obtain ⟨rfl, _⟩ := hkt g
    have g : t = true := g
    subst g
    intro w2 A2
    refine (R1Text_ok key (by simp at hk; omega) w2).mono ?_
    rintro e w3 ⟨rfl, M3⟩
    refine ⟨_, rfl, Keep.of0 M3, cat1 _ _ (by simp at hk; omega), ?_, A2.mod.go0 M3 (by simp)⟩
    rw [one]; simp [recB, kindB]
  · have g : t = false := g
    subst g
    refine brB_of (fun g2 => ?_) fun g2 => ?_
    · have g2 : k = true := g2
      subst g2
      intro w2 A2
      refine (R1Text_ok key (by simp at hk; omega) w2).mono ?_
      rintro e w3 ⟨rfl, M3⟩
      refine ⟨_, rfl, Keep.of0 M3, rfl, cat1 _ _ (by simp at hk; omega), ?_⟩
      refine (R1Text_ok val (by simp at hv; omega) w3).mono ?_
      rintro e w4 ⟨rfl, M4⟩
      have l1 := (putT_len key (by simp at hk; omega)).2
      have l2 := (putT_len val (by simp at hv; omega)).2
      refine ⟨_, rfl, Keep.of0 M4, by rw [one, bs_size, bs_size, List.length_cons]; simp at hk hv; omega, ?_, (A2.mod.go0 M3 (by simp)).go0 M4 (by simp)⟩
      rw [one, bs_app]; simp [recB, kindB]
    · have g2 : k = false := g2
      subst g2
      intro w2 A2
      refine (R1Text_ok val (by simp at hv; omega) w2).mono ?_
      rintro e w3 ⟨rfl, M3⟩
      refine ⟨_, rfl, Keep.of0 M3, cat1 _ _ (by simp at hv; omega), ?_, A2.mod.go0 M3 (by simp)⟩
      rw [one]; simp [recB, kindB]
theorem R3Batch_ok {w : World} {b : PBatch} {rs : Sl} (h : SlAt w 4 encR rs.a rs.n b.recs) :
    Calls Tryz.prog 155 #[b.v rs] w fun e w' => e = .returned (.tuple #[.string (if batchE b = 0 then bs (batchB b) else bs []), .int .i64 (batchE b)]) ∧ Mod [] w w' := by
  refine go_of (ref03_Batch_go ?_)
  have hn := h.1
  intro b1 f1 w2 A2
  refine (AllR3_ok (b := b) (rs := rs) (h.keep0 A2.mod)).mono ?_
  rintro e w3 ⟨rfl, M3⟩
  have N3 := A2.mod.go0 M3 (by simp)
  refine ⟨_, rfl, Keep.of0 M3, brB_of (fun g1 => ?_) fun g1 => ?_⟩
  · have g : ¬ batchE b = 0 := by simpa using g1
    rw [if_neg g]; exact ⟨rfl, N3⟩
  have g : batchE b = 0 := by simpa using g1
  have G := BatGood.of g
  obtain ⟨p1, p2, e1, e2, q1, q2⟩ := G.hd
  have hlr := G.lr
  rw [if_pos g, g]
  obtain ⟨pN, hp⟩ := Int.eq_ofNat_of_zero_le p1
  obtain ⟨eN, he⟩ := Int.eq_ofNat_of_zero_le e1
  obtain ⟨sN, hq⟩ := Int.eq_ofNat_of_zero_le q1
  intro w5 A5
  rw [hp, he, hq, wrapU (by omega), wrapU (by omega), wrapU (by omega), wrapU (by omega)]
  have v1 := (vPutL_len pN (by omega)).2
  have v2 := (vPutL_len eN (by omega)).2
  have v3 := (vPutL_len sN (by omega)).2
  have v4 := (vPutL_len rs.n (by omega)).2
  refine (R1PutN_ok (n := pN) (by omega) w5).mono ?_
  rintro e w6 ⟨rfl, M6⟩
  refine ⟨_, rfl, Keep.of0 M6, rfl, rfl, rfl, ?_⟩
  refine (R1PutN_ok (n := eN) (by omega) w6).mono ?_
  rintro e w7 ⟨rfl, M7⟩
  refine ⟨_, rfl, Keep.of0 M7, rfl, rfl, by rw [bs_size, bs_size]; omega, ?_⟩
  rw [bs_app]
  refine (R1PutN_ok (n := sN) (by omega) w7).mono ?_
  rintro e w8 ⟨rfl, M8⟩
  refine ⟨_, rfl, Keep.of0 M8, rfl, by rw [bs_size, bs_size, List.length_append]; omega, ?_⟩
  rw [bs_app]
  refine (R1PutN_ok (n := rs.n) (by omega) w8).mono ?_
  rintro e w9 ⟨rfl, M9⟩
  refine ⟨_, rfl, Keep.of0 M9, by rw [bs_size, bs_size, List.length_append, List.length_append]; omega, ?_⟩
  rw [bs_app]
  have N9 : Mod [] w w9 := ((((N3.go0 A5.mod (by simp)).go0 M6 (by simp)).go0 M7 (by simp)).go0 M8 (by simp)).go0 M9 (by simp)
  have eh : vPutL pN ++ vPutL eN ++ vPutL sN ++ vPutL rs.n = (batHd b).flatMap vPutL := by
    simp [batHd, hp, he, hq, hn]
  rw [eh]
  refine ref03_Batch_rule1 (fun mm s x w' => ∃ k : Nat, x = k ∧ k ≤ b.recs.length ∧ s = bs ((batHd b).flatMap vPutL ++ (b.recs.take k).flatMap recB) ∧ Mod [] w w' ∧ mm = b.recs.length - k) b.recs.length ⟨0, rfl, by omega, by simp, N9, rfl⟩ ?_
  rintro mm s x w10 ⟨k, rfl, hk, rfl, M10, rfl⟩
  refine brB_dec (fun hlt => ?_) fun hge => ?_
  · obtain ⟨y, hy⟩ : ∃ y, b.recs[k]? = some y := ⟨_, List.getElem?_eq_getElem (by omega)⟩
    have gy := G.r y (List.mem_of_getElem? hy)
    refine (h.keep0 M10).ix hy fun q hq => ldBool_of (by simpa [add_zero] using hq 0 _ rfl) (ldStr_of (hq 1 _ rfl) (ldBool_of (hq 2 _ rfl) (ldStr_of (hq 3 _ rfl) ?_)))
    refine (R3Text_ok y gy w10).mono ?_
    rintro e w11 ⟨rfl, M11⟩
    have l1 := G.len1 4
    rw [List.take_of_length_le (by simp [batHd])] at l1
    have l2 := G.len2 k
    have l3 := recB_len gy
    refine ⟨_, rfl, Keep.of0 M11, by rw [bs_size, bs_size, List.length_append]; omega, ?_⟩
    rw [bs_app]
    refine ref03_Batch_leaf1 (b.recs.length - (k + 1)) (by omega) ⟨k + 1, by rw [wrap_id (by omega) (by omega)]; omega, by omega, ?_, M10.go0 M11 (by simp), rfl⟩
    rw [take_flat hy, ← List.append_assoc]
  · have : k = b.recs.length := by omega
    subst this
    rw [List.take_length]
    exact ⟨rfl, M10⟩

/-! ### letters -/
theorem R4num_ok {x : Int} (hx : num x = true) (w : World) : Calls Tryz.prog 131 #[.int .i64 x] w fun e w' => e = .returned (.string (bs (vPutL x.toNat))) ∧ Mod [] w w' := by
  have := num_le hx
  obtain ⟨n, rfl⟩ := Int.eq_ofNat_of_zero_le this.1
  refine go_of (ref04_num_go ?_)
  unfold ref04_num_T
  rw [wrapU (by omega)]
  refine (R1PutN_ok (n := n) (by omega) w).mono ?_
  rintro e w1 ⟨rfl, M1⟩
  exact ⟨_, rfl, rfl, M1⟩
theorem flag_put (t : Bool) : vPutL (flagN t) = [if t then 1 else 0] := by
  cases t <;> (unfold vPutL; rw [sevL_small (by decide)]; rfl)
def oneL (o : POp) (c : Nat) : List UInt8 :=
  if c = 116 then putT o.part.t else if c = 112 then partB o.part else if c = 110 then vPutL o.n.toNat else if c = 111 then vPutL o.off.toNat else if c = 98 then batchB o.b
  else if c = 103 then putT o.g else if c = 109 then putT o.m else if c = 101 then vPutL o.gen.toNat else if c = 114 then vPutL (flagN o.robin) else namesL o.topics
theorem ha_list {k : Int} (h0 : 0 ≤ k) (h1 : k ≤ 12) {c : Nat} (h : ha k c = true) : c ∈ [112, 116, 110, 111, 98, 103, 109, 101, 114, 108] := by
  rcases kind_cases h0 h1 with rfl | rfl | rfl | rfl | rfl | rfl | rfl | rfl | rfl | rfl | rfl | rfl | rfl <;> simp [ha, hasL] at h <;> simp [h] <;> omega
theorem ha_b {k : Int} (h0 : 0 ≤ k) (h1 : k ≤ 12) (h : ha k 98 = true) : k = 2 := by
  rcases kind_cases h0 h1 with rfl | rfl | rfl | rfl | rfl | rfl | rfl | rfl | rfl | rfl | rfl | rfl | rfl <;> simp [ha, hasL] at h <;> rfl
theorem namesL_size {l : List ByteArray} (h : namesB l = true) : l.length ≤ 8 ∧ (∀ s ∈ l, s.size ≤ 16) := by
  simp only [namesB, Bool.and_eq_true, decide_eq_true_eq] at h
  obtain ⟨⟨⟨l1', l2'⟩, l3'⟩, _⟩ := h
  exact ⟨l2', fun s hs => (name_le (List.all_eq_true.1 l3' s hs)).1⟩
theorem R4one_ok {w : World} {o : POp} {rs ts : Sl} {c : Nat} (h : OpAt w o rs ts) (G : OpGood o) (hc : ha o.kind c = true) :
    Calls Tryz.prog 132 #[o.v rs ts, .int .u8 (c : Nat)] w fun e w' => e = .returned (.string (bs (oneL o c))) ∧ Mod [] w w' := by
  obtain ⟨n1, n2, n3, n4⟩ := G.nn
  have num1 := fun {x : Int} (h : num x = true) => (vPutL_len x.toNat (by have := num_le h; omega)).2
  refine go_of (ref04_one_go ?_)
  intro b1 f1
  refine brB_of (fun g => ?_) fun g => ?_
  · have g : c = 116 := by simp at g; omega
    subst g
    intro w2 A2
    refine (R1Text_ok o.part.t (by have := (name_le (G.nt (by rw [hc]; simp))).1; omega) w2).mono ?_
    rintro e w3 ⟨rfl, M3⟩
    exact ⟨_, rfl, Keep.of0 M3, rfl, A2.mod.go0 M3 (by simp)⟩
  have g116 : c ≠ 116 := by simp at g; omega
  refine brB_of (fun g => ?_) fun g => ?_
  · have g : c = 112 := by simp at g; omega
    subst g
    intro w2 A2
    have hs := (name_le (G.nt (by rw [hc]; simp))).1
    refine (R1Text_ok o.part.t (by omega) w2).mono ?_
    rintro e w3 ⟨rfl, M3⟩
    refine ⟨_, rfl, Keep.of0 M3, rfl, ?_⟩
    refine (R4num_ok n1 w3).mono ?_
    rintro e w4 ⟨rfl, M4⟩
    have := num1 n1
    have := (putT_len o.part.t (by omega)).2
    refine ⟨_, rfl, Keep.of0 M4, by rw [bs_size, bs_size]; omega, ?_, (A2.mod.go0 M3 (by simp)).go0 M4 (by simp)⟩
    rw [bs_app]; rfl
  have g112 : c ≠ 112 := by simp at g; omega
  refine brB_of (fun g => ?_) fun g => ?_
  · have g : c = 110 := by simp at g; omega
    subst g
    intro w2 A2
    refine (R4num_ok n2 w2).mono ?_
    rintro e w3 ⟨rfl, M3⟩
    exact ⟨_, rfl, Keep.of0 M3, rfl, A2.mod.go0 M3 (by simp)⟩
  have g110 : c ≠ 110 := by simp at g; omega
  refine brB_of (fun g => ?_) fun g => ?_
  · have g : c = 111 := by simp at g; omega
    subst g
    intro w2 A2
    refine (R4num_ok n3 w2).mono ?_
    rintro e w3 ⟨rfl, M3⟩
    exact ⟨_, rfl, Keep.of0 M3, rfl, A2.mod.go0 M3 (by simp)⟩
  have g111 : c ≠ 111 := by simp at g; omega
  refine brB_of (fun g => ?_) fun g => ?_
  · have g : c = 98 := by simp at g; omega
    subst g
    intro w2 A2
    refine (R3Batch_ok (b := o.b) (rs := rs) (h.recs.keep0 A2.mod)).mono ?_
    rintro e w3 ⟨rfl, M3⟩
    rw [if_pos (G.b (ha_b G.k.1 G.k.2 hc))]
    exact ⟨_, _, rfl, Keep.of0 M3, rfl, A2.mod.go0 M3 (by simp)⟩
  have g98 : c ≠ 98 := by simp at g; omega
  refine brB_of (fun g => ?_) fun g => ?_
  · have g : c = 103 := by simp at g; omega
    subst g
    intro w2 A2
    refine (R1Text_ok o.g (by have := (name_le (G.ng hc)).1; omega) w2).mono ?_
    rintro e w3 ⟨rfl, M3⟩
    exact ⟨_, rfl, Keep.of0 M3, rfl, A2.mod.go0 M3 (by simp)⟩
  have g103 : c ≠ 103 := by simp at g; omega
  refine brB_of (fun g => ?_) fun g => ?_
  · have g : c = 109 := by simp at g; omega
    subst g
    intro w2 A2
    refine (R1Text_ok o.m (by have := (name_le (G.nm hc)).1; omega) w2).mono ?_
    rintro e w3 ⟨rfl, M3⟩
    exact ⟨_, rfl, Keep.of0 M3, rfl, A2.mod.go0 M3 (by simp)⟩
  have g109 : c ≠ 109 := by simp at g; omega
  refine brB_of (fun g => ?_) fun g => ?_
  · have g : c = 101 := by simp at g; omega
    subst g
    intro w2 A2
    refine (R4num_ok n4 w2).mono ?_
    rintro e w3 ⟨rfl, M3⟩
    exact ⟨_, rfl, Keep.of0 M3, rfl, A2.mod.go0 M3 (by simp)⟩
  have g101 : c ≠ 101 := by simp at g; omega
  refine brB_of (fun g => ?_) fun g => ?_
  · have g : c = 114 := by simp at g; omega
    subst g
    refine brB_of (fun g => ?_) fun g => ?_
    · have g : o.robin = true := g
      intro w2 A2
      exact ⟨by rw [show oneL o 114 = vPutL (flagN o.robin) from rfl, g, flag_put]; rfl, A2.mod⟩
    · have g : o.robin = false := g
      intro w2 A2
      exact ⟨by rw [show oneL o 114 = vPutL (flagN o.robin) from rfl, g, flag_put]; rfl, A2.mod⟩
  have g114 : c ≠ 114 := by simp at g; omega
  have hc8 : c = 108 := by have := ha_list G.k.1 G.k.2 hc; simp at this; omega
  subst hc8
  intro w2 A2
  obtain ⟨hl8, hs16⟩ := namesL_size (G.nl hc)
  have hts := h.topics.1
  refine (R4num_ok (x := (ts.n : Int)) (by simp [num]; omega) w2).mono ?_
  rintro e w3 ⟨rfl, M3⟩
  refine ⟨_, rfl, Keep.of0 M3, ?_⟩
  rw [Int.toNat_natCast]
  refine ref04_one_rule1 (fun mm s x w' => ∃ k : Nat, x = k ∧ k ≤ o.topics.length ∧ s = bs (vPutL ts.n ++ (o.topics.take k).flatMap putT) ∧ Mod [] w w' ∧ mm = o.topics.length - k) o.topics.length ⟨0, rfl, by omega, by simp, A2.mod.go0 M3 (by simp), rfl⟩ ?_
  rintro mm s x w10 ⟨k, rfl, hk, rfl, M10, rfl⟩
  refine brB_dec (fun hlt => ?_) fun hge => ?_
  · obtain ⟨y, hy⟩ : ∃ y, o.topics[k]? = some y := ⟨_, List.getElem?_eq_getElem (by omega)⟩
    have gy := hs16 y (List.mem_of_getElem? hy)
    refine (h.topics.keep0 M10).ix hy fun q hq => ldStr_of (by simpa [add_zero] using hq 0 _ rfl) ?_
    refine (R1Text_ok y (by omega) w10).mono ?_
    rintro e w11 ⟨rfl, M11⟩
    have l1 := (vPutL_len ts.n (by omega)).2
    have l2 := flat_le (f := putT) (c := 26) (l := o.topics.take k) fun s hs => by
      have := hs16 s (List.mem_of_mem_take hs); have := (putT_len s (by omega)).2; omega
    have l3 : (o.topics.take k).length * 26 ≤ 8 * 26 := Nat.mul_le_mul_right _ (by rw [List.length_take]; omega)
    have l4 := (putT_len y (by omega)).2
    refine ⟨_, rfl, Keep.of0 M11, by rw [bs_size, bs_size, List.length_append]; omega, ?_⟩
    rw [bs_app]
    refine ref04_one_leaf1 (o.topics.length - (k + 1)) (by omega) ⟨k + 1, by rw [wrap_id (by omega) (by omega)]; omega, by omega, ?_, M10.go0 M11 (by simp), rfl⟩
    rw [take_flat hy, ← List.append_assoc]
  · have : k = o.topics.length := by omega
    subst this
    rw [List.take_length]
    exact ⟨by rw [show oneL o 108 = namesL o.topics from rfl, namesL, hts], M10⟩
theorem opBody_letters {o : POp} (h0 : 0 ≤ o.kind) (h1 : o.kind ≤ 12) : opBody o = (hasL o.kind).flatMap (oneL o) := by
  obtain ⟨kd, pt, n, off, b, g, m, gen, robin, topics⟩ := o
  rcases kind_cases h0 h1 with h | h | h | h | h | h | h | h | h | h | h | h | h <;> (have h : kd = _ := h; subst h; simp [opBody, hasL, oneL])
theorem hasS_size {k : Int} (h0 : 0 ≤ k) (h1 : k ≤ 12) : (hasS k).size ≤ 5 := by
  rcases kind_cases h0 h1 with rfl | rfl | rfl | rfl | rfl | rfl | rfl | rfl | rfl | rfl | rfl | rfl | rfl <;> decide
theorem hasS_at {k : Int} (h0 : 0 ≤ k) (h1 : k ≤ 12) {i : Nat} (hi : i < (hasS k).size) : ∃ c, (hasL k)[i]? = some c ∧ byteAt (hasS k) i = (c : Nat) ∧ ha k c = true := by
  have hi5 : i < 5 := Nat.lt_of_lt_of_le hi (hasS_size h0 h1)
  rcases kind_cases h0 h1 with rfl | rfl | rfl | rfl | rfl | rfl | rfl | rfl | rfl | rfl | rfl | rfl | rfl <;>
    (have h5 : i = 0 ∨ i = 1 ∨ i = 2 ∨ i = 3 ∨ i = 4 := by omega
     rcases h5 with rfl | rfl | rfl | rfl | rfl <;> first | exact absurd hi (by decide) | exact ⟨_, rfl, by decide, by decide⟩)
theorem hasS_len {k : Int} : (hasS k).size = (hasL k).length := by simp [hasS, ByteArray.size]
theorem R4Put_ok {w : World} {o : POp} {rs ts : Sl} (h : OpAt w o rs ts) :
    Calls Tryz.prog 84 #[o.v rs ts] w fun e w' => e = .returned (.tuple #[.string (if opE o = 0 then bs (opB o) else bs []), .int .i64 (opE o)]) ∧ Mod [] w w' := by
  refine go_of (ref04_Put_go ?_)
  intro b1 f1 w2 A2
  refine (CheckR_ok (o := o) (rs := rs) (ts := ts) (h.keep0 A2.mod).recs (h.keep0 A2.mod).topics).mono ?_
  rintro _ w3 ⟨rfl, M3⟩
  have N3 := A2.mod.go0 M3 (by simp)
  refine ⟨_, rfl, Keep.of0 M3, brB_of (fun g => ?_) fun g => ?_⟩
  · have g : opE o ≠ 0 := by simpa using g
    rw [if_neg g]
    exact ⟨rfl, N3⟩
  have g : opE o = 0 := by simpa using g
  have G := OpGood.of g
  obtain ⟨k0, k1⟩ := G.k
  rw [if_pos g, g]
  intro w5 A5
  refine (R4num_ok (x := o.kind) (by simp [num]; omega) w5).mono ?_
  rintro _ w6 ⟨rfl, M6⟩
  refine ⟨_, rfl, Keep.of0 M6, rfl, ?_⟩
  refine (has_ok k0 k1 w6).mono ?_
  rintro _ w7 ⟨rfl, M7⟩
  refine ⟨_, rfl, Keep.of0 M7, ?_⟩
  have N7 := ((N3.go0 A5.mod (by simp)).go0 M6 (by simp)).go0 M7 (by simp)
  have hlen := hasS_len (k := o.kind)
  have h5 := hasS_size k0 k1
  refine ref04_Put_rule1 (fun mm s x w' => ∃ k : Nat, x = k ∧ k ≤ (hasS o.kind).size ∧ s = bs (vPutL o.kind.toNat ++ ((hasL o.kind).take k).flatMap (oneL o)) ∧ Mod [] w w' ∧ mm = (hasS o.kind).size - k) (hasS o.kind).size ⟨0, rfl, by omega, by simp, N7, rfl⟩ ?_
  rintro mm s x w10 ⟨k, rfl, hk, rfl, M10, rfl⟩
  refine brB_dec (fun hlt => ?_) fun hge => ?_
  · obtain ⟨c, hc1, hc2, hc3⟩ := hasS_at k0 k1 (i := k) (by omega)
    refine ⟨by omega, by omega, ?_⟩
    rw [Int.toNat_natCast, hc2]
    intro w11 A11
    have N11 := M10.go0 A11.mod (by simp)
    refine (R4one_ok (rs := rs) (ts := ts) (h.keep0 N11) G hc3).mono ?_
    rintro _ w12 ⟨rfl, M12⟩
    have lo := opB_len G
    have e1 : (vPutL o.kind.toNat ++ ((hasL o.kind).take k).flatMap (oneL o)) ++ oneL o c = vPutL o.kind.toNat ++ ((hasL o.kind).take (k + 1)).flatMap (oneL o) := by
      rw [take_flat hc1, ← List.append_assoc]
    have e2 : (vPutL o.kind.toNat ++ ((hasL o.kind).take (k + 1)).flatMap (oneL o)).length ≤ (opB o).length := by
      rw [opB, opBody_letters k0 k1, List.length_append, List.length_append]
      have : (hasL o.kind).flatMap (oneL o) = ((hasL o.kind).take (k + 1)).flatMap (oneL o) ++ ((hasL o.kind).drop (k + 1)).flatMap (oneL o) := by
        rw [← List.flatMap_append, List.take_append_drop]
      rw [this, List.length_append]; omega
    refine ⟨_, rfl, Keep.of0 M12, by rw [bs_size, bs_size, ← List.length_append, e1]; omega, ?_⟩
    rw [bs_app, e1]
    exact ref04_Put_leaf1 ((hasS o.kind).size - (k + 1)) (by omega) ⟨k + 1, by rw [wrap_id (by omega) (by omega)]; omega, by omega, rfl, N11.go0 M12 (by simp), rfl⟩
  · have hk : k = (hasL o.kind).length := by omega
    subst hk
    rw [List.take_length]
    exact ⟨by rw [opB, opBody_letters k0 k1], M10⟩
theorem R16Text_ok {w : World} {s : Sl} {ll : List CV} (h : CsAt w s ll) (hl : ll.length ≤ 1000000) :
    Calls Tryz.prog 32 #[.slice s.a s.n s.c] w fun e w' => e = .returned (.tuple #[.string (if textE (ll.map (·.x)) = 0 then bs (textB (ll.map (·.x))) else bs []), .int .i64 (textE (ll.map (·.x)))]) ∧ Mod [] w w' := by
  have hn := h.sl.1
  have el : (ll.map (·.x)).length = ll.length := by simp
  refine go_of (ref16_Text_go ?_)
  refine brB_dec (fun g => ?_) fun g => ?_
  · have e : textE (ll.map (·.x)) = 2 := by rw [textE, if_pos (by rw [el]; omega)]
    rw [e]; exact ⟨rfl, Mod.refl _⟩
  have e : textE (ll.map (·.x)) = checkE (ll.map (·.x)) := by rw [textE, if_neg (by rw [el]; omega)]
  refine (RCheck_ok h hl).mono ?_
  rintro _ w1 ⟨rfl, M1⟩
  refine ⟨_, rfl, brB_of (fun g2 => ?_) fun g2 => ?_⟩
  · have g2 : checkE (ll.map (·.x)) ≠ 0 := by simpa using g2
    rw [e, if_neg g2]; exact ⟨rfl, M1⟩
  have g2 : checkE (ll.map (·.x)) = 0 := by simpa using g2
  have good : ∀ q ∈ ll, oddC q.x = false ∧ opE q.x.op = 0 := fun q hq => checkE_ok.1 g2 q.x (List.mem_map.2 ⟨q, hq, rfl⟩)
  rw [e, if_pos g2, g2, wrapU (by omega)]
  refine (R1PutN_ok (n := s.n) (by omega) w1).mono ?_
  rintro _ w5 ⟨rfl, M5⟩
  refine ⟨_, rfl, ?_⟩
  have v0 := vPutL_len s.n (by omega)
  refine ref16_Text_rule1 (fun mm t x w' => ∃ k : Nat, x = k ∧ k ≤ ll.length ∧ t = bs (vPutL s.n ++ (ll.take k).flatMap fun q => callB q.x) ∧ Mod [] w w' ∧ mm = ll.length - k) ll.length ⟨0, rfl, by omega, by simp, M1.go0 M5 (by simp), rfl⟩ ?_
  rintro mm t x w9 ⟨k, rfl, hk, rfl, N9, rfl⟩
  refine brB_dec (fun hlt => ?_) fun hge => ?_
  · obtain ⟨q, hq⟩ : ∃ q, ll[k]? = some q := ⟨_, List.getElem?_eq_getElem (by omega)⟩
    obtain ⟨gq1, gq2⟩ := good q (List.mem_of_getElem? hq)
    have hodd := oddC_out gq1
    refine h.sl.ixW hq fun ad had => ?_
    have had9 := had w9 N9
    have c1 : ∀ j v, (CV.cs q)[j + 2]? = some v → w9.cell? ((ad.add 2).add j) = some v := fun j v hv => by
      rw [add_add]; have := had9 _ _ hv; rwa [Nat.add_comm] at this
    refine ldInt_of (had9 2 _ rfl) (ldStr_of (c1 1 _ rfl) (ldInt_of (c1 2 _ rfl) (ldInt_of (c1 3 _ rfl) (ldInt_of (c1 4 _ rfl) (ldInt_of (c1 5 _ rfl) (ldInt_of (c1 6 _ rfl) (ldInt_of (c1 7 _ rfl) (ldSlice_of (c1 8 _ rfl) (ldStr_of (c1 9 _ rfl) (ldStr_of (c1 10 _ rfl) (ldInt_of (c1 11 _ rfl) (ldBool_of (c1 12 _ rfl) (ldSlice_of (c1 13 _ rfl) ?_)))))))))))))
    refine (R4Put_ok (o := q.x.op) (rs := q.rs) (ts := q.ts) ((h.op q (List.mem_of_getElem? hq)).keep0 N9)).mono ?_
    rintro _ w11 ⟨rfl, M11⟩
    rw [if_pos gq2]
    refine ⟨_, _, rfl, ?_⟩
    refine h.sl.ixW hq fun ad had => ?_
    intro w12 A12
    have N12 := (N9.go0 M11 (by simp)).go0 A12.mod (by simp)
    refine ldInt_of (by have := had w12 N12 0 _ rfl; rwa [add_zero] at this) ?_
    refine h.sl.ixW hq fun ad had => ldInt_of (had w12 N12 1 _ rfl) ?_
    obtain ⟨cN, hcN⟩ := Int.eq_ofNat_of_zero_le (show 0 ≤ q.x.c by omega)
    obtain ⟨nN, hnN⟩ := Int.eq_ofNat_of_zero_le (show 0 ≤ q.x.n by omega)
    rw [hcN, hnN, wrapU (by omega), wrapU (by omega)]
    refine (R1PutN_ok (n := cN) (by omega) w12).mono ?_
    rintro _ w13 ⟨rfl, M13⟩
    have N13 := N12.go0 M13 (by simp)
    refine ⟨_, rfl, ldInt_of (had w13 N13 1 _ (by rw [← hnN]; rfl)) rfl, ?_⟩
    refine (R1PutN_ok (n := nN) (by omega) w13).mono ?_
    rintro _ w14 ⟨rfl, M14⟩
    have lc := vPutL_len cN (by omega)
    have ln := vPutL_len nN (by omega)
    have lo := opB_len (OpGood.of gq2)
    refine ⟨_, rfl, by rw [bs_size, bs_size]; omega, ?_⟩
    rw [bs_app]
    refine (R1Text_ok (bs (opB q.x.op)) (by rw [bs_size]; omega) w14).mono ?_
    rintro _ w15 ⟨rfl, M15⟩
    have lp := (putT_len (bs (opB q.x.op)) (by rw [bs_size]; omega)).2
    rw [bs_size] at lp
    refine ⟨_, rfl, by rw [bs_size, bs_size, List.length_append]; omega, ?_⟩
    have e2 : bs (vPutL cN ++ vPutL nN) ++ bs (putT (bs (opB q.x.op))) = bs (callR q.x) := by
      rw [bs_app]; unfold callR; rw [hcN, hnN]; rfl
    rw [e2]
    have lr := callR_len gq1 gq2
    refine (RFrame_ok (bs (callR q.x)) (by rw [bs_size]; omega) w15).mono ?_
    rintro _ w16 ⟨rfl, M16⟩
    have hlt2 : (vPutL s.n ++ (ll.take k).flatMap fun q => callB q.x).length ≤ 10 + 4096 * 40000 := by
      have e1 := flat_le (f := fun q : CV => callB q.x) (c := 40000) (l := ll.take k) fun q hq => (callB_len (good q (List.mem_of_mem_take hq)).1 (good q (List.mem_of_mem_take hq)).2).1
      have e3 : (ll.take k).length * 40000 ≤ 4096 * 40000 := Nat.mul_le_mul_right _ (by rw [List.length_take]; omega)
      rw [List.length_append]; omega
    have lcb := callB_len gq1 gq2
    refine ⟨_, rfl, by rw [bs_size, bs_size]; show _ + (callB q.x).length ≤ _; omega, ?_⟩
    rw [bs_app]
    refine ref16_Text_leaf1 (ll.length - (k + 1)) (by omega) ⟨k + 1, by rw [wrap_id (by omega) (by omega)]; omega, by omega, ?_, (((N13.go0 M14 (by simp)).go0 M15 (by simp)).go0 M16 (by simp)), rfl⟩
    rw [take_flat hq, ← List.append_assoc]; rfl
  · have hk : k = ll.length := by omega
    subst hk
    rw [List.take_length]
    refine ⟨?_, N9⟩
    unfold textB; rw [el, hn, List.flatMap_map]
end Go.Proofs.YtohgihgddknmmaaGreat
