/- SessionFinds. -/
import Derived.Test.YtohgihgddknmmaaA9
namespace Go.Proofs.Ytohgihgddknmmaa
open Go Go.RowKit
set_option linter.unusedVariables false
set_option linter.unusedSimpArgs false

theorem bAnd_range {x m : Int} (h0 : 0 ≤ m) (h1 : m ≤ 9223372036854775807) : 0 ≤ bAnd .i64 x m ∧ bAnd .i64 x m ≤ m := by
  unfold bAnd
  have e : (BitVec.ofInt IntKind.i64.bits m).toNat = m.toNat := by
    show (BitVec.ofInt 64 m).toNat = _
    rw [BitVec.toNat_ofInt]
    have : m % ((2 ^ 64 : Nat) : Int) = m := Int.emod_eq_of_lt h0 (by omega)
    rw [this]
  have h : (BitVec.ofInt IntKind.i64.bits x &&& BitVec.ofInt IntKind.i64.bits m).toNat ≤ m.toNat := by
    rw [BitVec.toNat_and, ← e]; exact Nat.and_le_right
  rw [wrap_id (by omega) (by omega)]
  omega

theorem yesB {t : Bool} {A B : Prop} (ht : t = true) (ha : A) : brB t A B := brB_of (fun _ => ha) fun h => by rw [ht] at h; cases h
theorem notB {t : Bool} {A B : Prop} (ht : t = false) (hb : B) : brB t A B := brB_of (fun h => by rw [ht] at h; cases h) fun _ => hb
theorem num_of {x : Int} (h0 : 0 ≤ x) (h1 : x ≤ 1099511627776) : num x = true := by simp [num]; omega
set_option maxHeartbeats 1000000 in
theorem Finds_ok (a b : Int) (w : World) : Calls Try.prog 4 #[.int .i64 a, .int .i64 b] w fun e w' => e = .returned (.bool true) ∧ Mod [] w w' := by
  refine go_of (law22_SessionFinds_go ?_)
  have r1 := bAnd_range (x := a) (m := 65535) (by omega) (by omega)
  have r2 := bAnd_range (x := b) (m := 65535) (by omega) (by omega)
  unfold law22_SessionFinds_T
  generalize bAnd .i64 a 65535 = a at *
  generalize bAnd .i64 b 65535 = v at *
  obtain ⟨rp, hrp'⟩ : ∃ rp, rp = 1 + a % 7 := ⟨_, rfl⟩
  have hw : IntKind.wrap .i64 (1 + Int.tmod a 7) = rp := by
    rw [Int.tmod_eq_emod_of_nonneg (by omega), wrap_id (by omega) (by omega), hrp']
  rw [hw]
  have hrp : mayB rp = true := by simp [mayB]; omega
  have hv : Int.tmod v rp = v % rp := Int.tmod_eq_emod_of_nonneg (by omega)
  rw [hv]
  refine ⟨by decide, ?_⟩
  refine (New_ok w).mono ?_
  rintro e w1 ⟨_, rfl, h1, M1⟩
  rw [if_pos ⟨by decide, by decide, hrp⟩] at h1
  obtain ⟨b0, rfl, hb0, S1⟩ := h1
  refine ⟨_, _, rfl, brB_of (fun h => by cases h) fun _ => brB_of (fun h => by cases h) fun _ => ?_⟩
  refine (tick_ok w1).mono ?_
  rintro e w2 ⟨rfl, M2⟩
  refine ⟨_, _, _, _, _, _, _, _, _, _, _, _, _, _, _, _, _, _, rfl, ?_⟩
  have N2 := M1.go0 M2 (by simp)
  refine (Tick_ok (S1.keep0 M2) (by decide) hrp (by decide) (by decide)).mono ?_
  rintro e w3 ⟨s3, rfl, M3, O3, S3⟩
  have N3 := N2.go0 M3 (by simpa using hb0)
  have l3 := S3.lt
  refine ⟨_, _, _, _, _, _, _, _, _, _, _, _, _, _, _, _, _, _, _, _, _, _, _, _, rfl, ?_⟩
  refine (AnsYes_ok S3 (view := v) (off := 0) (by decide) (num_of (by omega) (by omega)) (by decide) (by decide)).mono ?_
  rintro e w4 ⟨f4, p4, rfl, M4, S4⟩
  have N4 := N3.go0 M4 (by simpa using hb0)
  have s4 := M4.size
  have hview : (if v > 0 then v else 0) = v := by split <;> omega
  rw [hview] at S4
  refine ⟨_, _, _, _, _, _, _, _, _, _, _, rfl, ?_⟩
  intro b5 f5 w5 A5
  have N5 := N4.go0 A5.mod (by simp)
  have s5 := A5.mod.size
  refine (tick_ok w5).mono ?_
  rintro e w6 ⟨rfl, M6⟩
  have N6 := N5.go0 M6 (by simp)
  have s6 := M6.size
  refine ⟨_, _, _, _, _, _, _, _, _, _, _, _, _, _, _, _, _, _, rfl, Keep.of0 M6, ?_⟩
  refine (Tick_ok ((S4.keep0 A5.mod).keep0 M6) (by omega) hrp (by decide) (by decide)).mono ?_
  rintro e w7 ⟨s7, rfl, M7, O7, S7⟩
  have N7 := N6.go0 M7 (by simpa using hb0)
  have s7' := M7.size
  refine ⟨_, _, _, _, _, _, _, _, _, _, _, _, _, _, _, _, _, _, _, _, _, _, _, _, rfl, Keep.of M7 fun b hb _ hn => by simp at hb hn; omega, ?_⟩
  intro b8 f8 w8 A8
  have N8 := N7.go0 A8.mod (by simp)
  refine (Retry_ok hrp (S7.keep0 A8.mod)).mono ?_
  rintro e w9 ⟨_, rfl, s9, rfl, L9, M9⟩
  have N9 := N8.go0 M9 (by simp)
  have O9 := (O7.keep0 A8.mod).keep0 M9
  have hn9 : s9.n = rp.toNat := by rw [mails_len L9]; simp [retryL, asksL]
  refine ⟨_, _, _, rfl, Keep.of0 M9, notB rfl (notB rfl ⟨by omega, notB (by simp [askM]) (notB (by rw [hn9]; simp; omega) ?_)⟩)⟩
  intro w10 A10
  have N10 := N9.go0 A10.mod (by simp)
  have L10 := mails_keep L9 A10.mod
  have O10 := O9.keep0 A10.mod
  refine law22_SessionFinds_rule1 (fun mm x w' => ∃ k : Nat, x = k ∧ k ≤ rp.toNat ∧ Mod [] w10 w' ∧ mm = rp.toNat - k) rp.toNat ⟨0, rfl, by omega, Mod.refl _, rfl⟩ ?_
  rintro mm x w11 ⟨k, rfl, hk, M11, rfl⟩
  have N11 := N10.go0 M11 (by simp)
  refine brB_dec (fun hlt => ?_) fun hge => ?_
  · have hk' : k < rp.toNat := by omega
    have hat : (retryL 9 rp (some ⟨9, 0 + 1 + 1, tickO⟩))[k]? = some (askM 9 (k : Nat) ⟨9, 0 + 1 + 1, tickO⟩) := by
      simp only [retryL, asksL, List.getElem?_map]
      rw [List.getElem?_range hk']; rfl
    obtain ⟨y, hy, hyO, hix⟩ := mails_ix (mails_keep L10 M11) hat
    refine hix fun q hq => ldMail_of (m := y.m) (s := y.s) (f := y.f) (p := y.p) (hq w11 (Mod.refl _)) ?_
    intro b12 f12
    refine hix fun q hq => ?_
    intro w12 A12
    refine ldInt_of (x := y.m.to) (hq w12 A12.mod 2 _ rfl) ?_
    refine notB (by rw [hy]; simp [askM]) ?_
    obtain ⟨ym, ys, yf, yp⟩ := y
    have hy : ym = askM 9 (k : Nat) ⟨9, 0 + 1 + 1, tickO⟩ := hy
    subst hy
    have M12 := M11.go0 A12.mod (by simp)
    have N12 := N10.go0 M12 (by simp)
    have hm1 : MailAt w12 (askM 9 (v % rp) ⟨9, 0 + 1 + 1, tickO⟩) ys yf yp := ⟨(hyO.at.keep0 A12.mod).calls, (hyO.at.keep0 A12.mod).rep⟩
    refine (MailR_ok (m := askM 9 (v % rp) ⟨9, 0 + 1 + 1, tickO⟩) (m' := askM 9 (v % rp) ⟨9, 0 + 1 + 1, tickO⟩) (s := ys) (f := yf) (p := yp) (s' := s7) (f' := nilS) (p' := nilS) hm1 (O10.at.keep0 M12) (by simp [askM])).mono ?_
    rintro e w13 ⟨rfl, M13⟩
    refine ⟨_, rfl, Keep.of0 M13, notB (by simp) ?_⟩
    exact law22_SessionFinds_leaf1 (rp.toNat - (k + 1)) (by omega) ⟨k + 1, by rw [wrap_id (by omega) (by omega)]; omega, by omega, M12.go0 M13 (by simp), rfl⟩
  · refine (Fixed_ok w11).mono ?_
    rintro e w12 ⟨rfl, M12⟩
    exact ⟨_, rfl, Keep.of0 M12, rfl, N11.go0 M12 (by simp)⟩

end Go.Proofs.Ytohgihgddknmmaa
