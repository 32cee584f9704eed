/- SessionOnce. -/
import Derived.Test.YtohgihgddknmmaaA11
import Derived.Test.YtohgihgddknmmaaA15
namespace Go.Proofs.Ytohgihgddknmmaa
open Go Go.RowKit
set_option linter.unusedVariables false
set_option linter.unusedSimpArgs false

theorem callE_none {op : POp} {n : Int} (h : opE op = 0) (hn : n < 1099511627776) : callE op n none = 0 := by rw [callE, if_neg (by rw [h]; decide), if_neg (by decide), if_neg (by omega)]
theorem inv_int (w : World) (row : List Value) (h : OkT Try.prog w 3 row) (_ : row.length = Try.prog.cellsOf 3) : ∃ x : Int, row = (fun x : Int => [Value.int .i64 x]) x ∧ True := by
  obtain ⟨x, rfl, _⟩ := h.int_inv Try.underlying3
  exact ⟨x, rfl, trivial⟩


set_option maxHeartbeats 1000000 in
theorem Once_law {a a1 : Option Addr} {n c n1 c1 : Nat} {ll : List OV} {zs : List Int} (w : World) (h : SlAt w 14 OV.cs a n ll) (hg : ∀ x ∈ ll, OpRd w x.o x.rs x.ts) (h1 : SlAt w 1 (fun x : Int => [.int .i64 x]) a1 n1 zs) :
    Calls Try.prog 3 #[.slice a n c, .slice a1 n1 c1] w fun e w' => e = .returned (.bool true) ∧ Mod [] w w' := by
  refine go_of (law22_SessionOnce_go ?_)
  have hrp : mayB 5 = true := by decide
  have hen := h.1
  have hen1 := h1.1
  refine (New_ok w).mono ?_
  rintro e w1 ⟨_, rfl, hN, M1⟩
  rw [if_pos ⟨by omega, by omega, hrp⟩] at hN
  obtain ⟨b0, rfl, hb0, S1⟩ := hN
  refine ⟨_, _, rfl, brB_of (fun h => by cases h) fun _ => brB_of (fun h => by cases h) fun _ => ?_⟩
  have fin : ∀ {w'}, Mod [] w w' → Calls Try.prog 15 #[] w' fun e w151 => ∃ t152 : Bool, e = .returned (.bool t152) ∧ ((Value.bool t152 : Value) = .bool true ∧ Mod [] w w151) := fun {w'} N => by
    refine (Fixed_ok w').mono ?_
    rintro e w6 ⟨rfl, M6⟩
    exact ⟨_, rfl, rfl, N.go0 M6 (by simp)⟩
  refine law22_SessionOnce_rule1 (fun mm x7 x8 w' => ∃ (k : Nat) (v : Int), x8 = k ∧ k ≤ ll.length ∧ k ≤ 40 ∧ 0 ≤ x7 ∧ x7 ≤ k ∧ 0 ≤ v ∧ v ≤ k ∧ Mod [] w w' ∧ Ses w' b0 3 5 x7 v none ∧ mm = ll.length - k) ll.length ⟨0, 0, rfl, by omega, by omega, by omega, by omega, by omega, by omega, M1, S1, rfl⟩ ?_
  rintro mm nn x8 w2 ⟨k, v, rfl, hk, hk2, hn0, hnk, hv0, hvk, N2, S2, rfl⟩
  refine brB_dec (fun hlt => ?_) fun hge => fin N2
  refine brB_dec (fun hlt2 => ?_) fun hge => fin N2
  have hk' : k < ll.length := by omega
  obtain ⟨y, hy⟩ : ∃ y, ll[k]? = some y := ⟨_, List.getElem?_eq_getElem hk'⟩
  have hyR := hg y (List.mem_of_getElem? hy)
  have l2 := S2.lt
  refine (h.keep0 N2).ix hy fun q hq => ldOp_of (o := y.o) (rs := y.rs) (ts := y.ts) hq ?_
  refine (Cut_ok (hyR.keep0 N2)).mono ?_
  rintro e w3 ⟨_, rfl, o', rs, ts, rfl, hO, M3⟩
  have s3 := M3.size
  refine ⟨_, _, _, _, _, _, _, _, _, _, _, _, _, _, _, _, _, _, rfl, ?_⟩
  intro b4 f4 w4 A4
  have s4 := A4.mod.size
  have O4 := hO.keep0 A4.mod
  refine (CheckR_ok (o := o') (rs := rs) (ts := ts) O4.at.recs O4.at.topics).mono ?_
  rintro e w5 ⟨rfl, M5⟩
  have s5 := M5.size
  refine ⟨_, rfl, Keep.of0 M5, ?_⟩
  have N5 := ((N2.go0 M3 (by simp)).go0 A4.mod (by simp)).go0 M5 (by simp)
  have S5 := ((S2.keep0 M3).keep0 A4.mod).keep0 M5
  have ek : IntKind.wrap .i64 ((k : Int) + 1) = ((k + 1 : Nat) : Int) := by rw [wrap_id (by omega) (by omega)]; omega
  have en : IntKind.wrap .i64 (nn + 1) = nn + 1 := wrap_id (by omega) (by omega)
  refine brB_of (fun g => ?_) fun g => ?_
  · exact law22_SessionOnce_leaf1 (ll.length - (k + 1)) (by omega) ⟨k + 1, v, ek, by omega, by omega, hn0, by omega, hv0, by omega, N5, S5, rfl⟩
  have g : opE o' = 0 := by simpa using g
  have O5 := O4.keep0 M5
  refine (Call_ok S5 (op := o') (rs := rs) (ts := ts) (fun w' M => (OpOwn.keepB O5 M (by simp; omega)).at) hv0 hrp hn0).mono ?_
  rintro e w6 ⟨_, rfl, M6, h6⟩
  rw [if_pos (callE_none g (by omega))] at h6
  obtain ⟨s8, rfl, hM, S6⟩ := h6
  have s6 := M6.size
  have N6 := N5.go0 M6 (by simpa using hb0)
  have O6 : OpOwn w6 w2.heap.size o' rs ts := OpOwn.keepB O5 M6 (by simp; omega)
  refine ⟨_, _, _, _, _, _, _, _, _, _, _, _, _, _, _, _, _, _, _, _, _, _, _, _, rfl, Keep.of M6 fun b hb _ hn => by simp at hb hn; omega, ?_⟩
  intro b7 f7
  refine notB rfl (notB (by rw [one_len hM]; rfl) ?_)
  obtain ⟨l1, hR1, hO1, hl1⟩ := hM.calls
  obtain ⟨q1, rfl⟩ : ∃ q', l1 = [q'] := by
    have := congrArg List.length hl1
    simp [askM] at this
    exact List.length_eq_one_iff.1 this
  have hq1 : q1.x = ⟨3, nn + 1, o'⟩ := by simpa [askM] using hl1
  have hR1 := hR1.sl CV.cs_len
  refine SlAt.ixW (i := 0) (x := q1) hR1 rfl fun q hq => ?_
  intro w7 A7
  refine ldInt_of (x := q1.x.n) (hq w7 A7.mod 1 _ rfl) ?_
  refine notB (by rw [hq1, en]; simp) ?_
  refine SlAt.ixW (i := 0) (x := q1) hR1 rfl fun q hq => ?_
  refine ldOp_of (o := q1.x.op) (rs := q1.rs) (ts := q1.ts) (op_cells (hq w7 A7.mod)) ?_
  have s7 := A7.mod.size
  refine (OpR_ok ((hO1 q1 (by simp)).at.keep0 A7.mod) (O6.at.keep0 A7.mod)).mono ?_
  rintro e w8 ⟨rfl, M8⟩
  have s8' := M8.size
  refine ⟨_, rfl, Keep.of0 M8, notB (by rw [hq1]; simp) ?_⟩
  have N8 := (N6.go0 A7.mod (by simp)).go0 M8 (by simp)
  have S8 := (S6.keep0 A7.mod).keep0 M8
  rw [en]
  have c2 : ∀ w', Ses w' b0 3 5 (nn + 1) v (some ⟨3, nn + 1, o'⟩) → Mod [] w w' → law22_SessionOnce_C2 a n c a1 n1 c1 (some ⟨b0, 0, none⟩) (nn + 1) (k : Nat) b4 o'.kind o'.part.t o'.part.n o'.n o'.off o'.b.prod o'.b.epoch o'.b.seq rs.a rs.n rs.c o'.g o'.m o'.gen o'.robin ts.a ts.n ts.c b7 0 3 (v % 5) 0 0 0 0 0 0 0 s8.a s8.n s8.c 0 0 0 0 nilS.a nilS.n nilS.c nilS.a nilS.n nilS.c (law22_SessionOnce_K1 a n c a1 n1 c1 (some ⟨b0, 0, none⟩) (fun mm x7 x8 w' => ∃ (k : Nat) (v : Int), x8 = k ∧ k ≤ ll.length ∧ k ≤ 40 ∧ 0 ≤ x7 ∧ x7 ≤ k ∧ 0 ≤ v ∧ v ≤ k ∧ Mod [] w w' ∧ Ses w' b0 3 5 x7 v none ∧ mm = ll.length - k) (ll.length - k)) (fun v w' => v = .bool true ∧ Mod [] w w') w' := fun w9 S9 N9 => by
    refine (AnsYes_ok S9 (view := (k : Nat)) (off := nn + 1) (by decide) (num_of (by omega) (by omega)) (num_of (by show (0 : Int) ≤ nn + 1; omega) (by show nn + 1 ≤ 1099511627776; omega)) (num_of (by omega) (by omega))).mono ?_
    rintro e w10 ⟨f10, p10, rfl, M10, S10⟩
    have N10 := N9.go0 M10 (by simpa using hb0)
    have s9 := S9.lt
    have s10 := M10.size
    have hview : (if (k : Int) > v then (k : Int) else v) = k := by split <;> omega
    rw [hview] at S10
    refine ⟨_, _, _, _, _, _, _, _, _, _, _, rfl, Keep.of M10 fun b hb _ hn => by simp at hb hn; omega, ?_⟩
    intro b11 f11 w11 A11
    have s11 := A11.mod.size
    have N11 := N10.go0 A11.mod (by simp)
    refine (AnsNo_ok (S10.keep0 A11.mod) (to := 3) (view := (k : Nat)) (k := nn + 1) (off := nn + 1) (by rintro c hc; cases hc) (by decide) (num_of (by omega) (by omega)) (num_of (by omega) (by omega)) (num_of (by omega) (by omega))).mono ?_
    rintro e w12 ⟨rfl, M12, S12⟩
    have N12 := N11.go0 M12 (by simpa using hb0)
    have s12 := M12.size
    refine ⟨_, _, _, _, _, _, _, _, _, _, _, rfl, Keep.of M12 fun b hb _ hn => by simp at hb hn; omega, ?_⟩
    intro b13 f13 w13 A13
    have N13 := N12.go0 A13.mod (by simp)
    refine (Waits_ok (S12.keep0 A13.mod)).mono ?_
    rintro e w14 ⟨_, rfl, rfl, M14⟩
    have N14 := N13.go0 M14 (by simp)
    refine ⟨_, _, _, _, _, _, _, _, _, _, _, _, _, _, _, _, _, _, _, _, _, rfl, Keep.of0 M14, ?_⟩
    intro b15 f15
    refine notB rfl (notB (by simp [ansM]) (notB rfl (notB rfl ?_)))
    intro w15 A15
    have N15 := N14.go0 A15.mod (by simp)
    have S15 := ((S12.keep0 A13.mod).keep0 M14).keep0 A15.mod
    refine (Retry_ok hrp S15).mono ?_
    rintro e w16 ⟨_, rfl, s16, rfl, L16, M16⟩
    have N16 := N15.go0 M16 (by simp)
    refine ⟨_, _, _, rfl, Keep.of0 M16, notB (by rw [mails_len L16]; rfl) ?_⟩
    refine (View_ok (S15.keep0 M16)).mono ?_
    rintro e w17 ⟨rfl, M17⟩
    refine ⟨_, rfl, Keep.of0 M17, notB (by simp) ?_⟩
    exact law22_SessionOnce_leaf1 (ll.length - (k + 1)) (by omega) ⟨k + 1, (k : Nat), ek, by omega, by omega, by omega, by omega, by omega, by omega, N16.go0 M17 (by simp), (S15.keep0 M16).keep0 M17, rfl⟩
  refine brB_dec (fun hz => ?_) fun hz => law22_SessionOnce_at2 (c2 w8 S8 N8)
  obtain ⟨z, hz'⟩ : ∃ z, zs[k]? = some z := ⟨_, List.getElem?_eq_getElem (by omega)⟩
  refine (h1.keep0 N8).ix hz' fun q hq => ldInt_of (x := z) (by simpa [add_zero] using hq 0 _ rfl) ?_
  have r1 := bAnd_range (x := z) (m := 65535) (by omega) (by omega)
  refine brB_dec (fun hs => ?_) fun hs => law22_SessionOnce_at2 (c2 w8 S8 N8)
  refine (h1.keep0 N8).ix hz' fun q hq => ldInt_of (x := z) (by simpa [add_zero] using hq 0 _ rfl) ?_
  refine (AnsNo_ok S8 (to := 3) (view := 0) (k := bAnd .i64 z 65535) (off := 0) (by rintro c hc; cases hc; show bAnd .i64 z 65535 ≠ nn + 1; omega) (by decide) (by decide) (num_of (by omega) (by omega)) (by decide)).mono ?_
  rintro e w9 ⟨rfl, M9, S9⟩
  have N9 := N8.go0 M9 (by simpa using hb0)
  refine ⟨_, _, _, _, _, _, _, _, _, _, _, rfl, Keep.of M9 fun b hb _ hn => by simp at hb hn; omega, ?_⟩
  intro b10 f10
  refine notB rfl ?_
  intro w10 A10
  exact law22_SessionOnce_at2 (c2 w10 (S9.keep0 A10.mod) (N9.go0 A10.mod (by simp)))

end Go.Proofs.Ytohgihgddknmmaa
