/- SessionWaits. -/
import Derived.Test.YtohgihgddknmmaaA10
import Derived.Test.YtohgihgddknmmaaIN
namespace Go.Proofs.Ytohgihgddknmmaa
open Go Go.RowKit
set_option linter.unusedVariables false
set_option linter.unusedSimpArgs false

theorem RepRd.wide {w : World} {r : PRep} {f p : Sl} (h : RepRd w r f p) : RepAtW w r f p :=
  ⟨h.found, h.parts, by have h1 := h.found.1; have h2 := h.wf; unfold maxLen at h2; omega, by have h1 := h.parts.1; have h2 := h.wp; unfold maxLen at h2; omega⟩
theorem RepAtW.at {w : World} {r : PRep} {f p : Sl} (h : RepAtW w r f p) (hE : repE r = 0) : RepAt w r f p := by
  have G := RepGood.of hE
  exact ⟨h.found, h.parts, by have := G.lf; omega, by have := G.lp; omega⟩
theorem mailE0_rep {m : PMail} (h : mailE0 m = 0) : repE m.r = 0 := by
  unfold mailE0 at h
  split at h
  · omega
  · split at h
    · omega
    · exact h
/-- What is heard is no answer. -/
theorem HearNo_ok {w : World} {b0 : Nat} {cl rp n v : Int} {o : Option PCall} {m : PMail} {f p : Sl} (h : Ses w b0 cl rp n v o) (hm : m.calls = []) (hR : ∀ w', Mod [b0] w w' → RepAtW w' m.r f p) (hno : ∀ c, o = some c → ¬ (m.kind = 1 ∧ m.to = cl ∧ m.n = c.n)) :
    Calls Try.prog 11 #[.pointer (some ⟨b0, 0, none⟩), m.v nilS f p] w fun e w' => e = .returned (.tuple #[rep00.v nilS nilS, .bool false]) ∧ Mod [b0] w w' ∧ Ses w' b0 cl rp n v o := by
  refine (Hear_ok (ec := mailE0 m) (m := m) (s := nilS) (f := f) (p := p) h (fun w' M => MsgCheck0_ok rfl (hR w' (M.less (by simp)))) fun hE => ⟨by rw [hm]; simp, fun w' M => ⟨?_, (hR w' M).at (mailE0_rep hE)⟩⟩).mono ?_
  · rw [hm]; exact ⟨[], (Row.nil w' 0 48 16 CV.cs).sl CV.cs_len, by simp, rfl⟩
  rintro e w' ⟨_, rfl, M, hh⟩
  rw [if_neg] at hh
  · exact ⟨by rw [hh.1], M, hh.2⟩
  · cases o with
    | none => simp [heardB]
    | some c => simp only [heardB, decide_eq_true_eq]; rintro ⟨_, h1, h2, h3⟩; exact hno c rfl ⟨h1, h2, h3⟩


set_option maxHeartbeats 1000000 in
theorem Waits_law {a : Option Addr} {n c : Nat} {ll : List MR} (z : Int) (w : World) (h : SlAt w 17 MR.cs a n ll) (hg : ∀ x ∈ ll, MailRd w x.m x.s x.f x.p) : Calls Try.prog 5 #[.slice a n c, .int .i64 z] w fun e w' => e = .returned (.bool true) ∧ Mod [] w w' := by
  refine go_of (law22_SessionWaits_go ?_)
  have r1 := bAnd_range (x := z) (m := 65535) (by omega) (by omega)
  unfold law22_SessionWaits_T
  generalize bAnd .i64 z 65535 = z at *
  rw [wrap_id (x := 1 + z) (by omega) (by omega)]
  obtain ⟨cl, hcl⟩ : ∃ cl, cl = 1 + z := ⟨_, rfl⟩
  rw [← hcl]
  have hrp : mayB 3 = true := by decide
  have hen := h.1
  refine (New_ok w).mono ?_
  rintro e w1 ⟨_, rfl, h1, M1⟩
  rw [if_pos ⟨by omega, by omega, hrp⟩] at h1
  obtain ⟨b0, rfl, hb0, S1⟩ := h1
  refine ⟨_, _, rfl, brB_of (fun h => by cases h) fun _ => brB_of (fun h => by cases h) fun _ => ?_⟩
  refine (tick_ok w1).mono ?_
  rintro e w2 ⟨rfl, M2⟩
  refine ⟨_, _, _, _, _, _, _, _, _, _, _, _, _, _, _, _, _, _, rfl, ?_⟩
  have N2 := M1.go0 M2 (by simp)
  refine (Tick_ok (S1.keep0 M2) (by decide) hrp (by decide) (by decide)).mono ?_
  rintro e w3 ⟨s3, rfl, M3, O3, S3⟩
  have N3 := N2.go0 M3 (by simpa using hb0)
  have l3 := S3.lt
  refine ⟨_, _, _, _, _, _, _, _, _, _, _, _, _, _, _, _, _, _, _, _, _, _, _, _, rfl, ?_⟩
  refine (Retry_ok hrp S3).mono ?_
  rintro e w4 ⟨_, rfl, s9, rfl, L4, M4⟩
  have N4 := N3.go0 M4 (by simp)
  have S4 := S3.keep0 M4
  refine ⟨_, _, _, rfl, ?_⟩
  have hn9 : s9.n = 3 := by rw [mails_len L4]; rfl
  have fin : ∀ {w'}, Mod [] w w' → Ses w' b0 cl 3 (0 + 1) 0 (some ⟨cl, 0 + 1, tickO⟩) → brB ((s9.n : Int) == 3) (Calls Try.prog 14 #[.pointer (some ⟨b0, 0, none⟩)] w' fun e w149 => ∃ x150 : Int, e = .returned (.int .i64 x150) ∧ brB (x150 == 0) (Calls Try.prog 15 #[] w149 fun e w151 => ∃ t152 : Bool, e = .returned (.bool t152) ∧ ((Value.bool t152 : Value) = .bool true ∧ Mod [] w w151)) ((Value.bool false : Value) = .bool true ∧ Mod [] w w149)) ((Value.bool false : Value) = .bool true ∧ Mod [] w w') := fun {w'} N S => by
    refine yesB (by rw [hn9]; rfl) ?_
    refine (View_ok S).mono ?_
    rintro e w5 ⟨rfl, M5⟩
    refine ⟨_, rfl, yesB rfl ?_⟩
    refine (Fixed_ok w5).mono ?_
    rintro e w6 ⟨rfl, M6⟩
    exact ⟨_, rfl, rfl, (N.go0 M5 (by simp)).go0 M6 (by simp)⟩
  refine law22_SessionWaits_rule1 (fun mm x w' => ∃ k : Nat, x = k ∧ k ≤ ll.length ∧ k ≤ 20 ∧ Mod [] w w' ∧ Ses w' b0 cl 3 (0 + 1) 0 (some ⟨cl, 0 + 1, tickO⟩) ∧ MailsOwn w' w3.heap.size s9 (asksL cl 3 ⟨cl, 0 + 1, tickO⟩) ∧ mm = ll.length - k) ll.length ⟨0, rfl, by omega, by omega, N4, S4, L4, rfl⟩ ?_
  rintro mm x w5 ⟨k, rfl, hk, hk2, N5, S5, L5, rfl⟩
  refine brB_dec (fun hlt => ?_) fun hge => fin N5 S5
  refine brB_dec (fun hlt2 => ?_) fun hge => fin N5 S5
  have hk' : k < ll.length := by omega
  obtain ⟨y, hy⟩ : ∃ y, ll[k]? = some y := ⟨_, List.getElem?_eq_getElem hk'⟩
  have hyR := hg y (List.mem_of_getElem? hy)
  refine (h.keep0 N5).ix hy fun q hq => ldMail_of (m := y.m) (s := y.s) (f := y.f) (p := y.p) hq ?_
  intro b6 f6
  have rest : ∀ {k9 : Int} {w6 : World}, Adv [] [b6] w5 w6 → ¬ (y.m.kind = 1 ∧ y.m.to = cl ∧ k9 = 1) → cutD3 law22_SessionWaits_la2 ((dnF Try.prog law22_SessionWaits_an (code Try.f5) 388 [1, 1, 1, 0, 0, 1, 0, 0, 1, 0, 1, 1, 1, 1, 1, 1]) (kont3 Try.prog law22_SessionWaits_an (code Try.f5) [1, 1, 1, 1, 1, 1, 0, 1, 0, 0, 1, 0, 0, 1, 1] [law22_SessionWaits_K1 a n c cl (some ⟨b0, 0, none⟩) s9.a s9.n s9.c (fun mm x w' => ∃ k : Nat, x = k ∧ k ≤ ll.length ∧ k ≤ 20 ∧ Mod [] w w' ∧ Ses w' b0 cl 3 (0 + 1) 0 (some ⟨cl, 0 + 1, tickO⟩) ∧ MailsOwn w' w3.heap.size s9 (asksL cl 3 ⟨cl, 0 + 1, tickO⟩) ∧ mm = ll.length - k) (ll.length - k)] (post3 Try.prog Try.f5 [] fun v w' => v = .bool true ∧ Mod [] w w')))
      (law22_SessionWaits_v2 a n c cl (some ⟨b0, 0, none⟩) s9.a s9.n s9.c (k : Nat) b6) (law22_SessionWaits_m2 b6 y.m.kind y.m.fr y.m.to y.m.view y.m.normal y.m.last y.m.commit y.m.nonce y.m.base k9 y.m.r.e y.m.r.off y.m.r.n y.m.r.gen y.f.a y.f.n y.f.c y.p.a y.p.n y.p.c) w6 := fun {k9 w6} A6 hno => by
    refine law22_SessionWaits_cut2 (fun A N C X5 P6 A8 N8 C8 X9 B0 k0 k1 k2 k3 k4 k5 k6 k7 k8 k9 y1 y2 y3 y4 fa fn fc pa pn pc w' => A = a ∧ N = n ∧ C = c ∧ X5 = cl ∧ P6 = some ⟨b0, 0, none⟩ ∧ A8 = s9.a ∧ N8 = s9.n ∧ C8 = s9.c ∧ X9 = (k : Nat) ∧ B0 = b6 ∧ ¬ (k0 = 1 ∧ k2 = cl ∧ k9 = 1) ∧ y1 = y.m.r.e ∧ y2 = y.m.r.off ∧ y3 = y.m.r.n ∧ y4 = y.m.r.gen ∧ fa = y.f.a ∧ fn = y.f.n ∧ fc = y.f.c ∧ pa = y.p.a ∧ pn = y.p.n ∧ pc = y.p.c ∧ w' = w6)
      ⟨rfl, rfl, rfl, rfl, rfl, rfl, rfl, rfl, rfl, rfl, hno, rfl, rfl, rfl, rfl, rfl, rfl, rfl, rfl, rfl, rfl, rfl⟩ ?_
    rintro A N C X5 P6 A8 N8 C8 X9 B0 k0 k1 k2 k3 k4 k5 k6 k7 k8 k9 y1 y2 y3 y4 fa fn fc pa pn pc w' ⟨rfl, rfl, rfl, rfl, rfl, rfl, rfl, rfl, rfl, rfl, hno, rfl, rfl, rfl, rfl, rfl, rfl, rfl, rfl, rfl, rfl, rfl⟩
    have N6 := N5.go0 A6.mod (by simp)
    have s6 := A6.mod.size
    have l5 := S5.lt
    refine (HearNo_ok (m := ⟨k0, k1, k2, k3, k4, k5, k6, k7, k8, k9, [], y.m.r⟩) (f := y.f) (p := y.p) (S5.keep0 A6.mod) rfl (fun w' M => (hyR.rep.keep0 (N6.go0 M (by simpa using hb0))).wide) (by rintro cc hcc; cases hcc; exact hno)).mono ?_
    rintro e w7 ⟨rfl, M7, S7⟩
    have N7 := N6.go0 M7 (by simpa using hb0)
    have s7 := M7.size
    refine ⟨_, _, _, _, _, _, _, _, _, _, _, rfl, Keep.of M7 fun b hb _ hn => by simp at hb hn; omega, ?_⟩
    intro b8 f8 w8 A8
    have N8 := N7.go0 A8.mod (by simp)
    have s8 := A8.mod.size
    refine (tick_ok w8).mono ?_
    rintro e w9 ⟨rfl, M9⟩
    have N9 := N8.go0 M9 (by simp)
    have s9' := M9.size
    refine ⟨_, _, _, _, _, _, _, _, _, _, _, _, _, _, _, _, _, _, rfl, Keep.of0 M9, ?_⟩
    refine (TickB_ok ((S7.keep0 A8.mod).keep0 M9) (by decide) hrp (by decide)).mono ?_
    rintro e w10 ⟨rfl, M10, S10⟩
    have N10 := N9.go0 M10 (by simpa using hb0)
    refine ⟨_, _, _, _, _, _, _, _, _, _, _, _, _, _, _, _, _, _, _, _, _, _, _, _, rfl, Keep.of M10 fun b hb _ hn => by simp at hb hn; omega, ?_⟩
    intro b11 f11
    refine notB rfl (notB rfl ?_)
    intro w11 A11
    have N11 := N10.go0 A11.mod (by simp)
    refine (Retry_ok hrp (S10.keep0 A11.mod)).mono ?_
    rintro e w12 ⟨_, rfl, s12, rfl, L12, M12⟩
    have N12 := N11.go0 M12 (by simp)
    refine ⟨_, _, _, rfl, Keep.of0 M12, ?_⟩
    have L6 := mails_keepB (mails_keep L5 A6.mod) M7 (by simp; omega)
    have L10 := mails_keepB (mails_keep (mails_keep L6 A8.mod) M9) M10 (by simp; omega)
    have L12' := mails_keep (mails_keep L10 A11.mod) M12
    refine (AllR_ok L12 L12' (by simp [retryL, asksL]) (by intro m hm; simp [retryL, asksL] at hm; obtain ⟨i, _, rfl⟩ := hm; simp [askM])).mono ?_
    rintro e w13 ⟨rfl, M13⟩
    refine ⟨_, rfl, Keep.of0 M13, notB (by simp [retryL]) ?_⟩
    exact law22_SessionWaits_leaf1 (ll.length - (k + 1)) (by omega) ⟨k + 1, by rw [wrap_id (by omega) (by omega)]; omega, by omega, by omega, N12.go0 M13 (by simp), ((S10.keep0 A11.mod).keep0 M12).keep0 M13, mails_keep L12' M13, rfl⟩
  refine brB_of (fun g1 => ?_) fun g1 => fun w6 A6 => rest A6 fun ⟨h1, _, _⟩ => by simp [h1] at g1
  refine brB_of (fun g2 => ?_) fun g2 => fun w6 A6 => rest A6 fun ⟨_, h1, _⟩ => by simp [h1] at g2
  refine brB_of (fun g3 => ?_) fun g3 => fun w6 A6 => rest A6 fun ⟨_, _, h1⟩ => by simp [h1] at g3
  exact fun w6 A6 => rest A6 fun ⟨_, _, h1⟩ => by simp at h1

end Go.Proofs.Ytohgihgddknmmaa
