/- The statements' fixed calls. -/
import Derived.Test.YtohgihgddknmmaaA8
import Derived.Test.YtohgihgddknmmaaGenA5
namespace Go.Proofs.Ytohgihgddknmmaa
open Go Go.RowKit
set_option linter.unusedVariables false
set_option linter.unusedSimpArgs false

def tickO : POp := ⟨12, ⟨⟨#[]⟩, 0⟩, 1, 0, batch0, ⟨#[]⟩, ⟨#[]⟩, 0, false, []⟩
theorem tick_ok (w : World) : Calls Try.prog 16 #[] w fun e w' => e = .returned (tickO.v nilS nilS) ∧ Mod [] w w' := by
  refine go_of (law22_tick_go ?_)
  intro b1 f1 w2 A2
  exact ⟨rfl, A2.mod⟩
theorem tick_E : opE tickO = 0 := by decide
theorem tick_at (w : World) : OpAt w tickO nilS nilS := ⟨(Row.nil w 0 90 4 encR).sl encR_len, (Row.nil w 0 9 1 encS).sl encS_len, by simp [tickO, batch0], by simp [tickO]⟩
theorem tickE_none {n : Int} (hn : n < 1099511627776) : callE tickO n none = 0 := by rw [callE, if_neg (by rw [tick_E]; decide), if_neg (by decide), if_neg (by omega)]
theorem tickE_some {n : Int} {c : PCall} : callE tickO n (some c) = 220 := by rw [callE, if_neg (by rw [tick_E]; decide), if_pos (by rfl)]
/-- A tick is called. -/
theorem Tick_ok {w : World} {b0 : Nat} {cl rp n v : Int} (h : Ses w b0 cl rp n v none) (hv : 0 ≤ v) (hrp : mayB rp = true) (hn : 0 ≤ n) (hn2 : n < 1099511627776) :
    Calls Try.prog 9 #[.pointer (some ⟨b0, 0, none⟩), tickO.v nilS nilS] w fun e w' => ∃ s' : Sl, e = .returned (.tuple #[(askM cl (v % rp) ⟨cl, n + 1, tickO⟩).v s' nilS nilS, .int .i64 0]) ∧ Mod [b0] w w' ∧ MailOwn w' w.heap.size (askM cl (v % rp) ⟨cl, n + 1, tickO⟩) s' nilS nilS ∧ Ses w' b0 cl rp (n + 1) v (some ⟨cl, n + 1, tickO⟩) := by
  refine (Call_ok h (fun w' _ => tick_at w') hv hrp hn).mono ?_
  rintro e w' ⟨_, rfl, M, hh⟩
  rw [if_pos (tickE_none hn2)] at hh
  obtain ⟨s', rfl, h1, h2⟩ := hh
  exact ⟨s', rfl, M, h1, h2⟩
theorem TickB_ok {w : World} {b0 : Nat} {cl rp n v : Int} {c : PCall} (h : Ses w b0 cl rp n v (some c)) (hv : 0 ≤ v) (hrp : mayB rp = true) (hn : 0 ≤ n) :
    Calls Try.prog 9 #[.pointer (some ⟨b0, 0, none⟩), tickO.v nilS nilS] w fun e w' => e = .returned (.tuple #[mail0.v nilS nilS nilS, .int .i64 220]) ∧ Mod [b0] w w' ∧ Ses w' b0 cl rp n v (some c) := by
  refine (Call_ok h (fun w' _ => tick_at w') hv hrp hn).mono ?_
  rintro e w' ⟨_, rfl, M, hh⟩
  rw [if_neg (by rw [tickE_some]; decide), tickE_some] at hh
  exact ⟨by rw [hh.1], M, hh.2⟩
/-- An answer, as the statements make them. -/
def ansM (to view n off : Int) : PMail := ⟨1, 0, to, view, 0, 0, 0, 0, 0, n, [], ⟨0, off, 0, 0, [], []⟩⟩
theorem ans_E {to view n off : Int} (h1 : num to = true) (h2 : num view = true) (h3 : num n = true) (h4 : num off = true) : mailE0 (ansM to view n off) = 0 := by
  have n0 : num 0 = true := by decide
  have n1 : num 1 = true := by decide
  have e1 : (numsL (ansM to view n off)).all num = true := by simp [numsL, ansM, h1, h2, h3, n0, n1]
  rw [mailE0, if_neg (by simp [ansM]), if_neg (by rw [e1]; decide)]
  simp [repE, ansM, ok0, h4, n0]
theorem Ans_ok {w : World} {b0 : Nat} {cl rp n v : Int} {o : Option PCall} (h : Ses w b0 cl rp n v o) {to view k off : Int} (h1 : num to = true) (h2 : num view = true) (h3 : num k = true) (h4 : num off = true) :
    Calls Try.prog 11 #[.pointer (some ⟨b0, 0, none⟩), (ansM to view k off).v nilS nilS nilS] w fun e w' => ∃ u, e = .returned u ∧ Mod [b0] w w' ∧
      (if heardB 0 (ansM to view k off) cl o = true then ∃ f' p' : Sl, u = .tuple #[(ansM to view k off).r.v f' p', .bool true] ∧ RepOwn w' w.heap.size (ansM to view k off).r f' p' ∧ Ses w' b0 cl rp n (if view > v then view else v) none
      else u = .tuple #[rep00.v nilS nilS, .bool false] ∧ Ses w' b0 cl rp n v o) := by
  refine Hear_ok h (fun w' _ => ?_) fun _ => ⟨by simp [ansM], fun w' _ => ⟨⟨[], (Row.nil w' 0 48 16 CV.cs).sl CV.cs_len, by simp, rfl⟩, ⟨(Row.nil w' 0 111 5 encF).sl encF_len, (Row.nil w' 0 29 2 encP).sl encP_len, by simp [ansM], by simp [ansM]⟩⟩⟩
  have := MsgCheck0_ok (w := w') (m := ansM to view k off) (s := nilS) (f := nilS) (p := nilS) rfl ⟨(Row.nil w' 0 111 5 encF).sl encF_len, (Row.nil w' 0 29 2 encP).sl encP_len, by simp [ansM], by simp [ansM]⟩
  rwa [ans_E h1 h2 h3 h4] at this
theorem AnsYes_ok {w : World} {b0 : Nat} {cl rp n v : Int} {c : PCall} (h : Ses w b0 cl rp n v (some c)) {view off : Int} (h1 : num cl = true) (h2 : num view = true) (h3 : num c.n = true) (h4 : num off = true) :
    Calls Try.prog 11 #[.pointer (some ⟨b0, 0, none⟩), (ansM cl view c.n off).v nilS nilS nilS] w fun e w' => ∃ f' p' : Sl, e = .returned (.tuple #[(ansM cl view c.n off).r.v f' p', .bool true]) ∧ Mod [b0] w w' ∧ Ses w' b0 cl rp n (if view > v then view else v) none := by
  refine (Ans_ok h h1 h2 h3 h4).mono ?_
  rintro e w' ⟨_, rfl, M, hh⟩
  rw [if_pos (by simp [heardB, ansM])] at hh
  obtain ⟨f', p', rfl, _, hS⟩ := hh
  exact ⟨f', p', rfl, M, hS⟩
theorem AnsNo_ok {w : World} {b0 : Nat} {cl rp n v : Int} {o : Option PCall} (h : Ses w b0 cl rp n v o) {to view k off : Int} (hno : ∀ c, o = some c → k ≠ c.n) (h1 : num to = true) (h2 : num view = true) (h3 : num k = true) (h4 : num off = true) :
    Calls Try.prog 11 #[.pointer (some ⟨b0, 0, none⟩), (ansM to view k off).v nilS nilS nilS] w fun e w' => e = .returned (.tuple #[rep00.v nilS nilS, .bool false]) ∧ Mod [b0] w w' ∧ Ses w' b0 cl rp n v o := by
  refine (Ans_ok h h1 h2 h3 h4).mono ?_
  rintro e w' ⟨_, rfl, M, hh⟩
  rw [if_neg] at hh
  · exact ⟨by rw [hh.1], M, hh.2⟩
  · cases o with
    | none => simp [heardB]
    | some c => simp only [heardB, decide_eq_true_eq]; rintro ⟨_, _, _, hk⟩; exact hno c rfl hk
theorem one_len {w : World} {B : Nat} {cl to : Int} {c : PCall} {s : Sl} (h : MailOwn w B (askM cl to c) s nilS nilS) : s.n = 1 := by
  obtain ⟨ll, h1, _, h3⟩ := h.calls
  have := congrArg List.length h3
  simp [askM] at this
  rw [h1.1, this]
theorem mails_len {w : World} {B : Nat} {s : Sl} {xs : List PMail} (h : MailsOwn w B s xs) : s.n = xs.length := by
  obtain ⟨ll, h1, _, h3⟩ := h
  rw [h1.1, ← h3, List.length_map]
theorem mails_keep {w w' : World} {B : Nat} {s : Sl} {xs : List PMail} (h : MailsOwn w B s xs) (M : Mod [] w w') : MailsOwn w' B s xs := by
  obtain ⟨ll, h1, h2, h3⟩ := h
  exact ⟨ll, h1.keep0 M, fun y hy => (h2 y hy).keep0 M, h3⟩
theorem mails_keepB {S : List Nat} {w w' : World} {B : Nat} {s : Sl} {xs : List PMail} (h : MailsOwn w B s xs) (M : Mod S w w') (hS : ∀ k ∈ S, k < B) : MailsOwn w' B s xs := by
  obtain ⟨ll, h1, h2, h3⟩ := h
  exact ⟨ll, h1.keep M fun ad ha hk => by have := h1.base ad ha; have := hS _ hk; omega, fun y hy => (h2 y hy).keepB M hS, h3⟩
theorem mails_ix {w : World} {B : Nat} {s : Sl} {xs : List PMail} (h : MailsOwn w B s xs) {i : Nat} {m : PMail} (hi : xs[i]? = some m) : ∃ y : MV, y.m = m ∧ MailOwn w B y.m y.s y.f y.p ∧ ∀ {F : Addr → Prop}, (∀ q, (∀ w', Mod [] w w' → ∀ j v, y.cs[j]? = some v → w'.cell? (q.add j) = some v) → F q) → ixA s.a s.n (i : Int) 17 F := by
  obtain ⟨ll, h1, h2, h3⟩ := h
  rw [← h3, List.getElem?_map, Option.map_eq_some_iff] at hi
  obtain ⟨y, hy, rfl⟩ := hi
  exact ⟨y, rfl, h2 y (List.mem_of_getElem? hy), fun hF => (h1.sl MV.cs_len).ixW hy hF⟩


set_option maxHeartbeats 1000000 in
theorem Fixed_ok (w : World) : Calls Try.prog 15 #[] w fun e w' => e = .returned (.bool true) ∧ Mod [] w w' := by
  refine go_of (law22_fixed_go ?_)
  have hrp : mayB 3 = true := by decide
  refine (New_ok w).mono ?_
  rintro e w1 ⟨_, rfl, h1, M1⟩
  rw [if_pos ⟨by decide, by decide, hrp⟩] at h1
  obtain ⟨b0, rfl, hb0, S1⟩ := h1
  refine ⟨_, _, rfl, brB_of (fun h => by cases h) fun _ => brB_of (fun h => by cases h) fun _ => ?_⟩
  refine (tick_ok w1).mono ?_
  rintro e w2 ⟨rfl, M2⟩
  refine ⟨_, _, _, _, _, _, _, _, _, _, _, _, _, _, _, _, _, _, rfl, ?_⟩
  have N2 := M1.go0 M2 (by simp)
  refine (Tick_ok (S1.keep0 M2) (by decide) hrp (by decide) (by decide)).mono ?_
  rintro e w3 ⟨s3, rfl, M3, O3, S3⟩
  have N3 := N2.go0 M3 (by simpa using hb0)
  have l3 := S3.lt
  refine ⟨_, _, _, _, _, _, _, _, _, _, _, _, _, _, _, _, _, _, _, _, _, _, _, _, rfl, ?_⟩
  intro b4 f4 w4 A4
  have N4 := N3.go0 A4.mod (by simp)
  have s4 := A4.mod.size
  refine (tick_ok w4).mono ?_
  rintro e w5 ⟨rfl, M5⟩
  have N5 := N4.go0 M5 (by simp)
  have s5 := M5.size
  refine ⟨_, _, _, _, _, _, _, _, _, _, _, _, _, _, _, _, _, _, rfl, Keep.of0 M5, ?_⟩
  refine (TickB_ok ((S3.keep0 A4.mod).keep0 M5) (by decide) hrp (by decide)).mono ?_
  rintro e w6 ⟨rfl, M6, S6⟩
  have N6 := N5.go0 M6 (by simpa using hb0)
  have s6 := M6.size
  refine ⟨_, _, _, _, _, _, _, _, _, _, _, _, _, _, _, _, _, _, _, _, _, _, _, _, rfl, Keep.of M6 fun b hb _ hn => by simp at hb hn; omega, ?_⟩
  intro b7 f7 w7 A7
  have N7 := N6.go0 A7.mod (by simp)
  have s7 := A7.mod.size
  refine (Retry_ok hrp (S6.keep0 A7.mod)).mono ?_
  rintro e w8 ⟨_, rfl, s8, rfl, L8, M8⟩
  have N8 := N7.go0 M8 (by simp)
  have s8' := M8.size
  refine ⟨_, _, _, rfl, Keep.of0 M8, ?_⟩
  have S8 := (S6.keep0 A7.mod).keep0 M8
  refine (AnsNo_ok S8 (to := 5) (view := 0) (k := 2) (off := 0) (by rintro c hc; cases hc; decide) (by decide) (by decide) (by decide) (by decide)).mono ?_
  rintro e w9 ⟨rfl, M9, S9⟩
  have N9 := N8.go0 M9 (by simpa using hb0)
  have s9 := M9.size
  have L9 := mails_keepB L8 M9 (by simp; omega)
  refine ⟨_, _, _, _, _, _, _, _, _, _, _, rfl, Keep.of M9 fun b hb _ hn => by simp at hb hn; omega, ?_⟩
  intro b10 f10 w10 A10
  have N10 := N9.go0 A10.mod (by simp)
  have s10 := A10.mod.size
  refine (Waits_ok (S9.keep0 A10.mod)).mono ?_
  rintro e w11 ⟨_, rfl, ⟨rs, ts, rfl, _⟩, M11⟩
  have N11 := N10.go0 M11 (by simp)
  have s11 := M11.size
  refine ⟨_, _, _, _, _, _, _, _, _, _, _, _, _, _, _, _, _, _, _, _, _, rfl, Keep.of0 M11, ?_⟩
  intro b12 f12 w12 A12
  have N12 := N11.go0 A12.mod (by simp)
  have s12 := A12.mod.size
  have S12 := ((S9.keep0 A10.mod).keep0 M11).keep0 A12.mod
  have L12 := mails_keep (mails_keep (mails_keep L9 A10.mod) M11) A12.mod
  refine (AnsYes_ok S12 (view := 4) (off := 7) (by decide) (by decide) (by decide) (by decide)).mono ?_
  rintro e w13 ⟨f13, p13, rfl, M13, S13⟩
  have N13 := N12.go0 M13 (by simpa using hb0)
  have s13 := M13.size
  have L13 := mails_keepB L12 M13 (by simp; omega)
  refine ⟨_, _, _, _, _, _, _, _, _, _, _, rfl, Keep.of M13 fun b hb _ hn => by simp at hb hn; omega, ?_⟩
  intro b14 f14 w14 A14
  have N14 := N13.go0 A14.mod (by simp)
  have s14 := A14.mod.size
  refine (AnsNo_ok (S13.keep0 A14.mod) (to := 5) (view := 0) (k := 1) (off := 0) (by rintro c hc; cases hc) (by decide) (by decide) (by decide) (by decide)).mono ?_
  rintro e w15 ⟨rfl, M15, S15⟩
  have N15 := N14.go0 M15 (by simpa using hb0)
  have s15 := M15.size
  have L15 := mails_keepB (mails_keep L13 A14.mod) M15 (by simp; omega)
  refine ⟨_, _, _, _, _, _, _, _, _, _, _, rfl, Keep.of M15 fun b hb _ hn => by simp at hb hn; omega, ?_⟩
  intro b16 f16 w16 A16
  have N16 := N15.go0 A16.mod (by simp)
  have s16 := A16.mod.size
  refine (tick_ok w16).mono ?_
  rintro e w17 ⟨rfl, M17⟩
  have N17 := N16.go0 M17 (by simp)
  have s17 := M17.size
  refine ⟨_, _, _, _, _, _, _, _, _, _, _, _, _, _, _, _, _, _, rfl, Keep.of0 M17, ?_⟩
  refine (Tick_ok ((S15.keep0 A16.mod).keep0 M17) (by decide) hrp (by decide) (by decide)).mono ?_
  rintro e w18 ⟨s18, rfl, M18, O18, S18⟩
  have N18 := N17.go0 M18 (by simpa using hb0)
  have s18' := M18.size
  have L18 := mails_keepB (mails_keep (mails_keep L15 A16.mod) M17) M18 (by simp; omega)
  refine ⟨_, _, _, _, _, _, _, _, _, _, _, _, _, _, _, _, _, _, _, _, _, _, _, _, rfl, Keep.of M18 fun b hb _ hn => by simp at hb hn; omega, ?_⟩
  intro b19 f19 w19 A19
  have N19 := N18.go0 A19.mod (by simp)
  have s19 := A19.mod.size
  have hbad : callE (⟨-1, ⟨⟨#[]⟩, 0⟩, 0, 0, batch0, ⟨#[]⟩, ⟨#[]⟩, 0, false, []⟩ : POp) (0 + 1 + 1) (some ⟨5, 0 + 1 + 1, tickO⟩) = 41 := by decide
  refine (Call_ok (op := ⟨-1, ⟨⟨#[]⟩, 0⟩, 0, 0, batch0, ⟨#[]⟩, ⟨#[]⟩, 0, false, []⟩) (rs := nilS) (ts := nilS) (S18.keep0 A19.mod) (fun w' _ => ⟨(Row.nil w' 0 90 4 encR).sl encR_len, (Row.nil w' 0 9 1 encS).sl encS_len, by simp [batch0], by simp⟩) (by decide) hrp (by decide)).mono ?_
  rintro e w20 ⟨_, rfl, M20, h20⟩
  rw [if_neg (by rw [hbad]; decide), hbad] at h20
  obtain ⟨rfl, S20⟩ := h20
  have N20 := N19.go0 M20 (by simpa using hb0)
  have s20 := M20.size
  have L20 := mails_keepB (mails_keep L18 A19.mod) M20 (by simp; omega)
  refine ⟨_, _, _, _, _, _, _, _, _, _, _, _, _, _, _, _, _, _, _, _, _, _, _, _, rfl, Keep.of M20 fun b hb _ hn => by simp at hb hn; omega, ?_⟩
  intro b21 f21 w21 A21
  have N21 := N20.go0 A21.mod (by simp)
  refine (New_ok w21).mono ?_
  rintro e w22 ⟨_, rfl, h22, M22⟩
  rw [if_neg (by decide)] at h22
  subst h22
  refine ⟨_, _, rfl, Keep.of0 M22, ?_⟩
  refine (New_ok w22).mono ?_
  rintro e w23 ⟨_, rfl, h23, M23⟩
  rw [if_neg (by decide)] at h23
  subst h23
  refine ⟨_, _, rfl, Keep.of0 M23, ?_⟩
  have N23 := (N21.go0 M22 (by simp)).go0 M23 (by simp)
  have L23 := mails_keep (mails_keep (mails_keep L20 A21.mod) M22) M23
  have S23 := ((S20.keep0 A21.mod).keep0 M22).keep0 M23
  have hn3 := one_len O3
  have hn8 : s8.n = 3 := by rw [mails_len L23]; rfl
  obtain ⟨y, hy, _, hix⟩ := mails_ix L23 (i := 2) (m := askM 5 2 ⟨5, 0 + 1, tickO⟩) rfl
  have yes : ∀ {t : Bool} {A B : Prop}, t = true → A → brB t A B := fun ht ha => brB_of (fun _ => ha) fun h => by rw [ht] at h; cases h
  refine yes (by decide) (yes (by decide) (yes (by decide) (yes (by decide) (yes (by rw [hn3]; rfl) (yes (by decide) (yes (by rw [hn8]; rfl) ?_))))))
  refine hix fun q hq => ldInt_of (x := y.m.to) (hq w23 (Mod.refl _) 2 _ rfl) ?_
  rw [hy]
  refine yes (by decide) (yes (by decide) (yes (by decide) (yes (by rfl) (yes (by decide) (yes (by decide) (yes (by decide) (yes (by decide) (yes (by decide) (yes (by decide) (yes (by decide) (yes (by decide) ?_)))))))))))
  refine (View_ok S23).mono ?_
  rintro e w24 ⟨rfl, M24⟩
  exact ⟨_, rfl, Keep.of0 M24, by rfl, N23.go0 M24 (by simp)⟩

end Go.Proofs.Ytohgihgddknmmaa
