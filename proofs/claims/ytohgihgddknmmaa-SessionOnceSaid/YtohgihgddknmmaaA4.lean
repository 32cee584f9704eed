/- A message's check, where it has no calls. -/
import Derived.Test.YtohgihgddknmmaaA3
import Derived.Test.YtohgihgddknmmaaC7
namespace Go.Proofs.Ytohgihgddknmmaa
open Go Go.RowKit
set_option linter.unusedVariables false
set_option linter.unusedSimpArgs false

/-! ### a builder of its own -/
theorem BTs : BT 134 := ⟨by kernel_rfl, by decide⟩
abbrev Sb (B b : Nat) (l : List UInt8) (w : World) : Prop := Lib.IsBuilderF 134 5 B b (Lib.byteCells l) w
theorem Sb.cells {B b : Nat} {l : List UInt8} {w : World} (h : Sb B b l w) : ∃ (p a : Option Addr) (n c : Nat), w.heap[b]? = some (.cells #[.pointer p, .slice a n c] 134) := by
  have one : ∀ {p bs}, Lib.BuilderAtF 134 5 B b (.pointer p) bs w → ∃ (p a : Option Addr) (n c : Nat), w.heap[b]? = some (.cells #[.pointer p, .slice a n c] 134) := by
    rintro p bs ⟨hB, v, hb, ⟨hl, ho⟩, hne⟩
    rcases ho with ⟨rfl, _⟩ | ⟨g, cap, cur, fz, rfl, hg, hh, r⟩
    · exact ⟨_, _, _, _, hb⟩
    · exact ⟨_, _, _, _, hb⟩
  exact h.elim one one
theorem Sb.keep0 {B b : Nat} {l : List UInt8} {w w' : World} (h : Sb B b l w) (M : Mod [] w w') : Sb B b l w' := by
  have one : ∀ {p bs}, Lib.BuilderAtF 134 5 B b p bs w → Lib.BuilderAtF 134 5 B b p bs w' := by
    rintro p bs ⟨hB, v, hb, ⟨hl, ho⟩, hne⟩
    refine ⟨hB, v, M.keep0 hb, ⟨hl, ?_⟩, hne⟩
    rcases ho with ho | ⟨g, cap, cur, fz, hv, hg, hh, r⟩
    · exact .inl ho
    · exact .inr ⟨g, cap, cur, fz, hv, hg, M.keep0 hh, r⟩
  exact h.elim (fun x => .inl (one x)) (fun x => .inr (one x))
theorem Sb.fresh {B b : Nat} {w : World} (hB : B ≤ b) (h : w.heap[b]? = some (.cells #[.pointer none, .slice none 0 0] 134)) : Sb B b [] w :=
  .inl ⟨hB, .slice none 0 0, h, ⟨by simp [Lib.byteCells], .inl ⟨rfl, by simp [Lib.byteCells]⟩⟩, by simp [Value.ownBlock]⟩
theorem SW_ok {B b : Nat} {l l2 : List UInt8} {w : World} (h : Sb B b l w) (hlen : l.length + l2.length ≤ 100000000000) (hB : B ≤ w.heap.size) :
    Calls Try.prog 63 #[.pointer (some ⟨b, 0, none⟩), .string (bs l2)] w fun e w' => e = .returned (.tuple #[.int .i64 ((bs l2).size : Nat), .nilIface]) ∧ (Sb B b (l ++ l2) w' ∧ Wr B b w w') := by
  refine (WriteString_ok BTs B b (Lib.byteCells l) (bs l2) w h (by rw [Lib.byteCells_length, bs_size]; omega) hB).mono ?_
  rintro e w' ⟨rfl, h1, h2, h3⟩
  refine ⟨rfl, .inr ?_, ⟨h2, h3⟩⟩
  have e : Lib.byteCells (l ++ l2) = Lib.byteCells l ++ Lib.strCells (bs l2) := by simp [Lib.byteCells, Lib.strCells, bs]
  rw [e]; exact h1
theorem SS_ok {B b : Nat} {l : List UInt8} {w : World} (h : Sb B b l w) (h0 : l ≠ []) :
    Calls Try.prog 68 #[.pointer (some ⟨b, 0, none⟩)] w fun e w' => e = .returned (.string (bs l)) ∧ (Sb B b l w' ∧ Wr B b w w') := by
  refine (String_ok BTs B b l w h h0).mono ?_
  rintro e w' ⟨rfl, h1, h2, h3⟩
  exact ⟨rfl, h1, h2, h3⟩

/-! ### no calls -/
theorem IndexCall0_ok {a : Option Addr} {c : Nat} {p : Addr} (w : World) :
    Calls Try.prog 84 #[.slice a 0 c, .func (.func 75) #[] #[.pointer (some p)]] w fun e w' => e = .returned (.int .i64 (-1)) ∧ w' = w := by
  refine go_of (slices_IndexFunc_api_Call_api_Call_go ?_)
  refine slices_IndexFunc_api_Call_api_Call_rule1 (fun mm x w' => x = 0 ∧ w' = w) 0 ⟨rfl, rfl⟩ ?_
  rintro mm x w' ⟨rfl, rfl⟩
  exact brB_dec (fun h => absurd h (by decide)) fun _ => ⟨rfl, rfl⟩
theorem ContainsCall0_ok {a : Option Addr} {c : Nat} {p : Addr} (w : World) :
    Calls Try.prog 74 #[.slice a 0 c, .func (.func 75) #[] #[.pointer (some p)]] w fun e w' => e = .returned (.bool false) ∧ w' = w := by
  refine go_of (slices_ContainsFunc_api_Call_api_Call_go ?_)
  refine (IndexCall0_ok w).mono ?_
  rintro e w1 ⟨rfl, rfl⟩
  exact ⟨_, rfl, rfl, rfl⟩
theorem Checked0_ok {a : Option Addr} {c : Nat} (w : World) :
    Calls Try.prog 62 #[.slice a 0 c] w fun e w' => e = .returned (.int .i64 0) ∧ Mod [] w w' := by
  refine go_of (oplog_checked_go ?_)
  intro b1 f1 w2 A2 h2
  refine (ContainsCall0_ok w2).mono ?_
  rintro e w3 ⟨rfl, rfl⟩
  refine ⟨_, rfl, _, h2, brB_of (fun h => by cases h) fun _ => ?_⟩
  refine oplog_checked_rule1 (fun mm x v w' => x = 0 ∧ w' = w3) 0 ⟨rfl, rfl⟩ ?_
  rintro mm x v w' ⟨rfl, rfl⟩ _
  exact brB_dec (fun h => absurd h (by decide)) fun _ => ⟨rfl, A2.mod⟩
theorem Text0_ok {a : Option Addr} {c : Nat} (w : World) :
    Calls Try.prog 49 #[.slice a 0 c] w fun e w' => e = .returned (.tuple #[.string (bs (vPutL 0)), .int .i64 0]) ∧ Mod [] w w' := by
  refine go_of (oplog_Text_go ?_)
  refine brB_dec (fun h => absurd h (by decide)) fun _ => ?_
  refine (Checked0_ok w).mono ?_
  rintro e w1 ⟨rfl, M1⟩
  have s1 := M1.size
  refine ⟨_, rfl, brB_of (fun h => absurd h (by decide)) fun _ => ?_⟩
  intro b3 f3 w4 A4
  have l4 := A4.lt b3 (by simp)
  refine (Put_ok 0 (by decide) w4).mono ?_
  rintro e w5 ⟨rfl, M5⟩
  refine ⟨_, rfl, Keep.of0 M5, ?_⟩
  intro w7 A7 h7
  have s4 := A4.mod.size
  have s5 := M5.size
  have s7 := A7.mod.size
  have M7 : Mod [] w w7 := ((M1.go0 A4.mod (by simp)).go0 M5 (by simp)).go0 A7.mod (by simp)
  have v0 := vPutL_len 0 (by decide)
  refine (SW_ok (B := w.heap.size) (Sb.fresh (by omega) h7) (l2 := vPutL 0) (by rw [List.length_nil]; omega) M7.size).mono ?_
  rintro e w8 ⟨rfl, hB8, W8⟩
  obtain ⟨p8, a8, n8, c8, hc8⟩ := Sb.cells hB8
  refine ⟨_, _, rfl, p8, a8, n8, c8, hc8, ?_⟩
  refine oplog_Text_rule1 (fun mm x p0 a0 n0 c0 w' => x = 0 ∧ w' = w8) 0 ⟨rfl, rfl⟩ ?_
  rintro mm x p0 a0 n0 c0 w' ⟨rfl, rfl⟩ _
  refine brB_dec (fun h => absurd h (by decide)) fun _ => ?_
  refine (SS_ok hB8 (by intro h; rw [List.nil_append] at h; rw [h] at v0; simp at v0)).mono ?_
  rintro e w9 ⟨rfl, hB9, W9⟩
  obtain ⟨p9, a9, n9, c9, hc9⟩ := Sb.cells hB9
  exact ⟨_, rfl, p9, a9, n9, c9, hc9, rfl, (W8.trans W9).mod M7 (Nat.le_refl _)⟩

/-! ### messages -/
def numsL (m : PMail) : List Int := [m.kind, m.fr, m.to, m.view, m.normal, m.last, m.commit, m.nonce, m.base, m.n]
def mailE0 (m : PMail) : Int := if m.kind < 0 ∨ m.kind ≥ 12 then 180 else if ((numsL m).all num) = false then 1 else repE m.r
theorem all_ok (b : Nat) (w : World) : Calls Try.prog 48 #[.pointer (some ⟨b, 0, none⟩)] w fun e w' => e = .returned (.agg #[.pointer (some ⟨b, 0, none⟩), .pointer (some ⟨b, 1, none⟩), .pointer (some ⟨b, 2, none⟩), .pointer (some ⟨b, 3, none⟩), .pointer (some ⟨b, 4, none⟩), .pointer (some ⟨b, 5, none⟩), .pointer (some ⟨b, 6, none⟩), .pointer (some ⟨b, 7, none⟩), .pointer (some ⟨b, 8, none⟩), .pointer (some ⟨b, 9, none⟩)]) ∧ Mod [] w w' := by
  refine go_of (message_all_go ?_)
  intro b1 f1 w2 A2
  exact ⟨rfl, A2.mod⟩
theorem numsL_cell {w : World} {b : Nat} {m : PMail} {s f p : Sl} (h : w.heap[b]? = some (.cells (m.cs s f p).toArray 44)) {k : Nat} {x : Int} (hx : (numsL m)[k]? = some x) : w.cell? ⟨b, k, none⟩ = some (.int .i64 x) := by
  rw [cell_at h]
  have hk := (List.getElem?_eq_some_iff.1 hx).1
  simp [numsL] at hk
  match k, hk, hx with
  | 0, _, hx | 1, _, hx | 2, _, hx | 3, _, hx | 4, _, hx | 5, _, hx | 6, _, hx | 7, _, hx | 8, _, hx | 9, _, hx => simp [numsL] at hx; subst hx; rfl
theorem arr10_0 (b : Nat) (w' : World) : (Instr.index 101 (.agg #[.pointer (some ⟨b, 0, none⟩), .pointer (some ⟨b, 1, none⟩), .pointer (some ⟨b, 2, none⟩), .pointer (some ⟨b, 3, none⟩), .pointer (some ⟨b, 4, none⟩), .pointer (some ⟨b, 5, none⟩), .pointer (some ⟨b, 6, none⟩), .pointer (some ⟨b, 7, none⟩), .pointer (some ⟨b, 8, none⟩), .pointer (some ⟨b, 9, none⟩)]) (.int .i64 0)).run Try.prog w' = .ok (.pointer (some ⟨b, 0, none⟩)) w' := by kernel_rfl
theorem arr10_1 (b : Nat) (w' : World) : (Instr.index 101 (.agg #[.pointer (some ⟨b, 0, none⟩), .pointer (some ⟨b, 1, none⟩), .pointer (some ⟨b, 2, none⟩), .pointer (some ⟨b, 3, none⟩), .pointer (some ⟨b, 4, none⟩), .pointer (some ⟨b, 5, none⟩), .pointer (some ⟨b, 6, none⟩), .pointer (some ⟨b, 7, none⟩), .pointer (some ⟨b, 8, none⟩), .pointer (some ⟨b, 9, none⟩)]) (.int .i64 1)).run Try.prog w' = .ok (.pointer (some ⟨b, 1, none⟩)) w' := by kernel_rfl
theorem arr10_2 (b : Nat) (w' : World) : (Instr.index 101 (.agg #[.pointer (some ⟨b, 0, none⟩), .pointer (some ⟨b, 1, none⟩), .pointer (some ⟨b, 2, none⟩), .pointer (some ⟨b, 3, none⟩), .pointer (some ⟨b, 4, none⟩), .pointer (some ⟨b, 5, none⟩), .pointer (some ⟨b, 6, none⟩), .pointer (some ⟨b, 7, none⟩), .pointer (some ⟨b, 8, none⟩), .pointer (some ⟨b, 9, none⟩)]) (.int .i64 2)).run Try.prog w' = .ok (.pointer (some ⟨b, 2, none⟩)) w' := by kernel_rfl
theorem arr10_3 (b : Nat) (w' : World) : (Instr.index 101 (.agg #[.pointer (some ⟨b, 0, none⟩), .pointer (some ⟨b, 1, none⟩), .pointer (some ⟨b, 2, none⟩), .pointer (some ⟨b, 3, none⟩), .pointer (some ⟨b, 4, none⟩), .pointer (some ⟨b, 5, none⟩), .pointer (some ⟨b, 6, none⟩), .pointer (some ⟨b, 7, none⟩), .pointer (some ⟨b, 8, none⟩), .pointer (some ⟨b, 9, none⟩)]) (.int .i64 3)).run Try.prog w' = .ok (.pointer (some ⟨b, 3, none⟩)) w' := by kernel_rfl
theorem arr10_4 (b : Nat) (w' : World) : (Instr.index 101 (.agg #[.pointer (some ⟨b, 0, none⟩), .pointer (some ⟨b, 1, none⟩), .pointer (some ⟨b, 2, none⟩), .pointer (some ⟨b, 3, none⟩), .pointer (some ⟨b, 4, none⟩), .pointer (some ⟨b, 5, none⟩), .pointer (some ⟨b, 6, none⟩), .pointer (some ⟨b, 7, none⟩), .pointer (some ⟨b, 8, none⟩), .pointer (some ⟨b, 9, none⟩)]) (.int .i64 4)).run Try.prog w' = .ok (.pointer (some ⟨b, 4, none⟩)) w' := by kernel_rfl
theorem arr10_5 (b : Nat) (w' : World) : (Instr.index 101 (.agg #[.pointer (some ⟨b, 0, none⟩), .pointer (some ⟨b, 1, none⟩), .pointer (some ⟨b, 2, none⟩), .pointer (some ⟨b, 3, none⟩), .pointer (some ⟨b, 4, none⟩), .pointer (some ⟨b, 5, none⟩), .pointer (some ⟨b, 6, none⟩), .pointer (some ⟨b, 7, none⟩), .pointer (some ⟨b, 8, none⟩), .pointer (some ⟨b, 9, none⟩)]) (.int .i64 5)).run Try.prog w' = .ok (.pointer (some ⟨b, 5, none⟩)) w' := by kernel_rfl
theorem arr10_6 (b : Nat) (w' : World) : (Instr.index 101 (.agg #[.pointer (some ⟨b, 0, none⟩), .pointer (some ⟨b, 1, none⟩), .pointer (some ⟨b, 2, none⟩), .pointer (some ⟨b, 3, none⟩), .pointer (some ⟨b, 4, none⟩), .pointer (some ⟨b, 5, none⟩), .pointer (some ⟨b, 6, none⟩), .pointer (some ⟨b, 7, none⟩), .pointer (some ⟨b, 8, none⟩), .pointer (some ⟨b, 9, none⟩)]) (.int .i64 6)).run Try.prog w' = .ok (.pointer (some ⟨b, 6, none⟩)) w' := by kernel_rfl
theorem arr10_7 (b : Nat) (w' : World) : (Instr.index 101 (.agg #[.pointer (some ⟨b, 0, none⟩), .pointer (some ⟨b, 1, none⟩), .pointer (some ⟨b, 2, none⟩), .pointer (some ⟨b, 3, none⟩), .pointer (some ⟨b, 4, none⟩), .pointer (some ⟨b, 5, none⟩), .pointer (some ⟨b, 6, none⟩), .pointer (some ⟨b, 7, none⟩), .pointer (some ⟨b, 8, none⟩), .pointer (some ⟨b, 9, none⟩)]) (.int .i64 7)).run Try.prog w' = .ok (.pointer (some ⟨b, 7, none⟩)) w' := by kernel_rfl
theorem arr10_8 (b : Nat) (w' : World) : (Instr.index 101 (.agg #[.pointer (some ⟨b, 0, none⟩), .pointer (some ⟨b, 1, none⟩), .pointer (some ⟨b, 2, none⟩), .pointer (some ⟨b, 3, none⟩), .pointer (some ⟨b, 4, none⟩), .pointer (some ⟨b, 5, none⟩), .pointer (some ⟨b, 6, none⟩), .pointer (some ⟨b, 7, none⟩), .pointer (some ⟨b, 8, none⟩), .pointer (some ⟨b, 9, none⟩)]) (.int .i64 8)).run Try.prog w' = .ok (.pointer (some ⟨b, 8, none⟩)) w' := by kernel_rfl
theorem arr10_9 (b : Nat) (w' : World) : (Instr.index 101 (.agg #[.pointer (some ⟨b, 0, none⟩), .pointer (some ⟨b, 1, none⟩), .pointer (some ⟨b, 2, none⟩), .pointer (some ⟨b, 3, none⟩), .pointer (some ⟨b, 4, none⟩), .pointer (some ⟨b, 5, none⟩), .pointer (some ⟨b, 6, none⟩), .pointer (some ⟨b, 7, none⟩), .pointer (some ⟨b, 8, none⟩), .pointer (some ⟨b, 9, none⟩)]) (.int .i64 9)).run Try.prog w' = .ok (.pointer (some ⟨b, 9, none⟩)) w' := by kernel_rfl
theorem arr10 (b : Nat) {k : Nat} (hk : k < 10) (w' : World) : (Instr.index 101 (.agg #[.pointer (some ⟨b, 0, none⟩), .pointer (some ⟨b, 1, none⟩), .pointer (some ⟨b, 2, none⟩), .pointer (some ⟨b, 3, none⟩), .pointer (some ⟨b, 4, none⟩), .pointer (some ⟨b, 5, none⟩), .pointer (some ⟨b, 6, none⟩), .pointer (some ⟨b, 7, none⟩), .pointer (some ⟨b, 8, none⟩), .pointer (some ⟨b, 9, none⟩)]) (.int .i64 (k : Nat))).run Try.prog w' = .ok (.pointer (some ⟨b, k, none⟩)) w' := by
  have e : k = 0 ∨ k = 1 ∨ k = 2 ∨ k = 3 ∨ k = 4 ∨ k = 5 ∨ k = 6 ∨ k = 7 ∨ k = 8 ∨ k = 9 := by omega
  rcases e with rfl | rfl | rfl | rfl | rfl | rfl | rfl | rfl | rfl | rfl
  · exact arr10_0 b w'
  · exact arr10_1 b w'
  · exact arr10_2 b w'
  · exact arr10_3 b w'
  · exact arr10_4 b w'
  · exact arr10_5 b w'
  · exact arr10_6 b w'
  · exact arr10_7 b w'
  · exact arr10_8 b w'
  · exact arr10_9 b w'
theorem MsgCheck0_ok {w : World} {m : PMail} {s f p : Sl} (hs : s.n = 0) (h : RepAtW w m.r f p) :
    Calls Try.prog 34 #[m.v s f p] w fun e w' => e = .returned (.int .i64 (mailE0 m)) ∧ Mod [] w w' := by
  refine go_of (message_Check_go ?_)
  intro b1 f1
  refine brB_dec (fun g1 => fun w2 A2 => ⟨by rw [mailE0, if_pos (.inl g1)], A2.mod⟩) fun g1 => ?_
  refine brB_dec (fun g2 => fun w2 A2 => ⟨by rw [mailE0, if_pos (.inr g2)], A2.mod⟩) fun g2 => ?_
  have hE : mailE0 m = if ((numsL m).all num) = false then 1 else repE m.r := by rw [mailE0, if_neg (by omega)]
  intro w4 A4 h4
  refine (all_ok b1 w4).mono ?_
  rintro e w5 ⟨rfl, M5⟩
  have N5 := A4.mod.go0 M5 (by simp)
  have h5 := M5.keep0 h4
  refine ⟨_, _, _, _, _, _, _, _, _, _, rfl, _, _, _, _, _, _, _, _, _, _, _, _, _, _, _, _, _, _, _, _, _, _, _, h5, ?_⟩
  refine message_Check_rule1 (fun mm x w' => ∃ k : Nat, x = k ∧ k ≤ 10 ∧ ((numsL m).take k).all num = true ∧ mm = 10 - k ∧ w' = w5) 10 ⟨0, rfl, by omega, by simp, rfl, rfl⟩ ?_
  rintro mm x w6 ⟨k, rfl, hk, hal, rfl, rfl⟩ h6
  refine brB_dec (fun hlt => ?_) fun hge => ?_
  · have hk' : k < 10 := by omega
    obtain ⟨x, hx⟩ : ∃ x, (numsL m)[k]? = some x := ⟨_, List.getElem?_eq_getElem (by simpa [numsL] using hk')⟩
    have hc := numsL_cell (s := s) (f := f) (p := p) h6 hx
    have bad : ¬ (0 ≤ x ∧ x ≤ 1099511627776) → mailE0 m = 1 := fun hn => by
      rw [hE, if_pos]
      apply Bool.eq_false_iff.2
      intro hh
      have := List.all_eq_true.1 hh x (List.mem_of_getElem? hx)
      exact hn (by simpa [num] using this)
    refine ⟨_, arr10 b1 hk', ldInt_of hc ?_⟩
    refine brB_dec (fun g3 => ⟨by rw [bad (by omega)], N5⟩) fun g3 => ?_
    refine ldInt_of hc ?_
    refine brB_dec (fun g4 => ⟨by rw [bad (by omega)], N5⟩) fun g4 => ?_
    refine message_Check_leaf1 (10 - (k + 1)) (by omega) ⟨k + 1, by rw [wrap_id (by omega) (by omega)]; omega, by omega, ?_, rfl, rfl⟩
    rw [take_all hx, hal]; simp [num]; omega
  · have hk' : k = 10 := by omega
    subst hk'
    rw [List.take_of_length_le (by simp [numsL])] at hal
    rw [hal] at hE
    obtain ⟨sa, sn, sc⟩ := s
    simp only at hs; subst hs
    refine (Text0_ok w6).mono ?_
    rintro e w7 ⟨rfl, M7⟩
    refine ⟨_, _, rfl, _, _, _, _, _, _, _, _, _, _, _, _, _, _, _, _, _, _, _, _, _, _, _, M7.keep0 h6, ?_⟩
    refine brB_of (fun h => absurd h (by decide)) fun _ => ?_
    have N7 := N5.go0 M7 (by simp)
    refine (Reply_okW (h.keep0 N7)).mono ?_
    rintro e w8 ⟨rfl, M8⟩
    refine ⟨_, _, rfl, _, _, _, _, _, _, _, _, _, _, _, _, _, _, _, _, _, _, _, _, _, _, _, (M7.go0 M8 (by simp)).keep0 h6, ?_⟩
    exact ⟨by rw [hE]; rfl, N7.go0 M8 (by simp)⟩
end Go.Proofs.Ytohgihgddknmmaa
