/- A reply's bytes: records, texts, numbers, as they are written. -/
import Derived.Laws.IdiomStrings
import Derived.Test.YtohgihgddknmmaaBld
import Derived.Test.YtohgihgddknmmaaVar
import Derived.Test.YtohgihgddknmmaaC4
import Derived.Test.YtohgihgddknmmaaGenC2
namespace Go.Proofs.Ytohgihgddknmmaa
open Go Go.RowKit
set_option linter.unusedVariables false
set_option linter.unusedSimpArgs false

def bs (l : List UInt8) : ByteArray := ⟨l.toArray⟩
theorem bs_size (l : List UInt8) : (bs l).size = l.length := by simp [bs, ByteArray.size]
theorem bs_append (a : List UInt8) (s : ByteArray) : bs a ++ s = bs (a ++ s.data.toList) := by
  apply ByteArray.ext
  simp [bs, ByteArray.data_append]
theorem bs_app (a b : List UInt8) : bs a ++ bs b = bs (a ++ b) := by rw [bs_append]; simp [bs]
theorem vPutL_len (n : Nat) (hn : n < 18446744073709551616) : 1 ≤ (vPutL n).length ∧ (vPutL n).length ≤ 10 := by
  have := sevL_len 9 n (by omega)
  simp [vPutL]; omega
def putT (s : ByteArray) : List UInt8 := vPutL s.size ++ s.data.toList
theorem putT_len (s : ByteArray) (hs : s.size ≤ 4611686018427387904) : 1 ≤ (putT s).length ∧ (putT s).length ≤ s.size + 10 := by
  have h := vPutL_len s.size (by omega)
  have e : (putT s).length = (vPutL s.size).length + s.size := by rw [putT, List.length_append, Array.length_toList]; rfl
  omega
theorem wrapU {n : Nat} (hn : n < 18446744073709551616) : IntKind.wrap .u64 (n : Int) = (n : Int) := by rw [IntKind.wrap_u64]; omega

theorem PutText_ok (s : ByteArray) (hs : s.size ≤ 4611686018427387904) (w : World) : Calls Try.prog 67 #[.string s] w fun e w' => e = .returned (.string (bs (putT s))) ∧ Mod [] w w' := by
  refine go_of (varint_PutText_go ?_)
  unfold varint_PutText_T
  rw [wrapU (by omega)]
  refine (Put_ok s.size (by omega) w).mono ?_
  rintro e w1 ⟨rfl, M1⟩
  have h2 := vPut_size s.size (by omega)
  exact ⟨_, rfl, by omega, congrArg Value.string (bs_append _ _), M1⟩

/-! ### records -/
def kindB (r : PRec) : UInt8 := if r.tomb then 3 else if r.hk then 1 else 0
theorem kind_ok (r : PRec) (w : World) : Calls Try.prog 90 #[r.v] w fun e w' => e = .returned (.int .u8 ((kindB r).toNat : Int)) ∧ Mod [] w w' := by
  obtain ⟨hk, key, tomb, val⟩ := r
  refine go_of (record_kind_go ?_)
  intro b1 f1
  refine brB_of (fun h => ?_) fun h => ?_
  · intro w1 A1; subst h; exact ⟨rfl, A1.mod⟩
  · subst h
    refine brB_of (fun h => ?_) fun h => ?_
    · intro w1 A1; subst h; exact ⟨rfl, A1.mod⟩
    · intro w1 A1; subst h; exact ⟨rfl, A1.mod⟩
def recB (r : PRec) : List UInt8 := [kindB r] ++ (if r.hk then putT r.key else []) ++ (if r.tomb then [] else putT r.val)
theorem recE_small {r : PRec} (h : recE r = 0) : r.key.size ≤ 64 ∧ r.val.size ≤ 512 := by
  unfold recE recN at h
  split at h
  · omega
  · split at h <;> omega
theorem text_ok (r : PRec) (hr : recE r = 0) (w : World) : Calls Try.prog 83 #[r.v] w fun e w' => e = .returned (.string (bs (recB r))) ∧ Mod [] w w' := by
  obtain ⟨hk, vs⟩ := recE_small hr
  refine go_of (record_text_go ?_)
  intro b1 f1 w1 A1
  refine (kind_ok r w1).mono ?_
  rintro e w2 ⟨rfl, M2⟩
  refine ⟨_, rfl, Keep.of0 M2, ?_⟩
  have N2 := A1.mod.go0 M2 (by simp)
  refine al_of fun b3 w3 c3 M3 f3 => ?_
  have N3 := N2.go0 M3 (by simp)
  have hcv := run_convert_bytes_back (P := Try.prog) w3 132 9 5 ⟨b3, 0, none⟩ 1 [kindB r] Try.underlying132 Try.underlying5 Try.underlying9 fun j hj => by
    simp at hj; subst hj
    rw [addr_add, cell_at c3]; rfl
  refine ⟨_, _, hcv, Keep.of0 (Mod.refl _), ?_⟩
  obtain ⟨h1, key, h3, val⟩ := r
  have e0 : (⟨[kindB ⟨h1, key, h3, val⟩].toArray⟩ : ByteArray) = bs [kindB ⟨h1, key, h3, val⟩] := rfl
  rw [e0]
  simp only at hk vs
  have l1 : (putT key).length ≤ 74 := by have := putT_len key (by omega); omega
  have l2 : (putT val).length ≤ 522 := by have := putT_len val (by omega); omega
  refine brB_of (fun g1 => ?_) fun g1 => ?_
  · subst g1
    refine (PutText_ok key (by omega) w3).mono ?_
    rintro e w4 ⟨rfl, M4⟩
    refine ⟨_, rfl, Keep.of0 M4, by simp only [bs_size]; simp; omega, ?_⟩
    rw [bs_app]
    refine brB_of (fun g2 => ?_) fun g2 => ?_
    · have g2 : h3 = false := notT g2
      subst g2
      refine (PutText_ok val (by omega) w4).mono ?_
      rintro e w5 ⟨rfl, M5⟩
      refine ⟨_, rfl, Keep.of0 M5, by simp only [bs_size]; simp; omega, ?_⟩
      exact ⟨by rw [bs_app]; simp [recB], (N3.go0 M4 (by simp)).go0 M5 (by simp)⟩
    · have g2 : h3 = true := notF g2
      subst g2
      exact ⟨by simp [recB], N3.go0 M4 (by simp)⟩
  · subst g1
    refine brB_of (fun g2 => ?_) fun g2 => ?_
    · have g2 : h3 = false := notT g2
      subst g2
      refine (PutText_ok val (by omega) w3).mono ?_
      rintro e w5 ⟨rfl, M5⟩
      refine ⟨_, rfl, Keep.of0 M5, by simp only [bs_size]; simp; omega, ?_⟩
      exact ⟨by rw [bs_app]; simp [recB], N3.go0 M5 (by simp)⟩
    · have g2 : h3 = true := notF g2
      subst g2
      exact ⟨by simp [recB], N3⟩
theorem recB_len {r : PRec} (hr : recE r = 0) : (recB r).length ≤ 600 := by
  obtain ⟨hk, vs⟩ := recE_small hr
  have l1 : (putT r.key).length ≤ 74 := by have := putT_len r.key (by omega); omega
  have l2 : (putT r.val).length ≤ 522 := by have := putT_len r.val (by omega); omega
  unfold recB
  split <;> split <;> simp <;> omega
theorem RecPut_ok (r : PRec) (w : World) : Calls Try.prog 71 #[r.v] w fun e w' => e = .returned (.tuple #[.string (if recE r = 0 then bs (recB r) else bs []), .int .i64 (recE r)]) ∧ Mod [] w w' := by
  refine go_of (record_Put_go ?_)
  intro b1 f1 w1 A1
  refine (RecCheck_ok r w1).mono ?_
  rintro e w2 ⟨rfl, M2⟩
  refine ⟨_, rfl, Keep.of0 M2, ?_⟩
  have N2 := A1.mod.go0 M2 (by simp)
  refine brB_of (fun g1 => ?_) fun g1 => ?_
  · have g : ¬ recE r = 0 := by simpa using g1
    rw [if_neg g]; exact ⟨rfl, N2⟩
  · have g : recE r = 0 := by simpa using g1
    refine (text_ok r g w2).mono ?_
    rintro e w3 ⟨rfl, M3⟩
    refine ⟨_, rfl, Keep.of0 M3, ?_, N2.go0 M3 (by simp)⟩
    rw [if_pos g, g]

/-! ### the writer -/
theorem BTw : BT 147 := ⟨by kernel_rfl, by decide⟩
/-- What has been written. -/
abbrev Bd (B b : Nat) (l : List UInt8) (w : World) : Prop := Lib.IsBuilderF 147 5 B b (Lib.byteCells l) w
/-- What a method of it leaves. -/
structure Wr (B b : Nat) (w w' : World) : Prop where
  bel : Below B w w'
  oth : Lib.OthersKept 5 (some b) w w'
theorem Wr.of0 {B b : Nat} {w w' : World} (M : Mod [] w w') (hB : B ≤ w.heap.size) : Wr B b w w' :=
  ⟨⟨M.os, M.tape, M.output, M.size, fun k hk => M.block k (by omega) (by simp)⟩, fun k o hk _ _ => M.keep0 hk⟩
theorem Wr.trans {B b : Nat} {x y z : World} (h : Wr B b x y) (k : Wr B b y z) : Wr B b x z := ⟨h.bel.trans k.bel, h.oth.trans k.oth⟩
theorem Bd.keep0 {B b : Nat} {l : List UInt8} {w w' : World} (h : Bd B b l w) (M : Mod [] w w') : Bd B b l w' := by
  have one : ∀ {p bs}, Lib.BuilderAtF 147 5 B b p bs w → Lib.BuilderAtF 147 5 B b p bs w' := by
    rintro p bs ⟨hB, v, hb, ⟨hl, ho⟩, hne⟩
    refine ⟨hB, v, M.keep0 hb, ⟨hl, ?_⟩, hne⟩
    rcases ho with ho | ⟨g, cap, cur, fz, hv, hg, hh, r⟩
    · exact .inl ho
    · exact .inr ⟨g, cap, cur, fz, hv, hg, M.keep0 hh, r⟩
  exact h.elim (fun x => .inl (one x)) (fun x => .inr (one x))
theorem Bd.lt {B b : Nat} {l : List UInt8} {w : World} (h : Bd B b l w) : B ≤ b ∧ b < w.heap.size := h.elim (fun x => ⟨x.1, x.lt⟩) (fun x => ⟨x.1, x.lt⟩)
theorem Bd.cells {B b : Nat} {l : List UInt8} {w : World} (h : Bd B b l w) : ∃ (p a : Option Addr) (n c : Nat), w.heap[b]? = some (.cells #[.pointer p, .slice a n c] 147) := by
  have one : ∀ {p bs}, Lib.BuilderAtF 147 5 B b (.pointer p) bs w → ∃ (p a : Option Addr) (n c : Nat), w.heap[b]? = some (.cells #[.pointer p, .slice a n c] 147) := by
    rintro p bs ⟨hB, v, hb, ⟨hl, ho⟩, hne⟩
    rcases ho with ⟨rfl, _⟩ | ⟨g, cap, cur, fz, rfl, hg, hh, r⟩
    · exact ⟨_, _, _, _, hb⟩
    · exact ⟨_, _, _, _, hb⟩
  exact h.elim one one
theorem WS_ok {B b : Nat} {l l2 : List UInt8} {w : World} (h : Bd B b l w) (hlen : l.length + l2.length ≤ 100000000000) (hB : B ≤ w.heap.size) :
    Calls Try.prog 63 #[.pointer (some ⟨b, 0, none⟩), .string (bs l2)] w fun e w' => e = .returned (.tuple #[.int .i64 ((bs l2).size : Nat), .nilIface]) ∧ (Bd B b (l ++ l2) w' ∧ Wr B b w w') := by
  refine (WriteString_ok BTw B b (Lib.byteCells l) (bs l2) w h (by rw [Lib.byteCells_length, bs_size]; omega) hB).mono ?_
  rintro e w' ⟨rfl, h1, h2, h3⟩
  refine ⟨rfl, .inr ?_, ⟨h2, h3⟩⟩
  have e : Lib.byteCells (l ++ l2) = Lib.byteCells l ++ Lib.strCells (bs l2) := by simp [Lib.byteCells, Lib.strCells, bs]
  rw [e]; exact h1
theorem Wnum_ok {B b : Nat} {l : List UInt8} {w : World} {a : Addr} {x : Nat} (h : Bd B b l w) (hlen : l.length ≤ 10000000000) (hB : B ≤ w.heap.size) (ha : w.cell? a = some (.int .i64 (x : Nat))) (hx : x < 9223372036854775808) :
    Calls Try.prog 70 #[.pointer (some ⟨b, 0, none⟩), .pointer (some a)] w fun e w' => e = .returned (.tuple #[]) ∧ (Bd B b (l ++ vPutL x) w' ∧ Wr B b w w') := by
  refine go_of (request_writer_number_go ?_)
  intro w1 A1
  refine ldInt_of (A1.mod.cell0 ha) ?_
  rw [wrapU (by omega)]
  refine (Put_ok x (by omega) w1).mono ?_
  rintro e w2 ⟨rfl, M2⟩
  have N2 := A1.mod.go0 M2 (by simp)
  have s2 := N2.size
  have := vPutL_len x (by omega)
  refine ⟨_, rfl, (WS_ok (h.keep0 N2) (l2 := vPutL x) (by omega) (by omega)).mono ?_⟩
  rintro e w3 ⟨rfl, h3, W3⟩
  exact ⟨_, _, rfl, rfl, h3, (Wr.of0 N2 hB).trans W3⟩
theorem Wname_ok {B b : Nat} {l : List UInt8} {w : World} {a : Addr} {s : ByteArray} (h : Bd B b l w) (hlen : l.length ≤ 10000000000) (hB : B ≤ w.heap.size) (ha : w.cell? a = some (.string s)) (hs : s.size ≤ 1000000000) :
    Calls Try.prog 124 #[.pointer (some ⟨b, 0, none⟩), .pointer (some a)] w fun e w' => e = .returned (.tuple #[]) ∧ (Bd B b (l ++ putT s) w' ∧ Wr B b w w') := by
  refine go_of (request_writer_name_go ?_)
  intro w1 A1
  refine ldStr_of (A1.mod.cell0 ha) ?_
  refine (PutText_ok s (by omega) w1).mono ?_
  rintro e w2 ⟨rfl, M2⟩
  have N2 := A1.mod.go0 M2 (by simp)
  have s2 := N2.size
  have l2 : (putT s).length ≤ 1000000010 := by have := putT_len s (by omega); omega
  refine ⟨_, rfl, (WS_ok (h.keep0 N2) (l2 := putT s) (by omega) (by omega)).mono ?_⟩
  rintro e w3 ⟨rfl, h3, W3⟩
  exact ⟨_, _, rfl, rfl, h3, (Wr.of0 N2 hB).trans W3⟩
end Go.Proofs.Ytohgihgddknmmaa
