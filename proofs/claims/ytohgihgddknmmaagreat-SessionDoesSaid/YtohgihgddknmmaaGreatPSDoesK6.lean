/- Part 6 of the proof of PSDoes. -/
import Derived.WalkKit
import Derived.WalkSpells
import Derived.WalkLawsBesides
import Derived.Deep.Quiet
import Derived.Test.YtohgihgddknmmaaGreatRows
import Derived.KernelRfl
import Derived.Maps.Keyed
import Derived.Maps.RangeRun
import Derived.DeepKeys4
import Derived.Lib.Strings
import Derived.Shelf.RegionOpenPlain
import Derived.Lib.Slices
import Derived.Lib.Walk
import Derived.Lib.Builder
import Derived.Lib.FrozenHead
import Derived.Lib.OthersKept
import Derived.Lib.AppendStr
import Derived.Lib.UnsafeStr
import Derived.Lib.MakeNoZero
import Derived.Laws.Externs
import Derived.Laws.IdiomCopy
import Derived.Laws.BitsLemmas
import Derived.RangeFuncBox
import Derived.RangeFuncLeaves
import Derived.RangeFuncNested
import Derived.Shelf.Abstract
import Derived.OwnWalkIn
import Derived.TacticsInMore
import Derived.LoopNIn
import Derived.LoopIn
import Derived.Maps.AppendAt
import Derived.Sort.LoopGhostIn
import Derived.Laws.Bits64b
import Derived.Laws.IdiomStrings
import Derived.Test.YtohgihgddknmmaaGreatProg
import Derived.Shelf.Lay
import Derived.Shelf.Strings.FuncGrows
import Derived.Laws.RangeAny
import Derived.Ground.GgwProg
import Derived.Ground.NamesProg
import Derived.ArgAppend
import Derived.Deep.RegionWith
import Derived.ProofKit
import Derived.OpenShut
import Derived.ShutString
import Derived.ChangeOld
import Derived.Below
import Derived.Deep.Slices
import Derived.Test.YtohgihgddknmmaaGreatPSDoesK5
/- SessionFinds. -/
namespace Go.Proofs.YtohgihgddknmmaaGreat
open Go Go.RowKit
set_option linter.unusedVariables false
set_option linter.unusedSimpArgs false

theorem num_of {x : Int} (h0 : 0 ≤ x) (h1 : x ≤ 1099511627776) : num x = true := by simp [num]; omega
end Go.Proofs.YtohgihgddknmmaaGreat

/- The conditions of Go functions' bodies, printed by gen2.py. -/
namespace Go.Proofs.YtohgihgddknmmaaGreat
open Go Go.RowKit
set_option linter.unusedVariables false
set_option maxRecDepth 100000

def ref16_number_an : List LA := []
def ref16_number_T (a0 : Int) (R : Value → World → Prop) (w : World) : Prop :=
 brB (decide (a0 ≥ 1)) (
 R (.bool (decide (a0 ≤ 1099511627776))) w)
 (
 R (.bool false) w)
theorem ref16_number_eq (a0 : Int) (R : Value → World → Prop) (w : World) :
 dnF Tryz.prog ref16_number_an (code Tryz.f130) 400 [] (post3 Tryz.prog Tryz.f130 [] R) ⟨args0 0 [.int .i64 a0], fun _ => undef⟩ ⟨[], w, [], [], true⟩ = ref16_number_T a0 R w := by kernel_rfl
theorem ref16_number_go {a0 : Int} {R : Value → World → Prop} {w : World} (h : ref16_number_T a0 R w) :
 Calls Tryz.prog 130 #[.int .i64 a0] w fun e w' => ∃ v, e = .returned v ∧ R v w' :=
 calls_none Tryz.wide_mixed (f := 130) (args := [.int .i64 a0]) Tryz.func130 rfl rfl (by kernel_rfl) rfl (Eq.mpr (ref16_number_eq a0 R w) h)
def ref16_Check_la1 : LA := ⟨[0, 0, 1, 0, 1], [0, 3], [], 0, []⟩
def ref16_Check_la2 : LA := ⟨[0, 0, 1, 0, 1, 1], [0, 4], [], 0, []⟩
def ref16_Check_an : List LA := [ref16_Check_la1, ref16_Check_la2]
def ref16_Check_v1 (a0 : Option Addr) (a2 a1 : Nat) (a3 : Int) : List Value := [.slice a0 a2 a1, .int .i64 a3]
def ref16_Check_m1 : List TB := []
def ref16_Check_v2 (a0 : Option Addr) (a2 a1 : Nat) (a3 : Int) : List Value := [.slice a0 a2 a1, .int .i64 a3]
def ref16_Check_m2 : List TB := []
def ref16_Check_L1 (a1 : Option Addr) (a0 a3 : Nat) (a2 : Int) (K1 : Kh) (R : Value → World → Prop) (w : World) : Prop :=
 brB (decide (a2 < (a0 : Int))) (
 ixA a1 a0 a2 16 fun q1 =>
 ldInt .i64 w q1 fun x2 =>
 Calls Tryz.prog 130 #[.int .i64 x2] w fun e w3 => ∃ t4 : Bool, e = .returned (.bool t4) ∧
 brB (!t4) (
 R (.int .i64 1) w3)
 (
 ixA a1 a0 a2 16 fun q5 =>
 ldInt .i64 w3 (Addr.add q5 1) fun x6 =>
 Calls Tryz.prog 130 #[.int .i64 x6] w3 fun e w7 => ∃ t8 : Bool, e = .returned (.bool t8) ∧
 brB (!t8) (
 R (.int .i64 1) w7)
 (
 K1 (ref16_Check_v1 a1 a0 a3 (IntKind.wrap .i64 (a2 + 1))) (ref16_Check_m1) w7)))
 (
 loopD3 ref16_Check_la2 (dnF Tryz.prog ref16_Check_an (code Tryz.f82) 396 [0, 0, 1, 0, 1, 1]) (kont3 Tryz.prog ref16_Check_an (code Tryz.f82) [1, 1, 0, 1, 0] [] (post3 Tryz.prog Tryz.f82 [] R)) (ref16_Check_v2 a1 a0 a3 0) (ref16_Check_m2) w)
theorem ref16_Check_L1_eq (a0 : Option Addr) (a2 a1 : Nat) (a3 : Int) (K1 : Kh) (js : Nat → Value) (R : Value → World → Prop) (w : World) :
 headA ref16_Check_la1 ((dnF Tryz.prog ref16_Check_an (code Tryz.f82) 397 [0, 0, 1, 0, 1]) (kthen3 (atA ref16_Check_la1 K1) (kont3 Tryz.prog ref16_Check_an (code Tryz.f82) [1, 0, 1, 0] [] (post3 Tryz.prog Tryz.f82 [] R)))) (ref16_Check_v1 a0 a2 a1 a3) js (ref16_Check_m1) w = ref16_Check_L1 a0 a2 a1 a3 K1 R w := by kernel_rfl
def ref16_Check_K1 (a1 : Option Addr) (a3 a2 : Nat) (I : Nat → Int → World → Prop) (m : Nat) (vals : List Value) (mem : List TB) (w : World) : Prop := ∃ m', m' < m ∧ ∃ a0, vals = (ref16_Check_v1 a1 a3 a2 a0) ∧ mem = (ref16_Check_m1) ∧ I m' a0 w
theorem ref16_Check_leaf1 {a0 : Option Addr} {a2 a1 : Nat} {I : Nat → Int → World → Prop} {m : Nat} {a3 : Int} {w : World} (m' : Nat) (h1 : m' < m) (h2 : I m' a3 w) : ref16_Check_K1 a0 a2 a1 I m (ref16_Check_v1 a0 a2 a1 a3) (ref16_Check_m1) w := ⟨m', h1, _, rfl, rfl, h2⟩
theorem ref16_Check_rule1 {a1 : Option Addr} {a3 a2 : Nat} {a4 : Int} {R : Value → World → Prop} {w0 : World} (I : Nat → Int → World → Prop) (m0 : Nat) (h0 : I m0 a4 w0)
 (hr : ∀ (m : Nat) (a0 : Int) (w : World), I m a0 w → ref16_Check_L1 a1 a3 a2 a0 (ref16_Check_K1 a1 a3 a2 I m) R w) :
 loopD3 ref16_Check_la1 (dnF Tryz.prog ref16_Check_an (code Tryz.f82) 397 [0, 0, 1, 0, 1]) (kont3 Tryz.prog ref16_Check_an (code Tryz.f82) [1, 0, 1, 0] [] (post3 Tryz.prog Tryz.f82 [] R)) (ref16_Check_v1 a1 a3 a2 a4) (ref16_Check_m1) w0 := by
 refine ⟨fun m vals mem w => ∃ a0, vals = (ref16_Check_v1 a1 a3 a2 a0) ∧ mem = (ref16_Check_m1) ∧ I m a0 w, m0, ⟨_, rfl, rfl, h0⟩, ?_⟩
 rintro m vals mem w ⟨a0, rfl, rfl, hI⟩
 refine ⟨rfl, rfl, fun js => ?_⟩
 have h := hr m a0 w hI
 rw [← ref16_Check_L1_eq _ _ _ _ _ js] at h
 exact h
def ref16_Check_L2 (a2 : Option Addr) (a0 a3 : Nat) (a1 : Int) (K2 : Kh) (R : Value → World → Prop) (w : World) : Prop :=
 brB (decide (a1 < (a0 : Int))) (
 ixA a2 a0 a1 16 fun q9 =>
 ldInt .i64 w (Addr.add q9 2) fun x10 => ldStr w (Addr.add (Addr.add q9 2) 1) fun s11 => ldInt .i64 w (Addr.add (Addr.add q9 2) 2) fun x12 => ldInt .i64 w (Addr.add (Addr.add q9 2) 3) fun x13 => ldInt .i64 w (Addr.add (Addr.add q9 2) 4) fun x14 => ldInt .i64 w (Addr.add (Addr.add q9 2) 5) fun x15 => ldInt .i64 w (Addr.add (Addr.add q9 2) 6) fun x16 => ldInt .i64 w (Addr.add (Addr.add q9 2) 7) fun x17 => ldSlice w (Addr.add (Addr.add q9 2) 8) fun a18 n19 c20 => ldStr w (Addr.add (Addr.add q9 2) 9) fun s21 => ldStr w (Addr.add (Addr.add q9 2) 10) fun s22 => ldInt .i64 w (Addr.add (Addr.add q9 2) 11) fun x23 => ldBool w (Addr.add (Addr.add q9 2) 12) fun t24 => ldSlice w (Addr.add (Addr.add q9 2) 13) fun a25 n26 c27 =>
 Calls Tryz.prog 63 #[(.agg #[.int .i64 x10, .string s11, .int .i64 x12, .int .i64 x13, .int .i64 x14, .int .i64 x15, .int .i64 x16, .int .i64 x17, .slice a18 n19 c20, .string s21, .string s22, .int .i64 x23, .bool t24, .slice a25 n26 c27])] w fun e w28 => ∃ x29 : Int, e = .returned (.int .i64 x29) ∧
 brB (x29 != 0) (
 R (.int .i64 x29) w28)
 (
 K2 (ref16_Check_v2 a2 a0 a3 (IntKind.wrap .i64 (a1 + 1))) (ref16_Check_m2) w28))
 (
 R (.int .i64 0) w)
theorem ref16_Check_L2_eq (a0 : Option Addr) (a2 a1 : Nat) (a3 : Int) (K2 : Kh) (js : Nat → Value) (R : Value → World → Prop) (w : World) :
 headA ref16_Check_la2 ((dnF Tryz.prog ref16_Check_an (code Tryz.f82) 396 [0, 0, 1, 0, 1, 1]) (kthen3 (atA ref16_Check_la2 K2) (kont3 Tryz.prog ref16_Check_an (code Tryz.f82) [1, 1, 0, 1, 0] [] (post3 Tryz.prog Tryz.f82 [] R)))) (ref16_Check_v2 a0 a2 a1 a3) js (ref16_Check_m2) w = ref16_Check_L2 a0 a2 a1 a3 K2 R w := by kernel_rfl
def ref16_Check_K2 (a1 : Option Addr) (a3 a2 : Nat) (I : Nat → Int → World → Prop) (m : Nat) (vals : List Value) (mem : List TB) (w : World) : Prop := ∃ m', m' < m ∧ ∃ a0, vals = (ref16_Check_v2 a1 a3 a2 a0) ∧ mem = (ref16_Check_m2) ∧ I m' a0 w
theorem ref16_Check_leaf2 {a0 : Option Addr} {a2 a1 : Nat} {I : Nat → Int → World → Prop} {m : Nat} {a3 : Int} {w : World} (m' : Nat) (h1 : m' < m) (h2 : I m' a3 w) : ref16_Check_K2 a0 a2 a1 I m (ref16_Check_v2 a0 a2 a1 a3) (ref16_Check_m2) w := ⟨m', h1, _, rfl, rfl, h2⟩
theorem ref16_Check_rule2 {a1 : Option Addr} {a3 a2 : Nat} {a4 : Int} {R : Value → World → Prop} {w0 : World} (I : Nat → Int → World → Prop) (m0 : Nat) (h0 : I m0 a4 w0)
 (hr : ∀ (m : Nat) (a0 : Int) (w : World), I m a0 w → ref16_Check_L2 a1 a3 a2 a0 (ref16_Check_K2 a1 a3 a2 I m) R w) :
 loopD3 ref16_Check_la2 (dnF Tryz.prog ref16_Check_an (code Tryz.f82) 396 [0, 0, 1, 0, 1, 1]) (kont3 Tryz.prog ref16_Check_an (code Tryz.f82) [1, 1, 0, 1, 0] [] (post3 Tryz.prog Tryz.f82 [] R)) (ref16_Check_v2 a1 a3 a2 a4) (ref16_Check_m2) w0 := by
 refine ⟨fun m vals mem w => ∃ a0, vals = (ref16_Check_v2 a1 a3 a2 a0) ∧ mem = (ref16_Check_m2) ∧ I m a0 w, m0, ⟨_, rfl, rfl, h0⟩, ?_⟩
 rintro m vals mem w ⟨a0, rfl, rfl, hI⟩
 refine ⟨rfl, rfl, fun js => ?_⟩
 have h := hr m a0 w hI
 rw [← ref16_Check_L2_eq _ _ _ _ _ js] at h
 exact h
def ref16_Check_T (a0 : Option Addr) (a2 a1 : Nat) (R : Value → World → Prop) (w : World) : Prop :=
 loopD3 ref16_Check_la1 (dnF Tryz.prog ref16_Check_an (code Tryz.f82) 397 [0, 0, 1, 0, 1]) (kont3 Tryz.prog ref16_Check_an (code Tryz.f82) [1, 0, 1, 0] [] (post3 Tryz.prog Tryz.f82 [] R)) (ref16_Check_v1 a0 a2 a1 0) (ref16_Check_m1) w
theorem ref16_Check_eq (a0 : Option Addr) (a2 a1 : Nat) (R : Value → World → Prop) (w : World) :
 dnF Tryz.prog ref16_Check_an (code Tryz.f82) 400 [] (post3 Tryz.prog Tryz.f82 [] R) ⟨args0 0 [.slice a0 a2 a1], fun _ => undef⟩ ⟨[], w, [], [], true⟩ = ref16_Check_T a0 a2 a1 R w := by kernel_rfl
theorem ref16_Check_go {a0 : Option Addr} {a2 a1 : Nat} {R : Value → World → Prop} {w : World} (h : ref16_Check_T a0 a2 a1 R w) :
 Calls Tryz.prog 82 #[.slice a0 a2 a1] w fun e w' => ∃ v, e = .returned v ∧ R v w' :=
 calls_none Tryz.wide_mixed (f := 82) (args := [.slice a0 a2 a1]) Tryz.func82 rfl rfl (by kernel_rfl) rfl (Eq.mpr (ref16_Check_eq a0 a2 a1 R w) h)
end Go.Proofs.YtohgihgddknmmaaGreat

/- The document's log. -/
namespace Go.Proofs.YtohgihgddknmmaaGreat
open Go Go.RowKit
set_option linter.unusedVariables false
set_option linter.unusedSimpArgs false

theorem rnum_ok (n : Int) (w : World) : Calls Tryz.prog 130 #[.int .i64 n] w fun e w' => e = .returned (.bool (!oddN n)) ∧ w' = w := by
  refine go_of (ref16_number_go ?_)
  refine brB_dec (fun h => ⟨?_, rfl⟩) fun h => ⟨?_, rfl⟩
  · congr 1; rw [Bool.eq_iff_iff]; simp [oddN]; omega
  · congr 1; symm; rw [Bool.eq_false_iff]; simp [oddN]; omega
theorem RCheck_ok {w : World} {s : Sl} {ll : List CV} (h : CsAt w s ll) (hl : ll.length ≤ 1000000) :
    Calls Tryz.prog 82 #[.slice s.a s.n s.c] w fun e w' => e = .returned (.int .i64 (checkE (ll.map (·.x)))) ∧ Mod [] w w' := by
  have hn := h.sl.1
  have ea : ((ll.map (·.x)).any oddC) = ll.any fun q => oddC q.x := by rw [List.any_map]; rfl
  refine go_of (ref16_Check_go ?_)
  refine ref16_Check_rule1 (fun mm x w' => ∃ k : Nat, x = k ∧ k ≤ ll.length ∧ w' = w ∧ ((ll.take k).any fun q => oddC q.x) = false ∧ mm = ll.length - k) ll.length ⟨0, rfl, by omega, rfl, by simp, rfl⟩ ?_
  rintro mm x w1 ⟨k, rfl, hk, rfl, ha, rfl⟩
  refine brB_dec (fun hlt => ?_) fun hge => ?_
  · obtain ⟨q, hq⟩ : ∃ q, ll[k]? = some q := ⟨_, List.getElem?_eq_getElem (by omega)⟩
    have bad : oddC q.x = true → checkE (ll.map (·.x)) = 1 := fun ho => by
      rw [checkE, if_pos]
      rw [ea]
      exact List.any_eq_true.2 ⟨q, List.mem_of_getElem? hq, ho⟩
    refine h.sl.ix hq fun ad had => ldInt_of (x := q.x.c) (by simpa [add_zero] using had 0 _ rfl) ?_
    refine (rnum_ok q.x.c w1).mono ?_
    rintro _ w2 ⟨rfl, rfl⟩
    refine ⟨_, rfl, brB_of (fun g => ⟨by rw [bad (by simp at g; simp [oddC, g])], Mod.refl _⟩) fun g => ?_⟩
    refine h.sl.ix hq fun ad had => ldInt_of (x := q.x.n) (had 1 _ rfl) ?_
    refine (rnum_ok q.x.n w2).mono ?_
    rintro _ w3 ⟨rfl, rfl⟩
    refine ⟨_, rfl, brB_of (fun g2 => ⟨by rw [bad (by simp at g2; simp [oddC, g2])], Mod.refl _⟩) fun g2 => ?_⟩
    refine ref16_Check_leaf1 (ll.length - (k + 1)) (by omega) ⟨k + 1, by rw [wrap_id (by omega) (by omega)]; omega, by omega, rfl, ?_, rfl⟩
    rw [any_snoc hq, ha]
    simp at g g2
    simp [oddC, g, g2]
  have hk : k = ll.length := by omega
  subst hk
  rw [List.take_length] at ha
  have hE : checkE (ll.map (·.x)) = match (ll.map (·.x)).find? fun x => opE x.op ≠ 0 with
      | none => 0
      | some x => opE x.op := by rw [checkE, ea, ha]; rfl
  refine ref16_Check_rule2 (fun mm x w' => ∃ k : Nat, x = k ∧ k ≤ ll.length ∧ Mod [] w1 w' ∧ (∀ q ∈ ll.take k, opE q.x.op = 0) ∧ mm = ll.length - k) ll.length ⟨0, rfl, by omega, Mod.refl _, by simp, rfl⟩ ?_
  rintro mm x w4 ⟨k, rfl, hk, M4, hz, rfl⟩
  refine brB_dec (fun hlt => ?_) fun hge => ?_
  · obtain ⟨q, hq⟩ : ∃ q, ll[k]? = some q := ⟨_, List.getElem?_eq_getElem (by omega)⟩
    refine (h.sl.keep0 M4).ix hq fun ad had => ldOp_of (op_cells had) ?_
    have ho4 := (h.op q (List.mem_of_getElem? hq)).keep0 M4
    refine (CheckR_ok ho4.recs ho4.topics).mono ?_
    rintro _ w6 ⟨rfl, M6⟩
    have N6 := M4.go0 M6 (by simp)
    refine ⟨_, rfl, brB_of (fun g2 => ?_) fun g2 => ?_⟩
    · have g2 : opE q.x.op ≠ 0 := by simpa using g2
      refine ⟨?_, N6⟩
      rw [hE, find_snoc hz hq g2]
    · have g2 : opE q.x.op = 0 := by simpa using g2
      refine ref16_Check_leaf2 (ll.length - (k + 1)) (by omega) ⟨k + 1, by rw [wrap_id (by omega) (by omega)]; omega, by omega, N6, ?_, rfl⟩
      intro q' hq'
      rw [List.take_add_one, hq] at hq'
      simp at hq'
      rcases hq' with hq' | rfl
      · exact hz q' hq'
      · exact g2
  · have hk : k = ll.length := by omega
    subst hk
    rw [List.take_length] at hz
    refine ⟨?_, M4⟩
    rw [hE]
    have : (ll.map (·.x)).find? (fun x => opE x.op ≠ 0) = none := by
      rw [List.find?_eq_none]
      intro x hx
      obtain ⟨q', hq', rfl⟩ := List.mem_map.1 hx
      simpa using hz q' hq'
    rw [this]
end Go.Proofs.YtohgihgddknmmaaGreat

/- The conditions of Go functions' bodies, printed by gen2.py. -/
namespace Go.Proofs.YtohgihgddknmmaaGreat
open Go Go.RowKit
set_option linter.unusedVariables false
set_option maxRecDepth 100000

def ref16_Text_la1 : LA := ⟨[0, 0, 1, 0, 1, 1, 1, 1, 1], [0, 5, 6], [], 0, []⟩
def ref16_Text_an : List LA := [ref16_Text_la1]
def ref16_Text_v1 (a0 : Option Addr) (a2 a1 : Nat) (a3 : ByteArray) (a4 : Int) : List Value := [.slice a0 a2 a1, .string a3, .int .i64 a4]
def ref16_Text_m1 : List TB := []
def ref16_Text_L1 (a2 : Option Addr) (a0 a4 : Nat) (a3 : ByteArray) (a1 : Int) (K1 : Kh) (R : Value → World → Prop) (w : World) : Prop :=
 brB (decide (a1 < (a0 : Int))) (
 ixA a2 a0 a1 16 fun q5 =>
 ldInt .i64 w (Addr.add q5 2) fun x6 => ldStr w (Addr.add (Addr.add q5 2) 1) fun s7 => ldInt .i64 w (Addr.add (Addr.add q5 2) 2) fun x8 => ldInt .i64 w (Addr.add (Addr.add q5 2) 3) fun x9 => ldInt .i64 w (Addr.add (Addr.add q5 2) 4) fun x10 => ldInt .i64 w (Addr.add (Addr.add q5 2) 5) fun x11 => ldInt .i64 w (Addr.add (Addr.add q5 2) 6) fun x12 => ldInt .i64 w (Addr.add (Addr.add q5 2) 7) fun x13 => ldSlice w (Addr.add (Addr.add q5 2) 8) fun a14 n15 c16 => ldStr w (Addr.add (Addr.add q5 2) 9) fun s17 => ldStr w (Addr.add (Addr.add q5 2) 10) fun s18 => ldInt .i64 w (Addr.add (Addr.add q5 2) 11) fun x19 => ldBool w (Addr.add (Addr.add q5 2) 12) fun t20 => ldSlice w (Addr.add (Addr.add q5 2) 13) fun a21 n22 c23 =>
 Calls Tryz.prog 84 #[(.agg #[.int .i64 x6, .string s7, .int .i64 x8, .int .i64 x9, .int .i64 x10, .int .i64 x11, .int .i64 x12, .int .i64 x13, .slice a14 n15 c16, .string s17, .string s18, .int .i64 x19, .bool t20, .slice a21 n22 c23])] w fun e w24 => ∃ (s25 : ByteArray) (x26 : Int), e = .returned (.tuple #[.string s25, .int .i64 x26]) ∧
 ixA a2 a0 a1 16 fun q27 =>
 ∀ w28, Adv [] [] w24 w28 →
 ldInt .i64 w28 q27 fun x29 =>
 ixA a2 a0 a1 16 fun q30 =>
 ldInt .i64 w28 (Addr.add q30 1) fun x31 =>
 Calls Tryz.prog 83 #[(.int .u64 (IntKind.wrap .u64 x29))] w28 fun e w32 => ∃ s33 : ByteArray, e = .returned (.string s33) ∧ (ldInt .i64 w32 (Addr.add q30 1) fun x34 => ((.int .i64 x34) : Value) = (.int .i64 x31)) ∧
 Calls Tryz.prog 83 #[(.int .u64 (IntKind.wrap .u64 x31))] w32 fun e w35 => ∃ s36 : ByteArray, e = .returned (.string s36) ∧
 catS s33 s36 fun s37 =>
 Calls Tryz.prog 86 #[.string s25] w35 fun e w38 => ∃ s39 : ByteArray, e = .returned (.string s39) ∧
 catS s37 s39 fun s40 =>
 Calls Tryz.prog 85 #[.string s40] w38 fun e w41 => ∃ s42 : ByteArray, e = .returned (.string s42) ∧
 catS a3 s42 fun s43 =>
 K1 (ref16_Text_v1 a2 a0 a4 s43 (IntKind.wrap .i64 (a1 + 1))) (ref16_Text_m1) w41)
 (
 R (.tuple #[.string a3, .int .i64 0]) w)
theorem ref16_Text_L1_eq (a0 : Option Addr) (a2 a1 : Nat) (a3 : ByteArray) (a4 : Int) (K1 : Kh) (js : Nat → Value) (R : Value → World → Prop) (w : World) :
 headA ref16_Text_la1 ((dnF Tryz.prog ref16_Text_an (code Tryz.f32) 393 [0, 0, 1, 0, 1, 1, 1, 1, 1]) (kthen3 (atA ref16_Text_la1 K1) (kont3 Tryz.prog ref16_Text_an (code Tryz.f32) [1, 1, 1, 1, 1, 0, 1, 0] [] (post3 Tryz.prog Tryz.f32 [] R)))) (ref16_Text_v1 a0 a2 a1 a3 a4) js (ref16_Text_m1) w = ref16_Text_L1 a0 a2 a1 a3 a4 K1 R w := by kernel_rfl
def ref16_Text_K1 (a2 : Option Addr) (a4 a3 : Nat) (I : Nat → ByteArray → Int → World → Prop) (m : Nat) (vals : List Value) (mem : List TB) (w : World) : Prop := ∃ m', m' < m ∧ ∃ a0 a1, vals = (ref16_Text_v1 a2 a4 a3 a0 a1) ∧ mem = (ref16_Text_m1) ∧ I m' a0 a1 w
theorem ref16_Text_leaf1 {a0 : Option Addr} {a2 a1 : Nat} {I : Nat → ByteArray → Int → World → Prop} {m : Nat} {a3 : ByteArray} {a4 : Int} {w : World} (m' : Nat) (h1 : m' < m) (h2 : I m' a3 a4 w) : ref16_Text_K1 a0 a2 a1 I m (ref16_Text_v1 a0 a2 a1 a3 a4) (ref16_Text_m1) w := ⟨m', h1, _, _, rfl, rfl, h2⟩
theorem ref16_Text_rule1 {a2 : Option Addr} {a4 a3 : Nat} {a5 : ByteArray} {a6 : Int} {R : Value → World → Prop} {w0 : World} (I : Nat → ByteArray → Int → World → Prop) (m0 : Nat) (h0 : I m0 a5 a6 w0)
 (hr : ∀ (m : Nat) (a0 : ByteArray) (a1 : Int) (w : World), I m a0 a1 w → ref16_Text_L1 a2 a4 a3 a0 a1 (ref16_Text_K1 a2 a4 a3 I m) R w) :
 loopD3 ref16_Text_la1 (dnF Tryz.prog ref16_Text_an (code Tryz.f32) 393 [0, 0, 1, 0, 1, 1, 1, 1, 1]) (kont3 Tryz.prog ref16_Text_an (code Tryz.f32) [1, 1, 1, 1, 1, 0, 1, 0] [] (post3 Tryz.prog Tryz.f32 [] R)) (ref16_Text_v1 a2 a4 a3 a5 a6) (ref16_Text_m1) w0 := by
 refine ⟨fun m vals mem w => ∃ a0 a1, vals = (ref16_Text_v1 a2 a4 a3 a0 a1) ∧ mem = (ref16_Text_m1) ∧ I m a0 a1 w, m0, ⟨_, _, rfl, rfl, h0⟩, ?_⟩
 rintro m vals mem w ⟨a0, a1, rfl, rfl, hI⟩
 refine ⟨rfl, rfl, fun js => ?_⟩
 have h := hr m a0 a1 w hI
 rw [← ref16_Text_L1_eq _ _ _ _ _ _ js] at h
 exact h
def ref16_Text_T (a1 : Option Addr) (a0 a2 : Nat) (R : Value → World → Prop) (w : World) : Prop :=
 brB (decide ((a0 : Int) > 4096)) (
 R (.tuple #[(.string (⟨#[]⟩ : ByteArray)), .int .i64 2]) w)
 (
 Calls Tryz.prog 82 #[.slice a1 a0 a2] w fun e w1 => ∃ x2 : Int, e = .returned (.int .i64 x2) ∧
 brB (x2 != 0) (
 R (.tuple #[(.string (⟨#[]⟩ : ByteArray)), .int .i64 x2]) w1)
 (
 Calls Tryz.prog 83 #[(.int .u64 (IntKind.wrap .u64 (a0 : Int)))] w1 fun e w3 => ∃ s4 : ByteArray, e = .returned (.string s4) ∧
 loopD3 ref16_Text_la1 (dnF Tryz.prog ref16_Text_an (code Tryz.f32) 393 [0, 0, 1, 0, 1, 1, 1, 1, 1]) (kont3 Tryz.prog ref16_Text_an (code Tryz.f32) [1, 1, 1, 1, 1, 0, 1, 0] [] (post3 Tryz.prog Tryz.f32 [] R)) (ref16_Text_v1 a1 a0 a2 s4 0) (ref16_Text_m1) w3))
theorem ref16_Text_eq (a0 : Option Addr) (a2 a1 : Nat) (R : Value → World → Prop) (w : World) :
 dnF Tryz.prog ref16_Text_an (code Tryz.f32) 400 [] (post3 Tryz.prog Tryz.f32 [] R) ⟨args0 0 [.slice a0 a2 a1], fun _ => undef⟩ ⟨[], w, [], [], true⟩ = ref16_Text_T a0 a2 a1 R w := by kernel_rfl
theorem ref16_Text_go {a0 : Option Addr} {a2 a1 : Nat} {R : Value → World → Prop} {w : World} (h : ref16_Text_T a0 a2 a1 R w) :
 Calls Tryz.prog 32 #[.slice a0 a2 a1] w fun e w' => ∃ v, e = .returned v ∧ R v w' :=
 calls_none Tryz.wide_mixed (f := 32) (args := [.slice a0 a2 a1]) Tryz.func32 rfl rfl (by kernel_rfl) rfl (Eq.mpr (ref16_Text_eq a0 a2 a1 R w) h)
end Go.Proofs.YtohgihgddknmmaaGreat

/- The reference's bytes of records, batches, commands, calls. -/
namespace Go.Proofs.YtohgihgddknmmaaGreat
open Go Go.RowKit
set_option linter.unusedVariables false
set_option linter.unusedSimpArgs false

theorem R3Text_ok (r : PRec) (hr : recE r = 0) (w : World) : Calls Tryz.prog 149 #[r.v] w fun e w' => e = .returned (.string (bs (recB r))) ∧ Mod [] w w' := by
  obtain ⟨hk, hv⟩ := recE_small hr
  obtain ⟨k, key, t, val⟩ := r
  refine go_of (ref03_Text_go ?_)
  intro b1 f1
  have hkt : t = true → k = true ∧ val.size = 0 := fun h => by
    subst h
    unfold recE recN at hr
    split at hr
    · omega
    · rename_i h; simp at h; cases k <;> simp_all
  have cat1 : ∀ (x : UInt8) (s : ByteArray), s.size ≤ 1000 → (⟨#[x]⟩ : ByteArray).size + (bs (putT s)).size ≤ 9223372036854775807 := fun x s hs => by
    have := (putT_len s (by omega)).2
    rw [bs_size]; show 1 + _ ≤ _; omega
  have one : ∀ (x : UInt8) (l : List UInt8), (⟨#[x]⟩ : ByteArray) ++ bs l = bs (x :: l) := fun x l => bs_app [x] l
  refine brB_of (fun g => ?_) fun g => ?_
  · obtain ⟨rfl, _⟩ := hkt g
    have g : t = true := g
    subst g
    intro w2 A2
    refine (R1Text_ok key (by simp at hk; omega) w2).mono ?_
    rintro e w3 ⟨rfl, M3⟩
    refine ⟨_, rfl, Keep.of0 M3, cat1 _ _ (by simp at hk; omega), ?_, A2.mod.go0 M3 (by simp)⟩
    rw [one]; simp [recB, kindB]
  · have g : t = false := g
    subst g
    refine brB_of (fun g2 => ?_) fun g2 => ?_
    · have g2 : k = true := g2
      subst g2
      intro w2 A2
      refine (R1Text_ok key (by simp at hk; omega) w2).mono ?_
      rintro e w3 ⟨rfl, M3⟩
      refine ⟨_, rfl, Keep.of0 M3, rfl, cat1 _ _ (by simp at hk; omega), ?_⟩
      refine (R1Text_ok val (by simp at hv; omega) w3).mono ?_
      rintro e w4 ⟨rfl, M4⟩
      have l1 := (putT_len key (by simp at hk; omega)).2
      have l2 := (putT_len val (by simp at hv; omega)).2
      refine ⟨_, rfl, Keep.of0 M4, by rw [one, bs_size, bs_size, List.length_cons]; simp at hk hv; omega, ?_, (A2.mod.go0 M3 (by simp)).go0 M4 (by simp)⟩
      rw [one, bs_app]; simp [recB, kindB]
    · have g2 : k = false := g2
      subst g2
      intro w2 A2
      refine (R1Text_ok val (by simp at hv; omega) w2).mono ?_
      rintro e w3 ⟨rfl, M3⟩
      refine ⟨_, rfl, Keep.of0 M3, cat1 _ _ (by simp at hv; omega), ?_, A2.mod.go0 M3 (by simp)⟩
      rw [one]; simp [recB, kindB]
theorem R3Batch_ok {w : World} {b : PBatch} {rs : Sl} (h : SlAt w 4 encR rs.a rs.n b.recs) :
    Calls Tryz.prog 155 #[b.v rs] w fun e w' => e = .returned (.tuple #[.string (if batchE b = 0 then bs (batchB b) else bs []), .int .i64 (batchE b)]) ∧ Mod [] w w' := by
  refine go_of (ref03_Batch_go ?_)
  have hn := h.1
  intro b1 f1 w2 A2
  refine (AllR3_ok (b := b) (rs := rs) (h.keep0 A2.mod)).mono ?_
  rintro e w3 ⟨rfl, M3⟩
  have N3 := A2.mod.go0 M3 (by simp)
  refine ⟨_, rfl, Keep.of0 M3, brB_of (fun g1 => ?_) fun g1 => ?_⟩
  · have g : ¬ batchE b = 0 := by simpa using g1
    rw [if_neg g]; exact ⟨rfl, N3⟩
  have g : batchE b = 0 := by simpa using g1
  have G := BatGood.of g
  obtain ⟨p1, p2, e1, e2, q1, q2⟩ := G.hd
  have hlr := G.lr
  rw [if_pos g, g]
  obtain ⟨pN, hp⟩ := Int.eq_ofNat_of_zero_le p1
  obtain ⟨eN, he⟩ := Int.eq_ofNat_of_zero_le e1
  obtain ⟨sN, hq⟩ := Int.eq_ofNat_of_zero_le q1
  intro w5 A5
  rw [hp, he, hq, wrapU (by omega), wrapU (by omega), wrapU (by omega), wrapU (by omega)]
  have v1 := (vPutL_len pN (by omega)).2
  have v2 := (vPutL_len eN (by omega)).2
  have v3 := (vPutL_len sN (by omega)).2
  have v4 := (vPutL_len rs.n (by omega)).2
  refine (R1PutN_ok (n := pN) (by omega) w5).mono ?_
  rintro e w6 ⟨rfl, M6⟩
  refine ⟨_, rfl, Keep.of0 M6, rfl, rfl, rfl, ?_⟩
  refine (R1PutN_ok (n := eN) (by omega) w6).mono ?_
  rintro e w7 ⟨rfl, M7⟩
  refine ⟨_, rfl, Keep.of0 M7, rfl, rfl, by rw [bs_size, bs_size]; omega, ?_⟩
  rw [bs_app]
  refine (R1PutN_ok (n := sN) (by omega) w7).mono ?_
  rintro e w8 ⟨rfl, M8⟩
  refine ⟨_, rfl, Keep.of0 M8, rfl, by rw [bs_size, bs_size, List.length_append]; omega, ?_⟩
  rw [bs_app]
  refine (R1PutN_ok (n := rs.n) (by omega) w8).mono ?_
  rintro e w9 ⟨rfl, M9⟩
  refine ⟨_, rfl, Keep.of0 M9, by rw [bs_size, bs_size, List.length_append, List.length_append]; omega, ?_⟩
  rw [bs_app]
  have N9 : Mod [] w w9 := ((((N3.go0 A5.mod (by simp)).go0 M6 (by simp)).go0 M7 (by simp)).go0 M8 (by simp)).go0 M9 (by simp)
  have eh : vPutL pN ++ vPutL eN ++ vPutL sN ++ vPutL rs.n = (batHd b).flatMap vPutL := by
    simp [batHd, hp, he, hq, hn]
  rw [eh]
  refine ref03_Batch_rule1 (fun mm s x w' => ∃ k : Nat, x = k ∧ k ≤ b.recs.length ∧ s = bs ((batHd b).flatMap vPutL ++ (b.recs.take k).flatMap recB) ∧ Mod [] w w' ∧ mm = b.recs.length - k) b.recs.length ⟨0, rfl, by omega, by simp, N9, rfl⟩ ?_
  rintro mm s x w10 ⟨k, rfl, hk, rfl, M10, rfl⟩
  refine brB_dec (fun hlt => ?_) fun hge => ?_
  · obtain ⟨y, hy⟩ : ∃ y, b.recs[k]? = some y := ⟨_, List.getElem?_eq_getElem (by omega)⟩
    have gy := G.r y (List.mem_of_getElem? hy)
    refine (h.keep0 M10).ix hy fun q hq => ldBool_of (by simpa [add_zero] using hq 0 _ rfl) (ldStr_of (hq 1 _ rfl) (ldBool_of (hq 2 _ rfl) (ldStr_of (hq 3 _ rfl) ?_)))
    refine (R3Text_ok y gy w10).mono ?_
    rintro e w11 ⟨rfl, M11⟩
    have l1 := G.len1 4
    rw [List.take_of_length_le (by simp [batHd])] at l1
    have l2 := G.len2 k
    have l3 := recB_len gy
    refine ⟨_, rfl, Keep.of0 M11, by rw [bs_size, bs_size, List.length_append]; omega, ?_⟩
    rw [bs_app]
    refine ref03_Batch_leaf1 (b.recs.length - (k + 1)) (by omega) ⟨k + 1, by rw [wrap_id (by omega) (by omega)]; omega, by omega, ?_, M10.go0 M11 (by simp), rfl⟩
    rw [take_flat hy, ← List.append_assoc]
  · have : k = b.recs.length := by omega
    subst this
    rw [List.take_length]
    exact ⟨rfl, M10⟩

/-! ### letters -/
theorem R4num_ok {x : Int} (hx : num x = true) (w : World) : Calls Tryz.prog 131 #[.int .i64 x] w fun e w' => e = .returned (.string (bs (vPutL x.toNat))) ∧ Mod [] w w' := by
  have := num_le hx
  obtain ⟨n, rfl⟩ := Int.eq_ofNat_of_zero_le this.1
  refine go_of (ref04_num_go ?_)
  unfold ref04_num_T
  rw [wrapU (by omega)]
  refine (R1PutN_ok (n := n) (by omega) w).mono ?_
  rintro e w1 ⟨rfl, M1⟩
  exact ⟨_, rfl, rfl, M1⟩
theorem flag_put (t : Bool) : vPutL (flagN t) = [if t then 1 else 0] := by
  cases t <;> (unfold vPutL; rw [sevL_small (by decide)]; rfl)
def oneL (o : POp) (c : Nat) : List UInt8 :=
  if c = 116 then putT o.part.t else if c = 112 then partB o.part else if c = 110 then vPutL o.n.toNat else if c = 111 then vPutL o.off.toNat else if c = 98 then batchB o.b
  else if c = 103 then putT o.g else if c = 109 then putT o.m else if c = 101 then vPutL o.gen.toNat else if c = 114 then vPutL (flagN o.robin) else namesL o.topics
theorem ha_list {k : Int} (h0 : 0 ≤ k) (h1 : k ≤ 12) {c : Nat} (h : ha k c = true) : c ∈ [112, 116, 110, 111, 98, 103, 109, 101, 114, 108] := by
  rcases kind_cases h0 h1 with rfl | rfl | rfl | rfl | rfl | rfl | rfl | rfl | rfl | rfl | rfl | rfl | rfl <;> simp [ha, hasL] at h <;> simp [h] <;> omega
theorem ha_b {k : Int} (h0 : 0 ≤ k) (h1 : k ≤ 12) (h : ha k 98 = true) : k = 2 := by
  rcases kind_cases h0 h1 with rfl | rfl | rfl | rfl | rfl | rfl | rfl | rfl | rfl | rfl | rfl | rfl | rfl <;> simp [ha, hasL] at h <;> rfl
theorem namesL_size {l : List ByteArray} (h : namesB l = true) : l.length ≤ 8 ∧ (∀ s ∈ l, s.size ≤ 16) := by
  simp only [namesB, Bool.and_eq_true, decide_eq_true_eq] at h
  obtain ⟨⟨⟨l1', l2'⟩, l3'⟩, _⟩ := h
  exact ⟨l2', fun s hs => (name_le (List.all_eq_true.1 l3' s hs)).1⟩
theorem R4one_ok {w : World} {o : POp} {rs ts : Sl} {c : Nat} (h : OpAt w o rs ts) (G : OpGood o) (hc : ha o.kind c = true) :
    Calls Tryz.prog 132 #[o.v rs ts, .int .u8 (c : Nat)] w fun e w' => e = .returned (.string (bs (oneL o c))) ∧ Mod [] w w' := by
  obtain ⟨n1, n2, n3, n4⟩ := G.nn
  have num1 := fun {x : Int} (h : num x = true) => (vPutL_len x.toNat (by have := num_le h; omega)).2
  refine go_of (ref04_one_go ?_)
  intro b1 f1
  refine brB_of (fun g => ?_) fun g => ?_
  · have g : c = 116 := by simp at g; omega
    subst g
    intro w2 A2
    refine (R1Text_ok o.part.t (by have := (name_le (G.nt (by rw [hc]; simp))).1; omega) w2).mono ?_
    rintro e w3 ⟨rfl, M3⟩
    exact ⟨_, rfl, Keep.of0 M3, rfl, A2.mod.go0 M3 (by simp)⟩
  have g116 : c ≠ 116 := by simp at g; omega
  refine brB_of (fun g => ?_) fun g => ?_
  · have g : c = 112 := by simp at g; omega
    subst g
    intro w2 A2
    have hs := (name_le (G.nt (by rw [hc]; simp))).1
    refine (R1Text_ok o.part.t (by omega) w2).mono ?_
    rintro e w3 ⟨rfl, M3⟩
    refine ⟨_, rfl, Keep.of0 M3, rfl, ?_⟩
    refine (R4num_ok n1 w3).mono ?_
    rintro e w4 ⟨rfl, M4⟩
    have := num1 n1
    have := (putT_len o.part.t (by omega)).2
    refine ⟨_, rfl, Keep.of0 M4, by rw [bs_size, bs_size]; omega, ?_, (A2.mod.go0 M3 (by simp)).go0 M4 (by simp)⟩
    rw [bs_app]; rfl
  have g112 : c ≠ 112 := by simp at g; omega
  refine brB_of (fun g => ?_) fun g => ?_
  · have g : c = 110 := by simp at g; omega
    subst g
    intro w2 A2
    refine (R4num_ok n2 w2).mono ?_
    rintro e w3 ⟨rfl, M3⟩
    exact ⟨_, rfl, Keep.of0 M3, rfl, A2.mod.go0 M3 (by simp)⟩
  have g110 : c ≠ 110 := by simp at g; omega
  refine brB_of (fun g => ?_) fun g => ?_
  · have g : c = 111 := by simp at g; omega
    subst g
    intro w2 A2
    refine (R4num_ok n3 w2).mono ?_
    rintro e w3 ⟨rfl, M3⟩
    exact ⟨_, rfl, Keep.of0 M3, rfl, A2.mod.go0 M3 (by simp)⟩
  have g111 : c ≠ 111 := by simp at g; omega
  refine brB_of (fun g => ?_) fun g => ?_
  · have g : c = 98 := by simp at g; omega
    subst g
    intro w2 A2
    refine (R3Batch_ok (b := o.b) (rs := rs) (h.recs.keep0 A2.mod)).mono ?_
    rintro e w3 ⟨rfl, M3⟩
    rw [if_pos (G.b (ha_b G.k.1 G.k.2 hc))]
    exact ⟨_, _, rfl, Keep.of0 M3, rfl, A2.mod.go0 M3 (by simp)⟩
  have g98 : c ≠ 98 := by simp at g; omega
  refine brB_of (fun g => ?_) fun g => ?_
  · have g : c = 103 := by simp at g; omega
    subst g
    intro w2 A2
    refine (R1Text_ok o.g (by have := (name_le (G.ng hc)).1; omega) w2).mono ?_
    rintro e w3 ⟨rfl, M3⟩
    exact ⟨_, rfl, Keep.of0 M3, rfl, A2.mod.go0 M3 (by simp)⟩
  have g103 : c ≠ 103 := by simp at g; omega
  refine brB_of (fun g => ?_) fun g => ?_
  · have g : c = 109 := by simp at g; omega
    subst g
    intro w2 A2
    refine (R1Text_ok o.m (by have := (name_le (G.nm hc)).1; omega) w2).mono ?_
    rintro e w3 ⟨rfl, M3⟩
    exact ⟨_, rfl, Keep.of0 M3, rfl, A2.mod.go0 M3 (by simp)⟩
  have g109 : c ≠ 109 := by simp at g; omega
  refine brB_of (fun g => ?_) fun g => ?_
  · have g : c = 101 := by simp at g; omega
    subst g
    intro w2 A2
    refine (R4num_ok n4 w2).mono ?_
    rintro e w3 ⟨rfl, M3⟩
    exact ⟨_, rfl, Keep.of0 M3, rfl, A2.mod.go0 M3 (by simp)⟩
  have g101 : c ≠ 101 := by simp at g; omega
  refine brB_of (fun g => ?_) fun g => ?_
  · have g : c = 114 := by simp at g; omega
    subst g
    refine brB_of (fun g => ?_) fun g => ?_
    · have g : o.robin = true := g
      intro w2 A2
      exact ⟨by rw [show oneL o 114 = vPutL (flagN o.robin) from rfl, g, flag_put]; rfl, A2.mod⟩
    · have g : o.robin = false := g
      intro w2 A2
      exact ⟨by rw [show oneL o 114 = vPutL (flagN o.robin) from rfl, g, flag_put]; rfl, A2.mod⟩
  have g114 : c ≠ 114 := by simp at g; omega
  have hc8 : c = 108 := by have := ha_list G.k.1 G.k.2 hc; simp at this; omega
  subst hc8
  intro w2 A2
  obtain ⟨hl8, hs16⟩ := namesL_size (G.nl hc)
  have hts := h.topics.1
  refine (R4num_ok (x := (ts.n : Int)) (by simp [num]; omega) w2).mono ?_
  rintro e w3 ⟨rfl, M3⟩
  refine ⟨_, rfl, Keep.of0 M3, ?_⟩
  rw [Int.toNat_natCast]
  refine ref04_one_rule1 (fun mm s x w' => ∃ k : Nat, x = k ∧ k ≤ o.topics.length ∧ s = bs (vPutL ts.n ++ (o.topics.take k).flatMap putT) ∧ Mod [] w w' ∧ mm = o.topics.length - k) o.topics.length ⟨0, rfl, by omega, by simp, A2.mod.go0 M3 (by simp), rfl⟩ ?_
  rintro mm s x w10 ⟨k, rfl, hk, rfl, M10, rfl⟩
  refine brB_dec (fun hlt => ?_) fun hge => ?_
  · obtain ⟨y, hy⟩ : ∃ y, o.topics[k]? = some y := ⟨_, List.getElem?_eq_getElem (by omega)⟩
    have gy := hs16 y (List.mem_of_getElem? hy)
    refine (h.topics.keep0 M10).ix hy fun q hq => ldStr_of (by simpa [add_zero] using hq 0 _ rfl) ?_
    refine (R1Text_ok y (by omega) w10).mono ?_
    rintro e w11 ⟨rfl, M11⟩
    have l1 := (vPutL_len ts.n (by omega)).2
    have l2 := flat_le (f := putT) (c := 26) (l := o.topics.take k) fun s hs => by
      have := hs16 s (List.mem_of_mem_take hs); have := (putT_len s (by omega)).2; omega
    have l3 : (o.topics.take k).length * 26 ≤ 8 * 26 := Nat.mul_le_mul_right _ (by rw [List.length_take]; omega)
    have l4 := (putT_len y (by omega)).2
    refine ⟨_, rfl, Keep.of0 M11, by rw [bs_size, bs_size, List.length_append]; omega, ?_⟩
    rw [bs_app]
    refine ref04_one_leaf1 (o.topics.length - (k + 1)) (by omega) ⟨k + 1, by rw [wrap_id (by omega) (by omega)]; omega, by omega, ?_, M10.go0 M11 (by simp), rfl⟩
    rw [take_flat hy, ← List.append_assoc]
  · have : k = o.topics.length := by omega
    subst this
    rw [List.take_length]
    exact ⟨by rw [show oneL o 108 = namesL o.topics from rfl, namesL, hts], M10⟩
theorem opBody_letters {o : POp} (h0 : 0 ≤ o.kind) (h1 : o.kind ≤ 12) : opBody o = (hasL o.kind).flatMap (oneL o) := by
  obtain ⟨kd, pt, n, off, b, g, m, gen, robin, topics⟩ := o
  rcases kind_cases h0 h1 with h | h | h | h | h | h | h | h | h | h | h | h | h <;> (have h : kd = _ := h; subst h; simp [opBody, hasL, oneL])
theorem hasS_size {k : Int} (h0 : 0 ≤ k) (h1 : k ≤ 12) : (hasS k).size ≤ 5 := by
  rcases kind_cases h0 h1 with rfl | rfl | rfl | rfl | rfl | rfl | rfl | rfl | rfl | rfl | rfl | rfl | rfl <;> decide
theorem hasS_at {k : Int} (h0 : 0 ≤ k) (h1 : k ≤ 12) {i : Nat} (hi : i < (hasS k).size) : ∃ c, (hasL k)[i]? = some c ∧ byteAt (hasS k) i = (c : Nat) ∧ ha k c = true := by
  have hi5 : i < 5 := Nat.lt_of_lt_of_le hi (hasS_size h0 h1)
  rcases kind_cases h0 h1 with rfl | rfl | rfl | rfl | rfl | rfl | rfl | rfl | rfl | rfl | rfl | rfl | rfl <;>
    (have h5 : i = 0 ∨ i = 1 ∨ i = 2 ∨ i = 3 ∨ i = 4 := by omega
     rcases h5 with rfl | rfl | rfl | rfl | rfl <;> first | exact absurd hi (by decide) | exact ⟨_, rfl, by decide, by decide⟩)
theorem hasS_len {k : Int} : (hasS k).size = (hasL k).length := by simp [hasS, ByteArray.size]
theorem R4Put_ok {w : World} {o : POp} {rs ts : Sl} (h : OpAt w o rs ts) :
    Calls Tryz.prog 84 #[o.v rs ts] w fun e w' => e = .returned (.tuple #[.string (if opE o = 0 then bs (opB o) else bs []), .int .i64 (opE o)]) ∧ Mod [] w w' := by
  refine go_of (ref04_Put_go ?_)
  intro b1 f1 w2 A2
  refine (CheckR_ok (o := o) (rs := rs) (ts := ts) (h.keep0 A2.mod).recs (h.keep0 A2.mod).topics).mono ?_
  rintro _ w3 ⟨rfl, M3⟩
  have N3 := A2.mod.go0 M3 (by simp)
  refine ⟨_, rfl, Keep.of0 M3, brB_of (fun g => ?_) fun g => ?_⟩
  · have g : opE o ≠ 0 := by simpa using g
    rw [if_neg g]
    exact ⟨rfl, N3⟩
  have g : opE o = 0 := by simpa using g
  have G := OpGood.of g
  obtain ⟨k0, k1⟩ := G.k
  rw [if_pos g, g]
  intro w5 A5
  refine (R4num_ok (x := o.kind) (by simp [num]; omega) w5).mono ?_
  rintro _ w6 ⟨rfl, M6⟩
  refine ⟨_, rfl, Keep.of0 M6, rfl, ?_⟩
  refine (has_ok k0 k1 w6).mono ?_
  rintro _ w7 ⟨rfl, M7⟩
  refine ⟨_, rfl, Keep.of0 M7, ?_⟩
  have N7 := ((N3.go0 A5.mod (by simp)).go0 M6 (by simp)).go0 M7 (by simp)
  have hlen := hasS_len (k := o.kind)
  have h5 := hasS_size k0 k1
  refine ref04_Put_rule1 (fun mm s x w' => ∃ k : Nat, x = k ∧ k ≤ (hasS o.kind).size ∧ s = bs (vPutL o.kind.toNat ++ ((hasL o.kind).take k).flatMap (oneL o)) ∧ Mod [] w w' ∧ mm = (hasS o.kind).size - k) (hasS o.kind).size ⟨0, rfl, by omega, by simp, N7, rfl⟩ ?_
  rintro mm s x w10 ⟨k, rfl, hk, rfl, M10, rfl⟩
  refine brB_dec (fun hlt => ?_) fun hge => ?_
  · obtain ⟨c, hc1, hc2, hc3⟩ := hasS_at k0 k1 (i := k) (by omega)
    refine ⟨by omega, by omega, ?_⟩
    rw [Int.toNat_natCast, hc2]
    intro w11 A11
    have N11 := M10.go0 A11.mod (by simp)
    refine (R4one_ok (rs := rs) (ts := ts) (h.keep0 N11) G hc3).mono ?_
    rintro _ w12 ⟨rfl, M12⟩
    have lo := opB_len G
    have e1 : (vPutL o.kind.toNat ++ ((hasL o.kind).take k).flatMap (oneL o)) ++ oneL o c = vPutL o.kind.toNat ++ ((hasL o.kind).take (k + 1)).flatMap (oneL o) := by
      rw [take_flat hc1, ← List.append_assoc]
    have e2 : (vPutL o.kind.toNat ++ ((hasL o.kind).take (k + 1)).flatMap (oneL o)).length ≤ (opB o).length := by
      rw [opB, opBody_letters k0 k1, List.length_append, List.length_append]
      have : (hasL o.kind).flatMap (oneL o) = ((hasL o.kind).take (k + 1)).flatMap (oneL o) ++ ((hasL o.kind).drop (k + 1)).flatMap (oneL o) := by
        rw [← List.flatMap_append, List.take_append_drop]
      rw [this, List.length_append]; omega
    refine ⟨_, rfl, Keep.of0 M12, by rw [bs_size, bs_size, ← List.length_append, e1]; omega, ?_⟩
    rw [bs_app, e1]
    exact ref04_Put_leaf1 ((hasS o.kind).size - (k + 1)) (by omega) ⟨k + 1, by rw [wrap_id (by omega) (by omega)]; omega, by omega, rfl, N11.go0 M12 (by simp), rfl⟩
  · have hk : k = (hasL o.kind).length := by omega
    subst hk
    rw [List.take_length]
    exact ⟨by rw [opB, opBody_letters k0 k1], M10⟩
theorem R16Text_ok {w : World} {s : Sl} {ll : List CV} (h : CsAt w s ll) (hl : ll.length ≤ 1000000) :
    Calls Tryz.prog 32 #[.slice s.a s.n s.c] w fun e w' => e = .returned (.tuple #[.string (if textE (ll.map (·.x)) = 0 then bs (textB (ll.map (·.x))) else bs []), .int .i64 (textE (ll.map (·.x)))]) ∧ Mod [] w w' := by
  have hn := h.sl.1
  have el : (ll.map (·.x)).length = ll.length := by simp
  refine go_of (ref16_Text_go ?_)
  refine brB_dec (fun g => ?_) fun g => ?_
  · have e : textE (ll.map (·.x)) = 2 := by rw [textE, if_pos (by rw [el]; omega)]
    rw [e]; exact ⟨rfl, Mod.refl _⟩
  have e : textE (ll.map (·.x)) = checkE (ll.map (·.x)) := by rw [textE, if_neg (by rw [el]; omega)]
  refine (RCheck_ok h hl).mono ?_
  rintro _ w1 ⟨rfl, M1⟩
  refine ⟨_, rfl, brB_of (fun g2 => ?_) fun g2 => ?_⟩
  · have g2 : checkE (ll.map (·.x)) ≠ 0 := by simpa using g2
    rw [e, if_neg g2]; exact ⟨rfl, M1⟩
  have g2 : checkE (ll.map (·.x)) = 0 := by simpa using g2
  have good : ∀ q ∈ ll, oddC q.x = false ∧ opE q.x.op = 0 := fun q hq => checkE_ok.1 g2 q.x (List.mem_map.2 ⟨q, hq, rfl⟩)
  rw [e, if_pos g2, g2, wrapU (by omega)]
  refine (R1PutN_ok (n := s.n) (by omega) w1).mono ?_
  rintro _ w5 ⟨rfl, M5⟩
  refine ⟨_, rfl, ?_⟩
  have v0 := vPutL_len s.n (by omega)
  refine ref16_Text_rule1 (fun mm t x w' => ∃ k : Nat, x = k ∧ k ≤ ll.length ∧ t = bs (vPutL s.n ++ (ll.take k).flatMap fun q => callB q.x) ∧ Mod [] w w' ∧ mm = ll.length - k) ll.length ⟨0, rfl, by omega, by simp, M1.go0 M5 (by simp), rfl⟩ ?_
  rintro mm t x w9 ⟨k, rfl, hk, rfl, N9, rfl⟩
  refine brB_dec (fun hlt => ?_) fun hge => ?_
  · obtain ⟨q, hq⟩ : ∃ q, ll[k]? = some q := ⟨_, List.getElem?_eq_getElem (by omega)⟩
    obtain ⟨gq1, gq2⟩ := good q (List.mem_of_getElem? hq)
    have hodd := oddC_out gq1
    refine h.sl.ixW hq fun ad had => ?_
    have had9 := had w9 N9
    have c1 : ∀ j v, (CV.cs q)[j + 2]? = some v → w9.cell? ((ad.add 2).add j) = some v := fun j v hv => by
      rw [add_add]; have := had9 _ _ hv; rwa [Nat.add_comm] at this
    refine ldInt_of (had9 2 _ rfl) (ldStr_of (c1 1 _ rfl) (ldInt_of (c1 2 _ rfl) (ldInt_of (c1 3 _ rfl) (ldInt_of (c1 4 _ rfl) (ldInt_of (c1 5 _ rfl) (ldInt_of (c1 6 _ rfl) (ldInt_of (c1 7 _ rfl) (ldSlice_of (c1 8 _ rfl) (ldStr_of (c1 9 _ rfl) (ldStr_of (c1 10 _ rfl) (ldInt_of (c1 11 _ rfl) (ldBool_of (c1 12 _ rfl) (ldSlice_of (c1 13 _ rfl) ?_)))))))))))))
    refine (R4Put_ok (o := q.x.op) (rs := q.rs) (ts := q.ts) ((h.op q (List.mem_of_getElem? hq)).keep0 N9)).mono ?_
    rintro _ w11 ⟨rfl, M11⟩
    rw [if_pos gq2]
    refine ⟨_, _, rfl, ?_⟩
    refine h.sl.ixW hq fun ad had => ?_
    intro w12 A12
    have N12 := (N9.go0 M11 (by simp)).go0 A12.mod (by simp)
    refine ldInt_of (by have := had w12 N12 0 _ rfl; rwa [add_zero] at this) ?_
    refine h.sl.ixW hq fun ad had => ldInt_of (had w12 N12 1 _ rfl) ?_
    obtain ⟨cN, hcN⟩ := Int.eq_ofNat_of_zero_le (show 0 ≤ q.x.c by omega)
    obtain ⟨nN, hnN⟩ := Int.eq_ofNat_of_zero_le (show 0 ≤ q.x.n by omega)
    rw [hcN, hnN, wrapU (by omega), wrapU (by omega)]
    refine (R1PutN_ok (n := cN) (by omega) w12).mono ?_
    rintro _ w13 ⟨rfl, M13⟩
    have N13 := N12.go0 M13 (by simp)
    refine ⟨_, rfl, ldInt_of (had w13 N13 1 _ (by rw [← hnN]; rfl)) rfl, ?_⟩
    refine (R1PutN_ok (n := nN) (by omega) w13).mono ?_
    rintro _ w14 ⟨rfl, M14⟩
    have lc := vPutL_len cN (by omega)
    have ln := vPutL_len nN (by omega)
    have lo := opB_len (OpGood.of gq2)
    refine ⟨_, rfl, by rw [bs_size, bs_size]; omega, ?_⟩
    rw [bs_app]
    refine (R1Text_ok (bs (opB q.x.op)) (by rw [bs_size]; omega) w14).mono ?_
    rintro _ w15 ⟨rfl, M15⟩
    have lp := (putT_len (bs (opB q.x.op)) (by rw [bs_size]; omega)).2
    rw [bs_size] at lp
    refine ⟨_, rfl, by rw [bs_size, bs_size, List.length_append]; omega, ?_⟩
    have e2 : bs (vPutL cN ++ vPutL nN) ++ bs (putT (bs (opB q.x.op))) = bs (callR q.x) := by
      rw [bs_app]; unfold callR; rw [hcN, hnN]; rfl
    rw [e2]
    have lr := callR_len gq1 gq2
    refine (RFrame_ok (bs (callR q.x)) (by rw [bs_size]; omega) w15).mono ?_
    rintro _ w16 ⟨rfl, M16⟩
    have hlt2 : (vPutL s.n ++ (ll.take k).flatMap fun q => callB q.x).length ≤ 10 + 4096 * 40000 := by
      have e1 := flat_le (f := fun q : CV => callB q.x) (c := 40000) (l := ll.take k) fun q hq => (callB_len (good q (List.mem_of_mem_take hq)).1 (good q (List.mem_of_mem_take hq)).2).1
      have e3 : (ll.take k).length * 40000 ≤ 4096 * 40000 := Nat.mul_le_mul_right _ (by rw [List.length_take]; omega)
      rw [List.length_append]; omega
    have lcb := callB_len gq1 gq2
    refine ⟨_, rfl, by rw [bs_size, bs_size]; show _ + (callB q.x).length ≤ _; omega, ?_⟩
    rw [bs_app]
    refine ref16_Text_leaf1 (ll.length - (k + 1)) (by omega) ⟨k + 1, by rw [wrap_id (by omega) (by omega)]; omega, by omega, ?_, (((N13.go0 M14 (by simp)).go0 M15 (by simp)).go0 M16 (by simp)), rfl⟩
    rw [take_flat hq, ← List.append_assoc]; rfl
  · have hk : k = ll.length := by omega
    subst hk
    rw [List.take_length]
    refine ⟨?_, N9⟩
    unfold textB; rw [el, hn, List.flatMap_map]
end Go.Proofs.YtohgihgddknmmaaGreat

/- A message's check, of any calls: the program. -/
namespace Go.Proofs.YtohgihgddknmmaaGreat
open Go Go.RowKit
set_option linter.unusedVariables false
set_option linter.unusedSimpArgs false

def mailE (m : PMail) : Int := if m.kind < 0 ∨ m.kind ≥ 12 then 180 else if ((numsL m).all num) = false then 1 else if textE m.calls ≠ 0 then textE m.calls else repE m.r
/-- A message's calls, its reply, of any length. -/
structure MailW (w : World) (m : PMail) (s f p : Sl) : Prop where
  calls : CallsAt w s m.calls
  lc : m.calls.length ≤ 100000
  rep : RepAtW w m.r f p
theorem MailAt.w {w : World} {m : PMail} {s f p : Sl} (h : MailAt w m s f p) (hl : m.calls.length ≤ 100000) : MailW w m s f p := ⟨h.calls, hl, h.rep.wide⟩
theorem MsgCheck_ok {w : World} {m : PMail} {s f p : Sl} (h : MailW w m s f p) :
    Calls Tryz.prog 69 #[m.v s f p] w fun e w' => e = .returned (.int .i64 (mailE m)) ∧ Mod [] w w' := by
  obtain ⟨ll, hll, hop, hcs⟩ := h.calls
  have hl : ll.length ≤ 1000000 := by have := congrArg List.length hcs; have := h.lc; simp at *; omega
  refine go_of (message_Check_go ?_)
  intro b1 f1
  refine brB_dec (fun g1 => fun w2 A2 => ⟨by rw [mailE, if_pos (.inl g1)], A2.mod⟩) fun g1 => ?_
  refine brB_dec (fun g2 => fun w2 A2 => ⟨by rw [mailE, if_pos (.inr g2)], A2.mod⟩) fun g2 => ?_
  have hE : mailE m = if ((numsL m).all num) = false then 1 else if textE m.calls ≠ 0 then textE m.calls else repE m.r := by rw [mailE, if_neg (by omega)]
  intro w4 A4 h4
  refine (all_ok b1 w4).mono ?_
  rintro e w5 ⟨rfl, M5⟩
  have N5 := A4.mod.go0 M5 (by simp)
  have h5 := M5.keep0 h4
  refine ⟨_, _, _, _, _, _, _, _, _, _, rfl, _, _, _, _, _, _, _, _, _, _, _, _, _, _, _, _, _, _, _, _, _, _, _, h5, ?_⟩
  refine message_Check_rule1 (fun mm x w' => ∃ k : Nat, x = k ∧ k ≤ 10 ∧ ((numsL m).take k).all num = true ∧ mm = 10 - k ∧ w' = w5) 10 ⟨0, rfl, by omega, by simp, rfl, rfl⟩ ?_
  rintro mm x w6 ⟨k, rfl, hk, hal, rfl, rfl⟩ h6
  refine brB_dec (fun hlt => ?_) fun hge => ?_
  · have hk' : k < 10 := by omega
    obtain ⟨x, hx⟩ : ∃ x, (numsL m)[k]? = some x := ⟨_, List.getElem?_eq_getElem (by simpa [numsL] using hk')⟩
    have hc := numsL_cell (s := s) (f := f) (p := p) h6 hx
    have bad : ¬ (0 ≤ x ∧ x ≤ 1099511627776) → mailE m = 1 := fun hn => by
      rw [hE, if_pos]
      apply Bool.eq_false_iff.2
      intro hh
      have := List.all_eq_true.1 hh x (List.mem_of_getElem? hx)
      exact hn (by simpa [num] using this)
    refine ⟨_, arr10 b1 hk', ldInt_of hc ?_⟩
    refine brB_dec (fun g3 => ⟨by rw [bad (by omega)], N5⟩) fun g3 => ?_
    refine ldInt_of hc ?_
    refine brB_dec (fun g4 => ⟨by rw [bad (by omega)], N5⟩) fun g4 => ?_
    refine message_Check_leaf1 (10 - (k + 1)) (by omega) ⟨k + 1, by rw [wrap_id (by omega) (by omega)]; omega, by omega, ?_, rfl, rfl⟩
    rw [take_all hx, hal]; simp [num]; omega
  · have hk' : k = 10 := by omega
    subst hk'
    rw [List.take_of_length_le (by simp [numsL])] at hal
    rw [hal, if_neg (by decide)] at hE
    refine (Text_ok (s := s) (ll := ll) ⟨hll.keep0 N5, fun q hq => (hop q hq).keep0 N5⟩ hl).mono ?_
    rw [hcs]
    rintro e w7 ⟨rfl, M7⟩
    refine ⟨_, _, rfl, _, _, _, _, _, _, _, _, _, _, _, _, _, _, _, _, _, _, _, _, _, _, _, M7.keep0 h6, ?_⟩
    have N7 := N5.go0 M7 (by simp)
    refine brB_of (fun g => ?_) fun g => ?_
    · have g : textE m.calls ≠ 0 := by simpa using g
      exact ⟨by rw [hE, if_pos g], N7⟩
    have g : textE m.calls = 0 := by simpa using g
    rw [if_neg (by simpa using g)] at hE
    refine (Reply_okW (h.rep.keep0 N7)).mono ?_
    rintro e w8 ⟨rfl, M8⟩
    refine ⟨_, _, rfl, _, _, _, _, _, _, _, _, _, _, _, _, _, _, _, _, _, _, _, _, _, _, _, (M7.go0 M8 (by simp)).keep0 h6, ?_⟩
    exact ⟨by rw [hE], N7.go0 M8 (by simp)⟩
end Go.Proofs.YtohgihgddknmmaaGreat

/- The conditions of Go functions' bodies, printed by gen2.py. -/
namespace Go.Proofs.YtohgihgddknmmaaGreat
open Go Go.RowKit
set_option linter.unusedVariables false
set_option maxRecDepth 100000

def ref04_Reply_la1 : LA := ⟨[0, 0, 1, 0, 1, 1, 1, 1], [1, 5, 6], [(1, 0, 0)], 1, []⟩
def ref04_Reply_la2 : LA := ⟨[0, 0, 1, 0, 1, 1, 1, 1, 1, 1], [1, 5, 7], [(1, 0, 0)], 1, []⟩
def ref04_Reply_an : List LA := [ref04_Reply_la1, ref04_Reply_la2]
def ref04_Reply_v1 (bm0 : Nat) (a0 : ByteArray) (a1 : Int) : List Value := [(.pointer (some ⟨bm0, 0, none⟩)), .string a0, .int .i64 a1]
def ref04_Reply_m1 (bm0 : Nat) (a6 a7 a8 a9 : Int) (a0 : Option Addr) (a4 a2 : Nat) (a1 : Option Addr) (a5 a3 : Nat) : List TB := [⟨bm0, 43, [.int .i64 a6, .int .i64 a7, .int .i64 a8, .int .i64 a9, .slice a0 a4 a2, .slice a1 a5 a3], false⟩]
def ref04_Reply_v2 (bm0 : Nat) (a0 : ByteArray) (a1 : Int) : List Value := [(.pointer (some ⟨bm0, 0, none⟩)), .string a0, .int .i64 a1]
def ref04_Reply_m2 (bm0 : Nat) (a6 a7 a8 a9 : Int) (a0 : Option Addr) (a4 a2 : Nat) (a1 : Option Addr) (a5 a3 : Nat) : List TB := [⟨bm0, 43, [.int .i64 a6, .int .i64 a7, .int .i64 a8, .int .i64 a9, .slice a0 a4 a2, .slice a1 a5 a3], false⟩]
def ref04_Reply_L1 (bm0 : Nat) (a6 a7 a8 a9 : Int) (a1 : Option Addr) (a0 a2 : Nat) (a4 : Option Addr) (a3 a5 : Nat) (b1 : ByteArray) (b0 : Int) (K1 : Kh) (R : Value → World → Prop) (w : World) : Prop :=
 brB (decide (b0 < (a0 : Int))) (
 ixA a1 a0 b0 5 fun q20 =>
 ∀ w21, Adv [] [] w w21 →
 ldInt .i64 w21 q20 fun x22 =>
 ixA a1 a0 b0 5 fun q23 =>
 ldBool w21 (Addr.add q23 1) fun t24 => ldStr w21 (Addr.add (Addr.add q23 1) 1) fun s25 => ldBool w21 (Addr.add (Addr.add q23 1) 2) fun t26 => ldStr w21 (Addr.add (Addr.add q23 1) 3) fun s27 =>
 Calls Tryz.prog 131 #[.int .i64 x22] w21 fun e w28 => ∃ s29 : ByteArray, e = .returned (.string s29) ∧ Keep [bm0] w21 w28 ∧ (ldBool w28 (Addr.add q23 1) fun t30 => ldStr w28 (Addr.add (Addr.add q23 1) 1) fun s31 => ldBool w28 (Addr.add (Addr.add q23 1) 2) fun t32 => ldStr w28 (Addr.add (Addr.add q23 1) 3) fun s33 => ((.agg #[.bool t30, .string s31, .bool t32, .string s33]) : Value) = (.agg #[.bool t24, .string s25, .bool t26, .string s27])) ∧ (((.slice a1 a0 a2) : Value) = (.slice a1 a0 a2)) ∧
 Calls Tryz.prog 149 #[(.agg #[.bool t24, .string s25, .bool t26, .string s27])] w28 fun e w34 => ∃ s35 : ByteArray, e = .returned (.string s35) ∧ Keep [bm0] w28 w34 ∧
 catS s29 s35 fun s36 =>
 catS b1 s36 fun s37 =>
 K1 (ref04_Reply_v1 bm0 s37 (IntKind.wrap .i64 (b0 + 1))) (ref04_Reply_m1 bm0 a6 a7 a8 a9 a1 a0 a2 a4 a3 a5) w34)
 (
 Calls Tryz.prog 131 #[(.int .i64 (a3 : Int))] w fun e w38 => ∃ s39 : ByteArray, e = .returned (.string s39) ∧ Keep [bm0] w w38 ∧
 catS b1 s39 fun s40 =>
 loopD3 ref04_Reply_la2 (dnF Tryz.prog ref04_Reply_an (code Tryz.f119) 392 [0, 0, 1, 0, 1, 1, 1, 1, 1, 1]) (kont3 Tryz.prog ref04_Reply_an (code Tryz.f119) [1, 1, 1, 1, 1, 1, 0, 1, 0] [] (post3 Tryz.prog Tryz.f119 [] R)) (ref04_Reply_v2 bm0 s40 0) (ref04_Reply_m2 bm0 a6 a7 a8 a9 a1 a0 a2 a4 a3 a5) w38)
theorem ref04_Reply_L1_eq (bm0 : Nat) (a6 a7 a8 a9 : Int) (a0 : Option Addr) (a4 a2 : Nat) (a1 : Option Addr) (a5 a3 : Nat) (b0 : ByteArray) (b1 : Int) (K1 : Kh) (js : Nat → Value) (R : Value → World → Prop) (w : World) :
 headA ref04_Reply_la1 ((dnF Tryz.prog ref04_Reply_an (code Tryz.f119) 394 [0, 0, 1, 0, 1, 1, 1, 1]) (kthen3 (atA ref04_Reply_la1 K1) (kont3 Tryz.prog ref04_Reply_an (code Tryz.f119) [1, 1, 1, 1, 0, 1, 0] [] (post3 Tryz.prog Tryz.f119 [] R)))) (ref04_Reply_v1 bm0 b0 b1) js (ref04_Reply_m1 bm0 a6 a7 a8 a9 a0 a4 a2 a1 a5 a3) w = ref04_Reply_L1 bm0 a6 a7 a8 a9 a0 a4 a2 a1 a5 a3 b0 b1 K1 R w := by kernel_rfl
def ref04_Reply_K1 (bm0 : Nat) (a6 a7 a8 a9 : Int) (a0 : Option Addr) (a4 a2 : Nat) (a1 : Option Addr) (a5 a3 : Nat) (I : Nat → ByteArray → Int → World → Prop) (m : Nat) (vals : List Value) (mem : List TB) (w : World) : Prop := ∃ m', m' < m ∧ ∃ b0 b1, vals = (ref04_Reply_v1 bm0 b0 b1) ∧ mem = (ref04_Reply_m1 bm0 a6 a7 a8 a9 a0 a4 a2 a1 a5 a3) ∧ I m' b0 b1 w
theorem ref04_Reply_leaf1 {bm0 : Nat} {a6 a7 a8 a9 : Int} {a0 : Option Addr} {a4 a2 : Nat} {a1 : Option Addr} {a5 a3 : Nat} {I : Nat → ByteArray → Int → World → Prop} {m : Nat} {b0 : ByteArray} {b1 : Int} {w : World} (m' : Nat) (h1 : m' < m) (h2 : I m' b0 b1 w) : ref04_Reply_K1 bm0 a6 a7 a8 a9 a0 a4 a2 a1 a5 a3 I m (ref04_Reply_v1 bm0 b0 b1) (ref04_Reply_m1 bm0 a6 a7 a8 a9 a0 a4 a2 a1 a5 a3) w := ⟨m', h1, _, _, rfl, rfl, h2⟩
theorem ref04_Reply_rule1 {bm0 : Nat} {a6 a7 a8 a9 : Int} {a0 : Option Addr} {a4 a2 : Nat} {a1 : Option Addr} {a5 a3 : Nat} {b2 : ByteArray} {b3 : Int} {R : Value → World → Prop} {w0 : World} (I : Nat → ByteArray → Int → World → Prop) (m0 : Nat) (h0 : I m0 b2 b3 w0)
 (hr : ∀ (m : Nat) (b0 : ByteArray) (b1 : Int) (w : World), I m b0 b1 w → ref04_Reply_L1 bm0 a6 a7 a8 a9 a0 a4 a2 a1 a5 a3 b0 b1 (ref04_Reply_K1 bm0 a6 a7 a8 a9 a0 a4 a2 a1 a5 a3 I m) R w) :
 loopD3 ref04_Reply_la1 (dnF Tryz.prog ref04_Reply_an (code Tryz.f119) 394 [0, 0, 1, 0, 1, 1, 1, 1]) (kont3 Tryz.prog ref04_Reply_an (code Tryz.f119) [1, 1, 1, 1, 0, 1, 0] [] (post3 Tryz.prog Tryz.f119 [] R)) (ref04_Reply_v1 bm0 b2 b3) (ref04_Reply_m1 bm0 a6 a7 a8 a9 a0 a4 a2 a1 a5 a3) w0 := by
 refine ⟨fun m vals mem w => ∃ b0 b1, vals = (ref04_Reply_v1 bm0 b0 b1) ∧ mem = (ref04_Reply_m1 bm0 a6 a7 a8 a9 a0 a4 a2 a1 a5 a3) ∧ I m b0 b1 w, m0, ⟨_, _, rfl, rfl, h0⟩, ?_⟩
 rintro m vals mem w ⟨b0, b1, rfl, rfl, hI⟩
 refine ⟨rfl, rfl, fun js => ?_⟩
 have h := hr m b0 b1 w hI
 rw [← ref04_Reply_L1_eq _ _ _ _ _ _ _ _ _ _ _ _ _ _ js] at h
 exact h
def ref04_Reply_L2 (bm0 : Nat) (a7 a8 a9 b0 : Int) (a4 : Option Addr) (a6 a5 : Nat) (a1 : Option Addr) (a0 a2 : Nat) (b1 : ByteArray) (a3 : Int) (K2 : Kh) (R : Value → World → Prop) (w : World) : Prop :=
 brB (decide (a3 < (a0 : Int))) (
 ixA a1 a0 a3 2 fun q41 =>
 ∀ w42, Adv [] [] w w42 →
 ldStr w42 q41 fun s43 =>
 ixA a1 a0 a3 2 fun q44 =>
 ldInt .i64 w42 (Addr.add q44 1) fun x45 =>
 Calls Tryz.prog 86 #[.string s43] w42 fun e w46 => ∃ s47 : ByteArray, e = .returned (.string s47) ∧ Keep [bm0] w42 w46 ∧ (ldInt .i64 w46 (Addr.add q44 1) fun x48 => ((.int .i64 x48) : Value) = (.int .i64 x45)) ∧ (((.slice a1 a0 a2) : Value) = (.slice a1 a0 a2)) ∧
 Calls Tryz.prog 131 #[.int .i64 x45] w46 fun e w49 => ∃ s50 : ByteArray, e = .returned (.string s50) ∧ Keep [bm0] w46 w49 ∧
 catS s47 s50 fun s51 =>
 catS b1 s51 fun s52 =>
 K2 (ref04_Reply_v2 bm0 s52 (IntKind.wrap .i64 (a3 + 1))) (ref04_Reply_m2 bm0 a7 a8 a9 b0 a4 a6 a5 a1 a0 a2) w49)
 (
 R (.tuple #[.string b1, .int .i64 0]) w)
theorem ref04_Reply_L2_eq (bm0 : Nat) (a6 a7 a8 a9 : Int) (a0 : Option Addr) (a4 a2 : Nat) (a1 : Option Addr) (a5 a3 : Nat) (b0 : ByteArray) (b1 : Int) (K2 : Kh) (js : Nat → Value) (R : Value → World → Prop) (w : World) :
 headA ref04_Reply_la2 ((dnF Tryz.prog ref04_Reply_an (code Tryz.f119) 392 [0, 0, 1, 0, 1, 1, 1, 1, 1, 1]) (kthen3 (atA ref04_Reply_la2 K2) (kont3 Tryz.prog ref04_Reply_an (code Tryz.f119) [1, 1, 1, 1, 1, 1, 0, 1, 0] [] (post3 Tryz.prog Tryz.f119 [] R)))) (ref04_Reply_v2 bm0 b0 b1) js (ref04_Reply_m2 bm0 a6 a7 a8 a9 a0 a4 a2 a1 a5 a3) w = ref04_Reply_L2 bm0 a6 a7 a8 a9 a0 a4 a2 a1 a5 a3 b0 b1 K2 R w := by kernel_rfl
def ref04_Reply_K2 (bm0 : Nat) (a6 a7 a8 a9 : Int) (a0 : Option Addr) (a4 a2 : Nat) (a1 : Option Addr) (a5 a3 : Nat) (I : Nat → ByteArray → Int → World → Prop) (m : Nat) (vals : List Value) (mem : List TB) (w : World) : Prop := ∃ m', m' < m ∧ ∃ b0 b1, vals = (ref04_Reply_v2 bm0 b0 b1) ∧ mem = (ref04_Reply_m2 bm0 a6 a7 a8 a9 a0 a4 a2 a1 a5 a3) ∧ I m' b0 b1 w
theorem ref04_Reply_leaf2 {bm0 : Nat} {a6 a7 a8 a9 : Int} {a0 : Option Addr} {a4 a2 : Nat} {a1 : Option Addr} {a5 a3 : Nat} {I : Nat → ByteArray → Int → World → Prop} {m : Nat} {b0 : ByteArray} {b1 : Int} {w : World} (m' : Nat) (h1 : m' < m) (h2 : I m' b0 b1 w) : ref04_Reply_K2 bm0 a6 a7 a8 a9 a0 a4 a2 a1 a5 a3 I m (ref04_Reply_v2 bm0 b0 b1) (ref04_Reply_m2 bm0 a6 a7 a8 a9 a0 a4 a2 a1 a5 a3) w := ⟨m', h1, _, _, rfl, rfl, h2⟩
theorem ref04_Reply_rule2 {bm0 : Nat} {a6 a7 a8 a9 : Int} {a0 : Option Addr} {a4 a2 : Nat} {a1 : Option Addr} {a5 a3 : Nat} {b2 : ByteArray} {b3 : Int} {R : Value → World → Prop} {w0 : World} (I : Nat → ByteArray → Int → World → Prop) (m0 : Nat) (h0 : I m0 b2 b3 w0)
 (hr : ∀ (m : Nat) (b0 : ByteArray) (b1 : Int) (w : World), I m b0 b1 w → ref04_Reply_L2 bm0 a6 a7 a8 a9 a0 a4 a2 a1 a5 a3 b0 b1 (ref04_Reply_K2 bm0 a6 a7 a8 a9 a0 a4 a2 a1 a5 a3 I m) R w) :
 loopD3 ref04_Reply_la2 (dnF Tryz.prog ref04_Reply_an (code Tryz.f119) 392 [0, 0, 1, 0, 1, 1, 1, 1, 1, 1]) (kont3 Tryz.prog ref04_Reply_an (code Tryz.f119) [1, 1, 1, 1, 1, 1, 0, 1, 0] [] (post3 Tryz.prog Tryz.f119 [] R)) (ref04_Reply_v2 bm0 b2 b3) (ref04_Reply_m2 bm0 a6 a7 a8 a9 a0 a4 a2 a1 a5 a3) w0 := by
 refine ⟨fun m vals mem w => ∃ b0 b1, vals = (ref04_Reply_v2 bm0 b0 b1) ∧ mem = (ref04_Reply_m2 bm0 a6 a7 a8 a9 a0 a4 a2 a1 a5 a3) ∧ I m b0 b1 w, m0, ⟨_, _, rfl, rfl, h0⟩, ?_⟩
 rintro m vals mem w ⟨b0, b1, rfl, rfl, hI⟩
 refine ⟨rfl, rfl, fun js => ?_⟩
 have h := hr m b0 b1 w hI
 rw [← ref04_Reply_L2_eq _ _ _ _ _ _ _ _ _ _ _ _ _ _ js] at h
 exact h
def ref04_Reply_T (a6 a5 a4 a3 : Int) (a1 : Option Addr) (a0 a2 : Nat) (a7 : Option Addr) (a9 a8 : Nat) (R : Value → World → Prop) (w : World) : Prop :=
 ∀ b1, w.heap.size ≤ b1 →
 ∀ w2, Adv [] [b1] w w2 →
 Calls Tryz.prog 148 #[(.agg #[.int .i64 a6, .int .i64 a5, .int .i64 a4, .int .i64 a3, .slice a1 a0 a2, .slice a7 a9 a8])] w2 fun e w3 => ∃ x4 : Int, e = .returned (.int .i64 x4) ∧ Keep [b1] w2 w3 ∧
 brB (x4 != 0) (
 R (.tuple #[(.string (⟨#[]⟩ : ByteArray)), .int .i64 x4]) w3)
 (
 ∀ w5, Adv [] [] w3 w5 →
 Calls Tryz.prog 131 #[.int .i64 a6] w5 fun e w6 => ∃ s7 : ByteArray, e = .returned (.string s7) ∧ Keep [b1] w5 w6 ∧ (((.slice a1 a0 a2) : Value) = (.slice a1 a0 a2)) ∧ (((.int .i64 a3) : Value) = (.int .i64 a3)) ∧ (((.int .i64 a4) : Value) = (.int .i64 a4)) ∧ (((.int .i64 a5) : Value) = (.int .i64 a5)) ∧
 Calls Tryz.prog 131 #[.int .i64 a5] w6 fun e w8 => ∃ s9 : ByteArray, e = .returned (.string s9) ∧ Keep [b1] w6 w8 ∧ (((.slice a1 a0 a2) : Value) = (.slice a1 a0 a2)) ∧ (((.int .i64 a3) : Value) = (.int .i64 a3)) ∧ (((.int .i64 a4) : Value) = (.int .i64 a4)) ∧
 catS s7 s9 fun s10 =>
 Calls Tryz.prog 131 #[.int .i64 a4] w8 fun e w11 => ∃ s12 : ByteArray, e = .returned (.string s12) ∧ Keep [b1] w8 w11 ∧ (((.slice a1 a0 a2) : Value) = (.slice a1 a0 a2)) ∧ (((.int .i64 a3) : Value) = (.int .i64 a3)) ∧
 catS s10 s12 fun s13 =>
 Calls Tryz.prog 131 #[.int .i64 a3] w11 fun e w14 => ∃ s15 : ByteArray, e = .returned (.string s15) ∧ Keep [b1] w11 w14 ∧ (((.slice a1 a0 a2) : Value) = (.slice a1 a0 a2)) ∧
 catS s13 s15 fun s16 =>
 Calls Tryz.prog 131 #[(.int .i64 (a0 : Int))] w14 fun e w17 => ∃ s18 : ByteArray, e = .returned (.string s18) ∧ Keep [b1] w14 w17 ∧
 catS s16 s18 fun s19 =>
 loopD3 ref04_Reply_la1 (dnF Tryz.prog ref04_Reply_an (code Tryz.f119) 394 [0, 0, 1, 0, 1, 1, 1, 1]) (kont3 Tryz.prog ref04_Reply_an (code Tryz.f119) [1, 1, 1, 1, 0, 1, 0] [] (post3 Tryz.prog Tryz.f119 [] R)) (ref04_Reply_v1 b1 s19 0) (ref04_Reply_m1 b1 a6 a5 a4 a3 a1 a0 a2 a7 a9 a8) w17)
theorem ref04_Reply_eq (a6 a7 a8 a9 : Int) (a0 : Option Addr) (a2 a1 : Nat) (a3 : Option Addr) (a5 a4 : Nat) (R : Value → World → Prop) (w : World) :
 dnF Tryz.prog ref04_Reply_an (code Tryz.f119) 400 [] (post3 Tryz.prog Tryz.f119 [] R) ⟨args0 0 [(.agg #[.int .i64 a6, .int .i64 a7, .int .i64 a8, .int .i64 a9, .slice a0 a2 a1, .slice a3 a5 a4])], fun _ => undef⟩ ⟨[], w, [], [], true⟩ = ref04_Reply_T a6 a7 a8 a9 a0 a2 a1 a3 a5 a4 R w := by kernel_rfl
theorem ref04_Reply_go {a6 a7 a8 a9 : Int} {a0 : Option Addr} {a2 a1 : Nat} {a3 : Option Addr} {a5 a4 : Nat} {R : Value → World → Prop} {w : World} (h : ref04_Reply_T a6 a7 a8 a9 a0 a2 a1 a3 a5 a4 R w) :
 Calls Tryz.prog 119 #[(.agg #[.int .i64 a6, .int .i64 a7, .int .i64 a8, .int .i64 a9, .slice a0 a2 a1, .slice a3 a5 a4])] w fun e w' => ∃ v, e = .returned v ∧ R v w' :=
 calls_none Tryz.wide_mixed (f := 119) (args := [(.agg #[.int .i64 a6, .int .i64 a7, .int .i64 a8, .int .i64 a9, .slice a0 a2 a1, .slice a3 a5 a4])]) Tryz.func119 rfl rfl (by kernel_rfl) rfl (Eq.mpr (ref04_Reply_eq a6 a7 a8 a9 a0 a2 a1 a3 a5 a4 R w) h)
def ref18_Check_la1 : LA := ⟨[0, 0, 1, 0, 1, 1, 1], [1, 3, 4], [(1, 0, 0)], 1, []⟩
def ref18_Check_an : List LA := [ref18_Check_la1]
def ref18_Check_v1 (a0 : Option Addr) (a2 a1 bm0 : Nat) (a3 : Int) : List Value := [(.pointer (some ⟨bm0, 0, none⟩)), .slice a0 a2 a1, .int .i64 a3]
def ref18_Check_m1 (bm0 : Nat) (b3 b4 b5 b6 b7 b8 b9 c0 c1 c2 : Int) (a0 : Option Addr) (a6 a3 : Nat) (a9 b0 b1 b2 : Int) (a1 : Option Addr) (a7 a4 : Nat) (a2 : Option Addr) (a8 a5 : Nat) : List TB := [⟨bm0, 45, [.int .i64 b3, .int .i64 b4, .int .i64 b5, .int .i64 b6, .int .i64 b7, .int .i64 b8, .int .i64 b9, .int .i64 c0, .int .i64 c1, .int .i64 c2, .slice a0 a6 a3, .int .i64 a9, .int .i64 b0, .int .i64 b1, .int .i64 b2, .slice a1 a7 a4, .slice a2 a8 a5], false⟩]
def ref18_Check_L1 (c5 : Option Addr) (b3 c6 bm0 : Nat) (b5 b6 b7 b8 b9 c0 c1 c2 c3 c4 : Int) (a0 : Option Addr) (a6 a3 : Nat) (a9 b0 b1 b2 : Int) (a1 : Option Addr) (a7 a4 : Nat) (a2 : Option Addr) (a8 a5 : Nat) (b4 : Int) (K1 : Kh) (R : Value → World → Prop) (w : World) : Prop :=
 brB (decide (b4 < (b3 : Int))) (
 ixA c5 b3 b4 1 fun q9 =>
 ldInt .i64 w q9 fun x10 =>
 Calls Tryz.prog 110 #[.int .i64 x10] w fun e w11 => ∃ t12 : Bool, e = .returned (.bool t12) ∧ Keep [bm0] w w11 ∧
 brB (!t12) (
 R (.int .i64 1) w11)
 (
 K1 (ref18_Check_v1 c5 b3 c6 bm0 (IntKind.wrap .i64 (b4 + 1))) (ref18_Check_m1 bm0 b5 b6 b7 b8 b9 c0 c1 c2 c3 c4 a0 a6 a3 a9 b0 b1 b2 a1 a7 a4 a2 a8 a5) w11))
 (
 Calls Tryz.prog 32 #[.slice a0 a6 a3] w fun e w13 => ∃ (s14 : ByteArray) (x15 : Int), e = .returned (.tuple #[.string s14, .int .i64 x15]) ∧ Keep [bm0] w w13 ∧
 brB (x15 != 0) (
 R (.int .i64 x15) w13)
 (
 Calls Tryz.prog 119 #[(.agg #[.int .i64 a9, .int .i64 b0, .int .i64 b1, .int .i64 b2, .slice a1 a7 a4, .slice a2 a8 a5])] w13 fun e w16 => ∃ (s17 : ByteArray) (x18 : Int), e = .returned (.tuple #[.string s17, .int .i64 x18]) ∧ Keep [bm0] w13 w16 ∧
 R (.int .i64 x18) w16))
theorem ref18_Check_L1_eq (c3 : Option Addr) (c5 c4 bm0 : Nat) (b3 b4 b5 b6 b7 b8 b9 c0 c1 c2 : Int) (a0 : Option Addr) (a6 a3 : Nat) (a9 b0 b1 b2 : Int) (a1 : Option Addr) (a7 a4 : Nat) (a2 : Option Addr) (a8 a5 : Nat) (c6 : Int) (K1 : Kh) (js : Nat → Value) (R : Value → World → Prop) (w : World) :
 headA ref18_Check_la1 ((dnF Tryz.prog ref18_Check_an (code Tryz.f71) 395 [0, 0, 1, 0, 1, 1, 1]) (kthen3 (atA ref18_Check_la1 K1) (kont3 Tryz.prog ref18_Check_an (code Tryz.f71) [1, 1, 1, 0, 1, 0] [] (post3 Tryz.prog Tryz.f71 [] R)))) (ref18_Check_v1 c3 c5 c4 bm0 c6) js (ref18_Check_m1 bm0 b3 b4 b5 b6 b7 b8 b9 c0 c1 c2 a0 a6 a3 a9 b0 b1 b2 a1 a7 a4 a2 a8 a5) w = ref18_Check_L1 c3 c5 c4 bm0 b3 b4 b5 b6 b7 b8 b9 c0 c1 c2 a0 a6 a3 a9 b0 b1 b2 a1 a7 a4 a2 a8 a5 c6 K1 R w := by kernel_rfl
def ref18_Check_K1 (c4 : Option Addr) (c6 c5 bm0 : Nat) (b3 b4 b5 b6 b7 b8 b9 c0 c1 c2 : Int) (a0 : Option Addr) (a6 a3 : Nat) (a9 b0 b1 b2 : Int) (a1 : Option Addr) (a7 a4 : Nat) (a2 : Option Addr) (a8 a5 : Nat) (I : Nat → Int → World → Prop) (m : Nat) (vals : List Value) (mem : List TB) (w : World) : Prop := ∃ m', m' < m ∧ ∃ c3, vals = (ref18_Check_v1 c4 c6 c5 bm0 c3) ∧ mem = (ref18_Check_m1 bm0 b3 b4 b5 b6 b7 b8 b9 c0 c1 c2 a0 a6 a3 a9 b0 b1 b2 a1 a7 a4 a2 a8 a5) ∧ I m' c3 w
theorem ref18_Check_leaf1 {c3 : Option Addr} {c5 c4 bm0 : Nat} {b3 b4 b5 b6 b7 b8 b9 c0 c1 c2 : Int} {a0 : Option Addr} {a6 a3 : Nat} {a9 b0 b1 b2 : Int} {a1 : Option Addr} {a7 a4 : Nat} {a2 : Option Addr} {a8 a5 : Nat} {I : Nat → Int → World → Prop} {m : Nat} {c6 : Int} {w : World} (m' : Nat) (h1 : m' < m) (h2 : I m' c6 w) : ref18_Check_K1 c3 c5 c4 bm0 b3 b4 b5 b6 b7 b8 b9 c0 c1 c2 a0 a6 a3 a9 b0 b1 b2 a1 a7 a4 a2 a8 a5 I m (ref18_Check_v1 c3 c5 c4 bm0 c6) (ref18_Check_m1 bm0 b3 b4 b5 b6 b7 b8 b9 c0 c1 c2 a0 a6 a3 a9 b0 b1 b2 a1 a7 a4 a2 a8 a5) w := ⟨m', h1, _, rfl, rfl, h2⟩
theorem ref18_Check_rule1 {c4 : Option Addr} {c6 c5 bm0 : Nat} {b3 b4 b5 b6 b7 b8 b9 c0 c1 c2 : Int} {a0 : Option Addr} {a6 a3 : Nat} {a9 b0 b1 b2 : Int} {a1 : Option Addr} {a7 a4 : Nat} {a2 : Option Addr} {a8 a5 : Nat} {c7 : Int} {R : Value → World → Prop} {w0 : World} (I : Nat → Int → World → Prop) (m0 : Nat) (h0 : I m0 c7 w0)
 (hr : ∀ (m : Nat) (c3 : Int) (w : World), I m c3 w → ref18_Check_L1 c4 c6 c5 bm0 b3 b4 b5 b6 b7 b8 b9 c0 c1 c2 a0 a6 a3 a9 b0 b1 b2 a1 a7 a4 a2 a8 a5 c3 (ref18_Check_K1 c4 c6 c5 bm0 b3 b4 b5 b6 b7 b8 b9 c0 c1 c2 a0 a6 a3 a9 b0 b1 b2 a1 a7 a4 a2 a8 a5 I m) R w) :
 loopD3 ref18_Check_la1 (dnF Tryz.prog ref18_Check_an (code Tryz.f71) 395 [0, 0, 1, 0, 1, 1, 1]) (kont3 Tryz.prog ref18_Check_an (code Tryz.f71) [1, 1, 1, 0, 1, 0] [] (post3 Tryz.prog Tryz.f71 [] R)) (ref18_Check_v1 c4 c6 c5 bm0 c7) (ref18_Check_m1 bm0 b3 b4 b5 b6 b7 b8 b9 c0 c1 c2 a0 a6 a3 a9 b0 b1 b2 a1 a7 a4 a2 a8 a5) w0 := by
 refine ⟨fun m vals mem w => ∃ c3, vals = (ref18_Check_v1 c4 c6 c5 bm0 c3) ∧ mem = (ref18_Check_m1 bm0 b3 b4 b5 b6 b7 b8 b9 c0 c1 c2 a0 a6 a3 a9 b0 b1 b2 a1 a7 a4 a2 a8 a5) ∧ I m c3 w, m0, ⟨_, rfl, rfl, h0⟩, ?_⟩
 rintro m vals mem w ⟨c3, rfl, rfl, hI⟩
 refine ⟨rfl, rfl, fun js => ?_⟩
 have h := hr m c3 w hI
 rw [← ref18_Check_L1_eq _ _ _ _ _ _ _ _ _ _ _ _ _ _ _ _ _ _ _ _ _ _ _ _ _ _ _ _ _ js] at h
 exact h
def ref18_Check_T (a0 b6 b7 b8 b9 c0 c1 c2 c3 c4 : Int) (a1 : Option Addr) (a3 a2 : Nat) (b2 b3 b4 b5 : Int) (a4 : Option Addr) (a7 a5 : Nat) (a8 : Option Addr) (b0 a9 : Nat) (R : Value → World → Prop) (w : World) : Prop :=
 ∀ b1, w.heap.size ≤ b1 →
 brB (decide (a0 < 0)) (
 ∀ w2, Adv [] [b1] w w2 →
 R (.int .i64 180) w2)
 (
 brB (decide (a0 > 11)) (
 ∀ w3, Adv [] [b1] w w3 →
 R (.int .i64 180) w3)
 (
 ∀ w4, Adv [] [b1] w w4 →
 Calls Tryz.prog 66 #[(.agg #[.int .i64 a0, .int .i64 b6, .int .i64 b7, .int .i64 b8, .int .i64 b9, .int .i64 c0, .int .i64 c1, .int .i64 c2, .int .i64 c3, .int .i64 c4, .slice a1 a3 a2, .int .i64 b2, .int .i64 b3, .int .i64 b4, .int .i64 b5, .slice a4 a7 a5, .slice a8 b0 a9])] w4 fun e w5 => ∃ (a6 : Option Addr) (n7 c8 : Nat), e = .returned (.slice a6 n7 c8) ∧ Keep [b1] w4 w5 ∧
 loopD3 ref18_Check_la1 (dnF Tryz.prog ref18_Check_an (code Tryz.f71) 395 [0, 0, 1, 0, 1, 1, 1]) (kont3 Tryz.prog ref18_Check_an (code Tryz.f71) [1, 1, 1, 0, 1, 0] [] (post3 Tryz.prog Tryz.f71 [] R)) (ref18_Check_v1 a6 n7 c8 b1 0) (ref18_Check_m1 b1 a0 b6 b7 b8 b9 c0 c1 c2 c3 c4 a1 a3 a2 b2 b3 b4 b5 a4 a7 a5 a8 b0 a9) w5))
theorem ref18_Check_eq (b3 b4 b5 b6 b7 b8 b9 c0 c1 c2 : Int) (a0 : Option Addr) (a2 a1 : Nat) (a9 b0 b1 b2 : Int) (a3 : Option Addr) (a5 a4 : Nat) (a6 : Option Addr) (a8 a7 : Nat) (R : Value → World → Prop) (w : World) :
 dnF Tryz.prog ref18_Check_an (code Tryz.f71) 400 [] (post3 Tryz.prog Tryz.f71 [] R) ⟨args0 0 [(.agg #[.int .i64 b3, .int .i64 b4, .int .i64 b5, .int .i64 b6, .int .i64 b7, .int .i64 b8, .int .i64 b9, .int .i64 c0, .int .i64 c1, .int .i64 c2, .slice a0 a2 a1, .int .i64 a9, .int .i64 b0, .int .i64 b1, .int .i64 b2, .slice a3 a5 a4, .slice a6 a8 a7])], fun _ => undef⟩ ⟨[], w, [], [], true⟩ = ref18_Check_T b3 b4 b5 b6 b7 b8 b9 c0 c1 c2 a0 a2 a1 a9 b0 b1 b2 a3 a5 a4 a6 a8 a7 R w := by kernel_rfl
theorem ref18_Check_go {b3 b4 b5 b6 b7 b8 b9 c0 c1 c2 : Int} {a0 : Option Addr} {a2 a1 : Nat} {a9 b0 b1 b2 : Int} {a3 : Option Addr} {a5 a4 : Nat} {a6 : Option Addr} {a8 a7 : Nat} {R : Value → World → Prop} {w : World} (h : ref18_Check_T b3 b4 b5 b6 b7 b8 b9 c0 c1 c2 a0 a2 a1 a9 b0 b1 b2 a3 a5 a4 a6 a8 a7 R w) :
 Calls Tryz.prog 71 #[(.agg #[.int .i64 b3, .int .i64 b4, .int .i64 b5, .int .i64 b6, .int .i64 b7, .int .i64 b8, .int .i64 b9, .int .i64 c0, .int .i64 c1, .int .i64 c2, .slice a0 a2 a1, .int .i64 a9, .int .i64 b0, .int .i64 b1, .int .i64 b2, .slice a3 a5 a4, .slice a6 a8 a7])] w fun e w' => ∃ v, e = .returned v ∧ R v w' :=
 calls_none Tryz.wide_mixed (f := 71) (args := [(.agg #[.int .i64 b3, .int .i64 b4, .int .i64 b5, .int .i64 b6, .int .i64 b7, .int .i64 b8, .int .i64 b9, .int .i64 c0, .int .i64 c1, .int .i64 c2, .slice a0 a2 a1, .int .i64 a9, .int .i64 b0, .int .i64 b1, .int .i64 b2, .slice a3 a5 a4, .slice a6 a8 a7])]) Tryz.func71 rfl rfl (by kernel_rfl) rfl (Eq.mpr (ref18_Check_eq b3 b4 b5 b6 b7 b8 b9 c0 c1 c2 a0 a2 a1 a9 b0 b1 b2 a3 a5 a4 a6 a8 a7 R w) h)
def law18_Cut_an : List LA := []
def law18_Cut_T (b7 b8 b9 c0 c1 c2 c3 c4 c5 c6 : Int) (a0 : Option Addr) (a2 a1 : Nat) (b0 b4 b5 b6 : Int) (a3 : Option Addr) (a5 a4 : Nat) (a7 : Option Addr) (a9 a8 : Nat) (R : Value → World → Prop) (w : World) : Prop :=
 ∀ b1, w.heap.size ≤ b1 →
 ∀ b2, w.heap.size ≤ b2 →
 ∀ b3, w.heap.size ≤ b3 →
 ∀ w4, Adv [] [b3, b2, b1] w w4 →
 Calls Tryz.prog 30 #[.slice a0 a2 a1] w4 fun e w5 => ∃ (a6 : Option Addr) (n7 c8 : Nat), e = .returned (.slice a6 n7 c8) ∧ Keep [b1, b2, b3] w4 w5 ∧
 ∀ w9, Adv [b3] [] w5 w9 →
 Calls Tryz.prog 58 #[(.agg #[.int .i64 b0, .int .i64 b4, .int .i64 b5, .int .i64 b6, .slice a3 a5 a4, .slice a7 a9 a8])] w9 fun e w10 => ∃ (x11 x12 x13 x14 : Int) (a15 : Option Addr) (n16 c17 : Nat) (a18 : Option Addr) (n19 c20 : Nat), e = .returned (.agg #[.int .i64 x11, .int .i64 x12, .int .i64 x13, .int .i64 x14, .slice a15 n16 c17, .slice a18 n19 c20]) ∧ Keep [b1, b2, b3] w9 w10 ∧
 ∀ w21, Adv [b2, b3] [] w10 w21 →
 R (.agg #[.int .i64 b7, .int .i64 b8, .int .i64 b9, .int .i64 c0, .int .i64 c1, .int .i64 c2, .int .i64 c3, .int .i64 c4, .int .i64 c5, .int .i64 c6, .slice a6 n7 c8, .int .i64 x11, .int .i64 x12, .int .i64 x13, .int .i64 x14, .slice a15 n16 c17, .slice a18 n19 c20]) w21
theorem law18_Cut_eq (b3 b4 b5 b6 b7 b8 b9 c0 c1 c2 : Int) (a0 : Option Addr) (a2 a1 : Nat) (a9 b0 b1 b2 : Int) (a3 : Option Addr) (a5 a4 : Nat) (a6 : Option Addr) (a8 a7 : Nat) (R : Value → World → Prop) (w : World) :
 dnF Tryz.prog law18_Cut_an (code Tryz.f14) 400 [] (post3 Tryz.prog Tryz.f14 [] R) ⟨args0 0 [(.agg #[.int .i64 b3, .int .i64 b4, .int .i64 b5, .int .i64 b6, .int .i64 b7, .int .i64 b8, .int .i64 b9, .int .i64 c0, .int .i64 c1, .int .i64 c2, .slice a0 a2 a1, .int .i64 a9, .int .i64 b0, .int .i64 b1, .int .i64 b2, .slice a3 a5 a4, .slice a6 a8 a7])], fun _ => undef⟩ ⟨[], w, [], [], true⟩ = law18_Cut_T b3 b4 b5 b6 b7 b8 b9 c0 c1 c2 a0 a2 a1 a9 b0 b1 b2 a3 a5 a4 a6 a8 a7 R w := by kernel_rfl
theorem law18_Cut_go {b3 b4 b5 b6 b7 b8 b9 c0 c1 c2 : Int} {a0 : Option Addr} {a2 a1 : Nat} {a9 b0 b1 b2 : Int} {a3 : Option Addr} {a5 a4 : Nat} {a6 : Option Addr} {a8 a7 : Nat} {R : Value → World → Prop} {w : World} (h : law18_Cut_T b3 b4 b5 b6 b7 b8 b9 c0 c1 c2 a0 a2 a1 a9 b0 b1 b2 a3 a5 a4 a6 a8 a7 R w) :
 Calls Tryz.prog 14 #[(.agg #[.int .i64 b3, .int .i64 b4, .int .i64 b5, .int .i64 b6, .int .i64 b7, .int .i64 b8, .int .i64 b9, .int .i64 c0, .int .i64 c1, .int .i64 c2, .slice a0 a2 a1, .int .i64 a9, .int .i64 b0, .int .i64 b1, .int .i64 b2, .slice a3 a5 a4, .slice a6 a8 a7])] w fun e w' => ∃ v, e = .returned v ∧ R v w' :=
 calls_none Tryz.wide_mixed (f := 14) (args := [(.agg #[.int .i64 b3, .int .i64 b4, .int .i64 b5, .int .i64 b6, .int .i64 b7, .int .i64 b8, .int .i64 b9, .int .i64 c0, .int .i64 c1, .int .i64 c2, .slice a0 a2 a1, .int .i64 a9, .int .i64 b0, .int .i64 b1, .int .i64 b2, .slice a3 a5 a4, .slice a6 a8 a7])]) Tryz.func14 rfl rfl (by kernel_rfl) rfl (Eq.mpr (law18_Cut_eq b3 b4 b5 b6 b7 b8 b9 c0 c1 c2 a0 a2 a1 a9 b0 b1 b2 a3 a5 a4 a6 a8 a7 R w) h)

end Go.Proofs.YtohgihgddknmmaaGreat

/- A reply's bytes, a message's check: the reference. -/
namespace Go.Proofs.YtohgihgddknmmaaGreat
open Go Go.RowKit
set_option linter.unusedVariables false
set_option linter.unusedSimpArgs false

theorem num_nat {x : Int} (h0 : 0 ≤ x) (h : x.toNat ≤ 1099511627776) : num x = true := num_of h0 (by omega)
theorem R4Reply_ok {w : World} {r : PRep} {f p : Sl} (h : RepAt w r f p) :
    Calls Tryz.prog 119 #[r.v f p] w fun e w' => e = .returned (.tuple #[.string (if repE r = 0 then bs (repB r) else bs []), .int .i64 (repE r)]) ∧ Mod [] w w' := by
  refine go_of (ref04_Reply_go ?_)
  intro b1 f1 w2 A2
  refine (Right_ok (h.keep0 A2.mod)).mono ?_
  rintro _ w3 ⟨rfl, M3⟩
  have N3 := A2.mod.go0 M3 (by simp)
  refine ⟨_, rfl, Keep.of0 M3, brB_of (fun g => ?_) fun g => ?_⟩
  · have g : repE r ≠ 0 := by simpa using g
    rw [if_neg g]; exact ⟨rfl, N3⟩
  have g : repE r = 0 := by simpa using g
  have G := RepGood.of g
  rw [if_pos g, g]
  have e4 := h.found.1
  have e5 := h.parts.1
  have lf := G.lf
  have lp := G.lp
  obtain ⟨n0, n1, n2, n3⟩ := G.nn
  have d0 := G.hd r.e.toNat (by simp [hdL])
  have d1 := G.hd r.off.toNat (by simp [hdL])
  have d2 := G.hd r.n.toNat (by simp [hdL])
  have d3 := G.hd r.gen.toNat (by simp [hdL])
  have v0 := (vPutL_len r.e.toNat (by omega)).2
  have v1 := (vPutL_len r.off.toNat (by omega)).2
  have v2 := (vPutL_len r.n.toNat (by omega)).2
  have v3 := (vPutL_len r.gen.toNat (by omega)).2
  have v4 := (vPutL_len f.n (by omega)).2
  have v5 := (vPutL_len p.n (by omega)).2
  intro w5 A5
  refine (R4num_ok (num_nat n0 d0) w5).mono ?_
  rintro _ w6 ⟨rfl, M6⟩
  refine ⟨_, rfl, Keep.of0 M6, rfl, rfl, rfl, rfl, ?_⟩
  refine (R4num_ok (num_nat n1 d1) w6).mono ?_
  rintro _ w7 ⟨rfl, M7⟩
  refine ⟨_, rfl, Keep.of0 M7, rfl, rfl, rfl, by rw [bs_size, bs_size]; omega, ?_⟩
  rw [bs_app]
  refine (R4num_ok (num_nat n2 d2) w7).mono ?_
  rintro _ w8 ⟨rfl, M8⟩
  refine ⟨_, rfl, Keep.of0 M8, rfl, rfl, by rw [bs_size, bs_size, List.length_append]; omega, ?_⟩
  rw [bs_app]
  refine (R4num_ok (num_nat n3 d3) w8).mono ?_
  rintro _ w9 ⟨rfl, M9⟩
  refine ⟨_, rfl, Keep.of0 M9, rfl, by rw [bs_size, bs_size, List.length_append, List.length_append]; omega, ?_⟩
  rw [bs_app]
  refine (R4num_ok (x := (f.n : Nat)) (num_of (by omega) (by omega)) w9).mono ?_
  rintro _ w10 ⟨rfl, M10⟩
  refine ⟨_, rfl, Keep.of0 M10, by rw [bs_size, bs_size, List.length_append, List.length_append, List.length_append, Int.toNat_natCast]; omega, ?_⟩
  rw [bs_app, Int.toNat_natCast]
  have N10 : Mod [] w w10 := (((((N3.go0 A5.mod (by simp)).go0 M6 (by simp)).go0 M7 (by simp)).go0 M8 (by simp)).go0 M9 (by simp)).go0 M10 (by simp)
  have eh : vPutL r.e.toNat ++ vPutL r.off.toNat ++ vPutL r.n.toNat ++ vPutL r.gen.toNat ++ vPutL f.n = rep2 r 0 := by
    simp [rep2, hdL, e4]
  rw [eh]
  refine ref04_Reply_rule1 (fun mm s x w' => ∃ k : Nat, x = k ∧ k ≤ r.found.length ∧ s = bs (rep2 r k) ∧ Mod [] w w' ∧ mm = r.found.length - k) r.found.length ⟨0, rfl, by omega, rfl, N10, rfl⟩ ?_
  rintro mm s x w11 ⟨k, rfl, hk, rfl, M11, rfl⟩
  have l2 := G.len2 k
  refine brB_dec (fun hlt => ?_) fun hge => ?_
  · obtain ⟨y, hy⟩ : ∃ y, r.found[k]? = some y := ⟨_, List.getElem?_eq_getElem (by omega)⟩
    obtain ⟨y1, y2⟩ := G.f y (List.mem_of_getElem? hy)
    have ly := G.lenF (List.mem_of_getElem? hy)
    have l2' := G.len2 (k + 1)
    refine (h.keep0 M11).found.ixW hy fun q hq => ?_
    intro w12 A12
    have N12 := M11.go0 A12.mod (by simp)
    refine ldInt_of (x := y.off) (by simpa [add_zero] using hq w12 A12.mod 0 _ rfl) ?_
    refine (h.keep0 N12).found.ixW hy fun q hq => ?_
    have hc := hq w12 (Mod.refl _)
    rw [add_add, add_add, add_add]
    refine ldBool_of (hc 1 _ rfl) (ldStr_of (hc 2 _ rfl) (ldBool_of (hc 3 _ rfl) (ldStr_of (hc 4 _ rfl) ?_)))
    refine (R4num_ok y1 w12).mono ?_
    rintro _ w13 ⟨rfl, M13⟩
    have hd := hq w13 M13
    refine ⟨_, rfl, Keep.of0 M13, ?_, rfl, ?_⟩
    · exact ldBool_of (hd 1 _ rfl) (ldStr_of (hd 2 _ rfl) (ldBool_of (hd 3 _ rfl) (ldStr_of (hd 4 _ rfl) rfl)))
    refine (R3Text_ok y.r y2 w13).mono ?_
    rintro _ w14 ⟨rfl, M14⟩
    have N14 := (N12.go0 M13 (by simp)).go0 M14 (by simp)
    have eF : vPutL y.off.toNat ++ recB y.r = foundB y := rfl
    refine ⟨_, rfl, Keep.of0 M14, by rw [bs_size, bs_size, ← List.length_append, eF]; omega, ?_⟩
    rw [bs_app, eF]
    refine ⟨by rw [bs_size, bs_size]; omega, ?_⟩
    rw [bs_app]
    refine ref04_Reply_leaf1 (r.found.length - (k + 1)) (by omega) ⟨k + 1, by rw [wrap_id (by omega) (by omega)]; omega, by omega, ?_, N14, rfl⟩
    rw [rep2, rep2, take_flat hy, ← List.append_assoc]
  · have hk : k = r.found.length := by omega
    subst hk
    refine (R4num_ok (x := (p.n : Nat)) (num_of (by omega) (by omega)) w11).mono ?_
    rintro _ w12 ⟨rfl, M12⟩
    refine ⟨_, rfl, Keep.of0 M12, by rw [bs_size, bs_size, Int.toNat_natCast]; omega, ?_⟩
    rw [bs_app, Int.toNat_natCast]
    have e3 : rep2 r r.found.length ++ vPutL p.n = rep3 r 0 := by rw [rep2, rep3, List.take_length, e5]; simp
    rw [e3]
    refine ref04_Reply_rule2 (fun mm s x w' => ∃ k : Nat, x = k ∧ k ≤ r.parts.length ∧ s = bs (rep3 r k) ∧ Mod [] w w' ∧ mm = r.parts.length - k) r.parts.length ⟨0, rfl, by omega, rfl, M11.go0 M12 (by simp), rfl⟩ ?_
    rintro mm s x w13 ⟨k, rfl, hk, rfl, M13, rfl⟩
    have l3 := G.len3 k
    refine brB_dec (fun hlt => ?_) fun hge => ?_
    · obtain ⟨y, hy⟩ : ∃ y, r.parts[k]? = some y := ⟨_, List.getElem?_eq_getElem (by omega)⟩
      obtain ⟨y1, y2⟩ := G.p y (List.mem_of_getElem? hy)
      have ly := G.lenP (List.mem_of_getElem? hy)
      refine (h.keep0 M13).parts.ixW hy fun q hq => ?_
      intro w14 A14
      have N14 := M13.go0 A14.mod (by simp)
      refine ldStr_of (x := y.t) (by simpa [add_zero] using hq w14 A14.mod 0 _ rfl) ?_
      refine (h.keep0 N14).parts.ixW hy fun q hq => ?_
      refine ldInt_of (x := y.n) (hq w14 (Mod.refl _) 1 _ rfl) ?_
      refine (R1Text_ok y.t (by omega) w14).mono ?_
      rintro _ w15 ⟨rfl, M15⟩
      refine ⟨_, rfl, Keep.of0 M15, ldInt_of (x := y.n) (hq w15 M15 1 _ rfl) rfl, rfl, ?_⟩
      refine (R4num_ok y1 w15).mono ?_
      rintro _ w16 ⟨rfl, M16⟩
      have N16 := (N14.go0 M15 (by simp)).go0 M16 (by simp)
      have eP : putT y.t ++ vPutL y.n.toNat = partB y := rfl
      refine ⟨_, rfl, Keep.of0 M16, by rw [bs_size, bs_size, ← List.length_append, eP]; omega, ?_⟩
      rw [bs_app, eP]
      refine ⟨by rw [bs_size, bs_size]; omega, ?_⟩
      rw [bs_app]
      refine ref04_Reply_leaf2 (r.parts.length - (k + 1)) (by omega) ⟨k + 1, by rw [wrap_id (by omega) (by omega)]; omega, by omega, ?_, N16, rfl⟩
      rw [rep3, rep3, take_flat hy, ← List.append_assoc]
    · have hk : k = r.parts.length := by omega
      subst hk
      exact ⟨rfl, M13⟩

theorem R18Check_ok {w : World} {m : PMail} {s f p : Sl} (h : MailAt w m s f p) (hlc : m.calls.length ≤ 100000) :
    Calls Tryz.prog 71 #[m.v s f p] w fun e w' => e = .returned (.int .i64 (mailE m)) ∧ Mod [] w w' := by
  obtain ⟨ll, hll, hop, hcs⟩ := h.calls
  have hl : ll.length ≤ 1000000 := by have := congrArg List.length hcs; simp at *; omega
  refine go_of (ref18_Check_go ?_)
  intro b1 f1
  refine brB_dec (fun g1 => fun w2 A2 => ⟨by rw [mailE, if_pos (.inl g1)], A2.mod⟩) fun g1 => ?_
  refine brB_dec (fun g2 => fun w2 A2 => ⟨by rw [mailE, if_pos (.inr (by omega))], A2.mod⟩) fun g2 => ?_
  have hE : mailE m = if ((numsL m).all num) = false then 1 else if textE m.calls ≠ 0 then textE m.calls else repE m.r := by rw [mailE, if_neg (by omega)]
  intro w4 A4
  refine (nums_ok m s f p).mono ?_
  rintro e w5 ⟨_, rfl, c5, rfl, h5, M5⟩
  have N5 := A4.mod.go0 M5 (by simp)
  refine ⟨_, _, _, rfl, Keep.of0 M5, ?_⟩
  refine ref18_Check_rule1 (fun mm x w' => ∃ k : Nat, x = k ∧ k ≤ 10 ∧ ((numsL m).take k).all num = true ∧ mm = 10 - k ∧ Mod [] w5 w') 10 ⟨0, rfl, by omega, by simp, rfl, Mod.refl _⟩ ?_
  rintro mm x w6 ⟨k, rfl, hk, hal, rfl, M6⟩
  have N6 := N5.go0 M6 (by simp)
  refine brB_dec (fun hlt => ?_) fun hge => ?_
  · have hk' : k < 10 := by omega
    obtain ⟨x, hx⟩ : ∃ x, (numsL m)[k]? = some x := ⟨_, List.getElem?_eq_getElem (by simpa [numsL] using hk')⟩
    refine (h5.keep0 M6).ix hx fun q hq => ldInt_of (x := x) (by simpa [add_zero] using hq 0 _ rfl) ?_
    refine (Num3_ok x w6).mono ?_
    rintro _ w7 ⟨rfl, rfl⟩
    refine ⟨_, rfl, Keep.of0 (Mod.refl _), brB_of (fun g3 => ⟨?_, N6⟩) fun g3 => ?_⟩
    · rw [hE, if_pos]
      apply Bool.eq_false_iff.2
      intro hh
      have := List.all_eq_true.1 hh x (List.mem_of_getElem? hx)
      rw [this] at g3; cases g3
    · exact ref18_Check_leaf1 (10 - (k + 1)) (by omega) ⟨k + 1, by rw [wrap_id (by omega) (by omega)]; omega, by omega, by rw [take_all hx, hal, notF g3]; rfl, rfl, M6⟩
  · have hk' : k = 10 := by omega
    subst hk'
    rw [List.take_of_length_le (by simp [numsL])] at hal
    rw [hal, if_neg (by decide)] at hE
    refine (R16Text_ok (s := s) (ll := ll) ⟨hll.keep0 N6, fun q hq => (hop q hq).keep0 N6⟩ hl).mono ?_
    rw [hcs]
    rintro e w7 ⟨rfl, M7⟩
    have N7 := N6.go0 M7 (by simp)
    refine ⟨_, _, rfl, Keep.of0 M7, brB_of (fun g => ?_) fun g => ?_⟩
    · have g : textE m.calls ≠ 0 := by simpa using g
      exact ⟨by rw [hE, if_pos g], N7⟩
    have g : textE m.calls = 0 := by simpa using g
    rw [if_neg (by simpa using g)] at hE
    refine (R4Reply_ok (h.rep.keep0 N7)).mono ?_
    rintro e w8 ⟨rfl, M8⟩
    exact ⟨_, _, rfl, Keep.of0 M8, by rw [hE], N7.go0 M8 (by simp)⟩
end Go.Proofs.YtohgihgddknmmaaGreat

/- The conditions of Go functions' bodies, printed by gen2.py. -/
namespace Go.Proofs.YtohgihgddknmmaaGreat
open Go Go.RowKit
set_option linter.unusedVariables false
set_option maxRecDepth 100000

def ref17_Primary_an : List LA := []
def ref17_Primary_T (a0 a1 : Int) (R : Value → World → Prop) (w : World) : Prop :=
 brB (decide (a1 < 1)) (
 R (.int .i64 (-1)) w)
 (
 brB (decide (a1 > 7)) (
 R (.int .i64 (-1)) w)
 (
 brB (decide (a0 < 0)) (
 R (.int .i64 (-1)) w)
 (nz a1 (
 R (.int .i64 (Int.tmod a0 a1)) w))))
theorem ref17_Primary_eq (a0 a1 : Int) (R : Value → World → Prop) (w : World) :
 dnF Tryz.prog ref17_Primary_an (code Tryz.f65) 400 [] (post3 Tryz.prog Tryz.f65 [] R) ⟨args0 0 [.int .i64 a0, .int .i64 a1], fun _ => undef⟩ ⟨[], w, [], [], true⟩ = ref17_Primary_T a0 a1 R w := by kernel_rfl
theorem ref17_Primary_go {a0 a1 : Int} {R : Value → World → Prop} {w : World} (h : ref17_Primary_T a0 a1 R w) :
 Calls Tryz.prog 65 #[.int .i64 a0, .int .i64 a1] w fun e w' => ∃ v, e = .returned v ∧ R v w' :=
 calls_none Tryz.wide_mixed (f := 65) (args := [.int .i64 a0, .int .i64 a1]) Tryz.func65 rfl rfl (by kernel_rfl) rfl (Eq.mpr (ref17_Primary_eq a0 a1 R w) h)
def ref22_New_an : List LA := []
def ref22_New_T (a0 a1 : Int) (R : Value → World → Prop) (w : World) : Prop :=
 brB (decide (a0 < 1)) (
 R (.tuple #[.pointer none, .int .i64 1]) w)
 (
 brB (decide (a0 > 1099511627776)) (
 R (.tuple #[.pointer none, .int .i64 1]) w)
 (
 brB (decide (a1 < 1)) (
 R (.tuple #[.pointer none, .int .i64 1]) w)
 (
 brB (decide (a1 > 7)) (
 R (.tuple #[.pointer none, .int .i64 1]) w)
 (
 ∀ b1, w.heap.size ≤ b1 →
 ∀ w2, Adv [] [b1] w w2 → w2.heap[b1]? = some (.cells #[.int .i64 a0, .int .i64 a1, .int .i64 0, .int .i64 0, .bool false, .int .i64 0, .int .i64 0, .int .i64 0, .string ByteArray.empty, .int .i64 0, .int .i64 0, .int .i64 0, .int .i64 0, .int .i64 0, .int .i64 0, .slice none 0 0, .string ByteArray.empty, .string ByteArray.empty, .int .i64 0, .bool false, .slice none 0 0] 59) →
 R (.tuple #[(.pointer (some ⟨b1, 0, none⟩)), .int .i64 0]) w2))))
theorem ref22_New_eq (a0 a1 : Int) (R : Value → World → Prop) (w : World) :
 dnF Tryz.prog ref22_New_an (code Tryz.f11) 400 [] (post3 Tryz.prog Tryz.f11 [] R) ⟨args0 0 [.int .i64 a0, .int .i64 a1], fun _ => undef⟩ ⟨[], w, [], [], true⟩ = ref22_New_T a0 a1 R w := by kernel_rfl
theorem ref22_New_go {a0 a1 : Int} {R : Value → World → Prop} {w : World} (h : ref22_New_T a0 a1 R w) :
 Calls Tryz.prog 11 #[.int .i64 a0, .int .i64 a1] w fun e w' => ∃ v, e = .returned v ∧ R v w' :=
 calls_none Tryz.wide_mixed (f := 11) (args := [.int .i64 a0, .int .i64 a1]) Tryz.func11 rfl rfl (by kernel_rfl) rfl (Eq.mpr (ref22_New_eq a0 a1 R w) h)
def ref22_Session_mail_an : List LA := []
def ref22_Session_mail_T (b0 : Nat) (o0 o1 o2 o3 : Int) (o4 : Bool) (o5 o6 o7 : Int) (o8 : ByteArray) (o9 o10 o11 o12 o13 o14 : Int) (o15_a : Option Addr) (o15_n o15_c : Nat) (o16 o17 : ByteArray) (o18 : Int) (o19 : Bool) (o20_a : Option Addr) (o20_n o20_c : Nat) (a0 : Int) (R : Value → World → Prop) (w : World) : Prop :=
 ∀ b1, w.heap.size ≤ b1 →
 ∀ w2, Adv [] [b1] w w2 →
 al w2 (.cells #[.int .i64 o5, .int .i64 o6, .int .i64 o7, .string o8, .int .i64 o9, .int .i64 o10, .int .i64 o11, .int .i64 o12, .int .i64 o13, .int .i64 o14, .slice o15_a o15_n o15_c, .string o16, .string o17, .int .i64 o18, .bool o19, .slice o20_a o20_n o20_c] 57) fun b3 w4 =>
 ∀ w5, Adv [b1] [] w4 w5 → w5.heap[b0]? = some (.cells #[.int .i64 o0, .int .i64 o1, .int .i64 o2, .int .i64 o3, .bool o4, .int .i64 o5, .int .i64 o6, .int .i64 o7, .string o8, .int .i64 o9, .int .i64 o10, .int .i64 o11, .int .i64 o12, .int .i64 o13, .int .i64 o14, .slice o15_a o15_n o15_c, .string o16, .string o17, .int .i64 o18, .bool o19, .slice o20_a o20_n o20_c] 59) →
 R (.agg #[.int .i64 0, .int .i64 o0, .int .i64 a0, .int .i64 0, .int .i64 0, .int .i64 0, .int .i64 0, .int .i64 0, .int .i64 0, .int .i64 0, (.slice (some ⟨b3, 0, none⟩) 1 1), .int .i64 0, .int .i64 0, .int .i64 0, .int .i64 0, .slice none 0 0, .slice none 0 0]) w5
theorem ref22_Session_mail_eq (b0 : Nat) (o0 o1 o2 o3 : Int) (o4 : Bool) (o5 o6 o7 : Int) (o8 : ByteArray) (o9 o10 o11 o12 o13 o14 : Int) (o15_a : Option Addr) (o15_n o15_c : Nat) (o16 o17 : ByteArray) (o18 : Int) (o19 : Bool) (o20_a : Option Addr) (o20_n o20_c : Nat) (a0 : Int) (R : Value → World → Prop) (w : World) :
 dnF Tryz.prog ref22_Session_mail_an (code Tryz.f64) 400 [] (post3 Tryz.prog Tryz.f64 [0] R) ⟨(0, .pointer (some ⟨b0, 0, none⟩), some (0, 0)) :: args0 1 [.int .i64 a0], fun _ => undef⟩ ⟨[⟨b0, 59, [.int .i64 o0, .int .i64 o1, .int .i64 o2, .int .i64 o3, .bool o4, .int .i64 o5, .int .i64 o6, .int .i64 o7, .string o8, .int .i64 o9, .int .i64 o10, .int .i64 o11, .int .i64 o12, .int .i64 o13, .int .i64 o14, .slice o15_a o15_n o15_c, .string o16, .string o17, .int .i64 o18, .bool o19, .slice o20_a o20_n o20_c], false⟩], w, [], [], true⟩ = ref22_Session_mail_T b0 o0 o1 o2 o3 o4 o5 o6 o7 o8 o9 o10 o11 o12 o13 o14 o15_a o15_n o15_c o16 o17 o18 o19 o20_a o20_n o20_c a0 R w := by kernel_rfl
theorem ref22_Session_mail_go {b0 : Nat} {o0 o1 o2 o3 : Int} {o4 : Bool} {o5 o6 o7 : Int} {o8 : ByteArray} {o9 o10 o11 o12 o13 o14 : Int} {o15_a : Option Addr} {o15_n o15_c : Nat} {o16 o17 : ByteArray} {o18 : Int} {o19 : Bool} {o20_a : Option Addr} {o20_n o20_c : Nat} {a0 : Int} {R : Value → World → Prop} {w : World} (hb : w.heap[b0]? = some (.cells #[.int .i64 o0, .int .i64 o1, .int .i64 o2, .int .i64 o3, .bool o4, .int .i64 o5, .int .i64 o6, .int .i64 o7, .string o8, .int .i64 o9, .int .i64 o10, .int .i64 o11, .int .i64 o12, .int .i64 o13, .int .i64 o14, .slice o15_a o15_n o15_c, .string o16, .string o17, .int .i64 o18, .bool o19, .slice o20_a o20_n o20_c] 59)) (h : ref22_Session_mail_T b0 o0 o1 o2 o3 o4 o5 o6 o7 o8 o9 o10 o11 o12 o13 o14 o15_a o15_n o15_c o16 o17 o18 o19 o20_a o20_n o20_c a0 R w) :
 Calls Tryz.prog 64 #[(.pointer (some ⟨b0, 0, none⟩)), .int .i64 a0] w fun e w' => ∃ v, e = .returned v ∧ R v w' :=
 calls_one Tryz.wide_mixed (f := 64) (args := [.int .i64 a0]) Tryz.func64 rfl rfl (by kernel_rfl) rfl hb (Eq.mpr (ref22_Session_mail_eq b0 o0 o1 o2 o3 o4 o5 o6 o7 o8 o9 o10 o11 o12 o13 o14 o15_a o15_n o15_c o16 o17 o18 o19 o20_a o20_n o20_c a0 R w) h)
def ref22_Session_Call_an : List LA := []
def ref22_Session_Call_T (b0 : Nat) (o0 o1 o2 o3 : Int) (o4 : Bool) (o5 o6 o7 : Int) (o8 : ByteArray) (o9 o10 o11 o12 o13 o14 : Int) (o15_a : Option Addr) (o15_n o15_c : Nat) (o16 o17 : ByteArray) (o18 : Int) (o19 : Bool) (o20_a : Option Addr) (o20_n o20_c : Nat) (a9 : Int) (b3 : ByteArray) (b4 b5 b6 b7 b8 b9 : Int) (a3 : Option Addr) (a5 a4 : Nat) (c0 a6 : ByteArray) (a7 : Int) (a8 : Bool) (a0 : Option Addr) (a2 a1 : Nat) (R : Value → World → Prop) (w : World) : Prop :=
 ∀ b1, w.heap.size ≤ b1 →
 ∀ b2, w.heap.size ≤ b2 →
 ∀ w3, Adv [] [b2, b1] w w3 →
 Calls Tryz.prog 63 #[(.agg #[.int .i64 a9, .string b3, .int .i64 b4, .int .i64 b5, .int .i64 b6, .int .i64 b7, .int .i64 b8, .int .i64 b9, .slice a3 a5 a4, .string c0, .string a6, .int .i64 a7, .bool a8, .slice a0 a2 a1])] w3 fun e w4 => ∃ x5 : Int, e = .returned (.int .i64 x5) ∧ Keep [b0, b1, b2] w3 w4 ∧
 brB (x5 != 0) (
 ∀ w6, Adv [b2] [] w4 w6 → w6.heap[b0]? = some (.cells #[.int .i64 o0, .int .i64 o1, .int .i64 o2, .int .i64 o3, .bool o4, .int .i64 o5, .int .i64 o6, .int .i64 o7, .string o8, .int .i64 o9, .int .i64 o10, .int .i64 o11, .int .i64 o12, .int .i64 o13, .int .i64 o14, .slice o15_a o15_n o15_c, .string o16, .string o17, .int .i64 o18, .bool o19, .slice o20_a o20_n o20_c] 59) →
 R (.tuple #[(.agg #[.int .i64 0, .int .i64 0, .int .i64 0, .int .i64 0, .int .i64 0, .int .i64 0, .int .i64 0, .int .i64 0, .int .i64 0, .int .i64 0, .slice none 0 0, .int .i64 0, .int .i64 0, .int .i64 0, .int .i64 0, .slice none 0 0, .slice none 0 0]), .int .i64 x5]) w6)
 (
 brB o4 (
 ∀ w7, Adv [b2] [] w4 w7 → w7.heap[b0]? = some (.cells #[.int .i64 o0, .int .i64 o1, .int .i64 o2, .int .i64 o3, .bool o4, .int .i64 o5, .int .i64 o6, .int .i64 o7, .string o8, .int .i64 o9, .int .i64 o10, .int .i64 o11, .int .i64 o12, .int .i64 o13, .int .i64 o14, .slice o15_a o15_n o15_c, .string o16, .string o17, .int .i64 o18, .bool o19, .slice o20_a o20_n o20_c] 59) →
 R (.tuple #[(.agg #[.int .i64 0, .int .i64 0, .int .i64 0, .int .i64 0, .int .i64 0, .int .i64 0, .int .i64 0, .int .i64 0, .int .i64 0, .int .i64 0, .slice none 0 0, .int .i64 0, .int .i64 0, .int .i64 0, .int .i64 0, .slice none 0 0, .slice none 0 0]), .int .i64 220]) w7)
 (
 brB (o2 == 1099511627776) (
 ∀ w8, Adv [b2] [] w4 w8 → w8.heap[b0]? = some (.cells #[.int .i64 o0, .int .i64 o1, .int .i64 o2, .int .i64 o3, .bool o4, .int .i64 o5, .int .i64 o6, .int .i64 o7, .string o8, .int .i64 o9, .int .i64 o10, .int .i64 o11, .int .i64 o12, .int .i64 o13, .int .i64 o14, .slice o15_a o15_n o15_c, .string o16, .string o17, .int .i64 o18, .bool o19, .slice o20_a o20_n o20_c] 59) →
 R (.tuple #[(.agg #[.int .i64 0, .int .i64 0, .int .i64 0, .int .i64 0, .int .i64 0, .int .i64 0, .int .i64 0, .int .i64 0, .int .i64 0, .int .i64 0, .slice none 0 0, .int .i64 0, .int .i64 0, .int .i64 0, .int .i64 0, .slice none 0 0, .slice none 0 0]), .int .i64 2]) w8)
 (
 ∀ w9, Adv [b0] [] w4 w9 →
 Calls Tryz.prog 65 #[.int .i64 o3, .int .i64 o1] w9 fun e w10 => ∃ x11 : Int, e = .returned (.int .i64 x11) ∧ Keep [b0, b1, b2] w9 w10 ∧
 ∀ w12, Adv [] [] w10 w12 → w12.heap[b0]? = some (.cells #[.int .i64 o0, .int .i64 o1, (.int .i64 (IntKind.wrap .i64 (o2 + 1))), .int .i64 o3, .bool true, .int .i64 o0, (.int .i64 (IntKind.wrap .i64 (o2 + 1))), .int .i64 a9, .string b3, .int .i64 b4, .int .i64 b5, .int .i64 b6, .int .i64 b7, .int .i64 b8, .int .i64 b9, .slice a3 a5 a4, .string c0, .string a6, .int .i64 a7, .bool a8, .slice a0 a2 a1] 59) →
 Calls Tryz.prog 64 #[(.pointer (some ⟨b0, 0, none⟩)), .int .i64 x11] w12 fun e w13 => ∃ (x14 x15 x16 x17 x18 x19 x20 x21 x22 x23 : Int) (a24 : Option Addr) (n25 c26 : Nat) (x27 x28 x29 x30 : Int) (a31 : Option Addr) (n32 c33 : Nat) (a34 : Option Addr) (n35 c36 : Nat), e = .returned (.agg #[.int .i64 x14, .int .i64 x15, .int .i64 x16, .int .i64 x17, .int .i64 x18, .int .i64 x19, .int .i64 x20, .int .i64 x21, .int .i64 x22, .int .i64 x23, .slice a24 n25 c26, .int .i64 x27, .int .i64 x28, .int .i64 x29, .int .i64 x30, .slice a31 n32 c33, .slice a34 n35 c36]) ∧ KeepE [b0] [(b1, 38), (b2, 45)] [b1, b2] w12 w13 ∧ ∃ (x37 x38 x39 x40 : Int) (t41 : Bool) (x42 x43 x44 : Int) (s45 : ByteArray) (x46 x47 x48 x49 x50 x51 : Int) (a52 : Option Addr) (n53 c54 : Nat) (s55 s56 : ByteArray) (x57 : Int) (t58 : Bool) (a59 : Option Addr) (n60 c61 : Nat), w13.heap[b0]? = some (.cells #[.int .i64 x37, .int .i64 x38, .int .i64 x39, .int .i64 x40, .bool t41, .int .i64 x42, .int .i64 x43, .int .i64 x44, .string s45, .int .i64 x46, .int .i64 x47, .int .i64 x48, .int .i64 x49, .int .i64 x50, .int .i64 x51, .slice a52 n53 c54, .string s55, .string s56, .int .i64 x57, .bool t58, .slice a59 n60 c61] 59) ∧
 ∀ w62, Adv [b2] [] w13 w62 → w62.heap[b0]? = some (.cells #[.int .i64 x37, .int .i64 x38, .int .i64 x39, .int .i64 x40, .bool t41, .int .i64 x42, .int .i64 x43, .int .i64 x44, .string s45, .int .i64 x46, .int .i64 x47, .int .i64 x48, .int .i64 x49, .int .i64 x50, .int .i64 x51, .slice a52 n53 c54, .string s55, .string s56, .int .i64 x57, .bool t58, .slice a59 n60 c61] 59) →
 R (.tuple #[(.agg #[.int .i64 x14, .int .i64 x15, .int .i64 x16, .int .i64 x17, .int .i64 x18, .int .i64 x19, .int .i64 x20, .int .i64 x21, .int .i64 x22, .int .i64 x23, .slice a24 n25 c26, .int .i64 x27, .int .i64 x28, .int .i64 x29, .int .i64 x30, .slice a31 n32 c33, .slice a34 n35 c36]), .int .i64 0]) w62)))
theorem ref22_Session_Call_eq (b0 : Nat) (o0 o1 o2 o3 : Int) (o4 : Bool) (o5 o6 o7 : Int) (o8 : ByteArray) (o9 o10 o11 o12 o13 o14 : Int) (o15_a : Option Addr) (o15_n o15_c : Nat) (o16 o17 : ByteArray) (o18 : Int) (o19 : Bool) (o20_a : Option Addr) (o20_n o20_c : Nat) (a9 : Int) (b1 : ByteArray) (b2 b3 b4 b5 b6 b7 : Int) (a3 : Option Addr) (a5 a4 : Nat) (b8 a6 : ByteArray) (a7 : Int) (a8 : Bool) (a0 : Option Addr) (a2 a1 : Nat) (R : Value → World → Prop) (w : World) :
 dnF Tryz.prog ref22_Session_Call_an (code Tryz.f16) 400 [] (post3 Tryz.prog Tryz.f16 [0] R) ⟨(0, .pointer (some ⟨b0, 0, none⟩), some (0, 0)) :: args0 1 [(.agg #[.int .i64 a9, .string b1, .int .i64 b2, .int .i64 b3, .int .i64 b4, .int .i64 b5, .int .i64 b6, .int .i64 b7, .slice a3 a5 a4, .string b8, .string a6, .int .i64 a7, .bool a8, .slice a0 a2 a1])], fun _ => undef⟩ ⟨[⟨b0, 59, [.int .i64 o0, .int .i64 o1, .int .i64 o2, .int .i64 o3, .bool o4, .int .i64 o5, .int .i64 o6, .int .i64 o7, .string o8, .int .i64 o9, .int .i64 o10, .int .i64 o11, .int .i64 o12, .int .i64 o13, .int .i64 o14, .slice o15_a o15_n o15_c, .string o16, .string o17, .int .i64 o18, .bool o19, .slice o20_a o20_n o20_c], false⟩], w, [], [], true⟩ = ref22_Session_Call_T b0 o0 o1 o2 o3 o4 o5 o6 o7 o8 o9 o10 o11 o12 o13 o14 o15_a o15_n o15_c o16 o17 o18 o19 o20_a o20_n o20_c a9 b1 b2 b3 b4 b5 b6 b7 a3 a5 a4 b8 a6 a7 a8 a0 a2 a1 R w := by kernel_rfl
theorem ref22_Session_Call_go {b0 : Nat} {o0 o1 o2 o3 : Int} {o4 : Bool} {o5 o6 o7 : Int} {o8 : ByteArray} {o9 o10 o11 o12 o13 o14 : Int} {o15_a : Option Addr} {o15_n o15_c : Nat} {o16 o17 : ByteArray} {o18 : Int} {o19 : Bool} {o20_a : Option Addr} {o20_n o20_c : Nat} {a9 : Int} {b1 : ByteArray} {b2 b3 b4 b5 b6 b7 : Int} {a3 : Option Addr} {a5 a4 : Nat} {b8 a6 : ByteArray} {a7 : Int} {a8 : Bool} {a0 : Option Addr} {a2 a1 : Nat} {R : Value → World → Prop} {w : World} (hb : w.heap[b0]? = some (.cells #[.int .i64 o0, .int .i64 o1, .int .i64 o2, .int .i64 o3, .bool o4, .int .i64 o5, .int .i64 o6, .int .i64 o7, .string o8, .int .i64 o9, .int .i64 o10, .int .i64 o11, .int .i64 o12, .int .i64 o13, .int .i64 o14, .slice o15_a o15_n o15_c, .string o16, .string o17, .int .i64 o18, .bool o19, .slice o20_a o20_n o20_c] 59)) (h : ref22_Session_Call_T b0 o0 o1 o2 o3 o4 o5 o6 o7 o8 o9 o10 o11 o12 o13 o14 o15_a o15_n o15_c o16 o17 o18 o19 o20_a o20_n o20_c a9 b1 b2 b3 b4 b5 b6 b7 a3 a5 a4 b8 a6 a7 a8 a0 a2 a1 R w) :
 Calls Tryz.prog 16 #[(.pointer (some ⟨b0, 0, none⟩)), (.agg #[.int .i64 a9, .string b1, .int .i64 b2, .int .i64 b3, .int .i64 b4, .int .i64 b5, .int .i64 b6, .int .i64 b7, .slice a3 a5 a4, .string b8, .string a6, .int .i64 a7, .bool a8, .slice a0 a2 a1])] w fun e w' => ∃ v, e = .returned v ∧ R v w' :=
 calls_one Tryz.wide_mixed (f := 16) (args := [(.agg #[.int .i64 a9, .string b1, .int .i64 b2, .int .i64 b3, .int .i64 b4, .int .i64 b5, .int .i64 b6, .int .i64 b7, .slice a3 a5 a4, .string b8, .string a6, .int .i64 a7, .bool a8, .slice a0 a2 a1])]) Tryz.func16 rfl rfl (by kernel_rfl) rfl hb (Eq.mpr (ref22_Session_Call_eq b0 o0 o1 o2 o3 o4 o5 o6 o7 o8 o9 o10 o11 o12 o13 o14 o15_a o15_n o15_c o16 o17 o18 o19 o20_a o20_n o20_c a9 b1 b2 b3 b4 b5 b6 b7 a3 a5 a4 b8 a6 a7 a8 a0 a2 a1 R w) h)
def ref22_Session_Retry_la1 : LA := ⟨[0, 0, 1, 0, 1, 1], [0, 3, 4], [(0, 0, 0)], 1, [0]⟩
def ref22_Session_Retry_an : List LA := [ref22_Session_Retry_la1]
def ref22_Session_Retry_v1 (bm0 : Nat) (a0 : Option Addr) (a2 a1 : Nat) (a3 : Int) : List Value := [(.pointer (some ⟨bm0, 0, none⟩)), .slice a0 a2 a1, .int .i64 a3]
def ref22_Session_Retry_m1 (bm0 : Nat) (b7 b8 b9 c0 : Int) (b6 : Bool) (c1 c2 c3 : Int) (b5 : ByteArray) (c4 a9 b0 b1 b2 b3 : Int) (a0 : Option Addr) (a4 a2 : Nat) (a6 a7 : ByteArray) (b4 : Int) (a8 : Bool) (a1 : Option Addr) (a5 a3 : Nat) : List TB := [⟨bm0, 59, [.int .i64 b7, .int .i64 b8, .int .i64 b9, .int .i64 c0, .bool b6, .int .i64 c1, .int .i64 c2, .int .i64 c3, .string b5, .int .i64 c4, .int .i64 a9, .int .i64 b0, .int .i64 b1, .int .i64 b2, .int .i64 b3, .slice a0 a4 a2, .string a6, .string a7, .int .i64 b4, .bool a8, .slice a1 a5 a3], true⟩]
def ref22_Session_Retry_L1 (bm0 : Nat) (b7 : Option Addr) (b9 b8 : Nat) (c1 c2 a1 c3 c4 : Int) (a0 : Bool) (c5 c6 c7 : Int) (c0 : ByteArray) (c8 b1 b2 b3 b4 b5 : Int) (a2 : Option Addr) (a6 a4 : Nat) (a8 a9 : ByteArray) (b6 : Int) (b0 : Bool) (a3 : Option Addr) (a7 a5 : Nat) (K1 : Kh) (R : Value → World → Prop) (w : World) : Prop :=
 w.heap[bm0]? = some (.cells #[.int .i64 c2, .int .i64 a1, .int .i64 c3, .int .i64 c4, .bool a0, .int .i64 c5, .int .i64 c6, .int .i64 c7, .string c0, .int .i64 c8, .int .i64 b1, .int .i64 b2, .int .i64 b3, .int .i64 b4, .int .i64 b5, .slice a2 a6 a4, .string a8, .string a9, .int .i64 b6, .bool b0, .slice a3 a7 a5] 59) →
 brB (decide (c1 < a1)) (
 brB a0 (
 Calls Tryz.prog 64 #[(.pointer (some ⟨bm0, 0, none⟩)), .int .i64 c1] w fun e w3 => ∃ (x4 x5 x6 x7 x8 x9 x10 x11 x12 x13 : Int) (a14 : Option Addr) (n15 c16 : Nat) (x17 x18 x19 x20 : Int) (a21 : Option Addr) (n22 c23 : Nat) (a24 : Option Addr) (n25 c26 : Nat), e = .returned (.agg #[.int .i64 x4, .int .i64 x5, .int .i64 x6, .int .i64 x7, .int .i64 x8, .int .i64 x9, .int .i64 x10, .int .i64 x11, .int .i64 x12, .int .i64 x13, .slice a14 n15 c16, .int .i64 x17, .int .i64 x18, .int .i64 x19, .int .i64 x20, .slice a21 n22 c23, .slice a24 n25 c26]) ∧ ∃ (x27 x28 x29 x30 : Int) (t31 : Bool) (x32 x33 x34 : Int) (s35 : ByteArray) (x36 x37 x38 x39 x40 x41 : Int) (a42 : Option Addr) (n43 c44 : Nat) (s45 s46 : ByteArray) (x47 : Int) (t48 : Bool) (a49 : Option Addr) (n50 c51 : Nat), w3.heap[bm0]? = some (.cells #[.int .i64 x27, .int .i64 x28, .int .i64 x29, .int .i64 x30, .bool t31, .int .i64 x32, .int .i64 x33, .int .i64 x34, .string s35, .int .i64 x36, .int .i64 x37, .int .i64 x38, .int .i64 x39, .int .i64 x40, .int .i64 x41, .slice a42 n43 c44, .string s45, .string s46, .int .i64 x47, .bool t48, .slice a49 n50 c51] 59) ∧
 al w3 (.cells #[.int .i64 x4, .int .i64 x5, .int .i64 x6, .int .i64 x7, .int .i64 x8, .int .i64 x9, .int .i64 x10, .int .i64 x11, .int .i64 x12, .int .i64 x13, .slice a14 n15 c16, .int .i64 x17, .int .i64 x18, .int .i64 x19, .int .i64 x20, .slice a21 n22 c23, .slice a24 n25 c26] 45) fun b52 w53 =>
 effSl Tryz.prog (Builtin.append_ #[53, 53] 53 #[.slice b7 b9 b8, (.slice (some ⟨b52, 0, none⟩) 1 1)]) w53 fun a55 n56 c57 w54 => Keep [bm0] w53 w54 ∧
 K1 (ref22_Session_Retry_v1 bm0 a55 n56 c57 (IntKind.wrap .i64 (c1 + 1))) (ref22_Session_Retry_m1 bm0 x27 x28 x29 x30 t31 x32 x33 x34 s35 x36 x37 x38 x39 x40 x41 a42 n43 c44 s45 s46 x47 t48 a49 n50 c51) w54)
 (
 R (.slice b7 b9 b8) w))
 (
 R (.slice b7 b9 b8) w)
theorem ref22_Session_Retry_L1_eq (bm0 : Nat) (c5 : Option Addr) (c7 c6 : Nat) (c8 b7 b8 b9 c0 : Int) (b6 : Bool) (c1 c2 c3 : Int) (b5 : ByteArray) (c4 a9 b0 b1 b2 b3 : Int) (a0 : Option Addr) (a4 a2 : Nat) (a6 a7 : ByteArray) (b4 : Int) (a8 : Bool) (a1 : Option Addr) (a5 a3 : Nat) (K1 : Kh) (js : Nat → Value) (R : Value → World → Prop) (w : World) :
 headA ref22_Session_Retry_la1 ((dnF Tryz.prog ref22_Session_Retry_an (code Tryz.f20) 396 [0, 0, 1, 0, 1, 1]) (kthen3 (atA ref22_Session_Retry_la1 K1) (kont3 Tryz.prog ref22_Session_Retry_an (code Tryz.f20) [1, 1, 0, 1, 0] [] (post3 Tryz.prog Tryz.f20 [0] R)))) (ref22_Session_Retry_v1 bm0 c5 c7 c6 c8) js (ref22_Session_Retry_m1 bm0 b7 b8 b9 c0 b6 c1 c2 c3 b5 c4 a9 b0 b1 b2 b3 a0 a4 a2 a6 a7 b4 a8 a1 a5 a3) w = ref22_Session_Retry_L1 bm0 c5 c7 c6 c8 b7 b8 b9 c0 b6 c1 c2 c3 b5 c4 a9 b0 b1 b2 b3 a0 a4 a2 a6 a7 b4 a8 a1 a5 a3 K1 R w := by kernel_rfl
def ref22_Session_Retry_K1 (bm0 : Nat) (I : Nat → Option Addr → Nat → Nat → Int → Int → Int → Int → Int → Bool → Int → Int → Int → ByteArray → Int → Int → Int → Int → Int → Int → Option Addr → Nat → Nat → ByteArray → ByteArray → Int → Bool → Option Addr → Nat → Nat → World → Prop) (m : Nat) (vals : List Value) (mem : List TB) (w : World) : Prop := ∃ m', m' < m ∧ ∃ c5 c7 c6 c8 b7 b8 b9 c0 b6 c1 c2 c3 b5 c4 a9 b0 b1 b2 b3 a0 a4 a2 a6 a7 b4 a8 a1 a5 a3, vals = (ref22_Session_Retry_v1 bm0 c5 c7 c6 c8) ∧ mem = (ref22_Session_Retry_m1 bm0 b7 b8 b9 c0 b6 c1 c2 c3 b5 c4 a9 b0 b1 b2 b3 a0 a4 a2 a6 a7 b4 a8 a1 a5 a3) ∧ I m' c5 c7 c6 c8 b7 b8 b9 c0 b6 c1 c2 c3 b5 c4 a9 b0 b1 b2 b3 a0 a4 a2 a6 a7 b4 a8 a1 a5 a3 w
theorem ref22_Session_Retry_leaf1 {bm0 : Nat} {I : Nat → Option Addr → Nat → Nat → Int → Int → Int → Int → Int → Bool → Int → Int → Int → ByteArray → Int → Int → Int → Int → Int → Int → Option Addr → Nat → Nat → ByteArray → ByteArray → Int → Bool → Option Addr → Nat → Nat → World → Prop} {m : Nat} {c5 : Option Addr} {c7 c6 : Nat} {c8 b7 b8 b9 c0 : Int} {b6 : Bool} {c1 c2 c3 : Int} {b5 : ByteArray} {c4 a9 b0 b1 b2 b3 : Int} {a0 : Option Addr} {a4 a2 : Nat} {a6 a7 : ByteArray} {b4 : Int} {a8 : Bool} {a1 : Option Addr} {a5 a3 : Nat} {w : World} (m' : Nat) (h1 : m' < m) (h2 : I m' c5 c7 c6 c8 b7 b8 b9 c0 b6 c1 c2 c3 b5 c4 a9 b0 b1 b2 b3 a0 a4 a2 a6 a7 b4 a8 a1 a5 a3 w) : ref22_Session_Retry_K1 bm0 I m (ref22_Session_Retry_v1 bm0 c5 c7 c6 c8) (ref22_Session_Retry_m1 bm0 b7 b8 b9 c0 b6 c1 c2 c3 b5 c4 a9 b0 b1 b2 b3 a0 a4 a2 a6 a7 b4 a8 a1 a5 a3) w := ⟨m', h1, _, _, _, _, _, _, _, _, _, _, _, _, _, _, _, _, _, _, _, _, _, _, _, _, _, _, _, _, _, rfl, rfl, h2⟩
theorem ref22_Session_Retry_rule1 {bm0 : Nat} {f3 : Option Addr} {f5 f4 : Nat} {f6 e6 a0 e7 e8 : Int} {e5 : Bool} {e9 f0 f1 : Int} {e4 : ByteArray} {f2 d8 d9 e0 e1 e2 : Int} {c6 : Option Addr} {d2 c9 : Nat} {d4 d5 : ByteArray} {e3 : Int} {d6 : Bool} {c7 : Option Addr} {d3 d0 : Nat} {R : Value → World → Prop} {w0 : World} (I : Nat → Option Addr → Nat → Nat → Int → Int → Int → Int → Int → Bool → Int → Int → Int → ByteArray → Int → Int → Int → Int → Int → Int → Option Addr → Nat → Nat → ByteArray → ByteArray → Int → Bool → Option Addr → Nat → Nat → World → Prop) (m0 : Nat) (h0 : I m0 f3 f5 f4 f6 e6 a0 e7 e8 e5 e9 f0 f1 e4 f2 d8 d9 e0 e1 e2 c6 d2 c9 d4 d5 e3 d6 c7 d3 d0 w0)
 (hr : ∀ (m : Nat) (c5 : Option Addr) (d1 c8 : Nat) (d7 b7 b8 b9 c0 : Int) (b6 : Bool) (c1 c2 c3 : Int) (b5 : ByteArray) (c4 a0 b0 b1 b2 b3 : Int) (a1 : Option Addr) (a5 a3 : Nat) (a7 a8 : ByteArray) (b4 : Int) (a9 : Bool) (a2 : Option Addr) (a6 a4 : Nat) (w : World), I m c5 d1 c8 d7 b7 b8 b9 c0 b6 c1 c2 c3 b5 c4 a0 b0 b1 b2 b3 a1 a5 a3 a7 a8 b4 a9 a2 a6 a4 w → ref22_Session_Retry_L1 bm0 c5 d1 c8 d7 b7 b8 b9 c0 b6 c1 c2 c3 b5 c4 a0 b0 b1 b2 b3 a1 a5 a3 a7 a8 b4 a9 a2 a6 a4 (ref22_Session_Retry_K1 bm0 I m) R w) :
 loopD3 ref22_Session_Retry_la1 (dnF Tryz.prog ref22_Session_Retry_an (code Tryz.f20) 396 [0, 0, 1, 0, 1, 1]) (kont3 Tryz.prog ref22_Session_Retry_an (code Tryz.f20) [1, 1, 0, 1, 0] [] (post3 Tryz.prog Tryz.f20 [0] R)) (ref22_Session_Retry_v1 bm0 f3 f5 f4 f6) (ref22_Session_Retry_m1 bm0 e6 a0 e7 e8 e5 e9 f0 f1 e4 f2 d8 d9 e0 e1 e2 c6 d2 c9 d4 d5 e3 d6 c7 d3 d0) w0 := by
 refine ⟨fun m vals mem w => ∃ c5 d1 c8 d7 b7 b8 b9 c0 b6 c1 c2 c3 b5 c4 a0 b0 b1 b2 b3 a1 a5 a3 a7 a8 b4 a9 a2 a6 a4, vals = (ref22_Session_Retry_v1 bm0 c5 d1 c8 d7) ∧ mem = (ref22_Session_Retry_m1 bm0 b7 b8 b9 c0 b6 c1 c2 c3 b5 c4 a0 b0 b1 b2 b3 a1 a5 a3 a7 a8 b4 a9 a2 a6 a4) ∧ I m c5 d1 c8 d7 b7 b8 b9 c0 b6 c1 c2 c3 b5 c4 a0 b0 b1 b2 b3 a1 a5 a3 a7 a8 b4 a9 a2 a6 a4 w, m0, ⟨_, _, _, _, _, _, _, _, _, _, _, _, _, _, _, _, _, _, _, _, _, _, _, _, _, _, _, _, _, rfl, rfl, h0⟩, ?_⟩
 rintro m vals mem w ⟨c5, d1, c8, d7, b7, b8, b9, c0, b6, c1, c2, c3, b5, c4, a0, b0, b1, b2, b3, a1, a5, a3, a7, a8, b4, a9, a2, a6, a4, rfl, rfl, hI⟩
 refine ⟨rfl, rfl, fun js => ?_⟩
 have h := hr m c5 d1 c8 d7 b7 b8 b9 c0 b6 c1 c2 c3 b5 c4 a0 b0 b1 b2 b3 a1 a5 a3 a7 a8 b4 a9 a2 a6 a4 w hI
 rw [← ref22_Session_Retry_L1_eq _ _ _ _ _ _ _ _ _ _ _ _ _ _ _ _ _ _ _ _ _ _ _ _ _ _ _ _ _ _ _ js] at h
 exact h
def ref22_Session_Retry_T (b0 : Nat) (o0 o1 o2 o3 : Int) (o4 : Bool) (o5 o6 o7 : Int) (o8 : ByteArray) (o9 o10 o11 o12 o13 o14 : Int) (o15_a : Option Addr) (o15_n o15_c : Nat) (o16 o17 : ByteArray) (o18 : Int) (o19 : Bool) (o20_a : Option Addr) (o20_n o20_c : Nat) (R : Value → World → Prop) (w : World) : Prop :=
 al w (.cells #[] 45) fun b1 w2 =>
 ∀ w58, Adv [] [] w2 w58 → w58.heap[b0]? = some (.cells #[.int .i64 o0, .int .i64 o1, .int .i64 o2, .int .i64 o3, .bool o4, .int .i64 o5, .int .i64 o6, .int .i64 o7, .string o8, .int .i64 o9, .int .i64 o10, .int .i64 o11, .int .i64 o12, .int .i64 o13, .int .i64 o14, .slice o15_a o15_n o15_c, .string o16, .string o17, .int .i64 o18, .bool o19, .slice o20_a o20_n o20_c] 59) →
 loopD3 ref22_Session_Retry_la1 (dnF Tryz.prog ref22_Session_Retry_an (code Tryz.f20) 396 [0, 0, 1, 0, 1, 1]) (kont3 Tryz.prog ref22_Session_Retry_an (code Tryz.f20) [1, 1, 0, 1, 0] [] (post3 Tryz.prog Tryz.f20 [0] R)) (ref22_Session_Retry_v1 b0 (some ⟨b1, 0, none⟩) 0 0 0) (ref22_Session_Retry_m1 b0 o0 o1 o2 o3 o4 o5 o6 o7 o8 o9 o10 o11 o12 o13 o14 o15_a o15_n o15_c o16 o17 o18 o19 o20_a o20_n o20_c) w58
theorem ref22_Session_Retry_eq (b0 : Nat) (o0 o1 o2 o3 : Int) (o4 : Bool) (o5 o6 o7 : Int) (o8 : ByteArray) (o9 o10 o11 o12 o13 o14 : Int) (o15_a : Option Addr) (o15_n o15_c : Nat) (o16 o17 : ByteArray) (o18 : Int) (o19 : Bool) (o20_a : Option Addr) (o20_n o20_c : Nat) (R : Value → World → Prop) (w : World) :
 dnF Tryz.prog ref22_Session_Retry_an (code Tryz.f20) 400 [] (post3 Tryz.prog Tryz.f20 [0] R) ⟨(0, .pointer (some ⟨b0, 0, none⟩), some (0, 0)) :: args0 1 [], fun _ => undef⟩ ⟨[⟨b0, 59, [.int .i64 o0, .int .i64 o1, .int .i64 o2, .int .i64 o3, .bool o4, .int .i64 o5, .int .i64 o6, .int .i64 o7, .string o8, .int .i64 o9, .int .i64 o10, .int .i64 o11, .int .i64 o12, .int .i64 o13, .int .i64 o14, .slice o15_a o15_n o15_c, .string o16, .string o17, .int .i64 o18, .bool o19, .slice o20_a o20_n o20_c], false⟩], w, [], [], true⟩ = ref22_Session_Retry_T b0 o0 o1 o2 o3 o4 o5 o6 o7 o8 o9 o10 o11 o12 o13 o14 o15_a o15_n o15_c o16 o17 o18 o19 o20_a o20_n o20_c R w := by kernel_rfl
theorem ref22_Session_Retry_go {b0 : Nat} {o0 o1 o2 o3 : Int} {o4 : Bool} {o5 o6 o7 : Int} {o8 : ByteArray} {o9 o10 o11 o12 o13 o14 : Int} {o15_a : Option Addr} {o15_n o15_c : Nat} {o16 o17 : ByteArray} {o18 : Int} {o19 : Bool} {o20_a : Option Addr} {o20_n o20_c : Nat} {R : Value → World → Prop} {w : World} (hb : w.heap[b0]? = some (.cells #[.int .i64 o0, .int .i64 o1, .int .i64 o2, .int .i64 o3, .bool o4, .int .i64 o5, .int .i64 o6, .int .i64 o7, .string o8, .int .i64 o9, .int .i64 o10, .int .i64 o11, .int .i64 o12, .int .i64 o13, .int .i64 o14, .slice o15_a o15_n o15_c, .string o16, .string o17, .int .i64 o18, .bool o19, .slice o20_a o20_n o20_c] 59)) (h : ref22_Session_Retry_T b0 o0 o1 o2 o3 o4 o5 o6 o7 o8 o9 o10 o11 o12 o13 o14 o15_a o15_n o15_c o16 o17 o18 o19 o20_a o20_n o20_c R w) :
 Calls Tryz.prog 20 #[(.pointer (some ⟨b0, 0, none⟩))] w fun e w' => ∃ v, e = .returned v ∧ R v w' :=
 calls_one Tryz.wide_mixed (f := 20) (args := []) Tryz.func20 rfl rfl (by kernel_rfl) rfl hb (Eq.mpr (ref22_Session_Retry_eq b0 o0 o1 o2 o3 o4 o5 o6 o7 o8 o9 o10 o11 o12 o13 o14 o15_a o15_n o15_c o16 o17 o18 o19 o20_a o20_n o20_c R w) h)
def ref22_Session_Hear_an : List LA := []
def ref22_Session_Hear_T (b0 : Nat) (o0 o1 o2 o3 : Int) (o4 : Bool) (o5 o6 o7 : Int) (o8 : ByteArray) (o9 o10 o11 o12 o13 o14 : Int) (o15_a : Option Addr) (o15_n o15_c : Nat) (o16 o17 : ByteArray) (o18 : Int) (o19 : Bool) (o20_a : Option Addr) (o20_n o20_c : Nat) (b4 c0 b8 a6 c1 c2 c3 c4 c5 b9 : Int) (b5 : Option Addr) (b7 b6 : Nat) (a7 a8 a9 b3 : Int) (a0 : Option Addr) (a2 a1 : Nat) (a3 : Option Addr) (a5 a4 : Nat) (R : Value → World → Prop) (w : World) : Prop :=
 ∀ b1, w.heap.size ≤ b1 →
 ∀ b2, w.heap.size ≤ b2 →
 ∀ w3, Adv [] [b2, b1] w w3 →
 Calls Tryz.prog 71 #[(.agg #[.int .i64 b4, .int .i64 c0, .int .i64 b8, .int .i64 a6, .int .i64 c1, .int .i64 c2, .int .i64 c3, .int .i64 c4, .int .i64 c5, .int .i64 b9, .slice b5 b7 b6, .int .i64 a7, .int .i64 a8, .int .i64 a9, .int .i64 b3, .slice a0 a2 a1, .slice a3 a5 a4])] w3 fun e w4 => ∃ x5 : Int, e = .returned (.int .i64 x5) ∧ Keep [b0, b1, b2] w3 w4 ∧
 brB (x5 != 0) (
 ∀ w6, Adv [b2] [] w4 w6 → w6.heap[b0]? = some (.cells #[.int .i64 o0, .int .i64 o1, .int .i64 o2, .int .i64 o3, .bool o4, .int .i64 o5, .int .i64 o6, .int .i64 o7, .string o8, .int .i64 o9, .int .i64 o10, .int .i64 o11, .int .i64 o12, .int .i64 o13, .int .i64 o14, .slice o15_a o15_n o15_c, .string o16, .string o17, .int .i64 o18, .bool o19, .slice o20_a o20_n o20_c] 59) →
 R (.tuple #[(.agg #[.int .i64 0, .int .i64 0, .int .i64 0, .int .i64 0, .slice none 0 0, .slice none 0 0]), .bool false]) w6)
 (
 brB (b4 != 1) (
 ∀ w7, Adv [b2] [] w4 w7 → w7.heap[b0]? = some (.cells #[.int .i64 o0, .int .i64 o1, .int .i64 o2, .int .i64 o3, .bool o4, .int .i64 o5, .int .i64 o6, .int .i64 o7, .string o8, .int .i64 o9, .int .i64 o10, .int .i64 o11, .int .i64 o12, .int .i64 o13, .int .i64 o14, .slice o15_a o15_n o15_c, .string o16, .string o17, .int .i64 o18, .bool o19, .slice o20_a o20_n o20_c] 59) →
 R (.tuple #[(.agg #[.int .i64 0, .int .i64 0, .int .i64 0, .int .i64 0, .slice none 0 0, .slice none 0 0]), .bool false]) w7)
 (
 brB (b8 != o0) (
 ∀ w8, Adv [b2] [] w4 w8 → w8.heap[b0]? = some (.cells #[.int .i64 o0, .int .i64 o1, .int .i64 o2, .int .i64 o3, .bool o4, .int .i64 o5, .int .i64 o6, .int .i64 o7, .string o8, .int .i64 o9, .int .i64 o10, .int .i64 o11, .int .i64 o12, .int .i64 o13, .int .i64 o14, .slice o15_a o15_n o15_c, .string o16, .string o17, .int .i64 o18, .bool o19, .slice o20_a o20_n o20_c] 59) →
 R (.tuple #[(.agg #[.int .i64 0, .int .i64 0, .int .i64 0, .int .i64 0, .slice none 0 0, .slice none 0 0]), .bool false]) w8)
 (
 brB (!o4) (
 ∀ w9, Adv [b2] [] w4 w9 → w9.heap[b0]? = some (.cells #[.int .i64 o0, .int .i64 o1, .int .i64 o2, .int .i64 o3, .bool o4, .int .i64 o5, .int .i64 o6, .int .i64 o7, .string o8, .int .i64 o9, .int .i64 o10, .int .i64 o11, .int .i64 o12, .int .i64 o13, .int .i64 o14, .slice o15_a o15_n o15_c, .string o16, .string o17, .int .i64 o18, .bool o19, .slice o20_a o20_n o20_c] 59) →
 R (.tuple #[(.agg #[.int .i64 0, .int .i64 0, .int .i64 0, .int .i64 0, .slice none 0 0, .slice none 0 0]), .bool false]) w9)
 (
 brB (b9 != o2) (
 ∀ w10, Adv [b2] [] w4 w10 → w10.heap[b0]? = some (.cells #[.int .i64 o0, .int .i64 o1, .int .i64 o2, .int .i64 o3, .bool o4, .int .i64 o5, .int .i64 o6, .int .i64 o7, .string o8, .int .i64 o9, .int .i64 o10, .int .i64 o11, .int .i64 o12, .int .i64 o13, .int .i64 o14, .slice o15_a o15_n o15_c, .string o16, .string o17, .int .i64 o18, .bool o19, .slice o20_a o20_n o20_c] 59) →
 R (.tuple #[(.agg #[.int .i64 0, .int .i64 0, .int .i64 0, .int .i64 0, .slice none 0 0, .slice none 0 0]), .bool false]) w10)
 (
 ∀ w11, Adv [b2, b0] [] w4 w11 → w11.heap[b0]? = some (.cells #[.int .i64 o0, .int .i64 o1, .int .i64 o2, (.int .i64 (if a6 > o3 then a6 else o3)), .bool false, .int .i64 o5, .int .i64 o6, .int .i64 o7, .string o8, .int .i64 o9, .int .i64 o10, .int .i64 o11, .int .i64 o12, .int .i64 o13, .int .i64 o14, .slice o15_a o15_n o15_c, .string o16, .string o17, .int .i64 o18, .bool o19, .slice o20_a o20_n o20_c] 59) →
 R (.tuple #[(.agg #[.int .i64 a7, .int .i64 a8, .int .i64 a9, .int .i64 b3, .slice a0 a2 a1, .slice a3 a5 a4]), .bool true]) w11)))))
theorem ref22_Session_Hear_eq (b0 : Nat) (o0 o1 o2 o3 : Int) (o4 : Bool) (o5 o6 o7 : Int) (o8 : ByteArray) (o9 o10 o11 o12 o13 o14 : Int) (o15_a : Option Addr) (o15_n o15_c : Nat) (o16 o17 : ByteArray) (o18 : Int) (o19 : Bool) (o20_a : Option Addr) (o20_n o20_c : Nat) (b4 b5 b6 b7 b8 b9 c0 c1 c2 c3 : Int) (a0 : Option Addr) (a2 a1 : Nat) (a9 b1 b2 b3 : Int) (a3 : Option Addr) (a5 a4 : Nat) (a6 : Option Addr) (a8 a7 : Nat) (R : Value → World → Prop) (w : World) :
 dnF Tryz.prog ref22_Session_Hear_an (code Tryz.f22) 400 [] (post3 Tryz.prog Tryz.f22 [0] R) ⟨(0, .pointer (some ⟨b0, 0, none⟩), some (0, 0)) :: args0 1 [(.agg #[.int .i64 b4, .int .i64 b5, .int .i64 b6, .int .i64 b7, .int .i64 b8, .int .i64 b9, .int .i64 c0, .int .i64 c1, .int .i64 c2, .int .i64 c3, .slice a0 a2 a1, .int .i64 a9, .int .i64 b1, .int .i64 b2, .int .i64 b3, .slice a3 a5 a4, .slice a6 a8 a7])], fun _ => undef⟩ ⟨[⟨b0, 59, [.int .i64 o0, .int .i64 o1, .int .i64 o2, .int .i64 o3, .bool o4, .int .i64 o5, .int .i64 o6, .int .i64 o7, .string o8, .int .i64 o9, .int .i64 o10, .int .i64 o11, .int .i64 o12, .int .i64 o13, .int .i64 o14, .slice o15_a o15_n o15_c, .string o16, .string o17, .int .i64 o18, .bool o19, .slice o20_a o20_n o20_c], false⟩], w, [], [], true⟩ = ref22_Session_Hear_T b0 o0 o1 o2 o3 o4 o5 o6 o7 o8 o9 o10 o11 o12 o13 o14 o15_a o15_n o15_c o16 o17 o18 o19 o20_a o20_n o20_c b4 b5 b6 b7 b8 b9 c0 c1 c2 c3 a0 a2 a1 a9 b1 b2 b3 a3 a5 a4 a6 a8 a7 R w := by kernel_rfl
theorem ref22_Session_Hear_go {b0 : Nat} {o0 o1 o2 o3 : Int} {o4 : Bool} {o5 o6 o7 : Int} {o8 : ByteArray} {o9 o10 o11 o12 o13 o14 : Int} {o15_a : Option Addr} {o15_n o15_c : Nat} {o16 o17 : ByteArray} {o18 : Int} {o19 : Bool} {o20_a : Option Addr} {o20_n o20_c : Nat} {b4 b5 b6 b7 b8 b9 c0 c1 c2 c3 : Int} {a0 : Option Addr} {a2 a1 : Nat} {a9 b1 b2 b3 : Int} {a3 : Option Addr} {a5 a4 : Nat} {a6 : Option Addr} {a8 a7 : Nat} {R : Value → World → Prop} {w : World} (hb : w.heap[b0]? = some (.cells #[.int .i64 o0, .int .i64 o1, .int .i64 o2, .int .i64 o3, .bool o4, .int .i64 o5, .int .i64 o6, .int .i64 o7, .string o8, .int .i64 o9, .int .i64 o10, .int .i64 o11, .int .i64 o12, .int .i64 o13, .int .i64 o14, .slice o15_a o15_n o15_c, .string o16, .string o17, .int .i64 o18, .bool o19, .slice o20_a o20_n o20_c] 59)) (h : ref22_Session_Hear_T b0 o0 o1 o2 o3 o4 o5 o6 o7 o8 o9 o10 o11 o12 o13 o14 o15_a o15_n o15_c o16 o17 o18 o19 o20_a o20_n o20_c b4 b5 b6 b7 b8 b9 c0 c1 c2 c3 a0 a2 a1 a9 b1 b2 b3 a3 a5 a4 a6 a8 a7 R w) :
 Calls Tryz.prog 22 #[(.pointer (some ⟨b0, 0, none⟩)), (.agg #[.int .i64 b4, .int .i64 b5, .int .i64 b6, .int .i64 b7, .int .i64 b8, .int .i64 b9, .int .i64 c0, .int .i64 c1, .int .i64 c2, .int .i64 c3, .slice a0 a2 a1, .int .i64 a9, .int .i64 b1, .int .i64 b2, .int .i64 b3, .slice a3 a5 a4, .slice a6 a8 a7])] w fun e w' => ∃ v, e = .returned v ∧ R v w' :=
 calls_one Tryz.wide_mixed (f := 22) (args := [(.agg #[.int .i64 b4, .int .i64 b5, .int .i64 b6, .int .i64 b7, .int .i64 b8, .int .i64 b9, .int .i64 c0, .int .i64 c1, .int .i64 c2, .int .i64 c3, .slice a0 a2 a1, .int .i64 a9, .int .i64 b1, .int .i64 b2, .int .i64 b3, .slice a3 a5 a4, .slice a6 a8 a7])]) Tryz.func22 rfl rfl (by kernel_rfl) rfl hb (Eq.mpr (ref22_Session_Hear_eq b0 o0 o1 o2 o3 o4 o5 o6 o7 o8 o9 o10 o11 o12 o13 o14 o15_a o15_n o15_c o16 o17 o18 o19 o20_a o20_n o20_c b4 b5 b6 b7 b8 b9 c0 c1 c2 c3 a0 a2 a1 a9 b1 b2 b3 a3 a5 a4 a6 a8 a7 R w) h)
def ref22_Session_Waits_an : List LA := []
def ref22_Session_Waits_T (b0 : Nat) (o0 o1 o2 o3 : Int) (o4 : Bool) (o5 o6 o7 : Int) (o8 : ByteArray) (o9 o10 o11 o12 o13 o14 : Int) (o15_a : Option Addr) (o15_n o15_c : Nat) (o16 o17 : ByteArray) (o18 : Int) (o19 : Bool) (o20_a : Option Addr) (o20_n o20_c : Nat) (R : Value → World → Prop) (w : World) : Prop :=
 ∀ b1, w.heap.size ≤ b1 →
 brB o4 (
 ∀ w2, Adv [] [b1] w w2 → w2.heap[b0]? = some (.cells #[.int .i64 o0, .int .i64 o1, .int .i64 o2, .int .i64 o3, .bool o4, .int .i64 o5, .int .i64 o6, .int .i64 o7, .string o8, .int .i64 o9, .int .i64 o10, .int .i64 o11, .int .i64 o12, .int .i64 o13, .int .i64 o14, .slice o15_a o15_n o15_c, .string o16, .string o17, .int .i64 o18, .bool o19, .slice o20_a o20_n o20_c] 59) →
 R (.tuple #[(.agg #[.int .i64 o5, .int .i64 o6, .int .i64 o7, .string o8, .int .i64 o9, .int .i64 o10, .int .i64 o11, .int .i64 o12, .int .i64 o13, .int .i64 o14, .slice o15_a o15_n o15_c, .string o16, .string o17, .int .i64 o18, .bool o19, .slice o20_a o20_n o20_c]), .bool true]) w2)
 (
 ∀ w3, Adv [] [b1] w w3 → w3.heap[b0]? = some (.cells #[.int .i64 o0, .int .i64 o1, .int .i64 o2, .int .i64 o3, .bool o4, .int .i64 o5, .int .i64 o6, .int .i64 o7, .string o8, .int .i64 o9, .int .i64 o10, .int .i64 o11, .int .i64 o12, .int .i64 o13, .int .i64 o14, .slice o15_a o15_n o15_c, .string o16, .string o17, .int .i64 o18, .bool o19, .slice o20_a o20_n o20_c] 59) →
 R (.tuple #[(.agg #[.int .i64 0, .int .i64 0, .int .i64 0, .string ByteArray.empty, .int .i64 0, .int .i64 0, .int .i64 0, .int .i64 0, .int .i64 0, .int .i64 0, .slice none 0 0, .string ByteArray.empty, .string ByteArray.empty, .int .i64 0, .bool false, .slice none 0 0]), .bool false]) w3)
theorem ref22_Session_Waits_eq (b0 : Nat) (o0 o1 o2 o3 : Int) (o4 : Bool) (o5 o6 o7 : Int) (o8 : ByteArray) (o9 o10 o11 o12 o13 o14 : Int) (o15_a : Option Addr) (o15_n o15_c : Nat) (o16 o17 : ByteArray) (o18 : Int) (o19 : Bool) (o20_a : Option Addr) (o20_n o20_c : Nat) (R : Value → World → Prop) (w : World) :
 dnF Tryz.prog ref22_Session_Waits_an (code Tryz.f27) 400 [] (post3 Tryz.prog Tryz.f27 [0] R) ⟨(0, .pointer (some ⟨b0, 0, none⟩), some (0, 0)) :: args0 1 [], fun _ => undef⟩ ⟨[⟨b0, 59, [.int .i64 o0, .int .i64 o1, .int .i64 o2, .int .i64 o3, .bool o4, .int .i64 o5, .int .i64 o6, .int .i64 o7, .string o8, .int .i64 o9, .int .i64 o10, .int .i64 o11, .int .i64 o12, .int .i64 o13, .int .i64 o14, .slice o15_a o15_n o15_c, .string o16, .string o17, .int .i64 o18, .bool o19, .slice o20_a o20_n o20_c], false⟩], w, [], [], true⟩ = ref22_Session_Waits_T b0 o0 o1 o2 o3 o4 o5 o6 o7 o8 o9 o10 o11 o12 o13 o14 o15_a o15_n o15_c o16 o17 o18 o19 o20_a o20_n o20_c R w := by kernel_rfl
theorem ref22_Session_Waits_go {b0 : Nat} {o0 o1 o2 o3 : Int} {o4 : Bool} {o5 o6 o7 : Int} {o8 : ByteArray} {o9 o10 o11 o12 o13 o14 : Int} {o15_a : Option Addr} {o15_n o15_c : Nat} {o16 o17 : ByteArray} {o18 : Int} {o19 : Bool} {o20_a : Option Addr} {o20_n o20_c : Nat} {R : Value → World → Prop} {w : World} (hb : w.heap[b0]? = some (.cells #[.int .i64 o0, .int .i64 o1, .int .i64 o2, .int .i64 o3, .bool o4, .int .i64 o5, .int .i64 o6, .int .i64 o7, .string o8, .int .i64 o9, .int .i64 o10, .int .i64 o11, .int .i64 o12, .int .i64 o13, .int .i64 o14, .slice o15_a o15_n o15_c, .string o16, .string o17, .int .i64 o18, .bool o19, .slice o20_a o20_n o20_c] 59)) (h : ref22_Session_Waits_T b0 o0 o1 o2 o3 o4 o5 o6 o7 o8 o9 o10 o11 o12 o13 o14 o15_a o15_n o15_c o16 o17 o18 o19 o20_a o20_n o20_c R w) :
 Calls Tryz.prog 27 #[(.pointer (some ⟨b0, 0, none⟩))] w fun e w' => ∃ v, e = .returned v ∧ R v w' :=
 calls_one Tryz.wide_mixed (f := 27) (args := []) Tryz.func27 rfl rfl (by kernel_rfl) rfl hb (Eq.mpr (ref22_Session_Waits_eq b0 o0 o1 o2 o3 o4 o5 o6 o7 o8 o9 o10 o11 o12 o13 o14 o15_a o15_n o15_c o16 o17 o18 o19 o20_a o20_n o20_c R w) h)
def session_Session_Copy_an : List LA := []
def session_Session_Copy_T (b0 : Nat) (o0 o1 o2 o3 : Int) (o4 : Option Addr) (R : Value → World → Prop) (w : World) : Prop :=
 ∀ b1, w.heap.size ≤ b1 →
 brB (!(Option.isNone o4)) (
 ckPtr o4 fun q2 =>
 ∀ w3, Adv [] [b1] w w3 →
 ldInt .i64 w3 q2 fun x4 => ldInt .i64 w3 (Addr.add q2 1) fun x5 => ldInt .i64 w3 (Addr.add q2 2) fun x6 => ldStr w3 (Addr.add q2 3) fun s7 => ldInt .i64 w3 (Addr.add q2 4) fun x8 => ldInt .i64 w3 (Addr.add q2 5) fun x9 => ldInt .i64 w3 (Addr.add q2 6) fun x10 => ldInt .i64 w3 (Addr.add q2 7) fun x11 => ldInt .i64 w3 (Addr.add q2 8) fun x12 => ldInt .i64 w3 (Addr.add q2 9) fun x13 => ldSlice w3 (Addr.add q2 10) fun a14 n15 c16 => ldStr w3 (Addr.add q2 11) fun s17 => ldStr w3 (Addr.add q2 12) fun s18 => ldInt .i64 w3 (Addr.add q2 13) fun x19 => ldBool w3 (Addr.add q2 14) fun t20 => ldSlice w3 (Addr.add q2 15) fun a21 n22 c23 =>
 Calls Tryz.prog 60 #[(.agg #[.int .i64 x4, .int .i64 x5, .int .i64 x6, .string s7, .int .i64 x8, .int .i64 x9, .int .i64 x10, .int .i64 x11, .int .i64 x12, .int .i64 x13, .slice a14 n15 c16, .string s17, .string s18, .int .i64 x19, .bool t20, .slice a21 n22 c23])] w3 fun e w24 => ∃ (x25 x26 x27 : Int) (s28 : ByteArray) (x29 x30 x31 x32 x33 x34 : Int) (a35 : Option Addr) (n36 c37 : Nat) (s38 s39 : ByteArray) (x40 : Int) (t41 : Bool) (a42 : Option Addr) (n43 c44 : Nat), e = .returned (.agg #[.int .i64 x25, .int .i64 x26, .int .i64 x27, .string s28, .int .i64 x29, .int .i64 x30, .int .i64 x31, .int .i64 x32, .int .i64 x33, .int .i64 x34, .slice a35 n36 c37, .string s38, .string s39, .int .i64 x40, .bool t41, .slice a42 n43 c44]) ∧ Keep [b0, b1] w3 w24 ∧
 ∀ b45, w24.heap.size ≤ b45 →
 ∀ w46, Adv [b1] [b45] w24 w46 → w46.heap[b0]? = some (.cells #[.int .i64 o0, .int .i64 o1, .int .i64 o2, .int .i64 o3, .pointer o4] 104) →
 w46.heap[b1]? = some (.cells #[.int .i64 o0, .int .i64 o1, .int .i64 o2, .int .i64 o3, (.pointer (some ⟨b45, 0, none⟩))] 104) →
 w46.heap[b45]? = some (.cells #[.int .i64 x25, .int .i64 x26, .int .i64 x27, .string s28, .int .i64 x29, .int .i64 x30, .int .i64 x31, .int .i64 x32, .int .i64 x33, .int .i64 x34, .slice a35 n36 c37, .string s38, .string s39, .int .i64 x40, .bool t41, .slice a42 n43 c44] 57) →
 R (.pointer (some ⟨b1, 0, none⟩)) w46)
 (
 ∀ w47, Adv [] [b1] w w47 → w47.heap[b0]? = some (.cells #[.int .i64 o0, .int .i64 o1, .int .i64 o2, .int .i64 o3, .pointer o4] 104) →
 w47.heap[b1]? = some (.cells #[.int .i64 o0, .int .i64 o1, .int .i64 o2, .int .i64 o3, .pointer o4] 104) →
 R (.pointer (some ⟨b1, 0, none⟩)) w47)
theorem session_Session_Copy_eq (b0 : Nat) (o0 o1 o2 o3 : Int) (o4 : Option Addr) (R : Value → World → Prop) (w : World) :
 dnF Tryz.prog session_Session_Copy_an (code Tryz.f24) 400 [] (post3 Tryz.prog Tryz.f24 [0] R) ⟨(0, .pointer (some ⟨b0, 0, none⟩), some (0, 0)) :: args0 1 [], fun _ => undef⟩ ⟨[⟨b0, 104, [.int .i64 o0, .int .i64 o1, .int .i64 o2, .int .i64 o3, .pointer o4], false⟩], w, [], [], true⟩ = session_Session_Copy_T b0 o0 o1 o2 o3 o4 R w := by kernel_rfl
theorem session_Session_Copy_go {b0 : Nat} {o0 o1 o2 o3 : Int} {o4 : Option Addr} {R : Value → World → Prop} {w : World} (hb : w.heap[b0]? = some (.cells #[.int .i64 o0, .int .i64 o1, .int .i64 o2, .int .i64 o3, .pointer o4] 104)) (h : session_Session_Copy_T b0 o0 o1 o2 o3 o4 R w) :
 Calls Tryz.prog 24 #[(.pointer (some ⟨b0, 0, none⟩))] w fun e w' => ∃ v, e = .returned v ∧ R v w' :=
 calls_one Tryz.wide_mixed (f := 24) (args := []) Tryz.func24 rfl rfl (by kernel_rfl) rfl hb (Eq.mpr (session_Session_Copy_eq b0 o0 o1 o2 o3 o4 R w) h)
def law22_SessionDoes_la1 : LA := ⟨[0, 0, 1, 0, 1, 1, 1, 1, 1], [0, 2, 7, 9, 11], [], 0, []⟩
def law22_SessionDoes_la2 : LA := ⟨[1, 1, 1, 1, 0, 0, 1, 0, 0, 1, 0, 1, 1, 1, 1, 1], [0, 2, 7, 9, 11], [], 3, []⟩
def law22_SessionDoes_la3 : LA := ⟨[0, 0, 1, 1, 1, 0, 1, 1, 1, 0, 1, 0, 1, 1, 1, 0, 0, 1, 0, 0, 1, 0, 1, 1, 1, 1, 1], [0, 2, 7, 9, 11, 19, 20], [], 3, []⟩
def law22_SessionDoes_la4 : LA := ⟨[0, 0, 1, 0, 0, 1, 0, 0, 1, 1, 1, 0, 1, 1, 1, 0, 1, 0, 1, 1, 1, 0, 0, 1, 0, 0, 1, 0, 1, 1, 1, 1, 1], [0, 2, 7, 9, 11, 19, 20, 21], [], 3, []⟩
def law22_SessionDoes_an : List LA := [law22_SessionDoes_la1, law22_SessionDoes_la2, law22_SessionDoes_la3, law22_SessionDoes_la4]
def law22_SessionDoes_v1 (a6 : Int) (a1 : Option Addr) (a3 a2 : Nat) (a5 a4 : Option Addr) (a0 : Int) : List Value := [.int .i64 a6, .slice a1 a3 a2, .pointer a4, .pointer a5, .int .i64 a0]
def law22_SessionDoes_m1 : List TB := []
def law22_SessionDoes_v2 (a6 : Int) (a1 : Option Addr) (a3 a2 : Nat) (a4 a5 : Option Addr) (a0 : Int) : List Value := [.int .i64 a6, .slice a1 a3 a2, .pointer a4, .pointer a5, .int .i64 a0]
def law22_SessionDoes_m2 (bm0 : Nat) (f8 f9 : Int) (f5 : ByteArray) (g0 g1 g2 g3 g4 g5 : Int) (e9 : Option Addr) (f3 f1 : Nat) (c4 c5 : ByteArray) (c9 : Int) (c7 : Bool) (a0 : Option Addr) (b6 a8 : Nat) (d0 d1 d2 d3 d4 d5 d6 d7 d8 d9 : Int) (a1 : Option Addr) (b7 a9 : Nat) (e0 e1 e2 e3 : Int) (a2 : Option Addr) (b8 b0 : Nat) (a3 : Option Addr) (b9 b1 bm1 : Nat) (g6 : Int) (f6 : ByteArray) (g7 g8 g9 h0 h1 h2 : Int) (f0 : Option Addr) (f4 f2 : Nat) (f7 c6 : ByteArray) (e4 : Int) (c8 : Bool) (a4 : Option Addr) (c0 b2 bm2 : Nat) (h3 h4 h5 h6 h7 h8 h9 i0 i1 i2 : Int) (a5 : Option Addr) (c1 b3 : Nat) (e5 e6 e7 e8 : Int) (a6 : Option Addr) (c2 b4 : Nat) (a7 : Option Addr) (c3 b5 : Nat) : List TB := [⟨bm0, 47, [.int .i64 f8, .int .i64 f9, .string f5, .int .i64 g0, .int .i64 g1, .int .i64 g2, .int .i64 g3, .int .i64 g4, .int .i64 g5, .slice e9 f3 f1, .string c4, .string c5, .int .i64 c9, .bool c7, .slice a0 b6 a8, .int .i64 d0, .int .i64 d1, .int .i64 d2, .int .i64 d3, .int .i64 d4, .int .i64 d5, .int .i64 d6, .int .i64 d7, .int .i64 d8, .int .i64 d9, .slice a1 b7 a9, .int .i64 e0, .int .i64 e1, .int .i64 e2, .int .i64 e3, .slice a2 b8 b0, .slice a3 b9 b1], false⟩, ⟨bm1, 38, [.int .i64 g6, .string f6, .int .i64 g7, .int .i64 g8, .int .i64 g9, .int .i64 h0, .int .i64 h1, .int .i64 h2, .slice f0 f4 f2, .string f7, .string c6, .int .i64 e4, .bool c8, .slice a4 c0 b2], false⟩, ⟨bm2, 45, [.int .i64 h3, .int .i64 h4, .int .i64 h5, .int .i64 h6, .int .i64 h7, .int .i64 h8, .int .i64 h9, .int .i64 i0, .int .i64 i1, .int .i64 i2, .slice a5 c1 b3, .int .i64 e5, .int .i64 e6, .int .i64 e7, .int .i64 e8, .slice a6 c2 b4, .slice a7 c3 b5], false⟩]
def law22_SessionDoes_v3 (b0 : Int) (a5 : Option Addr) (a7 a6 : Nat) (a8 a9 : Option Addr) (a3 : Int) (a0 : Option Addr) (a2 a1 : Nat) (a4 : Int) : List Value := [.int .i64 b0, .slice a5 a7 a6, .pointer a8, .pointer a9, .int .i64 a3, .slice a0 a2 a1, .int .i64 a4]
def law22_SessionDoes_m3 (bm0 : Nat) (f8 f9 : Int) (f5 : ByteArray) (g0 g1 g2 g3 g4 g5 : Int) (e9 : Option Addr) (f3 f1 : Nat) (c4 c5 : ByteArray) (c9 : Int) (c7 : Bool) (a0 : Option Addr) (b6 a8 : Nat) (d0 d1 d2 d3 d4 d5 d6 d7 d8 d9 : Int) (a1 : Option Addr) (b7 a9 : Nat) (e0 e1 e2 e3 : Int) (a2 : Option Addr) (b8 b0 : Nat) (a3 : Option Addr) (b9 b1 bm1 : Nat) (g6 : Int) (f6 : ByteArray) (g7 g8 g9 h0 h1 h2 : Int) (f0 : Option Addr) (f4 f2 : Nat) (f7 c6 : ByteArray) (e4 : Int) (c8 : Bool) (a4 : Option Addr) (c0 b2 bm2 : Nat) (h3 h4 h5 h6 h7 h8 h9 i0 i1 i2 : Int) (a5 : Option Addr) (c1 b3 : Nat) (e5 e6 e7 e8 : Int) (a6 : Option Addr) (c2 b4 : Nat) (a7 : Option Addr) (c3 b5 : Nat) : List TB := [⟨bm0, 47, [.int .i64 f8, .int .i64 f9, .string f5, .int .i64 g0, .int .i64 g1, .int .i64 g2, .int .i64 g3, .int .i64 g4, .int .i64 g5, .slice e9 f3 f1, .string c4, .string c5, .int .i64 c9, .bool c7, .slice a0 b6 a8, .int .i64 d0, .int .i64 d1, .int .i64 d2, .int .i64 d3, .int .i64 d4, .int .i64 d5, .int .i64 d6, .int .i64 d7, .int .i64 d8, .int .i64 d9, .slice a1 b7 a9, .int .i64 e0, .int .i64 e1, .int .i64 e2, .int .i64 e3, .slice a2 b8 b0, .slice a3 b9 b1], false⟩, ⟨bm1, 38, [.int .i64 g6, .string f6, .int .i64 g7, .int .i64 g8, .int .i64 g9, .int .i64 h0, .int .i64 h1, .int .i64 h2, .slice f0 f4 f2, .string f7, .string c6, .int .i64 e4, .bool c8, .slice a4 c0 b2], false⟩, ⟨bm2, 45, [.int .i64 h3, .int .i64 h4, .int .i64 h5, .int .i64 h6, .int .i64 h7, .int .i64 h8, .int .i64 h9, .int .i64 i0, .int .i64 i1, .int .i64 i2, .slice a5 c1 b3, .int .i64 e5, .int .i64 e6, .int .i64 e7, .int .i64 e8, .slice a6 c2 b4, .slice a7 c3 b5], false⟩]
def law22_SessionDoes_v4 (b1 : Int) (a6 : Option Addr) (a8 a7 : Nat) (a9 b0 : Option Addr) (a3 : Int) (a0 : Option Addr) (a2 a1 : Nat) (a4 a5 : Int) : List Value := [.int .i64 b1, .slice a6 a8 a7, .pointer a9, .pointer b0, .int .i64 a3, .slice a0 a2 a1, .int .i64 a4, .int .i64 a5]
def law22_SessionDoes_m4 (bm0 : Nat) (f8 f9 : Int) (f5 : ByteArray) (g0 g1 g2 g3 g4 g5 : Int) (e9 : Option Addr) (f3 f1 : Nat) (c4 c5 : ByteArray) (c9 : Int) (c7 : Bool) (a0 : Option Addr) (b6 a8 : Nat) (d0 d1 d2 d3 d4 d5 d6 d7 d8 d9 : Int) (a1 : Option Addr) (b7 a9 : Nat) (e0 e1 e2 e3 : Int) (a2 : Option Addr) (b8 b0 : Nat) (a3 : Option Addr) (b9 b1 bm1 : Nat) (g6 : Int) (f6 : ByteArray) (g7 g8 g9 h0 h1 h2 : Int) (f0 : Option Addr) (f4 f2 : Nat) (f7 c6 : ByteArray) (e4 : Int) (c8 : Bool) (a4 : Option Addr) (c0 b2 bm2 : Nat) (h3 h4 h5 h6 h7 h8 h9 i0 i1 i2 : Int) (a5 : Option Addr) (c1 b3 : Nat) (e5 e6 e7 e8 : Int) (a6 : Option Addr) (c2 b4 : Nat) (a7 : Option Addr) (c3 b5 : Nat) : List TB := [⟨bm0, 47, [.int .i64 f8, .int .i64 f9, .string f5, .int .i64 g0, .int .i64 g1, .int .i64 g2, .int .i64 g3, .int .i64 g4, .int .i64 g5, .slice e9 f3 f1, .string c4, .string c5, .int .i64 c9, .bool c7, .slice a0 b6 a8, .int .i64 d0, .int .i64 d1, .int .i64 d2, .int .i64 d3, .int .i64 d4, .int .i64 d5, .int .i64 d6, .int .i64 d7, .int .i64 d8, .int .i64 d9, .slice a1 b7 a9, .int .i64 e0, .int .i64 e1, .int .i64 e2, .int .i64 e3, .slice a2 b8 b0, .slice a3 b9 b1], false⟩, ⟨bm1, 38, [.int .i64 g6, .string f6, .int .i64 g7, .int .i64 g8, .int .i64 g9, .int .i64 h0, .int .i64 h1, .int .i64 h2, .slice f0 f4 f2, .string f7, .string c6, .int .i64 e4, .bool c8, .slice a4 c0 b2], false⟩, ⟨bm2, 45, [.int .i64 h3, .int .i64 h4, .int .i64 h5, .int .i64 h6, .int .i64 h7, .int .i64 h8, .int .i64 h9, .int .i64 i0, .int .i64 i1, .int .i64 i2, .slice a5 c1 b3, .int .i64 e5, .int .i64 e6, .int .i64 e7, .int .i64 e8, .slice a6 c2 b4, .slice a7 c3 b5], false⟩]
def law22_SessionDoes_L1 (a3 : Int) (a5 : Option Addr) (a4 a6 : Nat) (a2 a1 : Option Addr) (a0 : Int) (K1 : Kh) (R : Value → World → Prop) (w : World) : Prop :=
 brB (decide (a0 < (a4 : Int))) (
 brB (decide (a0 < 60)) (
 ixA a5 a4 a0 32 fun q11 =>
 ldInt .i64 w q11 fun x12 => ldInt .i64 w (Addr.add q11 1) fun x13 => ldStr w (Addr.add q11 2) fun s14 => ldInt .i64 w (Addr.add q11 3) fun x15 => ldInt .i64 w (Addr.add q11 4) fun x16 => ldInt .i64 w (Addr.add q11 5) fun x17 => ldInt .i64 w (Addr.add q11 6) fun x18 => ldInt .i64 w (Addr.add q11 7) fun x19 => ldInt .i64 w (Addr.add q11 8) fun x20 => ldSlice w (Addr.add q11 9) fun a21 n22 c23 => ldStr w (Addr.add q11 10) fun s24 => ldStr w (Addr.add q11 11) fun s25 => ldInt .i64 w (Addr.add q11 12) fun x26 => ldBool w (Addr.add q11 13) fun t27 => ldSlice w (Addr.add q11 14) fun a28 n29 c30 => ldInt .i64 w (Addr.add q11 15) fun x31 => ldInt .i64 w (Addr.add q11 16) fun x32 => ldInt .i64 w (Addr.add q11 17) fun x33 => ldInt .i64 w (Addr.add q11 18) fun x34 => ldInt .i64 w (Addr.add q11 19) fun x35 => ldInt .i64 w (Addr.add q11 20) fun x36 => ldInt .i64 w (Addr.add q11 21) fun x37 => ldInt .i64 w (Addr.add q11 22) fun x38 => ldInt .i64 w (Addr.add q11 23) fun x39 => ldInt .i64 w (Addr.add q11 24) fun x40 => ldSlice w (Addr.add q11 25) fun a41 n42 c43 => ldInt .i64 w (Addr.add q11 26) fun x44 => ldInt .i64 w (Addr.add q11 27) fun x45 => ldInt .i64 w (Addr.add q11 28) fun x46 => ldInt .i64 w (Addr.add q11 29) fun x47 => ldSlice w (Addr.add q11 30) fun a48 n49 c50 => ldSlice w (Addr.add q11 31) fun a51 n52 c53 =>
 ∀ b54, w.heap.size ≤ b54 →
 ∀ w55, Adv [] [b54] w w55 →
 Calls Tryz.prog 13 #[(.agg #[.int .i64 x13, .string s14, .int .i64 x15, .int .i64 x16, .int .i64 x17, .int .i64 x18, .int .i64 x19, .int .i64 x20, .slice a21 n22 c23, .string s24, .string s25, .int .i64 x26, .bool t27, .slice a28 n29 c30])] w55 fun e w56 => ∃ (x57 : Int) (s58 : ByteArray) (x59 x60 x61 x62 x63 x64 : Int) (a65 : Option Addr) (n66 c67 : Nat) (s68 s69 : ByteArray) (x70 : Int) (t71 : Bool) (a72 : Option Addr) (n73 c74 : Nat), e = .returned (.agg #[.int .i64 x57, .string s58, .int .i64 x59, .int .i64 x60, .int .i64 x61, .int .i64 x62, .int .i64 x63, .int .i64 x64, .slice a65 n66 c67, .string s68, .string s69, .int .i64 x70, .bool t71, .slice a72 n73 c74]) ∧ Keep [b54] w55 w56 ∧
 ∀ b75, w56.heap.size ≤ b75 →
 ∀ w76, Adv [] [b75] w56 w76 →
 Calls Tryz.prog 14 #[(.agg #[.int .i64 x31, .int .i64 x32, .int .i64 x33, .int .i64 x34, .int .i64 x35, .int .i64 x36, .int .i64 x37, .int .i64 x38, .int .i64 x39, .int .i64 x40, .slice a41 n42 c43, .int .i64 x44, .int .i64 x45, .int .i64 x46, .int .i64 x47, .slice a48 n49 c50, .slice a51 n52 c53])] w76 fun e w77 => ∃ (x78 x79 x80 x81 x82 x83 x84 x85 x86 x87 : Int) (a88 : Option Addr) (n89 c90 : Nat) (x91 x92 x93 x94 : Int) (a95 : Option Addr) (n96 c97 : Nat) (a98 : Option Addr) (n99 c100 : Nat), e = .returned (.agg #[.int .i64 x78, .int .i64 x79, .int .i64 x80, .int .i64 x81, .int .i64 x82, .int .i64 x83, .int .i64 x84, .int .i64 x85, .int .i64 x86, .int .i64 x87, .slice a88 n89 c90, .int .i64 x91, .int .i64 x92, .int .i64 x93, .int .i64 x94, .slice a95 n96 c97, .slice a98 n99 c100]) ∧ Keep [b54, b75] w76 w77 ∧
 ∀ b101, w77.heap.size ≤ b101 →
 brB (x12 == 0) (
 ∀ w102, Adv [] [b101] w77 w102 →
 Calls Tryz.prog 15 #[.pointer a1, (.agg #[.int .i64 x57, .string s58, .int .i64 x59, .int .i64 x60, .int .i64 x61, .int .i64 x62, .int .i64 x63, .int .i64 x64, .slice a65 n66 c67, .string s68, .string s69, .int .i64 x70, .bool t71, .slice a72 n73 c74])] w102 fun e w103 => ∃ (x104 x105 x106 x107 x108 x109 x110 x111 x112 x113 : Int) (a114 : Option Addr) (n115 c116 : Nat) (x117 x118 x119 x120 : Int) (a121 : Option Addr) (n122 c123 : Nat) (a124 : Option Addr) (n125 c126 : Nat) (x127 : Int), e = .returned (.tuple #[(.agg #[.int .i64 x104, .int .i64 x105, .int .i64 x106, .int .i64 x107, .int .i64 x108, .int .i64 x109, .int .i64 x110, .int .i64 x111, .int .i64 x112, .int .i64 x113, .slice a114 n115 c116, .int .i64 x117, .int .i64 x118, .int .i64 x119, .int .i64 x120, .slice a121 n122 c123, .slice a124 n125 c126]), .int .i64 x127]) ∧ Keep [b54, b75, b101] w102 w103 ∧
 ∀ b128, w103.heap.size ≤ b128 →
 ∀ w129, Adv [] [b128] w103 w129 →
 Calls Tryz.prog 16 #[.pointer a2, (.agg #[.int .i64 x57, .string s58, .int .i64 x59, .int .i64 x60, .int .i64 x61, .int .i64 x62, .int .i64 x63, .int .i64 x64, .slice a65 n66 c67, .string s68, .string s69, .int .i64 x70, .bool t71, .slice a72 n73 c74])] w129 fun e w130 => ∃ (x131 x132 x133 x134 x135 x136 x137 x138 x139 x140 : Int) (a141 : Option Addr) (n142 c143 : Nat) (x144 x145 x146 x147 : Int) (a148 : Option Addr) (n149 c150 : Nat) (a151 : Option Addr) (n152 c153 : Nat) (x154 : Int), e = .returned (.tuple #[(.agg #[.int .i64 x131, .int .i64 x132, .int .i64 x133, .int .i64 x134, .int .i64 x135, .int .i64 x136, .int .i64 x137, .int .i64 x138, .int .i64 x139, .int .i64 x140, .slice a141 n142 c143, .int .i64 x144, .int .i64 x145, .int .i64 x146, .int .i64 x147, .slice a148 n149 c150, .slice a151 n152 c153]), .int .i64 x154]) ∧ Keep [b54, b75, b101, b128] w129 w130 ∧
 ∀ b155, w130.heap.size ≤ b155 →
 ∀ w156, Adv [] [b155] w130 w156 →
 Calls Tryz.prog 17 #[(.agg #[.int .i64 x104, .int .i64 x105, .int .i64 x106, .int .i64 x107, .int .i64 x108, .int .i64 x109, .int .i64 x110, .int .i64 x111, .int .i64 x112, .int .i64 x113, .slice a114 n115 c116, .int .i64 x117, .int .i64 x118, .int .i64 x119, .int .i64 x120, .slice a121 n122 c123, .slice a124 n125 c126]), (.agg #[.int .i64 x131, .int .i64 x132, .int .i64 x133, .int .i64 x134, .int .i64 x135, .int .i64 x136, .int .i64 x137, .int .i64 x138, .int .i64 x139, .int .i64 x140, .slice a141 n142 c143, .int .i64 x144, .int .i64 x145, .int .i64 x146, .int .i64 x147, .slice a148 n149 c150, .slice a151 n152 c153])] w156 fun e w157 => ∃ t158 : Bool, e = .returned (.bool t158) ∧ Keep [b54, b75, b101, b128, b155] w156 w157 ∧
 brB (!t158) (
 R (.bool false) w157)
 (
 brB (x127 != x154) (
 R (.bool false) w157)
 (
 cutD3 law22_SessionDoes_la2 ((dnF Tryz.prog law22_SessionDoes_an (code Tryz.f3) 388 [1, 1, 1, 1, 0, 0, 1, 0, 0, 1, 0, 1, 1, 1, 1, 1]) (kont3 Tryz.prog law22_SessionDoes_an (code Tryz.f3) [1, 1, 1, 1, 1, 0, 1, 0, 0, 1, 0, 0, 1, 1, 1] [K1] (post3 Tryz.prog Tryz.f3 [] R))) (law22_SessionDoes_v2 a3 a5 a4 a6 a1 a2 a0) (law22_SessionDoes_m2 b54 x12 x13 s14 x15 x16 x17 x18 x19 x20 a21 n22 c23 s24 s25 x26 t27 a28 n29 c30 x31 x32 x33 x34 x35 x36 x37 x38 x39 x40 a41 n42 c43 x44 x45 x46 x47 a48 n49 c50 a51 n52 c53 b75 x57 s58 x59 x60 x61 x62 x63 x64 a65 n66 c67 s68 s69 x70 t71 a72 n73 c74 b101 x78 x79 x80 x81 x82 x83 x84 x85 x86 x87 a88 n89 c90 x91 x92 x93 x94 a95 n96 c97 a98 n99 c100) w157)))
 (
 brB (x12 == 1) (
 ∀ w232, Adv [] [b101] w77 w232 →
 Calls Tryz.prog 18 #[.pointer a1] w232 fun e w233 => ∃ (a234 : Option Addr) (n235 c236 : Nat), e = .returned (.slice a234 n235 c236) ∧ Keep [b54, b75, b101] w232 w233 ∧
 Calls Tryz.prog 20 #[.pointer a2] w233 fun e w237 => ∃ (a238 : Option Addr) (n239 c240 : Nat), e = .returned (.slice a238 n239 c240) ∧ Keep [b54, b75, b101] w233 w237 ∧
 Calls Tryz.prog 19 #[.slice a234 n235 c236, .slice a238 n239 c240] w237 fun e w241 => ∃ t242 : Bool, e = .returned (.bool t242) ∧ Keep [b54, b75, b101] w237 w241 ∧
 brB (!t242) (
 R (.bool false) w241)
 (
 loopD3 law22_SessionDoes_la3 (dnF Tryz.prog law22_SessionDoes_an (code Tryz.f3) 382 [0, 0, 1, 1, 1, 0, 1, 1, 1, 0, 1, 0, 1, 1, 1, 0, 0, 1, 0, 0, 1, 0, 1, 1, 1, 1, 1]) (kont3 Tryz.prog law22_SessionDoes_an (code Tryz.f3) [1, 1, 1, 1, 1, 0, 1, 0, 0, 1, 0, 0, 1, 1, 1, 0, 1, 0, 1, 1, 1, 0, 1, 1, 1, 0] [K1] (post3 Tryz.prog Tryz.f3 [] R)) (law22_SessionDoes_v3 a3 a5 a4 a6 a1 a2 a0 a234 n235 c236 0) (law22_SessionDoes_m3 b54 x12 x13 s14 x15 x16 x17 x18 x19 x20 a21 n22 c23 s24 s25 x26 t27 a28 n29 c30 x31 x32 x33 x34 x35 x36 x37 x38 x39 x40 a41 n42 c43 x44 x45 x46 x47 a48 n49 c50 a51 n52 c53 b75 x57 s58 x59 x60 x61 x62 x63 x64 a65 n66 c67 s68 s69 x70 t71 a72 n73 c74 b101 x78 x79 x80 x81 x82 x83 x84 x85 x86 x87 a88 n89 c90 x91 x92 x93 x94 a95 n96 c97 a98 n99 c100) w241))
 (
 brB (x12 == 2) (
 brB (decide (x40 < 0)) (
 ckPtr a2 fun q253 =>
 ∀ w254, Adv [] [b101] w77 w254 →
 ldInt .i64 w254 (Addr.add q253 2) fun x255 =>
 ∀ w256, Adv [b101] [] w254 w256 →
 Calls Tryz.prog 21 #[.pointer a1, (.agg #[.int .i64 x78, .int .i64 x79, .int .i64 a3, .int .i64 x81, .int .i64 x82, .int .i64 x83, .int .i64 x84, .int .i64 x85, .int .i64 x86, .int .i64 x255, .slice a88 n89 c90, .int .i64 x91, .int .i64 x92, .int .i64 x93, .int .i64 x94, .slice a95 n96 c97, .slice a98 n99 c100])] w256 fun e w257 => ∃ (x258 x259 x260 x261 : Int) (a262 : Option Addr) (n263 c264 : Nat) (a265 : Option Addr) (n266 c267 : Nat) (t268 : Bool), e = .returned (.tuple #[(.agg #[.int .i64 x258, .int .i64 x259, .int .i64 x260, .int .i64 x261, .slice a262 n263 c264, .slice a265 n266 c267]), .bool t268]) ∧ Keep [b54, b75, b101] w256 w257 ∧
 ∀ b269, w257.heap.size ≤ b269 →
 ∀ w270, Adv [] [b269] w257 w270 →
 Calls Tryz.prog 22 #[.pointer a2, (.agg #[.int .i64 x78, .int .i64 x79, .int .i64 a3, .int .i64 x81, .int .i64 x82, .int .i64 x83, .int .i64 x84, .int .i64 x85, .int .i64 x86, .int .i64 x255, .slice a88 n89 c90, .int .i64 x91, .int .i64 x92, .int .i64 x93, .int .i64 x94, .slice a95 n96 c97, .slice a98 n99 c100])] w270 fun e w271 => ∃ (x272 x273 x274 x275 : Int) (a276 : Option Addr) (n277 c278 : Nat) (a279 : Option Addr) (n280 c281 : Nat) (t282 : Bool), e = .returned (.tuple #[(.agg #[.int .i64 x272, .int .i64 x273, .int .i64 x274, .int .i64 x275, .slice a276 n277 c278, .slice a279 n280 c281]), .bool t282]) ∧ Keep [b54, b75, b101, b269] w270 w271 ∧
 ∀ b283, w271.heap.size ≤ b283 →
 ∀ w284, Adv [] [b283] w271 w284 →
 Calls Tryz.prog 23 #[(.agg #[.int .i64 x258, .int .i64 x259, .int .i64 x260, .int .i64 x261, .slice a262 n263 c264, .slice a265 n266 c267]), (.agg #[.int .i64 x272, .int .i64 x273, .int .i64 x274, .int .i64 x275, .slice a276 n277 c278, .slice a279 n280 c281])] w284 fun e w285 => ∃ t286 : Bool, e = .returned (.bool t286) ∧ Keep [b54, b75, b101, b269, b283] w284 w285 ∧
 brB (!t286) (
 R (.bool false) w285)
 (
 brB (!(t268 == t282)) (
 R (.bool false) w285)
 (
 cutD3 law22_SessionDoes_la2 ((dnF Tryz.prog law22_SessionDoes_an (code Tryz.f3) 388 [1, 1, 1, 1, 0, 0, 1, 0, 0, 1, 0, 1, 1, 1, 1, 1]) (kont3 Tryz.prog law22_SessionDoes_an (code Tryz.f3) [1, 1, 1, 1, 1, 0, 1, 0, 0, 1, 0, 0, 1, 1, 1] [K1] (post3 Tryz.prog Tryz.f3 [] R))) (law22_SessionDoes_v2 a3 a5 a4 a6 a1 a2 a0) (law22_SessionDoes_m2 b54 x12 x13 s14 x15 x16 x17 x18 x19 x20 a21 n22 c23 s24 s25 x26 t27 a28 n29 c30 x31 x32 x33 x34 x35 x36 x37 x38 x39 x40 a41 n42 c43 x44 x45 x46 x47 a48 n49 c50 a51 n52 c53 b75 x57 s58 x59 x60 x61 x62 x63 x64 a65 n66 c67 s68 s69 x70 t71 a72 n73 c74 b101 x78 x79 a3 x81 x82 x83 x84 x85 x86 x255 a88 n89 c90 x91 x92 x93 x94 a95 n96 c97 a98 n99 c100) w285)))
 (
 ∀ w287, Adv [] [b101] w77 w287 →
 Calls Tryz.prog 21 #[.pointer a1, (.agg #[.int .i64 x78, .int .i64 x79, .int .i64 x80, .int .i64 x81, .int .i64 x82, .int .i64 x83, .int .i64 x84, .int .i64 x85, .int .i64 x86, .int .i64 x87, .slice a88 n89 c90, .int .i64 x91, .int .i64 x92, .int .i64 x93, .int .i64 x94, .slice a95 n96 c97, .slice a98 n99 c100])] w287 fun e w288 => ∃ (x289 x290 x291 x292 : Int) (a293 : Option Addr) (n294 c295 : Nat) (a296 : Option Addr) (n297 c298 : Nat) (t299 : Bool), e = .returned (.tuple #[(.agg #[.int .i64 x289, .int .i64 x290, .int .i64 x291, .int .i64 x292, .slice a293 n294 c295, .slice a296 n297 c298]), .bool t299]) ∧ Keep [b54, b75, b101] w287 w288 ∧
 ∀ b300, w288.heap.size ≤ b300 →
 ∀ w301, Adv [] [b300] w288 w301 →
 Calls Tryz.prog 22 #[.pointer a2, (.agg #[.int .i64 x78, .int .i64 x79, .int .i64 x80, .int .i64 x81, .int .i64 x82, .int .i64 x83, .int .i64 x84, .int .i64 x85, .int .i64 x86, .int .i64 x87, .slice a88 n89 c90, .int .i64 x91, .int .i64 x92, .int .i64 x93, .int .i64 x94, .slice a95 n96 c97, .slice a98 n99 c100])] w301 fun e w302 => ∃ (x303 x304 x305 x306 : Int) (a307 : Option Addr) (n308 c309 : Nat) (a310 : Option Addr) (n311 c312 : Nat) (t313 : Bool), e = .returned (.tuple #[(.agg #[.int .i64 x303, .int .i64 x304, .int .i64 x305, .int .i64 x306, .slice a307 n308 c309, .slice a310 n311 c312]), .bool t313]) ∧ Keep [b54, b75, b101, b300] w301 w302 ∧
 ∀ b314, w302.heap.size ≤ b314 →
 ∀ w315, Adv [] [b314] w302 w315 →
 Calls Tryz.prog 23 #[(.agg #[.int .i64 x289, .int .i64 x290, .int .i64 x291, .int .i64 x292, .slice a293 n294 c295, .slice a296 n297 c298]), (.agg #[.int .i64 x303, .int .i64 x304, .int .i64 x305, .int .i64 x306, .slice a307 n308 c309, .slice a310 n311 c312])] w315 fun e w316 => ∃ t317 : Bool, e = .returned (.bool t317) ∧ Keep [b54, b75, b101, b300, b314] w315 w316 ∧
 brB (!t317) (
 R (.bool false) w316)
 (
 brB (!(t299 == t313)) (
 R (.bool false) w316)
 (
 cutD3 law22_SessionDoes_la2 ((dnF Tryz.prog law22_SessionDoes_an (code Tryz.f3) 388 [1, 1, 1, 1, 0, 0, 1, 0, 0, 1, 0, 1, 1, 1, 1, 1]) (kont3 Tryz.prog law22_SessionDoes_an (code Tryz.f3) [1, 1, 1, 1, 1, 0, 1, 0, 0, 1, 0, 0, 1, 1, 1] [K1] (post3 Tryz.prog Tryz.f3 [] R))) (law22_SessionDoes_v2 a3 a5 a4 a6 a1 a2 a0) (law22_SessionDoes_m2 b54 x12 x13 s14 x15 x16 x17 x18 x19 x20 a21 n22 c23 s24 s25 x26 t27 a28 n29 c30 x31 x32 x33 x34 x35 x36 x37 x38 x39 x40 a41 n42 c43 x44 x45 x46 x47 a48 n49 c50 a51 n52 c53 b75 x57 s58 x59 x60 x61 x62 x63 x64 a65 n66 c67 s68 s69 x70 t71 a72 n73 c74 b101 x78 x79 x80 x81 x82 x83 x84 x85 x86 x87 a88 n89 c90 x91 x92 x93 x94 a95 n96 c97 a98 n99 c100) w316))))
 (
 brB (x12 == 3) (
 ∀ w318, Adv [] [b101] w77 w318 →
 Calls Tryz.prog 24 #[.pointer a1] w318 fun e w319 => ∃ p320 : Option Addr, e = .returned (.pointer p320) ∧ Keep [b54, b75, b101] w318 w319 ∧
 Calls Tryz.prog 25 #[] w319 fun e w321 => ∃ (x322 : Int) (s323 : ByteArray) (x324 x325 x326 x327 x328 x329 : Int) (a330 : Option Addr) (n331 c332 : Nat) (s333 s334 : ByteArray) (x335 : Int) (t336 : Bool) (a337 : Option Addr) (n338 c339 : Nat), e = .returned (.agg #[.int .i64 x322, .string s323, .int .i64 x324, .int .i64 x325, .int .i64 x326, .int .i64 x327, .int .i64 x328, .int .i64 x329, .slice a330 n331 c332, .string s333, .string s334, .int .i64 x335, .bool t336, .slice a337 n338 c339]) ∧ Keep [b54, b75, b101] w319 w321 ∧
 Calls Tryz.prog 15 #[.pointer a1, (.agg #[.int .i64 x322, .string s323, .int .i64 x324, .int .i64 x325, .int .i64 x326, .int .i64 x327, .int .i64 x328, .int .i64 x329, .slice a330 n331 c332, .string s333, .string s334, .int .i64 x335, .bool t336, .slice a337 n338 c339])] w321 fun e w340 => ∃ (x341 x342 x343 x344 x345 x346 x347 x348 x349 x350 : Int) (a351 : Option Addr) (n352 c353 : Nat) (x354 x355 x356 x357 : Int) (a358 : Option Addr) (n359 c360 : Nat) (a361 : Option Addr) (n362 c363 : Nat) (x364 : Int), e = .returned (.tuple #[(.agg #[.int .i64 x341, .int .i64 x342, .int .i64 x343, .int .i64 x344, .int .i64 x345, .int .i64 x346, .int .i64 x347, .int .i64 x348, .int .i64 x349, .int .i64 x350, .slice a351 n352 c353, .int .i64 x354, .int .i64 x355, .int .i64 x356, .int .i64 x357, .slice a358 n359 c360, .slice a361 n362 c363]), .int .i64 x364]) ∧ Keep [b54, b75, b101] w321 w340 ∧
 ckPtr a2 fun q365 =>
 ldInt .i64 w340 (Addr.add q365 2) fun x366 =>
 Calls Tryz.prog 21 #[.pointer a1, (.agg #[.int .i64 1, .int .i64 0, .int .i64 a3, .int .i64 0, .int .i64 0, .int .i64 0, .int .i64 0, .int .i64 0, .int .i64 0, .int .i64 x366, .slice none 0 0, .int .i64 0, .int .i64 0, .int .i64 0, .int .i64 0, .slice none 0 0, .slice none 0 0])] w340 fun e w367 => ∃ (x368 x369 x370 x371 : Int) (a372 : Option Addr) (n373 c374 : Nat) (a375 : Option Addr) (n376 c377 : Nat) (t378 : Bool), e = .returned (.tuple #[(.agg #[.int .i64 x368, .int .i64 x369, .int .i64 x370, .int .i64 x371, .slice a372 n373 c374, .slice a375 n376 c377]), .bool t378]) ∧ Keep [b54, b75, b101] w340 w367 ∧
 brB (Option.isNone p320) (
 R (.bool false) w367)
 (
 cutD3 law22_SessionDoes_la2 ((dnF Tryz.prog law22_SessionDoes_an (code Tryz.f3) 388 [1, 1, 1, 1, 0, 0, 1, 0, 0, 1, 0, 1, 1, 1, 1, 1]) (kont3 Tryz.prog law22_SessionDoes_an (code Tryz.f3) [1, 1, 1, 1, 1, 0, 1, 0, 0, 1, 0, 0, 1, 1, 1] [K1] (post3 Tryz.prog Tryz.f3 [] R))) (law22_SessionDoes_v2 a3 a5 a4 a6 p320 a2 a0) (law22_SessionDoes_m2 b54 x12 x13 s14 x15 x16 x17 x18 x19 x20 a21 n22 c23 s24 s25 x26 t27 a28 n29 c30 x31 x32 x33 x34 x35 x36 x37 x38 x39 x40 a41 n42 c43 x44 x45 x46 x47 a48 n49 c50 a51 n52 c53 b75 x57 s58 x59 x60 x61 x62 x63 x64 a65 n66 c67 s68 s69 x70 t71 a72 n73 c74 b101 x78 x79 x80 x81 x82 x83 x84 x85 x86 x87 a88 n89 c90 x91 x92 x93 x94 a95 n96 c97 a98 n99 c100) w367))
 (
 ∀ w379, Adv [] [b101] w77 w379 →
 cutD3 law22_SessionDoes_la2 ((dnF Tryz.prog law22_SessionDoes_an (code Tryz.f3) 388 [1, 1, 1, 1, 0, 0, 1, 0, 0, 1, 0, 1, 1, 1, 1, 1]) (kont3 Tryz.prog law22_SessionDoes_an (code Tryz.f3) [1, 1, 1, 1, 1, 0, 1, 0, 0, 1, 0, 0, 1, 1, 1] [K1] (post3 Tryz.prog Tryz.f3 [] R))) (law22_SessionDoes_v2 a3 a5 a4 a6 a1 a2 a0) (law22_SessionDoes_m2 b54 x12 x13 s14 x15 x16 x17 x18 x19 x20 a21 n22 c23 s24 s25 x26 t27 a28 n29 c30 x31 x32 x33 x34 x35 x36 x37 x38 x39 x40 a41 n42 c43 x44 x45 x46 x47 a48 n49 c50 a51 n52 c53 b75 x57 s58 x59 x60 x61 x62 x63 x64 a65 n66 c67 s68 s69 x70 t71 a72 n73 c74 b101 x78 x79 x80 x81 x82 x83 x84 x85 x86 x87 a88 n89 c90 x91 x92 x93 x94 a95 n96 c97 a98 n99 c100) w379)))))
 (
 Calls Tryz.prog 12 #[] w fun e w380 => ∃ t381 : Bool, e = .returned (.bool t381) ∧
 R (.bool t381) w380))
 (
 Calls Tryz.prog 12 #[] w fun e w382 => ∃ t383 : Bool, e = .returned (.bool t383) ∧
 R (.bool t383) w382)
theorem law22_SessionDoes_L1_eq (a6 : Int) (a1 : Option Addr) (a3 a2 : Nat) (a5 a4 : Option Addr) (a0 : Int) (K1 : Kh) (js : Nat → Value) (R : Value → World → Prop) (w : World) :
 headA law22_SessionDoes_la1 ((dnF Tryz.prog law22_SessionDoes_an (code Tryz.f3) 393 [0, 0, 1, 0, 1, 1, 1, 1, 1]) (kthen3 (atA law22_SessionDoes_la1 K1) (kont3 Tryz.prog law22_SessionDoes_an (code Tryz.f3) [1, 1, 1, 1, 1, 0, 1, 0] [] (post3 Tryz.prog Tryz.f3 [] R)))) (law22_SessionDoes_v1 a6 a1 a3 a2 a5 a4 a0) js (law22_SessionDoes_m1) w = law22_SessionDoes_L1 a6 a1 a3 a2 a5 a4 a0 K1 R w := by kernel_rfl
def law22_SessionDoes_K1 (a6 : Int) (a2 : Option Addr) (a4 a3 : Nat) (a5 : Option Addr) (I : Nat → Option Addr → Int → World → Prop) (m : Nat) (vals : List Value) (mem : List TB) (w : World) : Prop := ∃ m', m' < m ∧ ∃ a1 a0, vals = (law22_SessionDoes_v1 a6 a2 a4 a3 a5 a1 a0) ∧ mem = (law22_SessionDoes_m1) ∧ I m' a1 a0 w
theorem law22_SessionDoes_leaf1 {a6 : Int} {a1 : Option Addr} {a3 a2 : Nat} {a5 : Option Addr} {I : Nat → Option Addr → Int → World → Prop} {m : Nat} {a4 : Option Addr} {a0 : Int} {w : World} (m' : Nat) (h1 : m' < m) (h2 : I m' a4 a0 w) : law22_SessionDoes_K1 a6 a1 a3 a2 a5 I m (law22_SessionDoes_v1 a6 a1 a3 a2 a5 a4 a0) (law22_SessionDoes_m1) w := ⟨m', h1, _, _, rfl, rfl, h2⟩
theorem law22_SessionDoes_rule1 {a6 : Int} {a2 : Option Addr} {a4 a3 : Nat} {a5 a8 : Option Addr} {a7 : Int} {R : Value → World → Prop} {w0 : World} (I : Nat → Option Addr → Int → World → Prop) (m0 : Nat) (h0 : I m0 a8 a7 w0)
 (hr : ∀ (m : Nat) (a1 : Option Addr) (a0 : Int) (w : World), I m a1 a0 w → law22_SessionDoes_L1 a6 a2 a4 a3 a5 a1 a0 (law22_SessionDoes_K1 a6 a2 a4 a3 a5 I m) R w) :
 loopD3 law22_SessionDoes_la1 (dnF Tryz.prog law22_SessionDoes_an (code Tryz.f3) 393 [0, 0, 1, 0, 1, 1, 1, 1, 1]) (kont3 Tryz.prog law22_SessionDoes_an (code Tryz.f3) [1, 1, 1, 1, 1, 0, 1, 0] [] (post3 Tryz.prog Tryz.f3 [] R)) (law22_SessionDoes_v1 a6 a2 a4 a3 a5 a8 a7) (law22_SessionDoes_m1) w0 := by
 refine ⟨fun m vals mem w => ∃ a1 a0, vals = (law22_SessionDoes_v1 a6 a2 a4 a3 a5 a1 a0) ∧ mem = (law22_SessionDoes_m1) ∧ I m a1 a0 w, m0, ⟨_, _, rfl, rfl, h0⟩, ?_⟩
 rintro m vals mem w ⟨a1, a0, rfl, rfl, hI⟩
 refine ⟨rfl, rfl, fun js => ?_⟩
 have h := hr m a1 a0 w hI
 rw [← law22_SessionDoes_L1_eq _ _ _ _ _ _ _ _ js] at h
 exact h
def law22_SessionDoes_C2 (a6 : Int) (a3 : Option Addr) (a5 a4 : Nat) (a0 a1 : Option Addr) (a2 : Int) (bm0 : Nat) (g5 g6 : Int) (g2 : ByteArray) (g7 g8 g9 h0 h1 h2 : Int) (f6 : Option Addr) (g0 f8 : Nat) (d1 d2 : ByteArray) (d6 : Int) (d4 : Bool) (a7 : Option Addr) (c3 b5 : Nat) (d7 d8 d9 e0 e1 e2 e3 e4 e5 e6 : Int) (a8 : Option Addr) (c4 b6 : Nat) (e7 e8 e9 f0 : Int) (a9 : Option Addr) (c5 b7 : Nat) (b0 : Option Addr) (c6 b8 bm1 : Nat) (h3 : Int) (g3 : ByteArray) (h4 h5 h6 h7 h8 h9 : Int) (f7 : Option Addr) (g1 f9 : Nat) (g4 d3 : ByteArray) (f1 : Int) (d5 : Bool) (b1 : Option Addr) (c7 b9 bm2 : Nat) (i0 i1 i2 i3 i4 i5 i6 i7 i8 i9 : Int) (b2 : Option Addr) (c8 c0 : Nat) (f2 f3 f4 f5 : Int) (b3 : Option Addr) (c9 c1 : Nat) (b4 : Option Addr) (d0 c2 : Nat) (K1 : Kh) (R : Value → World → Prop) (w : World) : Prop :=
 Calls Tryz.prog 26 #[.pointer a0] w fun e w159 => ∃ (x160 x161 x162 : Int) (s163 : ByteArray) (x164 x165 x166 x167 x168 x169 : Int) (a170 : Option Addr) (n171 c172 : Nat) (s173 s174 : ByteArray) (x175 : Int) (t176 : Bool) (a177 : Option Addr) (n178 c179 : Nat) (t180 : Bool), e = .returned (.tuple #[(.agg #[.int .i64 x160, .int .i64 x161, .int .i64 x162, .string s163, .int .i64 x164, .int .i64 x165, .int .i64 x166, .int .i64 x167, .int .i64 x168, .int .i64 x169, .slice a170 n171 c172, .string s173, .string s174, .int .i64 x175, .bool t176, .slice a177 n178 c179]), .bool t180]) ∧ Keep [bm0, bm1, bm2] w w159 ∧
 ∀ b181, w159.heap.size ≤ b181 →
 ∀ w182, Adv [] [b181] w159 w182 →
 Calls Tryz.prog 27 #[.pointer a1] w182 fun e w183 => ∃ (x184 x185 x186 : Int) (s187 : ByteArray) (x188 x189 x190 x191 x192 x193 : Int) (a194 : Option Addr) (n195 c196 : Nat) (s197 s198 : ByteArray) (x199 : Int) (t200 : Bool) (a201 : Option Addr) (n202 c203 : Nat) (t204 : Bool), e = .returned (.tuple #[(.agg #[.int .i64 x184, .int .i64 x185, .int .i64 x186, .string s187, .int .i64 x188, .int .i64 x189, .int .i64 x190, .int .i64 x191, .int .i64 x192, .int .i64 x193, .slice a194 n195 c196, .string s197, .string s198, .int .i64 x199, .bool t200, .slice a201 n202 c203]), .bool t204]) ∧ Keep [bm0, bm1, bm2, b181] w182 w183 ∧
 ∀ b205, w183.heap.size ≤ b205 →
 ((
 brB (!(t180 == t204)) (
 ∀ w206, Adv [] [b205] w183 w206 →
 R (.bool false) w206)
 (
 ∀ w207, Adv [] [b205] w183 w207 →
 al w207 (.cells #[.int .i64 x184, .int .i64 x185, .int .i64 x186, .string s187, .int .i64 x188, .int .i64 x189, .int .i64 x190, .int .i64 x191, .int .i64 x192, .int .i64 x193, .slice a194 n195 c196, .string s197, .string s198, .int .i64 x199, .bool t200, .slice a201 n202 c203] 57) fun b208 w209 =>
 al w209 (.cells #[.int .i64 x160, .int .i64 x161, .int .i64 x162, .string s163, .int .i64 x164, .int .i64 x165, .int .i64 x166, .int .i64 x167, .int .i64 x168, .int .i64 x169, .slice a170 n171 c172, .string s173, .string s174, .int .i64 x175, .bool t176, .slice a177 n178 c179] 57) fun b210 w211 =>
 Calls Tryz.prog 28 #[(.slice (some ⟨b210, 0, none⟩) 1 1), (.slice (some ⟨b208, 0, none⟩) 1 1)] w211 fun e w212 => ∃ t213 : Bool, e = .returned (.bool t213) ∧ Keep [bm0, bm1, bm2, b181, b205] w211 w212 ∧
 brB (!t213) (
 R (.bool false) w212)
 (
 ckPtr a1 fun q214 =>
 ldInt .i64 w212 (Addr.add q214 3) fun x215 =>
 Calls Tryz.prog 29 #[.pointer a0] w212 fun e w216 => ∃ x217 : Int, e = .returned (.int .i64 x217) ∧ Keep [bm0, bm1, bm2, b181, b205] w212 w216 ∧ (ldInt .i64 w216 (Addr.add q214 3) fun x218 => ((.int .i64 x218) : Value) = (.int .i64 x215)) ∧
 brB (x217 != x215) (
 R (.bool false) w216)
 (
 K1 (law22_SessionDoes_v1 a6 a3 a5 a4 a1 a0 (IntKind.wrap .i64 (a2 + 1))) (law22_SessionDoes_m1) w216)))) ∧
 (
 brB (!(t180 == t204)) (
 ∀ w219, Adv [] [b205] w183 w219 →
 R (.bool false) w219)
 (
 ∀ w220, Adv [] [b205] w183 w220 →
 al w220 (.cells #[.int .i64 x160, .int .i64 x161, .int .i64 x162, .string s163, .int .i64 x164, .int .i64 x165, .int .i64 x166, .int .i64 x167, .int .i64 x168, .int .i64 x169, .slice a170 n171 c172, .string s173, .string s174, .int .i64 x175, .bool t176, .slice a177 n178 c179] 57) fun b221 w222 =>
 al w222 (.cells #[.int .i64 x184, .int .i64 x185, .int .i64 x186, .string s187, .int .i64 x188, .int .i64 x189, .int .i64 x190, .int .i64 x191, .int .i64 x192, .int .i64 x193, .slice a194 n195 c196, .string s197, .string s198, .int .i64 x199, .bool t200, .slice a201 n202 c203] 57) fun b223 w224 =>
 Calls Tryz.prog 28 #[(.slice (some ⟨b221, 0, none⟩) 1 1), (.slice (some ⟨b223, 0, none⟩) 1 1)] w224 fun e w225 => ∃ t226 : Bool, e = .returned (.bool t226) ∧ Keep [bm0, bm1, bm2, b181, b205] w224 w225 ∧
 brB (!t226) (
 R (.bool false) w225)
 (
 ckPtr a1 fun q227 =>
 ldInt .i64 w225 (Addr.add q227 3) fun x228 =>
 Calls Tryz.prog 29 #[.pointer a0] w225 fun e w229 => ∃ x230 : Int, e = .returned (.int .i64 x230) ∧ Keep [bm0, bm1, bm2, b181, b205] w225 w229 ∧ (ldInt .i64 w229 (Addr.add q227 3) fun x231 => ((.int .i64 x231) : Value) = (.int .i64 x228)) ∧
 brB (x230 != x228) (
 R (.bool false) w229)
 (
 K1 (law22_SessionDoes_v1 a6 a3 a5 a4 a1 a0 (IntKind.wrap .i64 (a2 + 1))) (law22_SessionDoes_m1) w229)))))
theorem law22_SessionDoes_C2_eq (j0 : Int) (i5 : Option Addr) (i7 i6 : Nat) (i8 i9 : Option Addr) (i4 : Int) (bm0 : Nat) (f9 g0 : Int) (f6 : ByteArray) (g1 g2 g3 g4 g5 g6 : Int) (e9 : Option Addr) (f4 f1 : Nat) (c4 c5 : ByteArray) (c9 : Int) (c7 : Bool) (a0 : Option Addr) (b6 a8 : Nat) (d0 d1 d2 d3 d4 d5 d6 d7 d8 d9 : Int) (a1 : Option Addr) (b7 a9 : Nat) (e0 e1 e2 e3 : Int) (a2 : Option Addr) (b8 b0 : Nat) (a3 : Option Addr) (b9 b1 bm1 : Nat) (g7 : Int) (f7 : ByteArray) (g8 g9 h0 h1 h2 h3 : Int) (f0 : Option Addr) (f5 f2 : Nat) (f8 c6 : ByteArray) (e4 : Int) (c8 : Bool) (a4 : Option Addr) (c0 b2 bm2 : Nat) (h4 h5 h6 h7 h8 h9 i0 i1 i2 i3 : Int) (a5 : Option Addr) (c1 b3 : Nat) (e5 e6 e7 e8 : Int) (a6 : Option Addr) (c2 b4 : Nat) (a7 : Option Addr) (c3 b5 : Nat) (K1 : Kh) (js : Nat → Value) (R : Value → World → Prop) (w : World) :
 headA law22_SessionDoes_la2 ((dnF Tryz.prog law22_SessionDoes_an (code Tryz.f3) 388 [1, 1, 1, 1, 0, 0, 1, 0, 0, 1, 0, 1, 1, 1, 1, 1]) (kont3 Tryz.prog law22_SessionDoes_an (code Tryz.f3) [1, 1, 1, 1, 1, 0, 1, 0, 0, 1, 0, 0, 1, 1, 1] [K1] (post3 Tryz.prog Tryz.f3 [] R))) (law22_SessionDoes_v2 j0 i5 i7 i6 i8 i9 i4) js (law22_SessionDoes_m2 bm0 f9 g0 f6 g1 g2 g3 g4 g5 g6 e9 f4 f1 c4 c5 c9 c7 a0 b6 a8 d0 d1 d2 d3 d4 d5 d6 d7 d8 d9 a1 b7 a9 e0 e1 e2 e3 a2 b8 b0 a3 b9 b1 bm1 g7 f7 g8 g9 h0 h1 h2 h3 f0 f5 f2 f8 c6 e4 c8 a4 c0 b2 bm2 h4 h5 h6 h7 h8 h9 i0 i1 i2 i3 a5 c1 b3 e5 e6 e7 e8 a6 c2 b4 a7 c3 b5) w = law22_SessionDoes_C2 j0 i5 i7 i6 i8 i9 i4 bm0 f9 g0 f6 g1 g2 g3 g4 g5 g6 e9 f4 f1 c4 c5 c9 c7 a0 b6 a8 d0 d1 d2 d3 d4 d5 d6 d7 d8 d9 a1 b7 a9 e0 e1 e2 e3 a2 b8 b0 a3 b9 b1 bm1 g7 f7 g8 g9 h0 h1 h2 h3 f0 f5 f2 f8 c6 e4 c8 a4 c0 b2 bm2 h4 h5 h6 h7 h8 h9 i0 i1 i2 i3 a5 c1 b3 e5 e6 e7 e8 a6 c2 b4 a7 c3 b5 K1 R w := by kernel_rfl
theorem law22_SessionDoes_cut2 {s0 : Int} {r5 : Option Addr} {r7 r6 : Nat} {r8 r9 : Option Addr} {r4 : Int} {bm00 : Nat} {o9 p0 : Int} {o7 : ByteArray} {p1 p2 p3 p4 p5 p6 : Int} {o1 : Option Addr} {o5 o3 : Nat} {l5 l6 : ByteArray} {m1 : Int} {l8 : Bool} {i7 : Option Addr} {k5 j6 : Nat} {m2 m3 m4 m5 m6 m7 m8 m9 n0 n1 : Int} {i8 : Option Addr} {k6 j7 : Nat} {n2 n3 n4 n5 : Int} {i9 : Option Addr} {k7 j8 : Nat} {j0 : Option Addr} {k8 j9 bm10 : Nat} {p7 : Int} {a0 : ByteArray} {p8 p9 q0 q1 q2 q3 : Int} {o2 : Option Addr} {o6 o4 : Nat} {o8 l7 : ByteArray} {n6 : Int} {l9 : Bool} {j1 : Option Addr} {k9 k0 bm20 : Nat} {q4 q5 q6 q7 q8 q9 r0 r1 r2 r3 : Int} {j2 : Option Addr} {l0 k1 : Nat} {n7 n8 n9 o0 : Int} {j3 : Option Addr} {l1 k2 : Nat} {j4 : Option Addr} {l2 k3 : Nat} {K1 : Kh} {R : Value → World → Prop} {w0 : World} (J : Int → Option Addr → Nat → Nat → Option Addr → Option Addr → Int → Nat → Int → Int → ByteArray → Int → Int → Int → Int → Int → Int → Option Addr → Nat → Nat → ByteArray → ByteArray → Int → Bool → Option Addr → Nat → Nat → Int → Int → Int → Int → Int → Int → Int → Int → Int → Int → Option Addr → Nat → Nat → Int → Int → Int → Int → Option Addr → Nat → Nat → Option Addr → Nat → Nat → Nat → Int → ByteArray → Int → Int → Int → Int → Int → Int → Option Addr → Nat → Nat → ByteArray → ByteArray → Int → Bool → Option Addr → Nat → Nat → Nat → Int → Int → Int → Int → Int → Int → Int → Int → Int → Int → Option Addr → Nat → Nat → Int → Int → Int → Int → Option Addr → Nat → Nat → Option Addr → Nat → Nat → World → Prop) (h0 : J s0 r5 r7 r6 r8 r9 r4 bm00 o9 p0 o7 p1 p2 p3 p4 p5 p6 o1 o5 o3 l5 l6 m1 l8 i7 k5 j6 m2 m3 m4 m5 m6 m7 m8 m9 n0 n1 i8 k6 j7 n2 n3 n4 n5 i9 k7 j8 j0 k8 j9 bm10 p7 a0 p8 p9 q0 q1 q2 q3 o2 o6 o4 o8 l7 n6 l9 j1 k9 k0 bm20 q4 q5 q6 q7 q8 q9 r0 r1 r2 r3 j2 l0 k1 n7 n8 n9 o0 j3 l1 k2 j4 l2 k3 w0)
 (hr : ∀ (m0 : Int) (i6 : Option Addr) (k4 j5 : Nat) (l3 l4 : Option Addr) (i5 : Int) (bm0 : Nat) (f9 g0 : Int) (f6 : ByteArray) (g1 g2 g3 g4 g5 g6 : Int) (e9 : Option Addr) (f4 f1 : Nat) (c5 c6 : ByteArray) (c9 : Int) (c7 : Bool) (a1 : Option Addr) (b7 a9 : Nat) (d0 d1 d2 d3 d4 d5 d6 d7 d8 d9 : Int) (a2 : Option Addr) (b8 b0 : Nat) (e0 e1 e2 e3 : Int) (a3 : Option Addr) (b9 b1 : Nat) (a4 : Option Addr) (c0 b2 bm1 : Nat) (g7 : Int) (f7 : ByteArray) (g8 g9 h1 h2 h3 h4 : Int) (f0 : Option Addr) (f5 f2 : Nat) (f8 a0 : ByteArray) (e4 : Int) (c8 : Bool) (a5 : Option Addr) (c1 b3 bm2 : Nat) (h5 h6 h7 h8 h9 i0 i1 i2 i3 i4 : Int) (a6 : Option Addr) (c2 b4 : Nat) (e5 e6 e7 e8 : Int) (a7 : Option Addr) (c3 b5 : Nat) (a8 : Option Addr) (c4 b6 : Nat) (w : World), J m0 i6 k4 j5 l3 l4 i5 bm0 f9 g0 f6 g1 g2 g3 g4 g5 g6 e9 f4 f1 c5 c6 c9 c7 a1 b7 a9 d0 d1 d2 d3 d4 d5 d6 d7 d8 d9 a2 b8 b0 e0 e1 e2 e3 a3 b9 b1 a4 c0 b2 bm1 g7 f7 g8 g9 h1 h2 h3 h4 f0 f5 f2 f8 a0 e4 c8 a5 c1 b3 bm2 h5 h6 h7 h8 h9 i0 i1 i2 i3 i4 a6 c2 b4 e5 e6 e7 e8 a7 c3 b5 a8 c4 b6 w → law22_SessionDoes_C2 m0 i6 k4 j5 l3 l4 i5 bm0 f9 g0 f6 g1 g2 g3 g4 g5 g6 e9 f4 f1 c5 c6 c9 c7 a1 b7 a9 d0 d1 d2 d3 d4 d5 d6 d7 d8 d9 a2 b8 b0 e0 e1 e2 e3 a3 b9 b1 a4 c0 b2 bm1 g7 f7 g8 g9 h1 h2 h3 h4 f0 f5 f2 f8 a0 e4 c8 a5 c1 b3 bm2 h5 h6 h7 h8 h9 i0 i1 i2 i3 i4 a6 c2 b4 e5 e6 e7 e8 a7 c3 b5 a8 c4 b6 K1 R w) :
 cutD3 law22_SessionDoes_la2 ((dnF Tryz.prog law22_SessionDoes_an (code Tryz.f3) 388 [1, 1, 1, 1, 0, 0, 1, 0, 0, 1, 0, 1, 1, 1, 1, 1]) (kont3 Tryz.prog law22_SessionDoes_an (code Tryz.f3) [1, 1, 1, 1, 1, 0, 1, 0, 0, 1, 0, 0, 1, 1, 1] [K1] (post3 Tryz.prog Tryz.f3 [] R))) (law22_SessionDoes_v2 s0 r5 r7 r6 r8 r9 r4) (law22_SessionDoes_m2 bm00 o9 p0 o7 p1 p2 p3 p4 p5 p6 o1 o5 o3 l5 l6 m1 l8 i7 k5 j6 m2 m3 m4 m5 m6 m7 m8 m9 n0 n1 i8 k6 j7 n2 n3 n4 n5 i9 k7 j8 j0 k8 j9 bm10 p7 a0 p8 p9 q0 q1 q2 q3 o2 o6 o4 o8 l7 n6 l9 j1 k9 k0 bm20 q4 q5 q6 q7 q8 q9 r0 r1 r2 r3 j2 l0 k1 n7 n8 n9 o0 j3 l1 k2 j4 l2 k3) w0 := by
 refine ⟨fun vals mem w => ∃ m0 i6 k4 j5 l3 l4 i5 bm0 f9 g0 f6 g1 g2 g3 g4 g5 g6 e9 f4 f1 c5 c6 c9 c7 a1 b7 a9 d0 d1 d2 d3 d4 d5 d6 d7 d8 d9 a2 b8 b0 e0 e1 e2 e3 a3 b9 b1 a4 c0 b2 bm1 g7 f7 g8 g9 h1 h2 h3 h4 f0 f5 f2 f8 a0 e4 c8 a5 c1 b3 bm2 h5 h6 h7 h8 h9 i0 i1 i2 i3 i4 a6 c2 b4 e5 e6 e7 e8 a7 c3 b5 a8 c4 b6, vals = (law22_SessionDoes_v2 m0 i6 k4 j5 l3 l4 i5) ∧ mem = (law22_SessionDoes_m2 bm0 f9 g0 f6 g1 g2 g3 g4 g5 g6 e9 f4 f1 c5 c6 c9 c7 a1 b7 a9 d0 d1 d2 d3 d4 d5 d6 d7 d8 d9 a2 b8 b0 e0 e1 e2 e3 a3 b9 b1 a4 c0 b2 bm1 g7 f7 g8 g9 h1 h2 h3 h4 f0 f5 f2 f8 a0 e4 c8 a5 c1 b3 bm2 h5 h6 h7 h8 h9 i0 i1 i2 i3 i4 a6 c2 b4 e5 e6 e7 e8 a7 c3 b5 a8 c4 b6) ∧ J m0 i6 k4 j5 l3 l4 i5 bm0 f9 g0 f6 g1 g2 g3 g4 g5 g6 e9 f4 f1 c5 c6 c9 c7 a1 b7 a9 d0 d1 d2 d3 d4 d5 d6 d7 d8 d9 a2 b8 b0 e0 e1 e2 e3 a3 b9 b1 a4 c0 b2 bm1 g7 f7 g8 g9 h1 h2 h3 h4 f0 f5 f2 f8 a0 e4 c8 a5 c1 b3 bm2 h5 h6 h7 h8 h9 i0 i1 i2 i3 i4 a6 c2 b4 e5 e6 e7 e8 a7 c3 b5 a8 c4 b6 w, ⟨_, _, _, _, _, _, _, _, _, _, _, _, _, _, _, _, _, _, _, _, _, _, _, _, _, _, _, _, _, _, _, _, _, _, _, _, _, _, _, _, _, _, _, _, _, _, _, _, _, _, _, _, _, _, _, _, _, _, _, _, _, _, _, _, _, _, _, _, _, _, _, _, _, _, _, _, _, _, _, _, _, _, _, _, _, _, _, _, _, _, _, _, _, rfl, rfl, h0⟩, ?_⟩
 rintro vals mem w ⟨m0, i6, k4, j5, l3, l4, i5, bm0, f9, g0, f6, g1, g2, g3, g4, g5, g6, e9, f4, f1, c5, c6, c9, c7, a1, b7, a9, d0, d1, d2, d3, d4, d5, d6, d7, d8, d9, a2, b8, b0, e0, e1, e2, e3, a3, b9, b1, a4, c0, b2, bm1, g7, f7, g8, g9, h1, h2, h3, h4, f0, f5, f2, f8, a0, e4, c8, a5, c1, b3, bm2, h5, h6, h7, h8, h9, i0, i1, i2, i3, i4, a6, c2, b4, e5, e6, e7, e8, a7, c3, b5, a8, c4, b6, rfl, rfl, hJ⟩
 refine ⟨rfl, rfl, fun js => ?_⟩
 have h := hr m0 i6 k4 j5 l3 l4 i5 bm0 f9 g0 f6 g1 g2 g3 g4 g5 g6 e9 f4 f1 c5 c6 c9 c7 a1 b7 a9 d0 d1 d2 d3 d4 d5 d6 d7 d8 d9 a2 b8 b0 e0 e1 e2 e3 a3 b9 b1 a4 c0 b2 bm1 g7 f7 g8 g9 h1 h2 h3 h4 f0 f5 f2 f8 a0 e4 c8 a5 c1 b3 bm2 h5 h6 h7 h8 h9 i0 i1 i2 i3 i4 a6 c2 b4 e5 e6 e7 e8 a7 c3 b5 a8 c4 b6 w hJ
 rw [← law22_SessionDoes_C2_eq _ _ _ _ _ _ _ _ _ _ _ _ _ _ _ _ _ _ _ _ _ _ _ _ _ _ _ _ _ _ _ _ _ _ _ _ _ _ _ _ _ _ _ _ _ _ _ _ _ _ _ _ _ _ _ _ _ _ _ _ _ _ _ _ _ _ _ _ _ _ _ _ _ _ _ _ _ _ _ _ _ _ _ _ _ _ _ _ _ _ _ _ _ _ js] at h
 exact h
theorem law22_SessionDoes_at2 {r9 : Int} {q9 : Option Addr} {r3 r1 : Nat} {r5 r7 : Option Addr} {q7 : Int} {bm0 : Nat} {i8 i9 : Int} {i2 : ByteArray} {k5 k6 k7 k8 k9 l0 : Int} {f4 : Option Addr} {h4 g4 : Nat} {c4 c5 : ByteArray} {c9 : Int} {c7 : Bool} {a0 : Option Addr} {b6 a8 : Nat} {d0 d1 d2 d3 d4 d5 d6 d7 d8 d9 : Int} {a1 : Option Addr} {b7 a9 : Nat} {e0 e1 e2 e3 : Int} {a2 : Option Addr} {b8 b0 : Nat} {a3 : Option Addr} {b9 b1 bm1 : Nat} {l1 : Int} {i3 : ByteArray} {l3 l4 l5 l6 l7 l8 : Int} {f6 : Option Addr} {h6 g6 : Nat} {i5 c6 : ByteArray} {e4 : Int} {c8 : Bool} {a4 : Option Addr} {c0 b2 bm2 : Nat} {l9 m0 m5 m6 m7 m8 m9 n0 n1 n2 : Int} {a5 : Option Addr} {c1 b3 : Nat} {e5 e6 e7 e8 : Int} {a6 : Option Addr} {c2 b4 : Nat} {a7 : Option Addr} {c3 b5 : Nat} {K1 : Kh} {R : Value → World → Prop} {w : World} (h : law22_SessionDoes_C2 r9 q9 r3 r1 r5 r7 q7 bm0 i8 i9 i2 k5 k6 k7 k8 k9 l0 f4 h4 g4 c4 c5 c9 c7 a0 b6 a8 d0 d1 d2 d3 d4 d5 d6 d7 d8 d9 a1 b7 a9 e0 e1 e2 e3 a2 b8 b0 a3 b9 b1 bm1 l1 i3 l3 l4 l5 l6 l7 l8 f6 h6 g6 i5 c6 e4 c8 a4 c0 b2 bm2 l9 m0 m5 m6 m7 m8 m9 n0 n1 n2 a5 c1 b3 e5 e6 e7 e8 a6 c2 b4 a7 c3 b5 K1 R w) :
 cutD3 law22_SessionDoes_la2 ((dnF Tryz.prog law22_SessionDoes_an (code Tryz.f3) 388 [1, 1, 1, 1, 0, 0, 1, 0, 0, 1, 0, 1, 1, 1, 1, 1]) (kont3 Tryz.prog law22_SessionDoes_an (code Tryz.f3) [1, 1, 1, 1, 1, 0, 1, 0, 0, 1, 0, 0, 1, 1, 1] [K1] (post3 Tryz.prog Tryz.f3 [] R))) (law22_SessionDoes_v2 r9 q9 r3 r1 r5 r7 q7) (law22_SessionDoes_m2 bm0 i8 i9 i2 k5 k6 k7 k8 k9 l0 f4 h4 g4 c4 c5 c9 c7 a0 b6 a8 d0 d1 d2 d3 d4 d5 d6 d7 d8 d9 a1 b7 a9 e0 e1 e2 e3 a2 b8 b0 a3 b9 b1 bm1 l1 i3 l3 l4 l5 l6 l7 l8 f6 h6 g6 i5 c6 e4 c8 a4 c0 b2 bm2 l9 m0 m5 m6 m7 m8 m9 n0 n1 n2 a5 c1 b3 e5 e6 e7 e8 a6 c2 b4 a7 c3 b5) w :=
 law22_SessionDoes_cut2 (fun s0 r0 r4 r2 r6 r8 q8 bm0' o2 o3 n9 o4 o5 o6 o7 o8 o9 n3 n7 n5 i0 i1 j0 i6 e9 h0 g0 j1 j2 j3 j4 j5 j6 j7 j8 j9 k0 f0 h1 g1 k1 k2 k3 k4 f1 h2 g2 f2 h3 g3 bm1' p0 o0 p1 p2 p3 p4 p5 p6 n4 n8 n6 o1 i4 l2 i7 f5 h5 g5 bm2' p7 p8 p9 q0 q1 q2 q3 q4 q5 q6 f7 h7 g7 m1 m2 m3 m4 f8 h8 g8 f9 h9 g9 w' => s0 = r9 ∧ r0 = q9 ∧ r4 = r3 ∧ r2 = r1 ∧ r6 = r5 ∧ r8 = r7 ∧ q8 = q7 ∧ bm0' = bm0 ∧ o2 = i8 ∧ o3 = i9 ∧ n9 = i2 ∧ o4 = k5 ∧ o5 = k6 ∧ o6 = k7 ∧ o7 = k8 ∧ o8 = k9 ∧ o9 = l0 ∧ n3 = f4 ∧ n7 = h4 ∧ n5 = g4 ∧ i0 = c4 ∧ i1 = c5 ∧ j0 = c9 ∧ i6 = c7 ∧ e9 = a0 ∧ h0 = b6 ∧ g0 = a8 ∧ j1 = d0 ∧ j2 = d1 ∧ j3 = d2 ∧ j4 = d3 ∧ j5 = d4 ∧ j6 = d5 ∧ j7 = d6 ∧ j8 = d7 ∧ j9 = d8 ∧ k0 = d9 ∧ f0 = a1 ∧ h1 = b7 ∧ g1 = a9 ∧ k1 = e0 ∧ k2 = e1 ∧ k3 = e2 ∧ k4 = e3 ∧ f1 = a2 ∧ h2 = b8 ∧ g2 = b0 ∧ f2 = a3 ∧ h3 = b9 ∧ g3 = b1 ∧ bm1' = bm1 ∧ p0 = l1 ∧ o0 = i3 ∧ p1 = l3 ∧ p2 = l4 ∧ p3 = l5 ∧ p4 = l6 ∧ p5 = l7 ∧ p6 = l8 ∧ n4 = f6 ∧ n8 = h6 ∧ n6 = g6 ∧ o1 = i5 ∧ i4 = c6 ∧ l2 = e4 ∧ i7 = c8 ∧ f5 = a4 ∧ h5 = c0 ∧ g5 = b2 ∧ bm2' = bm2 ∧ p7 = l9 ∧ p8 = m0 ∧ p9 = m5 ∧ q0 = m6 ∧ q1 = m7 ∧ q2 = m8 ∧ q3 = m9 ∧ q4 = n0 ∧ q5 = n1 ∧ q6 = n2 ∧ f7 = a5 ∧ h7 = c1 ∧ g7 = b3 ∧ m1 = e5 ∧ m2 = e6 ∧ m3 = e7 ∧ m4 = e8 ∧ f8 = a6 ∧ h8 = c2 ∧ g8 = b4 ∧ f9 = a7 ∧ h9 = c3 ∧ g9 = b5 ∧ w' = w) ⟨rfl, rfl, rfl, rfl, rfl, rfl, rfl, rfl, rfl, rfl, rfl, rfl, rfl, rfl, rfl, rfl, rfl, rfl, rfl, rfl, rfl, rfl, rfl, rfl, rfl, rfl, rfl, rfl, rfl, rfl, rfl, rfl, rfl, rfl, rfl, rfl, rfl, rfl, rfl, rfl, rfl, rfl, rfl, rfl, rfl, rfl, rfl, rfl, rfl, rfl, rfl, rfl, rfl, rfl, rfl, rfl, rfl, rfl, rfl, rfl, rfl, rfl, rfl, rfl, rfl, rfl, rfl, rfl, rfl, rfl, rfl, rfl, rfl, rfl, rfl, rfl, rfl, rfl, rfl, rfl, rfl, rfl, rfl, rfl, rfl, rfl, rfl, rfl, rfl, rfl, rfl, rfl, rfl, rfl⟩ (by rintro s0 r0 r4 r2 r6 r8 q8 bm0' o2 o3 n9 o4 o5 o6 o7 o8 o9 n3 n7 n5 i0 i1 j0 i6 e9 h0 g0 j1 j2 j3 j4 j5 j6 j7 j8 j9 k0 f0 h1 g1 k1 k2 k3 k4 f1 h2 g2 f2 h3 g3 bm1' p0 o0 p1 p2 p3 p4 p5 p6 n4 n8 n6 o1 i4 l2 i7 f5 h5 g5 bm2' p7 p8 p9 q0 q1 q2 q3 q4 q5 q6 f7 h7 g7 m1 m2 m3 m4 f8 h8 g8 f9 h9 g9 w' ⟨rfl, rfl, rfl, rfl, rfl, rfl, rfl, rfl, rfl, rfl, rfl, rfl, rfl, rfl, rfl, rfl, rfl, rfl, rfl, rfl, rfl, rfl, rfl, rfl, rfl, rfl, rfl, rfl, rfl, rfl, rfl, rfl, rfl, rfl, rfl, rfl, rfl, rfl, rfl, rfl, rfl, rfl, rfl, rfl, rfl, rfl, rfl, rfl, rfl, rfl, rfl, rfl, rfl, rfl, rfl, rfl, rfl, rfl, rfl, rfl, rfl, rfl, rfl, rfl, rfl, rfl, rfl, rfl, rfl, rfl, rfl, rfl, rfl, rfl, rfl, rfl, rfl, rfl, rfl, rfl, rfl, rfl, rfl, rfl, rfl, rfl, rfl, rfl, rfl, rfl, rfl, rfl, rfl, rfl⟩; exact h)
def law22_SessionDoes_L3 (j2 : Int) (i7 : Option Addr) (i9 i8 : Nat) (j0 j1 : Option Addr) (i5 : Int) (j3 : Option Addr) (i4 j4 bm0 : Nat) (f9 g0 : Int) (f6 : ByteArray) (g1 g2 g3 g4 g5 g6 : Int) (e9 : Option Addr) (f4 f1 : Nat) (c4 c5 : ByteArray) (c9 : Int) (c7 : Bool) (a0 : Option Addr) (b6 a8 : Nat) (d0 d1 d2 d3 d4 d5 d6 d7 d8 d9 : Int) (a1 : Option Addr) (b7 a9 : Nat) (e0 e1 e2 e3 : Int) (a2 : Option Addr) (b8 b0 : Nat) (a3 : Option Addr) (b9 b1 bm1 : Nat) (g7 : Int) (f7 : ByteArray) (g8 g9 h0 h1 h2 h3 : Int) (f0 : Option Addr) (f5 f2 : Nat) (f8 c6 : ByteArray) (e4 : Int) (c8 : Bool) (a4 : Option Addr) (c0 b2 bm2 : Nat) (h4 h5 h6 h7 h8 h9 i0 i1 i2 i3 : Int) (a5 : Option Addr) (c1 b3 : Nat) (e5 e6 e7 e8 : Int) (a6 : Option Addr) (c2 b4 : Nat) (a7 : Option Addr) (c3 b5 : Nat) (i6 : Int) (K1 K3 : Kh) (R : Value → World → Prop) (w : World) : Prop :=
 brB (decide (i6 < (i4 : Int))) (
 loopD3 law22_SessionDoes_la4 (dnF Tryz.prog law22_SessionDoes_an (code Tryz.f3) 379 [0, 0, 1, 0, 0, 1, 0, 0, 1, 1, 1, 0, 1, 1, 1, 0, 1, 0, 1, 1, 1, 0, 0, 1, 0, 0, 1, 0, 1, 1, 1, 1, 1]) (kont3 Tryz.prog law22_SessionDoes_an (code Tryz.f3) [1, 1, 1, 1, 1, 0, 1, 0, 0, 1, 0, 0, 1, 1, 1, 0, 1, 0, 1, 1, 1, 0, 1, 1, 1, 0, 0, 1, 0, 0, 1, 0] [K1, K3] (post3 Tryz.prog Tryz.f3 [] R)) (law22_SessionDoes_v4 j2 i7 i9 i8 j0 j1 i5 j3 i4 j4 i6 0) (law22_SessionDoes_m4 bm0 f9 g0 f6 g1 g2 g3 g4 g5 g6 e9 f4 f1 c4 c5 c9 c7 a0 b6 a8 d0 d1 d2 d3 d4 d5 d6 d7 d8 d9 a1 b7 a9 e0 e1 e2 e3 a2 b8 b0 a3 b9 b1 bm1 g7 f7 g8 g9 h0 h1 h2 h3 f0 f5 f2 f8 c6 e4 c8 a4 c0 b2 bm2 h4 h5 h6 h7 h8 h9 i0 i1 i2 i3 a5 c1 b3 e5 e6 e7 e8 a6 c2 b4 a7 c3 b5) w)
 (
 cutD3 law22_SessionDoes_la2 ((dnF Tryz.prog law22_SessionDoes_an (code Tryz.f3) 388 [1, 1, 1, 1, 0, 0, 1, 0, 0, 1, 0, 1, 1, 1, 1, 1]) (kont3 Tryz.prog law22_SessionDoes_an (code Tryz.f3) [1, 1, 1, 1, 1, 0, 1, 0, 0, 1, 0, 0, 1, 1, 1] [K1] (post3 Tryz.prog Tryz.f3 [] R))) (law22_SessionDoes_v2 j2 i7 i9 i8 j0 j1 i5) (law22_SessionDoes_m2 bm0 f9 g0 f6 g1 g2 g3 g4 g5 g6 e9 f4 f1 c4 c5 c9 c7 a0 b6 a8 d0 d1 d2 d3 d4 d5 d6 d7 d8 d9 a1 b7 a9 e0 e1 e2 e3 a2 b8 b0 a3 b9 b1 bm1 g7 f7 g8 g9 h0 h1 h2 h3 f0 f5 f2 f8 c6 e4 c8 a4 c0 b2 bm2 h4 h5 h6 h7 h8 h9 i0 i1 i2 i3 a5 c1 b3 e5 e6 e7 e8 a6 c2 b4 a7 c3 b5) w)
theorem law22_SessionDoes_L3_eq (j4 : Int) (i9 : Option Addr) (j1 j0 : Nat) (j2 j3 : Option Addr) (i7 : Int) (i4 : Option Addr) (i6 i5 bm0 : Nat) (f9 g0 : Int) (f6 : ByteArray) (g1 g2 g3 g4 g5 g6 : Int) (e9 : Option Addr) (f4 f1 : Nat) (c4 c5 : ByteArray) (c9 : Int) (c7 : Bool) (a0 : Option Addr) (b6 a8 : Nat) (d0 d1 d2 d3 d4 d5 d6 d7 d8 d9 : Int) (a1 : Option Addr) (b7 a9 : Nat) (e0 e1 e2 e3 : Int) (a2 : Option Addr) (b8 b0 : Nat) (a3 : Option Addr) (b9 b1 bm1 : Nat) (g7 : Int) (f7 : ByteArray) (g8 g9 h0 h1 h2 h3 : Int) (f0 : Option Addr) (f5 f2 : Nat) (f8 c6 : ByteArray) (e4 : Int) (c8 : Bool) (a4 : Option Addr) (c0 b2 bm2 : Nat) (h4 h5 h6 h7 h8 h9 i0 i1 i2 i3 : Int) (a5 : Option Addr) (c1 b3 : Nat) (e5 e6 e7 e8 : Int) (a6 : Option Addr) (c2 b4 : Nat) (a7 : Option Addr) (c3 b5 : Nat) (i8 : Int) (K1 K3 : Kh) (js : Nat → Value) (R : Value → World → Prop) (w : World) :
 headA law22_SessionDoes_la3 ((dnF Tryz.prog law22_SessionDoes_an (code Tryz.f3) 382 [0, 0, 1, 1, 1, 0, 1, 1, 1, 0, 1, 0, 1, 1, 1, 0, 0, 1, 0, 0, 1, 0, 1, 1, 1, 1, 1]) (kthen3 (atA law22_SessionDoes_la3 K3) (kont3 Tryz.prog law22_SessionDoes_an (code Tryz.f3) [1, 1, 1, 1, 1, 0, 1, 0, 0, 1, 0, 0, 1, 1, 1, 0, 1, 0, 1, 1, 1, 0, 1, 1, 1, 0] [K1] (post3 Tryz.prog Tryz.f3 [] R)))) (law22_SessionDoes_v3 j4 i9 j1 j0 j2 j3 i7 i4 i6 i5 i8) js (law22_SessionDoes_m3 bm0 f9 g0 f6 g1 g2 g3 g4 g5 g6 e9 f4 f1 c4 c5 c9 c7 a0 b6 a8 d0 d1 d2 d3 d4 d5 d6 d7 d8 d9 a1 b7 a9 e0 e1 e2 e3 a2 b8 b0 a3 b9 b1 bm1 g7 f7 g8 g9 h0 h1 h2 h3 f0 f5 f2 f8 c6 e4 c8 a4 c0 b2 bm2 h4 h5 h6 h7 h8 h9 i0 i1 i2 i3 a5 c1 b3 e5 e6 e7 e8 a6 c2 b4 a7 c3 b5) w = law22_SessionDoes_L3 j4 i9 j1 j0 j2 j3 i7 i4 i6 i5 bm0 f9 g0 f6 g1 g2 g3 g4 g5 g6 e9 f4 f1 c4 c5 c9 c7 a0 b6 a8 d0 d1 d2 d3 d4 d5 d6 d7 d8 d9 a1 b7 a9 e0 e1 e2 e3 a2 b8 b0 a3 b9 b1 bm1 g7 f7 g8 g9 h0 h1 h2 h3 f0 f5 f2 f8 c6 e4 c8 a4 c0 b2 bm2 h4 h5 h6 h7 h8 h9 i0 i1 i2 i3 a5 c1 b3 e5 e6 e7 e8 a6 c2 b4 a7 c3 b5 i8 K1 K3 R w := by kernel_rfl
def law22_SessionDoes_K3 (j3 : Int) (i8 : Option Addr) (j0 i9 : Nat) (j1 j2 : Option Addr) (i7 : Int) (i4 : Option Addr) (i6 i5 bm0 : Nat) (f9 g0 : Int) (f5 : ByteArray) (g1 g2 g3 g4 g5 g6 : Int) (e9 : Option Addr) (f3 f1 : Nat) (c4 c5 : ByteArray) (c9 : Int) (c7 : Bool) (a0 : Option Addr) (b6 a8 : Nat) (d0 d1 d2 d3 d4 d5 d6 d7 d8 d9 : Int) (a1 : Option Addr) (b7 a9 : Nat) (e0 e1 e2 e3 : Int) (a2 : Option Addr) (b8 b0 : Nat) (a3 : Option Addr) (b9 b1 bm1 : Nat) (g7 : Int) (f6 : ByteArray) (g8 g9 h0 h1 h2 h3 : Int) (f0 : Option Addr) (f4 f2 : Nat) (f7 c6 : ByteArray) (e4 : Int) (c8 : Bool) (a4 : Option Addr) (c0 b2 bm2 : Nat) (h4 h5 h6 h7 h8 h9 i0 i1 i2 i3 : Int) (a5 : Option Addr) (c1 b3 : Nat) (e5 e6 e7 e8 : Int) (a6 : Option Addr) (c2 b4 : Nat) (a7 : Option Addr) (c3 b5 : Nat) (I : Nat → Int → World → Prop) (m : Nat) (vals : List Value) (mem : List TB) (w : World) : Prop := ∃ m', m' < m ∧ ∃ f8, vals = (law22_SessionDoes_v3 j3 i8 j0 i9 j1 j2 i7 i4 i6 i5 f8) ∧ mem = (law22_SessionDoes_m3 bm0 f9 g0 f5 g1 g2 g3 g4 g5 g6 e9 f3 f1 c4 c5 c9 c7 a0 b6 a8 d0 d1 d2 d3 d4 d5 d6 d7 d8 d9 a1 b7 a9 e0 e1 e2 e3 a2 b8 b0 a3 b9 b1 bm1 g7 f6 g8 g9 h0 h1 h2 h3 f0 f4 f2 f7 c6 e4 c8 a4 c0 b2 bm2 h4 h5 h6 h7 h8 h9 i0 i1 i2 i3 a5 c1 b3 e5 e6 e7 e8 a6 c2 b4 a7 c3 b5) ∧ I m' f8 w
theorem law22_SessionDoes_leaf3 {j5 : Int} {j0 : Option Addr} {j2 j1 : Nat} {j3 j4 : Option Addr} {i8 : Int} {i5 : Option Addr} {i7 i6 bm0 : Nat} {f8 f9 : Int} {f5 : ByteArray} {g0 g1 g2 g3 g4 g5 : Int} {e9 : Option Addr} {f3 f1 : Nat} {c4 c5 : ByteArray} {c9 : Int} {c7 : Bool} {a0 : Option Addr} {b6 a8 : Nat} {d0 d1 d2 d3 d4 d5 d6 d7 d8 d9 : Int} {a1 : Option Addr} {b7 a9 : Nat} {e0 e1 e2 e3 : Int} {a2 : Option Addr} {b8 b0 : Nat} {a3 : Option Addr} {b9 b1 bm1 : Nat} {g6 : Int} {f6 : ByteArray} {g7 g8 g9 h0 h3 h4 : Int} {f0 : Option Addr} {f4 f2 : Nat} {f7 c6 : ByteArray} {e4 : Int} {c8 : Bool} {a4 : Option Addr} {c0 b2 bm2 : Nat} {h5 h6 h7 h8 h9 i0 i1 i2 i3 i4 : Int} {a5 : Option Addr} {c1 b3 : Nat} {e5 e6 e7 e8 : Int} {a6 : Option Addr} {c2 b4 : Nat} {a7 : Option Addr} {c3 b5 : Nat} {I : Nat → Int → World → Prop} {m : Nat} {i9 : Int} {w : World} (m' : Nat) (h1 : m' < m) (h2 : I m' i9 w) : law22_SessionDoes_K3 j5 j0 j2 j1 j3 j4 i8 i5 i7 i6 bm0 f8 f9 f5 g0 g1 g2 g3 g4 g5 e9 f3 f1 c4 c5 c9 c7 a0 b6 a8 d0 d1 d2 d3 d4 d5 d6 d7 d8 d9 a1 b7 a9 e0 e1 e2 e3 a2 b8 b0 a3 b9 b1 bm1 g6 f6 g7 g8 g9 h0 h3 h4 f0 f4 f2 f7 c6 e4 c8 a4 c0 b2 bm2 h5 h6 h7 h8 h9 i0 i1 i2 i3 i4 a5 c1 b3 e5 e6 e7 e8 a6 c2 b4 a7 c3 b5 I m (law22_SessionDoes_v3 j5 j0 j2 j1 j3 j4 i8 i5 i7 i6 i9) (law22_SessionDoes_m3 bm0 f8 f9 f5 g0 g1 g2 g3 g4 g5 e9 f3 f1 c4 c5 c9 c7 a0 b6 a8 d0 d1 d2 d3 d4 d5 d6 d7 d8 d9 a1 b7 a9 e0 e1 e2 e3 a2 b8 b0 a3 b9 b1 bm1 g6 f6 g7 g8 g9 h0 h3 h4 f0 f4 f2 f7 c6 e4 c8 a4 c0 b2 bm2 h5 h6 h7 h8 h9 i0 i1 i2 i3 i4 a5 c1 b3 e5 e6 e7 e8 a6 c2 b4 a7 c3 b5) w := ⟨m', h1, _, rfl, rfl, h2⟩
theorem law22_SessionDoes_rule3 {j5 : Int} {j0 : Option Addr} {j2 j1 : Nat} {j3 j4 : Option Addr} {i9 : Int} {i6 : Option Addr} {i8 i7 bm0 : Nat} {g0 g1 : Int} {f7 : ByteArray} {g2 g3 g4 g5 g6 g7 : Int} {f0 : Option Addr} {f5 f2 : Nat} {c4 c5 : ByteArray} {c9 : Int} {c7 : Bool} {a0 : Option Addr} {b6 a8 : Nat} {d0 d1 d2 d3 d4 d5 d6 d7 d8 d9 : Int} {a1 : Option Addr} {b7 a9 : Nat} {e0 e1 e2 e3 : Int} {a2 : Option Addr} {b8 b0 : Nat} {a3 : Option Addr} {b9 b1 bm1 : Nat} {g8 : Int} {f8 : ByteArray} {g9 h1 h2 h3 h4 h5 : Int} {f1 : Option Addr} {f6 f4 : Nat} {f9 c6 : ByteArray} {e4 : Int} {c8 : Bool} {a4 : Option Addr} {c0 b2 bm2 : Nat} {h6 h7 h8 h9 i0 i1 i2 i3 i4 i5 : Int} {a5 : Option Addr} {c1 b3 : Nat} {e5 e6 e7 e8 : Int} {a6 : Option Addr} {c2 b4 : Nat} {a7 : Option Addr} {c3 b5 : Nat} {j6 : Int} {R : Value → World → Prop} {w0 : World} {K1 : Kh} (I : Nat → Int → World → Prop) (m0 : Nat) (h0 : I m0 j6 w0)
 (hr : ∀ (m : Nat) (e9 : Int) (w : World), I m e9 w → law22_SessionDoes_L3 j5 j0 j2 j1 j3 j4 i9 i6 i8 i7 bm0 g0 g1 f7 g2 g3 g4 g5 g6 g7 f0 f5 f2 c4 c5 c9 c7 a0 b6 a8 d0 d1 d2 d3 d4 d5 d6 d7 d8 d9 a1 b7 a9 e0 e1 e2 e3 a2 b8 b0 a3 b9 b1 bm1 g8 f8 g9 h1 h2 h3 h4 h5 f1 f6 f4 f9 c6 e4 c8 a4 c0 b2 bm2 h6 h7 h8 h9 i0 i1 i2 i3 i4 i5 a5 c1 b3 e5 e6 e7 e8 a6 c2 b4 a7 c3 b5 e9 K1 (law22_SessionDoes_K3 j5 j0 j2 j1 j3 j4 i9 i6 i8 i7 bm0 g0 g1 f7 g2 g3 g4 g5 g6 g7 f0 f5 f2 c4 c5 c9 c7 a0 b6 a8 d0 d1 d2 d3 d4 d5 d6 d7 d8 d9 a1 b7 a9 e0 e1 e2 e3 a2 b8 b0 a3 b9 b1 bm1 g8 f8 g9 h1 h2 h3 h4 h5 f1 f6 f4 f9 c6 e4 c8 a4 c0 b2 bm2 h6 h7 h8 h9 i0 i1 i2 i3 i4 i5 a5 c1 b3 e5 e6 e7 e8 a6 c2 b4 a7 c3 b5 I m) R w) :
 loopD3 law22_SessionDoes_la3 (dnF Tryz.prog law22_SessionDoes_an (code Tryz.f3) 382 [0, 0, 1, 1, 1, 0, 1, 1, 1, 0, 1, 0, 1, 1, 1, 0, 0, 1, 0, 0, 1, 0, 1, 1, 1, 1, 1]) (kont3 Tryz.prog law22_SessionDoes_an (code Tryz.f3) [1, 1, 1, 1, 1, 0, 1, 0, 0, 1, 0, 0, 1, 1, 1, 0, 1, 0, 1, 1, 1, 0, 1, 1, 1, 0] [K1] (post3 Tryz.prog Tryz.f3 [] R)) (law22_SessionDoes_v3 j5 j0 j2 j1 j3 j4 i9 i6 i8 i7 j6) (law22_SessionDoes_m3 bm0 g0 g1 f7 g2 g3 g4 g5 g6 g7 f0 f5 f2 c4 c5 c9 c7 a0 b6 a8 d0 d1 d2 d3 d4 d5 d6 d7 d8 d9 a1 b7 a9 e0 e1 e2 e3 a2 b8 b0 a3 b9 b1 bm1 g8 f8 g9 h1 h2 h3 h4 h5 f1 f6 f4 f9 c6 e4 c8 a4 c0 b2 bm2 h6 h7 h8 h9 i0 i1 i2 i3 i4 i5 a5 c1 b3 e5 e6 e7 e8 a6 c2 b4 a7 c3 b5) w0 := by
 refine ⟨fun m vals mem w => ∃ e9, vals = (law22_SessionDoes_v3 j5 j0 j2 j1 j3 j4 i9 i6 i8 i7 e9) ∧ mem = (law22_SessionDoes_m3 bm0 g0 g1 f7 g2 g3 g4 g5 g6 g7 f0 f5 f2 c4 c5 c9 c7 a0 b6 a8 d0 d1 d2 d3 d4 d5 d6 d7 d8 d9 a1 b7 a9 e0 e1 e2 e3 a2 b8 b0 a3 b9 b1 bm1 g8 f8 g9 h1 h2 h3 h4 h5 f1 f6 f4 f9 c6 e4 c8 a4 c0 b2 bm2 h6 h7 h8 h9 i0 i1 i2 i3 i4 i5 a5 c1 b3 e5 e6 e7 e8 a6 c2 b4 a7 c3 b5) ∧ I m e9 w, m0, ⟨_, rfl, rfl, h0⟩, ?_⟩
 rintro m vals mem w ⟨e9, rfl, rfl, hI⟩
 refine ⟨rfl, rfl, fun js => ?_⟩
 have h := hr m e9 w hI
 rw [← law22_SessionDoes_L3_eq _ _ _ _ _ _ _ _ _ _ _ _ _ _ _ _ _ _ _ _ _ _ _ _ _ _ _ _ _ _ _ _ _ _ _ _ _ _ _ _ _ _ _ _ _ _ _ _ _ _ _ _ _ _ _ _ _ _ _ _ _ _ _ _ _ _ _ _ _ _ _ _ _ _ _ _ _ _ _ _ _ _ _ _ _ _ _ _ _ _ _ _ _ _ _ _ _ _ _ js] at h
 exact h
def law22_SessionDoes_L4 (j4 : Int) (i9 : Option Addr) (j1 j0 : Nat) (j2 j3 : Option Addr) (i8 : Int) (e9 : Option Addr) (f0 i7 : Nat) (f1 : Int) (bm0 : Nat) (g1 g2 : Int) (f8 : ByteArray) (g3 g4 g5 g6 g7 g8 : Int) (f2 : Option Addr) (f6 f4 : Nat) (c4 c5 : ByteArray) (c9 : Int) (c7 : Bool) (a0 : Option Addr) (b6 a8 : Nat) (d0 d1 d2 d3 d4 d5 d6 d7 d8 d9 : Int) (a1 : Option Addr) (b7 a9 : Nat) (e0 e1 e2 e3 : Int) (a2 : Option Addr) (b8 b0 : Nat) (a3 : Option Addr) (b9 b1 bm1 : Nat) (g9 : Int) (f9 : ByteArray) (h0 h1 h2 h3 h4 h5 : Int) (f3 : Option Addr) (f7 f5 : Nat) (g0 c6 : ByteArray) (e4 : Int) (c8 : Bool) (a4 : Option Addr) (c0 b2 bm2 : Nat) (h6 h7 h8 h9 i0 i1 i2 i3 i4 i5 : Int) (a5 : Option Addr) (c1 b3 : Nat) (e5 e6 e7 e8 : Int) (a6 : Option Addr) (c2 b4 : Nat) (a7 : Option Addr) (c3 b5 : Nat) (i6 : Int) (K1 K3 K4 : Kh) (R : Value → World → Prop) (w : World) : Prop :=
 ixA e9 f0 f1 17 fun q243 =>
 ldSlice w (Addr.add q243 10) fun a244 n245 c246 =>
 brB (decide (i6 < (n245 : Int))) (
 ixA e9 f0 f1 17 fun q247 =>
 ldSlice w (Addr.add q247 10) fun a248 n249 c250 =>
 ixA a248 n249 i6 16 fun q251 =>
 st w (Addr.add q251 1) [.int .i64 99] fun w252 => Keep [bm0, bm1, bm2] w w252 ∧
 K4 (law22_SessionDoes_v4 j4 i9 j1 j0 j2 j3 i8 e9 f0 i7 f1 (IntKind.wrap .i64 (i6 + 1))) (law22_SessionDoes_m4 bm0 g1 g2 f8 g3 g4 g5 g6 g7 g8 f2 f6 f4 c4 c5 c9 c7 a0 b6 a8 d0 d1 d2 d3 d4 d5 d6 d7 d8 d9 a1 b7 a9 e0 e1 e2 e3 a2 b8 b0 a3 b9 b1 bm1 g9 f9 h0 h1 h2 h3 h4 h5 f3 f7 f5 g0 c6 e4 c8 a4 c0 b2 bm2 h6 h7 h8 h9 i0 i1 i2 i3 i4 i5 a5 c1 b3 e5 e6 e7 e8 a6 c2 b4 a7 c3 b5) w252)
 (
 K3 (law22_SessionDoes_v3 j4 i9 j1 j0 j2 j3 i8 e9 f0 i7 (IntKind.wrap .i64 (f1 + 1))) (law22_SessionDoes_m3 bm0 g1 g2 f8 g3 g4 g5 g6 g7 g8 f2 f6 f4 c4 c5 c9 c7 a0 b6 a8 d0 d1 d2 d3 d4 d5 d6 d7 d8 d9 a1 b7 a9 e0 e1 e2 e3 a2 b8 b0 a3 b9 b1 bm1 g9 f9 h0 h1 h2 h3 h4 h5 f3 f7 f5 g0 c6 e4 c8 a4 c0 b2 bm2 h6 h7 h8 h9 i0 i1 i2 i3 i4 i5 a5 c1 b3 e5 e6 e7 e8 a6 c2 b4 a7 c3 b5) w)
theorem law22_SessionDoes_L4_eq (j5 : Int) (j0 : Option Addr) (j2 j1 : Nat) (j3 j4 : Option Addr) (i7 : Int) (i4 : Option Addr) (i6 i5 : Nat) (i8 : Int) (bm0 : Nat) (f9 g0 : Int) (f6 : ByteArray) (g1 g2 g3 g4 g5 g6 : Int) (e9 : Option Addr) (f4 f1 : Nat) (c4 c5 : ByteArray) (c9 : Int) (c7 : Bool) (a0 : Option Addr) (b6 a8 : Nat) (d0 d1 d2 d3 d4 d5 d6 d7 d8 d9 : Int) (a1 : Option Addr) (b7 a9 : Nat) (e0 e1 e2 e3 : Int) (a2 : Option Addr) (b8 b0 : Nat) (a3 : Option Addr) (b9 b1 bm1 : Nat) (g7 : Int) (f7 : ByteArray) (g8 g9 h0 h1 h2 h3 : Int) (f0 : Option Addr) (f5 f2 : Nat) (f8 c6 : ByteArray) (e4 : Int) (c8 : Bool) (a4 : Option Addr) (c0 b2 bm2 : Nat) (h4 h5 h6 h7 h8 h9 i0 i1 i2 i3 : Int) (a5 : Option Addr) (c1 b3 : Nat) (e5 e6 e7 e8 : Int) (a6 : Option Addr) (c2 b4 : Nat) (a7 : Option Addr) (c3 b5 : Nat) (i9 : Int) (K1 K3 K4 : Kh) (js : Nat → Value) (R : Value → World → Prop) (w : World) :
 headA law22_SessionDoes_la4 ((dnF Tryz.prog law22_SessionDoes_an (code Tryz.f3) 379 [0, 0, 1, 0, 0, 1, 0, 0, 1, 1, 1, 0, 1, 1, 1, 0, 1, 0, 1, 1, 1, 0, 0, 1, 0, 0, 1, 0, 1, 1, 1, 1, 1]) (kthen3 (atA law22_SessionDoes_la4 K4) (kont3 Tryz.prog law22_SessionDoes_an (code Tryz.f3) [1, 1, 1, 1, 1, 0, 1, 0, 0, 1, 0, 0, 1, 1, 1, 0, 1, 0, 1, 1, 1, 0, 1, 1, 1, 0, 0, 1, 0, 0, 1, 0] [K1, K3] (post3 Tryz.prog Tryz.f3 [] R)))) (law22_SessionDoes_v4 j5 j0 j2 j1 j3 j4 i7 i4 i6 i5 i8 i9) js (law22_SessionDoes_m4 bm0 f9 g0 f6 g1 g2 g3 g4 g5 g6 e9 f4 f1 c4 c5 c9 c7 a0 b6 a8 d0 d1 d2 d3 d4 d5 d6 d7 d8 d9 a1 b7 a9 e0 e1 e2 e3 a2 b8 b0 a3 b9 b1 bm1 g7 f7 g8 g9 h0 h1 h2 h3 f0 f5 f2 f8 c6 e4 c8 a4 c0 b2 bm2 h4 h5 h6 h7 h8 h9 i0 i1 i2 i3 a5 c1 b3 e5 e6 e7 e8 a6 c2 b4 a7 c3 b5) w = law22_SessionDoes_L4 j5 j0 j2 j1 j3 j4 i7 i4 i6 i5 i8 bm0 f9 g0 f6 g1 g2 g3 g4 g5 g6 e9 f4 f1 c4 c5 c9 c7 a0 b6 a8 d0 d1 d2 d3 d4 d5 d6 d7 d8 d9 a1 b7 a9 e0 e1 e2 e3 a2 b8 b0 a3 b9 b1 bm1 g7 f7 g8 g9 h0 h1 h2 h3 f0 f5 f2 f8 c6 e4 c8 a4 c0 b2 bm2 h4 h5 h6 h7 h8 h9 i0 i1 i2 i3 a5 c1 b3 e5 e6 e7 e8 a6 c2 b4 a7 c3 b5 i9 K1 K3 K4 R w := by kernel_rfl
def law22_SessionDoes_K4 (j4 : Int) (i9 : Option Addr) (j1 j0 : Nat) (j2 j3 : Option Addr) (i7 : Int) (i4 : Option Addr) (i6 i5 : Nat) (i8 : Int) (bm0 : Nat) (f9 g0 : Int) (f5 : ByteArray) (g1 g2 g3 g4 g5 g6 : Int) (e9 : Option Addr) (f3 f1 : Nat) (c4 c5 : ByteArray) (c9 : Int) (c7 : Bool) (a0 : Option Addr) (b6 a8 : Nat) (d0 d1 d2 d3 d4 d5 d6 d7 d8 d9 : Int) (a1 : Option Addr) (b7 a9 : Nat) (e0 e1 e2 e3 : Int) (a2 : Option Addr) (b8 b0 : Nat) (a3 : Option Addr) (b9 b1 bm1 : Nat) (g7 : Int) (f6 : ByteArray) (g8 g9 h0 h1 h2 h3 : Int) (f0 : Option Addr) (f4 f2 : Nat) (f7 c6 : ByteArray) (e4 : Int) (c8 : Bool) (a4 : Option Addr) (c0 b2 bm2 : Nat) (h4 h5 h6 h7 h8 h9 i0 i1 i2 i3 : Int) (a5 : Option Addr) (c1 b3 : Nat) (e5 e6 e7 e8 : Int) (a6 : Option Addr) (c2 b4 : Nat) (a7 : Option Addr) (c3 b5 : Nat) (I : Nat → Int → World → Prop) (m : Nat) (vals : List Value) (mem : List TB) (w : World) : Prop := ∃ m', m' < m ∧ ∃ f8, vals = (law22_SessionDoes_v4 j4 i9 j1 j0 j2 j3 i7 i4 i6 i5 i8 f8) ∧ mem = (law22_SessionDoes_m4 bm0 f9 g0 f5 g1 g2 g3 g4 g5 g6 e9 f3 f1 c4 c5 c9 c7 a0 b6 a8 d0 d1 d2 d3 d4 d5 d6 d7 d8 d9 a1 b7 a9 e0 e1 e2 e3 a2 b8 b0 a3 b9 b1 bm1 g7 f6 g8 g9 h0 h1 h2 h3 f0 f4 f2 f7 c6 e4 c8 a4 c0 b2 bm2 h4 h5 h6 h7 h8 h9 i0 i1 i2 i3 a5 c1 b3 e5 e6 e7 e8 a6 c2 b4 a7 c3 b5) ∧ I m' f8 w
theorem law22_SessionDoes_leaf4 {j6 : Int} {j1 : Option Addr} {j3 j2 : Nat} {j4 j5 : Option Addr} {i8 : Int} {i5 : Option Addr} {i7 i6 : Nat} {i9 : Int} {bm0 : Nat} {f8 f9 : Int} {f5 : ByteArray} {g0 g1 g2 g3 g4 g5 : Int} {e9 : Option Addr} {f3 f1 : Nat} {c4 c5 : ByteArray} {c9 : Int} {c7 : Bool} {a0 : Option Addr} {b6 a8 : Nat} {d0 d1 d2 d3 d4 d5 d6 d7 d8 d9 : Int} {a1 : Option Addr} {b7 a9 : Nat} {e0 e1 e2 e3 : Int} {a2 : Option Addr} {b8 b0 : Nat} {a3 : Option Addr} {b9 b1 bm1 : Nat} {g6 : Int} {f6 : ByteArray} {g7 g8 g9 h0 h3 h4 : Int} {f0 : Option Addr} {f4 f2 : Nat} {f7 c6 : ByteArray} {e4 : Int} {c8 : Bool} {a4 : Option Addr} {c0 b2 bm2 : Nat} {h5 h6 h7 h8 h9 i0 i1 i2 i3 i4 : Int} {a5 : Option Addr} {c1 b3 : Nat} {e5 e6 e7 e8 : Int} {a6 : Option Addr} {c2 b4 : Nat} {a7 : Option Addr} {c3 b5 : Nat} {I : Nat → Int → World → Prop} {m : Nat} {j0 : Int} {w : World} (m' : Nat) (h1 : m' < m) (h2 : I m' j0 w) : law22_SessionDoes_K4 j6 j1 j3 j2 j4 j5 i8 i5 i7 i6 i9 bm0 f8 f9 f5 g0 g1 g2 g3 g4 g5 e9 f3 f1 c4 c5 c9 c7 a0 b6 a8 d0 d1 d2 d3 d4 d5 d6 d7 d8 d9 a1 b7 a9 e0 e1 e2 e3 a2 b8 b0 a3 b9 b1 bm1 g6 f6 g7 g8 g9 h0 h3 h4 f0 f4 f2 f7 c6 e4 c8 a4 c0 b2 bm2 h5 h6 h7 h8 h9 i0 i1 i2 i3 i4 a5 c1 b3 e5 e6 e7 e8 a6 c2 b4 a7 c3 b5 I m (law22_SessionDoes_v4 j6 j1 j3 j2 j4 j5 i8 i5 i7 i6 i9 j0) (law22_SessionDoes_m4 bm0 f8 f9 f5 g0 g1 g2 g3 g4 g5 e9 f3 f1 c4 c5 c9 c7 a0 b6 a8 d0 d1 d2 d3 d4 d5 d6 d7 d8 d9 a1 b7 a9 e0 e1 e2 e3 a2 b8 b0 a3 b9 b1 bm1 g6 f6 g7 g8 g9 h0 h3 h4 f0 f4 f2 f7 c6 e4 c8 a4 c0 b2 bm2 h5 h6 h7 h8 h9 i0 i1 i2 i3 i4 a5 c1 b3 e5 e6 e7 e8 a6 c2 b4 a7 c3 b5) w := ⟨m', h1, _, rfl, rfl, h2⟩
theorem law22_SessionDoes_rule4 {j6 : Int} {j1 : Option Addr} {j3 j2 : Nat} {j4 j5 : Option Addr} {i9 : Int} {i6 : Option Addr} {i8 i7 : Nat} {j0 : Int} {bm0 : Nat} {g0 g1 : Int} {f7 : ByteArray} {g2 g3 g4 g5 g6 g7 : Int} {f0 : Option Addr} {f5 f2 : Nat} {c4 c5 : ByteArray} {c9 : Int} {c7 : Bool} {a0 : Option Addr} {b6 a8 : Nat} {d0 d1 d2 d3 d4 d5 d6 d7 d8 d9 : Int} {a1 : Option Addr} {b7 a9 : Nat} {e0 e1 e2 e3 : Int} {a2 : Option Addr} {b8 b0 : Nat} {a3 : Option Addr} {b9 b1 bm1 : Nat} {g8 : Int} {f8 : ByteArray} {g9 h1 h2 h3 h4 h5 : Int} {f1 : Option Addr} {f6 f4 : Nat} {f9 c6 : ByteArray} {e4 : Int} {c8 : Bool} {a4 : Option Addr} {c0 b2 bm2 : Nat} {h6 h7 h8 h9 i0 i1 i2 i3 i4 i5 : Int} {a5 : Option Addr} {c1 b3 : Nat} {e5 e6 e7 e8 : Int} {a6 : Option Addr} {c2 b4 : Nat} {a7 : Option Addr} {c3 b5 : Nat} {j7 : Int} {R : Value → World → Prop} {w0 : World} {K1 K3 : Kh} (I : Nat → Int → World → Prop) (m0 : Nat) (h0 : I m0 j7 w0)
 (hr : ∀ (m : Nat) (e9 : Int) (w : World), I m e9 w → law22_SessionDoes_L4 j6 j1 j3 j2 j4 j5 i9 i6 i8 i7 j0 bm0 g0 g1 f7 g2 g3 g4 g5 g6 g7 f0 f5 f2 c4 c5 c9 c7 a0 b6 a8 d0 d1 d2 d3 d4 d5 d6 d7 d8 d9 a1 b7 a9 e0 e1 e2 e3 a2 b8 b0 a3 b9 b1 bm1 g8 f8 g9 h1 h2 h3 h4 h5 f1 f6 f4 f9 c6 e4 c8 a4 c0 b2 bm2 h6 h7 h8 h9 i0 i1 i2 i3 i4 i5 a5 c1 b3 e5 e6 e7 e8 a6 c2 b4 a7 c3 b5 e9 K1 K3 (law22_SessionDoes_K4 j6 j1 j3 j2 j4 j5 i9 i6 i8 i7 j0 bm0 g0 g1 f7 g2 g3 g4 g5 g6 g7 f0 f5 f2 c4 c5 c9 c7 a0 b6 a8 d0 d1 d2 d3 d4 d5 d6 d7 d8 d9 a1 b7 a9 e0 e1 e2 e3 a2 b8 b0 a3 b9 b1 bm1 g8 f8 g9 h1 h2 h3 h4 h5 f1 f6 f4 f9 c6 e4 c8 a4 c0 b2 bm2 h6 h7 h8 h9 i0 i1 i2 i3 i4 i5 a5 c1 b3 e5 e6 e7 e8 a6 c2 b4 a7 c3 b5 I m) R w) :
 loopD3 law22_SessionDoes_la4 (dnF Tryz.prog law22_SessionDoes_an (code Tryz.f3) 379 [0, 0, 1, 0, 0, 1, 0, 0, 1, 1, 1, 0, 1, 1, 1, 0, 1, 0, 1, 1, 1, 0, 0, 1, 0, 0, 1, 0, 1, 1, 1, 1, 1]) (kont3 Tryz.prog law22_SessionDoes_an (code Tryz.f3) [1, 1, 1, 1, 1, 0, 1, 0, 0, 1, 0, 0, 1, 1, 1, 0, 1, 0, 1, 1, 1, 0, 1, 1, 1, 0, 0, 1, 0, 0, 1, 0] [K1, K3] (post3 Tryz.prog Tryz.f3 [] R)) (law22_SessionDoes_v4 j6 j1 j3 j2 j4 j5 i9 i6 i8 i7 j0 j7) (law22_SessionDoes_m4 bm0 g0 g1 f7 g2 g3 g4 g5 g6 g7 f0 f5 f2 c4 c5 c9 c7 a0 b6 a8 d0 d1 d2 d3 d4 d5 d6 d7 d8 d9 a1 b7 a9 e0 e1 e2 e3 a2 b8 b0 a3 b9 b1 bm1 g8 f8 g9 h1 h2 h3 h4 h5 f1 f6 f4 f9 c6 e4 c8 a4 c0 b2 bm2 h6 h7 h8 h9 i0 i1 i2 i3 i4 i5 a5 c1 b3 e5 e6 e7 e8 a6 c2 b4 a7 c3 b5) w0 := by
 refine ⟨fun m vals mem w => ∃ e9, vals = (law22_SessionDoes_v4 j6 j1 j3 j2 j4 j5 i9 i6 i8 i7 j0 e9) ∧ mem = (law22_SessionDoes_m4 bm0 g0 g1 f7 g2 g3 g4 g5 g6 g7 f0 f5 f2 c4 c5 c9 c7 a0 b6 a8 d0 d1 d2 d3 d4 d5 d6 d7 d8 d9 a1 b7 a9 e0 e1 e2 e3 a2 b8 b0 a3 b9 b1 bm1 g8 f8 g9 h1 h2 h3 h4 h5 f1 f6 f4 f9 c6 e4 c8 a4 c0 b2 bm2 h6 h7 h8 h9 i0 i1 i2 i3 i4 i5 a5 c1 b3 e5 e6 e7 e8 a6 c2 b4 a7 c3 b5) ∧ I m e9 w, m0, ⟨_, rfl, rfl, h0⟩, ?_⟩
 rintro m vals mem w ⟨e9, rfl, rfl, hI⟩
 refine ⟨rfl, rfl, fun js => ?_⟩
 have h := hr m e9 w hI
 rw [← law22_SessionDoes_L4_eq _ _ _ _ _ _ _ _ _ _ _ _ _ _ _ _ _ _ _ _ _ _ _ _ _ _ _ _ _ _ _ _ _ _ _ _ _ _ _ _ _ _ _ _ _ _ _ _ _ _ _ _ _ _ _ _ _ _ _ _ _ _ _ _ _ _ _ _ _ _ _ _ _ _ _ _ _ _ _ _ _ _ _ _ _ _ _ _ _ _ _ _ _ _ _ _ _ _ _ _ _ js] at h
 exact h
def law22_SessionDoes_T (a0 a1 : Int) (a2 : Option Addr) (a4 a3 : Nat) (R : Value → World → Prop) (w : World) : Prop :=
 Calls Tryz.prog 10 #[.int .i64 a0, .int .i64 a1] w fun e w1 => ∃ (p2 : Option Addr) (x3 : Int), e = .returned (.tuple #[.pointer p2, .int .i64 x3]) ∧
 Calls Tryz.prog 11 #[.int .i64 a0, .int .i64 a1] w1 fun e w4 => ∃ (p5 : Option Addr) (x6 : Int), e = .returned (.tuple #[.pointer p5, .int .i64 x6]) ∧
 brB (x3 != x6) (
 R (.bool false) w4)
 (
 brB (!((Option.isNone p2) == (Option.isNone p5))) (
 R (.bool false) w4)
 (
 brB (Option.isNone p2) (
 Calls Tryz.prog 12 #[] w4 fun e w7 => ∃ t8 : Bool, e = .returned (.bool t8) ∧
 R (.bool t8) w7)
 (
 brB (Option.isNone p5) (
 Calls Tryz.prog 12 #[] w4 fun e w9 => ∃ t10 : Bool, e = .returned (.bool t10) ∧
 R (.bool t10) w9)
 (
 loopD3 law22_SessionDoes_la1 (dnF Tryz.prog law22_SessionDoes_an (code Tryz.f3) 393 [0, 0, 1, 0, 1, 1, 1, 1, 1]) (kont3 Tryz.prog law22_SessionDoes_an (code Tryz.f3) [1, 1, 1, 1, 1, 0, 1, 0] [] (post3 Tryz.prog Tryz.f3 [] R)) (law22_SessionDoes_v1 a0 a2 a4 a3 p5 p2 0) (law22_SessionDoes_m1) w4))))
theorem law22_SessionDoes_eq (a4 a0 : Int) (a1 : Option Addr) (a3 a2 : Nat) (R : Value → World → Prop) (w : World) :
 dnF Tryz.prog law22_SessionDoes_an (code Tryz.f3) 400 [] (post3 Tryz.prog Tryz.f3 [] R) ⟨args0 0 [.int .i64 a4, .int .i64 a0, .slice a1 a3 a2], fun _ => undef⟩ ⟨[], w, [], [], true⟩ = law22_SessionDoes_T a4 a0 a1 a3 a2 R w := by kernel_rfl
theorem law22_SessionDoes_go {a4 a0 : Int} {a1 : Option Addr} {a3 a2 : Nat} {R : Value → World → Prop} {w : World} (h : law22_SessionDoes_T a4 a0 a1 a3 a2 R w) :
 Calls Tryz.prog 3 #[.int .i64 a4, .int .i64 a0, .slice a1 a3 a2] w fun e w' => ∃ v, e = .returned v ∧ R v w' :=
 calls_none Tryz.wide_mixed (f := 3) (args := [.int .i64 a4, .int .i64 a0, .slice a1 a3 a2]) Tryz.func3 rfl rfl (by kernel_rfl) rfl (Eq.mpr (law22_SessionDoes_eq a4 a0 a1 a3 a2 R w) h)

end Go.Proofs.YtohgihgddknmmaaGreat

/- A client's object: the reference's; a copy of the other one. -/
namespace Go.Proofs.YtohgihgddknmmaaGreat
open Go Go.RowKit
set_option linter.unusedVariables false
set_option linter.unusedSimpArgs false

abbrev RsT : TypeId := 59
def RCs (cl rp n v : Int) (b : Bool) (q : CV) : List Value := [.int .i64 cl, .int .i64 rp, .int .i64 n, .int .i64 v, .bool b, .int .i64 q.x.c, .int .i64 q.x.n, .int .i64 q.x.op.kind, .string q.x.op.part.t, .int .i64 q.x.op.part.n, .int .i64 q.x.op.n, .int .i64 q.x.op.off, .int .i64 q.x.op.b.prod, .int .i64 q.x.op.b.epoch, .int .i64 q.x.op.b.seq, .slice q.rs.a q.rs.n q.rs.c, .string q.x.op.g, .string q.x.op.m, .int .i64 q.x.op.gen, .bool q.x.op.robin, .slice q.ts.a q.ts.n q.ts.c]
structure RSes (w : World) (b0 : Nat) (cl rp n v : Int) (o : Option PCall) : Prop where
  obj : ∃ q : CV, w.heap[b0]? = some (.cells (RCs cl rp n v o.isSome q).toArray RsT) ∧ ∀ c, o = some c → q.x = c ∧ OpOwn w 0 c.op q.rs q.ts
theorem RSes.keep0 {w w' : World} {b0 : Nat} {cl rp n v : Int} {o : Option PCall} (h : RSes w b0 cl rp n v o) (M : Mod [] w w') : RSes w' b0 cl rp n v o := by
  obtain ⟨q, h1, h2⟩ := h.obj
  exact ⟨q, M.keep0 h1, fun c hc => ⟨(h2 c hc).1, (h2 c hc).2.keep0 M⟩⟩
theorem RSes.keepT {S : List Nat} {w w' : World} {b0 : Nat} {cl rp n v : Int} {o : Option PCall} (h : RSes w b0 cl rp n v o) (M : Mod S w w') (hS : ∀ k ∈ S, ∀ cs T, w.heap[k]? = some (.cells cs T) → T ≠ RsT ∧ T ≠ 149 ∧ T ≠ 9) : RSes w' b0 cl rp n v o := by
  obtain ⟨q, h1, h2⟩ := h.obj
  exact ⟨q, M.keep h1 fun hk => (hS _ hk _ _ h1).1 rfl, fun c hc => ⟨(h2 c hc).1, (h2 c hc).2.keep M fun k hk cs T hT => (hS k hk cs T hT).2⟩⟩
theorem RSes.lt {w : World} {b0 : Nat} {cl rp n v : Int} {o : Option PCall} (h : RSes w b0 cl rp n v o) : b0 < w.heap.size := by
  obtain ⟨q, h1, h2⟩ := h.obj; exact lt_of_block h1
/-- What the program's client writes leaves the reference's. -/
theorem RSes.keepS {w w' : World} {b0 b1 : Nat} {cl rp n v cl' rp' n' v' : Int} {o o' : Option PCall} (h : RSes w b1 cl rp n v o) (k : Ses w b0 cl' rp' n' v' o') (M : Mod [b0] w w') : RSes w' b1 cl rp n v o := by
  obtain ⟨p, h1, _⟩ := k.obj
  refine h.keepT M fun i hi cs T hT => ?_
  simp at hi; subst hi
  rw [h1] at hT; cases hT; decide
/-- What the reference's client writes leaves the program's. -/
theorem Ses.keepR {w w' : World} {b0 b1 : Nat} {cl rp n v cl' rp' n' v' : Int} {o o' : Option PCall} (h : Ses w b0 cl rp n v o) (k : RSes w b1 cl' rp' n' v' o') (M : Mod [b1] w w') : Ses w' b0 cl rp n v o := by
  obtain ⟨q, h3, _⟩ := k.obj
  obtain ⟨p, h1, h2⟩ := h.obj
  have ne : ∀ {b : Nat} {cs : Array Value} {T : TypeId}, w.heap[b]? = some (.cells cs T) → T ≠ RsT → b ∉ [b1] := fun {b cs T} hb hT hm => by
    simp at hm; subst hm
    rw [h3] at hb; cases hb; exact hT rfl
  refine ⟨p, M.keep h1 (ne h1 (by decide)), ?_⟩
  cases o with
  | none => exact h2
  | some c =>
    obtain ⟨b9, rs, ts, h4, h5, h6, h7⟩ := h2
    refine ⟨b9, rs, ts, h4, h5, M.keep h6 (ne h6 (by decide)), h7.keep M fun i hi cs T hT => ?_⟩
    simp at hi; subst hi
    rw [h3] at hT; cases hT; decide
theorem Ses.above {S : List Nat} {w w' : World} {b0 : Nat} {cl rp n v : Int} {o : Option PCall} (h : Ses w b0 cl rp n v o) (M : Mod S w w') (hS : ∀ k ∈ S, k < b0) : Ses w' b0 cl rp n v o := by
  obtain ⟨p, h1, h2⟩ := h.obj
  refine ⟨p, M.keep h1 fun hk => by have := hS _ hk; omega, ?_⟩
  cases o with
  | none => exact h2
  | some c =>
    obtain ⟨b9, rs, ts, h4, h5, h6, h7⟩ := h2
    exact ⟨b9, rs, ts, h4, h5, M.keep h6 fun hk => by have := hS _ hk; omega, h7.keepB M fun k hk => by have := hS k hk; omega⟩

theorem PrimaryR_ok {v n : Int} (hv : 0 ≤ v) (hn : mayB n = true) (w : World) : Calls Tryz.prog 65 #[.int .i64 v, .int .i64 n] w fun e w' => e = .returned (.int .i64 (v % n)) ∧ w' = w := by
  have hb : 1 ≤ n ∧ n ≤ 7 := by simpa [mayB] using hn
  refine go_of (ref17_Primary_go ?_)
  refine brB_dec (fun h => by omega) fun _ => brB_dec (fun h => by omega) fun _ => brB_dec (fun h => by omega) fun _ => ⟨by omega, ?_, rfl⟩
  rw [Int.tmod_eq_emod_of_nonneg hv]
theorem RNew_ok {cl rp : Int} (w : World) : Calls Tryz.prog 11 #[.int .i64 cl, .int .i64 rp] w fun e w' => ∃ v, e = .returned v ∧
    (if 1 ≤ cl ∧ cl ≤ 1099511627776 ∧ mayB rp = true then ∃ b0, v = .tuple #[.pointer (some ⟨b0, 0, none⟩), .int .i64 0] ∧ w.heap.size ≤ b0 ∧ RSes w' b0 cl rp 0 0 none else v = .tuple #[.pointer none, .int .i64 1]) ∧ Mod [] w w' := by
  have hm : mayB rp = true ↔ 1 ≤ rp ∧ rp ≤ 7 := by simp [mayB]
  refine ref22_New_go ?_
  refine brB_dec (fun h => ⟨by rw [if_neg (by omega)], Mod.refl _⟩) fun h1 => ?_
  refine brB_dec (fun h => ⟨by rw [if_neg (by omega)], Mod.refl _⟩) fun h2 => ?_
  refine brB_dec (fun h => ⟨by rw [if_neg (by rw [hm]; omega)], Mod.refl _⟩) fun h3 => ?_
  refine brB_dec (fun h => ⟨by rw [if_neg (by rw [hm]; omega)], Mod.refl _⟩) fun h4 => ?_
  intro b3 f3 w4 A4 hc
  refine ⟨?_, A4.mod⟩
  rw [if_pos ⟨by omega, by omega, hm.2 (by omega)⟩]
  exact ⟨b3, rfl, f3, ⟨⟨⟨0, 0, op0⟩, nilS, nilS⟩, hc, fun c hc => by cases hc⟩⟩
theorem Rmail_ok {w : World} {b0 : Nat} {cl rp n v : Int} {bz : Bool} {q : CV} (h1 : w.heap[b0]? = some (.cells (RCs cl rp n v bz q).toArray RsT)) (to : Int) :
    Calls Tryz.prog 64 #[.pointer (some ⟨b0, 0, none⟩), .int .i64 to] w fun e w' => ∃ u, e = .returned u ∧ ∃ b3, u = (askM cl to q.x).v ⟨some ⟨b3, 0, none⟩, 1, 1⟩ nilS nilS ∧ w.heap.size ≤ b3 ∧ w'.heap[b3]? = some (.cells q.cs.toArray 57) ∧ Mod [] w w' := by
  refine ref22_Session_mail_go h1 ?_
  intro b1 f1 w2 A2
  have l1 := A2.lt b1 (by simp)
  refine al_of fun b3 w4 c4 M4 f4 => ?_
  intro w5 A5 _
  have s2 := A2.mod.size
  have N4 : Mod [] w w4 := A2.mod.go0 M4 (by simp)
  exact ⟨b3, rfl, by omega, A5.mod.keep c4 (by simp; omega), N4.go0 A5.mod (by simpa using f1)⟩
theorem Rmail_own {w : World} {b3 : Nat} {cl to : Int} {q : CV} (h : w.heap[b3]? = some (.cells q.cs.toArray 57)) (hO : OpOwn w 0 q.x.op q.rs q.ts) : MailOwn w 0 (askM cl to q.x) ⟨some ⟨b3, 0, none⟩, 1, 1⟩ nilS nilS :=
  ⟨⟨[q], Row.one rfl (by omega) h, fun y hy => by simp at hy; subst hy; exact hO, rfl⟩, ⟨Row.nil .., Row.nil .., by simp [askM, rep00], by simp [askM, rep00]⟩⟩

theorem RCall_ok {w : World} {b0 B : Nat} {cl rp n v : Int} {o : Option PCall} (h : RSes w b0 cl rp n v o) {op : POp} {rs ts : Sl} (hop : OpOwn w B op rs ts) (hv : 0 ≤ v) (hrp : mayB rp = true) (hn : 0 ≤ n) (hn2 : n ≤ 1099511627776) :
    Calls Tryz.prog 16 #[.pointer (some ⟨b0, 0, none⟩), op.v rs ts] w fun e w' => ∃ u, e = .returned u ∧ Mod [b0] w w' ∧
      (if callE op n o = 0 then ∃ s' : Sl, u = .tuple #[(askM cl (v % rp) ⟨cl, n + 1, op⟩).v s' nilS nilS, .int .i64 0] ∧ MailOwn w' 0 (askM cl (v % rp) ⟨cl, n + 1, op⟩) s' nilS nilS ∧ RSes w' b0 cl rp (n + 1) v (some ⟨cl, n + 1, op⟩)
      else u = .tuple #[mail0.v nilS nilS nilS, .int .i64 (callE op n o)] ∧ RSes w' b0 cl rp n v o) := by
  have hlt := h.lt
  have hop := hop.rebase (Nat.zero_le _)
  obtain ⟨q, h1, h2⟩ := h.obj
  refine ref22_Session_Call_go h1 ?_
  intro b1 f1 b2 f2 w3 A3
  have l1 := A3.lt b1 (by simp)
  have l2 := A3.lt b2 (by simp)
  have s3 := A3.mod.size
  have M1 : ∀ {w'}, Mod [] w w' → Mod [b0] w w' := fun M => M.less (by simp)
  refine (CheckR_ok (o := op) (rs := rs) (ts := ts) (hop.at.keep0 A3.mod).recs (hop.at.keep0 A3.mod).topics).mono ?_
  rintro e w4 ⟨rfl, M4⟩
  have N4 := A3.mod.go0 M4 (by simp)
  have s4 := M4.size
  refine ⟨_, rfl, Keep.of0 M4, ?_⟩
  have fin : ∀ {w'}, Adv [b2] [] w4 w' → callE op n o ≠ 0 → (Mod [b0] w w' ∧ if callE op n o = 0 then ∃ s' : Sl, Value.tuple #[mail0.v nilS nilS nilS, .int .i64 (callE op n o)] = .tuple #[(askM cl (v % rp) ⟨cl, n + 1, op⟩).v s' nilS nilS, .int .i64 0] ∧ MailOwn w' 0 (askM cl (v % rp) ⟨cl, n + 1, op⟩) s' nilS nilS ∧ RSes w' b0 cl rp (n + 1) v (some ⟨cl, n + 1, op⟩)
      else Value.tuple #[mail0.v nilS nilS nilS, .int .i64 (callE op n o)] = .tuple #[mail0.v nilS nilS nilS, .int .i64 (callE op n o)] ∧ RSes w' b0 cl rp n v o) := fun {w'} A hne => by
    have N := N4.go0 A.mod (by simpa using f2)
    rw [if_neg hne]
    exact ⟨M1 N, rfl, h.keep0 N⟩
  refine brB_of (fun g => ?_) fun g => ?_
  · have g : opE op ≠ 0 := by simpa using g
    have e : callE op n o = opE op := by rw [callE, if_pos g]
    intro w6 A6 _
    rw [← e]
    exact fin A6 (by rw [e]; exact g)
  have g : opE op = 0 := by simpa using g
  refine brB_of (fun g2 => ?_) fun g2 => ?_
  · have e : callE op n o = 220 := by rw [callE, if_neg (by simpa using g), if_pos g2]
    intro w6 A6 _
    rw [← e]
    exact fin A6 (by rw [e]; decide)
  have ho : o = none := by simpa using g2
  subst ho
  refine brB_of (fun g3 => ?_) fun g3 => ?_
  · have g3 : n = 1099511627776 := by simpa using g3
    have e : callE op n none = 2 := by rw [callE, if_neg (by simpa using g), if_neg (by decide), if_pos (by omega)]
    intro w6 A6 _
    rw [← e]
    exact fin A6 (by rw [e]; decide)
  have g3 : ¬ n = 1099511627776 := by simpa using g3
  have hce : callE op n none = 0 := by rw [callE, if_neg (by simpa using g), if_neg (by decide), if_neg (by omega)]
  have hw1 : IntKind.wrap .i64 (n + 1) = n + 1 := wrap_id (by omega) (by omega)
  rw [hw1]
  intro w9 A9
  have s9 := A9.mod.size
  have N9 : Mod [b0] w w9 := (N4.trans A9.mod).less (by simp)
  refine (PrimaryR_ok hv hrp w9).mono ?_
  rintro e w10 ⟨rfl, rfl⟩
  refine ⟨_, rfl, Keep.of0 (Mod.refl _), ?_⟩
  intro w12 A12 h12
  have s12 := A12.mod.size
  have N12 : Mod [b0] w w12 := (N9.trans A12.mod).less (by simp)
  have hO12 : OpOwn w12 0 op rs ts := hop.keep N12 fun k hk cs T hT => by
    simp at hk; subst hk
    rw [h1] at hT; cases hT; decide
  refine (Rmail_ok (bz := true) (q := ⟨⟨cl, n + 1, op⟩, rs, ts⟩) h12 (v % rp)).mono ?_
  rintro e w13 ⟨_, rfl, b3, rfl, f3, c3, M13⟩
  have s13 := M13.size
  refine ⟨_, _, _, _, _, _, _, _, _, _, _, _, _, _, _, _, _, _, _, _, _, _, _, rfl, Keep.of0 M13, _, _, _, _, _, _, _, _, _, _, _, _, _, _, _, _, _, _, _, _, _, _, _, _, _, M13.keep0 h12, ?_⟩
  intro w62 A62 h62
  have N62 : Mod [b0] w w62 := ((N12.trans M13).trans A62.mod).less fun i hi hl => by
    simp at hi ⊢; omega
  refine ⟨N62, ?_⟩
  rw [if_pos hce]
  have hO62 : OpOwn w62 0 op rs ts := hop.keep N62 fun k hk cs T hT => by
    simp at hk; subst hk
    rw [h1] at hT; cases hT; decide
  exact ⟨_, rfl, Rmail_own (q := ⟨⟨cl, n + 1, op⟩, rs, ts⟩) (A62.mod.keep c3 (by simp; omega)) hO62, ⟨⟨⟨cl, n + 1, op⟩, rs, ts⟩, h62, fun c hc => by cases hc; exact ⟨rfl, hO62⟩⟩⟩

theorem RRetry_ok {w : World} {b0 : Nat} {cl rp n v : Int} {o : Option PCall} (hrp : mayB rp = true) (h : RSes w b0 cl rp n v o) :
    Calls Tryz.prog 20 #[.pointer (some ⟨b0, 0, none⟩)] w fun e w' => ∃ u, e = .returned u ∧ ∃ s : Sl, u = .slice s.a s.n s.c ∧ MailsOwn w' 0 s (retryL cl rp o) ∧ Mod [] w w' := by
  have hb : 1 ≤ rp ∧ rp ≤ 7 := by simpa [mayB] using hrp
  obtain ⟨q, h1, h2⟩ := h.obj
  refine ref22_Session_Retry_go h1 ?_
  refine al_of fun b1 w2 c2 M2 f2 => ?_
  intro w3 A3 h3
  have s2 := M2.size
  have s3 := A3.mod.size
  have N3 : Mod [] w w3 := M2.go0 A3.mod (by simp)
  cases o with
  | none =>
    refine ref22_Session_Retry_rule1 (fun mm a n' c x k0 k1 k2 k3 t4 k5 k6 k7 k8 k9 k10 k11 k12 k13 k14 k15 k16 k17 k18 k19 k20 t21 k22 k23 k24 w' => a = some ⟨b1, 0, none⟩ ∧ n' = 0 ∧ c = 0 ∧ t4 = false ∧ w' = w3) 0 ⟨rfl, rfl, rfl, rfl, rfl⟩ ?_
    rintro mm a n' c x k0 k1 k2 k3 t4 k5 k6 k7 k8 k9 k10 k11 k12 k13 k14 k15 k16 k17 k18 k19 k20 t21 k22 k23 k24 w' ⟨rfl, rfl, rfl, rfl, rfl⟩ _
    have fin : ∃ s : Sl, Value.slice (some ⟨b1, 0, none⟩) 0 0 = .slice s.a s.n s.c ∧ MailsOwn w' 0 s (retryL cl rp none) ∧ Mod [] w w' := ⟨⟨some ⟨b1, 0, none⟩, 0, 0⟩, rfl, ⟨[], Row.fresh (A3.mod.keep0 c2) (by omega), by simp, rfl⟩, N3⟩
    exact brB_of (fun _ => brB_of (fun g => by cases g) fun _ => fin) fun _ => fin
  | some c =>
    obtain ⟨hx, hO⟩ := h2 c rfl
    subst hx
    refine ref22_Session_Retry_rule1 (fun mm a n' c' x k0 k1 k2 k3 t4 k5 k6 k7 k8 k9 k10 k11 k12 k13 k14 k15 k16 k17 k18 k19 k20 t21 k22 k23 k24 w' => rp = k1 ∧ t4 = true ∧ w'.heap[b0]? = some (.cells (RCs cl rp n v true q).toArray RsT) ∧ ∃ (k : Nat) (l : List MV), x = k ∧ k ≤ rp.toNat ∧ Row w' w.heap.size 45 17 MV.cs a n' c' l ∧ (∀ y ∈ l, MailOwn w' 0 y.m y.s y.f y.p) ∧ l.map (·.m) = (asksL cl rp q.x).take k ∧ Mod [] w w' ∧ mm = rp.toNat - k) rp.toNat
      ⟨rfl, rfl, h3, 0, [], rfl, by omega, Row.fresh (A3.mod.keep0 c2) f2, by simp, by simp, N3, rfl⟩ ?_
    rintro mm a n' c' x k0 k1 k2 k3 t4 k5 k6 k7 k8 k9 k10 k11 k12 k13 k14 k15 k16 k17 k18 k19 k20 t21 k22 k23 k24 w4 ⟨rfl, rfl, h4, k, l, rfl, hk, hRow, hOw, hm, N4, rfl⟩ h4'
    have hlk : l.length = k := by have := congrArg List.length hm; simp [asksL] at this; omega
    refine brB_dec (fun hlt => ?_) fun hge => ?_
    · refine brB_of (fun _ => ?_) fun g => by cases g
      refine (Rmail_ok h4 (k : Nat)).mono ?_
      rintro e w5 ⟨_, rfl, b3, rfl, f3, c3, M5⟩
      refine ⟨_, _, _, _, _, _, _, _, _, _, _, _, _, _, _, _, _, _, _, _, _, _, _, rfl, _, _, _, _, _, _, _, _, _, _, _, _, _, _, _, _, _, _, _, _, _, _, _, _, _, M5.keep0 h4, ?_⟩
      have s4 := N4.size
      have s5 := M5.size
      refine al_of fun b52 w53 c53 M53 f53 => ?_
      have s53 := M53.size
      have K53 : Mod [] w4 w53 := M5.go0 M53 (by simp)
      obtain ⟨i0, hi, hz0, hz1, hz2⟩ := info_parts infoMail
      have hxk : (askM cl (k : Nat) q.x).v ⟨some ⟨b3, 0, none⟩, 1, 1⟩ nilS nilS = (⟨askM cl (k : Nat) q.x, ⟨some ⟨b3, 0, none⟩, 1, 1⟩, nilS, nilS⟩ : MV).v := rfl
      refine append_of (x := (⟨askM cl (k : Nat) q.x, ⟨some ⟨b3, 0, none⟩, 1, 1⟩, nilS, nilS⟩ : MV)) (hRow.keep0 K53) Tryz.underlying53 hi hz0 hz1 hz2 rfl (by decide) c53 rfl (MV.cs_one _) (by omega) (by unfold maxLen; omega) (by omega) fun a' c' w6 hR6 hM6 => ?_
      have M6 := hM6 _ (rowS_ok a)
      have hrow := rowS_block hRow
      refine ⟨Keep.of M6 fun b hb _ hb' => ?_, ?_⟩
      · have := hrow b hb'; have := h.lt; simp at hb; omega
      have kp : ∀ {y : MV}, MailOwn w53 0 y.m y.s y.f y.p → MailOwn w6 0 y.m y.s y.f y.p := fun hh => hh.keepT M6 fun k hk cs T hc => by
        obtain ⟨_, _, cur, hcur⟩ := hrow k hk
        rw [K53.keep0 hcur] at hc; cases hc; decide
      have N6 : Mod [] w w6 := (N4.go0 K53 (by simp)).go0 M6 fun i hi => (hrow i hi).1
      have N53 : Mod [] w w53 := N4.go0 K53 (by simp)
      have hat : (asksL cl rp q.x)[k]? = some (askM cl (k : Nat) q.x) := by
        simp only [asksL, List.getElem?_map]
        rw [List.getElem?_range (by omega)]; rfl
      refine ref22_Session_Retry_leaf1 (rp.toNat - (k + 1)) (by omega) ⟨rfl, rfl, N6.keep0 h1, k + 1, _, by rw [wrap_id (by omega) (by omega)]; omega, by omega, hR6, fun y hy => ?_, by rw [List.map_append, hm, List.take_add_one, hat]; rfl, N6, rfl⟩
      rcases List.mem_append.1 hy with hy | hy
      · exact kp ((hOw y hy).keep0 K53)
      · simp at hy; subst hy
        exact kp (Rmail_own (M53.keep0 c3) (hO.keep0 N53))
    · have hk : k = rp.toNat := by omega
      subst hk
      refine ⟨⟨a, n', c'⟩, rfl, ⟨l, hRow.rebase (by omega), hOw, ?_⟩, N4⟩
      rw [hm, List.take_of_length_le (by simp [asksL])]; rfl

theorem RHear_ok {w : World} {b0 : Nat} {cl rp n v : Int} {o : Option PCall} {m : PMail} {s f p : Sl} (h : RSes w b0 cl rp n v o) (hcn : ∀ c, o = some c → c.n = n)
    (hM : MailAt w m s f p) (hlc : m.calls.length ≤ 100000) :
    Calls Tryz.prog 22 #[.pointer (some ⟨b0, 0, none⟩), m.v s f p] w fun e w' => ∃ u, e = .returned u ∧ Mod [b0] w w' ∧
      (if heardB (mailE m) m cl o = true then u = .tuple #[m.r.v f p, .bool true] ∧ RSes w' b0 cl rp n (if m.view > v then m.view else v) none
      else u = .tuple #[rep00.v nilS nilS, .bool false] ∧ RSes w' b0 cl rp n v o) := by
  have hlt := h.lt
  obtain ⟨q, h1, h2⟩ := h.obj
  refine ref22_Session_Hear_go h1 ?_
  intro b1 f1 b2 f2 w3 A3
  have l2 := A3.lt b2 (by simp)
  have s3 := A3.mod.size
  have M1 : ∀ {w'}, Mod [] w w' → Mod [b0] w w' := fun M => M.less (by simp)
  refine (R18Check_ok (hM.keep0 A3.mod) hlc).mono ?_
  rintro e w4 ⟨rfl, M4⟩
  have N4 := A3.mod.go0 M4 (by simp)
  have s4 := M4.size
  refine ⟨_, rfl, Keep.of0 M4, ?_⟩
  have fin : ∀ {w'}, Adv [b2] [] w4 w' → heardB (mailE m) m cl o = false → (Mod [b0] w w' ∧ (if heardB (mailE m) m cl o = true then Value.tuple #[rep00.v nilS nilS, .bool false] = .tuple #[m.r.v f p, .bool true] ∧ RSes w' b0 cl rp n (if m.view > v then m.view else v) none
      else Value.tuple #[rep00.v nilS nilS, .bool false] = .tuple #[rep00.v nilS nilS, .bool false] ∧ RSes w' b0 cl rp n v o)) := fun {w'} A hne => by
    have N := N4.go0 A.mod (by simpa using f2)
    refine ⟨M1 N, ?_⟩
    rw [if_neg (by rw [hne]; decide)]
    exact ⟨rfl, h.keep0 N⟩
  have hno : (¬ (mailE m = 0 ∧ m.kind = 1 ∧ m.to = cl)) → heardB (mailE m) m cl o = false := fun hn => by
    unfold heardB
    split
    · rfl
    · exact decide_eq_false fun ⟨a, b, c, _⟩ => hn ⟨a, b, c⟩
  refine brB_of (fun g => fun w6 A6 _ => fin A6 (hno fun ⟨a, _, _⟩ => by simp [a] at g)) fun g1 => ?_
  have g1 : mailE m = 0 := by simpa using g1
  refine brB_of (fun g => fun w6 A6 _ => fin A6 (hno fun ⟨_, a, _⟩ => by simp [a] at g)) fun g2 => ?_
  have g2 : m.kind = 1 := by simpa using g2
  refine brB_of (fun g => fun w6 A6 _ => fin A6 (hno fun ⟨_, _, a⟩ => by simp [a] at g)) fun g3 => ?_
  have g3 : m.to = cl := by simpa using g3
  cases o with
  | none => exact brB_of (fun _ => fun w6 A6 _ => fin A6 rfl) fun g => by cases g
  | some c =>
    have hc := hcn c rfl
    refine brB_of (fun g => by cases g) fun _ => ?_
    refine brB_of (fun g => fun w6 A6 _ => fin A6 ?_) fun g4 => ?_
    · have g : m.n ≠ n := by simpa using g
      exact decide_eq_false fun ⟨_, _, _, a⟩ => g (a.trans hc)
    have g4 : m.n = n := by simpa using g4
    have hh : heardB (mailE m) m cl (some c) = true := decide_eq_true ⟨g1, g2, g3, g4.trans hc.symm⟩
    intro w11 A11 h11
    refine ⟨(N4.trans A11.mod).less fun i hi hl => by simp at hi ⊢; omega, ?_⟩
    rw [if_pos hh]
    exact ⟨rfl, ⟨q, h11, fun c hc => by cases hc⟩⟩

theorem RWaits_ok {w : World} {b0 : Nat} {cl rp n v : Int} {o : Option PCall} (h : RSes w b0 cl rp n v o) :
    Calls Tryz.prog 27 #[.pointer (some ⟨b0, 0, none⟩)] w fun e w' => ∃ u, e = .returned u ∧ (match o with
      | none => u = .tuple #[cv0.v, .bool false]
      | some c => ∃ rs ts : Sl, u = .tuple #[(⟨c, rs, ts⟩ : CV).v, .bool true] ∧ OpOwn w' 0 c.op rs ts) ∧ Mod [] w w' := by
  obtain ⟨q, h1, h2⟩ := h.obj
  refine ref22_Session_Waits_go h1 ?_
  intro b1 f1
  cases o with
  | none => exact brB_of (fun g => by cases g) fun _ => fun w2 A2 _ => ⟨rfl, A2.mod⟩
  | some c =>
    obtain ⟨hx, hO⟩ := h2 c rfl
    subst hx
    exact brB_of (fun _ => fun w2 A2 _ => ⟨⟨q.rs, q.ts, rfl, hO.keep0 A2.mod⟩, A2.mod⟩) fun g => by cases g

/-! ### a copy -/
theorem SCopy_ok {w : World} {b0 : Nat} {cl rp n v : Int} {o : Option PCall} (h : Ses w b0 cl rp n v o) :
    Calls Tryz.prog 24 #[.pointer (some ⟨b0, 0, none⟩)] w fun e w' => ∃ u, e = .returned u ∧ ∃ b1, u = .pointer (some ⟨b1, 0, none⟩) ∧ w.heap.size ≤ b1 ∧ Ses w' b1 cl rp n v o ∧ Mod [] w w' := by
  obtain ⟨p, h1, h2⟩ := h.obj
  refine session_Session_Copy_go h1 ?_
  intro b1 f1
  cases o with
  | none =>
    have h2 : p = none := h2
    subst h2
    exact brB_of (fun g => by cases g) fun _ => fun w2 A2 _ hc => ⟨b1, rfl, f1, ⟨none, hc, rfl⟩, A2.mod⟩
  | some c =>
    obtain ⟨b9, rs, ts, rfl, h4, h5, h6⟩ := h2
    refine brB_of (fun _ => ckPtr_of ?_) fun g => by cases g
    intro w3 A3
    have l1 := A3.lt b1 (by simp)
    have s3 := A3.mod.size
    refine ldCV_of (q := ⟨c, rs, ts⟩) (cv_cell (A3.mod.keep0 h5)) ?_
    refine (SOwn_ok (q := ⟨c, rs, ts⟩) (h6.at.keep0 A3.mod)).mono ?_
    rintro e w4 ⟨_, rfl, rs', ts', rfl, hO, M4⟩
    have s4 := M4.size
    refine ⟨_, _, _, _, _, _, _, _, _, _, _, _, _, _, _, _, _, _, _, _, rfl, Keep.of0 M4, ?_⟩
    intro b5 f5 w6 A6 _ hc1 hc5
    exact ⟨b1, rfl, f1, ⟨_, hc1, b5, rs', ts', rfl, by omega, hc5, OpOwn.rebase (OpOwn.keepB hO A6.mod (by simp; omega)) (by omega)⟩, (A3.mod.go0 M4 (by simp)).go0 A6.mod (by simpa using f1)⟩
end Go.Proofs.YtohgihgddknmmaaGreat

/- The conditions of Go functions' bodies, printed by gen2.py. -/
namespace Go.Proofs.YtohgihgddknmmaaGreat
open Go Go.RowKit
set_option linter.unusedVariables false
set_option maxRecDepth 100000

def law04_CutReply_la1 : LA := ⟨[0, 0, 1, 0, 1, 1, 1, 1], [1, 2, 3, 4], [(1, 0, 0), (2, 1, 0), (3, 2, 0)], 3, []⟩
def law04_CutReply_la2 : LA := ⟨[0, 0, 1, 0, 1, 1, 1, 1, 1], [1, 2, 3, 6], [(1, 0, 0), (2, 1, 0), (3, 2, 0)], 3, []⟩
def law04_CutReply_an : List LA := [law04_CutReply_la1, law04_CutReply_la2]
def law04_CutReply_v1 (bm0 bm1 bm2 : Nat) (a0 : Int) : List Value := [(.pointer (some ⟨bm0, 0, none⟩)), (.pointer (some ⟨bm1, 0, none⟩)), (.pointer (some ⟨bm2, 0, none⟩)), .int .i64 a0]
def law04_CutReply_m1 (bm0 : Nat) (a9 b0 b1 b2 : Int) (a0 : Option Addr) (a6 a3 : Nat) (a1 : Option Addr) (a7 a4 bm1 bm2 : Nat) (b3 b4 b5 b6 : Int) (a2 : Option Addr) (a8 a5 : Nat) : List TB := [⟨bm0, 43, [.int .i64 a9, .int .i64 b0, .int .i64 b1, .int .i64 b2, .slice a0 a6 a3, .slice a1 a7 a4], false⟩, ⟨bm1, 43, [.int .i64 0, .int .i64 0, .int .i64 0, .int .i64 0, .slice none 0 0, .slice none 0 0], false⟩, ⟨bm2, 43, [.int .i64 b3, .int .i64 b4, .int .i64 b5, .int .i64 b6, .slice a2 a8 a5, .slice none 0 0], false⟩]
def law04_CutReply_v2 (bm0 bm1 bm2 : Nat) (a0 : Int) : List Value := [(.pointer (some ⟨bm0, 0, none⟩)), (.pointer (some ⟨bm1, 0, none⟩)), (.pointer (some ⟨bm2, 0, none⟩)), .int .i64 a0]
def law04_CutReply_m2 (bm0 : Nat) (b2 b3 b4 b5 : Int) (a0 : Option Addr) (a8 a4 : Nat) (a1 : Option Addr) (a9 a5 bm1 bm2 : Nat) (b6 b7 b8 b9 : Int) (a2 : Option Addr) (b0 a6 : Nat) (a3 : Option Addr) (b1 a7 : Nat) : List TB := [⟨bm0, 43, [.int .i64 b2, .int .i64 b3, .int .i64 b4, .int .i64 b5, .slice a0 a8 a4, .slice a1 a9 a5], false⟩, ⟨bm1, 43, [.int .i64 0, .int .i64 0, .int .i64 0, .int .i64 0, .slice none 0 0, .slice none 0 0], false⟩, ⟨bm2, 43, [.int .i64 b6, .int .i64 b7, .int .i64 b8, .int .i64 b9, .slice a2 b0 a6, .slice a3 b1 a7], false⟩]
def law04_CutReply_L1 (bm0 : Nat) (a9 b0 b1 b2 : Int) (a1 : Option Addr) (a0 a4 : Nat) (a2 : Option Addr) (a7 a5 bm1 bm2 : Nat) (b3 b4 b5 b6 b7 : Int) (a3 : Option Addr) (a8 a6 : Nat) (K1 : Kh) (R : Value → World → Prop) (w : World) : Prop :=
 brB (decide (b7 < (a0 : Int))) (
 brB (decide (b7 < 70)) (
 ixA a1 a0 b7 5 fun q4 =>
 ldInt .i64 w q4 fun x5 => ldBool w (Addr.add q4 1) fun t6 => ldStr w (Addr.add q4 2) fun s7 => ldBool w (Addr.add q4 3) fun t8 => ldStr w (Addr.add q4 4) fun s9 =>
 ∀ b10, w.heap.size ≤ b10 →
 slS s7 0 (if 80 < (s7.size : Int) then 80 else (s7.size : Int)) fun s11 =>
 slS s9 0 (if 600 < (s9.size : Int) then 600 else (s9.size : Int)) fun s12 =>
 ∀ w13, Adv [] [b10] w w13 →
 al w13 (.cells #[.int .i64 x5, .bool t6, .string s11, .bool t8, .string s12] 152) fun b14 w15 =>
 effSl Tryz.prog (Builtin.append_ #[40, 40] 40 #[.slice a3 a8 a6, (.slice (some ⟨b14, 0, none⟩) 1 1)]) w15 fun a17 n18 c19 w16 => Keep [bm0, bm1, bm2, b10] w15 w16 ∧
 ∀ w20, Adv [bm2] [] w16 w20 →
 K1 (law04_CutReply_v1 bm0 bm1 bm2 (IntKind.wrap .i64 (b7 + 1))) (law04_CutReply_m1 bm0 a9 b0 b1 b2 a1 a0 a4 a2 a7 a5 bm1 bm2 b3 b4 b5 b6 a17 n18 c19) w20)
 (
 loopD3 law04_CutReply_la2 (dnF Tryz.prog law04_CutReply_an (code Tryz.f58) 393 [0, 0, 1, 0, 1, 1, 1, 1, 1]) (kont3 Tryz.prog law04_CutReply_an (code Tryz.f58) [1, 1, 1, 1, 1, 0, 1, 0] [] (post3 Tryz.prog Tryz.f58 [] R)) (law04_CutReply_v2 bm0 bm1 bm2 0) (law04_CutReply_m2 bm0 a9 b0 b1 b2 a1 a0 a4 a2 a7 a5 bm1 bm2 b3 b4 b5 b6 a3 a8 a6 none 0 0) w))
 (
 loopD3 law04_CutReply_la2 (dnF Tryz.prog law04_CutReply_an (code Tryz.f58) 393 [0, 0, 1, 0, 1, 1, 1, 1, 1]) (kont3 Tryz.prog law04_CutReply_an (code Tryz.f58) [1, 1, 1, 1, 1, 0, 1, 0] [] (post3 Tryz.prog Tryz.f58 [] R)) (law04_CutReply_v2 bm0 bm1 bm2 0) (law04_CutReply_m2 bm0 a9 b0 b1 b2 a1 a0 a4 a2 a7 a5 bm1 bm2 b3 b4 b5 b6 a3 a8 a6 none 0 0) w)
theorem law04_CutReply_L1_eq (bm0 : Nat) (a9 b0 b1 b2 : Int) (a0 : Option Addr) (a6 a3 : Nat) (a1 : Option Addr) (a7 a4 bm1 bm2 : Nat) (b3 b4 b5 b6 b7 : Int) (a2 : Option Addr) (a8 a5 : Nat) (K1 : Kh) (js : Nat → Value) (R : Value → World → Prop) (w : World) :
 headA law04_CutReply_la1 ((dnF Tryz.prog law04_CutReply_an (code Tryz.f58) 394 [0, 0, 1, 0, 1, 1, 1, 1]) (kthen3 (atA law04_CutReply_la1 K1) (kont3 Tryz.prog law04_CutReply_an (code Tryz.f58) [1, 1, 1, 1, 0, 1, 0] [] (post3 Tryz.prog Tryz.f58 [] R)))) (law04_CutReply_v1 bm0 bm1 bm2 b7) js (law04_CutReply_m1 bm0 a9 b0 b1 b2 a0 a6 a3 a1 a7 a4 bm1 bm2 b3 b4 b5 b6 a2 a8 a5) w = law04_CutReply_L1 bm0 a9 b0 b1 b2 a0 a6 a3 a1 a7 a4 bm1 bm2 b3 b4 b5 b6 b7 a2 a8 a5 K1 R w := by kernel_rfl
def law04_CutReply_K1 (bm0 : Nat) (a9 b0 b1 b2 : Int) (a3 : Option Addr) (a7 a5 : Nat) (a4 : Option Addr) (a8 a6 bm1 bm2 : Nat) (b3 b4 b5 b6 : Int) (I : Nat → Int → Option Addr → Nat → Nat → World → Prop) (m : Nat) (vals : List Value) (mem : List TB) (w : World) : Prop := ∃ m', m' < m ∧ ∃ b7 a0 a2 a1, vals = (law04_CutReply_v1 bm0 bm1 bm2 b7) ∧ mem = (law04_CutReply_m1 bm0 a9 b0 b1 b2 a3 a7 a5 a4 a8 a6 bm1 bm2 b3 b4 b5 b6 a0 a2 a1) ∧ I m' b7 a0 a2 a1 w
theorem law04_CutReply_leaf1 {bm0 : Nat} {a9 b0 b1 b2 : Int} {a0 : Option Addr} {a6 a3 : Nat} {a1 : Option Addr} {a7 a4 bm1 bm2 : Nat} {b3 b4 b5 b6 : Int} {I : Nat → Int → Option Addr → Nat → Nat → World → Prop} {m : Nat} {b7 : Int} {a2 : Option Addr} {a8 a5 : Nat} {w : World} (m' : Nat) (h1 : m' < m) (h2 : I m' b7 a2 a8 a5 w) : law04_CutReply_K1 bm0 a9 b0 b1 b2 a0 a6 a3 a1 a7 a4 bm1 bm2 b3 b4 b5 b6 I m (law04_CutReply_v1 bm0 bm1 bm2 b7) (law04_CutReply_m1 bm0 a9 b0 b1 b2 a0 a6 a3 a1 a7 a4 bm1 bm2 b3 b4 b5 b6 a2 a8 a5) w := ⟨m', h1, _, _, _, _, rfl, rfl, h2⟩
theorem law04_CutReply_rule1 {bm0 : Nat} {a9 b0 b1 b2 : Int} {a3 : Option Addr} {a7 a5 : Nat} {a4 : Option Addr} {a8 a6 bm1 bm2 : Nat} {b3 b4 b5 b6 c1 : Int} {b8 : Option Addr} {c0 b9 : Nat} {R : Value → World → Prop} {w0 : World} (I : Nat → Int → Option Addr → Nat → Nat → World → Prop) (m0 : Nat) (h0 : I m0 c1 b8 c0 b9 w0)
 (hr : ∀ (m : Nat) (b7 : Int) (a0 : Option Addr) (a2 a1 : Nat) (w : World), I m b7 a0 a2 a1 w → law04_CutReply_L1 bm0 a9 b0 b1 b2 a3 a7 a5 a4 a8 a6 bm1 bm2 b3 b4 b5 b6 b7 a0 a2 a1 (law04_CutReply_K1 bm0 a9 b0 b1 b2 a3 a7 a5 a4 a8 a6 bm1 bm2 b3 b4 b5 b6 I m) R w) :
 loopD3 law04_CutReply_la1 (dnF Tryz.prog law04_CutReply_an (code Tryz.f58) 394 [0, 0, 1, 0, 1, 1, 1, 1]) (kont3 Tryz.prog law04_CutReply_an (code Tryz.f58) [1, 1, 1, 1, 0, 1, 0] [] (post3 Tryz.prog Tryz.f58 [] R)) (law04_CutReply_v1 bm0 bm1 bm2 c1) (law04_CutReply_m1 bm0 a9 b0 b1 b2 a3 a7 a5 a4 a8 a6 bm1 bm2 b3 b4 b5 b6 b8 c0 b9) w0 := by
 refine ⟨fun m vals mem w => ∃ b7 a0 a2 a1, vals = (law04_CutReply_v1 bm0 bm1 bm2 b7) ∧ mem = (law04_CutReply_m1 bm0 a9 b0 b1 b2 a3 a7 a5 a4 a8 a6 bm1 bm2 b3 b4 b5 b6 a0 a2 a1) ∧ I m b7 a0 a2 a1 w, m0, ⟨_, _, _, _, rfl, rfl, h0⟩, ?_⟩
 rintro m vals mem w ⟨b7, a0, a2, a1, rfl, rfl, hI⟩
 refine ⟨rfl, rfl, fun js => ?_⟩
 have h := hr m b7 a0 a2 a1 w hI
 rw [← law04_CutReply_L1_eq _ _ _ _ _ _ _ _ _ _ _ _ _ _ _ _ _ _ _ _ _ _ js] at h
 exact h
def law04_CutReply_L2 (bm0 : Nat) (b7 b8 b9 c0 : Int) (b3 : Option Addr) (b6 b4 : Nat) (b1 : Option Addr) (a4 b5 bm1 bm2 : Nat) (a7 a8 a9 b0 : Int) (a0 : Option Addr) (a5 a2 : Nat) (b2 : Int) (a1 : Option Addr) (a6 a3 : Nat) (K2 : Kh) (R : Value → World → Prop) (w : World) : Prop :=
 brB (decide (b2 < (a4 : Int))) (
 brB (decide (b2 < 70)) (
 ixA b1 a4 b2 2 fun q21 =>
 ldStr w q21 fun s22 => ldInt .i64 w (Addr.add q21 1) fun x23 =>
 ∀ b24, w.heap.size ≤ b24 →
 slS s22 0 (if 40 < (s22.size : Int) then 40 else (s22.size : Int)) fun s25 =>
 ∀ w26, Adv [] [b24] w w26 →
 al w26 (.cells #[.string s25, .int .i64 x23] 32) fun b27 w28 =>
 effSl Tryz.prog (Builtin.append_ #[41, 41] 41 #[.slice a1 a6 a3, (.slice (some ⟨b27, 0, none⟩) 1 1)]) w28 fun a30 n31 c32 w29 => Keep [bm0, bm1, bm2, b24] w28 w29 ∧
 ∀ w33, Adv [bm2] [] w29 w33 →
 K2 (law04_CutReply_v2 bm0 bm1 bm2 (IntKind.wrap .i64 (b2 + 1))) (law04_CutReply_m2 bm0 b7 b8 b9 c0 b3 b6 b4 b1 a4 b5 bm1 bm2 a7 a8 a9 b0 a0 a5 a2 a30 n31 c32) w33)
 (
 ∀ w34, Adv [bm1] [] w w34 →
 R (.agg #[.int .i64 a7, .int .i64 a8, .int .i64 a9, .int .i64 b0, .slice a0 a5 a2, .slice a1 a6 a3]) w34))
 (
 ∀ w35, Adv [bm1] [] w w35 →
 R (.agg #[.int .i64 a7, .int .i64 a8, .int .i64 a9, .int .i64 b0, .slice a0 a5 a2, .slice a1 a6 a3]) w35)
theorem law04_CutReply_L2_eq (bm0 : Nat) (b2 b3 b4 b5 : Int) (a0 : Option Addr) (a8 a4 : Nat) (a1 : Option Addr) (a9 a5 bm1 bm2 : Nat) (b6 b7 b8 b9 : Int) (a2 : Option Addr) (b0 a6 : Nat) (c0 : Int) (a3 : Option Addr) (b1 a7 : Nat) (K2 : Kh) (js : Nat → Value) (R : Value → World → Prop) (w : World) :
 headA law04_CutReply_la2 ((dnF Tryz.prog law04_CutReply_an (code Tryz.f58) 393 [0, 0, 1, 0, 1, 1, 1, 1, 1]) (kthen3 (atA law04_CutReply_la2 K2) (kont3 Tryz.prog law04_CutReply_an (code Tryz.f58) [1, 1, 1, 1, 1, 0, 1, 0] [] (post3 Tryz.prog Tryz.f58 [] R)))) (law04_CutReply_v2 bm0 bm1 bm2 c0) js (law04_CutReply_m2 bm0 b2 b3 b4 b5 a0 a8 a4 a1 a9 a5 bm1 bm2 b6 b7 b8 b9 a2 b0 a6 a3 b1 a7) w = law04_CutReply_L2 bm0 b2 b3 b4 b5 a0 a8 a4 a1 a9 a5 bm1 bm2 b6 b7 b8 b9 a2 b0 a6 c0 a3 b1 a7 K2 R w := by kernel_rfl
def law04_CutReply_K2 (bm0 : Nat) (b2 b3 b4 b5 : Int) (a3 : Option Addr) (a9 a6 : Nat) (a4 : Option Addr) (b0 a7 bm1 bm2 : Nat) (b6 b7 b8 b9 : Int) (a5 : Option Addr) (b1 a8 : Nat) (I : Nat → Int → Option Addr → Nat → Nat → World → Prop) (m : Nat) (vals : List Value) (mem : List TB) (w : World) : Prop := ∃ m', m' < m ∧ ∃ c0 a0 a2 a1, vals = (law04_CutReply_v2 bm0 bm1 bm2 c0) ∧ mem = (law04_CutReply_m2 bm0 b2 b3 b4 b5 a3 a9 a6 a4 b0 a7 bm1 bm2 b6 b7 b8 b9 a5 b1 a8 a0 a2 a1) ∧ I m' c0 a0 a2 a1 w
theorem law04_CutReply_leaf2 {bm0 : Nat} {b2 b3 b4 b5 : Int} {a0 : Option Addr} {a8 a4 : Nat} {a1 : Option Addr} {a9 a5 bm1 bm2 : Nat} {b6 b7 b8 b9 : Int} {a2 : Option Addr} {b0 a6 : Nat} {I : Nat → Int → Option Addr → Nat → Nat → World → Prop} {m : Nat} {c0 : Int} {a3 : Option Addr} {b1 a7 : Nat} {w : World} (m' : Nat) (h1 : m' < m) (h2 : I m' c0 a3 b1 a7 w) : law04_CutReply_K2 bm0 b2 b3 b4 b5 a0 a8 a4 a1 a9 a5 bm1 bm2 b6 b7 b8 b9 a2 b0 a6 I m (law04_CutReply_v2 bm0 bm1 bm2 c0) (law04_CutReply_m2 bm0 b2 b3 b4 b5 a0 a8 a4 a1 a9 a5 bm1 bm2 b6 b7 b8 b9 a2 b0 a6 a3 b1 a7) w := ⟨m', h1, _, _, _, _, rfl, rfl, h2⟩
theorem law04_CutReply_rule2 {bm0 : Nat} {b2 b3 b4 b5 : Int} {a3 : Option Addr} {a9 a6 : Nat} {a4 : Option Addr} {b0 a7 bm1 bm2 : Nat} {b6 b7 b8 b9 : Int} {a5 : Option Addr} {b1 a8 : Nat} {c4 : Int} {c1 : Option Addr} {c3 c2 : Nat} {R : Value → World → Prop} {w0 : World} (I : Nat → Int → Option Addr → Nat → Nat → World → Prop) (m0 : Nat) (h0 : I m0 c4 c1 c3 c2 w0)
 (hr : ∀ (m : Nat) (c0 : Int) (a0 : Option Addr) (a2 a1 : Nat) (w : World), I m c0 a0 a2 a1 w → law04_CutReply_L2 bm0 b2 b3 b4 b5 a3 a9 a6 a4 b0 a7 bm1 bm2 b6 b7 b8 b9 a5 b1 a8 c0 a0 a2 a1 (law04_CutReply_K2 bm0 b2 b3 b4 b5 a3 a9 a6 a4 b0 a7 bm1 bm2 b6 b7 b8 b9 a5 b1 a8 I m) R w) :
 loopD3 law04_CutReply_la2 (dnF Tryz.prog law04_CutReply_an (code Tryz.f58) 393 [0, 0, 1, 0, 1, 1, 1, 1, 1]) (kont3 Tryz.prog law04_CutReply_an (code Tryz.f58) [1, 1, 1, 1, 1, 0, 1, 0] [] (post3 Tryz.prog Tryz.f58 [] R)) (law04_CutReply_v2 bm0 bm1 bm2 c4) (law04_CutReply_m2 bm0 b2 b3 b4 b5 a3 a9 a6 a4 b0 a7 bm1 bm2 b6 b7 b8 b9 a5 b1 a8 c1 c3 c2) w0 := by
 refine ⟨fun m vals mem w => ∃ c0 a0 a2 a1, vals = (law04_CutReply_v2 bm0 bm1 bm2 c0) ∧ mem = (law04_CutReply_m2 bm0 b2 b3 b4 b5 a3 a9 a6 a4 b0 a7 bm1 bm2 b6 b7 b8 b9 a5 b1 a8 a0 a2 a1) ∧ I m c0 a0 a2 a1 w, m0, ⟨_, _, _, _, rfl, rfl, h0⟩, ?_⟩
 rintro m vals mem w ⟨c0, a0, a2, a1, rfl, rfl, hI⟩
 refine ⟨rfl, rfl, fun js => ?_⟩
 have h := hr m c0 a0 a2 a1 w hI
 rw [← law04_CutReply_L2_eq _ _ _ _ _ _ _ _ _ _ _ _ _ _ _ _ _ _ _ _ _ _ _ _ _ js] at h
 exact h
def law04_CutReply_T (a0 a1 a2 a3 : Int) (a4 : Option Addr) (a6 a5 : Nat) (a7 : Option Addr) (a9 a8 : Nat) (R : Value → World → Prop) (w : World) : Prop :=
 ∀ b1, w.heap.size ≤ b1 →
 ∀ b2, w.heap.size ≤ b2 →
 ∀ b3, w.heap.size ≤ b3 →
 ∀ w36, Adv [] [b3, b2, b1] w w36 →
 loopD3 law04_CutReply_la1 (dnF Tryz.prog law04_CutReply_an (code Tryz.f58) 394 [0, 0, 1, 0, 1, 1, 1, 1]) (kont3 Tryz.prog law04_CutReply_an (code Tryz.f58) [1, 1, 1, 1, 0, 1, 0] [] (post3 Tryz.prog Tryz.f58 [] R)) (law04_CutReply_v1 b1 b2 b3 0) (law04_CutReply_m1 b1 a0 a1 a2 a3 a4 a6 a5 a7 a9 a8 b2 b3 a0 a1 a2 a3 none 0 0) w36
theorem law04_CutReply_eq (a6 a7 a8 a9 : Int) (a0 : Option Addr) (a2 a1 : Nat) (a3 : Option Addr) (a5 a4 : Nat) (R : Value → World → Prop) (w : World) :
 dnF Tryz.prog law04_CutReply_an (code Tryz.f58) 400 [] (post3 Tryz.prog Tryz.f58 [] R) ⟨args0 0 [(.agg #[.int .i64 a6, .int .i64 a7, .int .i64 a8, .int .i64 a9, .slice a0 a2 a1, .slice a3 a5 a4])], fun _ => undef⟩ ⟨[], w, [], [], true⟩ = law04_CutReply_T a6 a7 a8 a9 a0 a2 a1 a3 a5 a4 R w := by kernel_rfl
theorem law04_CutReply_go {a6 a7 a8 a9 : Int} {a0 : Option Addr} {a2 a1 : Nat} {a3 : Option Addr} {a5 a4 : Nat} {R : Value → World → Prop} {w : World} (h : law04_CutReply_T a6 a7 a8 a9 a0 a2 a1 a3 a5 a4 R w) :
 Calls Tryz.prog 58 #[(.agg #[.int .i64 a6, .int .i64 a7, .int .i64 a8, .int .i64 a9, .slice a0 a2 a1, .slice a3 a5 a4])] w fun e w' => ∃ v, e = .returned v ∧ R v w' :=
 calls_none Tryz.wide_mixed (f := 58) (args := [(.agg #[.int .i64 a6, .int .i64 a7, .int .i64 a8, .int .i64 a9, .slice a0 a2 a1, .slice a3 a5 a4])]) Tryz.func58 rfl rfl (by kernel_rfl) rfl (Eq.mpr (law04_CutReply_eq a6 a7 a8 a9 a0 a2 a1 a3 a5 a4 R w) h)

end Go.Proofs.YtohgihgddknmmaaGreat

/- What the statements' cutting hands back, exactly. -/
namespace Go.Proofs.YtohgihgddknmmaaGreat
open Go Go.RowKit
set_option linter.unusedVariables false
set_option linter.unusedSimpArgs false

def cutS (n : Nat) (s : ByteArray) : ByteArray := s.extract 0 (min s.size n)
theorem slS_cut {s : ByteArray} {m : Int} {n : Nat} {F : ByteArray → Prop} (hm : m = (n : Nat)) (hF : F (cutS n s)) : slS s 0 (if m < (s.size : Int) then m else (s.size : Int)) F := by
  subst hm
  refine ⟨by omega, by split <;> omega, by split <;> omega, ?_⟩
  have e : (if (n : Int) < (s.size : Int) then (n : Int) else (s.size : Int)).toNat = min s.size n := by split <;> omega
  rw [e]; exact hF
theorem take_map1 {α β : Type} {f : α → β} {l : List α} {k : Nat} {x : α} (hx : l[k]? = some x) : (l.take (k + 1)).map f = (l.take k).map f ++ [f x] := by
  rw [List.take_add_one, hx]; simp
theorem take_all' {α : Type} {l : List α} {k : Nat} (n : Nat) (hk : k ≤ n) (h : ¬ (k < l.length ∧ k < n)) (hk2 : k ≤ l.length) : l.take k = l.take n := by
  by_cases h1 : k = n
  · rw [h1]
  · rw [List.take_of_length_le (by omega), List.take_of_length_le (by omega)]
def cutR (r : PRec) : PRec := ⟨r.hk, cutS 80 r.key, r.tomb, cutS 600 r.val⟩
def cutB (b : PBatch) : PBatch := ⟨b.prod, b.epoch, b.seq, (b.recs.take 20).map cutR⟩
def cutO (o : POp) : POp := ⟨o.kind, ⟨cutS 40 o.part.t, o.part.n⟩, o.n, o.off, cutB o.b, cutS 40 o.g, cutS 40 o.m, o.gen, o.robin, (o.topics.take 12).map (cutS 40)⟩
def cutC (c : PCall) : PCall := ⟨c.c, c.n, cutO c.op⟩
def cutCs (xs : List PCall) : List PCall := (xs.take 12).map cutC
def cutF (x : PFound) : PFound := ⟨x.off, ⟨x.r.hk, cutS 80 x.r.key, x.r.tomb, cutS 600 x.r.val⟩⟩
def cutP (x : PPart) : PPart := ⟨cutS 40 x.t, x.n⟩
def cutRep (r : PRep) : PRep := ⟨r.e, r.off, r.n, r.gen, (r.found.take 70).map cutF, (r.parts.take 70).map cutP⟩
theorem cut3X_ok (r : PRec) (w : World) : Calls Tryz.prog 103 #[r.v] w fun e w' => e = .returned (cutR r).v ∧ Mod [] w w' := by
  refine go_of (law03_cut_go ?_)
  intro b1 f1 b2 f2
  refine slS_cut (n := 80) rfl (slS_cut (n := 600) rfl ?_)
  intro w3 A3
  exact ⟨rfl, A3.mod⟩
theorem BoundX_ok {w : World} {b : PBatch} {rs : Sl} (h : SlAt w 4 encR rs.a rs.n b.recs) (hw : rs.n ≤ maxLen) :
    Calls Tryz.prog 57 #[b.v rs] w fun e w' => ∃ v, e = .returned v ∧ ∃ rs' : Sl, v = (cutB b).v rs' ∧ Row w' w.heap.size 149 4 encR rs'.a rs'.n rs'.c (cutB b).recs ∧ Mod [] w w' := by
  refine law03_Bound_go ?_
  intro b1 f1 b2 f2 b3 f3 w1 A1
  have l1 := A1.lt b1 (by simp)
  have l2 := A1.lt b2 (by simp)
  have l3 := A1.lt b3 (by simp)
  have s1 := A1.mod.size
  have hn := h.1
  refine law03_Bound_rule1 (fun mm x a n c w' => ∃ k : Nat, x = k ∧ k ≤ b.recs.length ∧ k ≤ 20 ∧ Row w' w1.heap.size 149 4 encR a n c ((b.recs.take k).map cutR) ∧ Mod [] w w' ∧ w1.heap.size ≤ w'.heap.size ∧ mm = b.recs.length - k) b.recs.length
    ⟨0, rfl, by omega, by omega, Row.nil .., A1.mod, Nat.le_refl _, rfl⟩ ?_
  rintro mm x a n c w2 ⟨k, rfl, hk, hk2, hRow, N2, s2, rfl⟩
  have hlk : ((b.recs.take k).map cutR).length = k := by rw [List.length_map, List.length_take]; omega
  have fin : ∀ {w'}, ¬ (k < b.recs.length ∧ k < 20) → Adv [b2] [] w2 w' → ∃ rs' : Sl, Value.agg #[.int .i64 b.prod, .int .i64 b.epoch, .int .i64 b.seq, .slice a n c] = (cutB b).v rs' ∧ Row w' w.heap.size 149 4 encR rs'.a rs'.n rs'.c (cutB b).recs ∧ Mod [] w w' := fun {w'} hne A => by
    rw [take_all' 20 hk2 hne hk] at hRow
    exact ⟨⟨a, n, c⟩, rfl, (hRow.keep A.mod fun ad ha hk => by have := hRow.base ad ha; simp at hk; omega).rebase s1, N2.go0 A.mod (by simpa using f2)⟩
  refine brB_dec (fun hlt => ?_) fun hge => fun w3 A3 => fin (by omega) A3
  refine brB_dec (fun hlt2 => ?_) fun hge => fun w3 A3 => fin (by omega) A3
  obtain ⟨r, hr⟩ : ∃ r, b.recs[k]? = some r := ⟨_, List.getElem?_eq_getElem (by omega)⟩
  refine (h.keep0 N2).ixW hr fun q hq => ?_
  intro w3 A3
  have hq := hq w3 A3.mod
  refine ldBool_of (x := r.hk) (by simpa [add_zero] using hq 0 _ rfl) (ldStr_of (hq 1 _ rfl) (ldBool_of (hq 2 _ rfl) (ldStr_of (hq 3 _ rfl) ?_)))
  refine (cut3X_ok r w3).mono ?_
  rintro e w4 ⟨rfl, M4⟩
  refine ⟨_, _, _, _, rfl, Keep.of0 M4, rfl, ?_⟩
  refine al_of fun b5 w5 c5 M5 f5 => ?_
  have K5 : Mod [] w2 w5 := (A3.mod.go0 M4 (by simp)).go0 M5 (by simp)
  have s5 := K5.size
  obtain ⟨i0, hi, hz0, hz1, hz2⟩ := info_parts infoR
  refine append_of (x := cutR r) (hRow.keep0 K5) Tryz.underlying33 hi hz0 hz1 hz2 rfl (by decide) c5 rfl (encR_one _) (by omega) (by unfold maxLen; omega) (by omega) fun a' c' w6 hR6 hM6 => ?_
  have M6 := hM6 _ (rowS_ok a)
  have hrow := rowS_block hRow
  refine ⟨Keep.of M6 fun b hb _ hb' => ?_, ?_⟩
  · have := hrow b hb'; simp at hb; omega
  intro w7 A7
  unfold maxLen at hw
  refine law03_Bound_leaf1 (b.recs.length - (k + 1)) (by omega) ⟨k + 1, by rw [wrap_id (by omega) (by omega)]; omega, by omega, by omega, Row.keep (by rw [take_map1 hr]; exact hR6) A7.mod fun ad ha hk => ?_, ?_, by have := M6.size; have := A7.mod.size; omega, rfl⟩
  · have := hR6.base ad ha; simp at hk; omega
  · refine ((N2.go0 K5 (by simp)).go0 M6 fun i hi => ?_).go0 A7.mod (by simpa using f3)
    have := hrow i hi; omega
theorem CutX_ok {w : World} {o : POp} {rs ts : Sl} (h : OpRd w o rs ts) :
    Calls Tryz.prog 13 #[o.v rs ts] w fun e w' => ∃ v, e = .returned v ∧ ∃ rs' ts' : Sl, v = (cutO o).v rs' ts' ∧ OpOwn w' w.heap.size (cutO o) rs' ts' ∧ Mod [] w w' := by
  refine law04_Cut_go ?_
  intro b1 f1 b2 f2 b3 f3
  refine slS_cut (n := 40) rfl (slS_cut (n := 40) rfl (slS_cut (n := 40) rfl ?_))
  intro w1 A1
  have l1 := A1.lt b1 (by simp)
  have l2 := A1.lt b2 (by simp)
  have l3 := A1.lt b3 (by simp)
  have s1 := A1.mod.size
  have hn := h.topics.1
  have hw := h.wt
  unfold maxLen at hw
  refine (BoundX_ok (b := o.b) (rs := rs) (h.recs.keep0 A1.mod) h.wr).mono ?_
  rintro e w2 ⟨_, rfl, rs', rfl, hB, M2⟩
  have s2 := M2.size
  refine ⟨_, _, _, _, _, _, rfl, Keep.of0 M2, ?_⟩
  intro w3 A3
  have s3 := A3.mod.size
  have hB3 : Row w3 w1.heap.size 149 4 encR rs'.a rs'.n rs'.c (cutB o.b).recs := hB.keep A3.mod fun ad ha hk => by have := hB.base ad ha; simp at hk; omega
  have N3 := (A1.mod.go0 M2 (by simp)).go0 A3.mod (by simpa using f3)
  refine law04_Cut_rule1 (fun mm x a n c w' => ∃ k : Nat, x = k ∧ k ≤ o.topics.length ∧ k ≤ 12 ∧ Row w' w1.heap.size 9 1 encS a n c ((o.topics.take k).map (cutS 40)) ∧ Row w' w1.heap.size 149 4 encR rs'.a rs'.n rs'.c (cutB o.b).recs ∧ Mod [] w w' ∧ w1.heap.size ≤ w'.heap.size ∧ mm = o.topics.length - k) o.topics.length
    ⟨0, rfl, by omega, by omega, Row.nil .., hB3, N3, by omega, rfl⟩ ?_
  rintro mm x a n c w4 ⟨k, rfl, hk, hk2, hRow, hB4, N4, s4, rfl⟩
  have hlk : ((o.topics.take k).map (cutS 40)).length = k := by rw [List.length_map, List.length_take]; omega
  have fin : ∀ {w'}, ¬ (k < o.topics.length ∧ k < 12) → Adv [b2] [] w4 w' → ∃ rs'' ts' : Sl, Value.agg #[.int .i64 o.kind, .string (cutS 40 o.part.t), .int .i64 o.part.n, .int .i64 o.n, .int .i64 o.off, .int .i64 (cutB o.b).prod, .int .i64 (cutB o.b).epoch, .int .i64 (cutB o.b).seq, .slice rs'.a rs'.n rs'.c, .string (cutS 40 o.g), .string (cutS 40 o.m), .int .i64 o.gen, .bool o.robin, .slice a n c] = (cutO o).v rs'' ts' ∧ OpOwn w' w.heap.size (cutO o) rs'' ts' ∧ Mod [] w w' := fun {w'} hne A => by
    rw [take_all' 12 hk2 hne hk] at hRow
    exact ⟨rs', ⟨a, n, c⟩, rfl, ⟨(hB4.keep A.mod fun ad ha hk => by have := hB4.base ad ha; simp at hk; omega).rebase s1, (hRow.keep A.mod fun ad ha hk => by have := hRow.base ad ha; simp at hk; omega).rebase s1, by simp [cutO, cutB]; omega, by simp [cutO]; omega⟩, N4.go0 A.mod (by simpa using f2)⟩
  refine brB_dec (fun hlt => ?_) fun hge => fun w5 A5 => fin (by omega) A5
  refine brB_dec (fun hlt2 => ?_) fun hge => fun w5 A5 => fin (by omega) A5
  obtain ⟨t, ht⟩ : ∃ t, o.topics[k]? = some t := ⟨_, List.getElem?_eq_getElem (by omega)⟩
  refine (h.topics.keep0 N4).ixW ht fun q hq => ?_
  intro w5 A5
  refine ldStr_of (x := t) (by simpa [add_zero] using hq w5 A5.mod 0 _ rfl) ?_
  refine (h.topics.keep0 N4).ixW ht fun q hq => ?_
  refine ldStr_of (x := t) (by simpa [add_zero] using hq w5 A5.mod 0 _ rfl) ?_
  refine slS_cut (n := 40) rfl ?_
  refine al_of fun b6 w6 c6 M6 f6 => ?_
  have K6 : Mod [] w4 w6 := A5.mod.go0 M6 (by simp)
  have s6 := K6.size
  obtain ⟨i0, hi, hz0, hz1, hz2⟩ := info_parts infoS
  refine append_of (enc := encS) (x := cutS 40 t) (hRow.keep0 K6) Tryz.underlying36 hi hz0 hz1 hz2 rfl (by decide) c6 rfl (encS_one _) (by omega) (by unfold maxLen; omega) (by omega) fun a' c' w7 hR7 hM7 => ?_
  have M7 := hM7 _ (rowS_ok a)
  have s7 := M7.size
  have hrow := rowS_block hRow
  refine ⟨Keep.of M7 fun b hb _ hb' => ?_, ?_⟩
  · have := hrow b hb'; simp at hb; omega
  intro w8 A8
  have s8 := A8.mod.size
  have hB7 : Row w7 w1.heap.size 149 4 encR rs'.a rs'.n rs'.c (cutB o.b).recs := (hB4.keep0 K6).keep M7 fun ad ha hk => by
    obtain ⟨_, cur, hc⟩ := hB4.block ad ha
    obtain ⟨_, _, cur2, hc2⟩ := hrow _ hk
    rw [hc2] at hc; cases hc
  refine law04_Cut_leaf1 (o.topics.length - (k + 1)) (by omega) ⟨k + 1, by rw [wrap_id (by omega) (by omega)]; omega, by omega, by omega, Row.keep (by rw [take_map1 ht]; exact hR7) A8.mod fun ad ha hk => ?_, hB7.keep A8.mod fun ad ha hk => ?_, ?_, by omega, rfl⟩
  · have := hR7.base ad ha; simp at hk; omega
  · have := hB7.base ad ha; simp at hk; omega
  · refine ((N4.go0 K6 (by simp)).go0 M7 fun i hi => ?_).go0 A8.mod (by simpa using f3)
    have := hrow i hi; omega
theorem LCutX_ok {w : World} {a : Option Addr} {n c : Nat} {ll : List CV} (h : SlAt w 16 CV.cs a n ll) (hO : ∀ q ∈ ll, OpRd w q.x.op q.rs q.ts) (hw : n ≤ maxLen) :
    Calls Tryz.prog 30 #[.slice a n c] w fun e w' => ∃ v, e = .returned v ∧ ∃ s' : Sl, v = .slice s'.a s'.n s'.c ∧ CallsOwn w' w.heap.size s' (cutCs (ll.map (·.x))) ∧ Mod [] w w' := by
  have hn := h.1
  unfold maxLen at hw
  refine law16_Cut_go ?_
  refine al_of fun b1 w1 c1 M1 f1 => ?_
  have s1 := M1.size
  refine law16_Cut_rule1 (fun mm a3 n3 c3 x w' => ∃ (k : Nat) (l : List CV), x = k ∧ k ≤ ll.length ∧ k ≤ 12 ∧ l.map (·.x) = ((ll.map (·.x)).take k).map cutC ∧ Row w' w.heap.size 57 16 CV.cs a3 n3 c3 l ∧ (∀ q ∈ l, OpOwn w' w.heap.size q.x.op q.rs q.ts) ∧ Mod [] w w' ∧ mm = ll.length - k) ll.length
    ⟨0, [], rfl, by omega, by omega, by simp, Row.fresh c1 f1, by simp, M1, rfl⟩ ?_
  rintro mm a3 n3 c3 x w2 ⟨k, l, rfl, hk, hk2, hlx, hRow, hOw, M2, rfl⟩
  have hlk : l.length = k := by have := congrArg List.length hlx; simp at this; omega
  have fin : ¬ (k < (ll.map (·.x)).length ∧ k < 12) → ∃ s' : Sl, Value.slice a3 n3 c3 = .slice s'.a s'.n s'.c ∧ CallsOwn w2 w.heap.size s' (cutCs (ll.map (·.x))) ∧ Mod [] w w2 := fun hne => ⟨⟨a3, n3, c3⟩, rfl, ⟨l, hRow, hOw, by rw [hlx, cutCs, take_all' 12 hk2 hne (by simpa using hk)]⟩, M2⟩
  have s2 := M2.size
  refine brB_dec (fun hlt => ?_) fun hge => fin (by simp; omega)
  refine brB_dec (fun hlt2 => ?_) fun hge => fin (by simp; omega)
  obtain ⟨q, hq⟩ : ∃ q, ll[k]? = some q := ⟨_, List.getElem?_eq_getElem (by omega)⟩
  refine (h.keep0 M2).ixW hq fun ad had => ?_
  intro w3 A3
  have s3 := A3.mod.size
  have N3 := M2.go0 A3.mod (by simp)
  refine ldInt_of (x := q.x.c) (by simpa [add_zero] using had w3 A3.mod 0 _ rfl) ?_
  refine (h.keep0 N3).ixW hq fun ad2 had2 => ldInt_of (x := q.x.n) (had2 w3 (Mod.refl _) 1 _ rfl) ?_
  refine (h.keep0 N3).ixW hq fun ad3 had3 => ?_
  have hc := had3 w3 (Mod.refl _)
  refine ldOp_of (op_cells hc) ?_
  refine (CutX_ok ((hO q (List.mem_of_getElem? hq)).keep0 N3)).mono ?_
  rintro _ w4 ⟨_, rfl, rs', ts', rfl, hO', M4⟩
  have s4 := M4.size
  refine ⟨_, _, _, _, _, _, _, _, _, _, _, _, _, _, _, _, _, _, rfl, ?_, ?_, ?_⟩
  · exact ldInt_of (x := q.x.n) (had2 w4 M4 1 _ rfl) rfl
  · exact ldInt_of (x := q.x.c) (by simpa [add_zero] using had w4 (A3.mod.go0 M4 (by simp)) 0 _ rfl) rfl
  refine al_of fun b7 w7 c7 M7 f7 => ?_
  have s7 := M7.size
  have K7 : Mod [] w2 w7 := (A3.mod.go0 M4 (by simp)).go0 M7 (by simp)
  obtain ⟨i0, hi, hz0, hz1, hz2⟩ := info_parts infoCall
  refine append_of (x := (⟨⟨q.x.c, q.x.n, cutO q.x.op⟩, rs', ts'⟩ : CV)) (hRow.keep0 K7) Tryz.underlying39 hi hz0 hz1 hz2 rfl (by decide) c7 rfl (CV.cs_one _) (by omega) (by unfold maxLen; omega) (by omega) fun a' c' w8 hR8 hM8 => ?_
  have M8 := hM8 _ (rowS_ok a3)
  have hrow := rowS_block hRow
  have kp : ∀ {o rs ts}, OpOwn w7 w.heap.size o rs ts → OpOwn w8 w.heap.size o rs ts := fun hh => hh.keep M8 fun k hk cs T hc => by
    obtain ⟨_, _, cur, hcur⟩ := hrow k hk
    rw [K7.keep0 hcur] at hc; cases hc; decide
  refine law16_Cut_leaf1 (ll.length - (k + 1)) (by omega) ⟨k + 1, _, by rw [wrap_id (by omega) (by omega)]; omega, by omega, by omega, by rw [take_map1 (show (ll.map (·.x))[k]? = some q.x by rw [List.getElem?_map, hq]; rfl), List.map_append, hlx]; rfl, hR8, fun y hy => ?_, (M2.go0 K7 (by simp)).go0 M8 fun i hi => (hrow i hi).1, rfl⟩
  rcases List.mem_append.1 hy with hy | hy
  · exact kp ((hOw y hy).keep0 K7)
  · simp at hy; subst hy; exact kp ((hO'.keep0 M7).rebase (by omega))

set_option maxHeartbeats 1000000 in
theorem CutReplyX_ok {w : World} {r : PRep} {f p : Sl} (h : RepRd w r f p) :
    Calls Tryz.prog 58 #[r.v f p] w fun e w' => ∃ v, e = .returned v ∧ ∃ f' p' : Sl, v = (cutRep r).v f' p' ∧ RepOwn w' w.heap.size (cutRep r) f' p' ∧ Mod [] w w' := by
  refine law04_CutReply_go ?_
  intro b1 f1 b2 f2 b3 f3 w1 A1
  have l1 : ∀ b ∈ [b3, b2, b1], b < w1.heap.size := A1.lt
  have l3 := l1 b3 (by simp)
  have l2 := l1 b2 (by simp)
  have l1 := l1 b1 (by simp)
  have s1 := A1.mod.size
  refine law04_CutReply_rule1 (fun mm x a n c w' => ∃ k : Nat, x = k ∧ k ≤ 70 ∧ k ≤ r.found.length ∧ Row w' w1.heap.size 152 5 encF a n c ((r.found.take k).map cutF) ∧ Mod [] w w' ∧ w1.heap.size ≤ w'.heap.size ∧ mm = 70 - k) 70 ⟨0, rfl, by omega, by omega, Row.nil .., A1.mod, Nat.le_refl _, rfl⟩ ?_
  rintro mm x a1 n1 c1 w2 ⟨k, rfl, hk, hkf, hR, M2, hs2, rfl⟩
  have hl1 : ((r.found.take k).map cutF).length = k := by rw [List.length_map, List.length_take]; omega
  have e4 := h.found.1
  have e5 := h.parts.1
  refine brB_dec (fun hlt => ?_) fun hge => ?_
  · refine brB_dec (fun hlt4 => ?_) fun hge => ?_
    · obtain ⟨y, hy⟩ : ∃ y, r.found[k]? = some y := ⟨_, List.getElem?_eq_getElem (by have := h.found.1; omega)⟩
      have hym := h.sf y (List.mem_of_getElem? hy)
      unfold maxLen at hym
      refine (h.keep0 M2).found.ix hy fun q hq => ldInt_of (x := y.off) (by simpa [add_zero] using hq 0 _ rfl) (ldBool_of (hq 1 _ rfl) (ldStr_of (hq 2 _ rfl) (ldBool_of (hq 3 _ rfl) (ldStr_of (hq 4 _ rfl) ?_))))
      intro b6 f6
      refine slS_cut (n := 80) rfl (slS_cut (n := 600) rfl ?_)
      intro w6 A6
      have l6 := A6.lt b6 (by simp)
      have s6 := A6.mod.size
      refine al_of fun b7 w7 c7 M7 f7 => ?_
      have s7 := M7.size
      obtain ⟨i0, hi0, hz0, hz1, hz2⟩ := info_parts infoF
      refine append_of (x := cutF y) ((hR.keep0 A6.mod).keep0 M7) Tryz.underlying40 hi0 hz0 hz1 hz2 rfl (by decide) c7 rfl (encF_one _) (by omega) (by unfold maxLen; omega) (by omega) fun a' c' w8 hR8 hM8 => ?_
      have M8 := hM8 _ (rowS_ok a1)
      have hrow : ∀ k ∈ rowS a1, w1.heap.size ≤ k ∧ k < w2.heap.size := by
        cases a1 with
        | none => simp [rowS]
        | some ad => intro k hk; simp [rowS] at hk; subst hk; obtain ⟨h1, cur, h2⟩ := hR.block ad rfl; exact ⟨h1, lt_of_block h2⟩
      refine ⟨Keep.of M8 fun b hb _ hb' => ?_, ?_⟩
      · have := hrow b hb'; simp at hb; omega
      intro w9 A9
      have N7 : Mod [] w2 w7 := A6.mod.go0 M7 (by simp)
      have N8 : Mod [] w w8 := (M2.go0 N7 (by simp)).go0 M8 fun i hi => by have := hrow i hi; omega
      have s8 := M8.size
      have s9 := A9.mod.size
      refine law04_CutReply_leaf1 (70 - (k + 1)) (by omega) ⟨k + 1, by rw [wrap_id (by omega) (by omega)]; omega, by omega, by have := (List.getElem?_eq_some_iff.1 hy).1; omega, Row.keep (by rw [take_map1 hy]; exact hR8) A9.mod fun ad ha hk' => ?_, N8.go0 A9.mod (by simp; omega), by omega, rfl⟩
      have := hR8.base ad ha; simp at hk'; omega
    · have hRf : Row w2 w1.heap.size 152 5 encF a1 n1 c1 (cutRep r).found := by
        have := take_all' (l := r.found) 70 hk (by omega) hkf
        rw [this] at hR; exact hR
      clear hR
      refine law04_CutReply_rule2 (fun mm x a n c w' => ∃ k : Nat, x = k ∧ k ≤ 70 ∧ k ≤ r.parts.length ∧ Row w' w1.heap.size 32 2 encP a n c ((r.parts.take k).map cutP) ∧ Row w' w1.heap.size 152 5 encF a1 n1 c1 (cutRep r).found ∧ Mod [] w w' ∧ w1.heap.size ≤ w'.heap.size ∧ mm = 70 - k) 70 ⟨0, rfl, by omega, by omega, Row.nil .., hRf, M2, hs2, rfl⟩ ?_
      rintro mm x a n c w3 ⟨k, rfl, hk, hkp, hP, hR, M3, hs3, rfl⟩
      have hl : ((r.parts.take k).map cutP).length = k := by rw [List.length_map, List.length_take]; omega
      have fin : ¬ (k < r.parts.length ∧ k < 70) → ∀ w4, Adv [b2] [] w3 w4 → ∃ f' p' : Sl, Value.agg #[.int .i64 r.e, .int .i64 r.off, .int .i64 r.n, .int .i64 r.gen, .slice a1 n1 c1, .slice a n c] = (cutRep r).v f' p' ∧ RepOwn w4 w.heap.size (cutRep r) f' p' ∧ Mod [] w w4 := fun hne w4 A4 => by
        rw [take_all' 70 hk hne hkp] at hP
        refine ⟨⟨a1, n1, c1⟩, ⟨a, n, c⟩, rfl, ⟨?_, ?_, by simp [cutRep]; omega, by simp [cutRep]; omega⟩, M3.go0 A4.mod (by simp; omega)⟩
        · refine (hR.keep A4.mod fun ad ha hk' => ?_).rebase (by omega)
          have := hR.base ad ha; simp at hk'; omega
        · refine (hP.keep A4.mod fun ad ha hk' => ?_).rebase (by omega)
          have := hP.base ad ha; simp at hk'; omega
      refine brB_dec (fun hlt => ?_) fun hge => fin (by omega)
      refine brB_dec (fun hlt4 => ?_) fun hge => fin (by omega)
      obtain ⟨y, hy⟩ : ∃ y, r.parts[k]? = some y := ⟨_, List.getElem?_eq_getElem (by have := h.parts.1; omega)⟩
      have hym := h.sp y (List.mem_of_getElem? hy)
      unfold maxLen at hym
      refine (h.keep0 M3).parts.ix hy fun q hq => ldStr_of (x := y.t) (by simpa [add_zero] using hq 0 _ rfl) (ldInt_of (hq 1 _ rfl) ?_)
      intro b6 f6
      refine slS_cut (n := 40) rfl ?_
      intro w6 A6
      have l6 := A6.lt b6 (by simp)
      have s6 := A6.mod.size
      refine al_of fun b7 w7 c7 M7 f7 => ?_
      have s7 := M7.size
      obtain ⟨i0, hi0, hz0, hz1, hz2⟩ := info_parts infoP
      refine append_of (x := cutP y) ((hP.keep0 A6.mod).keep0 M7) Tryz.underlying41 hi0 hz0 hz1 hz2 rfl (by decide) c7 rfl (encP_one _) (by omega) (by unfold maxLen; omega) (by omega) fun a' c' w8 hR8 hM8 => ?_
      have M8 := hM8 _ (rowS_ok a)
      have hrow : ∀ k ∈ rowS a, w1.heap.size ≤ k ∧ k < w3.heap.size ∧ ∃ cur, w3.heap[k]? = some (.cells cur 32) := by
        cases a with
        | none => simp [rowS]
        | some ad => intro k hk; simp [rowS] at hk; subst hk; obtain ⟨h1, cur, h2⟩ := hP.block ad rfl; exact ⟨h1, lt_of_block h2, cur, h2⟩
      refine ⟨Keep.of M8 fun b hb _ hb' => ?_, ?_⟩
      · have := hrow b hb'; simp at hb; omega
      intro w9 A9
      have N7 : Mod [] w3 w7 := A6.mod.go0 M7 (by simp)
      have N8 : Mod [] w w8 := (M3.go0 N7 (by simp)).go0 M8 fun i hi => by have := hrow i hi; omega
      have s8 := M8.size
      have s9 := A9.mod.size
      refine law04_CutReply_leaf2 (70 - (k + 1)) (by omega) ⟨k + 1, by rw [wrap_id (by omega) (by omega)]; omega, by omega, by have := (List.getElem?_eq_some_iff.1 hy).1; omega, Row.keep (by rw [take_map1 hy]; exact hR8) A9.mod fun ad ha hk' => ?_, ?_, N8.go0 A9.mod (by simp; omega), by omega, rfl⟩
      · have := hR8.base ad ha; simp at hk'; omega
      · have h7 := hR.keep0 N7
        refine (h7.keep M8 fun ad ha hk' => ?_).keep A9.mod fun ad ha hk' => ?_
        · obtain ⟨_, _, cur, hc⟩ := hrow _ hk'
          obtain ⟨_, cur', hc'⟩ := hR.block ad ha
          rw [hc] at hc'; cases hc'
        · have := hR.base ad ha; simp at hk'; omega
  · have hRf : Row w2 w1.heap.size 152 5 encF a1 n1 c1 (cutRep r).found := by
      have := take_all' (l := r.found) 70 hk (by omega) hkf
      rw [this] at hR; exact hR
    clear hR
    refine law04_CutReply_rule2 (fun mm x a n c w' => ∃ k : Nat, x = k ∧ k ≤ 70 ∧ k ≤ r.parts.length ∧ Row w' w1.heap.size 32 2 encP a n c ((r.parts.take k).map cutP) ∧ Row w' w1.heap.size 152 5 encF a1 n1 c1 (cutRep r).found ∧ Mod [] w w' ∧ w1.heap.size ≤ w'.heap.size ∧ mm = 70 - k) 70 ⟨0, rfl, by omega, by omega, Row.nil .., hRf, M2, hs2, rfl⟩ ?_
    rintro mm x a n c w3 ⟨k, rfl, hk, hkp, hP, hR, M3, hs3, rfl⟩
    have hl : ((r.parts.take k).map cutP).length = k := by rw [List.length_map, List.length_take]; omega
    have fin : ¬ (k < r.parts.length ∧ k < 70) → ∀ w4, Adv [b2] [] w3 w4 → ∃ f' p' : Sl, Value.agg #[.int .i64 r.e, .int .i64 r.off, .int .i64 r.n, .int .i64 r.gen, .slice a1 n1 c1, .slice a n c] = (cutRep r).v f' p' ∧ RepOwn w4 w.heap.size (cutRep r) f' p' ∧ Mod [] w w4 := fun hne w4 A4 => by
      rw [take_all' 70 hk hne hkp] at hP
      refine ⟨⟨a1, n1, c1⟩, ⟨a, n, c⟩, rfl, ⟨?_, ?_, by simp [cutRep]; omega, by simp [cutRep]; omega⟩, M3.go0 A4.mod (by simp; omega)⟩
      · refine (hR.keep A4.mod fun ad ha hk' => ?_).rebase (by omega)
        have := hR.base ad ha; simp at hk'; omega
      · refine (hP.keep A4.mod fun ad ha hk' => ?_).rebase (by omega)
        have := hP.base ad ha; simp at hk'; omega
    refine brB_dec (fun hlt => ?_) fun hge => fin (by omega)
    refine brB_dec (fun hlt4 => ?_) fun hge => fin (by omega)
    obtain ⟨y, hy⟩ : ∃ y, r.parts[k]? = some y := ⟨_, List.getElem?_eq_getElem (by have := h.parts.1; omega)⟩
    have hym := h.sp y (List.mem_of_getElem? hy)
    unfold maxLen at hym
    refine (h.keep0 M3).parts.ix hy fun q hq => ldStr_of (x := y.t) (by simpa [add_zero] using hq 0 _ rfl) (ldInt_of (hq 1 _ rfl) ?_)
    intro b6 f6
    refine slS_cut (n := 40) rfl ?_
    intro w6 A6
    have l6 := A6.lt b6 (by simp)
    have s6 := A6.mod.size
    refine al_of fun b7 w7 c7 M7 f7 => ?_
    have s7 := M7.size
    obtain ⟨i0, hi0, hz0, hz1, hz2⟩ := info_parts infoP
    refine append_of (x := cutP y) ((hP.keep0 A6.mod).keep0 M7) Tryz.underlying41 hi0 hz0 hz1 hz2 rfl (by decide) c7 rfl (encP_one _) (by omega) (by unfold maxLen; omega) (by omega) fun a' c' w8 hR8 hM8 => ?_
    have M8 := hM8 _ (rowS_ok a)
    have hrow : ∀ k ∈ rowS a, w1.heap.size ≤ k ∧ k < w3.heap.size ∧ ∃ cur, w3.heap[k]? = some (.cells cur 32) := by
      cases a with
      | none => simp [rowS]
      | some ad => intro k hk; simp [rowS] at hk; subst hk; obtain ⟨h1, cur, h2⟩ := hP.block ad rfl; exact ⟨h1, lt_of_block h2, cur, h2⟩
    refine ⟨Keep.of M8 fun b hb _ hb' => ?_, ?_⟩
    · have := hrow b hb'; simp at hb; omega
    intro w9 A9
    have N7 : Mod [] w3 w7 := A6.mod.go0 M7 (by simp)
    have N8 : Mod [] w w8 := (M3.go0 N7 (by simp)).go0 M8 fun i hi => by have := hrow i hi; omega
    have s8 := M8.size
    have s9 := A9.mod.size
    refine law04_CutReply_leaf2 (70 - (k + 1)) (by omega) ⟨k + 1, by rw [wrap_id (by omega) (by omega)]; omega, by omega, by have := (List.getElem?_eq_some_iff.1 hy).1; omega, Row.keep (by rw [take_map1 hy]; exact hR8) A9.mod fun ad ha hk' => ?_, ?_, N8.go0 A9.mod (by simp; omega), by omega, rfl⟩
    · have := hR8.base ad ha; simp at hk'; omega
    · have h7 := hR.keep0 N7
      refine (h7.keep M8 fun ad ha hk' => ?_).keep A9.mod fun ad ha hk' => ?_
      · obtain ⟨_, _, cur, hc⟩ := hrow _ hk'
        obtain ⟨_, cur', hc'⟩ := hR.block ad ha
        rw [hc] at hc'; cases hc'
      · have := hR.base ad ha; simp at hk'; omega

end Go.Proofs.YtohgihgddknmmaaGreat
