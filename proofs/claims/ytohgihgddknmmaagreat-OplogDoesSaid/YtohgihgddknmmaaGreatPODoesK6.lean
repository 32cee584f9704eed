/- Part 6 of the proof of PODoes. -/
import Derived.WalkKit
import Derived.WalkSpells
import Derived.WalkLawsBesides
import Derived.Deep.Quiet
import Derived.Test.YtohgihgddknmmaaGreatRows
import Derived.KernelRfl
import Derived.Maps.Keyed
import Derived.Maps.RangeRun
import Derived.DeepKeys4
import Derived.Lib.Strings
import Derived.Shelf.RegionOpenPlain
import Derived.Lib.Slices
import Derived.Lib.Walk
import Derived.Lib.Builder
import Derived.Lib.FrozenHead
import Derived.Lib.OthersKept
import Derived.Lib.AppendStr
import Derived.Lib.UnsafeStr
import Derived.Lib.MakeNoZero
import Derived.Laws.Externs
import Derived.Laws.IdiomCopy
import Derived.Laws.BitsLemmas
import Derived.RangeFuncBox
import Derived.RangeFuncLeaves
import Derived.RangeFuncNested
import Derived.Shelf.Abstract
import Derived.OwnWalkIn
import Derived.TacticsInMore
import Derived.LoopNIn
import Derived.LoopIn
import Derived.Maps.AppendAt
import Derived.Sort.LoopGhostIn
import Derived.Laws.Bits64b
import Derived.Laws.IdiomStrings
import Derived.Test.YtohgihgddknmmaaGreatProg
import Derived.Shelf.Lay
import Derived.Shelf.Strings.FuncGrows
import Derived.Laws.RangeAny
import Derived.Ground.GgwProg
import Derived.Ground.NamesProg
import Derived.ArgAppend
import Derived.ProofKit
import Derived.OpenShut
import Derived.ShutString
import Derived.ChangeOld
import Derived.Below
import Derived.Deep.Slices
import Derived.Test.YtohgihgddknmmaaGreatPODoesK5
/- Calls as bytes. -/
namespace Go.Proofs.YtohgihgddknmmaaGreat
open Go Go.RowKit
set_option linter.unusedVariables false
set_option linter.unusedSimpArgs false

theorem opB_len {o : POp} (G : OpGood o) : (opB o).length ≤ 30000 := by
  obtain ⟨hk, ⟨n1, n2, n3, n4⟩, hT, hG, hMm, hL, hb, ho⟩ := G
  have hT := fun h => (name_le (hT h)).1
  have hG := fun h => (name_le (hG h)).1
  have hMm := fun h => (name_le (hMm h)).1
  have nl : ∀ {x : Int}, num x = true → (vPutL x.toNat).length ≤ 10 := fun {x} h => by
    have := num_le h
    exact (vPutL_len x.toNat (by omega)).2
  have tl : ∀ {s : ByteArray}, s.size ≤ 16 → (putT s).length ≤ 26 := fun {s} h => by have := (putT_len s (by omega)).2; omega
  obtain ⟨kd, pt, n, off, b, g, m, gen, robin, topics⟩ := o
  simp only at hk hT hG hMm hL hb n1 n2 n3 n4
  have hkn := nl (x := kd) (by simp [num]; omega)
  have l1 := nl n1
  have l2 := nl n2
  have l3 := nl n3
  have l4 := nl n4
  have hk : kd = 0 ∨ kd = 1 ∨ kd = 2 ∨ kd = 3 ∨ kd = 4 ∨ kd = 5 ∨ kd = 6 ∨ kd = 7 ∨ kd = 8 ∨ kd = 9 ∨ kd = 10 ∨ kd = 11 ∨ kd = 12 := by omega
  unfold opB
  rw [List.length_append]
  rcases hk with rfl | rfl | rfl | rfl | rfl | rfl | rfl | rfl | rfl | rfl | rfl | rfl | rfl
  · have := tl (hT rfl); simp [opBody] at *; omega
  · simp [opBody] at *; omega
  · have := tl (hT rfl); have := (BatGood.of (hb rfl)).len; simp [opBody, partB] at *; omega
  · have := tl (hT rfl); simp [opBody, partB] at *; omega
  · have := tl (hT rfl); simp [opBody, partB] at *; omega
  · have := tl (hT rfl); simp [opBody, partB] at *; omega
  · have h1 := tl (hG rfl)
    have h2 := tl (hMm rfl)
    have hL := hL rfl
    simp only [namesB, Bool.and_eq_true, decide_eq_true_eq] at hL
    obtain ⟨⟨⟨l1', l2'⟩, l3'⟩, _⟩ := hL
    have h3 : (namesL topics).length ≤ 10 + 8 * 26 := by
      have e1 := flat_le (f := putT) (c := 26) (l := topics) fun s hs => tl (name_le (List.all_eq_true.1 l3' s hs)).1
      have e2 := (vPutL_len topics.length (by omega)).2
      have e3 : topics.length * 26 ≤ 8 * 26 := Nat.mul_le_mul_right _ l2'
      unfold namesL; rw [List.length_append]; omega
    have h4 : (vPutL (flagN robin)).length ≤ 10 := (vPutL_len _ (by cases robin <;> decide)).2
    simp only [opBody, List.length_append, if_neg (show ¬ (6 : Int) = 0 by decide), if_neg (show ¬ (6 : Int) = 1 by decide), if_neg (show ¬ (6 : Int) = 2 by decide), if_neg (show ¬ (6 : Int) = 3 by decide), if_neg (show ¬ (6 : Int) = 4 by decide), if_neg (show ¬ (6 : Int) = 5 by decide), if_pos]
    omega
  iterate 3
    · have h1 := tl (hG rfl)
      have h2 := tl (hMm rfl)
      simp [opBody] at *; omega
  · have h1 := tl (hG rfl)
    have h2 := tl (hMm rfl)
    have := tl (hT rfl)
    simp [opBody, partB] at *; omega
  · have h1 := tl (hG rfl)
    have := tl (hT rfl)
    simp [opBody, partB] at *; omega
  · simp [opBody] at *; omega
def callR (x : PCall) : List UInt8 := vPutL x.c.toNat ++ vPutL x.n.toNat ++ putT (bs (opB x.op))
def callB (x : PCall) : List UInt8 := frameB (bs (callR x))
def textB (xs : List PCall) : List UInt8 := vPutL xs.length ++ xs.flatMap callB
def textE (xs : List PCall) : Int := if xs.length > 4096 then 2 else checkE xs
theorem oddN_out {n : Int} (h : oddN n = false) : 1 ≤ n ∧ n ≤ 1099511627776 := by
  simp [oddN] at h; omega
theorem oddC_out {x : PCall} (h : oddC x = false) : (1 ≤ x.c ∧ x.c ≤ 1099511627776) ∧ 1 ≤ x.n ∧ x.n ≤ 1099511627776 := by
  simp [oddC] at h
  exact ⟨oddN_out h.1, oddN_out h.2⟩
theorem callR_len {x : PCall} (h : oddC x = false) (ho : opE x.op = 0) : (callR x).length ≤ 30040 := by
  have h1 := oddC_out h
  have h2 := opB_len (OpGood.of ho)
  have e1 := (vPutL_len x.c.toNat (by omega)).2
  have e2 := (vPutL_len x.n.toNat (by omega)).2
  have e3 := (putT_len (bs (opB x.op)) (by rw [bs_size]; omega)).2
  rw [bs_size] at e3
  unfold callR
  rw [List.length_append, List.length_append]
  omega
theorem callB_len {x : PCall} (h : oddC x = false) (ho : opE x.op = 0) : (callB x).length ≤ 40000 ∧ 1 ≤ (callB x).length := by
  have h1 := callR_len h ho
  have e3 := putT_len (bs (callR x)) (by rw [bs_size]; omega)
  rw [bs_size] at e3
  unfold callB
  rw [frameB_len]
  omega
set_option maxHeartbeats 1000000 in
theorem Text_ok {w : World} {s : Sl} {ll : List CV} (h : CsAt w s ll) (hl : ll.length ≤ 1000000) :
    Calls Tryz.prog 31 #[.slice s.a s.n s.c] w fun e w' => e = .returned (.tuple #[.string (if textE (ll.map (·.x)) = 0 then bs (textB (ll.map (·.x))) else bs []), .int .i64 (textE (ll.map (·.x)))]) ∧ Mod [] w w' := by
  have hn := h.sl.1
  have el : (ll.map (·.x)).length = ll.length := by simp
  refine go_of (oplog_Text_go ?_)
  refine brB_dec (fun g => ?_) fun g => ?_
  · have e : textE (ll.map (·.x)) = 2 := by rw [textE, if_pos (by rw [el]; omega)]
    rw [e]; exact ⟨rfl, Mod.refl _⟩
  have e : textE (ll.map (·.x)) = checkE (ll.map (·.x)) := by rw [textE, if_neg (by rw [el]; omega)]
  refine (Checked_ok h hl).mono ?_
  rintro _ w1 ⟨rfl, M1⟩
  have s1 := M1.size
  refine ⟨_, rfl, brB_of (fun g2 => ?_) fun g2 => ?_⟩
  · have g2 : checkE (ll.map (·.x)) ≠ 0 := by simpa using g2
    rw [e, if_neg g2]; exact ⟨rfl, M1⟩
  have g2 : checkE (ll.map (·.x)) = 0 := by simpa using g2
  have good : ∀ q ∈ ll, oddC q.x = false ∧ opE q.x.op = 0 := fun q hq => checkE_ok.1 g2 q.x (List.mem_map.2 ⟨q, hq, rfl⟩)
  rw [e, if_pos g2, g2]
  intro b3 f3 w4 A4
  have l4 := A4.lt b3 (by simp)
  have s4 := A4.mod.size
  rw [wrapU (by omega)]
  refine (Put_ok s.n (by omega) w4).mono ?_
  rintro _ w5 ⟨rfl, M5⟩
  refine ⟨_, rfl, Keep.of0 M5, ?_⟩
  intro w7 A7 h7
  have s5 := M5.size
  have s7 := A7.mod.size
  have N7 : Mod [] w w7 := ((M1.go0 A4.mod (by simp)).go0 M5 (by simp)).go0 A7.mod (by simp)
  have v0 := vPutL_len s.n (by omega)
  refine (SW_ok (B := w1.heap.size) (Sb.fresh f3 h7) (l2 := vPutL s.n) (by rw [List.length_nil]; omega) (by omega)).mono ?_
  rintro _ w8 ⟨rfl, hB8, W8⟩
  obtain ⟨p8, a8, n8, c8, hc8⟩ := Sb.cells hB8
  refine ⟨_, _, rfl, p8, a8, n8, c8, hc8, ?_⟩
  have modW : ∀ {w'}, Wr w1.heap.size b3 w7 w' → Mod [] w w' := fun W => W.mod N7 s1
  refine oplog_Text_rule1 (fun mm x p0 a0 n0 c0 w' => ∃ k : Nat, x = k ∧ k ≤ ll.length ∧ Sb w1.heap.size b3 (vPutL s.n ++ (ll.take k).flatMap fun q => callB q.x) w' ∧ Wr w1.heap.size b3 w7 w' ∧ mm = ll.length - k) ll.length ⟨0, rfl, by omega, by simpa using hB8, W8, rfl⟩ ?_
  rintro mm x p0 a0 n0 c0 w9 ⟨k, rfl, hk, hB9, W9, rfl⟩ h9
  have s9 := W9.bel.size
  have N9 := modW W9
  refine brB_dec (fun hlt => ?_) fun hge => ?_
  · obtain ⟨q, hq⟩ : ∃ q, ll[k]? = some q := ⟨_, List.getElem?_eq_getElem (by omega)⟩
    obtain ⟨gq1, gq2⟩ := good q (List.mem_of_getElem? hq)
    have hodd := oddC_out gq1
    refine (h.sl.keep0 N9).ix hq fun ad had => ldCV_of had ?_
    intro b10 f10 w10 A10 h10
    have l10 := A10.lt b10 (by simp)
    have s10 := A10.mod.size
    have N10 := N9.go0 A10.mod (by simp)
    refine (RPut_ok (o := q.x.op) ((h.op q (List.mem_of_getElem? hq)).keep0 N10)).mono ?_
    rintro _ w11 ⟨rfl, M11, hlen⟩
    rw [if_pos gq2]
    have s11 := M11.size
    refine ⟨_, _, rfl, Keep.of0 M11, _, _, _, _, M11.keep0 h10, ?_⟩
    intro w12 A12 h12
    have s12 := A12.mod.size
    obtain ⟨cN, hcN⟩ := Int.eq_ofNat_of_zero_le (show 0 ≤ q.x.c by omega)
    obtain ⟨nN, hnN⟩ := Int.eq_ofNat_of_zero_le (show 0 ≤ q.x.n by omega)
    rw [hcN, hnN, wrapU (by omega), wrapU (by omega)]
    refine (Put_ok cN (by omega) w12).mono ?_
    rintro _ w13 ⟨rfl, M13⟩
    have s13 := M13.size
    refine ⟨_, rfl, Keep.of0 M13, _, _, _, _, M13.keep0 h12, rfl, ?_⟩
    refine (Put_ok nN (by omega) w13).mono ?_
    rintro _ w14 ⟨rfl, M14⟩
    have s14 := M14.size
    refine ⟨_, rfl, Keep.of0 M14, _, _, _, _, M14.keep0 (M13.keep0 h12), ?_⟩
    have lc := vPutL_len cN (by omega)
    have ln := vPutL_len nN (by omega)
    have lo := opB_len (OpGood.of gq2)
    refine ⟨by show (bs (vPutL cN)).size + (bs (vPutL nN)).size ≤ _; rw [bs_size, bs_size]; omega, ?_⟩
    have e1 : vPut cN ++ vPut nN = bs (vPutL cN ++ vPutL nN) := bs_app _ _
    rw [e1]
    refine (PutText_ok (bs (opB q.x.op)) (by rw [bs_size]; omega) w14).mono ?_
    rintro _ w15 ⟨rfl, M15⟩
    have s15 := M15.size
    refine ⟨_, rfl, Keep.of0 M15, _, _, _, _, M15.keep0 (M14.keep0 (M13.keep0 h12)), ?_⟩
    have lp := (putT_len (bs (opB q.x.op)) (by rw [bs_size]; omega)).2
    rw [bs_size] at lp
    refine ⟨by rw [bs_size, bs_size, List.length_append]; omega, ?_⟩
    have e2 : bs (vPutL cN ++ vPutL nN) ++ bs (putT (bs (opB q.x.op))) = bs (callR q.x) := by
      rw [bs_app]; unfold callR; rw [hcN, hnN]; rfl
    rw [e2]
    have lr := callR_len gq1 gq2
    refine (Frame_ok (bs (callR q.x)) (by rw [bs_size]; omega) w15).mono ?_
    rintro _ w16 ⟨rfl, M16⟩
    have s16 := M16.size
    have K : Mod [] w9 w16 := ((((A10.mod.go0 M11 (by simp)).go0 A12.mod (by simp)).go0 M13 (by simp)).go0 M14 (by simp)).go0 (M15.go0 M16 (by simp)) (by simp)
    have hB16 := hB9.keep0 K
    obtain ⟨p16, a16, n16, c16, hc16⟩ := Sb.cells hB16
    refine ⟨_, rfl, Keep.of0 M16, p16, a16, n16, c16, hc16, ?_⟩
    have hlt2 : (vPutL s.n ++ (ll.take k).flatMap fun q => callB q.x).length ≤ 10 + 4096 * 40000 := by
      have e1 := flat_le (f := fun q : CV => callB q.x) (c := 40000) (l := ll.take k) fun q hq => (callB_len (good q (List.mem_of_mem_take hq)).1 (good q (List.mem_of_mem_take hq)).2).1
      have e3 : (ll.take k).length * 40000 ≤ 4096 * 40000 := Nat.mul_le_mul_right _ (by rw [List.length_take]; omega)
      rw [List.length_append]; omega
    have lcb := callB_len gq1 gq2
    refine (SW_ok (l2 := callB q.x) hB16 (by omega) (by omega)).mono ?_
    rintro _ w17 ⟨rfl, hB17, W17⟩
    obtain ⟨p17, a17, n17, c17, hc17⟩ := Sb.cells hB17
    refine ⟨_, _, rfl, W17.keepE fun k hk he => ?_, p17, a17, n17, c17, hc17, ?_⟩
    · simp at hk he
      subst hk
      exact ⟨he, .inr ⟨_, by simp; rfl, by decide⟩⟩
    refine oplog_Text_leaf1 (ll.length - (k + 1)) (by omega) ⟨k + 1, by rw [wrap_id (by omega) (by omega)]; omega, by omega, ?_, (W9.trans (Wr.of0 K (by omega))).trans W17, rfl⟩
    rw [take_flat hq, ← List.append_assoc]
    exact hB17
  · have hk : k = ll.length := by omega
    subst hk
    rw [List.take_length] at hB9
    have et : (vPutL s.n ++ ll.flatMap fun q => callB q.x) = textB (ll.map (·.x)) := by
      unfold textB; rw [el, hn, List.flatMap_map]
    rw [et] at hB9
    refine (SS_ok hB9 (by intro h0; have := congrArg List.length h0; rw [← et, List.length_append] at this; simp only [List.length_nil] at this; omega)).mono ?_
    rintro _ w10 ⟨rfl, hB10, W10⟩
    obtain ⟨p10, a10, n10, c10, hc10⟩ := Sb.cells hB10
    exact ⟨_, rfl, p10, a10, n10, c10, hc10, rfl, modW (W9.trans W10)⟩

/-! ### calls got -/
def call0 : PCall := ⟨0, 0, op0⟩
def cText (l : List UInt8) (b : Nat) : ByteArray := match txtA 65536 l b with
  | some p => p.1
  | none => ⟨#[]⟩
def callG (s : ByteArray) : PCall := match numA s.data.toList 0 with
  | none => call0
  | some p => match numA s.data.toList p.2 with
    | none => call0
    | some q => ⟨IntKind.wrap .i64 (p.1 : Nat), IntKind.wrap .i64 (q.1 : Nat), (getO (cText s.data.toList q.2)).getD op0⟩
theorem callG_put {x : PCall} (h : oddC x = false) (ho : opE x.op = 0) : callG (bs (callR x)) = x := by
  have h1 := oddC_out h
  have h2 := opB_len (OpGood.of ho)
  have e0 : (bs (callR x)).data.toList = vPutL x.c.toNat ++ (vPutL x.n.toNat ++ (putT (bs (opB x.op)) ++ [])) := by rw [bs_data]; simp [callR]
  have t1 := numA_put (l := (bs (callR x)).data.toList) (a := 0) (n := x.c.toNat) (by omega) (by rw [List.drop_zero]; exact e0)
  have d1 := drop_of (l := (bs (callR x)).data.toList) (a := 0) (x := vPutL x.c.toNat) (by rw [List.drop_zero]; exact e0)
  have t2 := numA_put (n := x.n.toNat) (by omega) d1
  have t3 := txtA_put (lim := 65536) (s := bs (opB x.op)) (by rw [bs_size]; omega) (by rw [bs_size]; omega) (drop_of d1)
  unfold callG cText
  rw [t1]
  dsimp only
  rw [t2]
  dsimp only
  rw [t3]
  dsimp only
  rw [getO_put ho]
  have e1 : IntKind.wrap .i64 ((x.c.toNat : Nat) : Int) = x.c := by rw [wrap_id (by omega) (by omega)]; omega
  have e2 : IntKind.wrap .i64 ((x.n.toNat : Nat) : Int) = x.n := by rw [wrap_id (by omega) (by omega)]; omega
  rw [e1, e2]; rfl
theorem OCall_ok {s : ByteArray} (hs : s.size ≤ 1000000) (w : World) :
    Calls Tryz.prog 89 #[.string s] w fun e w' => ∃ v, e = .returned v ∧ ∃ rs ts : Sl, v = (⟨callG s, rs, ts⟩ : CV).v ∧ OpOwn w' w.heap.size (callG s).op rs ts ∧ Mod [] w w' := by
  refine oplog_call_go ?_
  intro b1 f1 w2 A2
  have l1 := A2.lt b1 (by simp)
  have s2 := A2.mod.size
  have bad : ∀ {w3}, callG s = call0 → Mod [] w w3 → ∃ rs ts : Sl, (⟨call0, nilS, nilS⟩ : CV).v = (⟨callG s, rs, ts⟩ : CV).v ∧ OpOwn w3 w.heap.size (callG s).op rs ts ∧ Mod [] w w3 := fun {w3} e M => by
    rw [e]
    exact ⟨nilS, nilS, rfl, op0_own .., M⟩
  refine (GetN_ok s 0 (by omega) (by omega) w2).mono ?_
  rintro _ w3 ⟨v, rfl, hv, rfl⟩
  rw [List.drop_zero] at hv
  cases hg : vg 0 s.data.toList with
  | none =>
    rw [hg] at hv
    obtain ⟨e, he, rfl⟩ := hv
    refine ⟨_, _, _, rfl, Keep.of0 (Mod.refl _), ?_⟩
    rw [show (e != 0) = true by simpa using he]
    intro w4 A4
    exact bad (by simp [callG, numA, hg]) (A2.mod.go0 A4.mod (by simpa using f1))
  | some p =>
    rw [hg] at hv
    have hv : v = .tuple #[.int .u64 (p.1 : Nat), .int .i64 ((0 + p.2 : Nat) : Int), .int .i64 0] := hv
    subst hv
    have n1 : numA s.data.toList 0 = some (p.1, 0 + p.2) := by simp [numA, hg]
    have h8 := numA_le n1
    have el : s.data.toList.length = s.size := by simp
    refine ⟨_, _, _, rfl, Keep.of0 (Mod.refl _), ?_⟩
    rw [show ((0 : Int) != 0) = false from rfl, brB_false]
    refine (GetN_ok s (0 + p.2) (by omega) (by omega) w3).mono ?_
    rintro _ w4 ⟨v, rfl, hv, rfl⟩
    cases hg2 : vg 0 (s.data.toList.drop (0 + p.2)) with
    | none =>
      rw [hg2] at hv
      obtain ⟨e, he, rfl⟩ := hv
      have n2 : numA s.data.toList (0 + p.2) = none := by unfold numA; rw [hg2]; rfl
      refine ⟨_, _, _, rfl, Keep.of0 (Mod.refl _), ?_⟩
      rw [show (e != 0) = true by simpa using he]
      intro w5 A5
      exact bad (by unfold callG; rw [n1]; dsimp only; rw [n2]) (A2.mod.go0 A5.mod (by simpa using f1))
    | some q =>
      rw [hg2] at hv
      have hv : v = .tuple #[.int .u64 (q.1 : Nat), .int .i64 ((0 + p.2 + q.2 : Nat) : Int), .int .i64 0] := hv
      subst hv
      have n2 : numA s.data.toList (0 + p.2) = some (q.1, 0 + p.2 + q.2) := by unfold numA; rw [hg2]; rfl
      have h9 := numA_le n2
      have eG : callG s = ⟨IntKind.wrap .i64 (p.1 : Nat), IntKind.wrap .i64 (q.1 : Nat), (getO (cText s.data.toList (0 + p.2 + q.2))).getD op0⟩ := by
        unfold callG; rw [n1]; dsimp only; rw [n2]
      refine ⟨_, _, _, rfl, Keep.of0 (Mod.refl _), ?_⟩
      rw [show ((0 : Int) != 0) = false from rfl, brB_false]
      refine (GetText_ok s (0 + p.2 + q.2) 65536 (by omega) (by omega) (by omega) w4).mono ?_
      rintro _ w5 ⟨v, rfl, hv, rfl⟩
      have ht : ∃ (x y : Int), v = .tuple #[.string (cText s.data.toList (0 + p.2 + q.2)), .int .i64 x, .int .i64 y] ∧ (cText s.data.toList (0 + p.2 + q.2)).size ≤ 65536 := by
        unfold cText txtA
        cases hg3 : tg 65536 (s.data.toList.drop (0 + p.2 + q.2)) with
        | none =>
          rw [hg3] at hv
          obtain ⟨e, he, rfl⟩ := hv
          exact ⟨_, _, rfl, by show (⟨#[]⟩ : ByteArray).size ≤ 65536; decide⟩
        | some t =>
          rw [hg3] at hv
          have := tg_len (t := t.1) (m := t.2) hg3
          exact ⟨_, _, hv, this.2.2.1⟩
      obtain ⟨x, y, rfl, hts⟩ := ht
      refine ⟨_, _, _, rfl, Keep.of0 (Mod.refl _), ?_⟩
      refine (RGet_ok (s := cText s.data.toList (0 + p.2 + q.2)) (by omega) w5).mono ?_
      rintro _ w6 ⟨v, rfl, hv, M6⟩
      have s6 := M6.size
      have hv2 : ∃ (rs ts : Sl) (e : Int), v = .tuple #[((getO (cText s.data.toList (0 + p.2 + q.2))).getD op0).v rs ts, .int .i64 e] ∧ OpOwn w6 w5.heap.size ((getO (cText s.data.toList (0 + p.2 + q.2))).getD op0) rs ts := by
        cases hO : getO (cText s.data.toList (0 + p.2 + q.2)) with
        | none =>
          rw [hO] at hv
          exact ⟨nilS, nilS, 40, hv, op0_own ..⟩
        | some o =>
          rw [hO] at hv
          obtain ⟨rs, ts, rfl, hO⟩ := hv
          exact ⟨rs, ts, 0, rfl, hO⟩
      obtain ⟨rs, ts, e, rfl, hO⟩ := hv2
      refine ⟨_, _, _, _, _, _, _, _, _, _, _, _, _, _, _, _, _, _, _, rfl, Keep.of0 M6, ?_⟩
      intro b7 f7 w7 A7
      rw [eG]
      exact ⟨rs, ts, rfl, (hO.keepB A7.mod (by simp; omega)).rebase s2, (A2.mod.go0 M6 (by simp)).go0 A7.mod (by simpa using f1)⟩
end Go.Proofs.YtohgihgddknmmaaGreat

/- Calls of bytes. -/
namespace Go.Proofs.YtohgihgddknmmaaGreat
open Go Go.RowKit
set_option linter.unusedVariables false
set_option linter.unusedSimpArgs false

def cutA (lim : Nat) (l : List UInt8) (a : Nat) : Option (ByteArray × Nat) := (cg lim (l.drop a)).map fun p => (p.1, a + p.2)
theorem cutA_le {l : List UInt8} {a b lim : Nat} {t : ByteArray} (h : cutA lim l a = some (t, b)) : a < b ∧ b ≤ l.length ∧ t.size ≤ lim := by
  unfold cutA at h
  cases hv : cg lim (l.drop a) with
  | none => rw [hv] at h; cases h
  | some p =>
    have h1 := cg_len (t := p.1) (m := p.2) hv
    rw [hv] at h
    rw [List.length_drop] at h1
    simp at h
    obtain ⟨rfl, rfl⟩ := h
    omega
theorem cutA_put {l r : List UInt8} {a lim : Nat} {s : ByteArray} (hn : s.size ≤ lim) (hs : s.size < 18446744073709551616) (h : l.drop a = frameB s ++ r) : cutA lim l a = some (s, a + (frameB s).length) := by
  unfold cutA; rw [h, cg_put s r hn hs]; rfl
def rdC (l : List UInt8) : Nat → Option Nat → List PCall → Option Nat × List PCall
  | 0, st, xs => (st, xs)
  | _ + 1, none, xs => (none, xs)
  | k + 1, some a, xs => match cutA 65536 l a with
    | some p => rdC l k (some p.2) (xs ++ [callG p.1])
    | none => (none, xs ++ [callG ⟨#[]⟩])
theorem rdC_none (l : List UInt8) (k : Nat) (xs : List PCall) : rdC l k none xs = (none, xs) := by cases k <;> rfl
def parse0 (l : List UInt8) : Option Nat × List PCall := match numA l 0 with
  | some p => rdC l p.1 (some p.2) []
  | none => (none, [])
/-- The calls of bytes. -/
def parseO (s : ByteArray) : Option (List PCall) :=
  if (parse0 s.data.toList).1.isSome ∧ textE (parse0 s.data.toList).2 = 0 ∧ bs (textB (parse0 s.data.toList).2) = s then some (parse0 s.data.toList).2 else none
theorem textE_out {xs : List PCall} (h : textE xs = 0) : xs.length ≤ 4096 ∧ ∀ x ∈ xs, oddC x = false ∧ opE x.op = 0 := by
  unfold textE at h
  split at h
  · omega
  · exact ⟨by omega, checkE_ok.1 h⟩
theorem rdC_put {l : List UInt8} : ∀ (xs : List PCall) (hx : ∀ x ∈ xs, oddC x = false ∧ opE x.op = 0) (a : Nat) (r : List UInt8) (acc : List PCall), l.drop a = xs.flatMap callB ++ r → rdC l xs.length (some a) acc = (some (a + (xs.flatMap callB).length), acc ++ xs)
  | [], _, a, r, acc, h => by simp [rdC]
  | x :: xs, hx, a, r, acc, h => by
    rw [List.flatMap_cons, List.append_assoc] at h
    obtain ⟨h1, h2⟩ := hx x (by simp)
    have hl := callR_len h1 h2
    have t1 : cutA 65536 l a = some (bs (callR x), a + (callB x).length) := cutA_put (lim := 65536) (s := bs (callR x)) (by rw [bs_size]; omega) (by rw [bs_size]; omega) h
    simp only [List.length_cons, rdC, t1]
    rw [callG_put h1 h2, rdC_put xs (fun y hy => hx y (by simp [hy])) _ r _ (drop_of h)]
    simp [List.flatMap_cons, Nat.add_assoc]
theorem parseO_put {xs : List PCall} (h : textE xs = 0) : parseO (bs (textB xs)) = some xs := by
  obtain ⟨hl, hx⟩ := textE_out h
  have e0 : (bs (textB xs)).data.toList = vPutL xs.length ++ (xs.flatMap callB ++ []) := by rw [bs_data]; simp [textB]
  have t1 := numA_put (l := (bs (textB xs)).data.toList) (a := 0) (n := xs.length) (by omega) (by rw [List.drop_zero]; exact e0)
  have d1 := drop_of (l := (bs (textB xs)).data.toList) (a := 0) (x := vPutL xs.length) (by rw [List.drop_zero]; exact e0)
  have t2 := rdC_put xs hx _ _ [] d1
  have e : parse0 (bs (textB xs)).data.toList = (some (0 + (vPutL xs.length).length + (xs.flatMap callB).length), xs) := by
    unfold parse0; rw [t1]; dsimp only; rw [t2]; rfl
  unfold parseO
  rw [e]
  dsimp only
  rw [if_pos ⟨rfl, h, rfl⟩]
def ParseCV (w0 w : World) : Option (List PCall) → Value → Prop
  | some xs, v => ∃ s : Sl, v = .tuple #[.slice s.a s.n s.c, .int .i64 0] ∧ CallsOwn w w0.heap.size s xs
  | none, v => v = .tuple #[.slice none 0 0, .int .i64 162]
set_option maxHeartbeats 1000000 in
set_option maxRecDepth 20000 in
theorem OParse_ok {s : ByteArray} (hs : s.size ≤ 900000) (w : World) :
    Calls Tryz.prog 33 #[.string s] w fun e w' => ∃ v, e = .returned v ∧ ParseCV w w' (parseO s) v ∧ Mod [] w w' := by
  have el : s.data.toList.length = s.size := by simp
  refine oplog_Parse_go ?_
  refine (GetN_ok s 0 (by omega) (by omega) w).mono ?_
  rintro _ w1 ⟨v, rfl, hv, rfl⟩
  rw [List.drop_zero] at hv
  have hst : ∃ (n a0 : Nat) (e : Int), v = .tuple #[.int .u64 (n : Nat), .int .i64 (a0 : Nat), .int .i64 e] ∧ n < 18446744073709551616 ∧ a0 ≤ s.size ∧ parse0 s.data.toList = rdC s.data.toList n (if e = 0 then some a0 else none) [] := by
    cases hg : vg 0 s.data.toList with
    | none =>
      rw [hg] at hv
      obtain ⟨e, he, rfl⟩ := hv
      refine ⟨0, 0, e, rfl, by omega, by omega, ?_⟩
      rw [if_neg he]
      unfold parse0 numA; rw [List.drop_zero, hg]; rfl
    | some p =>
      rw [hg] at hv
      have hv : v = .tuple #[.int .u64 (p.1 : Nat), .int .i64 ((0 + p.2 : Nat) : Int), .int .i64 0] := hv
      have n1 : numA s.data.toList 0 = some (p.1, 0 + p.2) := by simp [numA, hg]
      have h8 := numA_le n1
      refine ⟨p.1, 0 + p.2, 0, hv, h8.2.2, by omega, ?_⟩
      rw [if_pos rfl]
      unfold parse0; rw [n1]
  obtain ⟨n, a0, e0, rfl, hn, ha0, hp⟩ := hst
  refine ⟨_, _, _, rfl, ?_⟩
  refine oplog_Parse_rule1 (fun mm x5 x6 aa nn cc x8 w' => ∃ (k a : Nat) (st : Option Nat) (l : List CV), x8 = k ∧ k ≤ n ∧ x5 = a ∧ a ≤ s.size ∧ (st = if x6 = 0 then some a else none) ∧ (st.isSome → l.length ≤ a) ∧ l.length ≤ s.size + 1 ∧ Row w' w1.heap.size 57 16 CV.cs aa nn cc l ∧ (∀ q ∈ l, OpOwn w' w1.heap.size q.x.op q.rs q.ts) ∧ Mod [] w1 w' ∧
    parse0 s.data.toList = rdC s.data.toList (n - k) st (l.map (·.x)) ∧ mm = n - k) n
    ⟨0, a0, _, [], rfl, by omega, rfl, ha0, rfl, by simp, by simp, Row.nil .., by simp, Mod.refl _, by simpa using hp, rfl⟩ ?_
  clear hp
  rintro mm x5 x6 aa nn cc x8 w2 ⟨k, a, st, l, rfl, hk, rfl, ha, hst, hla, hls, hRow, hOw, M2, hp, rfl⟩
  have s2 := M2.size
  have fin : (n - k = 0 ∨ st = none) → Calls Tryz.prog 31 #[(.slice aa nn cc)] w2 fun e w39 => ∃ s40 : ByteArray, ∃ x41 : Int, e = .returned (.tuple #[(.string s40), (.int .i64 x41)]) ∧
    brB (x6 != 0) (
      ParseCV w1 w39 (parseO s) (.tuple #[(.slice none 0 0), (.int .i64 162)]) ∧ Mod [] w1 w39)
    (
      brB (x41 != 0) (
        ParseCV w1 w39 (parseO s) (.tuple #[(.slice none 0 0), (.int .i64 162)]) ∧ Mod [] w1 w39)
      (
        brB (!(s40.toList == s.toList)) (
          ParseCV w1 w39 (parseO s) (.tuple #[(.slice none 0 0), (.int .i64 162)]) ∧ Mod [] w1 w39)
        (
          ParseCV w1 w39 (parseO s) (.tuple #[(.slice aa nn cc), (.int .i64 0)]) ∧ Mod [] w1 w39))) := fun hh => by
    have hpe : parse0 s.data.toList = (st, l.map (·.x)) := by
      rw [hp]
      rcases hh with hh | hh
      · rw [hh]; rfl
      · rw [hh, rdC_none]
    have hC : CsAt w2 ⟨aa, nn, cc⟩ l := ⟨hRow.sl CV.cs_len, fun q hq => (hOw q hq).at⟩
    refine (Text_ok hC (by omega)).mono ?_
    rintro _ w3 ⟨rfl, M3⟩
    have N3 := M2.go0 M3 (by simp)
    have no : parseO s = none → ParseCV w1 w3 (parseO s) (.tuple #[(.slice none 0 0), (.int .i64 162)]) ∧ Mod [] w1 w3 := fun h => by rw [h]; exact ⟨rfl, N3⟩
    have eO : parseO s = if st.isSome ∧ textE (l.map (·.x)) = 0 ∧ bs (textB (l.map (·.x))) = s then some (l.map (·.x)) else none := by unfold parseO; rw [hpe]
    refine ⟨_, _, rfl, ?_⟩
    refine brB_of (fun g => ?_) fun g => ?_
    · have g : x6 ≠ 0 := by simpa using g
      rw [if_neg g] at hst
      exact no (by rw [eO, hst]; rfl)
    have g : x6 = 0 := by simpa using g
    rw [if_pos g] at hst
    refine brB_of (fun g2 => ?_) fun g2 => ?_
    · have g2 : textE (l.map (·.x)) ≠ 0 := by simpa using g2
      exact no (by rw [eO, if_neg (fun h => g2 h.2.1)])
    have g2 : textE (l.map (·.x)) = 0 := by simpa using g2
    rw [if_pos g2, strEq]
    refine brB_of (fun g3 => ?_) fun g3 => ?_
    · have g3 : ¬ bs (textB (l.map (·.x))) = s := by simpa using g3
      exact no (by rw [eO, if_neg (fun h => g3 h.2.2)])
    · have g3 : bs (textB (l.map (·.x))) = s := by simpa using g3
      rw [eO, if_pos ⟨by rw [hst]; rfl, g2, g3⟩]
      exact ⟨⟨⟨aa, nn, cc⟩, rfl, l, hRow.keep0 M3, fun q hq => (hOw q hq).keep0 M3, rfl⟩, N3⟩
  refine brB_dec (fun hlt => ?_) fun hge => fin (.inl (by omega))
  refine brB_of (fun g => ?_) fun g => fin (.inr (by have g : x6 ≠ 0 := by simpa using g
                                                     rw [hst, if_neg g]))
  have g : x6 = 0 := by simpa using g
  subst g
  rw [if_pos rfl] at hst
  subst hst
  have hla : l.length ≤ a := hla rfl
  refine (CrcCut_ok s a 65536 (by omega) ha (by omega) w2).mono ?_
  rintro _ w3 ⟨v, rfl, hv, M3⟩
  have s3 := M3.size
  have hcut : ∃ (t : ByteArray) (b : Nat) (e : Int), v = .tuple #[.string t, .int .i64 (b : Nat), .int .i64 e] ∧ t.size ≤ 65536 ∧ b ≤ s.size ∧ (e = 0 → a < b) ∧
      rdC s.data.toList (n - k) (some a) (l.map (·.x)) = rdC s.data.toList (n - (k + 1)) (if e = 0 then some b else none) (l.map (·.x) ++ [callG t]) := by
    have ek : n - k = (n - (k + 1)) + 1 := by omega
    cases hg : cg 65536 (s.data.toList.drop a) with
    | none =>
      rw [hg] at hv
      obtain ⟨e, he, rfl⟩ := hv
      refine ⟨_, 0, e, rfl, by show (⟨#[]⟩ : ByteArray).size ≤ 65536; decide, by omega, fun h => absurd h he, ?_⟩
      have e1 : cutA 65536 s.data.toList a = none := by unfold cutA; rw [hg]; rfl
      rw [if_neg he, rdC_none, ek]
      simp only [rdC, e1]
    | some p =>
      rw [hg] at hv
      have hv : v = .tuple #[.string p.1, .int .i64 ((a + p.2 : Nat) : Int), .int .i64 0] := hv
      have e1 : cutA 65536 s.data.toList a = some (p.1, a + p.2) := by unfold cutA; rw [hg]; rfl
      have h8 := cutA_le e1
      refine ⟨p.1, a + p.2, 0, hv, h8.2.2, by omega, fun _ => h8.1, ?_⟩
      rw [if_pos rfl, ek]
      simp only [rdC, e1]
  obtain ⟨t, b, e, rfl, hts, hb, hab, hr⟩ := hcut
  refine ⟨_, _, _, rfl, ?_⟩
  refine (OCall_ok (s := t) (by omega) w3).mono ?_
  rintro _ w4 ⟨_, rfl, rs, ts, rfl, hO, M4⟩
  have s4 := M4.size
  refine ⟨_, _, _, _, _, _, _, _, _, _, _, _, _, _, _, _, _, _, _, _, rfl, ?_⟩
  refine al_of fun b5 w5 c5 M5 f5 => ?_
  have s5 := M5.size
  have K5 : Mod [] w2 w5 := (M3.go0 M4 (by simp)).go0 M5 (by simp)
  obtain ⟨i0, hi, hz0, hz1, hz2⟩ := info_parts infoCall
  refine append_of (x := (⟨callG t, rs, ts⟩ : CV)) (hRow.keep0 K5) Tryz.underlying39 hi hz0 hz1 hz2 rfl (by decide) c5 rfl (CV.cs_one _) (by omega) (by unfold maxLen; omega) (by omega) fun a' c' w6 hR6 hM6 => ?_
  have M6 := hM6 _ (rowS_ok aa)
  have hrow := rowS_block hRow
  have kp : ∀ {o rs ts}, OpOwn w5 w1.heap.size o rs ts → OpOwn w6 w1.heap.size o rs ts := fun hh => hh.keep M6 fun k hk cs T hc => by
    obtain ⟨_, _, cur, hcur⟩ := hrow k hk
    rw [K5.keep0 hcur] at hc; cases hc; decide
  refine oplog_Parse_leaf1 (n - (k + 1)) (by omega) ⟨k + 1, b, if e = 0 then some b else none, l ++ [⟨callG t, rs, ts⟩], ?_, by omega, rfl, hb, rfl, ?_, by simp; omega, hR6, fun y hy => ?_, (M2.go0 K5 (by simp)).go0 M6 fun i hi => (hrow i hi).1, ?_, rfl⟩
  · have e1 : ((k : Int) + 1) = ((k + 1 : Nat) : Int) := by omega
    rw [e1, wrapU (by omega)]
  · intro h
    have he : e = 0 := by
      by_cases he : e = 0
      · exact he
      · rw [if_neg he] at h; cases h
    have := hab he
    simp; omega
  · rcases List.mem_append.1 hy with hy | hy
    · exact kp ((hOw y hy).keep0 K5)
    · simp at hy; subst hy; exact kp ((hO.keep0 M5).rebase (by omega))
  · rw [hp, hr, List.map_append]; rfl

/-! ### whether calls are alike -/
theorem OSame1_ok {w : World} {p q : CV} (hp : OpAt w p.x.op p.rs p.ts) (hq : OpAt w q.x.op q.rs q.ts) :
    Calls Tryz.prog 94 #[p.v, q.v] w fun e w' => e = .returned (.bool (decide (p.x = q.x))) ∧ Mod [] w w' := by
  obtain ⟨⟨c1, n1, o1⟩, rs1, ts1⟩ := p
  obtain ⟨⟨c2, n2, o2⟩, rs2, ts2⟩ := q
  refine go_of (oplog_Same_1_go ?_)
  intro b1 f1 b2 f2
  refine brB_of (fun g1 => ?_) fun g1 => ?_
  · have g1 : c1 = c2 := by simpa using g1
    refine brB_of (fun g2 => ?_) fun g2 => ?_
    · have g2 : n1 = n2 := by simpa using g2
      intro w3 A3
      refine (OpSame_ok (hp.keep0 A3.mod) (hq.keep0 A3.mod)).mono ?_
      rintro _ w4 ⟨rfl, M4⟩
      refine ⟨_, rfl, Keep.of0 M4, by simp [g1, g2], A3.mod.go0 M4 (by simp)⟩
    · have g2 : ¬ n1 = n2 := by simpa using g2
      intro w3 A3
      exact ⟨by simp [g2], A3.mod⟩
  · have g1 : ¬ c1 = c2 := by simpa using g1
    intro w3 A3
    exact ⟨by simp [g1], A3.mod⟩
theorem OSame_ok {w : World} {s t : Sl} {la lb : List CV} (hA : CsAt w s la) (hB : CsAt w t lb) (hl : la.length ≤ 1000000) :
    Calls Tryz.prog 35 #[.slice s.a s.n s.c, .slice t.a t.n t.c] w fun e w' => e = .returned (.bool (decide (la.map (·.x) = lb.map (·.x)))) ∧ Mod [] w w' := by
  have e1 := hA.sl.1
  have e2 := hB.sl.1
  have main : Calls Tryz.prog 93 #[.slice s.a s.n s.c, .slice t.a t.n t.c, .func (.func 94) #[] #[]] w fun e w' => e = .returned (.bool (decide (la.map (·.x) = lb.map (·.x)))) ∧ Mod [] w w' := by
    refine go_of (slices_EqualFunc_api_Call_api_Call_api_Call_api_Call_go ?_)
    refine brB_of (fun g => ⟨congrArg Value.bool (decide_eq_false fun e => ?_).symm, Mod.refl _⟩) fun g => ?_
    · have := congrArg List.length e
      simp at this g
      omega
    have g : la.length = lb.length := by simp at g; omega
    refine slices_EqualFunc_api_Call_api_Call_api_Call_api_Call_rule1 (fun mm x w' => ∃ k : Nat, x = k ∧ k ≤ la.length ∧ (la.take k).map (·.x) = (lb.take k).map (·.x) ∧ Mod [] w w' ∧ mm = la.length - k) la.length ⟨0, rfl, by omega, by simp, Mod.refl _, rfl⟩ ?_
    rintro mm x w1 ⟨k, rfl, hk, ht, M1, rfl⟩
    refine brB_dec (fun hlt => ?_) fun hge => ?_
    · have g1 : k < la.length := by omega
      have g2 : k < lb.length := by omega
      obtain ⟨x, hx⟩ : ∃ x, la[k]? = some x := ⟨_, List.getElem?_eq_getElem g1⟩
      obtain ⟨y, hy⟩ : ∃ y, lb[k]? = some y := ⟨_, List.getElem?_eq_getElem g2⟩
      refine (hA.sl.keep0 M1).ix hx fun ad had => ldCV_of had ?_
      intro b2 f2
      refine (hB.sl.keep0 M1).ixW hy fun ad had => ?_
      intro w3 A3
      have l2 := A3.lt b2 (by simp)
      refine ldCV_of (had w3 A3.mod) ?_
      intro b4 f4 w5 A5
      have N5 := (M1.go0 A3.mod (by simp)).go0 A5.mod (by simp)
      refine (OSame1_ok (p := x) (q := y) ((hA.op x (List.mem_of_getElem? hx)).keep0 N5) ((hB.op y (List.mem_of_getElem? hy)).keep0 N5)).mono ?_
      rintro _ w6 ⟨rfl, M6⟩
      have N6 := N5.go0 M6 (by simp)
      refine ⟨_, rfl, Keep.of0 M6, brB_of (fun g3 => ?_) fun g3 => ?_⟩
      · have g3 : x.x ≠ y.x := by simpa using g3
        refine ⟨congrArg Value.bool (decide_eq_false fun e => g3 ?_).symm, N6⟩
        have := congrArg (fun l : List PCall => l[k]?) e
        simpa [hx, hy] using this
      · have g3 : x.x = y.x := by simpa using g3
        refine slices_EqualFunc_api_Call_api_Call_api_Call_api_Call_leaf1 (la.length - (k + 1)) (by omega) ⟨k + 1, by rw [wrap_id (by omega) (by omega)]; omega, by omega, ?_, N6, rfl⟩
        rw [List.take_add_one, List.take_add_one, hx, hy, List.map_append, List.map_append, ht]
        simp [g3]
    · have hk' : k = la.length := by omega
      subst hk'
      refine ⟨congrArg Value.bool (decide_eq_true ?_).symm, M1⟩
      rw [List.take_length, List.take_of_length_le (by omega)] at ht
      exact ht
  refine go_of (oplog_Same_go ?_)
  refine main.mono ?_
  rintro _ w1 ⟨rfl, M⟩
  exact ⟨_, rfl, rfl, M⟩
end Go.Proofs.YtohgihgddknmmaaGreat

/- A client asks all. -/
namespace Go.Proofs.YtohgihgddknmmaaGreat
open Go Go.RowKit Go.Shelf
set_option linter.unusedVariables false
set_option linter.unusedSimpArgs false

section
attribute [local go_sem] Oper.semAt_some
theorem CallsOwn.keepT {S : List Nat} {w w' : World} {base : Nat} {s : Sl} {xs : List PCall} (h : CallsOwn w base s xs) (M : Mod S w w') (hS : ∀ k ∈ S, ∀ cs T, w.heap[k]? = some (.cells cs T) → T ≠ 57 ∧ T ≠ 149 ∧ T ≠ 9) : CallsOwn w' base s xs := by
  obtain ⟨ll, h1, h2, h3⟩ := h
  exact ⟨ll, h1.keep M fun ad ha hk => by obtain ⟨_, cur, hc⟩ := h1.block ad ha; exact (hS _ hk _ _ hc).1 rfl, fun q hq => (h2 q hq).keep M fun k hk cs T hc => (hS k hk cs T hc).2, h3⟩
end

end Go.Proofs.YtohgihgddknmmaaGreat

/- Are commands, calls, messages the same? The document's answers. -/
namespace Go.Proofs.YtohgihgddknmmaaGreat
open Go Go.RowKit
set_option linter.unusedVariables false
set_option linter.unusedSimpArgs false

theorem TextsR_ok {w : World} {a1 a2 : Option Addr} {n1 c1 n2 c2 : Nat} {l1 l2 : List ByteArray} (h1 : SlAt w 1 encS a1 n1 l1) (h2 : SlAt w 1 encS a2 n2 l2) (hl : l1.length ≤ 1000000) :
    Calls Tryz.prog 121 #[.slice a1 n1 c1, .slice a2 n2 c2] w fun e w' => e = .returned (.bool (decide (l1 = l2))) ∧ Mod [] w w' := by
  refine go_of (ref04_Texts_go ?_)
  have e1 := h1.1
  have e2 := h2.1
  refine brB_of (fun h => ⟨congrArg Value.bool (decide_eq_false fun e => ?_).symm, Mod.refl _⟩) fun h => ?_
  · subst e
    rw [e1, e2] at h
    simp at h
  have hlen : l1.length = l2.length := by
    simp at h
    omega
  refine ref04_Texts_rule1 (fun mm x w' => ∃ k : Nat, x = k ∧ k ≤ l1.length ∧ l1.take k = l2.take k ∧ Mod [] w w' ∧ mm = l1.length - k) l1.length ⟨0, rfl, by omega, by simp, Mod.refl _, rfl⟩ ?_
  rintro mm x w1 ⟨k, rfl, hk, ht, M, rfl⟩
  refine brB_dec (fun hlt => ?_) fun hge => ?_
  · have g1 : k < l1.length := by omega
    have g2 : k < l2.length := by omega
    obtain ⟨x, hx⟩ : ∃ x, l1[k]? = some x := ⟨_, List.getElem?_eq_getElem g1⟩
    obtain ⟨y, hy⟩ : ∃ y, l2[k]? = some y := ⟨_, List.getElem?_eq_getElem g2⟩
    refine (h1.keep0 M).ix hx fun q hq => ldStr_of (by simpa [add_zero] using hq 0 _ rfl) ?_
    refine (h2.keep0 M).ix hy fun q hq => ldStr_of (by simpa [add_zero] using hq 0 _ rfl) ?_
    rw [strEq x y]
    refine brB_of (fun hne => ?_) fun heq => ?_
    rotate_left
    rotate_right
    · intro w2 A2
      refine ⟨congrArg Value.bool (decide_eq_false fun e => (show ¬ x = y by simpa using hne) ?_).symm, M.go0 A2.mod (by simp)⟩
      subst e
      rw [hx] at hy
      exact Option.some.inj hy
    · intro w2 A2
      have he : x = y := by simpa using heq
      subst he
      exact ref04_Texts_leaf1 (l1.length - (k + 1)) (by omega) ⟨k + 1, by rw [wrap_id (by omega) (by omega)]; omega, by omega, take_step ht hx hy, M.go0 A2.mod (by simp), rfl⟩
  · have hk : k = l1.length := by omega
    subst hk
    rw [List.take_length, hlen, List.take_length] at ht
    exact ⟨congrArg Value.bool (decide_eq_true ht).symm, M⟩
theorem RecordsR_ok {w : World} {a1 a2 : Option Addr} {n1 c1 n2 c2 : Nat} {l1 l2 : List PRec} (h1 : SlAt w 4 encR a1 n1 l1) (h2 : SlAt w 4 encR a2 n2 l2) (hl : l1.length ≤ 1000000) :
    Calls Tryz.prog 150 #[.slice a1 n1 c1, .slice a2 n2 c2] w fun e w' => e = .returned (.bool (decide (l1 = l2))) ∧ Mod [] w w' := by
  refine go_of (ref03_Records_go ?_)
  have e1 := h1.1
  have e2 := h2.1
  refine brB_of (fun h => ⟨congrArg Value.bool (decide_eq_false fun e => ?_).symm, Mod.refl _⟩) fun h => ?_
  · subst e
    rw [e1, e2] at h
    simp at h
  have hlen : l1.length = l2.length := by
    simp at h
    omega
  refine ref03_Records_rule1 (fun mm x w' => ∃ k : Nat, x = k ∧ k ≤ l1.length ∧ l1.take k = l2.take k ∧ Mod [] w w' ∧ mm = l1.length - k) l1.length ⟨0, rfl, by omega, by simp, Mod.refl _, rfl⟩ ?_
  rintro mm x w1 ⟨k, rfl, hk, ht, M, rfl⟩
  refine brB_dec (fun hlt => ?_) fun hge => ?_
  · have g1 : k < l1.length := by omega
    have g2 : k < l2.length := by omega
    obtain ⟨x, hx⟩ : ∃ x, l1[k]? = some x := ⟨_, List.getElem?_eq_getElem g1⟩
    obtain ⟨y, hy⟩ : ∃ y, l2[k]? = some y := ⟨_, List.getElem?_eq_getElem g2⟩
    refine (h1.keep0 M).ix hx fun q hq => ldBool_of (by simpa [add_zero] using hq 0 _ rfl) (ldStr_of (hq 1 _ rfl) (ldBool_of (hq 2 _ rfl) (ldStr_of (hq 3 _ rfl) ?_)))
    refine (h2.keep0 M).ix hy fun q hq => ldBool_of (by simpa [add_zero] using hq 0 _ rfl) (ldStr_of (hq 1 _ rfl) (ldBool_of (hq 2 _ rfl) (ldStr_of (hq 3 _ rfl) ?_)))
    refine ⟨_, fun w' _ => neR x y _ _ w', ?_⟩
    refine brB_dec (fun hne => ?_) fun heq => ?_
    · intro w2 A2
      refine ⟨congrArg Value.bool (decide_eq_false fun e => hne ?_).symm, M.go0 A2.mod (by simp)⟩
      subst e
      rw [hx] at hy
      exact Option.some.inj hy
    · intro w2 A2
      have he : x = y := Decidable.not_not.1 heq
      subst he
      exact ref03_Records_leaf1 (l1.length - (k + 1)) (by omega) ⟨k + 1, by rw [wrap_id (by omega) (by omega)]; omega, by omega, take_step ht hx hy, M.go0 A2.mod (by simp), rfl⟩
  · have hk : k = l1.length := by omega
    subst hk
    rw [List.take_length, hlen, List.take_length] at ht
    exact ⟨congrArg Value.bool (decide_eq_true ht).symm, M⟩
theorem BatchR_ok {w : World} {x y : PBatch} {s t : Sl} (h1 : SlAt w 4 encR s.a s.n x.recs) (h2 : SlAt w 4 encR t.a t.n y.recs) (hl : x.recs.length ≤ 1000000) :
    Calls Tryz.prog 120 #[x.v s, y.v t] w fun e w' => e = .returned (.bool (decide (x = y))) ∧ Mod [] w w' := by
  obtain ⟨a1, a2, a3, a4⟩ := x
  obtain ⟨b1, b2, b3, b4⟩ := y
  refine go_of (ref03_Same_go ?_)
  intro c1 f1 c2 f2
  simp only [PBatch.mk.injEq]
  refine brB_of (fun g1 => ?_) fun g1 => ?_
  · have g1 : a1 = b1 := by simpa using g1
    refine brB_of (fun g2 => ?_) fun g2 => ?_
    · have g2 : a2 = b2 := by simpa using g2
      refine brB_of (fun g3 => ?_) fun g3 => ?_
      · have g3 : a3 = b3 := by simpa using g3
        intro w1 A1
        refine (RecordsR_ok (h1.keep0 A1.mod) (h2.keep0 A1.mod) hl).mono ?_
        rintro e w2 ⟨rfl, M2⟩
        exact ⟨_, rfl, Keep.of0 M2, by simp [g1, g2, g3], A1.mod.go0 M2 (by simp)⟩
      · intro w1 A1
        exact ⟨congrArg Value.bool (decide_eq_false (by simp at g3; rintro ⟨_, _, h, _⟩; exact g3 h)).symm, A1.mod⟩
    · intro w1 A1
      exact ⟨congrArg Value.bool (decide_eq_false (by simp at g2; rintro ⟨_, h, _⟩; exact g2 h)).symm, A1.mod⟩
  · intro w1 A1
    exact ⟨congrArg Value.bool (decide_eq_false (by simp at g1; rintro ⟨h, _⟩; exact g1 h)).symm, A1.mod⟩

theorem ldOp_of {w : World} {a : Addr} {o : POp} {rs ts : Sl} {F : Int → ByteArray → Int → Int → Int → Int → Int → Int → Option Addr → Nat → Nat → ByteArray → ByteArray → Int → Bool → Option Addr → Nat → Nat → Prop} (h : ∀ j v, (o.cs rs ts)[j]? = some v → w.cell? (a.add j) = some v) (hF : F o.kind o.part.t o.part.n o.n o.off o.b.prod o.b.epoch o.b.seq rs.a rs.n rs.c o.g o.m o.gen o.robin ts.a ts.n ts.c) :
    ldInt .i64 w a fun x0 => ldStr w (a.add 1) fun x1 => ldInt .i64 w (a.add 2) fun x2 => ldInt .i64 w (a.add 3) fun x3 => ldInt .i64 w (a.add 4) fun x4 => ldInt .i64 w (a.add 5) fun x5 => ldInt .i64 w (a.add 6) fun x6 => ldInt .i64 w (a.add 7) fun x7 => ldSlice w (a.add 8) fun a8 n8 c8 => ldStr w (a.add 9) fun x9 => ldStr w (a.add 10) fun x10 => ldInt .i64 w (a.add 11) fun x11 => ldBool w (a.add 12) fun x12 => ldSlice w (a.add 13) fun a13 n13 c13 => F x0 x1 x2 x3 x4 x5 x6 x7 a8 n8 c8 x9 x10 x11 x12 a13 n13 c13 :=
  ldInt_of (x := o.kind) (by simpa [add_zero] using h 0 _ rfl) (ldStr_of (h 1 _ rfl) (ldInt_of (h 2 _ rfl) (ldInt_of (h 3 _ rfl) (ldInt_of (h 4 _ rfl) (ldInt_of (h 5 _ rfl) (ldInt_of (h 6 _ rfl) (ldInt_of (h 7 _ rfl) (ldSlice_of (h 8 _ rfl) (ldStr_of (h 9 _ rfl) (ldStr_of (h 10 _ rfl) (ldInt_of (h 11 _ rfl) (ldBool_of (h 12 _ rfl) (ldSlice_of (h 13 _ rfl) hF)))))))))))))

theorem OpR_ok {w : World} {x y : POp} {rs ts rs' ts' : Sl} (h1 : OpAt w x rs ts) (h2 : OpAt w y rs' ts') :
    Calls Tryz.prog 74 #[x.v rs ts, y.v rs' ts'] w fun e w' => e = .returned (.bool (decide (x = y))) ∧ Mod [] w w' := by
  obtain ⟨k1, p1, n1, o1, b1, g1, m1, e1, r1, t1⟩ := x
  obtain ⟨k2, p2, n2, o2, b2, g2, m2, e2, r2, t2⟩ := y
  refine go_of (ref04_Same_go ?_)
  intro c1 f1 c2 f2
  simp only [POp.mk.injEq]
  have no : ∀ {P : Prop} [Decidable P] {w' : World}, ¬ P → Mod [] w w' → (Value.bool false = Value.bool (decide P) ∧ Mod [] w w') := fun hn M => ⟨congrArg Value.bool (decide_eq_false hn).symm, M⟩
  refine brB_of (fun q1 => ?_) fun q1 => ?_
  rotate_left
  · intro w1 A1
    exact no (by simp at q1; rintro ⟨h, _⟩; exact q1 h) A1.mod
  have q1 : k1 = k2 := by simpa using q1
  intro w1 A1
  have M1 := A1.mod
  refine ⟨_, fun w' _ => eqPp p1 p2 _ _ w', brB_of (fun q2 => ?_) fun q2 => no (by simp at q2; rintro ⟨_, h, _⟩; exact q2 h) M1⟩
  have q2 : p1 = p2 := by simpa using q2
  refine brB_of (fun q3 => ?_) fun q3 => no (by simp at q3; rintro ⟨_, _, h, _⟩; exact q3 h) M1
  have q3 : n1 = n2 := by simpa using q3
  refine brB_of (fun q4 => ?_) fun q4 => no (by simp at q4; rintro ⟨_, _, _, h, _⟩; exact q4 h) M1
  have q4 : o1 = o2 := by simpa using q4
  refine (BatchR_ok (x := b1) (y := b2) (s := rs) (t := rs') (h1.recs.keep0 M1) (h2.recs.keep0 M1) h1.lr).mono ?_
  rintro e w2 ⟨rfl, M2⟩
  have N2 := M1.go0 M2 (by simp)
  refine ⟨_, rfl, Keep.of0 M2, brB_of (fun q9 => ?_) fun q9 => no (by simp at q9; rintro ⟨_, _, _, _, h, _⟩; exact q9 h) N2⟩
  have q9 : b1 = b2 := by simpa using q9
  rw [strEq, strEq]
  refine brB_of (fun q5 => ?_) fun q5 => no (by simp at q5; rintro ⟨_, _, _, _, _, h, _⟩; exact q5 h) N2
  have q5 : g1 = g2 := by simpa using q5
  refine brB_of (fun q6 => ?_) fun q6 => no (by simp at q6; rintro ⟨_, _, _, _, _, _, h, _⟩; exact q6 h) N2
  have q6 : m1 = m2 := by simpa using q6
  refine brB_of (fun q7 => ?_) fun q7 => no (by simp at q7; rintro ⟨_, _, _, _, _, _, _, h, _⟩; exact q7 h) N2
  have q7 : e1 = e2 := by simpa using q7
  refine brB_of (fun q8 => ?_) fun q8 => no (by simp at q8; rintro ⟨_, _, _, _, _, _, _, _, h, _⟩; exact q8 h) N2
  have q8 : r1 = r2 := by simpa using q8
  refine (TextsR_ok (h1.topics.keep0 N2) (h2.topics.keep0 N2) h1.lt).mono ?_
  rintro e w3 ⟨rfl, M3⟩
  exact ⟨_, rfl, Keep.of0 M3, by simp [q1, q2, q3, q4, q5, q6, q7, q8, q9], N2.go0 M3 (by simp)⟩

theorem op_cells {w : World} {q : CV} {a : Addr} (h : ∀ j v, q.cs[j]? = some v → w.cell? (a.add j) = some v) : ∀ j v, (q.x.op.cs q.rs q.ts)[j]? = some v → w.cell? ((a.add 2).add j) = some v := fun j v hv => by
  rw [add_add, Nat.add_comm 2 j]
  exact h (j + 2) v hv
theorem CallsR_ok {w : World} {s t : Sl} {xs ys : List PCall} (h : CallsAt w s xs) (h' : CallsAt w t ys) (hl : xs.length ≤ 1000000) :
    Calls Tryz.prog 28 #[.slice s.a s.n s.c, .slice t.a t.n t.c] w fun e w' => e = .returned (.bool (decide (xs = ys))) ∧ Mod [] w w' := by
  obtain ⟨la, hA, gA, rfl⟩ := h
  obtain ⟨lb, hB, gB, rfl⟩ := h'
  have hl : la.length ≤ 1000000 := by simpa using hl
  have e1 := hA.1
  have e2 := hB.1
  refine go_of (ref16_Same_go ?_)
  refine brB_of (fun g => ⟨congrArg Value.bool (decide_eq_false fun e => ?_).symm, Mod.refl _⟩) fun g => ?_
  · have := congrArg List.length e
    simp at this g
    omega
  have g : la.length = lb.length := by simp at g; omega
  refine ref16_Same_rule1 (fun mm x w' => ∃ k : Nat, x = k ∧ k ≤ la.length ∧ (la.take k).map (·.x) = (lb.take k).map (·.x) ∧ Mod [] w w' ∧ mm = la.length - k) la.length ⟨0, rfl, by omega, by simp, Mod.refl _, rfl⟩ ?_
  rintro mm x w1 ⟨k, rfl, hk, ht, M1, rfl⟩
  refine brB_dec (fun hlt => ?_) fun hge => ?_
  · have g1 : k < la.length := by omega
    have g2 : k < lb.length := by omega
    obtain ⟨x, hx⟩ : ∃ x, la[k]? = some x := ⟨_, List.getElem?_eq_getElem g1⟩
    obtain ⟨y, hy⟩ : ∃ y, lb[k]? = some y := ⟨_, List.getElem?_eq_getElem g2⟩
    have bad : ∀ {w'}, x.x ≠ y.x → Mod [] w w' → (Value.bool false = Value.bool (decide (la.map (·.x) = lb.map (·.x))) ∧ Mod [] w w') := fun {w'} hne M => by
      refine ⟨congrArg Value.bool (decide_eq_false fun e => hne ?_).symm, M⟩
      have := congrArg (fun l : List PCall => l[k]?) e
      simpa [hx, hy] using this
    refine (hA.keep0 M1).ixW hx fun q hq => ?_
    intro w2 A2
    have hq := hq w2 A2.mod
    have N2 := M1.go0 A2.mod (by simp)
    refine ldInt_of (x := x.x.c) (by simpa [add_zero] using hq 0 _ rfl) ?_
    refine (hB.keep0 N2).ix hy fun q' hq' => ldInt_of (x := y.x.c) (by simpa [add_zero] using hq' 0 _ rfl) ?_
    refine brB_of (fun h1 => bad (fun e => by simp [e] at h1) N2) fun h1 => ?_
    have h1 : x.x.c = y.x.c := by simpa using h1
    refine (hA.keep0 N2).ix hx fun q hq => ldInt_of (x := x.x.n) (hq 1 _ rfl) ?_
    refine (hB.keep0 N2).ix hy fun q' hq' => ldInt_of (x := y.x.n) (hq' 1 _ rfl) ?_
    refine brB_of (fun h2 => bad (fun e => by simp [e] at h2) N2) fun h2 => ?_
    have h2 : x.x.n = y.x.n := by simpa using h2
    refine (hA.keep0 N2).ix hx fun q hq => ldOp_of (op_cells hq) ?_
    refine (hB.keep0 N2).ix hy fun q' hq' => ldOp_of (op_cells hq') ?_
    refine (OpR_ok ((gA x (List.mem_of_getElem? hx)).keep0 N2) ((gB y (List.mem_of_getElem? hy)).keep0 N2)).mono ?_
    rintro e w3 ⟨rfl, M3⟩
    have N3 := N2.go0 M3 (by simp)
    refine ⟨_, rfl, brB_of (fun h3 => bad (fun e => by simp [e] at h3) N3) fun h3 => ?_⟩
    have h3 : x.x.op = y.x.op := by simpa using h3
    have he : x.x = y.x := by
      obtain ⟨⟨a, b, c⟩, _, _⟩ := x
      obtain ⟨⟨a', b', c'⟩, _, _⟩ := y
      simp at h1 h2 h3 ⊢; exact ⟨h1, h2, h3⟩
    exact ref16_Same_leaf1 (la.length - (k + 1)) (by omega) ⟨k + 1, by rw [wrap_id (by omega) (by omega)]; omega, by omega, by rw [List.take_add_one, List.take_add_one, hx, hy, List.map_append, List.map_append, ht]; simp [he], N3, rfl⟩
  · have hk : k = la.length := by omega
    subst hk
    rw [List.take_length, g, List.take_length] at ht
    exact ⟨congrArg Value.bool (decide_eq_true ht).symm, M1⟩

end Go.Proofs.YtohgihgddknmmaaGreat

/- The document's check of a command. -/
namespace Go.Proofs.YtohgihgddknmmaaGreat
open Go Go.RowKit
set_option linter.unusedVariables false
set_option linter.unusedSimpArgs false

/-! ### letters -/
def hasS (k : Int) : ByteArray := ⟨((hasL k).map UInt8.ofNat).toArray⟩
def amongB (s : ByteArray) (c : Int) : Bool := s.data.toList.any fun b => decide ((b.toNat : Int) = c)
theorem kind_cases {k : Int} (h0 : 0 ≤ k) (h1 : k ≤ 12) : k = 0 ∨ k = 1 ∨ k = 2 ∨ k = 3 ∨ k = 4 ∨ k = 5 ∨ k = 6 ∨ k = 7 ∨ k = 8 ∨ k = 9 ∨ k = 10 ∨ k = 11 ∨ k = 12 := by omega
theorem has_ok {k : Int} (h0 : 0 ≤ k) (h1 : k ≤ 12) (w : World) : Calls Tryz.prog 105 #[.int .i64 k] w fun e w' => e = .returned (.string (hasS k)) ∧ Mod [] w w' := by
  refine go_of (ref04_has_go ?_)
  refine al_of fun b w1 c1 M1 f1 => ?_
  rcases kind_cases h0 h1 with rfl | rfl | rfl | rfl | rfl | rfl | rfl | rfl | rfl | rfl | rfl | rfl | rfl
  all_goals exact ⟨_, rfl, by decide, by decide, ldStr_of (by rw [addr_add, cell_at c1]; rfl) ⟨rfl, M1⟩⟩
theorem Among_ok (s : ByteArray) (hs : s.size ≤ 1000000) (c : Int) (w : World) : Calls Tryz.prog 107 #[.string s, .int .u8 c] w fun e w' => e = .returned (.bool (amongB s c)) ∧ w' = w := by
  refine go_of (ref04_among_go ?_)
  refine ref04_among_rule1 (fun mm x w' => ∃ k : Nat, x = k ∧ k ≤ s.size ∧ ((s.data.toList.take k).any fun b => decide ((b.toNat : Int) = c)) = false ∧ w' = w ∧ mm = s.size - k) s.size ⟨0, rfl, by omega, by simp, rfl, rfl⟩ ?_
  rintro mm x w' ⟨k, rfl, hk, ha, rfl, rfl⟩
  refine brB_dec (fun hlt => ?_) fun hge => ?_
  · have hk' : k < s.size := by omega
    obtain ⟨b, hb, hv⟩ := byteAt_mem hk'
    refine ⟨by omega, by omega, ?_⟩
    rw [Int.toNat_natCast, hv]
    refine brB_of (fun g => ⟨congrArg Value.bool ?_, rfl⟩) fun g => ?_
    · have g : (b.toNat : Int) = c := by simpa using g
      symm
      rw [amongB, List.any_eq_true]
      exact ⟨b, List.mem_of_getElem? hb, by simp [g]⟩
    · have g : ¬ (b.toNat : Int) = c := by simpa using g
      refine ref04_among_leaf1 (s.size - (k + 1)) (by omega) ⟨k + 1, by rw [wrap_id (by omega) (by omega)]; omega, by omega, ?_, rfl, rfl⟩
      rw [take_any hb, ha]; simp [g]
  · have hk : k = s.size := by omega
    subst hk
    rw [List.take_of_length_le (by simp)] at ha
    exact ⟨by rw [amongB, ha], rfl⟩
theorem among_ha {k : Int} (h0 : 0 ≤ k) (h1 : k ≤ 12) : ∀ c ∈ [112, 116, 110, 111, 98, 103, 109, 101, 114, 108], amongB (hasS k) ((c : Nat) : Int) = ha k c := by
  rcases kind_cases h0 h1 with rfl | rfl | rfl | rfl | rfl | rfl | rfl | rfl | rfl | rfl | rfl | rfl | rfl
  all_goals decide
theorem AmongK_ok {k : Int} (h0 : 0 ≤ k) (h1 : k ≤ 12) {c : Nat} (hc : c ∈ [112, 116, 110, 111, 98, 103, 109, 101, 114, 108]) (w : World) : Calls Tryz.prog 107 #[.string (hasS k), .int .u8 (c : Nat)] w fun e w' => e = .returned (.bool (ha k c)) ∧ w' = w := by
  have := Among_ok (hasS k) (by rcases kind_cases h0 h1 with rfl | rfl | rfl | rfl | rfl | rfl | rfl | rfl | rfl | rfl | rfl | rfl | rfl <;> decide) (c : Nat) w
  rwa [among_ha h0 h1 c hc] at this

/-! ### texts in order -/
theorem less_drop : ∀ (k : Nat) (x y : List UInt8), x.take k = y.take k → k ≤ x.length → k ≤ y.length → Op.bytesLess x y = Op.bytesLess (x.drop k) (y.drop k)
  | 0, x, y, _, _, _ => rfl
  | k + 1, [], _, _, h, _ => by simp at h
  | k + 1, _, [], _, _, h => by simp at h
  | k + 1, a :: x, b :: y, h, h1, h2 => by
    simp at h
    obtain ⟨rfl, h⟩ := h
    rw [List.drop_succ_cons, List.drop_succ_cons, ← less_drop k x y h (by simpa using h1) (by simpa using h2), Op.bytesLess]
    have : ¬ a < a := UInt8.lt_irrefl a
    simp [this]
theorem LessR_ok (s t : ByteArray) (hs : s.size ≤ 1000000) (w : World) : Calls Tryz.prog 144 #[.string s, .string t] w fun e w' => e = .returned (.bool (lessB s t)) ∧ Mod [] w w' := by
  refine go_of (ref04_Less_go ?_)
  have hl : lessB s t = Op.bytesLess s.data.toList t.data.toList := by rw [lessB, Lib.toList_data, Lib.toList_data]
  have l1 : s.data.toList.length = s.size := by simp
  have l2 : t.data.toList.length = t.size := by simp
  refine ref04_Less_rule1 (fun mm x w' => ∃ k : Nat, x = k ∧ k ≤ s.size ∧ k ≤ t.size ∧ s.data.toList.take k = t.data.toList.take k ∧ Mod [] w w' ∧ mm = s.size - k) s.size ⟨0, rfl, by omega, by omega, by simp, Mod.refl _, rfl⟩ ?_
  rintro mm x w' ⟨k, rfl, hk, hk2, ht, M, rfl⟩
  have hd : lessB s t = Op.bytesLess (s.data.toList.drop k) (t.data.toList.drop k) := by rw [hl, less_drop k _ _ ht (by omega) (by omega)]
  have dn : ∀ (l : List UInt8), l.length ≤ k → l.drop k = [] := fun l h => List.drop_eq_nil_of_le h
  refine brB_dec (fun hlt => ?_) fun hge => ?_
  · refine brB_dec (fun hlt2 => ?_) fun hge2 => ?_
    · obtain ⟨a, ha, hva⟩ := byteAt_mem (s := s) (k := k) (by omega)
      obtain ⟨b, hb, hvb⟩ := byteAt_mem (s := t) (k := k) (by omega)
      refine ⟨by omega, by omega, by omega, by omega, ?_⟩
      rw [Int.toNat_natCast, hva, hvb]
      refine brB_of (fun g => ⟨by omega, by omega, by omega, by omega, ?_⟩) fun g => ?_
      · rw [Int.toNat_natCast, hva, hvb]
        intro w2 A2
        refine ⟨congrArg Value.bool ?_, M.go0 A2.mod (by simp)⟩
        have g : a ≠ b := fun e => by simp [e] at g
        have ea := List.getElem?_eq_some_iff.1 ha
        have eb := List.getElem?_eq_some_iff.1 hb
        rw [hd, List.drop_eq_getElem_cons ea.1, List.drop_eq_getElem_cons eb.1, ea.2, eb.2, Op.bytesLess]
        have : (a == b) = false := by simpa using g
        rw [this]
        simp [UInt8.lt_iff_toNat_lt]
      · have g : a = b := by
          have : (a.toNat : Int) = b.toNat := by simpa using g
          exact UInt8.toNat_inj.1 (by omega)
        subst g
        intro w2 A2
        exact ref04_Less_leaf1 (s.size - (k + 1)) (by omega) ⟨k + 1, by rw [wrap_id (by omega) (by omega)]; omega, by omega, by omega, take_step ht ha hb, M.go0 A2.mod (by simp), rfl⟩
    · refine ⟨congrArg Value.bool ?_, M⟩
      rw [hd, dn t.data.toList (by omega)]
      have : ¬ ((s.size : Int) < (t.size : Int)) := by omega
      rw [decide_eq_false this]
      cases (s.data.toList.drop k) <;> rfl
  · refine ⟨congrArg Value.bool ?_, M⟩
    rw [hd, dn s.data.toList (by omega)]
    by_cases h2 : t.size ≤ k
    · rw [dn t.data.toList (by omega), decide_eq_false (by omega)]; rfl
    · rw [decide_eq_true (by omega), List.drop_eq_getElem_cons (l := t.data.toList) (by omega)]; rfl
theorem NamesR_ok {w : World} {l : List ByteArray} {ts : Sl} (h : SlAt w 1 encS ts.a ts.n l) :
    Calls Tryz.prog 109 #[.slice ts.a ts.n ts.c] w fun e w' => e = .returned (.bool (namesB l)) ∧ Mod [] w w' := by
  have hn := h.1
  refine go_of (ref04_names_go ?_)
  refine brB_dec (fun g => ⟨by rw [namesB, decide_eq_false (by omega)]; rfl, Mod.refl _⟩) fun g1 => ?_
  refine brB_dec (fun g => ⟨by rw [namesB, decide_eq_false (by omega)]; rfl, Mod.refl _⟩) fun g2 => ?_
  have hN : namesB l = (l.all nameB && riseB l) := by rw [namesB, decide_eq_true (by omega)]; simp
  have no1 : ∀ {w' : World}, l.all nameB = false → Mod [] w w' → (Value.bool false = Value.bool (namesB l) ∧ Mod [] w w') := fun hf M => ⟨by rw [hN, hf]; rfl, M⟩
  have no2 : ∀ {w' : World}, riseB l = false → Mod [] w w' → (Value.bool false = Value.bool (namesB l) ∧ Mod [] w w') := fun hf M => ⟨by rw [hN, hf]; simp, M⟩
  have pre : ∀ k : Nat, riseB (l.take k) = false → riseB l = false := fun k => by
    induction hm : l.length - k generalizing k with
    | zero => intro hf; rwa [List.take_of_length_le (by omega)] at hf
    | succ n ih =>
      intro hf
      refine ih (k + 1) (by omega) ?_
      cases k with
      | zero => simp [riseB] at hf
      | succ k =>
        obtain ⟨x, hx⟩ : ∃ x, l[k]? = some x := ⟨_, List.getElem?_eq_getElem (by omega)⟩
        obtain ⟨y, hy⟩ : ∃ y, l[k + 1]? = some y := ⟨_, List.getElem?_eq_getElem (by omega)⟩
        rw [rise_take hx hy, hf]; rfl
  refine ref04_names_rule1 (fun mm x w' => ∃ k : Nat, x = k ∧ k ≤ l.length ∧ (l.take k).all nameB = true ∧ riseB (l.take k) = true ∧ Mod [] w w' ∧ mm = l.length - k) l.length ⟨0, rfl, by omega, by simp, by simp [riseB], Mod.refl _, rfl⟩ ?_
  rintro mm x w1 ⟨k, rfl, hk, ha, hr, M1, rfl⟩
  refine brB_dec (fun hlt => ?_) fun hge => ?_
  · obtain ⟨x, hx⟩ : ∃ x, l[k]? = some x := ⟨_, List.getElem?_eq_getElem (by omega)⟩
    refine (h.keep0 M1).ixW hx fun q hq => ?_
    intro w2 A2
    have N2 := M1.go0 A2.mod (by simp)
    refine ldStr_of (x := x) (by simpa [add_zero] using hq w2 A2.mod 0 _ rfl) ?_
    refine (RName_ok x w2).mono ?_
    rintro e w3 ⟨rfl, rfl⟩
    have ew : IntKind.wrap .i64 ((k : Int) + 1) = ((k + 1 : Nat) : Int) := by rw [wrap_id (by omega) (by omega)]; omega
    refine ⟨_, rfl, brB_of (fun g => no1 ?_ N2) fun g => ?_⟩
    · rw [List.all_eq_false]; exact ⟨x, List.mem_of_getElem? hx, by rw [notT g]; decide⟩
    have hx1 : nameB x = true := notF g
    have ha' : (l.take (k + 1)).all nameB = true := by rw [take_all hx, ha, hx1]; rfl
    refine brB_dec (fun g3 => ?_) fun g3 => ?_
    · obtain ⟨j, rfl⟩ : ∃ j, k = j + 1 := ⟨k - 1, by omega⟩
      obtain ⟨y, hy⟩ : ∃ y, l[j]? = some y := ⟨_, List.getElem?_eq_getElem (by omega)⟩
      rw [show IntKind.wrap .i64 (((j + 1 : Nat) : Int) - 1) = ((j : Nat) : Int) by rw [wrap_id (by omega) (by omega)]; omega]
      refine (h.keep0 N2).ix hy fun q hq => ldStr_of (x := y) (by simpa [add_zero] using hq 0 _ rfl) ?_
      refine (h.keep0 N2).ix hx fun q hq => ldStr_of (x := x) (by simpa [add_zero] using hq 0 _ rfl) ?_
      have hys : y.size ≤ 16 := by
        have := List.all_eq_true.1 ha y (List.mem_of_getElem? (i := j) (by rw [List.getElem?_take]; simp [hy]))
        simp [nameB] at this; omega
      refine (LessR_ok y x (by omega) _).mono ?_
      rintro e w4 ⟨rfl, M4⟩
      have N4 := N2.go0 M4 (by simp)
      refine ⟨_, rfl, brB_of (fun g => no2 (pre (j + 2) ?_) N4) fun g => ?_⟩
      · rw [rise_take hy hx, notT g]; simp
      · exact ref04_names_leaf1 (l.length - (j + 1 + 1)) (by omega) ⟨j + 1 + 1, ew, by omega, ha', by rw [rise_take hy hx, notF g, hr]; rfl, N4, rfl⟩
    · have hk0 : k = 0 := by omega
      subst hk0
      refine ref04_names_leaf1 (l.length - (0 + 1)) (by omega) ⟨0 + 1, ew, by omega, ha', ?_, N2, rfl⟩
      cases l <;> simp [riseB]
  · have : k = l.length := by omega
    subst this
    rw [List.take_length] at ha hr
    exact ⟨by rw [hN, ha, hr]; rfl, M1⟩

/-! ### batches -/
theorem AllR3_ok {w : World} {b : PBatch} {rs : Sl} (h : SlAt w 4 encR rs.a rs.n b.recs) :
    Calls Tryz.prog 111 #[b.v rs] w fun e w' => e = .returned (.int .i64 (batchE b)) ∧ Mod [] w w' := by
  refine go_of (ref03_All_go ?_)
  have hn := h.1
  intro b1 f1 w1 A1
  have l1 := A1.lt b1 (by simp)
  have bad : ∀ {k : Int} {w' : World}, batchE b = k → Mod [] w w' → (Value.int .i64 k = Value.int .i64 (batchE b) ∧ Mod [] w w') := fun e M => ⟨by rw [e], M⟩
  refine (Num3_ok b.prod w1).mono ?_
  rintro e w2 ⟨rfl, rfl⟩
  refine ⟨_, rfl, Keep.of0 (Mod.refl _), brB_of (fun q1 => bad (by rw [batchE, if_pos (by rw [notT q1]; rfl)]) A1.mod) fun q1 => ?_⟩
  refine (Num3_ok b.epoch w2).mono ?_
  rintro e w3 ⟨rfl, rfl⟩
  refine ⟨_, rfl, Keep.of0 (Mod.refl _), brB_of (fun q2 => bad (by rw [batchE, if_pos (by rw [notT q2]; simp)]) A1.mod) fun q2 => ?_⟩
  refine (Num3_ok b.seq w3).mono ?_
  rintro e w4 ⟨rfl, rfl⟩
  refine ⟨_, rfl, Keep.of0 (Mod.refl _), brB_of (fun q3 => bad (by rw [batchE, if_pos (by rw [notT q3]; simp)]) A1.mod) fun q3 => ?_⟩
  have e0 : batchE b = if b.recs.length = 0 then 30 else if b.recs.length > 16 then 2 else match b.recs.find? fun r => recE r ≠ 0 with | none => 0 | some r => recE r := by
    rw [batchE, if_neg (by rw [notF q1, notF q2, notF q3]; decide)]; rfl
  refine brB_of (fun q4 => bad (by rw [e0, if_pos (by simp at q4; omega)]) A1.mod) fun q4 => ?_
  rw [if_neg (by simp at q4; omega)] at e0
  refine brB_dec (fun q5 => bad (by rw [e0, if_pos (by omega)]) A1.mod) fun q5 => ?_
  rw [if_neg (by omega)] at e0
  refine ref03_All_rule1 (fun mm x w' => ∃ k : Nat, x = k ∧ k ≤ b.recs.length ∧ (∀ y ∈ b.recs.take k, recE y = 0) ∧ Mod [] w w' ∧ mm = b.recs.length - k) b.recs.length ⟨0, rfl, by omega, by simp, A1.mod, rfl⟩ ?_
  rintro mm x w5 ⟨k, rfl, hk, hz, M5, rfl⟩
  refine brB_dec (fun hlt => ?_) fun hge => ?_
  · obtain ⟨y, hy⟩ : ∃ y, b.recs[k]? = some y := ⟨_, List.getElem?_eq_getElem (by omega)⟩
    refine (h.keep0 M5).ix hy fun q hq => ldBool_of (by simpa [add_zero] using hq 0 _ rfl) (ldStr_of (hq 1 _ rfl) (ldBool_of (hq 2 _ rfl) (ldStr_of (hq 3 _ rfl) ?_)))
    refine (RefCheck_ok y w5).mono ?_
    rintro e w7 ⟨rfl, M7⟩
    have N7 := M5.go0 M7 (by simp)
    refine ⟨_, rfl, Keep.of0 M7, brB_of (fun q6 => ?_) fun q6 => ?_⟩
    · have q6 : recE y ≠ 0 := by simpa using q6
      exact bad (by rw [e0, find_take hy hz q6]) N7
    · have q6 : recE y = 0 := by simpa using q6
      refine ref03_All_leaf1 (b.recs.length - (k + 1)) (by omega) ⟨k + 1, by rw [wrap_id (by omega) (by omega)]; omega, by omega, ?_, N7, rfl⟩
      rw [List.take_add_one, hy]
      intro z hz'
      rcases List.mem_append.1 hz' with h | h
      · exact hz z h
      · simp at h; subst h; exact q6
  · have : k = b.recs.length := by omega
    subst this
    rw [List.take_length] at hz
    refine bad ?_ M5
    rw [e0, List.find?_eq_none.2 (by intro y hy; simp [hz y hy])]
end Go.Proofs.YtohgihgddknmmaaGreat

/- The document's check of a command is the checker's. -/
namespace Go.Proofs.YtohgihgddknmmaaGreat
open Go Go.RowKit
set_option linter.unusedVariables false
set_option linter.unusedSimpArgs false

theorem emptyS (s : ByteArray) : (s.toList == (⟨#[]⟩ : ByteArray).toList) = emptyB s := by
  rw [strEq, emptyB]
  apply Bool.eq_iff_iff.2
  simp only [decide_eq_true_eq]
  constructor
  · rintro rfl; rfl
  · intro h; exact ByteArray.ext (Array.eq_empty_of_size_eq_zero h)
theorem decN (x : Int) : decide (x = 0) = !(x != 0) := by
  by_cases h : x = 0 <;> simp [h]
theorem b0_eq (b : PBatch) (n : Nat) (hr : n = b.recs.length) : decide (b = batch0) = (!(b.prod != 0) && !(b.epoch != 0) && !(b.seq != 0) && !(decide ((n : Int) > 0))) := by
  obtain ⟨b1, b2, b3, b4⟩ := b
  subst hr
  by_cases h1 : b1 = 0 <;> by_cases h2 : b2 = 0 <;> by_cases h3 : b3 = 0 <;> cases b4 <;> simp [batch0, h1, h2, h3] <;> omega
theorem onlyB_eq {o : POp} {rs ts : Sl} (hr : rs.n = o.b.recs.length) (ht : ts.n = o.topics.length) : onlyB o = (((ha o.kind 112 || ha o.kind 116 || (o.part.t.toList == (⟨#[]⟩ : ByteArray).toList)) && (ha o.kind 112 || !(o.part.n != 0)) && (ha o.kind 110 || !(o.n != 0)) && (ha o.kind 111 || !(o.off != 0))) && (ha o.kind 98 || (!(o.b.prod != 0) && !(o.b.epoch != 0) && !(o.b.seq != 0) && !(decide ((rs.n : Int) > 0)))) && ((ha o.kind 103 || (o.g.toList == (⟨#[]⟩ : ByteArray).toList)) && (ha o.kind 109 || (o.m.toList == (⟨#[]⟩ : ByteArray).toList)) && (ha o.kind 101 || !(o.gen != 0))) && (ha o.kind 114 || (!o.robin && ((ts.n : Int) == 0)))) := by
  have ht0 : decide (o.topics = []) = ((ts.n : Int) == 0) := by
    rw [ht]
    cases o.topics <;> simp
    omega
  unfold onlyB
  rw [b0_eq o.b rs.n hr, ht0, emptyS, emptyS, emptyS, decN, decN, decN, decN]
  simp only [Bool.and_assoc]
set_option maxHeartbeats 4000000 in
theorem Only_ok {w : World} {o : POp} {rs ts : Sl} (h0 : 0 ≤ o.kind) (h1 : o.kind ≤ 12) (hr : rs.n = o.b.recs.length) (ht : ts.n = o.topics.length) :
    Calls Tryz.prog 106 #[o.v rs ts] w fun e w' => e = .returned (.bool (onlyB o)) ∧ Mod [] w w' := by
  have hO := onlyB_eq hr ht
  have A112 : ∀ w, Calls Tryz.prog 107 #[.string (hasS o.kind), .int .u8 112] w fun e w' => e = .returned (.bool (ha o.kind 112)) ∧ w' = w := fun w => AmongK_ok h0 h1 (c := 112) (by decide) w
  have A116 : ∀ w, Calls Tryz.prog 107 #[.string (hasS o.kind), .int .u8 116] w fun e w' => e = .returned (.bool (ha o.kind 116)) ∧ w' = w := fun w => AmongK_ok h0 h1 (c := 116) (by decide) w
  have A110 : ∀ w, Calls Tryz.prog 107 #[.string (hasS o.kind), .int .u8 110] w fun e w' => e = .returned (.bool (ha o.kind 110)) ∧ w' = w := fun w => AmongK_ok h0 h1 (c := 110) (by decide) w
  have A111 : ∀ w, Calls Tryz.prog 107 #[.string (hasS o.kind), .int .u8 111] w fun e w' => e = .returned (.bool (ha o.kind 111)) ∧ w' = w := fun w => AmongK_ok h0 h1 (c := 111) (by decide) w
  have A98 : ∀ w, Calls Tryz.prog 107 #[.string (hasS o.kind), .int .u8 98] w fun e w' => e = .returned (.bool (ha o.kind 98)) ∧ w' = w := fun w => AmongK_ok h0 h1 (c := 98) (by decide) w
  have A103 : ∀ w, Calls Tryz.prog 107 #[.string (hasS o.kind), .int .u8 103] w fun e w' => e = .returned (.bool (ha o.kind 103)) ∧ w' = w := fun w => AmongK_ok h0 h1 (c := 103) (by decide) w
  have A109 : ∀ w, Calls Tryz.prog 107 #[.string (hasS o.kind), .int .u8 109] w fun e w' => e = .returned (.bool (ha o.kind 109)) ∧ w' = w := fun w => AmongK_ok h0 h1 (c := 109) (by decide) w
  have A101 : ∀ w, Calls Tryz.prog 107 #[.string (hasS o.kind), .int .u8 101] w fun e w' => e = .returned (.bool (ha o.kind 101)) ∧ w' = w := fun w => AmongK_ok h0 h1 (c := 101) (by decide) w
  have A114 : ∀ w, Calls Tryz.prog 107 #[.string (hasS o.kind), .int .u8 114] w fun e w' => e = .returned (.bool (ha o.kind 114)) ∧ w' = w := fun w => AmongK_ok h0 h1 (c := 114) (by decide) w
  refine go_of (ref04_only_go ?_)
  intro b1 f1 w2 A2
  refine (has_ok h0 h1 w2).mono ?_
  rintro e w3 ⟨rfl, M3⟩
  refine ⟨_, rfl, Keep.of0 M3, ?_⟩
  have N3 := A2.mod.go0 M3 (by simp)
  have c6 : ((ha o.kind 112 || ha o.kind 116 || (o.part.t.toList == (⟨#[]⟩ : ByteArray).toList)) && (ha o.kind 112 || !(o.part.n != 0)) && (ha o.kind 110 || !(o.n != 0)) && (ha o.kind 111 || !(o.off != 0))) = true → (ha o.kind 98 || (!(o.b.prod != 0) && !(o.b.epoch != 0) && !(o.b.seq != 0) && !(decide ((rs.n : Int) > 0)))) = true → ((ha o.kind 103 || (o.g.toList == (⟨#[]⟩ : ByteArray).toList)) && (ha o.kind 109 || (o.m.toList == (⟨#[]⟩ : ByteArray).toList)) && (ha o.kind 101 || !(o.gen != 0))) = true → ref04_only_C6 (hasS o.kind) b1 o.kind o.part.t o.part.n o.n o.off o.b.prod o.b.epoch o.b.seq rs.a rs.n rs.c o.g o.m o.gen o.robin ts.a ts.n ts.c (fun v w' => v = .bool (onlyB o) ∧ Mod [] w w') w3 := fun q1 q2 q3 => by
    rw [q1, q2, q3] at hO
    refine (A114 _).mono ?_
    rintro e w' ⟨rfl, rfl⟩
    refine ⟨_, rfl, Keep.of0 (Mod.refl _), ?_⟩
    refine brB_of (fun g => ⟨?_, N3⟩) fun g => brB_of (fun g2 => ⟨?_, N3⟩) fun g2 => ⟨?_, N3⟩
    · rw [hO, g]; rfl
    · rw [hO, g, g2]; rfl
    · rw [hO, g, g2]; rfl
  have c5 : ∀ t : Bool, ((ha o.kind 112 || ha o.kind 116 || (o.part.t.toList == (⟨#[]⟩ : ByteArray).toList)) && (ha o.kind 112 || !(o.part.n != 0)) && (ha o.kind 110 || !(o.n != 0)) && (ha o.kind 111 || !(o.off != 0))) = true → (ha o.kind 98 || (!(o.b.prod != 0) && !(o.b.epoch != 0) && !(o.b.seq != 0) && !(decide ((rs.n : Int) > 0)))) = true → t = !((ha o.kind 103 || (o.g.toList == (⟨#[]⟩ : ByteArray).toList)) && (ha o.kind 109 || (o.m.toList == (⟨#[]⟩ : ByteArray).toList)) && (ha o.kind 101 || !(o.gen != 0))) → ref04_only_C5 (hasS o.kind) t b1 o.kind o.part.t o.part.n o.n o.off o.b.prod o.b.epoch o.b.seq rs.a rs.n rs.c o.g o.m o.gen o.robin ts.a ts.n ts.c (fun v w' => v = .bool (onlyB o) ∧ Mod [] w w') w3 := fun t q1 q2 e => by
    subst e
    refine brB_of (fun g => ⟨?_, N3⟩) fun g => ref04_only_at6 (c6 q1 q2 (notF g))
    rw [hO, q1, q2, notT g]; simp
  have c4 : ((ha o.kind 112 || ha o.kind 116 || (o.part.t.toList == (⟨#[]⟩ : ByteArray).toList)) && (ha o.kind 112 || !(o.part.n != 0)) && (ha o.kind 110 || !(o.n != 0)) && (ha o.kind 111 || !(o.off != 0))) = true → (ha o.kind 98 || (!(o.b.prod != 0) && !(o.b.epoch != 0) && !(o.b.seq != 0) && !(decide ((rs.n : Int) > 0)))) = true → ref04_only_C4 (hasS o.kind) b1 o.kind o.part.t o.part.n o.n o.off o.b.prod o.b.epoch o.b.seq rs.a rs.n rs.c o.g o.m o.gen o.robin ts.a ts.n ts.c (fun v w' => v = .bool (onlyB o) ∧ Mod [] w w') w3 := fun q1 q2 => by
    unfold ref04_only_C4
    clear c6 N3 hO
    have c := fun t => c5 t q1 q2
    clear c5 q1 q2
    generalize ha o.kind 103 = G at *
    generalize ha o.kind 109 = M at *
    generalize ha o.kind 101 = E at *
    generalize (o.g.toList == (⟨#[]⟩ : ByteArray).toList) = eg at *
    generalize (o.m.toList == (⟨#[]⟩ : ByteArray).toList) = em at *
    generalize (o.gen != 0) = zg at *
    repeat' (first | ((with_reducible refine brB_of (fun g => ?_) fun g => ?_) <;> first | exact absurd g (by decide) | subst g | (replace g := notT g; subst g) | (replace g := notF g; subst g) | clear g) | (with_reducible refine Calls.mono (A112 _) ?_; rintro e w' ⟨rfl, rfl⟩; refine ⟨_, rfl, Keep.of0 (Mod.refl _), ?_⟩) | (with_reducible refine Calls.mono (A116 _) ?_; rintro e w' ⟨rfl, rfl⟩; refine ⟨_, rfl, Keep.of0 (Mod.refl _), ?_⟩) | (with_reducible refine Calls.mono (A110 _) ?_; rintro e w' ⟨rfl, rfl⟩; refine ⟨_, rfl, Keep.of0 (Mod.refl _), ?_⟩) | (with_reducible refine Calls.mono (A111 _) ?_; rintro e w' ⟨rfl, rfl⟩; refine ⟨_, rfl, Keep.of0 (Mod.refl _), ?_⟩) | (with_reducible refine Calls.mono (A98 _) ?_; rintro e w' ⟨rfl, rfl⟩; refine ⟨_, rfl, Keep.of0 (Mod.refl _), ?_⟩) | (with_reducible refine Calls.mono (A103 _) ?_; rintro e w' ⟨rfl, rfl⟩; refine ⟨_, rfl, Keep.of0 (Mod.refl _), ?_⟩) | (with_reducible refine Calls.mono (A109 _) ?_; rintro e w' ⟨rfl, rfl⟩; refine ⟨_, rfl, Keep.of0 (Mod.refl _), ?_⟩) | (with_reducible refine Calls.mono (A101 _) ?_; rintro e w' ⟨rfl, rfl⟩; refine ⟨_, rfl, Keep.of0 (Mod.refl _), ?_⟩) | (with_reducible refine Calls.mono (A114 _) ?_; rintro e w' ⟨rfl, rfl⟩; refine ⟨_, rfl, Keep.of0 (Mod.refl _), ?_⟩))
    all_goals exact ref04_only_at5 (c _ (by first | rfl | simp))
  have c3 : ∀ t : Bool, ((ha o.kind 112 || ha o.kind 116 || (o.part.t.toList == (⟨#[]⟩ : ByteArray).toList)) && (ha o.kind 112 || !(o.part.n != 0)) && (ha o.kind 110 || !(o.n != 0)) && (ha o.kind 111 || !(o.off != 0))) = true → t = !(ha o.kind 98 || (!(o.b.prod != 0) && !(o.b.epoch != 0) && !(o.b.seq != 0) && !(decide ((rs.n : Int) > 0)))) → ref04_only_C3 (hasS o.kind) t b1 o.kind o.part.t o.part.n o.n o.off o.b.prod o.b.epoch o.b.seq rs.a rs.n rs.c o.g o.m o.gen o.robin ts.a ts.n ts.c (fun v w' => v = .bool (onlyB o) ∧ Mod [] w w') w3 := fun t q1 e => by
    subst e
    refine brB_of (fun g => ⟨?_, N3⟩) fun g => ref04_only_at4 (c4 q1 (notF g))
    rw [hO, q1, notT g]; simp
  have c2 : ((ha o.kind 112 || ha o.kind 116 || (o.part.t.toList == (⟨#[]⟩ : ByteArray).toList)) && (ha o.kind 112 || !(o.part.n != 0)) && (ha o.kind 110 || !(o.n != 0)) && (ha o.kind 111 || !(o.off != 0))) = true → ref04_only_C2 (hasS o.kind) b1 o.kind o.part.t o.part.n o.n o.off o.b.prod o.b.epoch o.b.seq rs.a rs.n rs.c o.g o.m o.gen o.robin ts.a ts.n ts.c (fun v w' => v = .bool (onlyB o) ∧ Mod [] w w') w3 := fun q1 => by
    unfold ref04_only_C2
    clear c6 N3 hO c4 c5
    have c := fun t => c3 t q1
    clear c3 q1
    generalize ha o.kind 98 = B at *
    generalize (o.b.prod != 0) = z5 at *
    generalize (o.b.epoch != 0) = z6 at *
    generalize (o.b.seq != 0) = z7 at *
    generalize decide ((rs.n : Int) > 0) = z8 at *
    repeat' (first | ((with_reducible refine brB_of (fun g => ?_) fun g => ?_) <;> first | exact absurd g (by decide) | subst g | (replace g := notT g; subst g) | (replace g := notF g; subst g) | clear g) | (with_reducible refine Calls.mono (A112 _) ?_; rintro e w' ⟨rfl, rfl⟩; refine ⟨_, rfl, Keep.of0 (Mod.refl _), ?_⟩) | (with_reducible refine Calls.mono (A116 _) ?_; rintro e w' ⟨rfl, rfl⟩; refine ⟨_, rfl, Keep.of0 (Mod.refl _), ?_⟩) | (with_reducible refine Calls.mono (A110 _) ?_; rintro e w' ⟨rfl, rfl⟩; refine ⟨_, rfl, Keep.of0 (Mod.refl _), ?_⟩) | (with_reducible refine Calls.mono (A111 _) ?_; rintro e w' ⟨rfl, rfl⟩; refine ⟨_, rfl, Keep.of0 (Mod.refl _), ?_⟩) | (with_reducible refine Calls.mono (A98 _) ?_; rintro e w' ⟨rfl, rfl⟩; refine ⟨_, rfl, Keep.of0 (Mod.refl _), ?_⟩) | (with_reducible refine Calls.mono (A103 _) ?_; rintro e w' ⟨rfl, rfl⟩; refine ⟨_, rfl, Keep.of0 (Mod.refl _), ?_⟩) | (with_reducible refine Calls.mono (A109 _) ?_; rintro e w' ⟨rfl, rfl⟩; refine ⟨_, rfl, Keep.of0 (Mod.refl _), ?_⟩) | (with_reducible refine Calls.mono (A101 _) ?_; rintro e w' ⟨rfl, rfl⟩; refine ⟨_, rfl, Keep.of0 (Mod.refl _), ?_⟩) | (with_reducible refine Calls.mono (A114 _) ?_; rintro e w' ⟨rfl, rfl⟩; refine ⟨_, rfl, Keep.of0 (Mod.refl _), ?_⟩))
    all_goals exact ref04_only_at3 (c _ (by first | rfl | simp))
  have c1 : ∀ t : Bool, t = !((ha o.kind 112 || ha o.kind 116 || (o.part.t.toList == (⟨#[]⟩ : ByteArray).toList)) && (ha o.kind 112 || !(o.part.n != 0)) && (ha o.kind 110 || !(o.n != 0)) && (ha o.kind 111 || !(o.off != 0))) → ref04_only_C1 (hasS o.kind) t b1 o.kind o.part.t o.part.n o.n o.off o.b.prod o.b.epoch o.b.seq rs.a rs.n rs.c o.g o.m o.gen o.robin ts.a ts.n ts.c (fun v w' => v = .bool (onlyB o) ∧ Mod [] w w') w3 := fun t e => by
    subst e
    refine brB_of (fun g => ⟨?_, N3⟩) fun g => ref04_only_at2 (c2 (notF g))
    rw [hO, notT g]; simp
  clear c2 c3 c4 c5 c6 N3 hO
  generalize ha o.kind 112 = P at *
  generalize ha o.kind 116 = T at *
  generalize ha o.kind 110 = N at *
  generalize ha o.kind 111 = O at *
  generalize (o.part.t.toList == (⟨#[]⟩ : ByteArray).toList) = et at *
  generalize (o.part.n != 0) = z2 at *
  generalize (o.n != 0) = z3 at *
  generalize (o.off != 0) = z4 at *
  repeat' (first | ((with_reducible refine brB_of (fun g => ?_) fun g => ?_) <;> first | exact absurd g (by decide) | subst g | (replace g := notT g; subst g) | (replace g := notF g; subst g) | clear g) | (with_reducible refine Calls.mono (A112 _) ?_; rintro e w' ⟨rfl, rfl⟩; refine ⟨_, rfl, Keep.of0 (Mod.refl _), ?_⟩) | (with_reducible refine Calls.mono (A116 _) ?_; rintro e w' ⟨rfl, rfl⟩; refine ⟨_, rfl, Keep.of0 (Mod.refl _), ?_⟩) | (with_reducible refine Calls.mono (A110 _) ?_; rintro e w' ⟨rfl, rfl⟩; refine ⟨_, rfl, Keep.of0 (Mod.refl _), ?_⟩) | (with_reducible refine Calls.mono (A111 _) ?_; rintro e w' ⟨rfl, rfl⟩; refine ⟨_, rfl, Keep.of0 (Mod.refl _), ?_⟩) | (with_reducible refine Calls.mono (A98 _) ?_; rintro e w' ⟨rfl, rfl⟩; refine ⟨_, rfl, Keep.of0 (Mod.refl _), ?_⟩) | (with_reducible refine Calls.mono (A103 _) ?_; rintro e w' ⟨rfl, rfl⟩; refine ⟨_, rfl, Keep.of0 (Mod.refl _), ?_⟩) | (with_reducible refine Calls.mono (A109 _) ?_; rintro e w' ⟨rfl, rfl⟩; refine ⟨_, rfl, Keep.of0 (Mod.refl _), ?_⟩) | (with_reducible refine Calls.mono (A101 _) ?_; rintro e w' ⟨rfl, rfl⟩; refine ⟨_, rfl, Keep.of0 (Mod.refl _), ?_⟩) | (with_reducible refine Calls.mono (A114 _) ?_; rintro e w' ⟨rfl, rfl⟩; refine ⟨_, rfl, Keep.of0 (Mod.refl _), ?_⟩))
  all_goals exact ref04_only_at1 (c1 _ (by first | rfl | simp))
end Go.Proofs.YtohgihgddknmmaaGreat

/- The document's check of a command, whole. -/
namespace Go.Proofs.YtohgihgddknmmaaGreat
open Go Go.RowKit
set_option linter.unusedVariables false
set_option linter.unusedSimpArgs false

set_option maxHeartbeats 4000000 in
theorem CheckR_ok {w : World} {o : POp} {rs ts : Sl} (h1 : SlAt w 4 encR rs.a rs.n o.b.recs) (h2 : SlAt w 1 encS ts.a ts.n o.topics) :
    Calls Tryz.prog 63 #[o.v rs ts] w fun e w' => e = .returned (.int .i64 (opE o)) ∧ Mod [] w w' := by
  refine go_of (ref04_Check_go ?_)
  intro b1 f1
  refine brB_dec (fun g => fun w2 A2 => ⟨by rw [opE, if_pos (.inl g)], A2.mod⟩) fun k0 => ?_
  refine brB_dec (fun g => fun w2 A2 => ⟨by rw [opE, if_pos (.inr g)], A2.mod⟩) fun k1 => ?_
  have k0 : 0 ≤ o.kind := by omega
  have k1 : o.kind ≤ 12 := by omega
  have hE : opE o = if formB o = false then 40 else if (num o.part.n && num o.n && num o.off && num o.gen) = false then 1 else if o.kind = 2 then batchE o.b else 0 := by rw [opE, if_neg (by omega)]
  intro w4 A4
  refine (has_ok k0 k1 w4).mono ?_
  rintro e w5 ⟨rfl, M5⟩
  refine ⟨_, rfl, Keep.of0 M5, ?_⟩
  have N5 := A4.mod.go0 M5 (by simp)
  refine (Only_ok k0 k1 h1.1 h2.1).mono ?_
  rintro e w7 ⟨rfl, M7⟩
  refine ⟨_, rfl, Keep.of0 M7, ?_⟩
  have N7 := N5.go0 M7 (by simp)
  have bad : ∀ w', formB o = false → Mod [] w w' → (Value.int .i64 40 = Value.int .i64 (opE o) ∧ Mod [] w w') := fun w' hf M => ⟨by rw [hE, if_pos hf], M⟩
  have c1 : ∀ w', formB o = true → Mod [] w w' → ref04_Check_C1 b1 o.kind o.part.t o.part.n o.n o.off o.b.prod o.b.epoch o.b.seq rs.a rs.n rs.c o.g o.m o.gen o.robin ts.a ts.n ts.c (fun v w' => v = .int .i64 (opE o) ∧ Mod [] w w') w' := fun w' hf N => by
    rw [if_neg (by rw [hf]; decide)] at hE
    have no : ∀ {k : Int} {w'' : World}, opE o = k → Mod [] w w'' → (Value.int .i64 k = Value.int .i64 (opE o) ∧ Mod [] w w'') := fun e M => ⟨by rw [e], M⟩
    refine (Num3_ok o.part.n w').mono ?_
    rintro e w8 ⟨rfl, rfl⟩
    refine ⟨_, rfl, Keep.of0 (Mod.refl _), brB_of (fun g => no (by rw [hE, if_pos (by rw [notT g]; rfl)]) N) fun g1 => ?_⟩
    refine (Num3_ok o.n w8).mono ?_
    rintro e w9 ⟨rfl, rfl⟩
    refine ⟨_, rfl, Keep.of0 (Mod.refl _), brB_of (fun g => no (by rw [hE, if_pos (by rw [notT g]; simp)]) N) fun g2 => ?_⟩
    refine (Num3_ok o.off w9).mono ?_
    rintro e w10 ⟨rfl, rfl⟩
    refine ⟨_, rfl, Keep.of0 (Mod.refl _), brB_of (fun g => no (by rw [hE, if_pos (by rw [notT g]; simp)]) N) fun g3 => ?_⟩
    refine (Num3_ok o.gen w10).mono ?_
    rintro e w11 ⟨rfl, rfl⟩
    refine ⟨_, rfl, Keep.of0 (Mod.refl _), brB_of (fun g => no (by rw [hE, if_pos (by rw [notT g]; simp)]) N) fun g4 => ?_⟩
    rw [if_neg (by rw [notF g1, notF g2, notF g3, notF g4]; decide)] at hE
    refine brB_of (fun g => ?_) fun g => no (by rw [hE, if_neg (by simpa using g)]) N
    refine (AllR3_ok (b := o.b) (rs := rs) (h1.keep0 N)).mono ?_
    rintro e w12 ⟨rfl, M12⟩
    exact ⟨_, rfl, Keep.of0 M12, no (by rw [hE, if_pos (by simpa using g)]) (N.go0 M12 (by simp))⟩
  have hNs := fun w' (M : Mod [] w7 w') => NamesR_ok (l := o.topics) (ts := ts) (h2.keep0 (N7.go0 M (by simp)))
  have hN1 := RName_ok o.part.t
  have hN2 := RName_ok o.g
  have hN3 := RName_ok o.m
  unfold formB at bad c1
  have A112 : ∀ w, Calls Tryz.prog 107 #[.string (hasS o.kind), .int .u8 112] w fun e w' => e = .returned (.bool (ha o.kind 112)) ∧ w' = w := fun w => AmongK_ok k0 k1 (c := 112) (by decide) w
  have A116 : ∀ w, Calls Tryz.prog 107 #[.string (hasS o.kind), .int .u8 116] w fun e w' => e = .returned (.bool (ha o.kind 116)) ∧ w' = w := fun w => AmongK_ok k0 k1 (c := 116) (by decide) w
  have A103 : ∀ w, Calls Tryz.prog 107 #[.string (hasS o.kind), .int .u8 103] w fun e w' => e = .returned (.bool (ha o.kind 103)) ∧ w' = w := fun w => AmongK_ok k0 k1 (c := 103) (by decide) w
  have A109 : ∀ w, Calls Tryz.prog 107 #[.string (hasS o.kind), .int .u8 109] w fun e w' => e = .returned (.bool (ha o.kind 109)) ∧ w' = w := fun w => AmongK_ok k0 k1 (c := 109) (by decide) w
  have A108 : ∀ w, Calls Tryz.prog 107 #[.string (hasS o.kind), .int .u8 108] w fun e w' => e = .returned (.bool (ha o.kind 108)) ∧ w' = w := fun w => AmongK_ok k0 k1 (c := 108) (by decide) w
  clear hE h1 h2 N5 M7
  generalize ha o.kind 112 = P at *
  generalize ha o.kind 116 = T at *
  generalize ha o.kind 103 = G at *
  generalize ha o.kind 109 = M at *
  generalize ha o.kind 108 = L at *
  generalize nameB o.part.t = n1 at *
  generalize nameB o.g = n2 at *
  generalize nameB o.m = n3 at *
  generalize namesB o.topics = ns at *
  generalize onlyB o = on at *
  repeat' (first | ((with_reducible refine brB_of (fun g => ?_) fun g => ?_) <;> first | exact absurd g (by decide) | subst g | (replace g := notT g; subst g) | (replace g := notF g; subst g) | clear g) | (with_reducible refine Calls.mono (A112 _) ?_; rintro e w' ⟨rfl, rfl⟩; refine ⟨_, rfl, Keep.of0 (Mod.refl _), ?_⟩) | (with_reducible refine Calls.mono (A116 _) ?_; rintro e w' ⟨rfl, rfl⟩; refine ⟨_, rfl, Keep.of0 (Mod.refl _), ?_⟩) | (with_reducible refine Calls.mono (A103 _) ?_; rintro e w' ⟨rfl, rfl⟩; refine ⟨_, rfl, Keep.of0 (Mod.refl _), ?_⟩) | (with_reducible refine Calls.mono (A109 _) ?_; rintro e w' ⟨rfl, rfl⟩; refine ⟨_, rfl, Keep.of0 (Mod.refl _), ?_⟩) | (with_reducible refine Calls.mono (A108 _) ?_; rintro e w' ⟨rfl, rfl⟩; refine ⟨_, rfl, Keep.of0 (Mod.refl _), ?_⟩) | (with_reducible refine Calls.mono (hN1 _) ?_; rintro e w' ⟨rfl, rfl⟩; refine ⟨_, rfl, Keep.of0 (Mod.refl _), ?_⟩) | (with_reducible refine Calls.mono (hN2 _) ?_; rintro e w' ⟨rfl, rfl⟩; refine ⟨_, rfl, Keep.of0 (Mod.refl _), ?_⟩) | (with_reducible refine Calls.mono (hN3 _) ?_; rintro e w' ⟨rfl, rfl⟩; refine ⟨_, rfl, Keep.of0 (Mod.refl _), ?_⟩) | (with_reducible refine Calls.mono (hNs _ (Mod.refl _)) ?_; rintro e w8 ⟨rfl, M8⟩; have N8 := N7.go0 M8 (by simp); refine ⟨_, rfl, Keep.of0 M8, ?_⟩))
  all_goals first | exact bad _ (by first | rfl | simp) N7 | exact bad _ (by first | rfl | simp) N8 | exact ref04_Check_at1 (c1 _ (by first | rfl | simp) N7) | exact ref04_Check_at1 (c1 _ (by first | rfl | simp) N8)
end Go.Proofs.YtohgihgddknmmaaGreat

/- What an argument that reads as data looks like in memory, for types of numbers, bools, strings, structs and slices of such, to whatever depth. -/
namespace Go.Proofs.YtohgihgddknmmaaGreat
open Go Go.RowKit Go.ChangeShapes Go.WideShapes Go.ChangeAt
set_option linter.unusedVariables false
set_option linter.unusedSimpArgs false

def plainD : Option TypeDesc → Bool
  | some (.int _) | some .bool | some .string | some (.slice _) | some (.struct _) => true
  | _ => false

inductive OkT (P : Program) (w : World) : TypeId → List Value → Prop
  | int {t : TypeId} {k : IntKind} {x : Int} (h : P.underlying t = some (.int k)) (hw : (Lit.int k x).wf = true) : OkT P w t [.int k x]
  | bool {t : TypeId} {b : Bool} (h : P.underlying t = some .bool) : OkT P w t [.bool b]
  | string {t : TypeId} {s : ByteArray} (h : P.underlying t = some .string) (hs : s.size ≤ maxLen) : OkT P w t [.string s]
  | nilSlice {t e : TypeId} (h : P.underlying t = some (.slice e)) : OkT P w t [.slice none 0 0]
  | slice {t e : TypeId} {ad : Addr} {len cap : Nat} (rows : Nat → List Value) (h : P.underlying t = some (.slice e)) (hl : len ≤ cap) (hc : cap ≤ maxLen) (h1 : ∀ i, i < len → (rows i).length = P.cellsOf e)
      (h2 : ∀ i, i < len → ∀ j v, (rows i)[j]? = some v → w.cell? ((ad.add (i * P.cellsOf e)).add j) = some v) (h3 : ∀ i, i < len → OkT P w e (rows i)) : OkT P w t [.slice (some ad) len cap]
  | struct {t : TypeId} {fs : Array Field} {cs : List Value} (h : P.underlying t = some (.struct fs)) (hn : cs.length = P.cellsOf t) (hf : ∀ f ∈ fs.toList, OkT P w f.type ((cs.drop f.offset).take (P.cellsOf f.type))) : OkT P w t cs
  | other {t : TypeId} {cs : List Value} (h : plainD (P.underlying t) = false) : OkT P w t cs

theorem mapM_some {α β : Type} {f : α → Option β} : ∀ {l : List α} {r : List β}, l.mapM f = some r → ∀ a ∈ l, ∃ b, f a = some b
  | [], _, _, a, ha => by cases ha
  | x :: l, r, h, a, ha => by
    rw [List.mapM_cons] at h
    simp only [Option.pure_def, Option.bind_eq_bind, Option.bind_eq_some_iff] at h
    obtain ⟨b, hb, r', hr, _⟩ := h
    rcases List.mem_cons.1 ha with rfl | ha
    · exact ⟨b, hb⟩
    · exact mapM_some hr a ha

theorem mapM_get {α β : Type} {f : α → Option β} : ∀ {l : List α} {r : List β}, l.mapM f = some r → ∀ (j : Nat) (b : β), r[j]? = some b → ∃ a, l[j]? = some a ∧ f a = some b
  | [], r, h, j, b, hb => by simp at h; subst h; simp at hb
  | x :: l, r, h, j, b, hb => by
    rw [List.mapM_cons] at h
    simp only [Option.pure_def, Option.bind_eq_bind, Option.bind_eq_some_iff, Option.some.injEq] at h
    obtain ⟨b', hb', r', hr, rfl⟩ := h
    cases j with
    | zero => simp at hb; subst hb; exact ⟨x, rfl, hb'⟩
    | succ j => obtain ⟨a, h1, h2⟩ := mapM_get hr j b (by simpa using hb); exact ⟨a, by simpa using h1, h2⟩
theorem mapM_len {α β : Type} {f : α → Option β} : ∀ {l : List α} {r : List β}, l.mapM f = some r → r.length = l.length
  | [], r, h => by simp at h; subst h; rfl
  | x :: l, r, h => by
    rw [List.mapM_cons] at h
    simp only [Option.pure_def, Option.bind_eq_bind, Option.bind_eq_some_iff, Option.some.injEq] at h
    obtain ⟨b', hb', r', hr, rfl⟩ := h
    simp [mapM_len hr]

theorem cells_len {w : World} {base n : Nat} {a : Addr} {row : List Value} (h : w.cells? base a n = some row) : row.length = n := by
  unfold World.cells? at h
  split at h
  · simpa using mapM_len h
  · cases h
theorem cells_get {w : World} {base n : Nat} {a : Addr} {row : List Value} (h : w.cells? base a n = some row) : ∀ j v, row[j]? = some v → w.cell? (a.add j) = some v := by
  intro j v hv
  unfold World.cells? at h
  split at h
  · obtain ⟨j', h1, h2⟩ := mapM_get h j v hv
    obtain ⟨hj, rfl⟩ : j < n ∧ j = j' := by
      obtain ⟨x, y⟩ := List.getElem?_eq_some_iff.1 h1
      simp at x y; exact ⟨x, y⟩
    exact h2
  · cases h

theorem trod_ok {H : Type} {enc : TypeId × Value → H} {P : Program} {w : World} {base : Nat} {sp : Nat → Bool} {held : Bool} : ∀ {fuel : Nat} {t : TypeId} {cs : List Value} {x : DataW H × List MemPlace}, DataW.trod enc P w base sp held fuel t cs = some x → OkT P w t cs := by
  intro fuel
  induction fuel with
  | zero => intro t cs x h; cases h
  | succ n ih =>
    intro t cs x h
    cases hu : P.underlying t with
    | none => exact .other (by rw [hu]; rfl)
    | some d =>
      cases d with
      | bool =>
          unfold DataW.trod at h
          rw [hu] at h
          split at h <;> simp_all
          exact .bool hu
      | int k =>
          unfold DataW.trod at h
          rw [hu] at h
          split at h <;> simp_all
          obtain ⟨⟨rfl, hw⟩, _⟩ := h
          exact .int hu hw
      | string =>
          unfold DataW.trod at h
          rw [hu] at h
          split at h <;> simp_all
          exact .string hu h.1
      | slice e =>
          rcases Go.Deep.open_slice hu h with ⟨rfl, _⟩ | ⟨a, len, cap, m, n', D, Pl, rfl, hb, hl, hc, hm, _, hel⟩
          · exact .nilSlice hu
          · unfold DataW.trod at h
            rw [hu] at h
            simp only at h
            split at h
            case isFalse => cases h
            rename_i hcond
            simp only [Option.bind_eq_some_iff] at h
            obtain ⟨elems, h1, _⟩ := h
            have key : ∀ i, i < len → ∃ row y, w.cells? base (a.add (i * P.cellsOf e)) (P.cellsOf e) = some row ∧ DataW.trod enc P w base sp held n e row = some y := fun i hi => by
              obtain ⟨y, hy⟩ := mapM_some h1 i (by simpa using hi)
              simp only [Option.bind_eq_some_iff] at hy
              obtain ⟨row, hr1, hr2⟩ := hy
              exact ⟨row, y, hr1, hr2⟩
            classical
            refine .slice (fun i => if hi : i < len then (key i hi).choose else []) hu hl hc (fun i hi => ?_) (fun i hi j v hv => ?_) (fun i hi => ?_)
            · simp only [dif_pos hi]
              obtain ⟨y, hr1, hr2⟩ := (key i hi).choose_spec
              exact cells_len hr1
            · simp only [dif_pos hi] at hv
              obtain ⟨y, hr1, hr2⟩ := (key i hi).choose_spec
              exact cells_get hr1 j v hv
            · simp only [dif_pos hi]
              obtain ⟨y, hr1, hr2⟩ := (key i hi).choose_spec
              exact ih hr2
      | struct fs =>
        unfold DataW.trod at h
        rw [hu] at h
        simp only at h
        split at h
        · rename_i hn
          simp only [Option.map_eq_some_iff] at h
          obtain ⟨xs, h1, _⟩ := h
          refine .struct hu hn fun f hf => ?_
          obtain ⟨y, hy⟩ := mapM_some h1 f hf
          exact ih hy
        · cases h
      | _ => exact .other (by rw [hu]; rfl)

theorem OkT.int_inv {P : Program} {w : World} {t : TypeId} {k : IntKind} {cs : List Value} (h : OkT P w t cs) (hu : P.underlying t = some (.int k)) : ∃ x, cs = [.int k x] ∧ (Lit.int k x).wf = true := by
  cases h <;> simp_all [plainD]
theorem OkT.bool_inv {P : Program} {w : World} {t : TypeId} {cs : List Value} (h : OkT P w t cs) (hu : P.underlying t = some .bool) : ∃ b, cs = [.bool b] := by
  cases h <;> simp_all [plainD]
theorem OkT.string_inv {P : Program} {w : World} {t : TypeId} {cs : List Value} (h : OkT P w t cs) (hu : P.underlying t = some .string) : ∃ s, cs = [.string s] ∧ s.size ≤ maxLen := by
  cases h <;> simp_all [plainD]
theorem OkT.struct_inv {P : Program} {w : World} {t : TypeId} {fs : Array Field} {cs : List Value} (h : OkT P w t cs) (hu : P.underlying t = some (.struct fs)) : cs.length = P.cellsOf t ∧ ∀ f ∈ fs.toList, OkT P w f.type ((cs.drop f.offset).take (P.cellsOf f.type)) := by
  cases h with
  | struct h hn hf => rw [hu] at h; cases h; exact ⟨hn, hf⟩
  | _ => simp_all [plainD]
/-- A slice, by what each of its elements is. -/
theorem OkT.slice_inv {P : Program} {w : World} {t e : TypeId} {cs : List Value} {α : Type} {enc : α → List Value} {good : α → Prop} (h : OkT P w t cs) (hu : P.underlying t = some (.slice e))
    (he : ∀ row, OkT P w e row → row.length = P.cellsOf e → ∃ x, row = enc x ∧ good x) : ∃ a len cap l, cs = [.slice a len cap] ∧ SlAt w (P.cellsOf e) enc a len l ∧ (∀ x ∈ l, good x) ∧ len ≤ cap ∧ cap ≤ maxLen := by
  cases h with
  | nilSlice h => exact ⟨none, 0, 0, [], rfl, ⟨rfl, by simp⟩, by simp, Nat.le_refl _, by decide⟩
  | @slice _ _ ad len cap rows h hl hc h1 h2 h3 =>
    rw [hu] at h; cases h
    have key : ∀ i, i < len → ∃ x, rows i = enc x ∧ good x := fun i hi => he _ (h3 i hi) (h1 i hi)
    classical
    by_cases h0 : len = 0
    · subst h0
      exact ⟨_, _, _, [], rfl, ⟨rfl, by simp⟩, by simp, hl, hc⟩
    have x0 : α := (key 0 (by omega)).choose
    refine ⟨some ad, len, cap, (List.range len).map (fun i => if hi : i < len then (key i hi).choose else x0), rfl, ⟨by simp, fun i x hx => ⟨ad, rfl, fun j v hv => ?_⟩⟩, fun x hx => ?_, hl, hc⟩
    · rw [List.getElem?_map] at hx
      simp only [Option.map_eq_some_iff] at hx
      obtain ⟨i', hi', rfl⟩ := hx
      obtain ⟨hil, rfl⟩ : i < len ∧ i = i' := by
        obtain ⟨a, b⟩ := List.getElem?_eq_some_iff.1 hi'
        simp at a b; exact ⟨a, b⟩
      simp only [dif_pos hil] at hv
      rw [← (key i hil).choose_spec.1] at hv
      exact h2 i hil j v hv
    · simp only [List.mem_map, List.mem_range] at hx
      obtain ⟨i, hi, rfl⟩ := hx
      simp only [dif_pos hi]
      exact (key i hi).choose_spec.2
  | _ => simp_all [plainD]

end Go.Proofs.YtohgihgddknmmaaGreat

/- What is handed in, as data: records, replies, commands, calls, messages. -/
namespace Go.Proofs.YtohgihgddknmmaaGreat
open Go Go.RowKit Go.Maps Go.MapKept
set_option linter.unusedVariables false
set_option linter.unusedSimpArgs false

theorem cI : Tryz.prog.cellsOf 3 = 1 := by kernel_rfl
theorem cB : Tryz.prog.cellsOf 4 = 1 := by kernel_rfl
theorem cS : Tryz.prog.cellsOf 9 = 1 := by kernel_rfl
theorem cE : Tryz.prog.cellsOf 24 = 1 := by kernel_rfl
theorem cSF : Tryz.prog.cellsOf 40 = 1 := by kernel_rfl
theorem cSP : Tryz.prog.cellsOf 41 = 1 := by kernel_rfl
theorem cSR : Tryz.prog.cellsOf 33 = 1 := by kernel_rfl
theorem cSS : Tryz.prog.cellsOf 36 = 1 := by kernel_rfl
theorem cSC : Tryz.prog.cellsOf 39 = 1 := by kernel_rfl
theorem cRc : Tryz.prog.cellsOf 149 = 4 := by kernel_rfl
theorem cFd : Tryz.prog.cellsOf 152 = 5 := by kernel_rfl
theorem cPt : Tryz.prog.cellsOf 32 = 2 := by kernel_rfl
theorem cRp : Tryz.prog.cellsOf 43 = 6 := by kernel_rfl
theorem cBt : Tryz.prog.cellsOf 35 = 4 := by kernel_rfl
theorem cOp : Tryz.prog.cellsOf 38 = 14 := by kernel_rfl
theorem cCl : Tryz.prog.cellsOf 57 = 16 := by kernel_rfl
theorem inv_rec (w : World) (row : List Value) (h : OkT Tryz.prog w 149 row) (hl : row.length = Tryz.prog.cellsOf 149) : ∃ r : PRec, row = [.bool r.hk, .string r.key, .bool r.tomb, .string r.val] ∧ r.key.size ≤ maxLen ∧ r.val.size ≤ maxLen := by
  rw [cRc] at hl
  match row, hl with
  | [a, b, c, d], _ =>
    obtain ⟨_, hf⟩ := h.struct_inv Tryz.underlying149
    simp [cI, cB, cS, cE] at hf
    obtain ⟨ha, hb, hc, hd⟩ := hf
    obtain ⟨x1, e1⟩ := ha.bool_inv Tryz.underlying4
    obtain ⟨x2, e2, g2⟩ := hb.string_inv Tryz.underlying9
    obtain ⟨x3, e3⟩ := hc.bool_inv Tryz.underlying4
    obtain ⟨x4, e4, g4⟩ := hd.string_inv Tryz.underlying9
    simp at e1 e2 e3 e4
    subst e1 e2 e3 e4
    exact ⟨⟨x1, x2, x3, x4⟩, rfl, g2, g4⟩
theorem inv_part (w : World) (row : List Value) (h : OkT Tryz.prog w 32 row) (hl : row.length = Tryz.prog.cellsOf 32) : ∃ x : PPart, row = encP x ∧ x.t.size ≤ maxLen := by
  rw [cPt] at hl
  match row, hl with
  | [a, b], _ =>
    obtain ⟨_, hf⟩ := h.struct_inv Tryz.underlying32
    simp [cI, cB, cS, cE, cSF, cSP, cSR, cSS, cSC, cPt, cRc, cFd, cRp] at hf
    obtain ⟨ha, hb⟩ := hf
    obtain ⟨x1, e1, g1⟩ := ha.string_inv Tryz.underlying9
    obtain ⟨x2, e2, _⟩ := hb.int_inv Tryz.underlying3
    simp at e1 e2
    subst e1 e2
    exact ⟨⟨x1, x2⟩, rfl, g1⟩
theorem inv_str (w : World) (row : List Value) (h : OkT Tryz.prog w 9 row) (hl : row.length = Tryz.prog.cellsOf 9) : ∃ s : ByteArray, row = encS s ∧ s.size ≤ maxLen := by
  obtain ⟨s, rfl, g⟩ := h.string_inv Tryz.underlying9
  exact ⟨s, rfl, g⟩
/-- What a command reads as (of any length). -/
structure OpRd (w : World) (o : POp) (rs ts : Sl) : Prop where
  recs : SlAt w 4 encR rs.a rs.n o.b.recs
  topics : SlAt w 1 encS ts.a ts.n o.topics
  wr : rs.n ≤ maxLen
  wt : ts.n ≤ maxLen
  sr : ∀ r ∈ o.b.recs, r.key.size ≤ maxLen ∧ r.val.size ≤ maxLen
  st : ∀ s ∈ o.topics, s.size ≤ maxLen
  sp : o.part.t.size ≤ maxLen
  sg : o.g.size ≤ maxLen
  sm : o.m.size ≤ maxLen
theorem OpRd.keep0 {w w' : World} {o : POp} {rs ts : Sl} (h : OpRd w o rs ts) (M : Mod [] w w') : OpRd w' o rs ts := ⟨h.recs.keep0 M, h.topics.keep0 M, h.wr, h.wt, h.sr, h.st, h.sp, h.sg, h.sm⟩
structure OV where
  o : POp
  rs : Sl
  ts : Sl
def OV.cs (q : OV) : List Value := q.o.cs q.rs q.ts
theorem OV.cs_len (q : OV) : q.cs.length = 14 := rfl
theorem inv_batch (w : World) (row : List Value) (h : OkT Tryz.prog w 35 row) (hl : row.length = Tryz.prog.cellsOf 35) : ∃ (b : PBatch) (rs : Sl), row = [.int .i64 b.prod, .int .i64 b.epoch, .int .i64 b.seq, .slice rs.a rs.n rs.c] ∧ SlAt w 4 encR rs.a rs.n b.recs ∧ rs.n ≤ maxLen ∧ ∀ r ∈ b.recs, r.key.size ≤ maxLen ∧ r.val.size ≤ maxLen := by
  rw [cBt] at hl
  match row, hl with
  | [a, b, c, d], _ =>
    obtain ⟨_, hf⟩ := h.struct_inv Tryz.underlying35
    simp [cI, cB, cS, cE, cSF, cSP, cSR, cSS, cSC, cPt, cRc, cFd, cRp, cBt, cOp, cCl] at hf
    obtain ⟨ha, hb, hc, hd⟩ := hf
    obtain ⟨x1, e1, _⟩ := ha.int_inv Tryz.underlying3
    obtain ⟨x2, e2, _⟩ := hb.int_inv Tryz.underlying3
    obtain ⟨x3, e3, _⟩ := hc.int_inv Tryz.underlying3
    obtain ⟨ra, rn, rc, rl, e5, s5, g5, u5, c5⟩ := hd.slice_inv (enc := encR) Tryz.underlying33 (inv_rec w)
    simp at e1 e2 e3 e5
    subst e1 e2 e3 e5
    rw [cRc] at s5
    exact ⟨⟨x1, x2, x3, rl⟩, ⟨ra, rn, rc⟩, rfl, s5, by show rn ≤ _; omega, g5⟩
theorem inv_op (w : World) (row : List Value) (h : OkT Tryz.prog w 38 row) (hl : row.length = Tryz.prog.cellsOf 38) : ∃ x : OV, row = OV.cs x ∧ OpRd w x.o x.rs x.ts := by
  rw [cOp] at hl
  match row, hl with
  | [a, b, c, d, e, f, g, i, j, k, l, m, n, o], _ =>
    obtain ⟨_, hf⟩ := h.struct_inv Tryz.underlying38
    simp [cI, cB, cS, cE, cSF, cSP, cSR, cSS, cSC, cPt, cRc, cFd, cRp, cBt, cOp, cCl] at hf
    obtain ⟨h1, h2, h3, h4, h5, h6, h7, h8, h9, h10⟩ := hf
    obtain ⟨x1, e1, _⟩ := h1.int_inv Tryz.underlying3
    obtain ⟨x2, e2, g2⟩ := inv_part w _ h2 cPt.symm
    obtain ⟨x3, e3, _⟩ := h3.int_inv Tryz.underlying3
    obtain ⟨x4, e4, _⟩ := h4.int_inv Tryz.underlying3
    obtain ⟨x5, rs, e5, s5, w5, g5⟩ := inv_batch w _ h5 cBt.symm
    obtain ⟨x6, e6, g6⟩ := h6.string_inv Tryz.underlying9
    obtain ⟨x7, e7, g7⟩ := h7.string_inv Tryz.underlying9
    obtain ⟨x8, e8, _⟩ := h8.int_inv Tryz.underlying3
    obtain ⟨x9, e9⟩ := h9.bool_inv Tryz.underlying4
    obtain ⟨ta, tn, tc, tl, e10, s10, g10, u10, c10⟩ := h10.slice_inv (enc := encS) Tryz.underlying36 (inv_str w)
    simp [encP] at e1 e2 e3 e4 e5 e6 e7 e8 e9 e10
    subst e1 e3 e4 e6 e7 e8 e9 e10
    obtain ⟨rfl, rfl⟩ := e2
    obtain ⟨rfl, rfl, rfl, rfl⟩ := e5
    rw [cS] at s10
    exact ⟨⟨⟨x1, x2, x3, x4, x5, x6, x7, x8, x9, tl⟩, rs, ⟨ta, tn, tc⟩⟩, rfl, ⟨s5, s10, w5, by show tn ≤ _; omega, g5, g10, g2, g6, g7⟩⟩
theorem inv_call (w : World) (row : List Value) (h : OkT Tryz.prog w 57 row) (hl : row.length = Tryz.prog.cellsOf 57) : ∃ x : CV, row = CV.cs x ∧ OpRd w x.x.op x.rs x.ts := by
  rw [cCl] at hl
  match row, hl with
  | a :: b :: t, hl =>
    obtain ⟨_, hf⟩ := h.struct_inv Tryz.underlying57
    simp [cI, cB, cS, cE, cSF, cSP, cSR, cSS, cSC, cPt, cRc, cFd, cRp, cBt, cOp, cCl] at hf
    obtain ⟨h1, h2, h3⟩ := hf
    obtain ⟨x1, e1, _⟩ := h1.int_inv Tryz.underlying3
    obtain ⟨x2, e2, _⟩ := h2.int_inv Tryz.underlying3
    have ht : t.take 14 = t := List.take_of_length_le (by simp at hl; omega)
    rw [ht] at h3
    obtain ⟨x3, e3, g3⟩ := inv_op w _ h3 (by rw [cOp]; simp at hl; omega)
    simp at e1 e2
    subst e1 e2 e3
    exact ⟨⟨⟨x1, x2, x3.o⟩, x3.rs, x3.ts⟩, rfl, g3⟩
end Go.Proofs.YtohgihgddknmmaaGreat

/- The conditions of Go functions' bodies, printed by gen2.py. -/
namespace Go.Proofs.YtohgihgddknmmaaGreat
open Go Go.RowKit
set_option linter.unusedVariables false
set_option maxRecDepth 100000

def law03_cut_an : List LA := []
/-- stagecoach/stagecoachlaw03.cut -/
def law03_cut_T (a0_r_0 : Bool) (a0_r_1 : ByteArray) (a0_r_2 : Bool) (a0_r_3 : ByteArray) (R : Value → World → Prop) (w : World) : Prop :=
  ∀ b1, w.heap.size ≤ b1 →
  ∀ b2, w.heap.size ≤ b2 →
  slS a0_r_1 0 (if 80 < (a0_r_1.size : Int) then 80 else (a0_r_1.size : Int)) fun s3 =>
  slS a0_r_3 0 (if 600 < (a0_r_3.size : Int) then 600 else (a0_r_3.size : Int)) fun s4 =>
  ∀ w5, Adv [] [b2, b1] w w5 →
  R (.agg #[(.bool a0_r_0), (.string s3), (.bool a0_r_2), (.string s4)]) w5
theorem law03_cut_eq (a0_r_0 : Bool) (a0_r_1 : ByteArray) (a0_r_2 : Bool) (a0_r_3 : ByteArray) (R : Value → World → Prop) (w : World) :
    dnF Tryz.prog law03_cut_an (code Tryz.f103) 400 [] (post3 Tryz.prog Tryz.f103 [] R) ⟨args0 0 [(.agg #[(.bool a0_r_0), (.string a0_r_1), (.bool a0_r_2), (.string a0_r_3)])], fun _ => undef⟩ ⟨[], w, [], [], true⟩ = law03_cut_T a0_r_0 a0_r_1 a0_r_2 a0_r_3 R w := by kernel_rfl
theorem law03_cut_go {a0_r_0 : Bool} {a0_r_1 : ByteArray} {a0_r_2 : Bool} {a0_r_3 : ByteArray} {R : Value → World → Prop} {w : World} (h : law03_cut_T a0_r_0 a0_r_1 a0_r_2 a0_r_3 R w) :
    Calls Tryz.prog 103 #[(.agg #[(.bool a0_r_0), (.string a0_r_1), (.bool a0_r_2), (.string a0_r_3)])] w fun e w' => ∃ v, e = .returned v ∧ R v w' :=
  calls_none Tryz.wide_mixed (f := 103) (args := [(.agg #[(.bool a0_r_0), (.string a0_r_1), (.bool a0_r_2), (.string a0_r_3)])]) Tryz.func103 rfl rfl (by kernel_rfl) rfl (Eq.mpr (law03_cut_eq a0_r_0 a0_r_1 a0_r_2 a0_r_3 R w) h)
def law03_Bound_la1 : LA := ⟨[0, 0, 1, 0, 1, 1], [1, 2, 3, 4], [(1, 0, 0), (2, 1, 0), (3, 2, 0)], 3, []⟩
def law03_Bound_an : List LA := [law03_Bound_la1]
def law03_Bound_v1 (bm0 : Nat) (bm1 : Nat) (bm2 : Nat) (x_4 : Int) : List Value := [(.pointer (some ⟨bm0, 0, none⟩)), (.pointer (some ⟨bm1, 0, none⟩)), (.pointer (some ⟨bm2, 0, none⟩)), (.int .i64 x_4)]
def law03_Bound_m1 (bm0 : Nat) (x_m0_0 : Int) (x_m0_1 : Int) (x_m0_2 : Int) (a_m0_3 : Option Addr) (n_m0_3 : Nat) (c_m0_3 : Nat) (bm1 : Nat) (bm2 : Nat) (x_m2_0 : Int) (x_m2_1 : Int) (x_m2_2 : Int) (a_m2_3 : Option Addr) (n_m2_3 : Nat) (c_m2_3 : Nat) : List TB := [⟨bm0, 35, [(.int .i64 x_m0_0), (.int .i64 x_m0_1), (.int .i64 x_m0_2), (.slice a_m0_3 n_m0_3 c_m0_3)], false⟩, ⟨bm1, 35, [(.int .i64 0), (.int .i64 0), (.int .i64 0), (.slice none 0 0)], false⟩, ⟨bm2, 35, [(.int .i64 x_m2_0), (.int .i64 x_m2_1), (.int .i64 x_m2_2), (.slice a_m2_3 n_m2_3 c_m2_3)], false⟩]
def law03_Bound_L1 (bm0 : Nat) (x_m0_0 : Int) (x_m0_1 : Int) (x_m0_2 : Int) (a_m0_3 : Option Addr) (n_m0_3 : Nat) (c_m0_3 : Nat) (bm1 : Nat) (bm2 : Nat) (x_m2_0 : Int) (x_m2_1 : Int) (x_m2_2 : Int) (x_4 : Int) (a_m2_3 : Option Addr) (n_m2_3 : Nat) (c_m2_3 : Nat) (K1 : Kh) (R : Value → World → Prop) (w : World) : Prop :=
  brB (decide (x_4 < (n_m0_3 : Int))) (
    brB (decide (x_4 < 20)) (
      ixA a_m0_3 n_m0_3 x_4 4 fun q4 =>
      ∀ w5, Adv [] [] w w5 →
      ldBool w5 q4 fun t6 => ldStr w5 (Addr.add q4 1) fun s7 => ldBool w5 (Addr.add q4 2) fun t8 => ldStr w5 (Addr.add q4 3) fun s9 =>
      Calls Tryz.prog 103 #[(.agg #[(.bool t6), (.string s7), (.bool t8), (.string s9)])] w5 fun e w10 => ∃ t11 : Bool, ∃ s12 : ByteArray, ∃ t13 : Bool, ∃ s14 : ByteArray, e = .returned (.agg #[(.bool t11), (.string s12), (.bool t13), (.string s14)]) ∧ Keep [bm0, bm1, bm2] w5 w10 ∧ (((.slice a_m2_3 n_m2_3 c_m2_3) : Value) = (.slice a_m2_3 n_m2_3 c_m2_3)) ∧
      al w10 (.cells #[(.bool t11), (.string s12), (.bool t13), (.string s14)] 149) fun b15 w16 =>
      effSl Tryz.prog (Builtin.append_ #[33, 33] 33 #[(.slice a_m2_3 n_m2_3 c_m2_3), (.slice (some ⟨b15, 0, none⟩) 1 1)]) w16 fun a18 n19 c20 w17 => Keep [bm0, bm1, bm2] w16 w17 ∧
      ∀ w21, Adv [bm2] [] w17 w21 →
      K1 (law03_Bound_v1 bm0 bm1 bm2 (IntKind.wrap .i64 (x_4 + 1))) (law03_Bound_m1 bm0 x_m0_0 x_m0_1 x_m0_2 a_m0_3 n_m0_3 c_m0_3 bm1 bm2 x_m2_0 x_m2_1 x_m2_2 a18 n19 c20) w21)
    (
      ∀ w22, Adv [bm1] [] w w22 →
      R (.agg #[(.int .i64 x_m2_0), (.int .i64 x_m2_1), (.int .i64 x_m2_2), (.slice a_m2_3 n_m2_3 c_m2_3)]) w22))
  (
    ∀ w23, Adv [bm1] [] w w23 →
    R (.agg #[(.int .i64 x_m2_0), (.int .i64 x_m2_1), (.int .i64 x_m2_2), (.slice a_m2_3 n_m2_3 c_m2_3)]) w23)
theorem law03_Bound_L1_eq (bm0 : Nat) (x_m0_0 : Int) (x_m0_1 : Int) (x_m0_2 : Int) (a_m0_3 : Option Addr) (n_m0_3 : Nat) (c_m0_3 : Nat) (bm1 : Nat) (bm2 : Nat) (x_m2_0 : Int) (x_m2_1 : Int) (x_m2_2 : Int) (x_4 : Int) (a_m2_3 : Option Addr) (n_m2_3 : Nat) (c_m2_3 : Nat) (K1 : Kh) (js : Nat → Value) (R : Value → World → Prop) (w : World) :
    headA law03_Bound_la1 ((dnF Tryz.prog law03_Bound_an (code Tryz.f57) 396 [0, 0, 1, 0, 1, 1]) (kthen3 (atA law03_Bound_la1 K1) (kont3 Tryz.prog law03_Bound_an (code Tryz.f57) [1, 1, 0, 1, 0] [] (post3 Tryz.prog Tryz.f57 [] R)))) (law03_Bound_v1 bm0 bm1 bm2 x_4) js (law03_Bound_m1 bm0 x_m0_0 x_m0_1 x_m0_2 a_m0_3 n_m0_3 c_m0_3 bm1 bm2 x_m2_0 x_m2_1 x_m2_2 a_m2_3 n_m2_3 c_m2_3) w = law03_Bound_L1 bm0 x_m0_0 x_m0_1 x_m0_2 a_m0_3 n_m0_3 c_m0_3 bm1 bm2 x_m2_0 x_m2_1 x_m2_2 x_4 a_m2_3 n_m2_3 c_m2_3 K1 R w := by kernel_rfl
def law03_Bound_K1 (bm0 : Nat) (x_m0_0 : Int) (x_m0_1 : Int) (x_m0_2 : Int) (a_m0_3 : Option Addr) (n_m0_3 : Nat) (c_m0_3 : Nat) (bm1 : Nat) (bm2 : Nat) (x_m2_0 : Int) (x_m2_1 : Int) (x_m2_2 : Int) (I : Nat → Int → Option Addr → Nat → Nat → World → Prop) (m : Nat) (vals : List Value) (mem : List TB) (w : World) : Prop := ∃ m', m' < m ∧ ∃ x_4 a_m2_3 n_m2_3 c_m2_3, vals = (law03_Bound_v1 bm0 bm1 bm2 x_4) ∧ mem = (law03_Bound_m1 bm0 x_m0_0 x_m0_1 x_m0_2 a_m0_3 n_m0_3 c_m0_3 bm1 bm2 x_m2_0 x_m2_1 x_m2_2 a_m2_3 n_m2_3 c_m2_3) ∧ I m' x_4 a_m2_3 n_m2_3 c_m2_3 w
theorem law03_Bound_leaf1 {bm0 : Nat} {x_m0_0 : Int} {x_m0_1 : Int} {x_m0_2 : Int} {a_m0_3 : Option Addr} {n_m0_3 : Nat} {c_m0_3 : Nat} {bm1 : Nat} {bm2 : Nat} {x_m2_0 : Int} {x_m2_1 : Int} {x_m2_2 : Int} {I : Nat → Int → Option Addr → Nat → Nat → World → Prop} {m : Nat} {x_4 : Int} {a_m2_3 : Option Addr} {n_m2_3 : Nat} {c_m2_3 : Nat} {w : World} (m' : Nat) (h1 : m' < m) (h2 : I m' x_4 a_m2_3 n_m2_3 c_m2_3 w) : law03_Bound_K1 bm0 x_m0_0 x_m0_1 x_m0_2 a_m0_3 n_m0_3 c_m0_3 bm1 bm2 x_m2_0 x_m2_1 x_m2_2 I m (law03_Bound_v1 bm0 bm1 bm2 x_4) (law03_Bound_m1 bm0 x_m0_0 x_m0_1 x_m0_2 a_m0_3 n_m0_3 c_m0_3 bm1 bm2 x_m2_0 x_m2_1 x_m2_2 a_m2_3 n_m2_3 c_m2_3) w := ⟨m', h1, _, _, _, _, rfl, rfl, h2⟩
theorem law03_Bound_rule1 {bm0 : Nat} {x_m0_0 : Int} {x_m0_1 : Int} {x_m0_2 : Int} {a_m0_3 : Option Addr} {n_m0_3 : Nat} {c_m0_3 : Nat} {bm1 : Nat} {bm2 : Nat} {x_m2_0 : Int} {x_m2_1 : Int} {x_m2_2 : Int} {x_40 : Int} {a_m2_30 : Option Addr} {n_m2_30 : Nat} {c_m2_30 : Nat} {R : Value → World → Prop} {w0 : World} (I : Nat → Int → Option Addr → Nat → Nat → World → Prop) (m0 : Nat) (h0 : I m0 x_40 a_m2_30 n_m2_30 c_m2_30 w0)
    (hr : ∀ (m : Nat) (x_4 : Int) (a_m2_3 : Option Addr) (n_m2_3 : Nat) (c_m2_3 : Nat) (w : World), I m x_4 a_m2_3 n_m2_3 c_m2_3 w → law03_Bound_L1 bm0 x_m0_0 x_m0_1 x_m0_2 a_m0_3 n_m0_3 c_m0_3 bm1 bm2 x_m2_0 x_m2_1 x_m2_2 x_4 a_m2_3 n_m2_3 c_m2_3 (law03_Bound_K1 bm0 x_m0_0 x_m0_1 x_m0_2 a_m0_3 n_m0_3 c_m0_3 bm1 bm2 x_m2_0 x_m2_1 x_m2_2 I m) R w) :
    loopD3 law03_Bound_la1 (dnF Tryz.prog law03_Bound_an (code Tryz.f57) 396 [0, 0, 1, 0, 1, 1]) (kont3 Tryz.prog law03_Bound_an (code Tryz.f57) [1, 1, 0, 1, 0] [] (post3 Tryz.prog Tryz.f57 [] R)) (law03_Bound_v1 bm0 bm1 bm2 x_40) (law03_Bound_m1 bm0 x_m0_0 x_m0_1 x_m0_2 a_m0_3 n_m0_3 c_m0_3 bm1 bm2 x_m2_0 x_m2_1 x_m2_2 a_m2_30 n_m2_30 c_m2_30) w0 := by
  refine ⟨fun m vals mem w => ∃ x_4 a_m2_3 n_m2_3 c_m2_3, vals = (law03_Bound_v1 bm0 bm1 bm2 x_4) ∧ mem = (law03_Bound_m1 bm0 x_m0_0 x_m0_1 x_m0_2 a_m0_3 n_m0_3 c_m0_3 bm1 bm2 x_m2_0 x_m2_1 x_m2_2 a_m2_3 n_m2_3 c_m2_3) ∧ I m x_4 a_m2_3 n_m2_3 c_m2_3 w, m0, ⟨_, _, _, _, rfl, rfl, h0⟩, ?_⟩
  rintro m vals mem w ⟨x_4, a_m2_3, n_m2_3, c_m2_3, rfl, rfl, hI⟩
  refine ⟨rfl, rfl, fun js => ?_⟩
  have h := hr m x_4 a_m2_3 n_m2_3 c_m2_3 w hI
  rw [← law03_Bound_L1_eq _ _ _ _ _ _ _ _ _ _ _ _ _ _ _ _ _ js] at h
  exact h
/-- stagecoach/stagecoachlaw03.Bound -/
def law03_Bound_T (a0_b_0 : Int) (a0_b_1 : Int) (a0_b_2 : Int) (a0_b_3_a : Option Addr) (a0_b_3_n : Nat) (a0_b_3_c : Nat) (R : Value → World → Prop) (w : World) : Prop :=
  ∀ b1, w.heap.size ≤ b1 →
  ∀ b2, w.heap.size ≤ b2 →
  ∀ b3, w.heap.size ≤ b3 →
  ∀ w24, Adv [] [b3, b2, b1] w w24 →
  loopD3 law03_Bound_la1 (dnF Tryz.prog law03_Bound_an (code Tryz.f57) 396 [0, 0, 1, 0, 1, 1]) (kont3 Tryz.prog law03_Bound_an (code Tryz.f57) [1, 1, 0, 1, 0] [] (post3 Tryz.prog Tryz.f57 [] R)) (law03_Bound_v1 b1 b2 b3 0) (law03_Bound_m1 b1 a0_b_0 a0_b_1 a0_b_2 a0_b_3_a a0_b_3_n a0_b_3_c b2 b3 a0_b_0 a0_b_1 a0_b_2 none 0 0) w24
theorem law03_Bound_eq (a0_b_0 : Int) (a0_b_1 : Int) (a0_b_2 : Int) (a0_b_3_a : Option Addr) (a0_b_3_n : Nat) (a0_b_3_c : Nat) (R : Value → World → Prop) (w : World) :
    dnF Tryz.prog law03_Bound_an (code Tryz.f57) 400 [] (post3 Tryz.prog Tryz.f57 [] R) ⟨args0 0 [(.agg #[(.int .i64 a0_b_0), (.int .i64 a0_b_1), (.int .i64 a0_b_2), (.slice a0_b_3_a a0_b_3_n a0_b_3_c)])], fun _ => undef⟩ ⟨[], w, [], [], true⟩ = law03_Bound_T a0_b_0 a0_b_1 a0_b_2 a0_b_3_a a0_b_3_n a0_b_3_c R w := by kernel_rfl
theorem law03_Bound_go {a0_b_0 : Int} {a0_b_1 : Int} {a0_b_2 : Int} {a0_b_3_a : Option Addr} {a0_b_3_n : Nat} {a0_b_3_c : Nat} {R : Value → World → Prop} {w : World} (h : law03_Bound_T a0_b_0 a0_b_1 a0_b_2 a0_b_3_a a0_b_3_n a0_b_3_c R w) :
    Calls Tryz.prog 57 #[(.agg #[(.int .i64 a0_b_0), (.int .i64 a0_b_1), (.int .i64 a0_b_2), (.slice a0_b_3_a a0_b_3_n a0_b_3_c)])] w fun e w' => ∃ v, e = .returned v ∧ R v w' :=
  calls_none Tryz.wide_mixed (f := 57) (args := [(.agg #[(.int .i64 a0_b_0), (.int .i64 a0_b_1), (.int .i64 a0_b_2), (.slice a0_b_3_a a0_b_3_n a0_b_3_c)])]) Tryz.func57 rfl rfl (by kernel_rfl) rfl (Eq.mpr (law03_Bound_eq a0_b_0 a0_b_1 a0_b_2 a0_b_3_a a0_b_3_n a0_b_3_c R w) h)
def law04_Cut_la1 : LA := ⟨[0, 0, 1, 0, 1, 1, 1, 1, 1, 1, 1], [1, 2, 3, 4], [(1, 0, 0), (2, 1, 0), (3, 2, 0)], 3, []⟩
def law04_Cut_an : List LA := [law04_Cut_la1]
def law04_Cut_v1 (bm0 : Nat) (bm1 : Nat) (bm2 : Nat) (x_4 : Int) : List Value := [(.pointer (some ⟨bm0, 0, none⟩)), (.pointer (some ⟨bm1, 0, none⟩)), (.pointer (some ⟨bm2, 0, none⟩)), (.int .i64 x_4)]
def law04_Cut_m1 (bm0 : Nat) (x_m0_0 : Int) (s_m0_1 : ByteArray) (x_m0_2 : Int) (x_m0_3 : Int) (x_m0_4 : Int) (x_m0_5 : Int) (x_m0_6 : Int) (x_m0_7 : Int) (a_m0_8 : Option Addr) (n_m0_8 : Nat) (c_m0_8 : Nat) (s_m0_9 : ByteArray) (s_m0_10 : ByteArray) (x_m0_11 : Int) (t_m0_12 : Bool) (a_m0_13 : Option Addr) (n_m0_13 : Nat) (c_m0_13 : Nat) (bm1 : Nat) (bm2 : Nat) (x_m2_0 : Int) (s_m2_1 : ByteArray) (x_m2_2 : Int) (x_m2_3 : Int) (x_m2_4 : Int) (x_m2_5 : Int) (x_m2_6 : Int) (x_m2_7 : Int) (a_m2_8 : Option Addr) (n_m2_8 : Nat) (c_m2_8 : Nat) (s_m2_9 : ByteArray) (s_m2_10 : ByteArray) (x_m2_11 : Int) (t_m2_12 : Bool) (a_m2_13 : Option Addr) (n_m2_13 : Nat) (c_m2_13 : Nat) : List TB := [⟨bm0, 38, [(.int .i64 x_m0_0), (.string s_m0_1), (.int .i64 x_m0_2), (.int .i64 x_m0_3), (.int .i64 x_m0_4), (.int .i64 x_m0_5), (.int .i64 x_m0_6), (.int .i64 x_m0_7), (.slice a_m0_8 n_m0_8 c_m0_8), (.string s_m0_9), (.string s_m0_10), (.int .i64 x_m0_11), (.bool t_m0_12), (.slice a_m0_13 n_m0_13 c_m0_13)], false⟩, ⟨bm1, 38, [(.int .i64 0), (.string ByteArray.empty), (.int .i64 0), (.int .i64 0), (.int .i64 0), (.int .i64 0), (.int .i64 0), (.int .i64 0), (.slice none 0 0), (.string ByteArray.empty), (.string ByteArray.empty), (.int .i64 0), (.bool false), (.slice none 0 0)], false⟩, ⟨bm2, 38, [(.int .i64 x_m2_0), (.string s_m2_1), (.int .i64 x_m2_2), (.int .i64 x_m2_3), (.int .i64 x_m2_4), (.int .i64 x_m2_5), (.int .i64 x_m2_6), (.int .i64 x_m2_7), (.slice a_m2_8 n_m2_8 c_m2_8), (.string s_m2_9), (.string s_m2_10), (.int .i64 x_m2_11), (.bool t_m2_12), (.slice a_m2_13 n_m2_13 c_m2_13)], false⟩]
def law04_Cut_L1 (bm0 : Nat) (x_m0_0 : Int) (s_m0_1 : ByteArray) (x_m0_2 : Int) (x_m0_3 : Int) (x_m0_4 : Int) (x_m0_5 : Int) (x_m0_6 : Int) (x_m0_7 : Int) (a_m0_8 : Option Addr) (n_m0_8 : Nat) (c_m0_8 : Nat) (s_m0_9 : ByteArray) (s_m0_10 : ByteArray) (x_m0_11 : Int) (t_m0_12 : Bool) (a_m0_13 : Option Addr) (n_m0_13 : Nat) (c_m0_13 : Nat) (bm1 : Nat) (bm2 : Nat) (x_m2_0 : Int) (s_m2_1 : ByteArray) (x_m2_2 : Int) (x_m2_3 : Int) (x_m2_4 : Int) (x_m2_5 : Int) (x_m2_6 : Int) (x_m2_7 : Int) (a_m2_8 : Option Addr) (n_m2_8 : Nat) (c_m2_8 : Nat) (s_m2_9 : ByteArray) (s_m2_10 : ByteArray) (x_m2_11 : Int) (t_m2_12 : Bool) (x_4 : Int) (a_m2_13 : Option Addr) (n_m2_13 : Nat) (c_m2_13 : Nat) (K1 : Kh) (R : Value → World → Prop) (w : World) : Prop :=
  brB (decide (x_4 < (n_m0_13 : Int))) (
    brB (decide (x_4 < 12)) (
      ixA a_m0_13 n_m0_13 x_4 1 fun q15 =>
      ∀ w16, Adv [] [] w w16 →
      ldStr w16 q15 fun s17 =>
      ixA a_m0_13 n_m0_13 x_4 1 fun q18 =>
      ldStr w16 q18 fun s19 =>
      slS s17 0 (if 40 < (s19.size : Int) then 40 else (s19.size : Int)) fun s20 =>
      al w16 (.cells #[(.string s20)] 9) fun b21 w22 =>
      effSl Tryz.prog (Builtin.append_ #[36, 36] 36 #[(.slice a_m2_13 n_m2_13 c_m2_13), (.slice (some ⟨b21, 0, none⟩) 1 1)]) w22 fun a24 n25 c26 w23 => Keep [bm0, bm1, bm2] w22 w23 ∧
      ∀ w27, Adv [bm2] [] w23 w27 →
      K1 (law04_Cut_v1 bm0 bm1 bm2 (IntKind.wrap .i64 (x_4 + 1))) (law04_Cut_m1 bm0 x_m0_0 s_m0_1 x_m0_2 x_m0_3 x_m0_4 x_m0_5 x_m0_6 x_m0_7 a_m0_8 n_m0_8 c_m0_8 s_m0_9 s_m0_10 x_m0_11 t_m0_12 a_m0_13 n_m0_13 c_m0_13 bm1 bm2 x_m2_0 s_m2_1 x_m2_2 x_m2_3 x_m2_4 x_m2_5 x_m2_6 x_m2_7 a_m2_8 n_m2_8 c_m2_8 s_m2_9 s_m2_10 x_m2_11 t_m2_12 a24 n25 c26) w27)
    (
      ∀ w28, Adv [bm1] [] w w28 →
      R (.agg #[(.int .i64 x_m2_0), (.string s_m2_1), (.int .i64 x_m2_2), (.int .i64 x_m2_3), (.int .i64 x_m2_4), (.int .i64 x_m2_5), (.int .i64 x_m2_6), (.int .i64 x_m2_7), (.slice a_m2_8 n_m2_8 c_m2_8), (.string s_m2_9), (.string s_m2_10), (.int .i64 x_m2_11), (.bool t_m2_12), (.slice a_m2_13 n_m2_13 c_m2_13)]) w28))
  (
    ∀ w29, Adv [bm1] [] w w29 →
    R (.agg #[(.int .i64 x_m2_0), (.string s_m2_1), (.int .i64 x_m2_2), (.int .i64 x_m2_3), (.int .i64 x_m2_4), (.int .i64 x_m2_5), (.int .i64 x_m2_6), (.int .i64 x_m2_7), (.slice a_m2_8 n_m2_8 c_m2_8), (.string s_m2_9), (.string s_m2_10), (.int .i64 x_m2_11), (.bool t_m2_12), (.slice a_m2_13 n_m2_13 c_m2_13)]) w29)
theorem law04_Cut_L1_eq (bm0 : Nat) (x_m0_0 : Int) (s_m0_1 : ByteArray) (x_m0_2 : Int) (x_m0_3 : Int) (x_m0_4 : Int) (x_m0_5 : Int) (x_m0_6 : Int) (x_m0_7 : Int) (a_m0_8 : Option Addr) (n_m0_8 : Nat) (c_m0_8 : Nat) (s_m0_9 : ByteArray) (s_m0_10 : ByteArray) (x_m0_11 : Int) (t_m0_12 : Bool) (a_m0_13 : Option Addr) (n_m0_13 : Nat) (c_m0_13 : Nat) (bm1 : Nat) (bm2 : Nat) (x_m2_0 : Int) (s_m2_1 : ByteArray) (x_m2_2 : Int) (x_m2_3 : Int) (x_m2_4 : Int) (x_m2_5 : Int) (x_m2_6 : Int) (x_m2_7 : Int) (a_m2_8 : Option Addr) (n_m2_8 : Nat) (c_m2_8 : Nat) (s_m2_9 : ByteArray) (s_m2_10 : ByteArray) (x_m2_11 : Int) (t_m2_12 : Bool) (x_4 : Int) (a_m2_13 : Option Addr) (n_m2_13 : Nat) (c_m2_13 : Nat) (K1 : Kh) (js : Nat → Value) (R : Value → World → Prop) (w : World) :
    headA law04_Cut_la1 ((dnF Tryz.prog law04_Cut_an (code Tryz.f13) 391 [0, 0, 1, 0, 1, 1, 1, 1, 1, 1, 1]) (kthen3 (atA law04_Cut_la1 K1) (kont3 Tryz.prog law04_Cut_an (code Tryz.f13) [1, 1, 1, 1, 1, 1, 1, 0, 1, 0] [] (post3 Tryz.prog Tryz.f13 [] R)))) (law04_Cut_v1 bm0 bm1 bm2 x_4) js (law04_Cut_m1 bm0 x_m0_0 s_m0_1 x_m0_2 x_m0_3 x_m0_4 x_m0_5 x_m0_6 x_m0_7 a_m0_8 n_m0_8 c_m0_8 s_m0_9 s_m0_10 x_m0_11 t_m0_12 a_m0_13 n_m0_13 c_m0_13 bm1 bm2 x_m2_0 s_m2_1 x_m2_2 x_m2_3 x_m2_4 x_m2_5 x_m2_6 x_m2_7 a_m2_8 n_m2_8 c_m2_8 s_m2_9 s_m2_10 x_m2_11 t_m2_12 a_m2_13 n_m2_13 c_m2_13) w = law04_Cut_L1 bm0 x_m0_0 s_m0_1 x_m0_2 x_m0_3 x_m0_4 x_m0_5 x_m0_6 x_m0_7 a_m0_8 n_m0_8 c_m0_8 s_m0_9 s_m0_10 x_m0_11 t_m0_12 a_m0_13 n_m0_13 c_m0_13 bm1 bm2 x_m2_0 s_m2_1 x_m2_2 x_m2_3 x_m2_4 x_m2_5 x_m2_6 x_m2_7 a_m2_8 n_m2_8 c_m2_8 s_m2_9 s_m2_10 x_m2_11 t_m2_12 x_4 a_m2_13 n_m2_13 c_m2_13 K1 R w := by kernel_rfl
def law04_Cut_K1 (bm0 : Nat) (x_m0_0 : Int) (s_m0_1 : ByteArray) (x_m0_2 : Int) (x_m0_3 : Int) (x_m0_4 : Int) (x_m0_5 : Int) (x_m0_6 : Int) (x_m0_7 : Int) (a_m0_8 : Option Addr) (n_m0_8 : Nat) (c_m0_8 : Nat) (s_m0_9 : ByteArray) (s_m0_10 : ByteArray) (x_m0_11 : Int) (t_m0_12 : Bool) (a_m0_13 : Option Addr) (n_m0_13 : Nat) (c_m0_13 : Nat) (bm1 : Nat) (bm2 : Nat) (x_m2_0 : Int) (s_m2_1 : ByteArray) (x_m2_2 : Int) (x_m2_3 : Int) (x_m2_4 : Int) (x_m2_5 : Int) (x_m2_6 : Int) (x_m2_7 : Int) (a_m2_8 : Option Addr) (n_m2_8 : Nat) (c_m2_8 : Nat) (s_m2_9 : ByteArray) (s_m2_10 : ByteArray) (x_m2_11 : Int) (t_m2_12 : Bool) (I : Nat → Int → Option Addr → Nat → Nat → World → Prop) (m : Nat) (vals : List Value) (mem : List TB) (w : World) : Prop := ∃ m', m' < m ∧ ∃ x_4 a_m2_13 n_m2_13 c_m2_13, vals = (law04_Cut_v1 bm0 bm1 bm2 x_4) ∧ mem = (law04_Cut_m1 bm0 x_m0_0 s_m0_1 x_m0_2 x_m0_3 x_m0_4 x_m0_5 x_m0_6 x_m0_7 a_m0_8 n_m0_8 c_m0_8 s_m0_9 s_m0_10 x_m0_11 t_m0_12 a_m0_13 n_m0_13 c_m0_13 bm1 bm2 x_m2_0 s_m2_1 x_m2_2 x_m2_3 x_m2_4 x_m2_5 x_m2_6 x_m2_7 a_m2_8 n_m2_8 c_m2_8 s_m2_9 s_m2_10 x_m2_11 t_m2_12 a_m2_13 n_m2_13 c_m2_13) ∧ I m' x_4 a_m2_13 n_m2_13 c_m2_13 w
theorem law04_Cut_leaf1 {bm0 : Nat} {x_m0_0 : Int} {s_m0_1 : ByteArray} {x_m0_2 : Int} {x_m0_3 : Int} {x_m0_4 : Int} {x_m0_5 : Int} {x_m0_6 : Int} {x_m0_7 : Int} {a_m0_8 : Option Addr} {n_m0_8 : Nat} {c_m0_8 : Nat} {s_m0_9 : ByteArray} {s_m0_10 : ByteArray} {x_m0_11 : Int} {t_m0_12 : Bool} {a_m0_13 : Option Addr} {n_m0_13 : Nat} {c_m0_13 : Nat} {bm1 : Nat} {bm2 : Nat} {x_m2_0 : Int} {s_m2_1 : ByteArray} {x_m2_2 : Int} {x_m2_3 : Int} {x_m2_4 : Int} {x_m2_5 : Int} {x_m2_6 : Int} {x_m2_7 : Int} {a_m2_8 : Option Addr} {n_m2_8 : Nat} {c_m2_8 : Nat} {s_m2_9 : ByteArray} {s_m2_10 : ByteArray} {x_m2_11 : Int} {t_m2_12 : Bool} {I : Nat → Int → Option Addr → Nat → Nat → World → Prop} {m : Nat} {x_4 : Int} {a_m2_13 : Option Addr} {n_m2_13 : Nat} {c_m2_13 : Nat} {w : World} (m' : Nat) (h1 : m' < m) (h2 : I m' x_4 a_m2_13 n_m2_13 c_m2_13 w) : law04_Cut_K1 bm0 x_m0_0 s_m0_1 x_m0_2 x_m0_3 x_m0_4 x_m0_5 x_m0_6 x_m0_7 a_m0_8 n_m0_8 c_m0_8 s_m0_9 s_m0_10 x_m0_11 t_m0_12 a_m0_13 n_m0_13 c_m0_13 bm1 bm2 x_m2_0 s_m2_1 x_m2_2 x_m2_3 x_m2_4 x_m2_5 x_m2_6 x_m2_7 a_m2_8 n_m2_8 c_m2_8 s_m2_9 s_m2_10 x_m2_11 t_m2_12 I m (law04_Cut_v1 bm0 bm1 bm2 x_4) (law04_Cut_m1 bm0 x_m0_0 s_m0_1 x_m0_2 x_m0_3 x_m0_4 x_m0_5 x_m0_6 x_m0_7 a_m0_8 n_m0_8 c_m0_8 s_m0_9 s_m0_10 x_m0_11 t_m0_12 a_m0_13 n_m0_13 c_m0_13 bm1 bm2 x_m2_0 s_m2_1 x_m2_2 x_m2_3 x_m2_4 x_m2_5 x_m2_6 x_m2_7 a_m2_8 n_m2_8 c_m2_8 s_m2_9 s_m2_10 x_m2_11 t_m2_12 a_m2_13 n_m2_13 c_m2_13) w := ⟨m', h1, _, _, _, _, rfl, rfl, h2⟩
theorem law04_Cut_rule1 {bm0 : Nat} {x_m0_0 : Int} {s_m0_1 : ByteArray} {x_m0_2 : Int} {x_m0_3 : Int} {x_m0_4 : Int} {x_m0_5 : Int} {x_m0_6 : Int} {x_m0_7 : Int} {a_m0_8 : Option Addr} {n_m0_8 : Nat} {c_m0_8 : Nat} {s_m0_9 : ByteArray} {s_m0_10 : ByteArray} {x_m0_11 : Int} {t_m0_12 : Bool} {a_m0_13 : Option Addr} {n_m0_13 : Nat} {c_m0_13 : Nat} {bm1 : Nat} {bm2 : Nat} {x_m2_0 : Int} {s_m2_1 : ByteArray} {x_m2_2 : Int} {x_m2_3 : Int} {x_m2_4 : Int} {x_m2_5 : Int} {x_m2_6 : Int} {x_m2_7 : Int} {a_m2_8 : Option Addr} {n_m2_8 : Nat} {c_m2_8 : Nat} {s_m2_9 : ByteArray} {s_m2_10 : ByteArray} {x_m2_11 : Int} {t_m2_12 : Bool} {x_40 : Int} {a_m2_130 : Option Addr} {n_m2_130 : Nat} {c_m2_130 : Nat} {R : Value → World → Prop} {w0 : World} (I : Nat → Int → Option Addr → Nat → Nat → World → Prop) (m0 : Nat) (h0 : I m0 x_40 a_m2_130 n_m2_130 c_m2_130 w0)
    (hr : ∀ (m : Nat) (x_4 : Int) (a_m2_13 : Option Addr) (n_m2_13 : Nat) (c_m2_13 : Nat) (w : World), I m x_4 a_m2_13 n_m2_13 c_m2_13 w → law04_Cut_L1 bm0 x_m0_0 s_m0_1 x_m0_2 x_m0_3 x_m0_4 x_m0_5 x_m0_6 x_m0_7 a_m0_8 n_m0_8 c_m0_8 s_m0_9 s_m0_10 x_m0_11 t_m0_12 a_m0_13 n_m0_13 c_m0_13 bm1 bm2 x_m2_0 s_m2_1 x_m2_2 x_m2_3 x_m2_4 x_m2_5 x_m2_6 x_m2_7 a_m2_8 n_m2_8 c_m2_8 s_m2_9 s_m2_10 x_m2_11 t_m2_12 x_4 a_m2_13 n_m2_13 c_m2_13 (law04_Cut_K1 bm0 x_m0_0 s_m0_1 x_m0_2 x_m0_3 x_m0_4 x_m0_5 x_m0_6 x_m0_7 a_m0_8 n_m0_8 c_m0_8 s_m0_9 s_m0_10 x_m0_11 t_m0_12 a_m0_13 n_m0_13 c_m0_13 bm1 bm2 x_m2_0 s_m2_1 x_m2_2 x_m2_3 x_m2_4 x_m2_5 x_m2_6 x_m2_7 a_m2_8 n_m2_8 c_m2_8 s_m2_9 s_m2_10 x_m2_11 t_m2_12 I m) R w) :
    loopD3 law04_Cut_la1 (dnF Tryz.prog law04_Cut_an (code Tryz.f13) 391 [0, 0, 1, 0, 1, 1, 1, 1, 1, 1, 1]) (kont3 Tryz.prog law04_Cut_an (code Tryz.f13) [1, 1, 1, 1, 1, 1, 1, 0, 1, 0] [] (post3 Tryz.prog Tryz.f13 [] R)) (law04_Cut_v1 bm0 bm1 bm2 x_40) (law04_Cut_m1 bm0 x_m0_0 s_m0_1 x_m0_2 x_m0_3 x_m0_4 x_m0_5 x_m0_6 x_m0_7 a_m0_8 n_m0_8 c_m0_8 s_m0_9 s_m0_10 x_m0_11 t_m0_12 a_m0_13 n_m0_13 c_m0_13 bm1 bm2 x_m2_0 s_m2_1 x_m2_2 x_m2_3 x_m2_4 x_m2_5 x_m2_6 x_m2_7 a_m2_8 n_m2_8 c_m2_8 s_m2_9 s_m2_10 x_m2_11 t_m2_12 a_m2_130 n_m2_130 c_m2_130) w0 := by
  refine ⟨fun m vals mem w => ∃ x_4 a_m2_13 n_m2_13 c_m2_13, vals = (law04_Cut_v1 bm0 bm1 bm2 x_4) ∧ mem = (law04_Cut_m1 bm0 x_m0_0 s_m0_1 x_m0_2 x_m0_3 x_m0_4 x_m0_5 x_m0_6 x_m0_7 a_m0_8 n_m0_8 c_m0_8 s_m0_9 s_m0_10 x_m0_11 t_m0_12 a_m0_13 n_m0_13 c_m0_13 bm1 bm2 x_m2_0 s_m2_1 x_m2_2 x_m2_3 x_m2_4 x_m2_5 x_m2_6 x_m2_7 a_m2_8 n_m2_8 c_m2_8 s_m2_9 s_m2_10 x_m2_11 t_m2_12 a_m2_13 n_m2_13 c_m2_13) ∧ I m x_4 a_m2_13 n_m2_13 c_m2_13 w, m0, ⟨_, _, _, _, rfl, rfl, h0⟩, ?_⟩
  rintro m vals mem w ⟨x_4, a_m2_13, n_m2_13, c_m2_13, rfl, rfl, hI⟩
  refine ⟨rfl, rfl, fun js => ?_⟩
  have h := hr m x_4 a_m2_13 n_m2_13 c_m2_13 w hI
  rw [← law04_Cut_L1_eq _ _ _ _ _ _ _ _ _ _ _ _ _ _ _ _ _ _ _ _ _ _ _ _ _ _ _ _ _ _ _ _ _ _ _ _ _ _ _ _ _ js] at h
  exact h
/-- stagecoach/stagecoachlaw04.Cut -/
def law04_Cut_T (a0_o_0 : Int) (a0_o_1 : ByteArray) (a0_o_2 : Int) (a0_o_3 : Int) (a0_o_4 : Int) (a0_o_5 : Int) (a0_o_6 : Int) (a0_o_7 : Int) (a0_o_8_a : Option Addr) (a0_o_8_n : Nat) (a0_o_8_c : Nat) (a0_o_9 : ByteArray) (a0_o_10 : ByteArray) (a0_o_11 : Int) (a0_o_12 : Bool) (a0_o_13_a : Option Addr) (a0_o_13_n : Nat) (a0_o_13_c : Nat) (R : Value → World → Prop) (w : World) : Prop :=
  ∀ b1, w.heap.size ≤ b1 →
  ∀ b2, w.heap.size ≤ b2 →
  ∀ b3, w.heap.size ≤ b3 →
  slS a0_o_1 0 (if 40 < (a0_o_1.size : Int) then 40 else (a0_o_1.size : Int)) fun s4 =>
  slS a0_o_9 0 (if 40 < (a0_o_9.size : Int) then 40 else (a0_o_9.size : Int)) fun s5 =>
  slS a0_o_10 0 (if 40 < (a0_o_10.size : Int) then 40 else (a0_o_10.size : Int)) fun s6 =>
  ∀ w7, Adv [] [b3, b2, b1] w w7 →
  Calls Tryz.prog 57 #[(.agg #[(.int .i64 a0_o_5), (.int .i64 a0_o_6), (.int .i64 a0_o_7), (.slice a0_o_8_a a0_o_8_n a0_o_8_c)])] w7 fun e w8 => ∃ x9 : Int, ∃ x10 : Int, ∃ x11 : Int, ∃ (a12 : Option Addr) (n13 c14 : Nat), e = .returned (.agg #[(.int .i64 x9), (.int .i64 x10), (.int .i64 x11), (.slice a12 n13 c14)]) ∧ Keep [b1, b2, b3] w7 w8 ∧
  ∀ w30, Adv [b3] [] w8 w30 →
  loopD3 law04_Cut_la1 (dnF Tryz.prog law04_Cut_an (code Tryz.f13) 391 [0, 0, 1, 0, 1, 1, 1, 1, 1, 1, 1]) (kont3 Tryz.prog law04_Cut_an (code Tryz.f13) [1, 1, 1, 1, 1, 1, 1, 0, 1, 0] [] (post3 Tryz.prog Tryz.f13 [] R)) (law04_Cut_v1 b1 b2 b3 0) (law04_Cut_m1 b1 a0_o_0 a0_o_1 a0_o_2 a0_o_3 a0_o_4 a0_o_5 a0_o_6 a0_o_7 a0_o_8_a a0_o_8_n a0_o_8_c a0_o_9 a0_o_10 a0_o_11 a0_o_12 a0_o_13_a a0_o_13_n a0_o_13_c b2 b3 a0_o_0 s4 a0_o_2 a0_o_3 a0_o_4 x9 x10 x11 a12 n13 c14 s5 s6 a0_o_11 a0_o_12 none 0 0) w30
theorem law04_Cut_eq (a0_o_0 : Int) (a0_o_1 : ByteArray) (a0_o_2 : Int) (a0_o_3 : Int) (a0_o_4 : Int) (a0_o_5 : Int) (a0_o_6 : Int) (a0_o_7 : Int) (a0_o_8_a : Option Addr) (a0_o_8_n : Nat) (a0_o_8_c : Nat) (a0_o_9 : ByteArray) (a0_o_10 : ByteArray) (a0_o_11 : Int) (a0_o_12 : Bool) (a0_o_13_a : Option Addr) (a0_o_13_n : Nat) (a0_o_13_c : Nat) (R : Value → World → Prop) (w : World) :
    dnF Tryz.prog law04_Cut_an (code Tryz.f13) 400 [] (post3 Tryz.prog Tryz.f13 [] R) ⟨args0 0 [(.agg #[(.int .i64 a0_o_0), (.string a0_o_1), (.int .i64 a0_o_2), (.int .i64 a0_o_3), (.int .i64 a0_o_4), (.int .i64 a0_o_5), (.int .i64 a0_o_6), (.int .i64 a0_o_7), (.slice a0_o_8_a a0_o_8_n a0_o_8_c), (.string a0_o_9), (.string a0_o_10), (.int .i64 a0_o_11), (.bool a0_o_12), (.slice a0_o_13_a a0_o_13_n a0_o_13_c)])], fun _ => undef⟩ ⟨[], w, [], [], true⟩ = law04_Cut_T a0_o_0 a0_o_1 a0_o_2 a0_o_3 a0_o_4 a0_o_5 a0_o_6 a0_o_7 a0_o_8_a a0_o_8_n a0_o_8_c a0_o_9 a0_o_10 a0_o_11 a0_o_12 a0_o_13_a a0_o_13_n a0_o_13_c R w := by kernel_rfl
theorem law04_Cut_go {a0_o_0 : Int} {a0_o_1 : ByteArray} {a0_o_2 : Int} {a0_o_3 : Int} {a0_o_4 : Int} {a0_o_5 : Int} {a0_o_6 : Int} {a0_o_7 : Int} {a0_o_8_a : Option Addr} {a0_o_8_n : Nat} {a0_o_8_c : Nat} {a0_o_9 : ByteArray} {a0_o_10 : ByteArray} {a0_o_11 : Int} {a0_o_12 : Bool} {a0_o_13_a : Option Addr} {a0_o_13_n : Nat} {a0_o_13_c : Nat} {R : Value → World → Prop} {w : World} (h : law04_Cut_T a0_o_0 a0_o_1 a0_o_2 a0_o_3 a0_o_4 a0_o_5 a0_o_6 a0_o_7 a0_o_8_a a0_o_8_n a0_o_8_c a0_o_9 a0_o_10 a0_o_11 a0_o_12 a0_o_13_a a0_o_13_n a0_o_13_c R w) :
    Calls Tryz.prog 13 #[(.agg #[(.int .i64 a0_o_0), (.string a0_o_1), (.int .i64 a0_o_2), (.int .i64 a0_o_3), (.int .i64 a0_o_4), (.int .i64 a0_o_5), (.int .i64 a0_o_6), (.int .i64 a0_o_7), (.slice a0_o_8_a a0_o_8_n a0_o_8_c), (.string a0_o_9), (.string a0_o_10), (.int .i64 a0_o_11), (.bool a0_o_12), (.slice a0_o_13_a a0_o_13_n a0_o_13_c)])] w fun e w' => ∃ v, e = .returned v ∧ R v w' :=
  calls_none Tryz.wide_mixed (f := 13) (args := [(.agg #[(.int .i64 a0_o_0), (.string a0_o_1), (.int .i64 a0_o_2), (.int .i64 a0_o_3), (.int .i64 a0_o_4), (.int .i64 a0_o_5), (.int .i64 a0_o_6), (.int .i64 a0_o_7), (.slice a0_o_8_a a0_o_8_n a0_o_8_c), (.string a0_o_9), (.string a0_o_10), (.int .i64 a0_o_11), (.bool a0_o_12), (.slice a0_o_13_a a0_o_13_n a0_o_13_c)])]) Tryz.func13 rfl rfl (by kernel_rfl) rfl (Eq.mpr (law04_Cut_eq a0_o_0 a0_o_1 a0_o_2 a0_o_3 a0_o_4 a0_o_5 a0_o_6 a0_o_7 a0_o_8_a a0_o_8_n a0_o_8_c a0_o_9 a0_o_10 a0_o_11 a0_o_12 a0_o_13_a a0_o_13_n a0_o_13_c R w) h)
end Go.Proofs.YtohgihgddknmmaaGreat

/- Commands cut short, as the statements do it. -/
namespace Go.Proofs.YtohgihgddknmmaaGreat
open Go Go.RowKit
set_option linter.unusedVariables false
set_option linter.unusedSimpArgs false

theorem cut3_ok (r : PRec) (w : World) : Calls Tryz.prog 103 #[r.v] w fun e w' => ∃ v, e = .returned v ∧ ∃ r' : PRec, v = r'.v ∧ Mod [] w w' := by
  refine law03_cut_go ?_
  intro b1 f1 b2 f2
  refine ⟨by omega, by split <;> omega, by split <;> omega, by omega, by split <;> omega, by split <;> omega, ?_⟩
  intro w3 A3
  exact ⟨⟨r.hk, r.key.extract (Int.toNat 0) (if 80 < (r.key.size : Int) then 80 else (r.key.size : Int)).toNat, r.tomb, r.val.extract (Int.toNat 0) (if 600 < (r.val.size : Int) then 600 else (r.val.size : Int)).toNat⟩, rfl, A3.mod⟩
theorem Bound_ok {w : World} {b : PBatch} {rs : Sl} (h : SlAt w 4 encR rs.a rs.n b.recs) (hw : rs.n ≤ maxLen) :
    Calls Tryz.prog 57 #[b.v rs] w fun e w' => ∃ v, e = .returned v ∧ ∃ (b' : PBatch) (rs' : Sl), v = b'.v rs' ∧ Row w' w.heap.size 149 4 encR rs'.a rs'.n rs'.c b'.recs ∧ b'.recs.length ≤ 20 ∧ Mod [] w w' := by
  refine law03_Bound_go ?_
  intro b1 f1 b2 f2 b3 f3 w1 A1
  have l1 := A1.lt b1 (by simp)
  have l2 := A1.lt b2 (by simp)
  have l3 := A1.lt b3 (by simp)
  have s1 := A1.mod.size
  have hn := h.1
  refine law03_Bound_rule1 (fun mm x a n c w' => ∃ (k : Nat) (l : List PRec), x = k ∧ k ≤ b.recs.length ∧ k ≤ 20 ∧ l.length = k ∧ Row w' w1.heap.size 149 4 encR a n c l ∧ Mod [] w w' ∧ w1.heap.size ≤ w'.heap.size ∧ mm = b.recs.length - k) b.recs.length
    ⟨0, [], rfl, by omega, by omega, rfl, Row.nil .., A1.mod, Nat.le_refl _, rfl⟩ ?_
  rintro mm x a n c w2 ⟨k, l, rfl, hk, hk2, hlk, hRow, N2, s2, rfl⟩
  have fin : ∀ {w'}, Adv [b2] [] w2 w' → ∃ (b' : PBatch) (rs' : Sl), Value.agg #[.int .i64 b.prod, .int .i64 b.epoch, .int .i64 b.seq, .slice a n c] = b'.v rs' ∧ Row w' w.heap.size 149 4 encR rs'.a rs'.n rs'.c b'.recs ∧ b'.recs.length ≤ 20 ∧ Mod [] w w' := fun {w'} A =>
    ⟨⟨b.prod, b.epoch, b.seq, l⟩, ⟨a, n, c⟩, rfl, (hRow.keep A.mod fun ad ha hk => by have := hRow.base ad ha; simp at hk; omega).rebase s1, by show l.length ≤ 20; omega, N2.go0 A.mod (by simpa using f2)⟩
  refine brB_dec (fun hlt => ?_) fun hge => fun w3 A3 => fin A3
  refine brB_dec (fun hlt2 => ?_) fun hge => fun w3 A3 => fin A3
  obtain ⟨r, hr⟩ : ∃ r, b.recs[k]? = some r := ⟨_, List.getElem?_eq_getElem (by omega)⟩
  refine (h.keep0 N2).ixW hr fun q hq => ?_
  intro w3 A3
  have hq := hq w3 A3.mod
  refine ldBool_of (x := r.hk) (by simpa [add_zero] using hq 0 _ rfl) (ldStr_of (hq 1 _ rfl) (ldBool_of (hq 2 _ rfl) (ldStr_of (hq 3 _ rfl) ?_)))
  refine (cut3_ok r w3).mono ?_
  rintro e w4 ⟨_, rfl, r', rfl, M4⟩
  refine ⟨_, _, _, _, rfl, Keep.of0 M4, rfl, ?_⟩
  refine al_of fun b5 w5 c5 M5 f5 => ?_
  have K5 : Mod [] w2 w5 := (A3.mod.go0 M4 (by simp)).go0 M5 (by simp)
  have s5 := K5.size
  obtain ⟨i0, hi, hz0, hz1, hz2⟩ := info_parts infoR
  refine append_of (x := r') (hRow.keep0 K5) Tryz.underlying33 hi hz0 hz1 hz2 rfl (by decide) c5 rfl (encR_one _) (by omega) (by unfold maxLen; omega) (by omega) fun a' c' w6 hR6 hM6 => ?_
  have M6 := hM6 _ (rowS_ok a)
  have hrow := rowS_block hRow
  refine ⟨Keep.of M6 fun b hb _ hb' => ?_, ?_⟩
  · have := hrow b hb'; simp at hb; omega
  intro w7 A7
  unfold maxLen at hw
  refine law03_Bound_leaf1 (b.recs.length - (k + 1)) (by omega) ⟨k + 1, _, by rw [wrap_id (by omega) (by omega)]; omega, by omega, by omega, by rw [List.length_append, hlk]; rfl, hR6.keep A7.mod fun ad ha hk => ?_, ?_, by have := M6.size; have := A7.mod.size; omega, rfl⟩
  · have := hR6.base ad ha; simp at hk; omega
  · refine ((N2.go0 K5 (by simp)).go0 M6 fun i hi => ?_).go0 A7.mod (by simpa using f3)
    have := hrow i hi; omega
theorem Cut_ok {w : World} {o : POp} {rs ts : Sl} (h : OpRd w o rs ts) :
    Calls Tryz.prog 13 #[o.v rs ts] w fun e w' => ∃ v, e = .returned v ∧ ∃ (o' : POp) (rs' ts' : Sl), v = o'.v rs' ts' ∧ OpOwn w' w.heap.size o' rs' ts' ∧ Mod [] w w' := by
  refine law04_Cut_go ?_
  intro b1 f1 b2 f2 b3 f3
  refine ⟨by omega, by split <;> omega, by split <;> omega, by omega, by split <;> omega, by split <;> omega, by omega, by split <;> omega, by split <;> omega, ?_⟩
  intro w1 A1
  have l1 := A1.lt b1 (by simp)
  have l2 := A1.lt b2 (by simp)
  have l3 := A1.lt b3 (by simp)
  have s1 := A1.mod.size
  have hn := h.topics.1
  have hw := h.wt
  unfold maxLen at hw
  refine (Bound_ok (b := o.b) (rs := rs) (h.recs.keep0 A1.mod) h.wr).mono ?_
  rintro e w2 ⟨_, rfl, b', rs', rfl, hB, hbl, M2⟩
  have s2 := M2.size
  refine ⟨_, _, _, _, _, _, rfl, Keep.of0 M2, ?_⟩
  intro w3 A3
  have s3 := A3.mod.size
  have hB3 : Row w3 w1.heap.size 149 4 encR rs'.a rs'.n rs'.c b'.recs := hB.keep A3.mod fun ad ha hk => by have := hB.base ad ha; simp at hk; omega
  have N3 := (A1.mod.go0 M2 (by simp)).go0 A3.mod (by simpa using f3)
  refine law04_Cut_rule1 (fun mm x a n c w' => ∃ (k : Nat) (l : List ByteArray), x = k ∧ k ≤ o.topics.length ∧ k ≤ 12 ∧ l.length = k ∧ Row w' w1.heap.size 9 1 encS a n c l ∧ Row w' w1.heap.size 149 4 encR rs'.a rs'.n rs'.c b'.recs ∧ Mod [] w w' ∧ w1.heap.size ≤ w'.heap.size ∧ mm = o.topics.length - k) o.topics.length
    ⟨0, [], rfl, by omega, by omega, rfl, Row.nil .., hB3, N3, by omega, rfl⟩ ?_
  rintro mm x a n c w4 ⟨k, l, rfl, hk, hk2, hlk, hRow, hB4, N4, s4, rfl⟩
  have fin : ∀ {w'} {s1 s2 s3 : ByteArray}, Adv [b2] [] w4 w' → ∃ (o' : POp) (rs'' ts' : Sl), Value.agg #[.int .i64 o.kind, .string s1, .int .i64 o.part.n, .int .i64 o.n, .int .i64 o.off, .int .i64 b'.prod, .int .i64 b'.epoch, .int .i64 b'.seq, .slice rs'.a rs'.n rs'.c, .string s2, .string s3, .int .i64 o.gen, .bool o.robin, .slice a n c] = o'.v rs'' ts' ∧ OpOwn w' w.heap.size o' rs'' ts' ∧ Mod [] w w' := fun {w' t1 t2 t3} A =>
    ⟨⟨o.kind, ⟨t1, o.part.n⟩, o.n, o.off, b', t2, t3, o.gen, o.robin, l⟩, rs', ⟨a, n, c⟩, rfl, ⟨(hB4.keep A.mod fun ad ha hk => by have := hB4.base ad ha; simp at hk; omega).rebase s1, (hRow.keep A.mod fun ad ha hk => by have := hRow.base ad ha; simp at hk; omega).rebase s1, by show b'.recs.length ≤ _; omega, by show l.length ≤ _; omega⟩, N4.go0 A.mod (by simpa using f2)⟩
  refine brB_dec (fun hlt => ?_) fun hge => fun w5 A5 => fin A5
  refine brB_dec (fun hlt2 => ?_) fun hge => fun w5 A5 => fin A5
  obtain ⟨t, ht⟩ : ∃ t, o.topics[k]? = some t := ⟨_, List.getElem?_eq_getElem (by omega)⟩
  refine (h.topics.keep0 N4).ixW ht fun q hq => ?_
  intro w5 A5
  refine ldStr_of (x := t) (by simpa [add_zero] using hq w5 A5.mod 0 _ rfl) ?_
  refine (h.topics.keep0 N4).ixW ht fun q hq => ?_
  refine ldStr_of (x := t) (by simpa [add_zero] using hq w5 A5.mod 0 _ rfl) ?_
  refine ⟨by omega, by split <;> omega, by split <;> omega, ?_⟩
  refine al_of fun b6 w6 c6 M6 f6 => ?_
  have K6 : Mod [] w4 w6 := A5.mod.go0 M6 (by simp)
  have s6 := K6.size
  obtain ⟨i0, hi, hz0, hz1, hz2⟩ := info_parts infoS
  refine append_of (enc := encS) (x := (_ : ByteArray)) (hRow.keep0 K6) Tryz.underlying36 hi hz0 hz1 hz2 rfl (by decide) c6 rfl (encS_one _) (by omega) (by unfold maxLen; omega) (by omega) fun a' c' w7 hR7 hM7 => ?_
  have M7 := hM7 _ (rowS_ok a)
  have s7 := M7.size
  have hrow := rowS_block hRow
  refine ⟨Keep.of M7 fun b hb _ hb' => ?_, ?_⟩
  · have := hrow b hb'; simp at hb; omega
  intro w8 A8
  have s8 := A8.mod.size
  have hB7 : Row w7 w1.heap.size 149 4 encR rs'.a rs'.n rs'.c b'.recs := (hB4.keep0 K6).keep M7 fun ad ha hk => by
    obtain ⟨_, cur, hc⟩ := hB4.block ad ha
    obtain ⟨_, _, cur2, hc2⟩ := hrow _ hk
    rw [hc2] at hc; cases hc
  refine law04_Cut_leaf1 (o.topics.length - (k + 1)) (by omega) ⟨k + 1, _, by rw [wrap_id (by omega) (by omega)]; omega, by omega, by omega, by rw [List.length_append, hlk]; rfl, hR7.keep A8.mod fun ad ha hk => ?_, hB7.keep A8.mod fun ad ha hk => ?_, ?_, by omega, rfl⟩
  · have := hR7.base ad ha; simp at hk; omega
  · have := hB7.base ad ha; simp at hk; omega
  · refine ((N4.go0 K6 (by simp)).go0 M7 fun i hi => ?_).go0 A8.mod (by simpa using f3)
    have := hrow i hi; omega
end Go.Proofs.YtohgihgddknmmaaGreat

/- The conditions of Go functions' bodies, printed by gen2.py. -/
namespace Go.Proofs.YtohgihgddknmmaaGreat
open Go Go.RowKit
set_option linter.unusedVariables false
set_option maxRecDepth 100000

def law16_tick_an : List LA := []
/-- stagecoach/stagecoachlaw16.tick -/
def law16_tick_T (a0_client : Int) (a1_n : Int) (R : Value → World → Prop) (w : World) : Prop :=
  ∀ b1, w.heap.size ≤ b1 →
  ∀ w2, Adv [] [b1] w w2 →
  R (.agg #[(.int .i64 a0_client), (.int .i64 a1_n), (.int .i64 12), (.string ByteArray.empty), (.int .i64 0), (.int .i64 a1_n), (.int .i64 0), (.int .i64 0), (.int .i64 0), (.int .i64 0), (.slice none 0 0), (.string ByteArray.empty), (.string ByteArray.empty), (.int .i64 0), (.bool false), (.slice none 0 0)]) w2
theorem law16_tick_eq (a0_client : Int) (a1_n : Int) (R : Value → World → Prop) (w : World) :
    dnF Tryz.prog law16_tick_an (code Tryz.f52) 400 [] (post3 Tryz.prog Tryz.f52 [] R) ⟨args0 0 [(.int .i64 a0_client), (.int .i64 a1_n)], fun _ => undef⟩ ⟨[], w, [], [], true⟩ = law16_tick_T a0_client a1_n R w := by kernel_rfl
theorem law16_tick_go {a0_client : Int} {a1_n : Int} {R : Value → World → Prop} {w : World} (h : law16_tick_T a0_client a1_n R w) :
    Calls Tryz.prog 52 #[(.int .i64 a0_client), (.int .i64 a1_n)] w fun e w' => ∃ v, e = .returned v ∧ R v w' :=
  calls_none Tryz.wide_mixed (f := 52) (args := [(.int .i64 a0_client), (.int .i64 a1_n)]) Tryz.func52 rfl rfl (by kernel_rfl) rfl (Eq.mpr (law16_tick_eq a0_client a1_n R w) h)
def law16_Cut_la1 : LA := ⟨[0, 0, 1, 0, 1, 1], [0, 3, 4], [], 0, []⟩
def law16_Cut_an : List LA := [law16_Cut_la1]
def law16_Cut_v1 (a_0 : Option Addr) (n_0 : Nat) (c_0 : Nat) (a_3 : Option Addr) (n_3 : Nat) (c_3 : Nat) (x_4 : Int) : List Value := [(.slice a_0 n_0 c_0), (.slice a_3 n_3 c_3), (.int .i64 x_4)]
def law16_Cut_m1 : List TB := []
def law16_Cut_L1 (a_0 : Option Addr) (n_0 : Nat) (c_0 : Nat) (a_3 : Option Addr) (n_3 : Nat) (c_3 : Nat) (x_4 : Int) (K1 : Kh) (R : Value → World → Prop) (w : World) : Prop :=
  brB (decide (x_4 < (n_0 : Int))) (
    brB (decide (x_4 < 12)) (
      ixA a_0 n_0 x_4 16 fun q3 =>
      ∀ w4, Adv [] [] w w4 →
      ldInt .i64 w4 q3 fun x5 =>
      ixA a_0 n_0 x_4 16 fun q6 =>
      ldInt .i64 w4 (Addr.add q6 1) fun x7 =>
      ixA a_0 n_0 x_4 16 fun q8 =>
      ldInt .i64 w4 (Addr.add q8 2) fun x9 => ldStr w4 (Addr.add (Addr.add q8 2) 1) fun s10 => ldInt .i64 w4 (Addr.add (Addr.add q8 2) 2) fun x11 => ldInt .i64 w4 (Addr.add (Addr.add q8 2) 3) fun x12 => ldInt .i64 w4 (Addr.add (Addr.add q8 2) 4) fun x13 => ldInt .i64 w4 (Addr.add (Addr.add q8 2) 5) fun x14 => ldInt .i64 w4 (Addr.add (Addr.add q8 2) 6) fun x15 => ldInt .i64 w4 (Addr.add (Addr.add q8 2) 7) fun x16 => ldSlice w4 (Addr.add (Addr.add q8 2) 8) fun a17 n18 c19 => ldStr w4 (Addr.add (Addr.add q8 2) 9) fun s20 => ldStr w4 (Addr.add (Addr.add q8 2) 10) fun s21 => ldInt .i64 w4 (Addr.add (Addr.add q8 2) 11) fun x22 => ldBool w4 (Addr.add (Addr.add q8 2) 12) fun t23 => ldSlice w4 (Addr.add (Addr.add q8 2) 13) fun a24 n25 c26 =>
      Calls Tryz.prog 13 #[(.agg #[(.int .i64 x9), (.string s10), (.int .i64 x11), (.int .i64 x12), (.int .i64 x13), (.int .i64 x14), (.int .i64 x15), (.int .i64 x16), (.slice a17 n18 c19), (.string s20), (.string s21), (.int .i64 x22), (.bool t23), (.slice a24 n25 c26)])] w4 fun e w27 => ∃ x28 : Int, ∃ s29 : ByteArray, ∃ x30 : Int, ∃ x31 : Int, ∃ x32 : Int, ∃ x33 : Int, ∃ x34 : Int, ∃ x35 : Int, ∃ (a36 : Option Addr) (n37 c38 : Nat), ∃ s39 : ByteArray, ∃ s40 : ByteArray, ∃ x41 : Int, ∃ t42 : Bool, ∃ (a43 : Option Addr) (n44 c45 : Nat), e = .returned (.agg #[(.int .i64 x28), (.string s29), (.int .i64 x30), (.int .i64 x31), (.int .i64 x32), (.int .i64 x33), (.int .i64 x34), (.int .i64 x35), (.slice a36 n37 c38), (.string s39), (.string s40), (.int .i64 x41), (.bool t42), (.slice a43 n44 c45)]) ∧ (ldInt .i64 w27 (Addr.add q6 1) fun x46 => ((.int .i64 x46) : Value) = (.int .i64 x7)) ∧ (ldInt .i64 w27 q3 fun x47 => ((.int .i64 x47) : Value) = (.int .i64 x5)) ∧
      al w27 (.cells #[(.int .i64 x5), (.int .i64 x7), (.int .i64 x28), (.string s29), (.int .i64 x30), (.int .i64 x31), (.int .i64 x32), (.int .i64 x33), (.int .i64 x34), (.int .i64 x35), (.slice a36 n37 c38), (.string s39), (.string s40), (.int .i64 x41), (.bool t42), (.slice a43 n44 c45)] 57) fun b48 w49 =>
      effSl Tryz.prog (Builtin.append_ #[39, 39] 39 #[(.slice a_3 n_3 c_3), (.slice (some ⟨b48, 0, none⟩) 1 1)]) w49 fun a51 n52 c53 w50 =>
      K1 (law16_Cut_v1 a_0 n_0 c_0 a51 n52 c53 (IntKind.wrap .i64 (x_4 + 1))) (law16_Cut_m1) w50)
    (
      R (.slice a_3 n_3 c_3) w))
  (
    R (.slice a_3 n_3 c_3) w)
theorem law16_Cut_L1_eq (a_0 : Option Addr) (n_0 : Nat) (c_0 : Nat) (a_3 : Option Addr) (n_3 : Nat) (c_3 : Nat) (x_4 : Int) (K1 : Kh) (js : Nat → Value) (R : Value → World → Prop) (w : World) :
    headA law16_Cut_la1 ((dnF Tryz.prog law16_Cut_an (code Tryz.f30) 396 [0, 0, 1, 0, 1, 1]) (kthen3 (atA law16_Cut_la1 K1) (kont3 Tryz.prog law16_Cut_an (code Tryz.f30) [1, 1, 0, 1, 0] [] (post3 Tryz.prog Tryz.f30 [] R)))) (law16_Cut_v1 a_0 n_0 c_0 a_3 n_3 c_3 x_4) js (law16_Cut_m1) w = law16_Cut_L1 a_0 n_0 c_0 a_3 n_3 c_3 x_4 K1 R w := by kernel_rfl
def law16_Cut_K1 (a_0 : Option Addr) (n_0 : Nat) (c_0 : Nat) (I : Nat → Option Addr → Nat → Nat → Int → World → Prop) (m : Nat) (vals : List Value) (mem : List TB) (w : World) : Prop := ∃ m', m' < m ∧ ∃ a_3 n_3 c_3 x_4, vals = (law16_Cut_v1 a_0 n_0 c_0 a_3 n_3 c_3 x_4) ∧ mem = (law16_Cut_m1) ∧ I m' a_3 n_3 c_3 x_4 w
theorem law16_Cut_leaf1 {a_0 : Option Addr} {n_0 : Nat} {c_0 : Nat} {I : Nat → Option Addr → Nat → Nat → Int → World → Prop} {m : Nat} {a_3 : Option Addr} {n_3 : Nat} {c_3 : Nat} {x_4 : Int} {w : World} (m' : Nat) (h1 : m' < m) (h2 : I m' a_3 n_3 c_3 x_4 w) : law16_Cut_K1 a_0 n_0 c_0 I m (law16_Cut_v1 a_0 n_0 c_0 a_3 n_3 c_3 x_4) (law16_Cut_m1) w := ⟨m', h1, _, _, _, _, rfl, rfl, h2⟩
theorem law16_Cut_rule1 {a_0 : Option Addr} {n_0 : Nat} {c_0 : Nat} {a_30 : Option Addr} {n_30 : Nat} {c_30 : Nat} {x_40 : Int} {R : Value → World → Prop} {w0 : World} (I : Nat → Option Addr → Nat → Nat → Int → World → Prop) (m0 : Nat) (h0 : I m0 a_30 n_30 c_30 x_40 w0)
    (hr : ∀ (m : Nat) (a_3 : Option Addr) (n_3 : Nat) (c_3 : Nat) (x_4 : Int) (w : World), I m a_3 n_3 c_3 x_4 w → law16_Cut_L1 a_0 n_0 c_0 a_3 n_3 c_3 x_4 (law16_Cut_K1 a_0 n_0 c_0 I m) R w) :
    loopD3 law16_Cut_la1 (dnF Tryz.prog law16_Cut_an (code Tryz.f30) 396 [0, 0, 1, 0, 1, 1]) (kont3 Tryz.prog law16_Cut_an (code Tryz.f30) [1, 1, 0, 1, 0] [] (post3 Tryz.prog Tryz.f30 [] R)) (law16_Cut_v1 a_0 n_0 c_0 a_30 n_30 c_30 x_40) (law16_Cut_m1) w0 := by
  refine ⟨fun m vals mem w => ∃ a_3 n_3 c_3 x_4, vals = (law16_Cut_v1 a_0 n_0 c_0 a_3 n_3 c_3 x_4) ∧ mem = (law16_Cut_m1) ∧ I m a_3 n_3 c_3 x_4 w, m0, ⟨_, _, _, _, rfl, rfl, h0⟩, ?_⟩
  rintro m vals mem w ⟨a_3, n_3, c_3, x_4, rfl, rfl, hI⟩
  refine ⟨rfl, rfl, fun js => ?_⟩
  have h := hr m a_3 n_3 c_3 x_4 w hI
  rw [← law16_Cut_L1_eq _ _ _ _ _ _ _ _ js] at h
  exact h
/-- stagecoach/stagecoachlaw16.Cut -/
def law16_Cut_T (a0_l_a : Option Addr) (a0_l_n : Nat) (a0_l_c : Nat) (R : Value → World → Prop) (w : World) : Prop :=
  al w (.cells #[] 57) fun b1 w2 =>
  loopD3 law16_Cut_la1 (dnF Tryz.prog law16_Cut_an (code Tryz.f30) 396 [0, 0, 1, 0, 1, 1]) (kont3 Tryz.prog law16_Cut_an (code Tryz.f30) [1, 1, 0, 1, 0] [] (post3 Tryz.prog Tryz.f30 [] R)) (law16_Cut_v1 a0_l_a a0_l_n a0_l_c (some ⟨b1, 0, none⟩) 0 0 0) (law16_Cut_m1) w2
theorem law16_Cut_eq (a0_l_a : Option Addr) (a0_l_n : Nat) (a0_l_c : Nat) (R : Value → World → Prop) (w : World) :
    dnF Tryz.prog law16_Cut_an (code Tryz.f30) 400 [] (post3 Tryz.prog Tryz.f30 [] R) ⟨args0 0 [(.slice a0_l_a a0_l_n a0_l_c)], fun _ => undef⟩ ⟨[], w, [], [], true⟩ = law16_Cut_T a0_l_a a0_l_n a0_l_c R w := by kernel_rfl
theorem law16_Cut_go {a0_l_a : Option Addr} {a0_l_n : Nat} {a0_l_c : Nat} {R : Value → World → Prop} {w : World} (h : law16_Cut_T a0_l_a a0_l_n a0_l_c R w) :
    Calls Tryz.prog 30 #[(.slice a0_l_a a0_l_n a0_l_c)] w fun e w' => ∃ v, e = .returned v ∧ R v w' :=
  calls_none Tryz.wide_mixed (f := 30) (args := [(.slice a0_l_a a0_l_n a0_l_c)]) Tryz.func30 rfl rfl (by kernel_rfl) rfl (Eq.mpr (law16_Cut_eq a0_l_a a0_l_n a0_l_c R w) h)
def law16_fixed_an : List LA := []
/-- stagecoach/stagecoachlaw16.fixed -/
def law16_fixed_T (R : Value → World → Prop) (w : World) : Prop :=
  Calls Tryz.prog 41 #[] w fun e w1 => ∃ p2 : Option Addr, e = .returned (.pointer p2) ∧
  brB (Option.isNone p2) (
    R (.bool false) w1)
  (
    Calls Tryz.prog 52 #[(.int .i64 1), (.int .i64 1)] w1 fun e w3 => ∃ x4 : Int, ∃ x5 : Int, ∃ x6 : Int, ∃ s7 : ByteArray, ∃ x8 : Int, ∃ x9 : Int, ∃ x10 : Int, ∃ x11 : Int, ∃ x12 : Int, ∃ x13 : Int, ∃ (a14 : Option Addr) (n15 c16 : Nat), ∃ s17 : ByteArray, ∃ s18 : ByteArray, ∃ x19 : Int, ∃ t20 : Bool, ∃ (a21 : Option Addr) (n22 c23 : Nat), e = .returned (.agg #[(.int .i64 x4), (.int .i64 x5), (.int .i64 x6), (.string s7), (.int .i64 x8), (.int .i64 x9), (.int .i64 x10), (.int .i64 x11), (.int .i64 x12), (.int .i64 x13), (.slice a14 n15 c16), (.string s17), (.string s18), (.int .i64 x19), (.bool t20), (.slice a21 n22 c23)]) ∧
    Calls Tryz.prog 42 #[(.pointer p2), (.agg #[(.int .i64 x4), (.int .i64 x5), (.int .i64 x6), (.string s7), (.int .i64 x8), (.int .i64 x9), (.int .i64 x10), (.int .i64 x11), (.int .i64 x12), (.int .i64 x13), (.slice a14 n15 c16), (.string s17), (.string s18), (.int .i64 x19), (.bool t20), (.slice a21 n22 c23)])] w3 fun e w24 => ∃ x25 : Int, ∃ x26 : Int, e = .returned (.tuple #[(.int .i64 x25), (.int .i64 x26)]) ∧
    Calls Tryz.prog 52 #[(.int .i64 1), (.int .i64 2)] w24 fun e w27 => ∃ x28 : Int, ∃ x29 : Int, ∃ x30 : Int, ∃ s31 : ByteArray, ∃ x32 : Int, ∃ x33 : Int, ∃ x34 : Int, ∃ x35 : Int, ∃ x36 : Int, ∃ x37 : Int, ∃ (a38 : Option Addr) (n39 c40 : Nat), ∃ s41 : ByteArray, ∃ s42 : ByteArray, ∃ x43 : Int, ∃ t44 : Bool, ∃ (a45 : Option Addr) (n46 c47 : Nat), e = .returned (.agg #[(.int .i64 x28), (.int .i64 x29), (.int .i64 x30), (.string s31), (.int .i64 x32), (.int .i64 x33), (.int .i64 x34), (.int .i64 x35), (.int .i64 x36), (.int .i64 x37), (.slice a38 n39 c40), (.string s41), (.string s42), (.int .i64 x43), (.bool t44), (.slice a45 n46 c47)]) ∧
    Calls Tryz.prog 42 #[(.pointer p2), (.agg #[(.int .i64 x28), (.int .i64 x29), (.int .i64 x30), (.string s31), (.int .i64 x32), (.int .i64 x33), (.int .i64 x34), (.int .i64 x35), (.int .i64 x36), (.int .i64 x37), (.slice a38 n39 c40), (.string s41), (.string s42), (.int .i64 x43), (.bool t44), (.slice a45 n46 c47)])] w27 fun e w48 => ∃ x49 : Int, ∃ x50 : Int, e = .returned (.tuple #[(.int .i64 x49), (.int .i64 x50)]) ∧
    Calls Tryz.prog 43 #[(.pointer p2), (.int .i64 1)] w48 fun e w51 => ∃ x52 : Int, e = .returned (.int .i64 x52) ∧
    Calls Tryz.prog 40 #[(.pointer p2)] w51 fun e w53 => ∃ x54 : Int, ∃ x55 : Int, e = .returned (.tuple #[(.int .i64 x54), (.int .i64 x55)]) ∧
    Calls Tryz.prog 44 #[(.pointer p2), (.int .i64 1)] w53 fun e w56 => ∃ x57 : Int, ∃ x58 : Int, ∃ x59 : Int, ∃ s60 : ByteArray, ∃ x61 : Int, ∃ x62 : Int, ∃ x63 : Int, ∃ x64 : Int, ∃ x65 : Int, ∃ x66 : Int, ∃ (a67 : Option Addr) (n68 c69 : Nat), ∃ s70 : ByteArray, ∃ s71 : ByteArray, ∃ x72 : Int, ∃ t73 : Bool, ∃ (a74 : Option Addr) (n75 c76 : Nat), ∃ x77 : Int, e = .returned (.tuple #[(.agg #[(.int .i64 x57), (.int .i64 x58), (.int .i64 x59), (.string s60), (.int .i64 x61), (.int .i64 x62), (.int .i64 x63), (.int .i64 x64), (.int .i64 x65), (.int .i64 x66), (.slice a67 n68 c69), (.string s70), (.string s71), (.int .i64 x72), (.bool t73), (.slice a74 n75 c76)]), (.int .i64 x77)]) ∧
    ∀ b78, w56.heap.size ≤ b78 →
    ∀ w79, Adv [] [b78] w56 w79 →
    Calls Tryz.prog 44 #[(.pointer p2), (.int .i64 2)] w79 fun e w80 => ∃ x81 : Int, ∃ x82 : Int, ∃ x83 : Int, ∃ s84 : ByteArray, ∃ x85 : Int, ∃ x86 : Int, ∃ x87 : Int, ∃ x88 : Int, ∃ x89 : Int, ∃ x90 : Int, ∃ (a91 : Option Addr) (n92 c93 : Nat), ∃ s94 : ByteArray, ∃ s95 : ByteArray, ∃ x96 : Int, ∃ t97 : Bool, ∃ (a98 : Option Addr) (n99 c100 : Nat), ∃ x101 : Int, e = .returned (.tuple #[(.agg #[(.int .i64 x81), (.int .i64 x82), (.int .i64 x83), (.string s84), (.int .i64 x85), (.int .i64 x86), (.int .i64 x87), (.int .i64 x88), (.int .i64 x89), (.int .i64 x90), (.slice a91 n92 c93), (.string s94), (.string s95), (.int .i64 x96), (.bool t97), (.slice a98 n99 c100)]), (.int .i64 x101)]) ∧ Keep [b78] w79 w80 ∧
    ∀ b102, w80.heap.size ≤ b102 →
    ∀ w103, Adv [] [b102] w80 w103 →
    Calls Tryz.prog 38 #[(.pointer p2), (.int .i64 1)] w103 fun e w104 => ∃ (a105 : Option Addr) (n106 c107 : Nat), ∃ x108 : Int, e = .returned (.tuple #[(.slice a105 n106 c107), (.int .i64 x108)]) ∧ Keep [b78, b102] w103 w104 ∧
    Calls Tryz.prog 38 #[(.pointer p2), (.int .i64 3)] w104 fun e w109 => ∃ (a110 : Option Addr) (n111 c112 : Nat), ∃ x113 : Int, e = .returned (.tuple #[(.slice a110 n111 c112), (.int .i64 x113)]) ∧ Keep [b78, b102] w104 w109 ∧
    Calls Tryz.prog 42 #[(.pointer p2), (.agg #[(.int .i64 0), (.int .i64 0), (.int .i64 0), (.string ByteArray.empty), (.int .i64 0), (.int .i64 0), (.int .i64 0), (.int .i64 0), (.int .i64 0), (.int .i64 0), (.slice none 0 0), (.string ByteArray.empty), (.string ByteArray.empty), (.int .i64 0), (.bool false), (.slice none 0 0)])] w109 fun e w114 => ∃ x115 : Int, ∃ x116 : Int, e = .returned (.tuple #[(.int .i64 x115), (.int .i64 x116)]) ∧ Keep [b78, b102] w109 w114 ∧
    Calls Tryz.prog 31 #[(.slice a105 n106 c107)] w114 fun e w117 => ∃ s118 : ByteArray, ∃ x119 : Int, e = .returned (.tuple #[(.string s118), (.int .i64 x119)]) ∧ Keep [b78, b102] w114 w117 ∧
    Calls Tryz.prog 33 #[(.string s118)] w117 fun e w120 => ∃ (a121 : Option Addr) (n122 c123 : Nat), ∃ x124 : Int, e = .returned (.tuple #[(.slice a121 n122 c123), (.int .i64 x124)]) ∧ Keep [b78, b102] w117 w120 ∧
    catS s118 (⟨#[120]⟩ : ByteArray) fun s125 =>
    Calls Tryz.prog 33 #[(.string s125)] w120 fun e w126 => ∃ (a127 : Option Addr) (n128 c129 : Nat), ∃ x130 : Int, e = .returned (.tuple #[(.slice a127 n128 c129), (.int .i64 x130)]) ∧ Keep [b78, b102] w120 w126 ∧
    Calls Tryz.prog 52 #[(.int .i64 2), (.int .i64 5)] w126 fun e w131 => ∃ x132 : Int, ∃ x133 : Int, ∃ x134 : Int, ∃ s135 : ByteArray, ∃ x136 : Int, ∃ x137 : Int, ∃ x138 : Int, ∃ x139 : Int, ∃ x140 : Int, ∃ x141 : Int, ∃ (a142 : Option Addr) (n143 c144 : Nat), ∃ s145 : ByteArray, ∃ s146 : ByteArray, ∃ x147 : Int, ∃ t148 : Bool, ∃ (a149 : Option Addr) (n150 c151 : Nat), e = .returned (.agg #[(.int .i64 x132), (.int .i64 x133), (.int .i64 x134), (.string s135), (.int .i64 x136), (.int .i64 x137), (.int .i64 x138), (.int .i64 x139), (.int .i64 x140), (.int .i64 x141), (.slice a142 n143 c144), (.string s145), (.string s146), (.int .i64 x147), (.bool t148), (.slice a149 n150 c151)]) ∧ Keep [b78, b102] w126 w131 ∧
    Calls Tryz.prog 52 #[(.int .i64 2), (.int .i64 6)] w131 fun e w152 => ∃ x153 : Int, ∃ x154 : Int, ∃ x155 : Int, ∃ s156 : ByteArray, ∃ x157 : Int, ∃ x158 : Int, ∃ x159 : Int, ∃ x160 : Int, ∃ x161 : Int, ∃ x162 : Int, ∃ (a163 : Option Addr) (n164 c165 : Nat), ∃ s166 : ByteArray, ∃ s167 : ByteArray, ∃ x168 : Int, ∃ t169 : Bool, ∃ (a170 : Option Addr) (n171 c172 : Nat), e = .returned (.agg #[(.int .i64 x153), (.int .i64 x154), (.int .i64 x155), (.string s156), (.int .i64 x157), (.int .i64 x158), (.int .i64 x159), (.int .i64 x160), (.int .i64 x161), (.int .i64 x162), (.slice a163 n164 c165), (.string s166), (.string s167), (.int .i64 x168), (.bool t169), (.slice a170 n171 c172)]) ∧ Keep [b78, b102] w131 w152 ∧
    al w152 (.cells #[(.int .i64 x132), (.int .i64 x133), (.int .i64 x134), (.string s135), (.int .i64 x136), (.int .i64 x137), (.int .i64 x138), (.int .i64 x139), (.int .i64 x140), (.int .i64 x141), (.slice a142 n143 c144), (.string s145), (.string s146), (.int .i64 x147), (.bool t148), (.slice a149 n150 c151), (.int .i64 x153), (.int .i64 x154), (.int .i64 x155), (.string s156), (.int .i64 x157), (.int .i64 x158), (.int .i64 x159), (.int .i64 x160), (.int .i64 x161), (.int .i64 x162), (.slice a163 n164 c165), (.string s166), (.string s167), (.int .i64 x168), (.bool t169), (.slice a170 n171 c172)] 57) fun b173 w174 =>
    Calls Tryz.prog 39 #[(.pointer p2), (.int .i64 1), (.slice (some ⟨b173, 0, none⟩) 2 2)] w174 fun e w175 => ∃ x176 : Int, e = .returned (.int .i64 x176) ∧ Keep [b78, b102] w174 w175 ∧
    Calls Tryz.prog 45 #[(.pointer p2), (.int .i64 2)] w175 fun e w177 => ∃ x178 : Int, e = .returned (.int .i64 x178) ∧ Keep [b78, b102] w175 w177 ∧
    Calls Tryz.prog 37 #[(.int .i64 (-1)), (.slice none 0 0)] w177 fun e w179 => ∃ p180 : Option Addr, ∃ x181 : Int, e = .returned (.tuple #[(.pointer p180), (.int .i64 x181)]) ∧ Keep [b78, b102] w177 w179 ∧
    Calls Tryz.prog 38 #[(.pointer p2), (.int .i64 2)] w179 fun e w182 => ∃ (a183 : Option Addr) (n184 c185 : Nat), ∃ x186 : Int, e = .returned (.tuple #[(.slice a183 n184 c185), (.int .i64 x186)]) ∧ Keep [b78, b102] w179 w182 ∧
    brB (x25 == 1) (
      brB (x26 == 0) (
        brB (x49 == 2) (
          brB (x50 == 0) (
            brB (x52 == 0) (
              brB (x54 == 1) (
                brB (x55 == 2) (
                  brB (x77 == 161) (
                    brB (x82 == 2) (
                      brB (x101 == 0) (
                        brB ((n106 : Int) == 1) (
                          brB (x108 == 0) (
                            brB (x113 == 160) (
                              brB (x116 == 1) (
                                brB (x119 == 0) (
                                  Calls Tryz.prog 28 #[(.slice a121 n122 c123), (.slice a105 n106 c107)] w182 fun e w187 => ∃ t188 : Bool, e = .returned (.bool t188) ∧ Keep [b78, b102] w182 w187 ∧
                                  brB t188 (
                                    brB (x124 == 0) (
                                      brB (x130 == 162) (
                                        brB (x176 == 0) (
                                          brB (x178 == 0) (
                                            brB (x181 == 1) (
                                              brB (x186 == 0) (
                                                Calls Tryz.prog 35 #[(.slice a105 n106 c107), (.slice a121 n122 c123)] w187 fun e w189 => ∃ t190 : Bool, e = .returned (.bool t190) ∧ Keep [b78, b102] w187 w189 ∧
                                                brB t190 (
                                                  Calls Tryz.prog 35 #[(.slice a105 n106 c107), (.slice none 0 0)] w189 fun e w191 => ∃ t192 : Bool, e = .returned (.bool t192) ∧ Keep [b78, b102] w189 w191 ∧
                                                  R (.bool (!t192)) w191)
                                                (
                                                  R (.bool false) w189))
                                              (
                                                R (.bool false) w187))
                                            (
                                              R (.bool false) w187))
                                          (
                                            R (.bool false) w187))
                                        (
                                          R (.bool false) w187))
                                      (
                                        R (.bool false) w187))
                                    (
                                      R (.bool false) w187))
                                  (
                                    R (.bool false) w187))
                                (
                                  R (.bool false) w182))
                              (
                                R (.bool false) w182))
                            (
                              R (.bool false) w182))
                          (
                            R (.bool false) w182))
                        (
                          R (.bool false) w182))
                      (
                        R (.bool false) w182))
                    (
                      R (.bool false) w182))
                  (
                    R (.bool false) w182))
                (
                  R (.bool false) w182))
              (
                R (.bool false) w182))
            (
              R (.bool false) w182))
          (
            R (.bool false) w182))
        (
          R (.bool false) w182))
      (
        R (.bool false) w182))
    (
      R (.bool false) w182))
theorem law16_fixed_eq (R : Value → World → Prop) (w : World) :
    dnF Tryz.prog law16_fixed_an (code Tryz.f36) 400 [] (post3 Tryz.prog Tryz.f36 [] R) ⟨args0 0 [], fun _ => undef⟩ ⟨[], w, [], [], true⟩ = law16_fixed_T R w := by kernel_rfl
theorem law16_fixed_go {R : Value → World → Prop} {w : World} (h : law16_fixed_T R w) :
    Calls Tryz.prog 36 #[] w fun e w' => ∃ v, e = .returned v ∧ R v w' :=
  calls_none Tryz.wide_mixed (f := 36) (args := []) Tryz.func36 rfl rfl (by kernel_rfl) rfl (Eq.mpr (law16_fixed_eq R w) h)
end Go.Proofs.YtohgihgddknmmaaGreat

/- The log's statements: what they have in common. -/
namespace Go.Proofs.YtohgihgddknmmaaGreat
open Go Go.RowKit
set_option linter.unusedVariables false
set_option linter.unusedSimpArgs false

def tickC (c n : Int) : PCall := ⟨c, n, ⟨12, ⟨⟨#[]⟩, 0⟩, n, 0, batch0, ⟨#[]⟩, ⟨#[]⟩, 0, false, []⟩⟩
theorem tickC_ok (c n : Int) (w : World) : Calls Tryz.prog 52 #[.int .i64 c, .int .i64 n] w fun e w' => e = .returned ((⟨tickC c n, nilS, nilS⟩ : CV).v) ∧ Mod [] w w' := by
  refine go_of (law16_tick_go ?_)
  intro b1 f1 w2 A2
  exact ⟨rfl, A2.mod⟩
theorem tickC_own (w : World) (B : Nat) (c n : Int) : OpOwn w B (tickC c n).op nilS nilS := ⟨Row.nil .., Row.nil .., by simp [tickC, batch0], by simp [tickC]⟩
def cutLen (n : Nat) : Nat := min n 12
set_option maxHeartbeats 1000000 in
theorem LCut_ok {w : World} {a : Option Addr} {n c : Nat} {ll : List CV} (h : SlAt w 16 CV.cs a n ll) (hO : ∀ q ∈ ll, OpRd w q.x.op q.rs q.ts) (hw : n ≤ maxLen) :
    Calls Tryz.prog 30 #[.slice a n c] w fun e w' => ∃ v, e = .returned v ∧ ∃ (s' : Sl) (l' : List CV), v = .slice s'.a s'.n s'.c ∧ Row w' w.heap.size 57 16 CV.cs s'.a s'.n s'.c l' ∧ (∀ q ∈ l', OpOwn w' w.heap.size q.x.op q.rs q.ts) ∧ l'.length = cutLen ll.length ∧ Mod [] w w' := by
  have hn := h.1
  unfold maxLen at hw
  refine law16_Cut_go ?_
  refine al_of fun b1 w1 c1 M1 f1 => ?_
  have s1 := M1.size
  refine law16_Cut_rule1 (fun mm a3 n3 c3 x w' => ∃ (k : Nat) (l : List CV), x = k ∧ k ≤ ll.length ∧ k ≤ 12 ∧ l.length = k ∧ Row w' w.heap.size 57 16 CV.cs a3 n3 c3 l ∧ (∀ q ∈ l, OpOwn w' w.heap.size q.x.op q.rs q.ts) ∧ Mod [] w w' ∧ mm = ll.length - k) ll.length
    ⟨0, [], rfl, by omega, by omega, rfl, Row.fresh c1 f1, by simp, M1, rfl⟩ ?_
  rintro mm a3 n3 c3 x w2 ⟨k, l, rfl, hk, hk2, hlk, hRow, hOw, M2, rfl⟩
  have s2 := M2.size
  refine brB_dec (fun hlt => ?_) fun hge => ⟨⟨a3, n3, c3⟩, l, rfl, hRow, hOw, by unfold cutLen; omega, M2⟩
  refine brB_dec (fun hlt2 => ?_) fun hge => ⟨⟨a3, n3, c3⟩, l, rfl, hRow, hOw, by unfold cutLen; omega, M2⟩
  obtain ⟨q, hq⟩ : ∃ q, ll[k]? = some q := ⟨_, List.getElem?_eq_getElem (by omega)⟩
  refine (h.keep0 M2).ixW hq fun ad had => ?_
  intro w3 A3
  have s3 := A3.mod.size
  have N3 := M2.go0 A3.mod (by simp)
  refine ldInt_of (x := q.x.c) (by simpa [add_zero] using had w3 A3.mod 0 _ rfl) ?_
  refine (h.keep0 N3).ixW hq fun ad2 had2 => ldInt_of (x := q.x.n) (had2 w3 (Mod.refl _) 1 _ rfl) ?_
  refine (h.keep0 N3).ixW hq fun ad3 had3 => ?_
  have hc := had3 w3 (Mod.refl _)
  refine ldOp_of (op_cells hc) ?_
  refine (Cut_ok ((hO q (List.mem_of_getElem? hq)).keep0 N3)).mono ?_
  rintro _ w4 ⟨_, rfl, o', rs', ts', rfl, hO', M4⟩
  have s4 := M4.size
  refine ⟨_, _, _, _, _, _, _, _, _, _, _, _, _, _, _, _, _, _, rfl, ?_, ?_, ?_⟩
  · exact ldInt_of (x := q.x.n) (had2 w4 M4 1 _ rfl) rfl
  · exact ldInt_of (x := q.x.c) (by simpa [add_zero] using had w4 (A3.mod.go0 M4 (by simp)) 0 _ rfl) rfl
  refine al_of fun b7 w7 c7 M7 f7 => ?_
  have s7 := M7.size
  have K7 : Mod [] w2 w7 := (A3.mod.go0 M4 (by simp)).go0 M7 (by simp)
  obtain ⟨i0, hi, hz0, hz1, hz2⟩ := info_parts infoCall
  refine append_of (x := (⟨⟨q.x.c, q.x.n, o'⟩, rs', ts'⟩ : CV)) (hRow.keep0 K7) Tryz.underlying39 hi hz0 hz1 hz2 rfl (by decide) c7 rfl (CV.cs_one _) (by omega) (by unfold maxLen; omega) (by omega) fun a' c' w8 hR8 hM8 => ?_
  have M8 := hM8 _ (rowS_ok a3)
  have hrow := rowS_block hRow
  have kp : ∀ {o rs ts}, OpOwn w7 w.heap.size o rs ts → OpOwn w8 w.heap.size o rs ts := fun hh => hh.keep M8 fun k hk cs T hc => by
    obtain ⟨_, _, cur, hcur⟩ := hrow k hk
    rw [K7.keep0 hcur] at hc; cases hc; decide
  refine law16_Cut_leaf1 (ll.length - (k + 1)) (by omega) ⟨k + 1, _, by rw [wrap_id (by omega) (by omega)]; omega, by omega, by omega, by rw [List.length_append, hlk]; rfl, hR8, fun y hy => ?_, (M2.go0 K7 (by simp)).go0 M8 fun i hi => (hrow i hi).1, rfl⟩
  rcases List.mem_append.1 hy with hy | hy
  · exact kp ((hOw y hy).keep0 K7)
  · simp at hy; subst hy; exact kp ((hO'.keep0 M7).rebase (by omega))

/-! ### calls whose answers the document fixes -/
theorem LogIs.tight {w : World} {D : Nat → Prop} {b0 : Nat} {start : Int} {xs : List PCall} (h : LogIs w D b0 start xs) : LogIs w (fun k => D k ∧ k < w.heap.size) b0 start xs := h.more fun k hk hd => ⟨hd, hk⟩
theorem ModD.list {D : Nat → Prop} {w w' : World} (h : ModD D w w') : ∃ S, Mod S w w' ∧ ∀ k ∈ S, D k := by
  obtain ⟨S, M, hS⟩ := h
  refine ⟨S.filter fun k => decide (k < w.heap.size), M.less fun k hk hl => List.mem_filter.2 ⟨hk, by simpa using hl⟩, fun k hk => ?_⟩
  obtain ⟨h1, h2⟩ := List.mem_filter.1 hk
  exact hS k h1 (by simpa using h2)
theorem CallsOwn.apart {w w' : World} {D : Nat → Prop} {B : Nat} {s : Sl} {xs : List PCall} (h : CallsOwn w B s xs) (M : ModD D w w') (hD : ∀ k, D k → k < B) : CallsOwn w' B s xs := by
  obtain ⟨S, M, hS⟩ := M.list
  exact h.keepB M fun k hk => hD k (hS k hk)
theorem Keep.apart {w w' : World} {D : Nat → Prop} {es : List Nat} {ts : List (Nat × TypeId)} {bs : List Nat} (M : ModD D w w') (h : ∀ b ∈ bs, b < w.heap.size → ¬ D b) : KeepE es ts bs w w' := by
  obtain ⟨S, M, hS⟩ := M.list
  exact Keep.of M fun b hb hl hk => h b hb hl (hS b hk)
theorem CallsOwn.cs {w : World} {B : Nat} {s : Sl} {xs : List PCall} (h : CallsOwn w B s xs) : ∃ ll : List CV, CsAt w s ll ∧ ll.map (·.x) = xs := by
  obtain ⟨ll, h1, h2, h3⟩ := h
  exact ⟨ll, ⟨h1.sl CV.cs_len, fun q hq => (h2 q hq).at⟩, h3⟩
theorem parseO_tail {xs : List PCall} {r : List UInt8} (h : textE xs = 0) (hr : r ≠ []) : parseO (bs (textB xs ++ r)) = none := by
  obtain ⟨hl, hx⟩ := textE_out h
  have e0 : (bs (textB xs ++ r)).data.toList = vPutL xs.length ++ (xs.flatMap callB ++ r) := by rw [bs_data]; simp [textB]
  have t1 := numA_put (l := (bs (textB xs ++ r)).data.toList) (a := 0) (n := xs.length) (by omega) (by rw [List.drop_zero]; exact e0)
  have d1 := drop_of (l := (bs (textB xs ++ r)).data.toList) (a := 0) (x := vPutL xs.length) (by rw [List.drop_zero]; exact e0)
  have t2 := rdC_put xs hx _ _ [] d1
  have e : parse0 (bs (textB xs ++ r)).data.toList = (some (0 + (vPutL xs.length).length + (xs.flatMap callB).length), xs) := by
    unfold parse0; rw [t1]; dsimp only; rw [t2]; rfl
  unfold parseO
  rw [e]
  dsimp only
  rw [if_neg]
  rintro ⟨_, _, h3⟩
  have := congrArg ByteArray.size h3
  rw [bs_size, bs_size, List.length_append] at this
  have := List.length_pos_iff.2 hr
  omega
theorem SlAt.flatB {α : Type} {w : World} {sz : Nat} {enc : α → List Value} {b : Nat} {T : TypeId} {l : List α} (hs : ∀ x, (enc x).length = sz) (h : w.heap[b]? = some (.cells (l.flatMap enc).toArray T)) : SlAt w sz enc (some ⟨b, 0, none⟩) l.length l :=
  ⟨rfl, fun i x hx => ⟨_, rfl, fun j v hv => by
    have hj : j < sz := by rw [← hs x]; exact (List.getElem?_eq_some_iff.1 hv).1
    rw [addr_add, addr_add, cell_at h]
    have := flatMap_get hs l i j x hx hj
    simp only [Nat.zero_add]
    rw [List.getElem?_toArray, this]
    exact hv⟩⟩
theorem fixed16_ok (w : World) : Calls Tryz.prog 36 #[] w fun e w' => e = .returned (.bool true) ∧ Mod [] w w' := by
  have hE : ∀ {start : Int} {len : Nat} {x : PCall}, checkE [x] = 0 → start + (len : Int) < 1099511627776 → putE start len x = 0 := fun {start len x} h1 h2 => by
    rw [putE, if_neg (by simpa using h1), if_neg (by omega)]
  have ck11 : checkE [tickC 1 1] = 0 := by decide
  have ck12 : checkE [tickC 1 2] = 0 := by decide
  have ck56 : checkE [tickC 2 5, tickC 2 6] = 0 := by decide
  have ck0 : checkE [call0] = 1 := by decide
  refine go_of (law16_fixed_go ?_)
  refine (ONew_ok w).mono ?_
  rintro _ w1 ⟨_, rfl, b0, rfl, L1, M1⟩
  have s1 := M1.size
  refine ⟨_, rfl, brB_of (fun g => by simp at g) fun _ => ?_⟩
  refine (tickC_ok 1 1 w1).mono ?_
  rintro _ w2 ⟨rfl, M2⟩
  refine ⟨_, _, _, _, _, _, _, _, _, _, _, _, _, _, _, _, _, _, _, _, rfl, ?_⟩
  have s2 := M2.size
  have L2 := L1.keep0 M2
  have N2 := M1.go0 M2 (by simp)
  refine (OPut_ok L2 ⟨by omega, by omega, by simp⟩ (q := ⟨tickC 1 1, nilS, nilS⟩) (tickC_own w2 0 1 1).at).mono ?_
  rintro _ w3 ⟨rfl, L3, D3, _⟩
  have p3 : putE 0 ([] : List PCall).length (tickC 1 1) = 0 := hE ck11 (by simp)
  rw [if_pos p3] at L3 ⊢
  have s3 := D3.size
  have N3 := D3.new N2 fun i hi => hi
  have L3 : LogIs w3 (fun k => w.heap.size ≤ k) b0 0 [tickC 1 1] := L3.more fun k _ hk => by rcases hk with hk | hk <;> omega
  refine ⟨_, _, rfl, ?_⟩
  refine (tickC_ok 1 2 w3).mono ?_
  rintro _ w4 ⟨rfl, M4⟩
  refine ⟨_, _, _, _, _, _, _, _, _, _, _, _, _, _, _, _, _, _, _, _, rfl, ?_⟩
  have s4 := M4.size
  have N4 := N3.go0 M4 (by simp)
  refine (OPut_ok (L3.keep0 M4) ⟨by omega, by omega, by simp⟩ (q := ⟨tickC 1 2, nilS, nilS⟩) (tickC_own w4 0 1 2).at).mono ?_
  rintro _ w5 ⟨rfl, L5, D5, _⟩
  have p5 : putE 0 ([tickC 1 1] : List PCall).length (tickC 1 2) = 0 := hE ck12 (by simp)
  rw [if_pos p5] at L5 ⊢
  have s5 := D5.size
  have N5 := D5.new N4 fun i hi => hi
  have L5 : LogIs w5 (fun k => w.heap.size ≤ k) b0 0 [tickC 1 1, tickC 1 2] := L5.more fun k _ hk => by rcases hk with hk | hk <;> omega
  refine ⟨_, _, rfl, ?_⟩
  refine (ODrop_ok L5 ⟨by omega, by omega, by simp⟩ 1).mono ?_
  rintro _ w6 ⟨rfl, L6, M6⟩
  have a6 : atE 0 ([tickC 1 1, tickC 1 2] : List PCall).length 1 = 0 := by decide
  rw [if_pos a6, if_pos a6] at L6
  rw [a6]
  have s6 := M6.size
  have N6 := N5.go0 M6 (by simp; exact L5.lt.2)
  have L6 : LogIs w6 (fun k => w.heap.size ≤ k) b0 1 [tickC 1 2] := L6.more fun k _ hk => by rcases hk with hk | hk <;> omega
  have B6 : LB 1 [tickC 1 2] := ⟨by omega, by omega, by simp⟩
  refine ⟨_, rfl, ?_⟩
  refine (Span_ok L6 B6).mono ?_
  rintro _ w7 ⟨rfl, M7⟩
  refine ⟨_, _, rfl, ?_⟩
  have L7 := L6.keep0 M7
  have N7 := N6.go0 M7 (by simp)
  have s7 := M7.size
  refine (OGet_ok L7 B6 1).mono ?_
  rintro _ w8 ⟨v, rfl, hv, M8⟩
  have g8 : getE 1 ([tickC 1 2] : List PCall).length 1 = 161 := by decide
  rw [g8, if_neg (by decide)] at hv
  subst hv
  refine ⟨_, _, _, _, _, _, _, _, _, _, _, _, _, _, _, _, _, _, _, _, _, rfl, ?_⟩
  have L8 := (L7.keep0 M8).tight
  have N8 := N7.go0 M8 (by simp)
  have s8 := M8.size
  intro b78 f78 w9 A9
  have l78 := A9.lt b78 (by simp)
  have N9 := N8.go0 A9.mod (by simp)
  have s9 := A9.mod.size
  have L9 := L8.keep0 A9.mod
  refine (OGet_ok L9 B6 2).mono ?_
  rintro _ w10 ⟨v, rfl, hv, M10⟩
  have g10 : getE 1 ([tickC 1 2] : List PCall).length 2 = 0 := by decide
  rw [g10, if_pos rfl] at hv
  obtain ⟨q10, rfl, hq10, _⟩ := hv
  have hq10 : q10.x = tickC 1 2 := by
    have e : (2 - 1 - 1 : Int).toNat = 0 := by decide
    rw [e] at hq10
    simpa using hq10.symm
  refine ⟨_, _, _, _, _, _, _, _, _, _, _, _, _, _, _, _, _, _, _, _, _, rfl, Keep.of0 M10, ?_⟩
  have L10 := L9.keep0 M10
  have N10 := N9.go0 M10 (by simp)
  have s10 := M10.size
  intro b102 f102 w11 A11
  have l102 := A11.lt b102 (by simp)
  have N11 := N10.go0 A11.mod (by simp)
  have s11 := A11.mod.size
  have L11 := L10.keep0 A11.mod
  refine (Since_ok L11 B6 1).mono ?_
  rintro _ w12 ⟨v, rfl, hv, M12⟩
  have a12 : atE 1 ([tickC 1 2] : List PCall).length 1 = 0 := by decide
  rw [a12, if_pos rfl] at hv
  obtain ⟨sl, rfl, hl12⟩ := hv
  have hl12 : CallsOwn w12 w11.heap.size sl [tickC 1 2] := hl12
  refine ⟨_, _, _, _, rfl, Keep.of0 M12, ?_⟩
  have L12 := L11.keep0 M12
  have N12 := N11.go0 M12 (by simp)
  have s12 := M12.size
  refine (Since_ok L12 B6 3).mono ?_
  rintro _ w13 ⟨v, rfl, hv, M13⟩
  have a13 : atE 1 ([tickC 1 2] : List PCall).length 3 = 160 := by decide
  rw [a13, if_neg (by decide)] at hv
  subst hv
  refine ⟨_, _, _, _, rfl, Keep.of0 M13, ?_⟩
  have L13 := L12.keep0 M13
  have N13 := N12.go0 M13 (by simp)
  have s13 := M13.size
  refine (OPut_ok L13 B6 (q := ⟨call0, nilS, nilS⟩) (op0_own w13 0).at).mono ?_
  rintro _ w14 ⟨rfl, _, _, M14⟩
  have p14 : putE 1 ([tickC 1 2] : List PCall).length call0 = 1 := by rw [putE, if_pos (by rw [ck0]; decide), ck0]
  have M14 := M14 (by rw [p14]; decide)
  rw [p14]
  have s14 := M14.size
  have L14 := L13.keep0 M14
  have N14 := N13.go0 M14 (by simp)
  have hl14 := (hl12.keep0 M13).keep0 M14
  refine ⟨_, _, rfl, Keep.of0 M14, ?_⟩
  obtain ⟨lc, hcs, hlc⟩ := hl14.cs
  have elc : lc.length = 1 := by have := congrArg List.length hlc; simpa using this
  refine (Text_ok hcs (by omega)).mono ?_
  rintro _ w15 ⟨rfl, M15⟩
  have s15 := M15.size
  have te : textE [tickC 1 2] = 0 := by rw [textE, if_neg (by simp), ck12]
  rw [hlc, te, if_pos rfl]
  have tl : (textB [tickC 1 2]).length ≤ 50000 := by
    have h1 := checkE_ok.1 ck12 _ (List.mem_singleton.2 rfl)
    have h2 := callB_len h1.1 h1.2
    have h3 := (vPutL_len 1 (by decide)).2
    have e : textB [tickC 1 2] = vPutL 1 ++ callB (tickC 1 2) := by simp [textB]
    rw [e, List.length_append]; omega
  refine ⟨_, _, rfl, Keep.of0 M15, ?_⟩
  refine (OParse_ok (s := bs (textB [tickC 1 2])) (by rw [bs_size]; omega) w15).mono ?_
  rintro _ w16 ⟨v, rfl, hv, M16⟩
  rw [parseO_put te] at hv
  obtain ⟨su, rfl, hu16⟩ := hv
  refine ⟨_, _, _, _, rfl, Keep.of0 M16, ?_⟩
  have ex : (⟨#[120]⟩ : ByteArray).size = 1 := rfl
  refine ⟨by rw [bs_size, ex]; omega, ?_⟩
  have ea : bs (textB [tickC 1 2]) ++ (⟨#[120]⟩ : ByteArray) = bs (textB [tickC 1 2] ++ [120]) := bs_append _ _
  rw [ea]
  refine (OParse_ok (s := bs (textB [tickC 1 2] ++ [120])) (by rw [bs_size, List.length_append]; simp only [List.length_cons, List.length_nil]; omega) w16).mono ?_
  rintro _ w17 ⟨v, rfl, hv, M17⟩
  rw [parseO_tail te (by simp)] at hv
  have hv : v = .tuple #[.slice none 0 0, .int .i64 162] := hv
  subst hv
  refine ⟨_, _, _, _, rfl, Keep.of0 M17, ?_⟩
  refine (tickC_ok 2 5 w17).mono ?_
  rintro _ w18 ⟨rfl, M18⟩
  refine ⟨_, _, _, _, _, _, _, _, _, _, _, _, _, _, _, _, _, _, _, _, rfl, Keep.of0 M18, ?_⟩
  refine (tickC_ok 2 6 w18).mono ?_
  rintro _ w19 ⟨rfl, M19⟩
  refine ⟨_, _, _, _, _, _, _, _, _, _, _, _, _, _, _, _, _, _, _, _, rfl, Keep.of0 M19, ?_⟩
  refine al_of fun b20 w20 c20 M20 f20 => ?_
  have K20 : Mod [] w14 w20 := (((M15.go0 M16 (by simp)).go0 M17 (by simp)).go0 M18 (by simp)).go0 (M19.go0 M20 (by simp)) (by simp)
  have s20 := K20.size
  have N20 := N14.go0 K20 (by simp)
  have L20 : LogIs w20 _ b0 1 [tickC 1 2] := L14.keep0 K20
  have hj : CsAt w20 ⟨some ⟨b20, 0, none⟩, 2, 2⟩ [⟨tickC 2 5, nilS, nilS⟩, ⟨tickC 2 6, nilS, nilS⟩] := by
    refine ⟨SlAt.flatB CV.cs_len (l := [(⟨tickC 2 5, nilS, nilS⟩ : CV), ⟨tickC 2 6, nilS, nilS⟩]) c20, fun q hq => ?_⟩
    simp at hq
    rcases hq with rfl | rfl
    · exact (tickC_own w20 0 2 5).at
    · exact (tickC_own w20 0 2 6).at
  refine (OJoin_ok L20 B6 1 hj (by simp)).mono ?_
  rintro _ w21 ⟨rfl, L21, D21⟩
  have j21 : joinE 1 ([tickC 1 2] : List PCall).length 1 [tickC 2 5, tickC 2 6] = 0 := by decide
  have hjm : ([(⟨tickC 2 5, nilS, nilS⟩ : CV), ⟨tickC 2 6, nilS, nilS⟩].map (·.x)) = [tickC 2 5, tickC 2 6] := rfl
  rw [hjm, j21, if_pos rfl] at L21
  rw [hjm, j21]
  have s21 := D21.size
  refine ⟨_, rfl, Keep.apart D21 fun b hb hl hd => by simp at hb; omega, ?_⟩
  have hl21 := ((hl14.keep0 K20).apart D21 fun k hk => by omega)
  have hu21 := (((hu16.keep0 M17).keep0 M18).keep0 M19).keep0 M20
  have N21 := D21.new N20 fun i hi => hi.1
  have L21 : LogIs w21 _ b0 1 [tickC 2 5, tickC 2 6] := L21
  have B21 : LB 1 [tickC 2 5, tickC 2 6] := ⟨by omega, by omega, by simp⟩
  refine (OCut_ok L21 B21 2).mono ?_
  rintro _ w22 ⟨rfl, L22, M22⟩
  have a22 : atE 1 ([tickC 2 5, tickC 2 6] : List PCall).length 2 = 0 := by decide
  rw [a22, if_pos rfl] at L22
  rw [a22]
  have s22 := M22.size
  have hb0 : w.heap.size ≤ b0 ∧ b0 < w8.heap.size := by
    have := L8.lt; exact ⟨this.2.1, this.1⟩
  refine ⟨_, rfl, Keep.of M22 fun b hb hl hd => by simp at hb hd; omega, ?_⟩
  have hl22 := hl21.keepB M22 (by simp; omega)
  have N22 := N21.go0 M22 (by simp; omega)
  refine (Load_ok (s := nilS) (ll := []) (start := -1) ⟨(Row.nil w22 0 57 16 CV.cs).sl CV.cs_len, by simp⟩ (by simp)).mono ?_
  rintro _ w23 ⟨v, rfl, hv, M23⟩
  have a23 : loadE (-1) ([] : List PCall) = 1 := by decide
  have hv : v = .tuple #[.pointer none, .int .i64 1] := by
    have e : (([] : List CV).map (·.x)) = [] := rfl
    rw [e, a23, if_neg (by decide)] at hv
    exact hv
  subst hv
  refine ⟨_, _, rfl, Keep.of0 M23, ?_⟩
  have B22 : LB 1 [tickC 2 5] := ⟨by omega, by omega, by simp⟩
  have L22 : LogIs w22 _ b0 1 [tickC 2 5] := L22
  refine (Since_ok (L22.keep0 M23) B22 2).mono ?_
  rintro _ w24 ⟨v, rfl, hv, M24⟩
  have a24 : atE 1 ([tickC 2 5] : List PCall).length 2 = 0 := by decide
  rw [a24, if_pos rfl] at hv
  obtain ⟨s24, rfl, _⟩ := hv
  have N24 := (N22.go0 M23 (by simp)).go0 M24 (by simp)
  have hl24 := (hl22.keep0 M23).keep0 M24
  have hu24 := (((((hu21.apart D21 fun k hk => by omega)).keepB M22 (by simp; omega)).keep0 M23).keep0 M24)
  have hu24 : CallsOwn w24 w15.heap.size su [tickC 1 2] := hu24
  have en : sl.n = 1 := by
    obtain ⟨ll, h1, _, h3⟩ := hl24
    have := congrArg List.length h3
    rw [(h1.sl CV.cs_len).1]; simpa using this
  refine ⟨_, _, _, _, rfl, Keep.of0 M24, ?_⟩
  rw [hq10]
  iterate 10 (refine brT rfl ?_)
  refine brT (by rw [en]; rfl) ?_
  iterate 4 (refine brT rfl ?_)
  refine (CallsR_ok hu24.at hl24.at (by simp)).mono ?_
  rintro _ w25 ⟨rfl, M25⟩
  refine ⟨_, rfl, Keep.of0 M25, brT (by simp) ?_⟩
  repeat (refine brT rfl ?_)
  obtain ⟨lu, hcu, hlu⟩ := (hu24.keep0 M25).cs
  obtain ⟨lv, hcv, hlv⟩ := (hl24.keep0 M25).cs
  have elv : lv.length = 1 := by have := congrArg List.length hlv; simpa using this
  refine (OSame_ok hcv hcu (by omega)).mono ?_
  rintro _ w26 ⟨rfl, M26⟩
  refine ⟨_, rfl, Keep.of0 M26, brT (by simp [hlu, hlv]) ?_⟩
  refine (OSame_ok (hcv.keep0 M26) (t := nilS) (lb := []) ⟨(Row.nil w26 0 57 16 CV.cs).sl CV.cs_len, by simp⟩ (by omega)).mono ?_
  rintro _ w27 ⟨rfl, M27⟩
  refine ⟨_, rfl, Keep.of0 M27, ?_, ((N24.go0 M25 (by simp)).go0 M26 (by simp)).go0 M27 (by simp)⟩
  rw [hlv]; rfl
end Go.Proofs.YtohgihgddknmmaaGreat

/- OplogCuts, OplogBack. -/
namespace Go.Proofs.YtohgihgddknmmaaGreat
open Go Go.RowKit
set_option linter.unusedVariables false
set_option linter.unusedSimpArgs false

theorem fix_step {w0 w : World} (M : Mod [] w0 w) : Calls Tryz.prog 36 #[] w fun e w' => ∃ t : Bool, e = .returned (.bool t) ∧ (Value.bool t = .bool true ∧ Mod [] w0 w') := by
  refine (fixed16_ok w).mono ?_
  rintro _ w1 ⟨rfl, M1⟩
  exact ⟨_, rfl, rfl, M.go0 M1 (by simp)⟩
theorem load_chk {start : Int} {xs : List PCall} (h : loadE start xs = 0) : 0 ≤ start ∧ start ≤ 1099511627776 ∧ ∀ x ∈ xs, oddC x = false ∧ opE x.op = 0 := by
  unfold loadE at h
  split at h
  · omega
  · rename_i hg
    exact ⟨by omega, by omega, checkE_ok.1 h⟩
end Go.Proofs.YtohgihgddknmmaaGreat

/- OplogMoves. -/
namespace Go.Proofs.YtohgihgddknmmaaGreat
open Go Go.RowKit
set_option linter.unusedVariables false
set_option linter.unusedSimpArgs false

theorem CallsOwn.len {w : World} {B : Nat} {s : Sl} {xs : List PCall} (h : CallsOwn w B s xs) : s.n = xs.length ∧ s.n ≤ s.c := by
  obtain ⟨ll, h1, _, rfl⟩ := h
  exact ⟨by rw [(h1.sl CV.cs_len).1]; simp, h1.cap⟩
end Go.Proofs.YtohgihgddknmmaaGreat
