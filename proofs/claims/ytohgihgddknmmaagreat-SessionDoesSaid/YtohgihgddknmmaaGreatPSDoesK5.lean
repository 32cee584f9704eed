/- Part 5 of the proof of PSDoes. -/
import Derived.WalkKit
import Derived.WalkSpells
import Derived.WalkLawsBesides
import Derived.Deep.Quiet
import Derived.Test.YtohgihgddknmmaaGreatRows
import Derived.KernelRfl
import Derived.Maps.Keyed
import Derived.Maps.RangeRun
import Derived.DeepKeys4
import Derived.Lib.Strings
import Derived.Shelf.RegionOpenPlain
import Derived.Lib.Slices
import Derived.Lib.Walk
import Derived.Lib.Builder
import Derived.Lib.FrozenHead
import Derived.Lib.OthersKept
import Derived.Lib.AppendStr
import Derived.Lib.UnsafeStr
import Derived.Lib.MakeNoZero
import Derived.Laws.Externs
import Derived.Laws.IdiomCopy
import Derived.Laws.BitsLemmas
import Derived.RangeFuncBox
import Derived.RangeFuncLeaves
import Derived.RangeFuncNested
import Derived.Shelf.Abstract
import Derived.OwnWalkIn
import Derived.TacticsInMore
import Derived.LoopNIn
import Derived.LoopIn
import Derived.Maps.AppendAt
import Derived.Sort.LoopGhostIn
import Derived.Laws.Bits64b
import Derived.Laws.IdiomStrings
import Derived.Test.YtohgihgddknmmaaGreatProg
import Derived.Shelf.Lay
import Derived.Shelf.Strings.FuncGrows
import Derived.Laws.RangeAny
import Derived.Ground.GgwProg
import Derived.Ground.NamesProg
import Derived.ArgAppend
import Derived.Deep.RegionWith
import Derived.ProofKit
import Derived.OpenShut
import Derived.ShutString
import Derived.ChangeOld
import Derived.Below
import Derived.Deep.Slices
import Derived.Test.YtohgihgddknmmaaGreatPSDoesK4
/- Calls checked. -/
namespace Go.Proofs.YtohgihgddknmmaaGreat
open Go Go.RowKit Go.Shelf
set_option linter.unusedVariables false
set_option linter.unusedSimpArgs false

def oddN (n : Int) : Bool := decide (n < 1 ∨ n > 1099511627776)
theorem oddN_ok (n : Int) (w : World) : Calls Tryz.prog 122 #[.int .i64 n] w fun e w' => e = .returned (.bool (oddN n)) ∧ w' = w := by
  refine go_of (oplog_checked_1_go ?_)
  refine brB_dec (fun h => ⟨?_, rfl⟩) fun h => ⟨?_, rfl⟩
  · congr 1; symm; simp [oddN]; omega
  · congr 1; rw [oddN]; congr 1; apply propext; omega
set_option maxRecDepth 100000 in
set_option maxHeartbeats 2000000 in
theorem odd2_raw {w : World} {b1 : Nat} {T : TypeId} (h : w.heap[b1]? = some (.cells #[.func (.func 122) #[] #[]] T)) (c n : Int) (v2 v3 v4 v5 v6 v7 v8 v9 v10 v11 v12 v13 v14 v15 : Value) :
    Calls Tryz.prog 124 #[.agg #[.int .i64 c, .int .i64 n, v2, v3, v4, v5, v6, v7, v8, v9, v10, v11, v12, v13, v14, v15], .pointer (some ⟨b1, 0, none⟩)] w fun e w' => e = .returned (.bool (oddN c || oddN n)) ∧ Mod [] w w' := by
  have mixed := Tryz.wide_mixed
  have hM : Mod [] w (w.alloc (.cells #[.int .i64 c, .int .i64 n, v2, v3, v4, v5, v6, v7, v8, v9, v10, v11, v12, v13, v14, v15] 57)) := Mod.of_below ((Below.refl _ _).alloc (Nat.le_refl _) _)
  have hN := World.alloc_heap_new w (.cells #[.int .i64 c, .int .i64 n, v2, v3, v4, v5, v6, v7, v8, v9, v10, v11, v12, v13, v14, v15] 57)
  have c0 : (w.alloc (.cells #[.int .i64 c, .int .i64 n, v2, v3, v4, v5, v6, v7, v8, v9, v10, v11, v12, v13, v14, v15] 57)).cell? ⟨b1, 0, none⟩ = some (.func (.func 122) #[] #[]) := by rw [cell_at (hM.keep0 h)]; rfl
  have c1 : (w.alloc (.cells #[.int .i64 c, .int .i64 n, v2, v3, v4, v5, v6, v7, v8, v9, v10, v11, v12, v13, v14, v15] 57)).cell? ⟨w.heap.size, 0, none⟩ = some (.int .i64 c) := by rw [cell_at hN]; rfl
  have c2 : (w.alloc (.cells #[.int .i64 c, .int .i64 n, v2, v3, v4, v5, v6, v7, v8, v9, v10, v11, v12, v13, v14, v15] 57)).cell? ⟨w.heap.size, 1, none⟩ = some (.int .i64 n) := by rw [cell_at hN]; rfl
  go_enter Tryz.func124, Tryz.ntmps124
  go_wp2_with fail
  refine (oddN_ok _ _).mono ?_
  rintro _ w' ⟨rfl, rfl⟩
  cases hc : oddN c with
  | true =>
    go_wp2
    go_ret
    exact ⟨by rw [hc]; rfl, hM⟩
  | false =>
    go_wp2_with fail
    refine (oddN_ok _ _).mono ?_
    rintro _ w' ⟨rfl, rfl⟩
    go_wp2
    go_ret
    exact ⟨by rw [hc]; rfl, hM⟩
/-! ### calls -/
def oddC (x : PCall) : Bool := oddN x.c || oddN x.n
def checkE (xs : List PCall) : Int := if xs.any oddC then 1 else match xs.find? fun x => opE x.op ≠ 0 with
  | none => 0
  | some x => opE x.op
structure CsAt (w : World) (s : Sl) (ll : List CV) : Prop where
  sl : SlAt w 16 CV.cs s.a s.n ll
  op : ∀ q ∈ ll, OpAt w q.x.op q.rs q.ts
theorem odd2_ok {w : World} {b1 : Nat} {T : TypeId} (h : w.heap[b1]? = some (.cells #[.func (.func 122) #[] #[]] T)) (q : CV) :
    Calls Tryz.prog 124 #[q.v, .pointer (some ⟨b1, 0, none⟩)] w fun e w' => e = .returned (.bool (oddC q.x)) ∧ Mod [] w w' := odd2_raw h _ _ _ _ _ _ _ _ _ _ _ _ _ _ _ _
theorem any_snoc {α : Type} {p : α → Bool} {l : List α} {k : Nat} {x : α} (h : l[k]? = some x) : (l.take (k + 1)).any p = ((l.take k).any p || p x) := by
  rw [List.take_add_one, h]; simp
theorem IndexOddC_ok {w : World} {b1 : Nat} {s : Sl} {ll : List CV} (h : w.heap[b1]? = some (.cells #[.func (.func 122) #[] #[]] 147)) (hs : SlAt w 16 CV.cs s.a s.n ll) (hl : ll.length ≤ 1000000) :
    Calls Tryz.prog 151 #[.slice s.a s.n s.c, .func (.func 124) #[] #[.pointer (some ⟨b1, 0, none⟩)]] w fun e w' => ∃ v, e = .returned v ∧ ∃ x : Int, v = .int .i64 x ∧ (decide (x ≥ 0) = ll.any fun q => oddC q.x) ∧ Mod [] w w' := by
  have hn := hs.1
  refine slices_IndexFunc_api_Call_api_Call_go ?_
  refine slices_IndexFunc_api_Call_api_Call_rule1 (fun mm x w' => ∃ k : Nat, x = k ∧ k ≤ ll.length ∧ Mod [] w w' ∧ ((ll.take k).any fun q => oddC q.x) = false ∧ mm = ll.length - k) ll.length ⟨0, rfl, by omega, Mod.refl _, by simp, rfl⟩ ?_
  rintro mm x w' ⟨k, rfl, hk, M, ha, rfl⟩
  refine brB_dec (fun hlt => ?_) fun hge => ?_
  · obtain ⟨q, hq⟩ : ∃ q, ll[k]? = some q := ⟨_, List.getElem?_eq_getElem (by omega)⟩
    refine (hs.keep0 M).ix hq fun ad had => ldCV_of had ?_
    refine (odd2_ok (M.keep0 h) q).mono ?_
    rintro _ w2 ⟨rfl, M2⟩
    have e1 := any_snoc (p := fun q : CV => oddC q.x) hq
    rw [ha, Bool.false_or] at e1
    refine ⟨_, rfl, brB_of (fun g => ?_) fun g => ?_⟩
    · refine ⟨k, rfl, ?_, M.go0 M2 (by simp)⟩
      have h1 : (ll.any fun q => oddC q.x) = true := List.any_eq_true.2 ⟨q, List.mem_of_getElem? hq, g⟩
      rw [h1]; simp
    · exact slices_IndexFunc_api_Call_api_Call_leaf1 (ll.length - (k + 1)) (by omega) ⟨k + 1, by rw [wrap_id (by omega) (by omega)]; omega, by omega, M.go0 M2 (by simp), by rw [e1]; exact g, rfl⟩
  · have hk : k = ll.length := by omega
    subst hk
    rw [List.take_length] at ha
    exact ⟨-1, rfl, by rw [ha]; rfl, M⟩
theorem ContainsOddC_ok {w : World} {b1 : Nat} {s : Sl} {ll : List CV} (h : w.heap[b1]? = some (.cells #[.func (.func 122) #[] #[]] 147)) (hs : SlAt w 16 CV.cs s.a s.n ll) (hl : ll.length ≤ 1000000) :
    Calls Tryz.prog 123 #[.slice s.a s.n s.c, .func (.func 124) #[] #[.pointer (some ⟨b1, 0, none⟩)]] w fun e w' => e = .returned (.bool (ll.any fun q => oddC q.x)) ∧ Mod [] w w' := by
  refine go_of (slices_ContainsFunc_api_Call_api_Call_go ?_)
  refine (IndexOddC_ok h hs hl).mono ?_
  rintro _ w1 ⟨_, rfl, x, rfl, hx, M⟩
  exact ⟨_, rfl, by rw [← hx], M⟩
theorem find_snoc {l : List CV} {k : Nat} (h : ∀ q ∈ l.take k, opE q.x.op = 0) {q : CV} (hq : l[k]? = some q) (he : opE q.x.op ≠ 0) : (l.map (·.x)).find? (fun x => opE x.op ≠ 0) = some q.x := by
  have hk := (List.getElem?_eq_some_iff.1 hq).1
  have e : l = l.take k ++ q :: l.drop (k + 1) := by
    rw [← (List.getElem?_eq_some_iff.1 hq).2, ← List.drop_eq_getElem_cons hk, List.take_append_drop]
  rw [e, List.map_append, List.find?_append]
  have h0 : ((l.take k).map (·.x)).find? (fun x => opE x.op ≠ 0) = none := by
    rw [List.find?_eq_none]
    intro x hx
    obtain ⟨q', hq', rfl⟩ := List.mem_map.1 hx
    simpa using h q' hq'
  rw [h0]
  simp [he]
theorem Checked_ok {w : World} {s : Sl} {ll : List CV} (h : CsAt w s ll) (hl : ll.length ≤ 1000000) :
    Calls Tryz.prog 75 #[.slice s.a s.n s.c] w fun e w' => e = .returned (.int .i64 (checkE (ll.map (·.x)))) ∧ Mod [] w w' := by
  have hn := h.sl.1
  refine go_of (oplog_checked_go ?_)
  intro b1 f1 w2 A2 h2
  refine (ContainsOddC_ok h2 (h.sl.keep0 A2.mod) hl).mono ?_
  rintro _ w3 ⟨rfl, M3⟩
  have N3 := A2.mod.go0 M3 (by simp)
  have ea : ((ll.map (·.x)).any oddC) = ll.any fun q => oddC q.x := by rw [List.any_map]; rfl
  refine ⟨_, rfl, _, M3.keep0 h2, brB_of (fun g => ?_) fun g => ?_⟩
  · refine ⟨?_, N3⟩
    rw [checkE, ea, g]; rfl
  have hE : checkE (ll.map (·.x)) = match (ll.map (·.x)).find? fun x => opE x.op ≠ 0 with
      | none => 0
      | some x => opE x.op := by rw [checkE, ea, g]; rfl
  refine oplog_checked_rule1 (fun mm x v w' => ∃ k : Nat, x = k ∧ k ≤ ll.length ∧ Mod [] w w' ∧ b1 < w'.heap.size ∧ (∀ q ∈ ll.take k, opE q.x.op = 0) ∧ mm = ll.length - k) ll.length ⟨0, rfl, by omega, N3, lt_of_block (M3.keep0 h2), by simp, rfl⟩ ?_
  rintro mm x v w4 ⟨k, rfl, hk, M4, lb, hz, rfl⟩ h4
  refine brB_dec (fun hlt => ?_) fun hge => ?_
  · obtain ⟨q, hq⟩ : ∃ q, ll[k]? = some q := ⟨_, List.getElem?_eq_getElem (by omega)⟩
    refine (h.sl.keep0 M4).ix hq fun ad had => ldCV_of had ?_
    intro b5 f5 w5 A5 h5
    have l5 := A5.lt b5 (by simp)
    have s5 := A5.mod.size
    have N5 := M4.go0 A5.mod (by simp)
    refine (Check_ok ((h.op q (List.mem_of_getElem? hq)).keep0 N5)).mono ?_
    rintro _ w6 ⟨rfl, M6⟩
    have N6 := N5.go0 M6 (by simp)
    have s6 := M6.size
    refine ⟨_, rfl, Keep.of0 M6, _, M6.keep0 h5, brB_of (fun g2 => ?_) fun g2 => ?_⟩
    · have g2 : opE q.x.op ≠ 0 := by simpa using g2
      refine ⟨?_, N6⟩
      rw [hE, find_snoc hz hq g2]
    · have g2 : opE q.x.op = 0 := by simpa using g2
      refine oplog_checked_leaf1 (ll.length - (k + 1)) (by omega) ⟨k + 1, by rw [wrap_id (by omega) (by omega)]; omega, by omega, N6, by omega, ?_, rfl⟩
      intro q' hq'
      rw [List.take_add_one, hq] at hq'
      simp at hq'
      rcases hq' with hq' | rfl
      · exact hz q' hq'
      · exact g2
  · have hk : k = ll.length := by omega
    subst hk
    rw [List.take_length] at hz
    refine ⟨?_, M4⟩
    rw [hE]
    have : (ll.map (·.x)).find? (fun x => opE x.op ≠ 0) = none := by
      rw [List.find?_eq_none]
      intro x hx
      obtain ⟨q', hq', rfl⟩ := List.mem_map.1 hx
      simpa using hz q' hq'
    rw [this]
theorem checkE_ok {xs : List PCall} : checkE xs = 0 ↔ ∀ x ∈ xs, oddC x = false ∧ opE x.op = 0 := by
  unfold checkE
  constructor
  · intro h
    split at h
    · omega
    · rename_i ha
      split at h
      · rename_i hf
        intro x hx
        refine ⟨?_, ?_⟩
        · cases ho : oddC x with
          | false => rfl
          | true => exact absurd (List.any_eq_true.2 ⟨x, hx, ho⟩) ha
        · have := List.find?_eq_none.1 hf x hx
          simpa using this
      · rename_i x hf
        have := List.find?_some hf
        simp [h] at this
  · intro h
    rw [if_neg]
    · have : xs.find? (fun x => opE x.op ≠ 0) = none := by
        rw [List.find?_eq_none]
        intro x hx
        simpa using (h x hx).2
      rw [this]
    · intro ha
      obtain ⟨x, hx, ho⟩ := List.any_eq_true.1 ha
      rw [(h x hx).1] at ho; cases ho
end Go.Proofs.YtohgihgddknmmaaGreat

/- Calls as bytes. -/
namespace Go.Proofs.YtohgihgddknmmaaGreat
open Go Go.RowKit
set_option linter.unusedVariables false
set_option linter.unusedSimpArgs false

theorem opB_len {o : POp} (G : OpGood o) : (opB o).length ≤ 30000 := by
  obtain ⟨hk, ⟨n1, n2, n3, n4⟩, hT, hG, hMm, hL, hb, ho⟩ := G
  have hT := fun h => (name_le (hT h)).1
  have hG := fun h => (name_le (hG h)).1
  have hMm := fun h => (name_le (hMm h)).1
  have nl : ∀ {x : Int}, num x = true → (vPutL x.toNat).length ≤ 10 := fun {x} h => by
    have := num_le h
    exact (vPutL_len x.toNat (by omega)).2
  have tl : ∀ {s : ByteArray}, s.size ≤ 16 → (putT s).length ≤ 26 := fun {s} h => by have := (putT_len s (by omega)).2; omega
  obtain ⟨kd, pt, n, off, b, g, m, gen, robin, topics⟩ := o
  simp only at hk hT hG hMm hL hb n1 n2 n3 n4
  have hkn := nl (x := kd) (by simp [num]; omega)
  have l1 := nl n1
  have l2 := nl n2
  have l3 := nl n3
  have l4 := nl n4
  have hk : kd = 0 ∨ kd = 1 ∨ kd = 2 ∨ kd = 3 ∨ kd = 4 ∨ kd = 5 ∨ kd = 6 ∨ kd = 7 ∨ kd = 8 ∨ kd = 9 ∨ kd = 10 ∨ kd = 11 ∨ kd = 12 := by omega
  unfold opB
  rw [List.length_append]
  rcases hk with rfl | rfl | rfl | rfl | rfl | rfl | rfl | rfl | rfl | rfl | rfl | rfl | rfl
  · have := tl (hT rfl); simp [opBody] at *; omega
  · simp [opBody] at *; omega
  · have := tl (hT rfl); have := (BatGood.of (hb rfl)).len; simp [opBody, partB] at *; omega
  · have := tl (hT rfl); simp [opBody, partB] at *; omega
  · have := tl (hT rfl); simp [opBody, partB] at *; omega
  · have := tl (hT rfl); simp [opBody, partB] at *; omega
  · have h1 := tl (hG rfl)
    have h2 := tl (hMm rfl)
    have hL := hL rfl
    simp only [namesB, Bool.and_eq_true, decide_eq_true_eq] at hL
    obtain ⟨⟨⟨l1', l2'⟩, l3'⟩, _⟩ := hL
    have h3 : (namesL topics).length ≤ 10 + 8 * 26 := by
      have e1 := flat_le (f := putT) (c := 26) (l := topics) fun s hs => tl (name_le (List.all_eq_true.1 l3' s hs)).1
      have e2 := (vPutL_len topics.length (by omega)).2
      have e3 : topics.length * 26 ≤ 8 * 26 := Nat.mul_le_mul_right _ l2'
      unfold namesL; rw [List.length_append]; omega
    have h4 : (vPutL (flagN robin)).length ≤ 10 := (vPutL_len _ (by cases robin <;> decide)).2
    simp only [opBody, List.length_append, if_neg (show ¬ (6 : Int) = 0 by decide), if_neg (show ¬ (6 : Int) = 1 by decide), if_neg (show ¬ (6 : Int) = 2 by decide), if_neg (show ¬ (6 : Int) = 3 by decide), if_neg (show ¬ (6 : Int) = 4 by decide), if_neg (show ¬ (6 : Int) = 5 by decide), if_pos]
    omega
  iterate 3
    · have h1 := tl (hG rfl)
      have h2 := tl (hMm rfl)
      simp [opBody] at *; omega
  · have h1 := tl (hG rfl)
    have h2 := tl (hMm rfl)
    have := tl (hT rfl)
    simp [opBody, partB] at *; omega
  · have h1 := tl (hG rfl)
    have := tl (hT rfl)
    simp [opBody, partB] at *; omega
  · simp [opBody] at *; omega
def callR (x : PCall) : List UInt8 := vPutL x.c.toNat ++ vPutL x.n.toNat ++ putT (bs (opB x.op))
def callB (x : PCall) : List UInt8 := frameB (bs (callR x))
def textB (xs : List PCall) : List UInt8 := vPutL xs.length ++ xs.flatMap callB
def textE (xs : List PCall) : Int := if xs.length > 4096 then 2 else checkE xs
theorem oddN_out {n : Int} (h : oddN n = false) : 1 ≤ n ∧ n ≤ 1099511627776 := by
  simp [oddN] at h; omega
theorem oddC_out {x : PCall} (h : oddC x = false) : (1 ≤ x.c ∧ x.c ≤ 1099511627776) ∧ 1 ≤ x.n ∧ x.n ≤ 1099511627776 := by
  simp [oddC] at h
  exact ⟨oddN_out h.1, oddN_out h.2⟩
theorem callR_len {x : PCall} (h : oddC x = false) (ho : opE x.op = 0) : (callR x).length ≤ 30040 := by
  have h1 := oddC_out h
  have h2 := opB_len (OpGood.of ho)
  have e1 := (vPutL_len x.c.toNat (by omega)).2
  have e2 := (vPutL_len x.n.toNat (by omega)).2
  have e3 := (putT_len (bs (opB x.op)) (by rw [bs_size]; omega)).2
  rw [bs_size] at e3
  unfold callR
  rw [List.length_append, List.length_append]
  omega
theorem callB_len {x : PCall} (h : oddC x = false) (ho : opE x.op = 0) : (callB x).length ≤ 40000 ∧ 1 ≤ (callB x).length := by
  have h1 := callR_len h ho
  have e3 := putT_len (bs (callR x)) (by rw [bs_size]; omega)
  rw [bs_size] at e3
  unfold callB
  rw [frameB_len]
  omega
set_option maxHeartbeats 1000000 in
theorem Text_ok {w : World} {s : Sl} {ll : List CV} (h : CsAt w s ll) (hl : ll.length ≤ 1000000) :
    Calls Tryz.prog 31 #[.slice s.a s.n s.c] w fun e w' => e = .returned (.tuple #[.string (if textE (ll.map (·.x)) = 0 then bs (textB (ll.map (·.x))) else bs []), .int .i64 (textE (ll.map (·.x)))]) ∧ Mod [] w w' := by
  have hn := h.sl.1
  have el : (ll.map (·.x)).length = ll.length := by simp
  refine go_of (oplog_Text_go ?_)
  refine brB_dec (fun g => ?_) fun g => ?_
  · have e : textE (ll.map (·.x)) = 2 := by rw [textE, if_pos (by rw [el]; omega)]
    rw [e]; exact ⟨rfl, Mod.refl _⟩
  have e : textE (ll.map (·.x)) = checkE (ll.map (·.x)) := by rw [textE, if_neg (by rw [el]; omega)]
  refine (Checked_ok h hl).mono ?_
  rintro _ w1 ⟨rfl, M1⟩
  have s1 := M1.size
  refine ⟨_, rfl, brB_of (fun g2 => ?_) fun g2 => ?_⟩
  · have g2 : checkE (ll.map (·.x)) ≠ 0 := by simpa using g2
    rw [e, if_neg g2]; exact ⟨rfl, M1⟩
  have g2 : checkE (ll.map (·.x)) = 0 := by simpa using g2
  have good : ∀ q ∈ ll, oddC q.x = false ∧ opE q.x.op = 0 := fun q hq => checkE_ok.1 g2 q.x (List.mem_map.2 ⟨q, hq, rfl⟩)
  rw [e, if_pos g2, g2]
  intro b3 f3 w4 A4
  have l4 := A4.lt b3 (by simp)
  have s4 := A4.mod.size
  rw [wrapU (by omega)]
  refine (Put_ok s.n (by omega) w4).mono ?_
  rintro _ w5 ⟨rfl, M5⟩
  refine ⟨_, rfl, Keep.of0 M5, ?_⟩
  intro w7 A7 h7
  have s5 := M5.size
  have s7 := A7.mod.size
  have N7 : Mod [] w w7 := ((M1.go0 A4.mod (by simp)).go0 M5 (by simp)).go0 A7.mod (by simp)
  have v0 := vPutL_len s.n (by omega)
  refine (SW_ok (B := w1.heap.size) (Sb.fresh f3 h7) (l2 := vPutL s.n) (by rw [List.length_nil]; omega) (by omega)).mono ?_
  rintro _ w8 ⟨rfl, hB8, W8⟩
  obtain ⟨p8, a8, n8, c8, hc8⟩ := Sb.cells hB8
  refine ⟨_, _, rfl, p8, a8, n8, c8, hc8, ?_⟩
  have modW : ∀ {w'}, Wr w1.heap.size b3 w7 w' → Mod [] w w' := fun W => W.mod N7 s1
  refine oplog_Text_rule1 (fun mm x p0 a0 n0 c0 w' => ∃ k : Nat, x = k ∧ k ≤ ll.length ∧ Sb w1.heap.size b3 (vPutL s.n ++ (ll.take k).flatMap fun q => callB q.x) w' ∧ Wr w1.heap.size b3 w7 w' ∧ mm = ll.length - k) ll.length ⟨0, rfl, by omega, by simpa using hB8, W8, rfl⟩ ?_
  rintro mm x p0 a0 n0 c0 w9 ⟨k, rfl, hk, hB9, W9, rfl⟩ h9
  have s9 := W9.bel.size
  have N9 := modW W9
  refine brB_dec (fun hlt => ?_) fun hge => ?_
  · obtain ⟨q, hq⟩ : ∃ q, ll[k]? = some q := ⟨_, List.getElem?_eq_getElem (by omega)⟩
    obtain ⟨gq1, gq2⟩ := good q (List.mem_of_getElem? hq)
    have hodd := oddC_out gq1
    refine (h.sl.keep0 N9).ix hq fun ad had => ldCV_of had ?_
    intro b10 f10 w10 A10 h10
    have l10 := A10.lt b10 (by simp)
    have s10 := A10.mod.size
    have N10 := N9.go0 A10.mod (by simp)
    refine (RPut_ok (o := q.x.op) ((h.op q (List.mem_of_getElem? hq)).keep0 N10)).mono ?_
    rintro _ w11 ⟨rfl, M11, hlen⟩
    rw [if_pos gq2]
    have s11 := M11.size
    refine ⟨_, _, rfl, Keep.of0 M11, _, _, _, _, M11.keep0 h10, ?_⟩
    intro w12 A12 h12
    have s12 := A12.mod.size
    obtain ⟨cN, hcN⟩ := Int.eq_ofNat_of_zero_le (show 0 ≤ q.x.c by omega)
    obtain ⟨nN, hnN⟩ := Int.eq_ofNat_of_zero_le (show 0 ≤ q.x.n by omega)
    rw [hcN, hnN, wrapU (by omega), wrapU (by omega)]
    refine (Put_ok cN (by omega) w12).mono ?_
    rintro _ w13 ⟨rfl, M13⟩
    have s13 := M13.size
    refine ⟨_, rfl, Keep.of0 M13, _, _, _, _, M13.keep0 h12, rfl, ?_⟩
    refine (Put_ok nN (by omega) w13).mono ?_
    rintro _ w14 ⟨rfl, M14⟩
    have s14 := M14.size
    refine ⟨_, rfl, Keep.of0 M14, _, _, _, _, M14.keep0 (M13.keep0 h12), ?_⟩
    have lc := vPutL_len cN (by omega)
    have ln := vPutL_len nN (by omega)
    have lo := opB_len (OpGood.of gq2)
    refine ⟨by show (bs (vPutL cN)).size + (bs (vPutL nN)).size ≤ _; rw [bs_size, bs_size]; omega, ?_⟩
    have e1 : vPut cN ++ vPut nN = bs (vPutL cN ++ vPutL nN) := bs_app _ _
    rw [e1]
    refine (PutText_ok (bs (opB q.x.op)) (by rw [bs_size]; omega) w14).mono ?_
    rintro _ w15 ⟨rfl, M15⟩
    have s15 := M15.size
    refine ⟨_, rfl, Keep.of0 M15, _, _, _, _, M15.keep0 (M14.keep0 (M13.keep0 h12)), ?_⟩
    have lp := (putT_len (bs (opB q.x.op)) (by rw [bs_size]; omega)).2
    rw [bs_size] at lp
    refine ⟨by rw [bs_size, bs_size, List.length_append]; omega, ?_⟩
    have e2 : bs (vPutL cN ++ vPutL nN) ++ bs (putT (bs (opB q.x.op))) = bs (callR q.x) := by
      rw [bs_app]; unfold callR; rw [hcN, hnN]; rfl
    rw [e2]
    have lr := callR_len gq1 gq2
    refine (Frame_ok (bs (callR q.x)) (by rw [bs_size]; omega) w15).mono ?_
    rintro _ w16 ⟨rfl, M16⟩
    have s16 := M16.size
    have K : Mod [] w9 w16 := ((((A10.mod.go0 M11 (by simp)).go0 A12.mod (by simp)).go0 M13 (by simp)).go0 M14 (by simp)).go0 (M15.go0 M16 (by simp)) (by simp)
    have hB16 := hB9.keep0 K
    obtain ⟨p16, a16, n16, c16, hc16⟩ := Sb.cells hB16
    refine ⟨_, rfl, Keep.of0 M16, p16, a16, n16, c16, hc16, ?_⟩
    have hlt2 : (vPutL s.n ++ (ll.take k).flatMap fun q => callB q.x).length ≤ 10 + 4096 * 40000 := by
      have e1 := flat_le (f := fun q : CV => callB q.x) (c := 40000) (l := ll.take k) fun q hq => (callB_len (good q (List.mem_of_mem_take hq)).1 (good q (List.mem_of_mem_take hq)).2).1
      have e3 : (ll.take k).length * 40000 ≤ 4096 * 40000 := Nat.mul_le_mul_right _ (by rw [List.length_take]; omega)
      rw [List.length_append]; omega
    have lcb := callB_len gq1 gq2
    refine (SW_ok (l2 := callB q.x) hB16 (by omega) (by omega)).mono ?_
    rintro _ w17 ⟨rfl, hB17, W17⟩
    obtain ⟨p17, a17, n17, c17, hc17⟩ := Sb.cells hB17
    refine ⟨_, _, rfl, W17.keepE fun k hk he => ?_, p17, a17, n17, c17, hc17, ?_⟩
    · simp at hk he
      subst hk
      exact ⟨he, .inr ⟨_, by simp; rfl, by decide⟩⟩
    refine oplog_Text_leaf1 (ll.length - (k + 1)) (by omega) ⟨k + 1, by rw [wrap_id (by omega) (by omega)]; omega, by omega, ?_, (W9.trans (Wr.of0 K (by omega))).trans W17, rfl⟩
    rw [take_flat hq, ← List.append_assoc]
    exact hB17
  · have hk : k = ll.length := by omega
    subst hk
    rw [List.take_length] at hB9
    have et : (vPutL s.n ++ ll.flatMap fun q => callB q.x) = textB (ll.map (·.x)) := by
      unfold textB; rw [el, hn, List.flatMap_map]
    rw [et] at hB9
    refine (SS_ok hB9 (by intro h0; have := congrArg List.length h0; rw [← et, List.length_append] at this; simp only [List.length_nil] at this; omega)).mono ?_
    rintro _ w10 ⟨rfl, hB10, W10⟩
    obtain ⟨p10, a10, n10, c10, hc10⟩ := Sb.cells hB10
    exact ⟨_, rfl, p10, a10, n10, c10, hc10, rfl, modW (W9.trans W10)⟩

end Go.Proofs.YtohgihgddknmmaaGreat

/- The conditions of Go functions' bodies, printed by gen2.py. -/
namespace Go.Proofs.YtohgihgddknmmaaGreat
open Go Go.RowKit
set_option linter.unusedVariables false
set_option maxRecDepth 100000

def ref01_Put_la1 : LA := ⟨[0, 1, 1], [], [], 0, []⟩
def ref01_Put_an : List LA := [ref01_Put_la1]
def ref01_Put_v1 : List Value := []
def ref01_Put_m1 : List TB := []
def ref01_Put_T (a0 : Int) (R : Value → World → Prop) (w : World) : Prop :=
 brB (decide (a0 < 128)) (
 al w (.cells #[(.int .u8 (IntKind.wrap .u8 a0))] 5) fun b1 w2 =>
 ∃ s3 w4, Sem.run Tryz.prog (Go.convert 122 9 (.slice (some ⟨b1, 0, none⟩) 1 1)) w2 = .ok (.string s3) w4 ∧
 R (.string s3) w4)
 (
 wpV Tryz.prog (subR (code Tryz.f83) [0, 1, 1]) ref01_Put_la1 (kont3 Tryz.prog ref01_Put_an (code Tryz.f83) [1, 1, 0] [] (post3 Tryz.prog Tryz.f83 [] R)) (ref01_Put_v1) (ref01_Put_m1) w)
theorem ref01_Put_eq (a0 : Int) (R : Value → World → Prop) (w : World) :
 dnF Tryz.prog ref01_Put_an (code Tryz.f83) 400 [] (post3 Tryz.prog Tryz.f83 [] R) ⟨args0 0 [.int .u64 a0], fun _ => undef⟩ ⟨[], w, [], [], true⟩ = ref01_Put_T a0 R w := by kernel_rfl
theorem ref01_Put_go {a0 : Int} {R : Value → World → Prop} {w : World} (h : ref01_Put_T a0 R w) :
 Calls Tryz.prog 83 #[.int .u64 a0] w fun e w' => ∃ v, e = .returned v ∧ R v w' :=
 calls_none Tryz.wide_mixed (f := 83) (args := [.int .u64 a0]) Tryz.func83 rfl rfl (by kernel_rfl) rfl (Eq.mpr (ref01_Put_eq a0 R w) h)
def ref01_Text_an : List LA := []
def ref01_Text_T (a0 : ByteArray) (R : Value → World → Prop) (w : World) : Prop :=
 Calls Tryz.prog 83 #[(.int .u64 (IntKind.wrap .u64 (a0.size : Int)))] w fun e w1 => ∃ s2 : ByteArray, e = .returned (.string s2) ∧
 catS s2 a0 fun s3 =>
 R (.string s3) w1
theorem ref01_Text_eq (a0 : ByteArray) (R : Value → World → Prop) (w : World) :
 dnF Tryz.prog ref01_Text_an (code Tryz.f86) 400 [] (post3 Tryz.prog Tryz.f86 [] R) ⟨args0 0 [.string a0], fun _ => undef⟩ ⟨[], w, [], [], true⟩ = ref01_Text_T a0 R w := by kernel_rfl
theorem ref01_Text_go {a0 : ByteArray} {R : Value → World → Prop} {w : World} (h : ref01_Text_T a0 R w) :
 Calls Tryz.prog 86 #[.string a0] w fun e w' => ∃ v, e = .returned v ∧ R v w' :=
 calls_none Tryz.wide_mixed (f := 86) (args := [.string a0]) Tryz.func86 rfl rfl (by kernel_rfl) rfl (Eq.mpr (ref01_Text_eq a0 R w) h)
def ref02_Turn_la1 : LA := ⟨[0, 0, 1, 0, 1, 1], [0, 1, 5, 6, 7], [], 0, []⟩
def ref02_Turn_an : List LA := [ref02_Turn_la1]
def ref02_Turn_v1 (a0 a1 a2 a3 a4 : Int) : List Value := [.int .u32 a0, .int .u32 a1, .int .u32 a2, .int .u32 a3, .int .i64 a4]
def ref02_Turn_m1 : List TB := []
def ref02_Turn_L1 (a0 a1 a2 a3 a4 : Int) (K1 : Kh) (R : Value → World → Prop) (w : World) : Prop :=
 brB (decide (a4 < 32)) (nz 2 (nz 2 (
 brB ((Int.tmod a0 2) != (Int.tmod a1 2)) (nz 2 (nz 2 (
 K1 (ref02_Turn_v1 (IntKind.wrap .u32 (Int.tdiv a0 2)) (IntKind.wrap .u32 (Int.tdiv a1 2)) (IntKind.wrap .u32 (a2 + a3)) (IntKind.wrap .u32 (a3 * 2)) (IntKind.wrap .i64 (a4 + 1))) (ref02_Turn_m1) w)))
 (nz 2 (nz 2 (
 K1 (ref02_Turn_v1 (IntKind.wrap .u32 (Int.tdiv a0 2)) (IntKind.wrap .u32 (Int.tdiv a1 2)) a2 (IntKind.wrap .u32 (a3 * 2)) (IntKind.wrap .i64 (a4 + 1))) (ref02_Turn_m1) w))))))
 (
 R (.int .u32 a2) w)
theorem ref02_Turn_L1_eq (a0 a1 a2 a3 a4 : Int) (K1 : Kh) (js : Nat → Value) (R : Value → World → Prop) (w : World) :
 headA ref02_Turn_la1 ((dnF Tryz.prog ref02_Turn_an (code Tryz.f166) 396 [0, 0, 1, 0, 1, 1]) (kthen3 (atA ref02_Turn_la1 K1) (kont3 Tryz.prog ref02_Turn_an (code Tryz.f166) [1, 1, 0, 1, 0] [] (post3 Tryz.prog Tryz.f166 [] R)))) (ref02_Turn_v1 a0 a1 a2 a3 a4) js (ref02_Turn_m1) w = ref02_Turn_L1 a0 a1 a2 a3 a4 K1 R w := by kernel_rfl
def ref02_Turn_K1 (I : Nat → Int → Int → Int → Int → Int → World → Prop) (m : Nat) (vals : List Value) (mem : List TB) (w : World) : Prop := ∃ m', m' < m ∧ ∃ a0 a1 a2 a3 a4, vals = (ref02_Turn_v1 a0 a1 a2 a3 a4) ∧ mem = (ref02_Turn_m1) ∧ I m' a0 a1 a2 a3 a4 w
theorem ref02_Turn_leaf1 {I : Nat → Int → Int → Int → Int → Int → World → Prop} {m : Nat} {a0 a1 a2 a3 a4 : Int} {w : World} (m' : Nat) (h1 : m' < m) (h2 : I m' a0 a1 a2 a3 a4 w) : ref02_Turn_K1 I m (ref02_Turn_v1 a0 a1 a2 a3 a4) (ref02_Turn_m1) w := ⟨m', h1, _, _, _, _, _, rfl, rfl, h2⟩
theorem ref02_Turn_rule1 {a5 a6 a7 a8 a9 : Int} {R : Value → World → Prop} {w0 : World} (I : Nat → Int → Int → Int → Int → Int → World → Prop) (m0 : Nat) (h0 : I m0 a5 a6 a7 a8 a9 w0)
 (hr : ∀ (m : Nat) (a0 a1 a2 a3 a4 : Int) (w : World), I m a0 a1 a2 a3 a4 w → ref02_Turn_L1 a0 a1 a2 a3 a4 (ref02_Turn_K1 I m) R w) :
 loopD3 ref02_Turn_la1 (dnF Tryz.prog ref02_Turn_an (code Tryz.f166) 396 [0, 0, 1, 0, 1, 1]) (kont3 Tryz.prog ref02_Turn_an (code Tryz.f166) [1, 1, 0, 1, 0] [] (post3 Tryz.prog Tryz.f166 [] R)) (ref02_Turn_v1 a5 a6 a7 a8 a9) (ref02_Turn_m1) w0 := by
 refine ⟨fun m vals mem w => ∃ a0 a1 a2 a3 a4, vals = (ref02_Turn_v1 a0 a1 a2 a3 a4) ∧ mem = (ref02_Turn_m1) ∧ I m a0 a1 a2 a3 a4 w, m0, ⟨_, _, _, _, _, rfl, rfl, h0⟩, ?_⟩
 rintro m vals mem w ⟨a0, a1, a2, a3, a4, rfl, rfl, hI⟩
 refine ⟨rfl, rfl, fun js => ?_⟩
 have h := hr m a0 a1 a2 a3 a4 w hI
 rw [← ref02_Turn_L1_eq _ _ _ _ _ _ js] at h
 exact h
def ref02_Turn_T (a0 a1 : Int) (R : Value → World → Prop) (w : World) : Prop :=
 loopD3 ref02_Turn_la1 (dnF Tryz.prog ref02_Turn_an (code Tryz.f166) 396 [0, 0, 1, 0, 1, 1]) (kont3 Tryz.prog ref02_Turn_an (code Tryz.f166) [1, 1, 0, 1, 0] [] (post3 Tryz.prog Tryz.f166 [] R)) (ref02_Turn_v1 a0 a1 0 1 0) (ref02_Turn_m1) w
theorem ref02_Turn_eq (a0 a1 : Int) (R : Value → World → Prop) (w : World) :
 dnF Tryz.prog ref02_Turn_an (code Tryz.f166) 400 [] (post3 Tryz.prog Tryz.f166 [] R) ⟨args0 0 [.int .u32 a0, .int .u32 a1], fun _ => undef⟩ ⟨[], w, [], [], true⟩ = ref02_Turn_T a0 a1 R w := by kernel_rfl
theorem ref02_Turn_go {a0 a1 : Int} {R : Value → World → Prop} {w : World} (h : ref02_Turn_T a0 a1 R w) :
 Calls Tryz.prog 166 #[.int .u32 a0, .int .u32 a1] w fun e w' => ∃ v, e = .returned v ∧ R v w' :=
 calls_none Tryz.wide_mixed (f := 166) (args := [.int .u32 a0, .int .u32 a1]) Tryz.func166 rfl rfl (by kernel_rfl) rfl (Eq.mpr (ref02_Turn_eq a0 a1 R w) h)
def ref02_More_la1 : LA := ⟨[0, 0, 1, 0, 1, 1], [1, 5, 6], [], 0, []⟩
def ref02_More_la2 : LA := ⟨[0, 0, 1, 1, 0, 0, 1, 0, 0, 1, 0, 1, 1], [1, 5, 6, 7], [], 0, []⟩
def ref02_More_an : List LA := [ref02_More_la1, ref02_More_la2]
def ref02_More_v1 (a0 : ByteArray) (a1 a2 : Int) : List Value := [.string a0, .int .u32 a1, .int .i64 a2]
def ref02_More_m1 : List TB := []
def ref02_More_v2 (a0 : ByteArray) (a2 a1 a3 : Int) : List Value := [.string a0, .int .u32 a1, .int .i64 a2, .int .i64 a3]
def ref02_More_m2 : List TB := []
def ref02_More_L1 (a0 : ByteArray) (a2 a1 : Int) (K1 : Kh) (R : Value → World → Prop) (w : World) : Prop :=
 brB (decide (a1 < (a0.size : Int))) (
 ixS a0 a1 fun x1 =>
 Calls Tryz.prog 166 #[.int .u32 a2, (.int .u32 (IntKind.wrap .u32 x1))] w fun e w2 => ∃ x3 : Int, e = .returned (.int .u32 x3) ∧
 loopD3 ref02_More_la2 (dnF Tryz.prog ref02_More_an (code Tryz.f156) 392 [0, 0, 1, 1, 0, 0, 1, 0, 0, 1, 0, 1, 1]) (kont3 Tryz.prog ref02_More_an (code Tryz.f156) [1, 1, 0, 1, 0, 0, 1, 0, 0, 1, 1, 0] [K1] (post3 Tryz.prog Tryz.f156 [] R)) (ref02_More_v2 a0 a1 x3 0) (ref02_More_m2) w2)
 (
 R (.int .u32 (IntKind.wrap .u32 (4294967295 - a2))) w)
theorem ref02_More_L1_eq (a0 : ByteArray) (a1 a2 : Int) (K1 : Kh) (js : Nat → Value) (R : Value → World → Prop) (w : World) :
 headA ref02_More_la1 ((dnF Tryz.prog ref02_More_an (code Tryz.f156) 396 [0, 0, 1, 0, 1, 1]) (kthen3 (atA ref02_More_la1 K1) (kont3 Tryz.prog ref02_More_an (code Tryz.f156) [1, 1, 0, 1, 0] [] (post3 Tryz.prog Tryz.f156 [] R)))) (ref02_More_v1 a0 a1 a2) js (ref02_More_m1) w = ref02_More_L1 a0 a1 a2 K1 R w := by kernel_rfl
def ref02_More_K1 (a2 : ByteArray) (I : Nat → Int → Int → World → Prop) (m : Nat) (vals : List Value) (mem : List TB) (w : World) : Prop := ∃ m', m' < m ∧ ∃ a0 a1, vals = (ref02_More_v1 a2 a0 a1) ∧ mem = (ref02_More_m1) ∧ I m' a0 a1 w
theorem ref02_More_leaf1 {a0 : ByteArray} {I : Nat → Int → Int → World → Prop} {m : Nat} {a1 a2 : Int} {w : World} (m' : Nat) (h1 : m' < m) (h2 : I m' a1 a2 w) : ref02_More_K1 a0 I m (ref02_More_v1 a0 a1 a2) (ref02_More_m1) w := ⟨m', h1, _, _, rfl, rfl, h2⟩
theorem ref02_More_rule1 {a2 : ByteArray} {a3 a4 : Int} {R : Value → World → Prop} {w0 : World} (I : Nat → Int → Int → World → Prop) (m0 : Nat) (h0 : I m0 a3 a4 w0)
 (hr : ∀ (m : Nat) (a0 a1 : Int) (w : World), I m a0 a1 w → ref02_More_L1 a2 a0 a1 (ref02_More_K1 a2 I m) R w) :
 loopD3 ref02_More_la1 (dnF Tryz.prog ref02_More_an (code Tryz.f156) 396 [0, 0, 1, 0, 1, 1]) (kont3 Tryz.prog ref02_More_an (code Tryz.f156) [1, 1, 0, 1, 0] [] (post3 Tryz.prog Tryz.f156 [] R)) (ref02_More_v1 a2 a3 a4) (ref02_More_m1) w0 := by
 refine ⟨fun m vals mem w => ∃ a0 a1, vals = (ref02_More_v1 a2 a0 a1) ∧ mem = (ref02_More_m1) ∧ I m a0 a1 w, m0, ⟨_, _, rfl, rfl, h0⟩, ?_⟩
 rintro m vals mem w ⟨a0, a1, rfl, rfl, hI⟩
 refine ⟨rfl, rfl, fun js => ?_⟩
 have h := hr m a0 a1 w hI
 rw [← ref02_More_L1_eq _ _ _ _ js] at h
 exact h
def ref02_More_L2 (a1 : ByteArray) (a2 a0 a3 : Int) (K1 K2 : Kh) (R : Value → World → Prop) (w : World) : Prop :=
 brB (decide (a3 < 8)) (nz 2 (nz 2 (
 brB ((Int.tmod a0 2) == 1) (
 Calls Tryz.prog 166 #[(.int .u32 (IntKind.wrap .u32 (Int.tdiv a0 2))), .int .u32 3988292384] w fun e w4 => ∃ x5 : Int, e = .returned (.int .u32 x5) ∧
 K2 (ref02_More_v2 a1 a2 x5 (IntKind.wrap .i64 (a3 + 1))) (ref02_More_m2) w4)
 (
 K2 (ref02_More_v2 a1 a2 (IntKind.wrap .u32 (Int.tdiv a0 2)) (IntKind.wrap .i64 (a3 + 1))) (ref02_More_m2) w))))
 (
 K1 (ref02_More_v1 a1 a0 (IntKind.wrap .i64 (a2 + 1))) (ref02_More_m1) w)
theorem ref02_More_L2_eq (a0 : ByteArray) (a2 a1 a3 : Int) (K1 K2 : Kh) (js : Nat → Value) (R : Value → World → Prop) (w : World) :
 headA ref02_More_la2 ((dnF Tryz.prog ref02_More_an (code Tryz.f156) 392 [0, 0, 1, 1, 0, 0, 1, 0, 0, 1, 0, 1, 1]) (kthen3 (atA ref02_More_la2 K2) (kont3 Tryz.prog ref02_More_an (code Tryz.f156) [1, 1, 0, 1, 0, 0, 1, 0, 0, 1, 1, 0] [K1] (post3 Tryz.prog Tryz.f156 [] R)))) (ref02_More_v2 a0 a2 a1 a3) js (ref02_More_m2) w = ref02_More_L2 a0 a2 a1 a3 K1 K2 R w := by kernel_rfl
def ref02_More_K2 (a2 : ByteArray) (a3 : Int) (I : Nat → Int → Int → World → Prop) (m : Nat) (vals : List Value) (mem : List TB) (w : World) : Prop := ∃ m', m' < m ∧ ∃ a0 a1, vals = (ref02_More_v2 a2 a3 a0 a1) ∧ mem = (ref02_More_m2) ∧ I m' a0 a1 w
theorem ref02_More_leaf2 {a0 : ByteArray} {a2 : Int} {I : Nat → Int → Int → World → Prop} {m : Nat} {a1 a3 : Int} {w : World} (m' : Nat) (h1 : m' < m) (h2 : I m' a1 a3 w) : ref02_More_K2 a0 a2 I m (ref02_More_v2 a0 a2 a1 a3) (ref02_More_m2) w := ⟨m', h1, _, _, rfl, rfl, h2⟩
theorem ref02_More_rule2 {a2 : ByteArray} {a3 a4 a5 : Int} {R : Value → World → Prop} {w0 : World} {K1 : Kh} (I : Nat → Int → Int → World → Prop) (m0 : Nat) (h0 : I m0 a4 a5 w0)
 (hr : ∀ (m : Nat) (a0 a1 : Int) (w : World), I m a0 a1 w → ref02_More_L2 a2 a3 a0 a1 K1 (ref02_More_K2 a2 a3 I m) R w) :
 loopD3 ref02_More_la2 (dnF Tryz.prog ref02_More_an (code Tryz.f156) 392 [0, 0, 1, 1, 0, 0, 1, 0, 0, 1, 0, 1, 1]) (kont3 Tryz.prog ref02_More_an (code Tryz.f156) [1, 1, 0, 1, 0, 0, 1, 0, 0, 1, 1, 0] [K1] (post3 Tryz.prog Tryz.f156 [] R)) (ref02_More_v2 a2 a3 a4 a5) (ref02_More_m2) w0 := by
 refine ⟨fun m vals mem w => ∃ a0 a1, vals = (ref02_More_v2 a2 a3 a0 a1) ∧ mem = (ref02_More_m2) ∧ I m a0 a1 w, m0, ⟨_, _, rfl, rfl, h0⟩, ?_⟩
 rintro m vals mem w ⟨a0, a1, rfl, rfl, hI⟩
 refine ⟨rfl, rfl, fun js => ?_⟩
 have h := hr m a0 a1 w hI
 rw [← ref02_More_L2_eq _ _ _ _ _ _ js] at h
 exact h
def ref02_More_T (a0 : Int) (a1 : ByteArray) (R : Value → World → Prop) (w : World) : Prop :=
 loopD3 ref02_More_la1 (dnF Tryz.prog ref02_More_an (code Tryz.f156) 396 [0, 0, 1, 0, 1, 1]) (kont3 Tryz.prog ref02_More_an (code Tryz.f156) [1, 1, 0, 1, 0] [] (post3 Tryz.prog Tryz.f156 [] R)) (ref02_More_v1 a1 (IntKind.wrap .u32 (4294967295 - a0)) 0) (ref02_More_m1) w
theorem ref02_More_eq (a0 : Int) (a1 : ByteArray) (R : Value → World → Prop) (w : World) :
 dnF Tryz.prog ref02_More_an (code Tryz.f156) 400 [] (post3 Tryz.prog Tryz.f156 [] R) ⟨args0 0 [.int .u32 a0, .string a1], fun _ => undef⟩ ⟨[], w, [], [], true⟩ = ref02_More_T a0 a1 R w := by kernel_rfl
theorem ref02_More_go {a0 : Int} {a1 : ByteArray} {R : Value → World → Prop} {w : World} (h : ref02_More_T a0 a1 R w) :
 Calls Tryz.prog 156 #[.int .u32 a0, .string a1] w fun e w' => ∃ v, e = .returned v ∧ R v w' :=
 calls_none Tryz.wide_mixed (f := 156) (args := [.int .u32 a0, .string a1]) Tryz.func156 rfl rfl (by kernel_rfl) rfl (Eq.mpr (ref02_More_eq a0 a1 R w) h)
def ref02_Sum_an : List LA := []
def ref02_Sum_T (a0 : ByteArray) (R : Value → World → Prop) (w : World) : Prop :=
 Calls Tryz.prog 156 #[.int .u32 0, .string a0] w fun e w1 => ∃ x2 : Int, e = .returned (.int .u32 x2) ∧
 R (.int .u32 x2) w1
theorem ref02_Sum_eq (a0 : ByteArray) (R : Value → World → Prop) (w : World) :
 dnF Tryz.prog ref02_Sum_an (code Tryz.f134) 400 [] (post3 Tryz.prog Tryz.f134 [] R) ⟨args0 0 [.string a0], fun _ => undef⟩ ⟨[], w, [], [], true⟩ = ref02_Sum_T a0 R w := by kernel_rfl
theorem ref02_Sum_go {a0 : ByteArray} {R : Value → World → Prop} {w : World} (h : ref02_Sum_T a0 R w) :
 Calls Tryz.prog 134 #[.string a0] w fun e w' => ∃ v, e = .returned v ∧ R v w' :=
 calls_none Tryz.wide_mixed (f := 134) (args := [.string a0]) Tryz.func134 rfl rfl (by kernel_rfl) rfl (Eq.mpr (ref02_Sum_eq a0 R w) h)
def ref02_Four_an : List LA := []
def ref02_Four_T (a0 : Int) (R : Value → World → Prop) (w : World) : Prop :=
 nz 256 (nz 256 (nz 256 (nz 65536 (nz 256 (nz 16777216 (
 al w (.cells #[(.int .u8 (IntKind.wrap .u8 (Int.tmod a0 256))), (.int .u8 (IntKind.wrap .u8 (Int.tmod (IntKind.wrap .u32 (Int.tdiv a0 256)) 256))), (.int .u8 (IntKind.wrap .u8 (Int.tmod (IntKind.wrap .u32 (Int.tdiv a0 65536)) 256))), (.int .u8 (IntKind.wrap .u8 (IntKind.wrap .u32 (Int.tdiv a0 16777216))))] 5) fun b1 w2 =>
 ∃ s3 w4, Sem.run Tryz.prog (Go.convert 122 9 (.slice (some ⟨b1, 0, none⟩) 4 4)) w2 = .ok (.string s3) w4 ∧
 R (.string s3) w4))))))
theorem ref02_Four_eq (a0 : Int) (R : Value → World → Prop) (w : World) :
 dnF Tryz.prog ref02_Four_an (code Tryz.f133) 400 [] (post3 Tryz.prog Tryz.f133 [] R) ⟨args0 0 [.int .u32 a0], fun _ => undef⟩ ⟨[], w, [], [], true⟩ = ref02_Four_T a0 R w := by kernel_rfl
theorem ref02_Four_go {a0 : Int} {R : Value → World → Prop} {w : World} (h : ref02_Four_T a0 R w) :
 Calls Tryz.prog 133 #[.int .u32 a0] w fun e w' => ∃ v, e = .returned v ∧ R v w' :=
 calls_none Tryz.wide_mixed (f := 133) (args := [.int .u32 a0]) Tryz.func133 rfl rfl (by kernel_rfl) rfl (Eq.mpr (ref02_Four_eq a0 R w) h)
def ref02_Frame_an : List LA := []
def ref02_Frame_T (a0 : ByteArray) (R : Value → World → Prop) (w : World) : Prop :=
 Calls Tryz.prog 86 #[.string a0] w fun e w1 => ∃ s2 : ByteArray, e = .returned (.string s2) ∧
 Calls Tryz.prog 134 #[.string a0] w1 fun e w3 => ∃ x4 : Int, e = .returned (.int .u32 x4) ∧
 Calls Tryz.prog 133 #[.int .u32 x4] w3 fun e w5 => ∃ s6 : ByteArray, e = .returned (.string s6) ∧
 catS s2 s6 fun s7 =>
 R (.string s7) w5
theorem ref02_Frame_eq (a0 : ByteArray) (R : Value → World → Prop) (w : World) :
 dnF Tryz.prog ref02_Frame_an (code Tryz.f85) 400 [] (post3 Tryz.prog Tryz.f85 [] R) ⟨args0 0 [.string a0], fun _ => undef⟩ ⟨[], w, [], [], true⟩ = ref02_Frame_T a0 R w := by kernel_rfl
theorem ref02_Frame_go {a0 : ByteArray} {R : Value → World → Prop} {w : World} (h : ref02_Frame_T a0 R w) :
 Calls Tryz.prog 85 #[.string a0] w fun e w' => ∃ v, e = .returned v ∧ R v w' :=
 calls_none Tryz.wide_mixed (f := 85) (args := [.string a0]) Tryz.func85 rfl rfl (by kernel_rfl) rfl (Eq.mpr (ref02_Frame_eq a0 R w) h)
def ref03_Text_an : List LA := []
def ref03_Text_T (a2 : Bool) (a1 : ByteArray) (a3 : Bool) (a0 : ByteArray) (R : Value → World → Prop) (w : World) : Prop :=
 ∀ b1, w.heap.size ≤ b1 →
 brB a3 (
 ∀ w2, Adv [] [b1] w w2 →
 Calls Tryz.prog 86 #[.string a1] w2 fun e w3 => ∃ s4 : ByteArray, e = .returned (.string s4) ∧ Keep [b1] w2 w3 ∧
 catS (⟨#[3]⟩ : ByteArray) s4 fun s5 =>
 R (.string s5) w3)
 (
 brB a2 (
 ∀ w6, Adv [] [b1] w w6 →
 Calls Tryz.prog 86 #[.string a1] w6 fun e w7 => ∃ s8 : ByteArray, e = .returned (.string s8) ∧ Keep [b1] w6 w7 ∧ (((.string a0) : Value) = (.string a0)) ∧
 catS (⟨#[1]⟩ : ByteArray) s8 fun s9 =>
 Calls Tryz.prog 86 #[.string a0] w7 fun e w10 => ∃ s11 : ByteArray, e = .returned (.string s11) ∧ Keep [b1] w7 w10 ∧
 catS s9 s11 fun s12 =>
 R (.string s12) w10)
 (
 ∀ w13, Adv [] [b1] w w13 →
 Calls Tryz.prog 86 #[.string a0] w13 fun e w14 => ∃ s15 : ByteArray, e = .returned (.string s15) ∧ Keep [b1] w13 w14 ∧
 catS (⟨#[0]⟩ : ByteArray) s15 fun s16 =>
 R (.string s16) w14))
theorem ref03_Text_eq (a0 : Bool) (a1 : ByteArray) (a2 : Bool) (a3 : ByteArray) (R : Value → World → Prop) (w : World) :
 dnF Tryz.prog ref03_Text_an (code Tryz.f149) 400 [] (post3 Tryz.prog Tryz.f149 [] R) ⟨args0 0 [(.agg #[.bool a0, .string a1, .bool a2, .string a3])], fun _ => undef⟩ ⟨[], w, [], [], true⟩ = ref03_Text_T a0 a1 a2 a3 R w := by kernel_rfl
theorem ref03_Text_go {a0 : Bool} {a1 : ByteArray} {a2 : Bool} {a3 : ByteArray} {R : Value → World → Prop} {w : World} (h : ref03_Text_T a0 a1 a2 a3 R w) :
 Calls Tryz.prog 149 #[(.agg #[.bool a0, .string a1, .bool a2, .string a3])] w fun e w' => ∃ v, e = .returned v ∧ R v w' :=
 calls_none Tryz.wide_mixed (f := 149) (args := [(.agg #[.bool a0, .string a1, .bool a2, .string a3])]) Tryz.func149 rfl rfl (by kernel_rfl) rfl (Eq.mpr (ref03_Text_eq a0 a1 a2 a3 R w) h)
def ref03_Batch_la1 : LA := ⟨[0, 0, 1, 0, 1, 1, 1, 1], [1, 5, 6], [(1, 0, 0)], 1, []⟩
def ref03_Batch_an : List LA := [ref03_Batch_la1]
def ref03_Batch_v1 (bm0 : Nat) (a0 : ByteArray) (a1 : Int) : List Value := [(.pointer (some ⟨bm0, 0, none⟩)), .string a0, .int .i64 a1]
def ref03_Batch_m1 (bm0 : Nat) (a3 a4 a5 : Int) (a0 : Option Addr) (a2 a1 : Nat) : List TB := [⟨bm0, 35, [.int .i64 a3, .int .i64 a4, .int .i64 a5, .slice a0 a2 a1], false⟩]
def ref03_Batch_L1 (bm0 : Nat) (a4 a5 a6 : Int) (a1 : Option Addr) (a0 a2 : Nat) (a7 : ByteArray) (a3 : Int) (K1 : Kh) (R : Value → World → Prop) (w : World) : Prop :=
 brB (decide (a3 < (a0 : Int))) (
 ixA a1 a0 a3 4 fun q17 =>
 ldBool w q17 fun t18 => ldStr w (Addr.add q17 1) fun s19 => ldBool w (Addr.add q17 2) fun t20 => ldStr w (Addr.add q17 3) fun s21 =>
 Calls Tryz.prog 149 #[(.agg #[.bool t18, .string s19, .bool t20, .string s21])] w fun e w22 => ∃ s23 : ByteArray, e = .returned (.string s23) ∧ Keep [bm0] w w22 ∧
 catS a7 s23 fun s24 =>
 K1 (ref03_Batch_v1 bm0 s24 (IntKind.wrap .i64 (a3 + 1))) (ref03_Batch_m1 bm0 a4 a5 a6 a1 a0 a2) w22)
 (
 R (.tuple #[.string a7, .int .i64 0]) w)
theorem ref03_Batch_L1_eq (bm0 : Nat) (a3 a4 a5 : Int) (a0 : Option Addr) (a2 a1 : Nat) (a6 : ByteArray) (a7 : Int) (K1 : Kh) (js : Nat → Value) (R : Value → World → Prop) (w : World) :
 headA ref03_Batch_la1 ((dnF Tryz.prog ref03_Batch_an (code Tryz.f155) 394 [0, 0, 1, 0, 1, 1, 1, 1]) (kthen3 (atA ref03_Batch_la1 K1) (kont3 Tryz.prog ref03_Batch_an (code Tryz.f155) [1, 1, 1, 1, 0, 1, 0] [] (post3 Tryz.prog Tryz.f155 [] R)))) (ref03_Batch_v1 bm0 a6 a7) js (ref03_Batch_m1 bm0 a3 a4 a5 a0 a2 a1) w = ref03_Batch_L1 bm0 a3 a4 a5 a0 a2 a1 a6 a7 K1 R w := by kernel_rfl
def ref03_Batch_K1 (bm0 : Nat) (a3 a4 a5 : Int) (a0 : Option Addr) (a2 a1 : Nat) (I : Nat → ByteArray → Int → World → Prop) (m : Nat) (vals : List Value) (mem : List TB) (w : World) : Prop := ∃ m', m' < m ∧ ∃ a6 a7, vals = (ref03_Batch_v1 bm0 a6 a7) ∧ mem = (ref03_Batch_m1 bm0 a3 a4 a5 a0 a2 a1) ∧ I m' a6 a7 w
theorem ref03_Batch_leaf1 {bm0 : Nat} {a3 a4 a5 : Int} {a0 : Option Addr} {a2 a1 : Nat} {I : Nat → ByteArray → Int → World → Prop} {m : Nat} {a6 : ByteArray} {a7 : Int} {w : World} (m' : Nat) (h1 : m' < m) (h2 : I m' a6 a7 w) : ref03_Batch_K1 bm0 a3 a4 a5 a0 a2 a1 I m (ref03_Batch_v1 bm0 a6 a7) (ref03_Batch_m1 bm0 a3 a4 a5 a0 a2 a1) w := ⟨m', h1, _, _, rfl, rfl, h2⟩
theorem ref03_Batch_rule1 {bm0 : Nat} {a3 a4 a5 : Int} {a0 : Option Addr} {a2 a1 : Nat} {a8 : ByteArray} {a9 : Int} {R : Value → World → Prop} {w0 : World} (I : Nat → ByteArray → Int → World → Prop) (m0 : Nat) (h0 : I m0 a8 a9 w0)
 (hr : ∀ (m : Nat) (a6 : ByteArray) (a7 : Int) (w : World), I m a6 a7 w → ref03_Batch_L1 bm0 a3 a4 a5 a0 a2 a1 a6 a7 (ref03_Batch_K1 bm0 a3 a4 a5 a0 a2 a1 I m) R w) :
 loopD3 ref03_Batch_la1 (dnF Tryz.prog ref03_Batch_an (code Tryz.f155) 394 [0, 0, 1, 0, 1, 1, 1, 1]) (kont3 Tryz.prog ref03_Batch_an (code Tryz.f155) [1, 1, 1, 1, 0, 1, 0] [] (post3 Tryz.prog Tryz.f155 [] R)) (ref03_Batch_v1 bm0 a8 a9) (ref03_Batch_m1 bm0 a3 a4 a5 a0 a2 a1) w0 := by
 refine ⟨fun m vals mem w => ∃ a6 a7, vals = (ref03_Batch_v1 bm0 a6 a7) ∧ mem = (ref03_Batch_m1 bm0 a3 a4 a5 a0 a2 a1) ∧ I m a6 a7 w, m0, ⟨_, _, rfl, rfl, h0⟩, ?_⟩
 rintro m vals mem w ⟨a6, a7, rfl, rfl, hI⟩
 refine ⟨rfl, rfl, fun js => ?_⟩
 have h := hr m a6 a7 w hI
 rw [← ref03_Batch_L1_eq _ _ _ _ _ _ _ _ _ _ js] at h
 exact h
def ref03_Batch_T (a5 a4 a3 : Int) (a1 : Option Addr) (a0 a2 : Nat) (R : Value → World → Prop) (w : World) : Prop :=
 ∀ b1, w.heap.size ≤ b1 →
 ∀ w2, Adv [] [b1] w w2 →
 Calls Tryz.prog 111 #[(.agg #[.int .i64 a5, .int .i64 a4, .int .i64 a3, .slice a1 a0 a2])] w2 fun e w3 => ∃ x4 : Int, e = .returned (.int .i64 x4) ∧ Keep [b1] w2 w3 ∧
 brB (x4 != 0) (
 R (.tuple #[(.string (⟨#[]⟩ : ByteArray)), .int .i64 x4]) w3)
 (
 ∀ w5, Adv [] [] w3 w5 →
 Calls Tryz.prog 83 #[(.int .u64 (IntKind.wrap .u64 a5))] w5 fun e w6 => ∃ s7 : ByteArray, e = .returned (.string s7) ∧ Keep [b1] w5 w6 ∧ (((.slice a1 a0 a2) : Value) = (.slice a1 a0 a2)) ∧ (((.int .i64 a3) : Value) = (.int .i64 a3)) ∧ (((.int .i64 a4) : Value) = (.int .i64 a4)) ∧
 Calls Tryz.prog 83 #[(.int .u64 (IntKind.wrap .u64 a4))] w6 fun e w8 => ∃ s9 : ByteArray, e = .returned (.string s9) ∧ Keep [b1] w6 w8 ∧ (((.slice a1 a0 a2) : Value) = (.slice a1 a0 a2)) ∧ (((.int .i64 a3) : Value) = (.int .i64 a3)) ∧
 catS s7 s9 fun s10 =>
 Calls Tryz.prog 83 #[(.int .u64 (IntKind.wrap .u64 a3))] w8 fun e w11 => ∃ s12 : ByteArray, e = .returned (.string s12) ∧ Keep [b1] w8 w11 ∧ (((.slice a1 a0 a2) : Value) = (.slice a1 a0 a2)) ∧
 catS s10 s12 fun s13 =>
 Calls Tryz.prog 83 #[(.int .u64 (IntKind.wrap .u64 (a0 : Int)))] w11 fun e w14 => ∃ s15 : ByteArray, e = .returned (.string s15) ∧ Keep [b1] w11 w14 ∧
 catS s13 s15 fun s16 =>
 loopD3 ref03_Batch_la1 (dnF Tryz.prog ref03_Batch_an (code Tryz.f155) 394 [0, 0, 1, 0, 1, 1, 1, 1]) (kont3 Tryz.prog ref03_Batch_an (code Tryz.f155) [1, 1, 1, 1, 0, 1, 0] [] (post3 Tryz.prog Tryz.f155 [] R)) (ref03_Batch_v1 b1 s16 0) (ref03_Batch_m1 b1 a5 a4 a3 a1 a0 a2) w14)
theorem ref03_Batch_eq (a3 a4 a5 : Int) (a0 : Option Addr) (a2 a1 : Nat) (R : Value → World → Prop) (w : World) :
 dnF Tryz.prog ref03_Batch_an (code Tryz.f155) 400 [] (post3 Tryz.prog Tryz.f155 [] R) ⟨args0 0 [(.agg #[.int .i64 a3, .int .i64 a4, .int .i64 a5, .slice a0 a2 a1])], fun _ => undef⟩ ⟨[], w, [], [], true⟩ = ref03_Batch_T a3 a4 a5 a0 a2 a1 R w := by kernel_rfl
theorem ref03_Batch_go {a3 a4 a5 : Int} {a0 : Option Addr} {a2 a1 : Nat} {R : Value → World → Prop} {w : World} (h : ref03_Batch_T a3 a4 a5 a0 a2 a1 R w) :
 Calls Tryz.prog 155 #[(.agg #[.int .i64 a3, .int .i64 a4, .int .i64 a5, .slice a0 a2 a1])] w fun e w' => ∃ v, e = .returned v ∧ R v w' :=
 calls_none Tryz.wide_mixed (f := 155) (args := [(.agg #[.int .i64 a3, .int .i64 a4, .int .i64 a5, .slice a0 a2 a1])]) Tryz.func155 rfl rfl (by kernel_rfl) rfl (Eq.mpr (ref03_Batch_eq a3 a4 a5 a0 a2 a1 R w) h)
def ref04_num_an : List LA := []
def ref04_num_T (a0 : Int) (R : Value → World → Prop) (w : World) : Prop :=
 Calls Tryz.prog 83 #[(.int .u64 (IntKind.wrap .u64 a0))] w fun e w1 => ∃ s2 : ByteArray, e = .returned (.string s2) ∧
 R (.string s2) w1
theorem ref04_num_eq (a0 : Int) (R : Value → World → Prop) (w : World) :
 dnF Tryz.prog ref04_num_an (code Tryz.f131) 400 [] (post3 Tryz.prog Tryz.f131 [] R) ⟨args0 0 [.int .i64 a0], fun _ => undef⟩ ⟨[], w, [], [], true⟩ = ref04_num_T a0 R w := by kernel_rfl
theorem ref04_num_go {a0 : Int} {R : Value → World → Prop} {w : World} (h : ref04_num_T a0 R w) :
 Calls Tryz.prog 131 #[.int .i64 a0] w fun e w' => ∃ v, e = .returned v ∧ R v w' :=
 calls_none Tryz.wide_mixed (f := 131) (args := [.int .i64 a0]) Tryz.func131 rfl rfl (by kernel_rfl) rfl (Eq.mpr (ref04_num_eq a0 R w) h)
def ref04_one_la1 : LA := ⟨[0, 0, 1, 0, 1, 1, 1], [2, 7, 8], [(2, 0, 0)], 1, []⟩
def ref04_one_an : List LA := [ref04_one_la1]
def ref04_one_v1 (bm0 : Nat) (a0 : ByteArray) (a1 : Int) : List Value := [(.pointer (some ⟨bm0, 0, none⟩)), .string a0, .int .i64 a1]
def ref04_one_m1 (bm0 : Nat) (b1 : Int) (a9 : ByteArray) (b2 b3 b4 b5 b6 b7 : Int) (a6 : Option Addr) (a8 a7 : Nat) (b0 a3 : ByteArray) (a5 : Int) (a4 : Bool) (a0 : Option Addr) (a2 a1 : Nat) : List TB := [⟨bm0, 38, [.int .i64 b1, .string a9, .int .i64 b2, .int .i64 b3, .int .i64 b4, .int .i64 b5, .int .i64 b6, .int .i64 b7, .slice a6 a8 a7, .string b0, .string a3, .int .i64 a5, .bool a4, .slice a0 a2 a1], false⟩]
def ref04_one_L1 (bm0 : Nat) (b2 : Int) (a9 : ByteArray) (b3 b4 b5 b6 b7 b8 : Int) (a6 : Option Addr) (a8 a7 : Nat) (b0 a3 : ByteArray) (a5 : Int) (a4 : Bool) (a1 : Option Addr) (a0 a2 : Nat) (b9 : ByteArray) (b1 : Int) (K1 : Kh) (R : Value → World → Prop) (w : World) : Prop :=
 brB (decide (b1 < (a0 : Int))) (
 ixA a1 a0 b1 1 fun q35 =>
 ldStr w q35 fun s36 =>
 Calls Tryz.prog 86 #[.string s36] w fun e w37 => ∃ s38 : ByteArray, e = .returned (.string s38) ∧ Keep [bm0] w w37 ∧
 catS b9 s38 fun s39 =>
 K1 (ref04_one_v1 bm0 s39 (IntKind.wrap .i64 (b1 + 1))) (ref04_one_m1 bm0 b2 a9 b3 b4 b5 b6 b7 b8 a6 a8 a7 b0 a3 a5 a4 a1 a0 a2) w37)
 (
 R (.string b9) w)
theorem ref04_one_L1_eq (bm0 : Nat) (b1 : Int) (a9 : ByteArray) (b2 b3 b4 b5 b6 b7 : Int) (a6 : Option Addr) (a8 a7 : Nat) (b0 a3 : ByteArray) (a5 : Int) (a4 : Bool) (a0 : Option Addr) (a2 a1 : Nat) (b8 : ByteArray) (b9 : Int) (K1 : Kh) (js : Nat → Value) (R : Value → World → Prop) (w : World) :
 headA ref04_one_la1 ((dnF Tryz.prog ref04_one_an (code Tryz.f132) 395 [0, 0, 1, 0, 1, 1, 1]) (kthen3 (atA ref04_one_la1 K1) (kont3 Tryz.prog ref04_one_an (code Tryz.f132) [1, 1, 1, 0, 1, 0] [] (post3 Tryz.prog Tryz.f132 [] R)))) (ref04_one_v1 bm0 b8 b9) js (ref04_one_m1 bm0 b1 a9 b2 b3 b4 b5 b6 b7 a6 a8 a7 b0 a3 a5 a4 a0 a2 a1) w = ref04_one_L1 bm0 b1 a9 b2 b3 b4 b5 b6 b7 a6 a8 a7 b0 a3 a5 a4 a0 a2 a1 b8 b9 K1 R w := by kernel_rfl
def ref04_one_K1 (bm0 : Nat) (b1 : Int) (a9 : ByteArray) (b2 b3 b4 b5 b6 b7 : Int) (a6 : Option Addr) (a8 a7 : Nat) (b0 a3 : ByteArray) (a5 : Int) (a4 : Bool) (a0 : Option Addr) (a2 a1 : Nat) (I : Nat → ByteArray → Int → World → Prop) (m : Nat) (vals : List Value) (mem : List TB) (w : World) : Prop := ∃ m', m' < m ∧ ∃ b8 b9, vals = (ref04_one_v1 bm0 b8 b9) ∧ mem = (ref04_one_m1 bm0 b1 a9 b2 b3 b4 b5 b6 b7 a6 a8 a7 b0 a3 a5 a4 a0 a2 a1) ∧ I m' b8 b9 w
theorem ref04_one_leaf1 {bm0 : Nat} {b1 : Int} {a9 : ByteArray} {b2 b3 b4 b5 b6 b7 : Int} {a6 : Option Addr} {a8 a7 : Nat} {b0 a3 : ByteArray} {a5 : Int} {a4 : Bool} {a0 : Option Addr} {a2 a1 : Nat} {I : Nat → ByteArray → Int → World → Prop} {m : Nat} {b8 : ByteArray} {b9 : Int} {w : World} (m' : Nat) (h1 : m' < m) (h2 : I m' b8 b9 w) : ref04_one_K1 bm0 b1 a9 b2 b3 b4 b5 b6 b7 a6 a8 a7 b0 a3 a5 a4 a0 a2 a1 I m (ref04_one_v1 bm0 b8 b9) (ref04_one_m1 bm0 b1 a9 b2 b3 b4 b5 b6 b7 a6 a8 a7 b0 a3 a5 a4 a0 a2 a1) w := ⟨m', h1, _, _, rfl, rfl, h2⟩
theorem ref04_one_rule1 {bm0 : Nat} {b1 : Int} {a9 : ByteArray} {b2 b3 b4 b5 b6 b7 : Int} {a6 : Option Addr} {a8 a7 : Nat} {b0 a3 : ByteArray} {a5 : Int} {a4 : Bool} {a0 : Option Addr} {a2 a1 : Nat} {c0 : ByteArray} {c1 : Int} {R : Value → World → Prop} {w0 : World} (I : Nat → ByteArray → Int → World → Prop) (m0 : Nat) (h0 : I m0 c0 c1 w0)
 (hr : ∀ (m : Nat) (b8 : ByteArray) (b9 : Int) (w : World), I m b8 b9 w → ref04_one_L1 bm0 b1 a9 b2 b3 b4 b5 b6 b7 a6 a8 a7 b0 a3 a5 a4 a0 a2 a1 b8 b9 (ref04_one_K1 bm0 b1 a9 b2 b3 b4 b5 b6 b7 a6 a8 a7 b0 a3 a5 a4 a0 a2 a1 I m) R w) :
 loopD3 ref04_one_la1 (dnF Tryz.prog ref04_one_an (code Tryz.f132) 395 [0, 0, 1, 0, 1, 1, 1]) (kont3 Tryz.prog ref04_one_an (code Tryz.f132) [1, 1, 1, 0, 1, 0] [] (post3 Tryz.prog Tryz.f132 [] R)) (ref04_one_v1 bm0 c0 c1) (ref04_one_m1 bm0 b1 a9 b2 b3 b4 b5 b6 b7 a6 a8 a7 b0 a3 a5 a4 a0 a2 a1) w0 := by
 refine ⟨fun m vals mem w => ∃ b8 b9, vals = (ref04_one_v1 bm0 b8 b9) ∧ mem = (ref04_one_m1 bm0 b1 a9 b2 b3 b4 b5 b6 b7 a6 a8 a7 b0 a3 a5 a4 a0 a2 a1) ∧ I m b8 b9 w, m0, ⟨_, _, rfl, rfl, h0⟩, ?_⟩
 rintro m vals mem w ⟨b8, b9, rfl, rfl, hI⟩
 refine ⟨rfl, rfl, fun js => ?_⟩
 have h := hr m b8 b9 w hI
 rw [← ref04_one_L1_eq _ _ _ _ _ _ _ _ _ _ _ _ _ _ _ _ _ _ _ _ _ _ js] at h
 exact h
def ref04_one_T (b9 : Int) (a3 : ByteArray) (a1 b3 b4 b5 b6 b7 : Int) (a4 : Option Addr) (a6 a5 : Nat) (b8 a7 : ByteArray) (a8 : Int) (a9 : Bool) (b0 : Option Addr) (a2 b2 : Nat) (a0 : Int) (R : Value → World → Prop) (w : World) : Prop :=
 ∀ b1, w.heap.size ≤ b1 →
 brB (a0 == 116) (
 ∀ w2, Adv [] [b1] w w2 →
 Calls Tryz.prog 86 #[.string a3] w2 fun e w3 => ∃ s4 : ByteArray, e = .returned (.string s4) ∧ Keep [b1] w2 w3 ∧
 R (.string s4) w3)
 (
 brB (a0 == 112) (
 ∀ w5, Adv [] [b1] w w5 →
 Calls Tryz.prog 86 #[.string a3] w5 fun e w6 => ∃ s7 : ByteArray, e = .returned (.string s7) ∧ Keep [b1] w5 w6 ∧ (((.int .i64 a1) : Value) = (.int .i64 a1)) ∧
 Calls Tryz.prog 131 #[.int .i64 a1] w6 fun e w8 => ∃ s9 : ByteArray, e = .returned (.string s9) ∧ Keep [b1] w6 w8 ∧
 catS s7 s9 fun s10 =>
 R (.string s10) w8)
 (
 brB (a0 == 110) (
 ∀ w11, Adv [] [b1] w w11 →
 Calls Tryz.prog 131 #[.int .i64 b3] w11 fun e w12 => ∃ s13 : ByteArray, e = .returned (.string s13) ∧ Keep [b1] w11 w12 ∧
 R (.string s13) w12)
 (
 brB (a0 == 111) (
 ∀ w14, Adv [] [b1] w w14 →
 Calls Tryz.prog 131 #[.int .i64 b4] w14 fun e w15 => ∃ s16 : ByteArray, e = .returned (.string s16) ∧ Keep [b1] w14 w15 ∧
 R (.string s16) w15)
 (
 brB (a0 == 98) (
 ∀ w17, Adv [] [b1] w w17 →
 Calls Tryz.prog 155 #[(.agg #[.int .i64 b5, .int .i64 b6, .int .i64 b7, .slice a4 a6 a5])] w17 fun e w18 => ∃ (s19 : ByteArray) (x20 : Int), e = .returned (.tuple #[.string s19, .int .i64 x20]) ∧ Keep [b1] w17 w18 ∧
 R (.string s19) w18)
 (
 brB (a0 == 103) (
 ∀ w21, Adv [] [b1] w w21 →
 Calls Tryz.prog 86 #[.string b8] w21 fun e w22 => ∃ s23 : ByteArray, e = .returned (.string s23) ∧ Keep [b1] w21 w22 ∧
 R (.string s23) w22)
 (
 brB (a0 == 109) (
 ∀ w24, Adv [] [b1] w w24 →
 Calls Tryz.prog 86 #[.string a7] w24 fun e w25 => ∃ s26 : ByteArray, e = .returned (.string s26) ∧ Keep [b1] w24 w25 ∧
 R (.string s26) w25)
 (
 brB (a0 == 101) (
 ∀ w27, Adv [] [b1] w w27 →
 Calls Tryz.prog 131 #[.int .i64 a8] w27 fun e w28 => ∃ s29 : ByteArray, e = .returned (.string s29) ∧ Keep [b1] w27 w28 ∧
 R (.string s29) w28)
 (
 brB (a0 == 114) (
 brB a9 (
 ∀ w30, Adv [] [b1] w w30 →
 R (.string (⟨#[1]⟩ : ByteArray)) w30)
 (
 ∀ w31, Adv [] [b1] w w31 →
 R (.string (⟨#[0]⟩ : ByteArray)) w31))
 (
 ∀ w32, Adv [] [b1] w w32 →
 Calls Tryz.prog 131 #[(.int .i64 (a2 : Int))] w32 fun e w33 => ∃ s34 : ByteArray, e = .returned (.string s34) ∧ Keep [b1] w32 w33 ∧
 loopD3 ref04_one_la1 (dnF Tryz.prog ref04_one_an (code Tryz.f132) 395 [0, 0, 1, 0, 1, 1, 1]) (kont3 Tryz.prog ref04_one_an (code Tryz.f132) [1, 1, 1, 0, 1, 0] [] (post3 Tryz.prog Tryz.f132 [] R)) (ref04_one_v1 b1 s34 0) (ref04_one_m1 b1 b9 a3 a1 b3 b4 b5 b6 b7 a4 a6 a5 b8 a7 a8 a9 b0 a2 b2) w33)))))))))
theorem ref04_one_eq (a9 : Int) (b0 : ByteArray) (b1 b2 b3 b4 b5 b6 : Int) (a3 : Option Addr) (a5 a4 : Nat) (b7 a6 : ByteArray) (a7 : Int) (a8 : Bool) (a0 : Option Addr) (a2 a1 : Nat) (b8 : Int) (R : Value → World → Prop) (w : World) :
 dnF Tryz.prog ref04_one_an (code Tryz.f132) 400 [] (post3 Tryz.prog Tryz.f132 [] R) ⟨args0 0 [(.agg #[.int .i64 a9, .string b0, .int .i64 b1, .int .i64 b2, .int .i64 b3, .int .i64 b4, .int .i64 b5, .int .i64 b6, .slice a3 a5 a4, .string b7, .string a6, .int .i64 a7, .bool a8, .slice a0 a2 a1]), .int .u8 b8], fun _ => undef⟩ ⟨[], w, [], [], true⟩ = ref04_one_T a9 b0 b1 b2 b3 b4 b5 b6 a3 a5 a4 b7 a6 a7 a8 a0 a2 a1 b8 R w := by kernel_rfl
theorem ref04_one_go {a9 : Int} {b0 : ByteArray} {b1 b2 b3 b4 b5 b6 : Int} {a3 : Option Addr} {a5 a4 : Nat} {b7 a6 : ByteArray} {a7 : Int} {a8 : Bool} {a0 : Option Addr} {a2 a1 : Nat} {b8 : Int} {R : Value → World → Prop} {w : World} (h : ref04_one_T a9 b0 b1 b2 b3 b4 b5 b6 a3 a5 a4 b7 a6 a7 a8 a0 a2 a1 b8 R w) :
 Calls Tryz.prog 132 #[(.agg #[.int .i64 a9, .string b0, .int .i64 b1, .int .i64 b2, .int .i64 b3, .int .i64 b4, .int .i64 b5, .int .i64 b6, .slice a3 a5 a4, .string b7, .string a6, .int .i64 a7, .bool a8, .slice a0 a2 a1]), .int .u8 b8] w fun e w' => ∃ v, e = .returned v ∧ R v w' :=
 calls_none Tryz.wide_mixed (f := 132) (args := [(.agg #[.int .i64 a9, .string b0, .int .i64 b1, .int .i64 b2, .int .i64 b3, .int .i64 b4, .int .i64 b5, .int .i64 b6, .slice a3 a5 a4, .string b7, .string a6, .int .i64 a7, .bool a8, .slice a0 a2 a1]), .int .u8 b8]) Tryz.func132 rfl rfl (by kernel_rfl) rfl (Eq.mpr (ref04_one_eq a9 b0 b1 b2 b3 b4 b5 b6 a3 a5 a4 b7 a6 a7 a8 a0 a2 a1 b8 R w) h)
def ref04_Put_la1 : LA := ⟨[0, 0, 1, 0, 1, 1, 1, 1], [1, 5, 6, 7], [(1, 0, 0)], 1, []⟩
def ref04_Put_an : List LA := [ref04_Put_la1]
def ref04_Put_v1 (a1 : ByteArray) (bm0 : Nat) (a0 : ByteArray) (a2 : Int) : List Value := [(.pointer (some ⟨bm0, 0, none⟩)), .string a0, .string a1, .int .i64 a2]
def ref04_Put_m1 (bm0 : Nat) (b1 : Int) (a9 : ByteArray) (b2 b3 b4 b5 b6 b7 : Int) (a6 : Option Addr) (a8 a7 : Nat) (b0 a3 : ByteArray) (a5 : Int) (a4 : Bool) (a0 : Option Addr) (a2 a1 : Nat) : List TB := [⟨bm0, 38, [.int .i64 b1, .string a9, .int .i64 b2, .int .i64 b3, .int .i64 b4, .int .i64 b5, .int .i64 b6, .int .i64 b7, .slice a6 a8 a7, .string b0, .string a3, .int .i64 a5, .bool a4, .slice a0 a2 a1], false⟩]
def ref04_Put_L1 (b8 : ByteArray) (bm0 : Nat) (b1 : Int) (a9 : ByteArray) (b2 b3 b4 b5 b6 b7 : Int) (a6 : Option Addr) (a8 a7 : Nat) (b0 a3 : ByteArray) (a5 : Int) (a4 : Bool) (a0 : Option Addr) (a2 a1 : Nat) (c0 : ByteArray) (b9 : Int) (K1 : Kh) (R : Value → World → Prop) (w : World) : Prop :=
 brB (decide (b9 < (b8.size : Int))) (
 ixS b8 b9 fun x10 =>
 ∀ w11, Adv [] [] w w11 →
 Calls Tryz.prog 132 #[(.agg #[.int .i64 b1, .string a9, .int .i64 b2, .int .i64 b3, .int .i64 b4, .int .i64 b5, .int .i64 b6, .int .i64 b7, .slice a6 a8 a7, .string b0, .string a3, .int .i64 a5, .bool a4, .slice a0 a2 a1]), .int .u8 x10] w11 fun e w12 => ∃ s13 : ByteArray, e = .returned (.string s13) ∧ Keep [bm0] w11 w12 ∧
 catS c0 s13 fun s14 =>
 K1 (ref04_Put_v1 b8 bm0 s14 (IntKind.wrap .i64 (b9 + 1))) (ref04_Put_m1 bm0 b1 a9 b2 b3 b4 b5 b6 b7 a6 a8 a7 b0 a3 a5 a4 a0 a2 a1) w12)
 (
 R (.tuple #[.string c0, .int .i64 0]) w)
theorem ref04_Put_L1_eq (b9 : ByteArray) (bm0 : Nat) (b1 : Int) (a9 : ByteArray) (b2 b3 b4 b5 b6 b7 : Int) (a6 : Option Addr) (a8 a7 : Nat) (b0 a3 : ByteArray) (a5 : Int) (a4 : Bool) (a0 : Option Addr) (a2 a1 : Nat) (b8 : ByteArray) (c0 : Int) (K1 : Kh) (js : Nat → Value) (R : Value → World → Prop) (w : World) :
 headA ref04_Put_la1 ((dnF Tryz.prog ref04_Put_an (code Tryz.f84) 394 [0, 0, 1, 0, 1, 1, 1, 1]) (kthen3 (atA ref04_Put_la1 K1) (kont3 Tryz.prog ref04_Put_an (code Tryz.f84) [1, 1, 1, 1, 0, 1, 0] [] (post3 Tryz.prog Tryz.f84 [] R)))) (ref04_Put_v1 b9 bm0 b8 c0) js (ref04_Put_m1 bm0 b1 a9 b2 b3 b4 b5 b6 b7 a6 a8 a7 b0 a3 a5 a4 a0 a2 a1) w = ref04_Put_L1 b9 bm0 b1 a9 b2 b3 b4 b5 b6 b7 a6 a8 a7 b0 a3 a5 a4 a0 a2 a1 b8 c0 K1 R w := by kernel_rfl
def ref04_Put_K1 (c0 : ByteArray) (bm0 : Nat) (b1 : Int) (a9 : ByteArray) (b2 b3 b4 b5 b6 b7 : Int) (a6 : Option Addr) (a8 a7 : Nat) (b0 a3 : ByteArray) (a5 : Int) (a4 : Bool) (a0 : Option Addr) (a2 a1 : Nat) (I : Nat → ByteArray → Int → World → Prop) (m : Nat) (vals : List Value) (mem : List TB) (w : World) : Prop := ∃ m', m' < m ∧ ∃ b8 b9, vals = (ref04_Put_v1 c0 bm0 b8 b9) ∧ mem = (ref04_Put_m1 bm0 b1 a9 b2 b3 b4 b5 b6 b7 a6 a8 a7 b0 a3 a5 a4 a0 a2 a1) ∧ I m' b8 b9 w
theorem ref04_Put_leaf1 {b9 : ByteArray} {bm0 : Nat} {b1 : Int} {a9 : ByteArray} {b2 b3 b4 b5 b6 b7 : Int} {a6 : Option Addr} {a8 a7 : Nat} {b0 a3 : ByteArray} {a5 : Int} {a4 : Bool} {a0 : Option Addr} {a2 a1 : Nat} {I : Nat → ByteArray → Int → World → Prop} {m : Nat} {b8 : ByteArray} {c0 : Int} {w : World} (m' : Nat) (h1 : m' < m) (h2 : I m' b8 c0 w) : ref04_Put_K1 b9 bm0 b1 a9 b2 b3 b4 b5 b6 b7 a6 a8 a7 b0 a3 a5 a4 a0 a2 a1 I m (ref04_Put_v1 b9 bm0 b8 c0) (ref04_Put_m1 bm0 b1 a9 b2 b3 b4 b5 b6 b7 a6 a8 a7 b0 a3 a5 a4 a0 a2 a1) w := ⟨m', h1, _, _, rfl, rfl, h2⟩
theorem ref04_Put_rule1 {c0 : ByteArray} {bm0 : Nat} {b1 : Int} {a9 : ByteArray} {b2 b3 b4 b5 b6 b7 : Int} {a6 : Option Addr} {a8 a7 : Nat} {b0 a3 : ByteArray} {a5 : Int} {a4 : Bool} {a0 : Option Addr} {a2 a1 : Nat} {c1 : ByteArray} {c2 : Int} {R : Value → World → Prop} {w0 : World} (I : Nat → ByteArray → Int → World → Prop) (m0 : Nat) (h0 : I m0 c1 c2 w0)
 (hr : ∀ (m : Nat) (b8 : ByteArray) (b9 : Int) (w : World), I m b8 b9 w → ref04_Put_L1 c0 bm0 b1 a9 b2 b3 b4 b5 b6 b7 a6 a8 a7 b0 a3 a5 a4 a0 a2 a1 b8 b9 (ref04_Put_K1 c0 bm0 b1 a9 b2 b3 b4 b5 b6 b7 a6 a8 a7 b0 a3 a5 a4 a0 a2 a1 I m) R w) :
 loopD3 ref04_Put_la1 (dnF Tryz.prog ref04_Put_an (code Tryz.f84) 394 [0, 0, 1, 0, 1, 1, 1, 1]) (kont3 Tryz.prog ref04_Put_an (code Tryz.f84) [1, 1, 1, 1, 0, 1, 0] [] (post3 Tryz.prog Tryz.f84 [] R)) (ref04_Put_v1 c0 bm0 c1 c2) (ref04_Put_m1 bm0 b1 a9 b2 b3 b4 b5 b6 b7 a6 a8 a7 b0 a3 a5 a4 a0 a2 a1) w0 := by
 refine ⟨fun m vals mem w => ∃ b8 b9, vals = (ref04_Put_v1 c0 bm0 b8 b9) ∧ mem = (ref04_Put_m1 bm0 b1 a9 b2 b3 b4 b5 b6 b7 a6 a8 a7 b0 a3 a5 a4 a0 a2 a1) ∧ I m b8 b9 w, m0, ⟨_, _, rfl, rfl, h0⟩, ?_⟩
 rintro m vals mem w ⟨b8, b9, rfl, rfl, hI⟩
 refine ⟨rfl, rfl, fun js => ?_⟩
 have h := hr m b8 b9 w hI
 rw [← ref04_Put_L1_eq _ _ _ _ _ _ _ _ _ _ _ _ _ _ _ _ _ _ _ _ _ _ _ js] at h
 exact h
def ref04_Put_T (a0 : Int) (b0 : ByteArray) (b2 b3 b4 b5 b6 b7 : Int) (a4 : Option Addr) (a6 a5 : Nat) (b8 a7 : ByteArray) (a8 : Int) (a9 : Bool) (a1 : Option Addr) (a3 a2 : Nat) (R : Value → World → Prop) (w : World) : Prop :=
 ∀ b1, w.heap.size ≤ b1 →
 ∀ w2, Adv [] [b1] w w2 →
 Calls Tryz.prog 63 #[(.agg #[.int .i64 a0, .string b0, .int .i64 b2, .int .i64 b3, .int .i64 b4, .int .i64 b5, .int .i64 b6, .int .i64 b7, .slice a4 a6 a5, .string b8, .string a7, .int .i64 a8, .bool a9, .slice a1 a3 a2])] w2 fun e w3 => ∃ x4 : Int, e = .returned (.int .i64 x4) ∧ Keep [b1] w2 w3 ∧
 brB (x4 != 0) (
 R (.tuple #[(.string (⟨#[]⟩ : ByteArray)), .int .i64 x4]) w3)
 (
 ∀ w5, Adv [] [] w3 w5 →
 Calls Tryz.prog 131 #[.int .i64 a0] w5 fun e w6 => ∃ s7 : ByteArray, e = .returned (.string s7) ∧ Keep [b1] w5 w6 ∧ (((.int .i64 a0) : Value) = (.int .i64 a0)) ∧
 Calls Tryz.prog 105 #[.int .i64 a0] w6 fun e w8 => ∃ s9 : ByteArray, e = .returned (.string s9) ∧ Keep [b1] w6 w8 ∧
 loopD3 ref04_Put_la1 (dnF Tryz.prog ref04_Put_an (code Tryz.f84) 394 [0, 0, 1, 0, 1, 1, 1, 1]) (kont3 Tryz.prog ref04_Put_an (code Tryz.f84) [1, 1, 1, 1, 0, 1, 0] [] (post3 Tryz.prog Tryz.f84 [] R)) (ref04_Put_v1 s9 b1 s7 0) (ref04_Put_m1 b1 a0 b0 b2 b3 b4 b5 b6 b7 a4 a6 a5 b8 a7 a8 a9 a1 a3 a2) w8)
theorem ref04_Put_eq (a9 : Int) (b0 : ByteArray) (b1 b2 b3 b4 b5 b6 : Int) (a3 : Option Addr) (a5 a4 : Nat) (b7 a6 : ByteArray) (a7 : Int) (a8 : Bool) (a0 : Option Addr) (a2 a1 : Nat) (R : Value → World → Prop) (w : World) :
 dnF Tryz.prog ref04_Put_an (code Tryz.f84) 400 [] (post3 Tryz.prog Tryz.f84 [] R) ⟨args0 0 [(.agg #[.int .i64 a9, .string b0, .int .i64 b1, .int .i64 b2, .int .i64 b3, .int .i64 b4, .int .i64 b5, .int .i64 b6, .slice a3 a5 a4, .string b7, .string a6, .int .i64 a7, .bool a8, .slice a0 a2 a1])], fun _ => undef⟩ ⟨[], w, [], [], true⟩ = ref04_Put_T a9 b0 b1 b2 b3 b4 b5 b6 a3 a5 a4 b7 a6 a7 a8 a0 a2 a1 R w := by kernel_rfl
theorem ref04_Put_go {a9 : Int} {b0 : ByteArray} {b1 b2 b3 b4 b5 b6 : Int} {a3 : Option Addr} {a5 a4 : Nat} {b7 a6 : ByteArray} {a7 : Int} {a8 : Bool} {a0 : Option Addr} {a2 a1 : Nat} {R : Value → World → Prop} {w : World} (h : ref04_Put_T a9 b0 b1 b2 b3 b4 b5 b6 a3 a5 a4 b7 a6 a7 a8 a0 a2 a1 R w) :
 Calls Tryz.prog 84 #[(.agg #[.int .i64 a9, .string b0, .int .i64 b1, .int .i64 b2, .int .i64 b3, .int .i64 b4, .int .i64 b5, .int .i64 b6, .slice a3 a5 a4, .string b7, .string a6, .int .i64 a7, .bool a8, .slice a0 a2 a1])] w fun e w' => ∃ v, e = .returned v ∧ R v w' :=
 calls_none Tryz.wide_mixed (f := 84) (args := [(.agg #[.int .i64 a9, .string b0, .int .i64 b1, .int .i64 b2, .int .i64 b3, .int .i64 b4, .int .i64 b5, .int .i64 b6, .slice a3 a5 a4, .string b7, .string a6, .int .i64 a7, .bool a8, .slice a0 a2 a1])]) Tryz.func84 rfl rfl (by kernel_rfl) rfl (Eq.mpr (ref04_Put_eq a9 b0 b1 b2 b3 b4 b5 b6 a3 a5 a4 b7 a6 a7 a8 a0 a2 a1 R w) h)

end Go.Proofs.YtohgihgddknmmaaGreat

/- The reference's bytes: numbers, texts, sums, frames. -/
namespace Go.Proofs.YtohgihgddknmmaaGreat
open Go Go.RowKit Go.Shelf
set_option linter.unusedVariables false
set_option linter.unusedSimpArgs false

theorem oneB_conv (k : UInt8) (W : World) (a : Nat) (h : W.heap[a]? = some (.cells #[.int .u8 (k.toNat : Nat)] 5)) :
    Sem.run Tryz.prog (Go.convert 122 9 (.slice (some ⟨a, 0, none⟩) 1 1)) W = .ok (.string (bs [k])) W := by
  refine run_convert_bytes_back W _ _ 5 ⟨a, 0, none⟩ 1 [k] Tryz.underlying122 Tryz.underlying5 Tryz.underlying9 fun j hj => ?_
  rw [addr_add, Nat.zero_add, cell_at h]
  have hj : j = 0 := by simpa using hj
  subst hj
  rfl
def hb7 (n : Nat) : UInt8 := UInt8.ofNat (n % 128 + 128)
theorem r1byte (n : Nat) : IntKind.wrap .u8 (IntKind.wrap .u64 (Int.tmod (n : Int) 128 + 128)) = (((hb7 n).toNat : Nat) : Int) := by
  rw [Int.tmod_eq_emod_of_nonneg (by omega), IntKind.wrap_u64, IntKind.wrap_u8]; simp [hb7]
theorem r1cell (n : Nat) (W : World) : (W.alloc (.cells #[.int .u8 (IntKind.wrap .u8 (IntKind.wrap .u64 (Int.tmod (n : Int) 128 + 128)))] 5)).heap[W.heap.size]? = some (.cells #[.int .u8 (((hb7 n).toNat : Nat) : Int)] 5) := by
  rw [r1byte]; exact World.alloc_heap_new W _
theorem r1cell0 (n : Nat) (W : World) : (W.alloc (.cells #[.int .u8 (IntKind.wrap .u8 (IntKind.wrap .u64 (Int.tmod (n : Int) 128 + 128)))] 5)).drew.heap[W.heap.size]? = some (.cells #[.int .u8 (((hb7 n).toNat : Nat) : Int)] 5) := r1cell n W
theorem r1mod (n : Nat) (W : World) : Mod [] W (W.alloc (.cells #[.int .u8 (IntKind.wrap .u8 (IntKind.wrap .u64 (Int.tmod (n : Int) 128 + 128)))] 5)) := Mod.of_below ((Below.refl _ _).alloc (Nat.le_refl _) _)
theorem r1div (n : Nat) (hn : n < 18446744073709551616) : IntKind.wrap .u64 ((n : Int) / 128) = ((n / 128 : Nat) : Int) := by rw [IntKind.wrap_u64]; omega
set_option maxRecDepth 100000 in
set_option maxHeartbeats 4000000 in
theorem R1Put_big (n : Nat) (hn : n < 18446744073709551616) (hb : 128 ≤ n) (ih : ∀ w, Calls Tryz.prog 83 #[.int .u64 (n / 128 : Nat)] w fun e w' => e = .returned (.string (bs (vPutL (n / 128)))) ∧ Mod [] w w') (w : World) :
    Calls Tryz.prog 83 #[.int .u64 (n : Nat)] w fun e w' => e = .returned (.string (bs ([hb7 n] ++ vPutL (n / 128)))) ∧ Mod [] w w' := by
  have mixed := Tryz.wide_mixed
  have hd : decide ((n : Int) < 128) = false := by simp; omega
  go_enter Tryz.func83, Tryz.ntmps83
  go_wp2
  have hcat : ¬ (bs [hb7 n]).size + (bs (vPutL (n / 128))).size > 9223372036854775807 := by
    rw [bs_size, bs_size]; have := (vPutL_len (n / 128) (by omega)).2; simp; omega
  go_region_with (first
    | (go_at_call 83; rw [r1div n hn]; refine (ih _).mono ?_; rintro e w' ⟨rfl, M⟩)
    | (rw [oneB_conv _ _ _ (r1cell0 n _)]; simp only [Result.andThen]; rw [Oper.upon_value])
    | (rw [oneB_conv _ _ _ (r1cell n _)]; simp only [Result.andThen]; rw [Oper.upon_value])
    | (rw [oneB_conv _ _ _ (M.keep0 (r1cell0 n _))]; simp only [Result.andThen]; rw [Oper.upon_value])
    | (rw [oneB_conv _ _ _ (M.keep0 (r1cell n _))]; simp only [Result.andThen]; rw [Oper.upon_value]))
  all_goals go_wp2
  all_goals go_ret
  · exact ⟨by rw [bs_app]; rfl, (r1mod n w).trans ((Mod.drewN _ 1).trans M)⟩
  · exact ⟨by rw [bs_app]; rfl, (r1mod n w).trans ((Mod.drewN _ 1).trans M)⟩
  · exact ⟨by rw [bs_app]; rfl, (Mod.drewN _ 1).trans (M.trans (r1mod n _))⟩
theorem R1Put_ok : ∀ (k n : Nat), n < 128 ^ (k + 1) → n < 18446744073709551616 → ∀ w, Calls Tryz.prog 83 #[.int .u64 (n : Nat)] w fun e w' => e = .returned (.string (bs (vPutL n))) ∧ Mod [] w w'
  | k, n, hk, hn, w => by
    by_cases hb : n < 128
    · refine go_of (ref01_Put_go ?_)
      rw [ref01_Put_T, decide_eq_true (by omega), brB_true]
      refine al_of fun b1 w1 c1 M1 f1 => ?_
      have e8 : IntKind.wrap .u8 (n : Int) = ((UInt8.ofNat n).toNat : Nat) := by rw [IntKind.wrap_u8]; simp
      rw [e8] at c1
      refine ⟨_, _, oneB_conv _ _ _ c1, ?_, M1⟩
      unfold vPutL
      rw [sevL_small hb]; rfl
    · cases k with
      | zero => omega
      | succ k =>
        have e : vPutL n = [hb7 n] ++ vPutL (n / 128) := by
          unfold vPutL; rw [sevL_big hb]; rfl
        rw [e]
        exact R1Put_big n hn (by omega) (R1Put_ok k (n / 128) (by rw [Nat.pow_succ] at hk; omega) (by omega)) w
theorem R1PutN_ok {n : Nat} (hn : n < 18446744073709551616) (w : World) : Calls Tryz.prog 83 #[.int .u64 (n : Nat)] w fun e w' => e = .returned (.string (bs (vPutL n))) ∧ Mod [] w w' :=
  R1Put_ok 9 n (by omega) hn w
theorem R1Text_ok (s : ByteArray) (hs : s.size ≤ 1000000000000) (w : World) : Calls Tryz.prog 86 #[.string s] w fun e w' => e = .returned (.string (bs (putT s))) ∧ Mod [] w w' := by
  refine go_of (ref01_Text_go ?_)
  unfold ref01_Text_T
  rw [wrapU (by omega)]
  refine (R1PutN_ok (by omega) w).mono ?_
  rintro e w1 ⟨rfl, M1⟩
  refine ⟨_, rfl, by have := (vPutL_len s.size (by omega)).2; rw [bs_size]; omega, by rw [bs_append]; rfl, M1⟩

end Go.Proofs.YtohgihgddknmmaaGreat

/- The reference's sums. -/
namespace Go.Proofs.YtohgihgddknmmaaGreat
open Go Go.RowKit
set_option linter.unusedVariables false
set_option linter.unusedSimpArgs false

/-! ### bits -/
theorem xor_div2 (a b k : Nat) : (a ^^^ b) / 2 ^ k = (a / 2 ^ k) ^^^ (b / 2 ^ k) := by
  rw [← Nat.shiftRight_eq_div_pow, ← Nat.shiftRight_eq_div_pow, ← Nat.shiftRight_eq_div_pow, Nat.shiftRight_xor_distrib]
theorem xor_half (a b : Nat) : (a ^^^ b) / 2 = (a / 2) ^^^ (b / 2) := xor_div2 a b 1
theorem xor_mod2 (a b : Nat) : (a ^^^ b) % 2 = (a + b) % 2 := by
  have h := @Nat.xor_mod_two_eq_one a b
  omega
theorem xor32 {a b : Nat} (ha : a < 4294967296) (hb : b < 4294967296) : a ^^^ b < 4294967296 := Nat.xor_lt_two_pow (n := 32) ha hb
theorem bXor32 {a b : Nat} (ha : a < 4294967296) (hb : b < 4294967296) : bXor .u32 a b = ((a ^^^ b : Nat) : Int) := by
  have h := xor32 ha hb
  unfold bXor
  rw [IntKind.wrap_u32]
  simp only [BitVec.toNat_xor, BitVec.toNat_ofInt]
  have e1 : ((a : Int) % ((2 ^ IntKind.bits .u32 : Nat) : Int)).toNat = a := by
    show ((a : Int) % ((2 ^ 32 : Nat) : Int)).toNat = a
    omega
  have e2 : ((b : Int) % ((2 ^ IntKind.bits .u32 : Nat) : Int)).toNat = b := by
    show ((b : Int) % ((2 ^ 32 : Nat) : Int)).toNat = b
    omega
  rw [e1, e2]
  omega
theorem bAnd32 {a b : Nat} (ha : a < 4294967296) (hb : b < 4294967296) : bAnd .u32 a b = ((a &&& b : Nat) : Int) := by
  have h : a &&& b < 4294967296 := Nat.lt_of_le_of_lt Nat.and_le_left ha
  unfold bAnd
  rw [IntKind.wrap_u32]
  simp only [BitVec.toNat_and, BitVec.toNat_ofInt]
  have e1 : ((a : Int) % ((2 ^ IntKind.bits .u32 : Nat) : Int)).toNat = a := by
    show ((a : Int) % ((2 ^ 32 : Nat) : Int)).toNat = a
    omega
  have e2 : ((b : Int) % ((2 ^ IntKind.bits .u32 : Nat) : Int)).toNat = b := by
    show ((b : Int) % ((2 ^ 32 : Nat) : Int)).toNat = b
    omega
  rw [e1, e2]
  omega
theorem Turn_ok {a b : Nat} (ha : a < 4294967296) (hb : b < 4294967296) (w : World) :
    Calls Tryz.prog 166 #[.int .u32 (a : Nat), .int .u32 (b : Nat)] w fun e w' => e = .returned (.int .u32 ((a ^^^ b : Nat) : Int)) ∧ w' = w := by
  refine go_of (ref02_Turn_go ?_)
  refine ref02_Turn_rule1 (fun mm x0 x1 x5 x6 x7 w' => ∃ k : Nat, k ≤ 32 ∧ x7 = k ∧ x0 = (a / 2 ^ k : Nat) ∧ x1 = (b / 2 ^ k : Nat) ∧ x5 = ((a ^^^ b) % 2 ^ k : Nat) ∧ x6 = (if k = 32 then 0 else 2 ^ k : Nat) ∧ w' = w ∧ mm = 32 - k) 32
    ⟨0, by omega, rfl, by simp, by simp, by simp [Nat.mod_one], by simp, rfl, rfl⟩ ?_
  rintro mm x0 x1 x5 x6 x7 w' ⟨k, hk, rfl, rfl, rfl, rfl, rfl, rfl, rfl⟩
  refine brB_dec (fun hlt => ?_) fun hge => ?_
  · have hk' : k < 32 := by omega
    rw [if_neg (by omega)]
    have hp : 2 ^ k ≤ 2 ^ 31 := Nat.pow_le_pow_right (by omega) (by omega)
    have hx := xor32 ha hb
    have a1 : a / 2 ^ k ≤ a := Nat.div_le_self _ _
    have b1 : b / 2 ^ k ≤ b := Nat.div_le_self _ _
    have dx := xor_div2 a b k
    have dm := xor_mod2 (a / 2 ^ k) (b / 2 ^ k)
    rw [← dx] at dm
    have ms : (a ^^^ b) % 2 ^ (k + 1) = (a ^^^ b) % 2 ^ k + 2 ^ k * ((a ^^^ b) / 2 ^ k % 2) := Nat.mod_pow_succ
    have lt1 : (a ^^^ b) % 2 ^ k < 2 ^ k := Nat.mod_lt _ (Nat.pow_pos (by omega))
    have da : a / 2 ^ (k + 1) = a / 2 ^ k / 2 := by rw [Nat.pow_succ, Nat.div_div_eq_div_mul]
    have db : b / 2 ^ (k + 1) = b / 2 ^ k / 2 := by rw [Nat.pow_succ, Nat.div_div_eq_div_mul]
    have p31 : k = 31 → 2 ^ k = 2147483648 := fun h => by subst h; rfl
    have ps : 2 ^ (k + 1) = 2 * 2 ^ k := by rw [Nat.pow_succ]; omega
    have p30 : k ≠ 31 → 2 ^ k ≤ 1073741824 := fun h => Nat.pow_le_pow_right (n := 2) (by omega) (show k ≤ 30 by omega)
    generalize hP : 2 ^ k = P at *
    generalize a / P = A at *
    generalize b / P = B at *
    generalize (a ^^^ b) / P = X at *
    generalize (a ^^^ b) % P = Y at *
    have ek : IntKind.wrap .i64 ((k : Int) + 1) = ((k + 1 : Nat) : Int) := by rw [wrap_id (by omega) (by omega)]; omega
    have eA : IntKind.wrap .u32 (Int.tdiv (A : Int) 2) = ((A / 2 : Nat) : Int) := by rw [Int.tdiv_eq_ediv_of_nonneg (by omega), IntKind.wrap_u32]; omega
    have eB : IntKind.wrap .u32 (Int.tdiv (B : Int) 2) = ((B / 2 : Nat) : Int) := by rw [Int.tdiv_eq_ediv_of_nonneg (by omega), IntKind.wrap_u32]; omega
    have eP : IntKind.wrap .u32 ((P : Int) * 2) = ((if k + 1 = 32 then 0 else 2 ^ (k + 1) : Nat) : Int) := by
      rw [IntKind.wrap_u32]
      by_cases h : k = 31
      · rw [if_pos (by omega)]; have := p31 h; omega
      · rw [if_neg (by omega)]; have := p30 h; omega
    have eT : ((Int.tmod (A : Int) 2) != (Int.tmod (B : Int) 2)) = decide (X % 2 = 1) := by
      rw [Int.tmod_eq_emod_of_nonneg (by omega), Int.tmod_eq_emod_of_nonneg (by omega), Bool.eq_iff_iff]
      simp
      omega
    refine ⟨by omega, by omega, ?_⟩
    rw [eT, eA, eB, eP, ek]
    refine brB_dec (fun hX => ⟨by omega, by omega, ?_⟩) fun hX => ⟨by omega, by omega, ?_⟩
    · have e5 : IntKind.wrap .u32 ((Y : Int) + (P : Int)) = (((a ^^^ b) % 2 ^ (k + 1) : Nat) : Int) := by
        rw [ms, hX, IntKind.wrap_u32]; omega
      rw [e5]
      exact ref02_Turn_leaf1 (32 - (k + 1)) (by omega) ⟨k + 1, by omega, rfl, by rw [da], by rw [db], rfl, rfl, rfl, rfl⟩
    · have e5 : (Y : Int) = (((a ^^^ b) % 2 ^ (k + 1) : Nat) : Int) := by
        have : X % 2 = 0 := by omega
        rw [ms, this]; omega
      rw [e5]
      exact ref02_Turn_leaf1 (32 - (k + 1)) (by omega) ⟨k + 1, by omega, rfl, by rw [da], by rw [db], rfl, rfl, rfl, rfl⟩
  · have hk : k = 32 := by omega
    subst hk
    refine ⟨?_, rfl⟩
    rw [Nat.mod_eq_of_lt (by have := xor32 ha hb; omega)]
/-! ### a step of a sum -/
def stN (x : Nat) : Nat := if x % 2 = 1 then (x / 2) ^^^ 3988292384 else x / 2
def itN (x : Nat) : Nat → Nat
  | 0 => x
  | k + 1 => stN (itN x k)
theorem stN_lt {x : Nat} (h : x < 4294967296) : stN x < 4294967296 := by
  unfold stN
  split
  · exact xor32 (by omega) (by omega)
  · omega
theorem itN_lt {x : Nat} (h : x < 4294967296) : ∀ k, itN x k < 4294967296
  | 0 => h
  | k + 1 => stN_lt (itN_lt h k)
theorem stN_xor (x y : Nat) : stN (x ^^^ y) = stN x ^^^ stN y := by
  have hp := xor_mod2 x y
  have hh := xor_half x y
  unfold stN
  by_cases h1 : x % 2 = 1 <;> by_cases h2 : y % 2 = 1
  · rw [if_neg (by omega), if_pos h1, if_pos h2, hh, Nat.xor_assoc, Nat.xor_comm 3988292384, Nat.xor_assoc, Nat.xor_self, Nat.xor_zero]
  · rw [if_pos (by omega), if_pos h1, if_neg h2, hh, Nat.xor_assoc, Nat.xor_assoc, Nat.xor_comm 3988292384]
  · rw [if_pos (by omega), if_neg h1, if_pos h2, hh, Nat.xor_assoc]
  · rw [if_neg (by omega), if_neg h1, if_neg h2, hh]
theorem itN_xor (x y : Nat) : ∀ k, itN (x ^^^ y) k = itN x k ^^^ itN y k
  | 0 => rfl
  | k + 1 => by show stN _ = stN _ ^^^ stN _; rw [itN_xor x y k, stN_xor]
theorem itN_add (x j : Nat) : ∀ k, itN x (j + k) = itN (itN x j) k
  | 0 => rfl
  | k + 1 => congrArg stN (itN_add x j k)
theorem stN_two (y : Nat) : stN (2 * y) = y := by unfold stN; rw [if_neg (by omega)]; omega
theorem itN_16 (h : Nat) : itN (16 * h) 4 = h := by
  show stN (stN (stN (stN (16 * h)))) = h
  rw [show 16 * h = 2 * (8 * h) by omega, stN_two, show 8 * h = 2 * (4 * h) by omega, stN_two, show 4 * h = 2 * (2 * h) by omega, stN_two, stN_two]
theorem nib (x : Nat) : x = (16 * (x / 16)) ^^^ (x % 16) := by
  apply Nat.eq_of_testBit_eq
  intro i
  rw [Nat.testBit_xor, show 16 * (x / 16) = 2 ^ 4 * (x / 2 ^ 4) by omega, show x % 16 = x % 2 ^ 4 by omega, Nat.testBit_two_pow_mul, Nat.testBit_mod_two_pow, Nat.testBit_div_two_pow]
  by_cases h : i < 4
  · simp [h, show ¬ 4 ≤ i by omega]
  · simp [h, show 4 ≤ i by omega]
theorem itN_nib (x : Nat) : itN x 4 = (x / 16) ^^^ itN (x % 16) 4 := by
  have h := itN_xor (16 * (x / 16)) (x % 16) 4
  rw [← nib, itN_16] at h
  exact h
theorem rowStep_N {x : Nat} (h : x < 4294967296) : rowStep (x : Nat) = ((stN x : Nat) : Int) := by
  have e1 : Int.fdiv (x : Int) (2 ^ (min (Int.toNat 1) 32)) = ((x / 2 : Nat) : Int) := by
    rw [Int.fdiv_eq_ediv_of_nonneg _ (by decide)]; show (x : Int) / 2 = _; omega
  have e2 : bAnd .u32 (x : Nat) 1 = ((x % 2 : Nat) : Int) := by
    have := bAnd32 h (b := 1) (by omega)
    rw [Nat.and_one_is_mod] at this; exact this
  unfold rowStep stN
  rw [e1, e2]
  by_cases hx : x % 2 = 1
  · rw [if_pos hx, hx]
    have e3 : bAnd .u32 3988292384 (IntKind.wrap .u32 (0 - ((1 : Nat) : Int))) = ((3988292384 : Nat) : Int) := by decide +kernel
    rw [e3, bXor32 (by omega) (by omega)]
  · rw [if_neg hx, show x % 2 = 0 by omega]
    have e3 : bAnd .u32 3988292384 (IntKind.wrap .u32 (0 - ((0 : Nat) : Int))) = ((0 : Nat) : Int) := by decide +kernel
    rw [e3, bXor32 (by omega) (by omega), Nat.xor_zero]
theorem rowIt_N {x : Nat} (h : x < 4294967296) : ∀ k, rowIt (x : Nat) k = ((itN x k : Nat) : Int)
  | 0 => rfl
  | k + 1 => by show rowStep (rowIt _ k) = _; rw [rowIt_N h k, rowStep_N (itN_lt h k)]; rfl
theorem rowC_N {j : Nat} (h : j < 4294967296) : rowC j = ((itN j 4 : Nat) : Int) := by
  unfold rowC
  rw [show IntKind.wrap .u32 (j : Int) = (j : Nat) by rw [IntKind.wrap_u32]; omega]
  exact rowIt_N h 4
def byN (c : Nat) (b : UInt8) : Nat := itN (c ^^^ b.toNat) 8
theorem u8lt (b : UInt8) : b.toNat < 256 := b.toNat_lt
theorem byN_lt {c : Nat} (h : c < 4294967296) (b : UInt8) : byN c b < 4294967296 := itN_lt (xor32 h (by have := u8lt b; omega)) 8
theorem crcStep_N {c : Nat} (h : c < 4294967296) (b : UInt8) : crcStep (c : Nat) b = ((byN c b : Nat) : Int) := by
  have hb := u8lt b
  have ew : IntKind.wrap .u32 ((b.toNat : Nat) : Int) = ((b.toNat : Nat) : Int) := by rw [IntKind.wrap_u32]; omega
  have half : ∀ {x : Nat}, x < 4294967296 → bXor .u32 (Int.fdiv (x : Nat) (2 ^ (min (Int.toNat 4) 32))) (rowC (Int.tmod ((x : Nat) : Int) 16).toNat) = ((itN x 4 : Nat) : Int) := fun {x} hx => by
    have e1 : Int.fdiv (x : Int) (2 ^ (min (Int.toNat 4) 32)) = ((x / 16 : Nat) : Int) := by
      rw [Int.fdiv_eq_ediv_of_nonneg _ (by decide)]; show (x : Int) / 16 = _; omega
    have e2 : (Int.tmod ((x : Nat) : Int) 16).toNat = x % 16 := by rw [Int.tmod_eq_emod_of_nonneg (by omega)]; omega
    rw [e1, e2, rowC_N (by omega), bXor32 (by omega) (itN_lt (by omega) 4), itN_nib x]
  have hx := xor32 h (b := b.toNat) (by omega)
  unfold crcStep byN
  rw [ew, bXor32 h (by omega), half hx, half (itN_lt hx 4), ← itN_add]
def crcF (c : Nat) (l : List UInt8) : Nat := l.foldl byN c
theorem crcF_lt : ∀ (l : List UInt8) {c : Nat}, c < 4294967296 → crcF c l < 4294967296
  | [], c, h => h
  | b :: l, c, h => crcF_lt l (byN_lt h b)
theorem crcF_N : ∀ (l : List UInt8) {c : Nat}, c < 4294967296 → l.foldl crcStep (c : Nat) = ((crcF c l : Nat) : Int)
  | [], c, h => rfl
  | b :: l, c, h => by
    show l.foldl crcStep (crcStep (c : Nat) b) = _
    rw [crcStep_N h, crcF_N l (byN_lt h b)]; rfl
theorem not32 {c : Nat} (h : c < 4294967296) : 4294967295 ^^^ c = 4294967295 - c := by
  have e := congrArg BitVec.toNat (BitVec.xor_allOnes (x := BitVec.ofNat 32 c))
  rw [BitVec.toNat_not, BitVec.toNat_xor, BitVec.toNat_allOnes, BitVec.toNat_ofNat, Nat.mod_eq_of_lt (by omega), Nat.xor_comm] at e
  exact e
theorem not32I {c : Nat} (h : c < 4294967296) : bXor .u32 4294967295 (c : Nat) = ((4294967295 - c : Nat) : Int) := by
  have := bXor32 (a := 4294967295) (b := c) (by omega) h
  rw [not32 h] at this; exact this
theorem crcM_N {c : Nat} (h : c < 4294967296) (l : List UInt8) : crcM (c : Nat) l = ((4294967295 - crcF (4294967295 - c) l : Nat) : Int) := by
  unfold crcM
  rw [not32I h, crcF_N l (by omega), not32I (crcF_lt l (by omega))]
def crcU (l : List UInt8) : Nat := 4294967295 - crcF 4294967295 l
theorem crcN_U (l : List UInt8) : crcN l = ((crcU l : Nat) : Int) := crcM_N (c := 0) (by omega) l
theorem crcU_lt (l : List UInt8) : crcU l < 4294967296 := by unfold crcU; omega
theorem RMore_ok {c : Nat} (hc : c < 4294967296) (s : ByteArray) (hs : s.size ≤ 1000000000000) (w : World) : Calls Tryz.prog 156 #[.int .u32 (c : Nat), .string s] w fun e w' => e = .returned (.int .u32 (crcM (c : Nat) s.data.toList)) ∧ Mod [] w w' := by
  refine go_of (ref02_More_go ?_)
  rw [crcM_N hc]
  have e0 : IntKind.wrap .u32 (4294967295 - (c : Int)) = ((4294967295 - c : Nat) : Int) := by rw [IntKind.wrap_u32]; omega
  unfold ref02_More_T
  rw [e0]
  refine ref02_More_rule1 (fun mm x y w' => ∃ k : Nat, y = k ∧ k ≤ s.size ∧ x = (crcF (4294967295 - c) (s.data.toList.take k) : Nat) ∧ w' = w ∧ mm = s.size - k) s.size ⟨0, rfl, by omega, rfl, rfl, rfl⟩ ?_
  rintro mm x y w3 ⟨k, rfl, hk, rfl, rfl, rfl⟩
  have hlt1 := crcF_lt (s.data.toList.take k) (c := 4294967295 - c) (by omega)
  refine brB_dec (fun hlt => ?_) fun hge => ?_
  · have hk' : k < s.size := by omega
    obtain ⟨b, hb, hv⟩ := byteAt_mem hk'
    have hb8 := u8lt b
    refine ⟨by omega, by omega, ?_⟩
    rw [Int.toNat_natCast, hv]
    dsimp only
    rw [show IntKind.wrap .u32 ((b.toNat : Nat) : Int) = ((b.toNat : Nat) : Int) by rw [IntKind.wrap_u32]; omega]
    refine (Turn_ok hlt1 (by omega) w3).mono ?_
    rintro e w4 ⟨rfl, rfl⟩
    refine ⟨_, rfl, ?_⟩
    have hx := xor32 hlt1 (b := b.toNat) (by omega)
    refine ref02_More_rule2 (fun mm x y w' => ∃ j : Nat, y = j ∧ j ≤ 8 ∧ x = (itN (crcF (4294967295 - c) (s.data.toList.take k) ^^^ b.toNat) j : Nat) ∧ w' = w4 ∧ mm = 8 - j) 8 ⟨0, rfl, by omega, rfl, rfl, rfl⟩ ?_
    rintro mm x y w5 ⟨j, rfl, hj, rfl, rfl, rfl⟩
    have hi := itN_lt hx j
    have ej : IntKind.wrap .i64 ((j : Int) + 1) = ((j + 1 : Nat) : Int) := by rw [wrap_id (by omega) (by omega)]; omega
    refine brB_dec (fun hlt => ⟨by omega, by omega, ?_⟩) fun hge => ?_
    · have est : itN (crcF (4294967295 - c) (s.data.toList.take k) ^^^ b.toNat) (j + 1) = stN (itN (crcF (4294967295 - c) (s.data.toList.take k) ^^^ b.toNat) j) := rfl
      generalize itN (crcF (4294967295 - c) (s.data.toList.take k) ^^^ b.toNat) j = X at hi est
      have eT : ((Int.tmod (X : Int) 2) == 1) = decide (X % 2 = 1) := by
        rw [Int.tmod_eq_emod_of_nonneg (by omega), Bool.eq_iff_iff]; simp; omega
      have eH : IntKind.wrap .u32 (Int.tdiv (X : Int) 2) = ((X / 2 : Nat) : Int) := by rw [Int.tdiv_eq_ediv_of_nonneg (by omega), IntKind.wrap_u32]; omega
      rw [eT, eH, ej]
      refine brB_dec (fun hX => ?_) fun hX => ?_
      · refine (Turn_ok (a := X / 2) (b := 3988292384) (by omega) (by omega) w5).mono ?_
        rintro e w6 ⟨rfl, rfl⟩
        refine ⟨_, rfl, ref02_More_leaf2 (8 - (j + 1)) (by omega) ⟨j + 1, rfl, by omega, ?_, rfl, rfl⟩⟩
        rw [est, stN, if_pos hX]
      · refine ref02_More_leaf2 (8 - (j + 1)) (by omega) ⟨j + 1, rfl, by omega, ?_, rfl, rfl⟩
        rw [est, stN, if_neg hX]
    · have hj : j = 8 := by omega
      subst hj
      refine ref02_More_leaf1 (s.size - (k + 1)) (by omega) ⟨k + 1, by rw [wrap_id (by omega) (by omega)]; omega, by omega, ?_, rfl, rfl⟩
      rw [List.take_add_one, hb]
      show _ = (((List.foldl byN (4294967295 - c) (List.take k s.data.toList ++ [b])) : Nat) : Int)
      rw [List.foldl_append]
      rfl
  · have hk : k = s.size := by omega
    subst hk
    have e1 : IntKind.wrap .u32 (4294967295 - ((crcF (4294967295 - c) s.data.toList : Nat) : Int)) = ((4294967295 - crcF (4294967295 - c) s.data.toList : Nat) : Int) := by
      have := crcF_lt s.data.toList (c := 4294967295 - c) (by omega)
      rw [IntKind.wrap_u32]; omega
    rw [List.take_of_length_le (by simp), e1]
    exact ⟨rfl, Mod.refl _⟩
theorem RSum_ok (s : ByteArray) (hs : s.size ≤ 1000000000000) (w : World) : Calls Tryz.prog 134 #[.string s] w fun e w' => e = .returned (.int .u32 (crcN s.data.toList)) ∧ Mod [] w w' := by
  refine go_of (ref02_Sum_go ?_)
  refine (RMore_ok (c := 0) (by omega) s hs w).mono ?_
  rintro e w1 ⟨rfl, M1⟩
  exact ⟨_, rfl, rfl, M1⟩
theorem Four_ok {n : Nat} (hn : n < 4294967296) (w : World) : Calls Tryz.prog 133 #[.int .u32 (n : Nat)] w fun e w' => e = .returned (.string (bs (laidB (n : Nat)))) ∧ Mod [] w w' := by
  refine go_of (ref02_Four_go ?_)
  refine ⟨by omega, by omega, by omega, by omega, by omega, by omega, ?_⟩
  refine al_of fun b1 w1 c1 M1 f1 => ?_
  have k0 : lbI (n : Nat) 0 = ((n % 256 : Nat) : Int) := by
    unfold lbI; rw [Int.fdiv_eq_ediv_of_nonneg _ (by decide), IntKind.wrap_u8]; show ((n : Int) / 1) % 256 = _; omega
  have k1 : lbI (n : Nat) 1 = ((n / 256 % 256 : Nat) : Int) := by
    unfold lbI; rw [Int.fdiv_eq_ediv_of_nonneg _ (by decide), IntKind.wrap_u8]; show ((n : Int) / 256) % 256 = _; omega
  have k2 : lbI (n : Nat) 2 = ((n / 65536 % 256 : Nat) : Int) := by
    unfold lbI; rw [Int.fdiv_eq_ediv_of_nonneg _ (by decide), IntKind.wrap_u8]; show ((n : Int) / 65536) % 256 = _; omega
  have k3 : lbI (n : Nat) 3 = ((n / 16777216 : Nat) : Int) := by
    unfold lbI; rw [Int.fdiv_eq_ediv_of_nonneg _ (by decide), IntKind.wrap_u8]; show ((n : Int) / 16777216) % 256 = _; omega
  have v0 : IntKind.wrap .u8 (Int.tmod (n : Int) 256) = lbI (n : Nat) 0 := by
    rw [k0, Int.tmod_eq_emod_of_nonneg (a := (n : Int)) (by omega), IntKind.wrap_u8]; omega
  have v1 : IntKind.wrap .u8 (Int.tmod (IntKind.wrap .u32 (Int.tdiv (n : Int) 256)) 256) = lbI (n : Nat) 1 := by
    rw [k1, Int.tdiv_eq_ediv_of_nonneg (a := (n : Int)) (by omega), IntKind.wrap_u32, Int.tmod_eq_emod_of_nonneg (by omega), IntKind.wrap_u8]; omega
  have v2 : IntKind.wrap .u8 (Int.tmod (IntKind.wrap .u32 (Int.tdiv (n : Int) 65536)) 256) = lbI (n : Nat) 2 := by
    rw [k2, Int.tdiv_eq_ediv_of_nonneg (a := (n : Int)) (by omega), IntKind.wrap_u32, Int.tmod_eq_emod_of_nonneg (by omega), IntKind.wrap_u8]; omega
  have v3 : IntKind.wrap .u8 (IntKind.wrap .u32 (Int.tdiv (n : Int) 16777216)) = lbI (n : Nat) 3 := by
    rw [k3, Int.tdiv_eq_ediv_of_nonneg (a := (n : Int)) (by omega), IntKind.wrap_u32, IntKind.wrap_u8]; omega
  rw [v0, v1, v2, v3] at c1
  refine ⟨_, _, run_convert_bytes_back w1 _ _ 5 ⟨b1, 0, none⟩ 4 (laidB (n : Nat)) Tryz.underlying122 Tryz.underlying5 Tryz.underlying9 fun j hj => ?_, rfl, M1⟩
  rw [addr_add, Nat.zero_add, cell_at c1]
  have hj : j < 4 := hj
  match j, hj with
  | 0, _ => simp [laidB, lb_int]
  | 1, _ => simp [laidB, lb_int]
  | 2, _ => simp [laidB, lb_int]
  | 3, _ => simp [laidB, lb_int]
theorem RFrame_ok (s : ByteArray) (hs : s.size ≤ 1000000000000) (w : World) : Calls Tryz.prog 85 #[.string s] w fun e w' => e = .returned (.string (bs (frameB s))) ∧ Mod [] w w' := by
  refine go_of (ref02_Frame_go ?_)
  refine (R1Text_ok s hs w).mono ?_
  rintro e w1 ⟨rfl, M1⟩
  refine ⟨_, rfl, ?_⟩
  refine (RSum_ok s hs w1).mono ?_
  rintro e w2 ⟨rfl, M2⟩
  rw [crcN_U]
  refine ⟨_, rfl, ?_⟩
  refine (Four_ok (crcU_lt _) w2).mono ?_
  rintro e w3 ⟨rfl, M3⟩
  refine ⟨_, rfl, by have := (putT_len s (by omega)).2; rw [bs_size, bs_size]; simp only [laidB, List.length_cons, List.length_nil]; omega, ?_, M1.trans (M2.trans M3)⟩
  rw [bs_app, frameB, crcN_U]
end Go.Proofs.YtohgihgddknmmaaGreat

/- A client hears; what it waits for. -/
namespace Go.Proofs.YtohgihgddknmmaaGreat
open Go Go.RowKit
set_option linter.unusedVariables false
set_option linter.unusedSimpArgs false

def heardB (ec : Int) (m : PMail) (cl : Int) (o : Option PCall) : Bool := match o with
  | none => false
  | some c => decide (ec = 0 ∧ m.kind = 1 ∧ m.to = cl ∧ m.n = c.n)
theorem Hear_ok {w : World} {b0 : Nat} {cl rp n v ec : Int} {o : Option PCall} {m : PMail} {s f p : Sl} (h : Ses w b0 cl rp n v o)
    (hC : ∀ w', Mod [] w w' → Calls Tryz.prog 69 #[m.v s f p] w' fun e w'' => e = .returned (.int .i64 ec) ∧ Mod [] w' w'')
    (hO : ec = 0 → m.calls.length ≤ 100000 ∧ ∀ w', Mod [b0] w w' → MailAt w' m s f p) :
    Calls Tryz.prog 21 #[.pointer (some ⟨b0, 0, none⟩), m.v s f p] w fun e w' => ∃ u, e = .returned u ∧ Mod [b0] w w' ∧
      (if heardB ec m cl o = true then ∃ f' p' : Sl, u = .tuple #[m.r.v f' p', .bool true] ∧ RepOwn w' w.heap.size m.r f' p' ∧ Ses w' b0 cl rp n (if m.view > v then m.view else v) none
      else u = .tuple #[rep00.v nilS nilS, .bool false] ∧ Ses w' b0 cl rp n v o) := by
  have hlt := h.lt
  obtain ⟨q, h1, h2⟩ := h.obj
  refine session_Session_Hear_go h1 ?_
  intro b1 f1 b2 f2 w3 A3
  have l2 := A3.lt b2 (by simp)
  have s3 := A3.mod.size
  have M1 : ∀ {w'}, Mod [] w w' → Mod [b0] w w' := fun M => M.less (by simp)
  refine (hC w3 A3.mod).mono ?_
  rintro e w4 ⟨rfl, M4⟩
  have N4 := A3.mod.go0 M4 (by simp)
  have s4 := M4.size
  refine ⟨_, rfl, Keep.of0 M4, ?_⟩
  have fin : ∀ {w'}, Adv [b2] [] w4 w' → heardB ec m cl o = false → (Mod [b0] w w' ∧ (if heardB ec m cl o = true then ∃ f' p' : Sl, Value.tuple #[rep00.v nilS nilS, .bool false] = .tuple #[m.r.v f' p', .bool true] ∧ RepOwn w' w.heap.size m.r f' p' ∧ Ses w' b0 cl rp n (if m.view > v then m.view else v) none
      else Value.tuple #[rep00.v nilS nilS, .bool false] = .tuple #[rep00.v nilS nilS, .bool false] ∧ Ses w' b0 cl rp n v o)) := fun {w'} A hne => by
    have hM := N4.go0 A.mod (by simpa using f2)
    refine ⟨M1 hM, ?_⟩
    rw [if_neg (by rw [hne]; decide)]
    exact ⟨rfl, h.keep0 hM⟩
  have hno : (¬ (ec = 0 ∧ m.kind = 1 ∧ m.to = cl)) → heardB ec m cl o = false := fun hn => by
    unfold heardB
    split
    · rfl
    · exact decide_eq_false fun ⟨a, b, c, _⟩ => hn ⟨a, b, c⟩
  refine brB_of (fun g => fun w6 A6 _ => fin A6 (hno fun ⟨a, _, _⟩ => by simp [a] at g)) fun g1 => ?_
  have g1 : ec = 0 := by simpa using g1
  refine brB_of (fun g => fun w6 A6 _ => fin A6 (hno fun ⟨_, a, _⟩ => by simp [a] at g)) fun g2 => ?_
  have g2 : m.kind = 1 := by simpa using g2
  refine brB_of (fun g => fun w6 A6 _ => fin A6 (hno fun ⟨_, _, a⟩ => by simp [a] at g)) fun g3 => ?_
  have g3 : m.to = cl := by simpa using g3
  cases o with
  | none =>
    have h2 : q = none := h2
    subst h2
    exact brB_of (fun _ => fun w6 A6 _ => fin A6 rfl) fun g => by cases g
  | some c =>
    obtain ⟨b9, rs, ts, rfl, h4, h5, h6⟩ := h2
    refine brB_of (fun g => by cases g) fun _ => ckPtr_of ?_
    refine ldInt_of (x := c.n) (cv_cell (q := ⟨c, rs, ts⟩) (N4.keep0 h5) 1 _ rfl) ?_
    refine brB_of (fun g => fun w6 A6 _ => fin A6 ?_) fun g4 => ⟨rfl, ?_⟩
    · have g : m.n ≠ c.n := by simpa using g
      exact decide_eq_false fun ⟨_, _, _, a⟩ => g a
    have g4 : m.n = c.n := by simpa using g4
    have hh : heardB ec m cl (some c) = true := decide_eq_true ⟨g1, g2, g3, g4⟩
    obtain ⟨hcl, hO⟩ := hO g1
    intro w5 A5
    have s5 := A5.mod.size
    have N5 : Mod [b0] w w5 := (N4.trans A5.mod).less (by simp)
    refine (Own_ok (hO w5 N5) hcl).mono ?_
    rintro e w6 ⟨_, rfl, s', f', p', rfl, hM, M6⟩
    have s6 := M6.size
    refine ⟨_, _, _, _, _, _, _, _, _, _, _, _, _, _, _, _, _, _, _, _, _, _, _, rfl, Keep.of0 M6, ?_⟩
    intro w7 A7 h7
    refine ⟨((N5.trans M6).trans A7.mod).less fun i hi hl => ?_, ?_⟩
    · simp at hi ⊢; omega
    · rw [if_pos hh]
      exact ⟨f', p', rfl, RepOwn.rebase (hM.rep.keepB A7.mod (by simp; omega)) (by omega), ⟨none, h7, rfl⟩⟩

theorem Waits_ok {w : World} {b0 : Nat} {cl rp n v : Int} {o : Option PCall} (h : Ses w b0 cl rp n v o) :
    Calls Tryz.prog 26 #[.pointer (some ⟨b0, 0, none⟩)] w fun e w' => ∃ u, e = .returned u ∧ (match o with
      | none => u = .tuple #[cv0.v, .bool false]
      | some c => ∃ rs ts : Sl, u = .tuple #[(⟨c, rs, ts⟩ : CV).v, .bool true] ∧ OpOwn w' w.heap.size c.op rs ts) ∧ Mod [] w w' := by
  obtain ⟨q, h1, h2⟩ := h.obj
  refine session_Session_Waits_go h1 ?_
  intro b1 f1
  cases o with
  | none =>
    have h2 : q = none := h2
    subst h2
    exact brB_of (fun _ => fun w2 A2 _ => ⟨rfl, A2.mod⟩) fun g => by cases g
  | some c =>
    obtain ⟨b9, rs, ts, rfl, h4, h5, h6⟩ := h2
    refine brB_of (fun g => by cases g) fun _ => ckPtr_of ?_
    intro w3 A3
    have l1 := A3.lt b1 (by simp)
    have s3 := A3.mod.size
    refine ldCV_of (q := ⟨c, rs, ts⟩) (cv_cell (A3.mod.keep0 h5)) ?_
    refine (SOwn_ok (q := ⟨c, rs, ts⟩) (h6.at.keep0 A3.mod)).mono ?_
    rintro e w4 ⟨_, rfl, rs', ts', rfl, hO, M4⟩
    refine ⟨_, _, _, _, _, _, _, _, _, _, _, _, _, _, _, _, _, _, _, _, rfl, Keep.of0 M4, ?_⟩
    intro w5 A5 _
    exact ⟨⟨rs', ts', rfl, OpOwn.rebase (OpOwn.keepB hO A5.mod (by simp; omega)) s3⟩, (A3.mod.go0 M4 (by simp)).go0 A5.mod (by simpa using f1)⟩
theorem View_ok {w : World} {b0 : Nat} {cl rp n v : Int} {o : Option PCall} (h : Ses w b0 cl rp n v o) :
    Calls Tryz.prog 29 #[.pointer (some ⟨b0, 0, none⟩)] w fun e w' => e = .returned (.int .i64 v) ∧ Mod [] w w' := by
  obtain ⟨q, h1, h2⟩ := h.obj
  refine go_of (session_Session_View_go h1 ?_)
  intro w1 A1 _
  exact ⟨rfl, A1.mod⟩
end Go.Proofs.YtohgihgddknmmaaGreat

/- A range over a function whose rounds are told by 'den3': a law, out of the kit's laws on one round. -/
namespace Go.Proofs.YtohgihgddknmmaaGreat
open Go Go.RowKit
set_option linter.unusedVariables false
set_option linter.unusedSimpArgs false

theorem effW_wpIn {P : Program} {o : Oper} {a : Act} {w : World} {l : Nat} {K : Value → World → Prop} {Q : Exit → Act → World → Prop} {next : Act → World → Prop} (h : effW P (execOp a.eval o) w K) (hd : ∀ c, o.op ≠ .defer c) (hK : ∀ v w', K v w' → next (a.put o.dst v) w') : o.wpIn (Fence.wide.inRound l) 0 P a w next Q := by
  refine ⟨fun _ _ => trivial, ?_⟩
  rw [Oper.semAt_eq _ _ _ hd]
  unfold effW at h
  split at h
  · rename_i v w' he; rw [he]; exact hK _ _ h
  · rename_i w' he; rw [he]; exact hK _ _ h
  · rename_i f args w' he
    rw [he, Oper.uponIn_enter]
    refine ⟨fun hh => by simp [Fence.wide] at hh, ?_⟩
    refine (CallsIn.inRound l (callsIn_wide.2 h)).mono fun e w'' hv => ?_
    obtain ⟨v, rfl, hk⟩ := hv
    exact hK v w'' hk
  · exact h.elim
theorem lt_of_block' {w : World} {b : Nat} {o : Obj} (h : w.heap[b]? = some o) : b < w.heap.size := (Array.getElem?_eq_some_iff.1 h).1
def noDefer : List Oper → Bool
  | [] => true
  | o :: r => match o.op with
    | .defer _ => false
    | _ => match o.guard with
      | none => noDefer r
      | some _ => false
theorem noDefer_cons {o : Oper} {r : List Oper} (h : noDefer (o :: r) = true) : (∀ c, o.op ≠ .defer c) ∧ o.guard = none ∧ noDefer r = true := by
  unfold noDefer at h
  split at h
  · cases h
  · rename_i hn
    split at h
    · rename_i hg; exact ⟨hn, hg, h⟩
    · cases h
theorem den3In_sound {P : Program} {n l : Nat} {ops : Array Oper} {Q : Exit → Act → World → Prop} {K : FA → St → Prop} (hK : ∀ f s wa a, K f s → Inv f s wa → Rel n f a → Q .normal a wa) :
    ∀ {L : List Oper} {f : FA} {s : St} {wa : World} {a : Act}, noDefer L = true → (∀ o ∈ L, ∀ k, o.dst = some k → k < n) → den3Ops P ops L K f s → Inv f s wa → Rel n f a → wpListIn (Fence.wide.inRound l) 0 P ops Q L a wa
  | [], f, s, wa, a, _, _, h, hI, hR => hK f s wa a h hI hR
  | o :: r, f, s, wa, a, hnd, hn, h, hI, hR => by
    obtain ⟨hd, hg, hnd'⟩ := noDefer_cons hnd
    have hnr : ∀ o ∈ r, ∀ k, o.dst = some k → k < n := fun o ho => hn o (by simp [ho])
    unfold den3Ops at h
    rw [hg] at h
    refine wpListIn_plain hg fun K' hK' => ?_
    refine effW_wpIn (K := fun v wa' => ∃ t s', den3Ops P ops r K (putA f o.dst v t) s' ∧ OpI f s' v t wa' ∧ Later s s') (by rw [hR.eval]; exact (den3Op_both h hI).2) hd fun v w' ⟨t, s', h1, h2, _⟩ => ?_
    exact hK' _ _ (den3In_sound hK hnd' hnr h1 (h2.put o.dst) (hR.put o.dst (hn o (by simp)) v t))

/-- The two regions of a round: what is assigned, then, the loop's record (block l) having been turned, the body. -/
def roundD (P : Program) (c : Code) (l : Nat) (lp : Loop) (R : World → Option Addr → Nat → Nat → World → Prop) (f : FA) (s : St) : Prop := match c with
  | .rangeFunc _ _ (.region _ A false) (.block _ (.region _ B false)) => den3Ops P A A.toList (fun f s => flushD s fun s => s.w.heap[l]? = some (.loop lp) ∧ ∀ w2, Mod [l] s.w w2 → den3Ops P B B.toList (fun _ s => flushD (expose [0] s) fun s => match s.mem with
    | ⟨_, _, [.slice a n c], _⟩ :: _ => R w2 a n c s.w
    | _ => False) f ⟨s.mem, w2, [], [], true⟩) f s
  | _ => False
def roundOk (n : Nat) (c : Code) : Bool := match c with
  | .rangeFunc _ _ (.region _ A false) (.block _ (.region _ B false)) => noDefer A.toList && noDefer B.toList && dstB n A.toList && dstB n B.toList
  | _ => false
theorem putObj_mod (w : World) (l : Nat) (o : Obj) : Mod [l] w (w.putObj l o) := ⟨rfl, rfl, rfl, by simp [World.putObj], fun k hk hn => World.putObj_heap_other (by simpa using hn)⟩
theorem round_wpIn {P : Program} {n l : Nat} {g : Operand} {ps : Array Tmp} {assign body : Code} (hc : roundOk n (.rangeFunc g ps assign body) = true) {R : World → Option Addr → Nat → Nat → World → Prop} {f : FA} {s : St} {a : Act} {w : World} {lp : Loop}
    (h : roundD P (.rangeFunc g ps assign body) l lp R f s) (hI : Inv f s w) (hR : Rel n f a) :
    assign.wpIn (Fence.wide.inRound l) 0 P (Exit.then (fun a1 w1 => w1.heap[l]? = some (.loop lp) ∧ ∀ lp' : Loop, body.wpIn (Fence.wide.inRound l) 0 P (fun e _ w' => e = .normal ∧ ∃ a n c, R (w1.putObj l (.loop lp')) a n c w') a1 (w1.putObj l (.loop lp'))) fun _ _ _ => False) a w := by
  unfold roundD at h
  split at h
  · rename_i id1 A id2 id3 B hh
    cases hh
    simp only [roundOk, Bool.and_eq_true] at hc
    obtain ⟨⟨⟨c1, c2⟩, c3⟩, c4⟩ := hc
    refine wpIn_region_list (den3In_sound (n := n) (fun f1 s1 w1 a1 h1 hI1 hR1 => ?_) c1 (dstB_mem c3) h hI hR)
    obtain ⟨s2, ⟨hl, h2⟩, hI2, hw2, hm2, _⟩ := flush_out h1 hI1
    rw [hw2] at hl h2
    refine ⟨hl, fun lp' => ?_⟩
    have hne : ∀ (k : Nat) tb, s2.mem[k]? = some tb → tb.b ≠ l := fun k tb hk e => by
      have := hI2.at_ k tb hk
      rw [e, hl] at this; cases this
    have hI3 : Inv f1 ⟨s2.mem, w1.putObj l (.loop lp'), [], [], true⟩ (w1.putObj l (.loop lp')) :=
      ⟨fun k tb hk => by rw [World.putObj_heap_other (hne k tb hk)]; exact hI2.at_ k tb hk, hI2.nd, hI2.tags, (Mod.refl _).less (by simp [idsB]), by simp, fun _ => rfl⟩
    refine wpIn_block (wpIn_region_list (den3In_sound (n := n) (fun f4 s4 w4 a4 h4 hI4 hR4 => ?_) c2 (dstB_mem c4) (h2 _ (putObj_mod w1 l _)) hI3 hR1))
    obtain ⟨s5, h5, hI5, hw5, hm5, _⟩ := flush_out h4 (expose_inv hI4)
    split at h5
    · rw [hw5] at h5; exact ⟨rfl, _, _, _, h5⟩
    · exact h5.elim
  · exact h.elim

/-! ### the loop -/
/-- The iterator hands N, one by one; what it is told by X, what the caller says of its own by J. -/
def SeqN {α : Type} (P : Program) (gf : FuncId) (lb : Array Value) (encs : α → Array Value) (w0 : World) (S : List Nat) (X : Nat → α → World → Prop) (N B : Nat) : Prop :=
  ∀ (l : Nat) (J : List α → World → Prop), (∀ pre W W', J pre W → Mod [] W W' → J pre W') → (∀ pre W, J pre W → Mod S w0 W ∧ B ≤ W.heap.size) →
    (∀ pre x W1, J pre W1 → X pre.length x W1 → pre.length < N → YieldAt Fence.wide 0 P l (encs x) W1 fun e W' => e = .returned (.bool true) ∧ J (pre ++ [x]) W') →
    ∀ W, J [] W → CallsIn Fence.wide 1 P gf (#[.func (.yield l) #[] #[]] ++ lb) W fun e W' => (∃ v, e = .returned v) ∧ ∃ xs, xs.length = N ∧ J xs W'

theorem wpIn_range_seq {α : Type} {P : Program} {g : Operand} {ps : Array Tmp} {assign body : Code} {Q : Exit → Act → World → Prop} {a : Act} {w : World}
    {gf : Nat} {lb : Array Value} (hg : a.eval g = .func (.func gf) #[] lb) (eg : ∀ args w, (callFunc gf args).run P w = .ok (.enter gf args) w)
    {encs : α → Array Value} {S : List Nat} {X : Nat → α → World → Prop} {N : Nat} (hseq : SeqN P gf lb encs w S X N (w.heap.size + 2)) (hps : ∀ x, (encs x).size = ps.size) (hS : ∀ i ∈ S, i < w.heap.size)
    (I : List α → World → Prop) (hIm : ∀ s W W', I s W → Mod [] W W' → I s W') (hIp : ∀ s W l (o : Loop), l = w.heap.size + 1 → I s W → I s (W.putObj l (.loop o))) (hIS : ∀ s W, I s W → Mod S w W) (h0 : I [] w)
    (hround : ∀ (pre : List α) (x : α) (W : World) (lp : Loop), I pre W → pre.length < N → X pre.length x W → W.heap[w.heap.size + 1]? = some (.loop lp) → w.heap.size < W.heap.size →
      assign.wpIn (Fence.wide.inRound (w.heap.size + 1)) 0 P (Exit.then (fun a1 W1 => W1.heap[w.heap.size + 1]? = some (.loop lp) ∧ ∀ lp' : Loop, body.wpIn (Fence.wide.inRound (w.heap.size + 1)) 0 P
        (fun e _ W' => e = .normal ∧ W'.heap[w.heap.size + 1]? = some (.loop lp') ∧ W'.heap[w.heap.size]? = W.heap[w.heap.size]? ∧ I (pre ++ [x]) W') a1 (W1.putObj (w.heap.size + 1) (.loop lp'))) fun _ _ _ => False)
        { tmps := (ps.zip (encs x)).foldl (fun t (p, v) => t.setIfInBounds p v) a.tmps, defers := [] } W)
    (hdone : ∀ (W : World) xs, xs.length = N → I xs W → W.heap[w.heap.size]? = some (.deferred (some [])) → Q .normal { a with defers := { target := .collected w.heap.size, args := #[] } :: a.defers } W) :
    (Code.rangeFunc g ps assign body).wpIn Fence.wide 2 P Q a w := by
  refine wpIn_rangeFunc ?_
  intro fn hfn
  have hro : Fence.wide.round = none := rfl
  rw [hro]
  obtain ⟨rec, hrec⟩ : ∃ rec : LoopState → Option Code → Loop, rec = fun st pe => { state := st, pending := pe, fn, tmps := a.tmps, params := ps, assign, body, defers := w.heap.size } := ⟨_, rfl⟩
  obtain ⟨W1, hW1⟩ : ∃ W1, (w.alloc (.deferred (some []))).alloc (.loop (rec .ready none)) = W1 := ⟨_, rfl⟩
  have hL1 : W1.heap[w.heap.size + 1]? = some (.loop (rec .ready none)) := by
    rw [← hW1]; have := World.alloc_heap_new (w.alloc (.deferred (some []))) (.loop (rec .ready none)); rwa [World.size_alloc] at this
  have hK1 : W1.heap[w.heap.size]? = some (.deferred (some [])) := by
    rw [← hW1]; exact (Below.heap_alloc _ _ _ (by simp)).trans (World.alloc_heap_new w _)
  have M : ∀ (x : World) (o : Obj), Mod [] x (x.alloc o) := fun x o => Mod.of_below ((Below.refl _ _).alloc (Nat.le_refl _) _)
  have hI1 : I [] W1 := by rw [← hW1]; exact hIm _ _ _ (hIm _ _ _ h0 (M _ _)) (M _ _)
  refine ⟨w.heap.size + 1, [{ target := .collected w.heap.size, args := #[] }], W1, { target := .fn (.func gf) lb, args := #[.func (.yield (w.heap.size + 1)) #[] #[]] }, W1, gf,
    #[.func (.yield (w.heap.size + 1)) #[] #[]] ++ lb, W1, ?_, ?_, fun _ _ => trivial, ?_, fun h => (by simp [Fence.wide] at h), ?_⟩
  · rw [← hW1, hrec]; exact run_enterLoop_outer _ _ _ _ _
  · simp only [resolve, hg]
    simp [go_sem]
  · simp [invoke, go_sem, eg]
  · refine (hseq (w.heap.size + 1)
      (fun pre W => I pre W ∧ W.heap[w.heap.size + 1]? = some (.loop (rec .ready none)) ∧ W.heap[w.heap.size]? = some (.deferred (some [])))
      ?_ ?_ ?_ W1 ⟨hI1, hL1, hK1⟩).mono ?_
    · rintro pre W W' ⟨hi, hl, hk⟩ hM
      exact ⟨hIm _ _ _ hi hM, (hM.block _ (lt_of_block' hl) (by simp)).trans hl, (hM.block _ (lt_of_block' hk) (by simp)).trans hk⟩
    · rintro pre W ⟨hi, hl, hk⟩
      exact ⟨hIS _ _ hi, lt_of_block' hl⟩
    · rintro pre x W ⟨hi, hl, hk⟩ hx hlen
      have hlt := lt_of_block' hl
      have hy := run_yield (P := P) (args := encs x) hl (by rw [hrec]; exact hps x)
      rw [hrec] at hy
      refine ⟨fn, _, assign, body, hy, roundIn_of_wpIn trivial ?_⟩
      refine wpIn_mono (hround pre x W (rec .ready none) hi hlen hx hl (by omega)) ?_
      intro e a1 W2 hq
      cases e with
      | normal =>
        obtain ⟨hl2, hb⟩ := hq
        refine ⟨_, run_beginRound hl2 (by rw [hrec]), ?_⟩
        refine wpIn_mono (hb { rec .ready none with state := .busy }) ?_
        rintro e a3 W3 ⟨rfl, hr1, hD3, hi3⟩
        have hr := run_endRound (P := P) none hr1
        have hlt3 := lt_of_block' hr1
        refine ⟨_, _, hr, rfl, ⟨hIp _ _ _ _ rfl hi3, ?_, ?_⟩⟩
        · rw [World.putObj_heap_same hlt3, hrec]; rfl
        · exact (World.putObj_heap_other (by omega)).trans (hD3.trans hk)
      | _ => exact hq.elim
    · rintro e W2 ⟨⟨v, rfl⟩, xs, hxs, hi, hl, hk⟩
      exact ⟨none, _, by have := run_endLoop (P := P) hl (by rw [hrec]; simp); rw [hrec] at this; exact this, hdone _ xs hxs (hIp _ _ _ _ rfl hi) ((World.putObj_heap_other (by omega)).trans hk)⟩
theorem foldZ {ts : Array Value} {q : Tmp} {v : Value} : ((#[q] : Array Tmp).zip #[v]).foldl (fun t (x : Tmp × Value) => match x with | (p, v) => t.setIfInBounds p v) ts = ts.setIfInBounds q v := by simp
/-- Where one round starts. -/
theorem round_inv {f : FA} {d q b : Nat} {T : TypeId} {cs : List Value} {x : Value} {w : World} {js : Nat → Value} (hb : w.heap[b]? = some (.cells cs.toArray T)) (hf : f = ⟨[(d, .pointer (some ⟨b, 0, none⟩), some (0, 0)), (q, x, none)], js⟩) : Inv f ⟨[⟨b, T, cs, false⟩], w, [], [], true⟩ w := by
  subst hf
  have get : ∀ (k : Nat) (tb : TB), [(⟨b, T, cs, false⟩ : TB)][k]? = some tb → k = 0 ∧ tb = ⟨b, T, cs, false⟩ := fun k tb h => by
    cases k with
    | zero => simp at h; exact ⟨rfl, h.symm⟩
    | succ k => simp at h
  refine ⟨fun k tb hk => by obtain ⟨_, rfl⟩ := get k tb hk; exact hb, fun i j x y hx hy _ => by rw [(get i x hx).1, (get j y hy).1], fun i k off ht => ?_, (Mod.refl w).less (by simp [idsB]), by simp, fun _ => rfl⟩
  simp only [FA.tag, lkT] at ht
  split at ht
  · rename_i hi
    have hi : d = i := Nat.eq_of_beq_eq_true hi
    subst hi
    cases ht
    exact ⟨_, rfl, by simp [FA.get, lkV]⟩
  · split at ht <;> cases ht
theorem round_rel {n d q : Nat} {p x : Value} {t : Tag} {a : Act} (h1 : a.tmps.getD d undef = p) (h2 : a.tmps.getD q undef = x) (hd : a.defers = []) (hn : a.tmps.size = n) : Rel n ⟨[(d, p, t), (q, x, none)], fun i => a.tmps.getD i undef⟩ a :=
  ⟨fun i => by
    simp only [FA.get, lkV]
    split
    · rename_i hi
      rw [← Nat.eq_of_beq_eq_true hi, h1]
    · split
      · rename_i hi
        rw [← Nat.eq_of_beq_eq_true hi, h2]
      · rfl, hd, hn⟩
end Go.Proofs.YtohgihgddknmmaaGreat

/- The condition of a round of a range over a function, printed by round.py. -/
namespace Go.Proofs.YtohgihgddknmmaaGreat
open Go Go.RowKit
set_option linter.unusedVariables false
set_option maxRecDepth 100000

def slices_AppendSeq_api_Mail_api_Mail_round (l : Nat) (lp : Loop) (b0 : Nat) (o0_a : Option Addr) (o0_n o0_c : Nat) (x0 x1 x2 x3 x4 x5 x6 x7 x8 x9 : Int) (x10_a : Option Addr) (x10_n x10_c : Nat) (x11 x12 x13 x14 : Int) (x15_a : Option Addr) (x15_n x15_c : Nat) (x16_a : Option Addr) (x16_n x16_c : Nat) (R : World → Option Addr → Nat → Nat → World → Prop) (w : World) : Prop :=
 ∀ b1, w.heap.size ≤ b1 →
 ∀ w2, Adv [] [b1] w w2 →
 w2.heap[l]? = some (.loop lp) ∧
 ∀ w3, Mod [l] w2 w3 →
 al w3 (.cells #[.int .i64 x0, .int .i64 x1, .int .i64 x2, .int .i64 x3, .int .i64 x4, .int .i64 x5, .int .i64 x6, .int .i64 x7, .int .i64 x8, .int .i64 x9, .slice x10_a x10_n x10_c, .int .i64 x11, .int .i64 x12, .int .i64 x13, .int .i64 x14, .slice x15_a x15_n x15_c, .slice x16_a x16_n x16_c] 45) fun b4 w5 =>
 effSl Tryz.prog (Builtin.append_ #[53, 53] 53 #[.slice o0_a o0_n o0_c, (.slice (some ⟨b4, 0, none⟩) 1 1)]) w5 fun a7 n8 c9 w6 => Keep [b0, b1] w5 w6 ∧
 ∀ w10, Adv [b0] [] w6 w10 → w10.heap[b0]? = some (.cells #[.slice a7 n8 c9] 53) →
 R w3 a7 n8 c9 w10
theorem slices_AppendSeq_api_Mail_api_Mail_round_eq (l : Nat) (lp : Loop) (b0 : Nat) (o0_a : Option Addr) (o0_n o0_c : Nat) (x0 x1 x2 x3 x4 x5 x6 x7 x8 x9 : Int) (x10_a : Option Addr) (x10_n x10_c : Nat) (x11 x12 x13 x14 : Int) (x15_a : Option Addr) (x15_n x15_c : Nat) (x16_a : Option Addr) (x16_n x16_c : Nat) (js : Nat → Value) (R : World → Option Addr → Nat → Nat → World → Prop) (w : World) :
 roundD Tryz.prog (subR (code Tryz.f112) [0, 1, 0, 1]) l lp R ⟨[(2, .pointer (some ⟨b0, 0, none⟩), some (0, 0)), (7, (.agg #[.int .i64 x0, .int .i64 x1, .int .i64 x2, .int .i64 x3, .int .i64 x4, .int .i64 x5, .int .i64 x6, .int .i64 x7, .int .i64 x8, .int .i64 x9, .slice x10_a x10_n x10_c, .int .i64 x11, .int .i64 x12, .int .i64 x13, .int .i64 x14, .slice x15_a x15_n x15_c, .slice x16_a x16_n x16_c]), none)], js⟩ ⟨[⟨b0, 53, [.slice o0_a o0_n o0_c], false⟩], w, [], [], true⟩ = slices_AppendSeq_api_Mail_api_Mail_round l lp b0 o0_a o0_n o0_c x0 x1 x2 x3 x4 x5 x6 x7 x8 x9 x10_a x10_n x10_c x11 x12 x13 x14 x15_a x15_n x15_c x16_a x16_n x16_c R w := by kernel_rfl

end Go.Proofs.YtohgihgddknmmaaGreat

/- A client asks all. -/
namespace Go.Proofs.YtohgihgddknmmaaGreat
open Go Go.RowKit Go.Shelf
set_option linter.unusedVariables false
set_option linter.unusedSimpArgs false

/-- A message as it is held. -/
structure MV where
  m : PMail
  s : Sl
  f : Sl
  p : Sl
def MV.cs (x : MV) : List Value := x.m.cs x.s x.f x.p
def MV.v (x : MV) : Value := x.m.v x.s x.f x.p
theorem MV.cs_len (x : MV) : x.cs.length = 17 := rfl
theorem MV.cs_one (x : MV) : ∀ u ∈ x.cs, u.oneCell' = true := by simp [MV.cs, PMail.cs, Value.oneCell']
section
attribute [local go_sem] Oper.semAt_some
set_option maxRecDepth 100000 in
set_option maxHeartbeats 2000000 in
theorem Retry1_seq {w0 : World} {S : List Nat} {b1 b0 B : Nat} {cl rp n v : Int} {c : PCall} (hrp : mayB rp = true) (hw : ∀ W, Mod S w0 W → W.heap[b1]? = some (.cells #[.pointer (some ⟨b0, 0, none⟩)] 23) ∧ Ses W b0 cl rp n v (some c)) :
    SeqN Tryz.prog 68 #[.pointer (some ⟨b1, 0, none⟩)] (fun x : MV => #[x.v]) w0 S (fun k x W => x.m = askM cl k c ∧ MailOwn W B x.m x.s x.f x.p) rp.toNat B := fun l J hJm hJw hY W h0 => by
  have hro : Fence.wide.round = none := rfl
  have hrb : 1 ≤ rp ∧ rp ≤ 7 := by simpa [mayB] using hrp
  refine callsIn_of_wp Tryz.func68 rfl trivial ?_ hro
  simp only [Tryz.ntmps68, List.size_toArray, List.length_cons, List.length_nil, Nat.reduceAdd, Nat.reduceSub, Array.replicate_succ, Array.replicate_zero, List.push_toArray, List.append_toArray, List.nil_append, List.cons_append]
  have cells : ∀ {W : World}, Mod S w0 W → W.cell? ⟨b1, 0, none⟩ = some (.pointer (some ⟨b0, 0, none⟩)) ∧ W.cell? ⟨b0, 1, none⟩ = some (.int .i64 rp) := fun {W} hM => by
    obtain ⟨h1, h2⟩ := hw W hM
    obtain ⟨p, h3, _⟩ := h2.obj
    exact ⟨by rw [cell_at h1]; rfl, by rw [cell_at h3]; rfl⟩
  obtain ⟨hc1, hc2⟩ := cells (hJw _ _ h0).1
  gi_wp2
  gi_loopg [8] rp.toNat (fun k i wr => ∃ (j : Nat) (pre : List MV), i = .int .i64 j ∧ (j : Int) ≤ rp ∧ k = rp.toNat - j ∧ pre.length = j ∧ J pre wr)
  case atStart => exact ⟨0, [], rfl, by omega, rfl, rfl, h0⟩
  case round =>
    obtain ⟨j, pre, rfl, hj, hk, hpl, hJ⟩ := hrel
    obtain ⟨hMw, hBw⟩ := hJw _ _ hJ
    obtain ⟨hd1, hd2⟩ := cells hMw
    by_cases hlt : (j : Int) < rp
    · gi_wp2_with (refine ⟨trivial, ?_⟩; gi_at_call 61; refine (callsIn_wide.2 (mail_ok (hw _ hMw).2 (j : Int))).mono ?_; rintro e w' ⟨_, rfl, s', rfl, hM, hM'⟩; obtain ⟨fn, tmps, assign, body, hy, hR⟩ := hY pre ⟨askM cl j c, s', nilS, nilS⟩ w' (hJm _ _ _ hJ hM') ⟨by rw [hpl], hM.rebase hBw⟩ (by omega); dsimp only [MV.v] at hy)
      refine hR.mono ?_
      rintro e W3 ⟨rfl, hJ3⟩
      gi_wp2
      gi_roundg (gk - 1)
      case rel => exact ⟨j + 1, _, by simp, by omega, by omega, by simp [hpl], hJ3⟩
      case measure => omega
    · gi_wp2
      go_end0
      exact ⟨⟨_, rfl⟩, pre, by omega, hJ⟩

theorem RepOwn.keepT {S : List Nat} {w w' : World} {base : Nat} {r : PRep} {f p : Sl} (h : RepOwn w base r f p) (M : Mod S w w') (hS : ∀ k ∈ S, ∀ cs T, w.heap[k]? = some (.cells cs T) → T ≠ 152 ∧ T ≠ 32) : RepOwn w' base r f p :=
  ⟨h.found.keep M fun ad ha hk => by obtain ⟨_, cur, hc⟩ := h.found.block ad ha; exact (hS _ hk _ _ hc).1 rfl,
   h.parts.keep M fun ad ha hk => by obtain ⟨_, cur, hc⟩ := h.parts.block ad ha; exact (hS _ hk _ _ hc).2 rfl, h.lf, h.lp⟩
theorem CallsOwn.keepT {S : List Nat} {w w' : World} {base : Nat} {s : Sl} {xs : List PCall} (h : CallsOwn w base s xs) (M : Mod S w w') (hS : ∀ k ∈ S, ∀ cs T, w.heap[k]? = some (.cells cs T) → T ≠ 57 ∧ T ≠ 149 ∧ T ≠ 9) : CallsOwn w' base s xs := by
  obtain ⟨ll, h1, h2, h3⟩ := h
  exact ⟨ll, h1.keep M fun ad ha hk => by obtain ⟨_, cur, hc⟩ := h1.block ad ha; exact (hS _ hk _ _ hc).1 rfl, fun q hq => (h2 q hq).keep M fun k hk cs T hc => (hS k hk cs T hc).2, h3⟩
theorem MailOwn.keepT {S : List Nat} {w w' : World} {base : Nat} {m : PMail} {s f p : Sl} (h : MailOwn w base m s f p) (M : Mod S w w') (hS : ∀ k ∈ S, ∀ cs T, w.heap[k]? = some (.cells cs T) → (T ≠ 57 ∧ T ≠ 149 ∧ T ≠ 9) ∧ T ≠ 152 ∧ T ≠ 32) : MailOwn w' base m s f p :=
  ⟨h.calls.keepT M fun k hk cs T hc => (hS k hk cs T hc).1, h.rep.keepT M fun k hk cs T hc => (hS k hk cs T hc).2⟩
/-- Messages of one's own. -/
def MailsOwn (w : World) (base : Nat) (s : Sl) (xs : List PMail) : Prop := ∃ ll : List MV, Row w base 45 17 MV.cs s.a s.n s.c ll ∧ (∀ y ∈ ll, MailOwn w base y.m y.s y.f y.p) ∧ ll.map (·.m) = xs
theorem infoMail : (Tryz.prog.info? 45).map (fun i => (i.zero, i.size, i.bytes)) = some (some (.agg #[.int .i64 0, .int .i64 0, .int .i64 0, .int .i64 0, .int .i64 0, .int .i64 0, .int .i64 0, .int .i64 0, .int .i64 0, .int .i64 0, .slice none 0 0, .int .i64 0, .int .i64 0, .int .i64 0, .int .i64 0, .slice none 0 0, .slice none 0 0]), 17, 184) := by kernel_rfl
def asksL (cl rp : Int) (c : PCall) : List PMail := (List.range rp.toNat).map fun i => askM cl (i : Nat) c
theorem roundOk_mail : roundOk 13 (subR (code Tryz.f112) [0, 1, 0, 1]) = true := by kernel_rfl
set_option maxRecDepth 100000 in
set_option maxHeartbeats 2000000 in
theorem Append_in {b1 b0 : Nat} {cl rp n v : Int} {c : PCall} (hrp : mayB rp = true) (w : World) (h1 : w.heap[b1]? = some (.cells #[.pointer (some ⟨b0, 0, none⟩)] 23)) (h2 : Ses w b0 cl rp n v (some c)) :
    CallsIn Fence.wide 2 Tryz.prog 112 #[.slice none 0 0, .func (.func 68) #[] #[.pointer (some ⟨b1, 0, none⟩)]] w fun e w' => ∃ s : Sl, e = .returned (.slice s.a s.n s.c) ∧ MailsOwn w' w.heap.size s (asksL cl rp c) ∧ Mod [] w w' := by
  have hro : Fence.wide.round = none := rfl
  have hrb : 1 ≤ rp ∧ rp ≤ 7 := by simpa [mayB] using hrp
  refine callsIn_of_wp_marks Tryz.func112 rfl trivial ?_ hro
  simp only [Tryz.ntmps112, List.size_toArray, List.length_cons, List.length_nil, Nat.reduceAdd, Nat.reduceSub, Array.replicate_succ, Array.replicate_zero, List.push_toArray, List.append_toArray, List.nil_append, List.cons_append]
  gi_wp2
  obtain ⟨W0, hW0⟩ : ∃ W0, w.alloc (Obj.cells #[Value.slice none 0 0] 53) = W0 := ⟨_, rfl⟩
  have hsz : W0.heap.size = w.heap.size + 1 := by rw [← hW0]; simp
  have hB0 : W0.heap[w.heap.size]? = some (.cells #[.slice none 0 0] 53) := by rw [← hW0]; exact World.alloc_heap_new w _
  have hM0 : Mod [] w W0 := by rw [← hW0]; exact Mod.of_below ((Below.refl _ _).alloc (Nat.le_refl _) _)
  rw [hW0]
  clear hW0
  have hMw : ∀ {W}, Mod [w.heap.size] W0 W → Mod [] w W := fun M => hM0.go0 M (by simp)
  have hl0 := h2.lt
  have hl1 := lt_of_block h1
  refine wpIn_range_seq (S := [w.heap.size]) (N := rp.toNat) (encs := fun x : MV => #[x.v]) (X := fun k x W => x.m = askM cl k c ∧ MailOwn W (W0.heap.size + 2) x.m x.s x.f x.p) rfl (enters_of Tryz.func68 (by kernel_rfl) rfl)
    (Retry1_seq hrp fun W M => ⟨(hMw M).keep0 h1, h2.keep0 (hMw M)⟩) (fun _ => rfl) (by simp; omega)
    (fun pre W => ∃ s : Sl, W.heap[w.heap.size]? = some (.cells #[.slice s.a s.n s.c] 53) ∧ Row W (W0.heap.size + 2) 45 17 MV.cs s.a s.n s.c pre ∧ (∀ y ∈ pre, MailOwn W (W0.heap.size + 2) y.m y.s y.f y.p) ∧ (∀ (i : Nat) y, pre[i]? = some y → y.m = askM cl (i : Nat) c) ∧ Mod [w.heap.size] W0 W)
    ?im ?ip ?is ⟨nilS, hB0, Row.nil .., by simp, by simp, (Mod.refl _).less (by simp)⟩ ?round ?done
  case im =>
    rintro pre W W' ⟨s, hb, hr, ho, hx, hm⟩ M
    exact ⟨s, M.keep0 hb, hr.keep0 M, fun y hy => (ho y hy).keep0 M, hx, (hm.trans M).less (by simp)⟩
  case ip =>
    rintro pre W l o rfl ⟨s, hb, hr, ho, hx, hm⟩
    have M := putObj_mod W (W0.heap.size + 1) (.loop o)
    refine ⟨s, M.keep hb (by simp; omega), hr.keep M fun ad ha hk => ?_, fun y hy => (ho y hy).keepB M (by simp), hx, (hm.trans M).less fun i hi hlt => ?_⟩
    · have := hr.base ad ha; simp at hk; omega
    · simp at hi ⊢; omega
  case is =>
    rintro pre W ⟨s, hb, hr, ho, hx, hm⟩
    exact hm
  case round =>
    rintro pre x W lp ⟨s, hb, hr, ho, hx, hm⟩ hlen ⟨hx1, hx2⟩ hl hD
    obtain ⟨m, sx, fx, px⟩ := x
    simp only [foldZ]
    refine wpIn_mono (round_wpIn (n := 13) (lp := lp) roundOk_mail (f := ⟨[(2, .pointer (some ⟨w.heap.size, 0, none⟩), some (0, 0)), (7, m.v sx fx px, none)], _⟩) (s := ⟨[⟨w.heap.size, 53, [.slice s.a s.n s.c], false⟩], W, [], [], true⟩)
      (R := fun W2 _ _ _ W' => W'.heap[W0.heap.size + 1]? = W2.heap[W0.heap.size + 1]? ∧ W'.heap[W0.heap.size]? = W.heap[W0.heap.size]? ∧ ∃ s : Sl, W'.heap[w.heap.size]? = some (.cells #[.slice s.a s.n s.c] 53) ∧ Row W' (W0.heap.size + 2) 45 17 MV.cs s.a s.n s.c (pre ++ [⟨m, sx, fx, px⟩]) ∧ (∀ y ∈ pre ++ [⟨m, sx, fx, px⟩], MailOwn W' (W0.heap.size + 2) y.m y.s y.f y.p) ∧ (∀ (i : Nat) y, (pre ++ [⟨m, sx, fx, px⟩])[i]? = some y → y.m = askM cl (i : Nat) c) ∧ Mod [w.heap.size] W0 W')
      (Eq.mpr (slices_AppendSeq_api_Mail_api_Mail_round_eq ..) ?cond) (round_inv hb rfl) (round_rel rfl rfl rfl rfl)) ?post
    case cond =>
      intro b2 f2 w2 A2
      have s2 := A2.mod.size
      have hl2 := A2.mod.keep0 hl
      refine ⟨hl2, ?_⟩
      intro w3 M3
      have s3 := M3.size
      have ll2 := lt_of_block' hl2
      refine al_of fun b4 w5 c5 M5 f5 => ?_
      have s5 := M5.size
      have hb1 := hr.base
      have hr5 : Row w5 (W0.heap.size + 2) 45 17 MV.cs s.a s.n s.c pre := ((hr.keep0 A2.mod).keep M3 fun ad ha hk => by have := hb1 ad ha; simp at hk; omega).keep0 M5
      have kp : ∀ {y : MV}, MailOwn W (W0.heap.size + 2) y.m y.s y.f y.p → MailOwn w5 (W0.heap.size + 2) y.m y.s y.f y.p := fun h => ((h.keep0 A2.mod).keepB M3 (by simp)).keep0 M5
      obtain ⟨i0, hi, hz0, hz1, hz2⟩ := info_parts infoMail
      refine append_of (x := (⟨m, sx, fx, px⟩ : MV)) hr5 Tryz.underlying53 hi hz0 hz1 hz2 rfl (by decide) c5 rfl (MV.cs_one _) (by omega) (by unfold maxLen; omega) (by omega) fun a' c' w6 hR6 hM6 => ?_
      have M6 := hM6 _ (rowS_ok s.a)
      have s6 := M6.size
      have hrow := rowS_block hr5
      have hrow0 := rowS_block hr
      refine ⟨Keep.of M6 fun b hb' _ hn => ?_, ?_⟩
      · have := hrow0 b hn; simp at hb'; omega
      intro w10 A10 h10
      have s10 := A10.mod.size
      have hln : W0.heap.size + 1 ∉ rowS s.a := fun hn => by have := hrow _ hn; omega
      have hDn : W0.heap.size ∉ rowS s.a := fun hn => by have := hrow _ hn; omega
      have kp10 : ∀ {y : MV}, MailOwn w5 (W0.heap.size + 2) y.m y.s y.f y.p → MailOwn w10 (W0.heap.size + 2) y.m y.s y.f y.p := fun h => by
        refine MailOwn.keepB (MailOwn.keepT h M6 fun k hk cs T hc => ?_) A10.mod (by simp; omega)
        obtain ⟨_, _, cur, hcur⟩ := hrow k hk
        rw [hcur] at hc; cases hc; decide
      refine ⟨?_, ?_, ⟨a', _, c'⟩, h10, hR6.keep A10.mod fun ad ha hk => ?_, fun y hy => ?_, fun i y hy => ?_, ?_⟩
      · exact (A10.mod.block _ (by omega) (by simp; omega)).trans ((M6.block _ (by omega) hln).trans (M5.block _ (by omega) (by simp)))
      · exact (A10.mod.block _ (by omega) (by simp; omega)).trans ((M6.block _ (by omega) hDn).trans ((M5.block _ (by omega) (by simp)).trans ((M3.block _ (by omega) (by simp)).trans (A2.mod.block _ (by omega) (by simp)))))
      · have := hR6.base ad ha; simp at hk; omega
      · rcases List.mem_append.1 hy with hy | hy
        · exact kp10 (kp (ho y hy))
        · simp at hy; subst hy; exact kp10 (kp hx2)
      · by_cases hip : i < pre.length
        · rw [List.getElem?_append_left hip] at hy; exact hx i y hy
        · have hi2 := (List.getElem?_eq_some_iff.1 hy).1
          have hie : i = pre.length := by simp at hi2; omega
          subst hie
          simp at hy; subst hy; exact hx1
      · refine (((((hm.trans A2.mod).trans M3).trans M5).trans M6).trans A10.mod).less fun i hi hlt => ?_
        have : i ∈ rowS s.a → W0.heap.size + 2 ≤ i := fun hh => (hrow i hh).1
        simp at hi ⊢
        rcases hi with hi | hi | hi | hi
        all_goals first | exact hi | omega | (have := this hi; omega)
    case post =>
      intro e a1 W1 hq
      cases e with
      | normal =>
        obtain ⟨q1, q2⟩ := hq
        refine ⟨q1, fun lp' => wpIn_mono (q2 lp') ?_⟩
        rintro e a' W' ⟨rfl, a, n, c, h3, h4, h5⟩
        exact ⟨rfl, by rw [h3]; exact World.putObj_heap_same (lt_of_block' q1), h4, h5⟩
      | _ => exact hq.elim
  case done =>
    rintro W xs hxs ⟨s, hb, hr, ho, hx, hm⟩ hK
    have hc : W.cell? ⟨w.heap.size, 0, none⟩ = some (.slice s.a s.n s.c) := by rw [cell_at hb]; rfl
    gi_wp2
    refine ⟨by simp, .inl ⟨_, _, rfl, run_takeDeferred hK, ?_⟩⟩
    refine ⟨_, results_tmp rfl _ _ _, s, rfl, ?_⟩
    have M := putObj_mod W W0.heap.size (.deferred none)
    refine ⟨⟨xs, (hr.keep M fun ad ha hk => by have := hr.base ad ha; simp at hk; omega).rebase (by omega), fun y hy => ((ho y hy).keepB M (by simp)).rebase (by omega), ?_⟩, (hMw hm).go0 M (by simp; omega)⟩
    apply List.ext_getElem?
    intro i
    rw [asksL, List.getElem?_map, List.getElem?_map]
    by_cases hi : i < rp.toNat
    · obtain ⟨y, hy⟩ : ∃ y, xs[i]? = some y := ⟨_, List.getElem?_eq_getElem (by omega)⟩
      rw [hy, List.getElem?_range hi]
      simp [hx i y hy]
    · rw [List.getElem?_eq_none (by omega), List.getElem?_eq_none (by simp; omega)]; rfl
end

theorem Collect_ok {b1 b0 : Nat} {cl rp n v : Int} {c : PCall} (hrp : mayB rp = true) (w : World) (h1 : w.heap[b1]? = some (.cells #[.pointer (some ⟨b0, 0, none⟩)] 23)) (h2 : Ses w b0 cl rp n v (some c)) :
    Calls Tryz.prog 67 #[.func (.func 68) #[] #[.pointer (some ⟨b1, 0, none⟩)]] w fun e w' => ∃ u, e = .returned u ∧ ∃ s : Sl, u = .slice s.a s.n s.c ∧ MailsOwn w' w.heap.size s (asksL cl rp c) ∧ Mod [] w w' := by
  refine slices_Collect_api_Mail_go ?_
  refine (callsIn_wide.1 (Append_in hrp w h1 h2)).mono ?_
  rintro e w' ⟨s, rfl, h3, h4⟩
  exact ⟨_, _, _, rfl, s, rfl, h3, h4⟩
def retryL (cl rp : Int) : Option PCall → List PMail
  | none => []
  | some c => asksL cl rp c
theorem Retry_ok {w : World} {b0 : Nat} {cl rp n v : Int} {o : Option PCall} (hrp : mayB rp = true) (h : Ses w b0 cl rp n v o) :
    Calls Tryz.prog 18 #[.pointer (some ⟨b0, 0, none⟩)] w fun e w' => ∃ u, e = .returned u ∧ ∃ s : Sl, u = .slice s.a s.n s.c ∧ MailsOwn w' w.heap.size s (retryL cl rp o) ∧ Mod [] w w' := by
  obtain ⟨p, h1, h2⟩ := h.obj
  refine session_Session_Retry_go h1 ?_
  intro b1 f1 w2 A2 hb0
  refine ldPtr_of (x := p) (by rw [cell_at hb0]; rfl) ?_
  cases o with
  | none =>
    have h2 : p = none := h2
    subst h2
    exact brB_of (fun _ => ⟨nilS, rfl, ⟨[], Row.nil .., by simp, rfl⟩, A2.mod⟩) fun g => by cases g
  | some c =>
    obtain ⟨b9, rs, ts, rfl, h4, h5, h6⟩ := h2
    refine brB_of (fun g => by cases g) fun _ => ?_
    intro w4 A4 hb04 hb14
    have s2 := A2.mod.size
    have s4 := A4.mod.size
    have N4 := A2.mod.go0 A4.mod (by simp)
    have hS := h.keep0 N4
    refine (Collect_ok hrp w4 hb14 hS).mono ?_
    rintro e w5 ⟨_, rfl, s, rfl, hM, M5⟩
    obtain ⟨ll, hl1, hl2, hl3⟩ := hM
    exact ⟨_, _, _, rfl, _, _, _, _, _, M5.keep0 hb04, _, M5.keep0 hb14, s, rfl, ⟨ll, hl1.rebase (by omega), fun y hy => (hl2 y hy).rebase (by omega), hl3⟩, N4.go0 M5 (by simp)⟩
end Go.Proofs.YtohgihgddknmmaaGreat

/- Are commands, calls, messages the same? The document's answers. -/
namespace Go.Proofs.YtohgihgddknmmaaGreat
open Go Go.RowKit
set_option linter.unusedVariables false
set_option linter.unusedSimpArgs false

theorem TextsR_ok {w : World} {a1 a2 : Option Addr} {n1 c1 n2 c2 : Nat} {l1 l2 : List ByteArray} (h1 : SlAt w 1 encS a1 n1 l1) (h2 : SlAt w 1 encS a2 n2 l2) (hl : l1.length ≤ 1000000) :
    Calls Tryz.prog 121 #[.slice a1 n1 c1, .slice a2 n2 c2] w fun e w' => e = .returned (.bool (decide (l1 = l2))) ∧ Mod [] w w' := by
  refine go_of (ref04_Texts_go ?_)
  have e1 := h1.1
  have e2 := h2.1
  refine brB_of (fun h => ⟨congrArg Value.bool (decide_eq_false fun e => ?_).symm, Mod.refl _⟩) fun h => ?_
  · subst e
    rw [e1, e2] at h
    simp at h
  have hlen : l1.length = l2.length := by
    simp at h
    omega
  refine ref04_Texts_rule1 (fun mm x w' => ∃ k : Nat, x = k ∧ k ≤ l1.length ∧ l1.take k = l2.take k ∧ Mod [] w w' ∧ mm = l1.length - k) l1.length ⟨0, rfl, by omega, by simp, Mod.refl _, rfl⟩ ?_
  rintro mm x w1 ⟨k, rfl, hk, ht, M, rfl⟩
  refine brB_dec (fun hlt => ?_) fun hge => ?_
  · have g1 : k < l1.length := by omega
    have g2 : k < l2.length := by omega
    obtain ⟨x, hx⟩ : ∃ x, l1[k]? = some x := ⟨_, List.getElem?_eq_getElem g1⟩
    obtain ⟨y, hy⟩ : ∃ y, l2[k]? = some y := ⟨_, List.getElem?_eq_getElem g2⟩
    refine (h1.keep0 M).ix hx fun q hq => ldStr_of (by simpa [add_zero] using hq 0 _ rfl) ?_
    refine (h2.keep0 M).ix hy fun q hq => ldStr_of (by simpa [add_zero] using hq 0 _ rfl) ?_
    rw [strEq x y]
    refine brB_of (fun hne => ?_) fun heq => ?_
    rotate_left
    rotate_right
    · intro w2 A2
      refine ⟨congrArg Value.bool (decide_eq_false fun e => (show ¬ x = y by simpa using hne) ?_).symm, M.go0 A2.mod (by simp)⟩
      subst e
      rw [hx] at hy
      exact Option.some.inj hy
    · intro w2 A2
      have he : x = y := by simpa using heq
      subst he
      exact ref04_Texts_leaf1 (l1.length - (k + 1)) (by omega) ⟨k + 1, by rw [wrap_id (by omega) (by omega)]; omega, by omega, take_step ht hx hy, M.go0 A2.mod (by simp), rfl⟩
  · have hk : k = l1.length := by omega
    subst hk
    rw [List.take_length, hlen, List.take_length] at ht
    exact ⟨congrArg Value.bool (decide_eq_true ht).symm, M⟩
theorem RecordsR_ok {w : World} {a1 a2 : Option Addr} {n1 c1 n2 c2 : Nat} {l1 l2 : List PRec} (h1 : SlAt w 4 encR a1 n1 l1) (h2 : SlAt w 4 encR a2 n2 l2) (hl : l1.length ≤ 1000000) :
    Calls Tryz.prog 150 #[.slice a1 n1 c1, .slice a2 n2 c2] w fun e w' => e = .returned (.bool (decide (l1 = l2))) ∧ Mod [] w w' := by
  refine go_of (ref03_Records_go ?_)
  have e1 := h1.1
  have e2 := h2.1
  refine brB_of (fun h => ⟨congrArg Value.bool (decide_eq_false fun e => ?_).symm, Mod.refl _⟩) fun h => ?_
  · subst e
    rw [e1, e2] at h
    simp at h
  have hlen : l1.length = l2.length := by
    simp at h
    omega
  refine ref03_Records_rule1 (fun mm x w' => ∃ k : Nat, x = k ∧ k ≤ l1.length ∧ l1.take k = l2.take k ∧ Mod [] w w' ∧ mm = l1.length - k) l1.length ⟨0, rfl, by omega, by simp, Mod.refl _, rfl⟩ ?_
  rintro mm x w1 ⟨k, rfl, hk, ht, M, rfl⟩
  refine brB_dec (fun hlt => ?_) fun hge => ?_
  · have g1 : k < l1.length := by omega
    have g2 : k < l2.length := by omega
    obtain ⟨x, hx⟩ : ∃ x, l1[k]? = some x := ⟨_, List.getElem?_eq_getElem g1⟩
    obtain ⟨y, hy⟩ : ∃ y, l2[k]? = some y := ⟨_, List.getElem?_eq_getElem g2⟩
    refine (h1.keep0 M).ix hx fun q hq => ldBool_of (by simpa [add_zero] using hq 0 _ rfl) (ldStr_of (hq 1 _ rfl) (ldBool_of (hq 2 _ rfl) (ldStr_of (hq 3 _ rfl) ?_)))
    refine (h2.keep0 M).ix hy fun q hq => ldBool_of (by simpa [add_zero] using hq 0 _ rfl) (ldStr_of (hq 1 _ rfl) (ldBool_of (hq 2 _ rfl) (ldStr_of (hq 3 _ rfl) ?_)))
    refine ⟨_, fun w' _ => neR x y _ _ w', ?_⟩
    refine brB_dec (fun hne => ?_) fun heq => ?_
    · intro w2 A2
      refine ⟨congrArg Value.bool (decide_eq_false fun e => hne ?_).symm, M.go0 A2.mod (by simp)⟩
      subst e
      rw [hx] at hy
      exact Option.some.inj hy
    · intro w2 A2
      have he : x = y := Decidable.not_not.1 heq
      subst he
      exact ref03_Records_leaf1 (l1.length - (k + 1)) (by omega) ⟨k + 1, by rw [wrap_id (by omega) (by omega)]; omega, by omega, take_step ht hx hy, M.go0 A2.mod (by simp), rfl⟩
  · have hk : k = l1.length := by omega
    subst hk
    rw [List.take_length, hlen, List.take_length] at ht
    exact ⟨congrArg Value.bool (decide_eq_true ht).symm, M⟩
theorem BatchR_ok {w : World} {x y : PBatch} {s t : Sl} (h1 : SlAt w 4 encR s.a s.n x.recs) (h2 : SlAt w 4 encR t.a t.n y.recs) (hl : x.recs.length ≤ 1000000) :
    Calls Tryz.prog 120 #[x.v s, y.v t] w fun e w' => e = .returned (.bool (decide (x = y))) ∧ Mod [] w w' := by
  obtain ⟨a1, a2, a3, a4⟩ := x
  obtain ⟨b1, b2, b3, b4⟩ := y
  refine go_of (ref03_Same_go ?_)
  intro c1 f1 c2 f2
  simp only [PBatch.mk.injEq]
  refine brB_of (fun g1 => ?_) fun g1 => ?_
  · have g1 : a1 = b1 := by simpa using g1
    refine brB_of (fun g2 => ?_) fun g2 => ?_
    · have g2 : a2 = b2 := by simpa using g2
      refine brB_of (fun g3 => ?_) fun g3 => ?_
      · have g3 : a3 = b3 := by simpa using g3
        intro w1 A1
        refine (RecordsR_ok (h1.keep0 A1.mod) (h2.keep0 A1.mod) hl).mono ?_
        rintro e w2 ⟨rfl, M2⟩
        exact ⟨_, rfl, Keep.of0 M2, by simp [g1, g2, g3], A1.mod.go0 M2 (by simp)⟩
      · intro w1 A1
        exact ⟨congrArg Value.bool (decide_eq_false (by simp at g3; rintro ⟨_, _, h, _⟩; exact g3 h)).symm, A1.mod⟩
    · intro w1 A1
      exact ⟨congrArg Value.bool (decide_eq_false (by simp at g2; rintro ⟨_, h, _⟩; exact g2 h)).symm, A1.mod⟩
  · intro w1 A1
    exact ⟨congrArg Value.bool (decide_eq_false (by simp at g1; rintro ⟨h, _⟩; exact g1 h)).symm, A1.mod⟩

theorem ldOp_of {w : World} {a : Addr} {o : POp} {rs ts : Sl} {F : Int → ByteArray → Int → Int → Int → Int → Int → Int → Option Addr → Nat → Nat → ByteArray → ByteArray → Int → Bool → Option Addr → Nat → Nat → Prop} (h : ∀ j v, (o.cs rs ts)[j]? = some v → w.cell? (a.add j) = some v) (hF : F o.kind o.part.t o.part.n o.n o.off o.b.prod o.b.epoch o.b.seq rs.a rs.n rs.c o.g o.m o.gen o.robin ts.a ts.n ts.c) :
    ldInt .i64 w a fun x0 => ldStr w (a.add 1) fun x1 => ldInt .i64 w (a.add 2) fun x2 => ldInt .i64 w (a.add 3) fun x3 => ldInt .i64 w (a.add 4) fun x4 => ldInt .i64 w (a.add 5) fun x5 => ldInt .i64 w (a.add 6) fun x6 => ldInt .i64 w (a.add 7) fun x7 => ldSlice w (a.add 8) fun a8 n8 c8 => ldStr w (a.add 9) fun x9 => ldStr w (a.add 10) fun x10 => ldInt .i64 w (a.add 11) fun x11 => ldBool w (a.add 12) fun x12 => ldSlice w (a.add 13) fun a13 n13 c13 => F x0 x1 x2 x3 x4 x5 x6 x7 a8 n8 c8 x9 x10 x11 x12 a13 n13 c13 :=
  ldInt_of (x := o.kind) (by simpa [add_zero] using h 0 _ rfl) (ldStr_of (h 1 _ rfl) (ldInt_of (h 2 _ rfl) (ldInt_of (h 3 _ rfl) (ldInt_of (h 4 _ rfl) (ldInt_of (h 5 _ rfl) (ldInt_of (h 6 _ rfl) (ldInt_of (h 7 _ rfl) (ldSlice_of (h 8 _ rfl) (ldStr_of (h 9 _ rfl) (ldStr_of (h 10 _ rfl) (ldInt_of (h 11 _ rfl) (ldBool_of (h 12 _ rfl) (ldSlice_of (h 13 _ rfl) hF)))))))))))))

theorem ldMail_of {w : World} {a : Addr} {m : PMail} {s f p : Sl} {F : Int → Int → Int → Int → Int → Int → Int → Int → Int → Int → Option Addr → Nat → Nat → Int → Int → Int → Int → Option Addr → Nat → Nat → Option Addr → Nat → Nat → Prop} (h : ∀ j v, (m.cs s f p)[j]? = some v → w.cell? (a.add j) = some v) (hF : F m.kind m.fr m.to m.view m.normal m.last m.commit m.nonce m.base m.n s.a s.n s.c m.r.e m.r.off m.r.n m.r.gen f.a f.n f.c p.a p.n p.c) :
    ldInt .i64 w a fun x0 => ldInt .i64 w (a.add 1) fun x1 => ldInt .i64 w (a.add 2) fun x2 => ldInt .i64 w (a.add 3) fun x3 => ldInt .i64 w (a.add 4) fun x4 => ldInt .i64 w (a.add 5) fun x5 => ldInt .i64 w (a.add 6) fun x6 => ldInt .i64 w (a.add 7) fun x7 => ldInt .i64 w (a.add 8) fun x8 => ldInt .i64 w (a.add 9) fun x9 => ldSlice w (a.add 10) fun a10 n10 c10 => ldInt .i64 w (a.add 11) fun x11 => ldInt .i64 w (a.add 12) fun x12 => ldInt .i64 w (a.add 13) fun x13 => ldInt .i64 w (a.add 14) fun x14 => ldSlice w (a.add 15) fun a15 n15 c15 => ldSlice w (a.add 16) fun a16 n16 c16 => F x0 x1 x2 x3 x4 x5 x6 x7 x8 x9 a10 n10 c10 x11 x12 x13 x14 a15 n15 c15 a16 n16 c16 :=
  ldInt_of (x := m.kind) (by simpa [add_zero] using h 0 _ rfl) (ldInt_of (h 1 _ rfl) (ldInt_of (h 2 _ rfl) (ldInt_of (h 3 _ rfl) (ldInt_of (h 4 _ rfl) (ldInt_of (h 5 _ rfl) (ldInt_of (h 6 _ rfl) (ldInt_of (h 7 _ rfl) (ldInt_of (h 8 _ rfl) (ldInt_of (h 9 _ rfl) (ldSlice_of (h 10 _ rfl) (ldInt_of (h 11 _ rfl) (ldInt_of (h 12 _ rfl) (ldInt_of (h 13 _ rfl) (ldInt_of (h 14 _ rfl) (ldSlice_of (h 15 _ rfl) (ldSlice_of (h 16 _ rfl) hF))))))))))))))))

theorem OpR_ok {w : World} {x y : POp} {rs ts rs' ts' : Sl} (h1 : OpAt w x rs ts) (h2 : OpAt w y rs' ts') :
    Calls Tryz.prog 74 #[x.v rs ts, y.v rs' ts'] w fun e w' => e = .returned (.bool (decide (x = y))) ∧ Mod [] w w' := by
  obtain ⟨k1, p1, n1, o1, b1, g1, m1, e1, r1, t1⟩ := x
  obtain ⟨k2, p2, n2, o2, b2, g2, m2, e2, r2, t2⟩ := y
  refine go_of (ref04_Same_go ?_)
  intro c1 f1 c2 f2
  simp only [POp.mk.injEq]
  have no : ∀ {P : Prop} [Decidable P] {w' : World}, ¬ P → Mod [] w w' → (Value.bool false = Value.bool (decide P) ∧ Mod [] w w') := fun hn M => ⟨congrArg Value.bool (decide_eq_false hn).symm, M⟩
  refine brB_of (fun q1 => ?_) fun q1 => ?_
  rotate_left
  · intro w1 A1
    exact no (by simp at q1; rintro ⟨h, _⟩; exact q1 h) A1.mod
  have q1 : k1 = k2 := by simpa using q1
  intro w1 A1
  have M1 := A1.mod
  refine ⟨_, fun w' _ => eqPp p1 p2 _ _ w', brB_of (fun q2 => ?_) fun q2 => no (by simp at q2; rintro ⟨_, h, _⟩; exact q2 h) M1⟩
  have q2 : p1 = p2 := by simpa using q2
  refine brB_of (fun q3 => ?_) fun q3 => no (by simp at q3; rintro ⟨_, _, h, _⟩; exact q3 h) M1
  have q3 : n1 = n2 := by simpa using q3
  refine brB_of (fun q4 => ?_) fun q4 => no (by simp at q4; rintro ⟨_, _, _, h, _⟩; exact q4 h) M1
  have q4 : o1 = o2 := by simpa using q4
  refine (BatchR_ok (x := b1) (y := b2) (s := rs) (t := rs') (h1.recs.keep0 M1) (h2.recs.keep0 M1) h1.lr).mono ?_
  rintro e w2 ⟨rfl, M2⟩
  have N2 := M1.go0 M2 (by simp)
  refine ⟨_, rfl, Keep.of0 M2, brB_of (fun q9 => ?_) fun q9 => no (by simp at q9; rintro ⟨_, _, _, _, h, _⟩; exact q9 h) N2⟩
  have q9 : b1 = b2 := by simpa using q9
  rw [strEq, strEq]
  refine brB_of (fun q5 => ?_) fun q5 => no (by simp at q5; rintro ⟨_, _, _, _, _, h, _⟩; exact q5 h) N2
  have q5 : g1 = g2 := by simpa using q5
  refine brB_of (fun q6 => ?_) fun q6 => no (by simp at q6; rintro ⟨_, _, _, _, _, _, h, _⟩; exact q6 h) N2
  have q6 : m1 = m2 := by simpa using q6
  refine brB_of (fun q7 => ?_) fun q7 => no (by simp at q7; rintro ⟨_, _, _, _, _, _, _, h, _⟩; exact q7 h) N2
  have q7 : e1 = e2 := by simpa using q7
  refine brB_of (fun q8 => ?_) fun q8 => no (by simp at q8; rintro ⟨_, _, _, _, _, _, _, _, h, _⟩; exact q8 h) N2
  have q8 : r1 = r2 := by simpa using q8
  refine (TextsR_ok (h1.topics.keep0 N2) (h2.topics.keep0 N2) h1.lt).mono ?_
  rintro e w3 ⟨rfl, M3⟩
  exact ⟨_, rfl, Keep.of0 M3, by simp [q1, q2, q3, q4, q5, q6, q7, q8, q9], N2.go0 M3 (by simp)⟩

theorem op_cells {w : World} {q : CV} {a : Addr} (h : ∀ j v, q.cs[j]? = some v → w.cell? (a.add j) = some v) : ∀ j v, (q.x.op.cs q.rs q.ts)[j]? = some v → w.cell? ((a.add 2).add j) = some v := fun j v hv => by
  rw [add_add, Nat.add_comm 2 j]
  exact h (j + 2) v hv
theorem CallsR_ok {w : World} {s t : Sl} {xs ys : List PCall} (h : CallsAt w s xs) (h' : CallsAt w t ys) (hl : xs.length ≤ 1000000) :
    Calls Tryz.prog 28 #[.slice s.a s.n s.c, .slice t.a t.n t.c] w fun e w' => e = .returned (.bool (decide (xs = ys))) ∧ Mod [] w w' := by
  obtain ⟨la, hA, gA, rfl⟩ := h
  obtain ⟨lb, hB, gB, rfl⟩ := h'
  have hl : la.length ≤ 1000000 := by simpa using hl
  have e1 := hA.1
  have e2 := hB.1
  refine go_of (ref16_Same_go ?_)
  refine brB_of (fun g => ⟨congrArg Value.bool (decide_eq_false fun e => ?_).symm, Mod.refl _⟩) fun g => ?_
  · have := congrArg List.length e
    simp at this g
    omega
  have g : la.length = lb.length := by simp at g; omega
  refine ref16_Same_rule1 (fun mm x w' => ∃ k : Nat, x = k ∧ k ≤ la.length ∧ (la.take k).map (·.x) = (lb.take k).map (·.x) ∧ Mod [] w w' ∧ mm = la.length - k) la.length ⟨0, rfl, by omega, by simp, Mod.refl _, rfl⟩ ?_
  rintro mm x w1 ⟨k, rfl, hk, ht, M1, rfl⟩
  refine brB_dec (fun hlt => ?_) fun hge => ?_
  · have g1 : k < la.length := by omega
    have g2 : k < lb.length := by omega
    obtain ⟨x, hx⟩ : ∃ x, la[k]? = some x := ⟨_, List.getElem?_eq_getElem g1⟩
    obtain ⟨y, hy⟩ : ∃ y, lb[k]? = some y := ⟨_, List.getElem?_eq_getElem g2⟩
    have bad : ∀ {w'}, x.x ≠ y.x → Mod [] w w' → (Value.bool false = Value.bool (decide (la.map (·.x) = lb.map (·.x))) ∧ Mod [] w w') := fun {w'} hne M => by
      refine ⟨congrArg Value.bool (decide_eq_false fun e => hne ?_).symm, M⟩
      have := congrArg (fun l : List PCall => l[k]?) e
      simpa [hx, hy] using this
    refine (hA.keep0 M1).ixW hx fun q hq => ?_
    intro w2 A2
    have hq := hq w2 A2.mod
    have N2 := M1.go0 A2.mod (by simp)
    refine ldInt_of (x := x.x.c) (by simpa [add_zero] using hq 0 _ rfl) ?_
    refine (hB.keep0 N2).ix hy fun q' hq' => ldInt_of (x := y.x.c) (by simpa [add_zero] using hq' 0 _ rfl) ?_
    refine brB_of (fun h1 => bad (fun e => by simp [e] at h1) N2) fun h1 => ?_
    have h1 : x.x.c = y.x.c := by simpa using h1
    refine (hA.keep0 N2).ix hx fun q hq => ldInt_of (x := x.x.n) (hq 1 _ rfl) ?_
    refine (hB.keep0 N2).ix hy fun q' hq' => ldInt_of (x := y.x.n) (hq' 1 _ rfl) ?_
    refine brB_of (fun h2 => bad (fun e => by simp [e] at h2) N2) fun h2 => ?_
    have h2 : x.x.n = y.x.n := by simpa using h2
    refine (hA.keep0 N2).ix hx fun q hq => ldOp_of (op_cells hq) ?_
    refine (hB.keep0 N2).ix hy fun q' hq' => ldOp_of (op_cells hq') ?_
    refine (OpR_ok ((gA x (List.mem_of_getElem? hx)).keep0 N2) ((gB y (List.mem_of_getElem? hy)).keep0 N2)).mono ?_
    rintro e w3 ⟨rfl, M3⟩
    have N3 := N2.go0 M3 (by simp)
    refine ⟨_, rfl, brB_of (fun h3 => bad (fun e => by simp [e] at h3) N3) fun h3 => ?_⟩
    have h3 : x.x.op = y.x.op := by simpa using h3
    have he : x.x = y.x := by
      obtain ⟨⟨a, b, c⟩, _, _⟩ := x
      obtain ⟨⟨a', b', c'⟩, _, _⟩ := y
      simp at h1 h2 h3 ⊢; exact ⟨h1, h2, h3⟩
    exact ref16_Same_leaf1 (la.length - (k + 1)) (by omega) ⟨k + 1, by rw [wrap_id (by omega) (by omega)]; omega, by omega, by rw [List.take_add_one, List.take_add_one, hx, hy, List.map_append, List.map_append, ht]; simp [he], N3, rfl⟩
  · have hk : k = la.length := by omega
    subst hk
    rw [List.take_length, g, List.take_length] at ht
    exact ⟨congrArg Value.bool (decide_eq_true ht).symm, M1⟩

/-! ### messages -/
theorem nums_ok {w : World} (m : PMail) (s f p : Sl) : Calls Tryz.prog 66 #[m.v s f p] w fun e w' => ∃ v, e = .returned v ∧ ∃ b, v = .slice (some ⟨b, 0, none⟩) 10 10 ∧ SlAt w' 1 (fun x : Int => [.int .i64 x]) (some ⟨b, 0, none⟩) 10 (numsL m) ∧ Mod [] w w' := by
  refine ref18_nums_go ?_
  intro b1 f1 w2 A2
  refine al_of fun b w1 c1 M1 f1 => ?_
  refine ⟨b, rfl, ⟨rfl, fun i x hx => ⟨_, rfl, fun j v hv => ?_⟩⟩, A2.mod.go0 M1 (by simp)⟩
  have hj : j = 0 := by have := (List.getElem?_eq_some_iff.1 hv).1; simp at this; omega
  subst hj
  simp at hv; subst hv
  rw [addr_add, addr_add, cell_at c1]
  have hi := (List.getElem?_eq_some_iff.1 hx).1
  simp [numsL] at hi
  match i, hi, hx with
  | 0, _, hx | 1, _, hx | 2, _, hx | 3, _, hx | 4, _, hx | 5, _, hx | 6, _, hx | 7, _, hx | 8, _, hx | 9, _, hx => simp [numsL] at hx; subst hx; rfl
theorem MailR_ok {w : World} {m m' : PMail} {s f p s' f' p' : Sl} (h : MailAt w m s f p) (h' : MailAt w m' s' f' p') (hl : m.calls.length ≤ 1000000) :
    Calls Tryz.prog 17 #[m.v s f p, m'.v s' f' p'] w fun e w' => e = .returned (.bool (decide (m = m'))) ∧ Mod [] w w' := by
  refine go_of (ref18_Same_go ?_)
  intro b1 f1 b2 f2 w3 A3
  refine (nums_ok m s f p).mono ?_
  rintro e w4 ⟨_, rfl, c4, rfl, h4, M4⟩
  refine ⟨_, _, _, rfl, Keep.of0 M4, rfl, ?_⟩
  refine (nums_ok m' s' f' p').mono ?_
  rintro e w5 ⟨_, rfl, c5, rfl, h5, M5⟩
  refine ⟨_, _, _, rfl, Keep.of0 M5, ?_⟩
  have N5 := (A3.mod.go0 M4 (by simp)).go0 M5 (by simp)
  have h4 := h4.keep0 M5
  have hm : m = m' ↔ numsL m = numsL m' ∧ m.calls = m'.calls ∧ m.r = m'.r := by
    obtain ⟨a1, a2, a3, a4, a5, a6, a7, a8, a9, a10, a11, a12⟩ := m
    obtain ⟨b1, b2, b3, b4, b5, b6, b7, b8, b9, b10, b11, b12⟩ := m'
    simp [numsL, and_assoc]
  have no : ∀ {w'}, m ≠ m' → Mod [] w w' → (Value.bool false = Value.bool (decide (m = m')) ∧ Mod [] w w') := fun hn M => ⟨congrArg Value.bool (decide_eq_false hn).symm, M⟩
  refine ref18_Same_rule1 (fun mm x w' => ∃ k : Nat, x = k ∧ k ≤ 10 ∧ (numsL m).take k = (numsL m').take k ∧ Mod [] w5 w' ∧ mm = 10 - k) 10 ⟨0, rfl, by omega, by simp, Mod.refl _, rfl⟩ ?_
  rintro mm x w6 ⟨k, rfl, hk, ht, M6, rfl⟩
  have N6 := N5.go0 M6 (by simp)
  refine brB_dec (fun hlt => ?_) fun hge => ?_
  · have hk : k < 10 := by omega
    obtain ⟨x, hx⟩ : ∃ x, (numsL m)[k]? = some x := ⟨_, List.getElem?_eq_getElem (by simpa [numsL] using hk)⟩
    obtain ⟨y, hy⟩ : ∃ y, (numsL m')[k]? = some y := ⟨_, List.getElem?_eq_getElem (by simpa [numsL] using hk)⟩
    refine (h4.keep0 M6).ix hx fun q hq => ldInt_of (x := x) (by simpa [add_zero] using hq 0 _ rfl) ?_
    refine (h5.keep0 M6).ix hy fun q hq => ldInt_of (x := y) (by simpa [add_zero] using hq 0 _ rfl) ?_
    refine brB_of (fun g => fun w7 A7 => no (fun e => ?_) (N6.go0 A7.mod (by simp))) fun g => fun w7 A7 => ?_
    · subst e
      rw [hx] at hy
      have := Option.some.inj hy
      simp [this] at g
    · have g : x = y := by simpa using g
      subst g
      exact ref18_Same_leaf1 (10 - (k + 1)) (by omega) ⟨k + 1, by rw [wrap_id (by omega) (by omega)]; omega, by omega, take_step ht hx hy, M6.go0 A7.mod (by simp), rfl⟩
  · have hk : k = 10 := by omega
    subst hk
    rw [List.take_of_length_le (by simp [numsL]), List.take_of_length_le (by simp [numsL])] at ht
    refine (CallsR_ok (s := s) (t := s') (h.calls.keep0 N6) (h'.calls.keep0 N6) hl).mono ?_
    rintro e w7 ⟨rfl, M7⟩
    have N7 := N6.go0 M7 (by simp)
    refine ⟨_, rfl, Keep.of0 M7, brB_of (fun g => ?_) fun g => no (fun e => by simp [e] at g) N7⟩
    have g : m.calls = m'.calls := by simpa using g
    refine (RAlike_ok (h.rep.keep0 N7) (h'.rep.keep0 N7)).mono ?_
    rintro e w8 ⟨rfl, M8⟩
    refine ⟨_, rfl, Keep.of0 M8, ?_, N7.go0 M8 (by simp)⟩
    congr 1
    apply Bool.eq_iff_iff.2
    simp [hm, ht, g]
theorem AllR_ok {w : World} {s t : Sl} {xs ys : List PMail} {B B' : Nat} (h : MailsOwn w B s xs) (h' : MailsOwn w B' t ys) (hl : xs.length ≤ 1000000) (hc : ∀ m ∈ xs, m.calls.length ≤ 1000000) :
    Calls Tryz.prog 19 #[.slice s.a s.n s.c, .slice t.a t.n t.c] w fun e w' => e = .returned (.bool (decide (xs = ys))) ∧ Mod [] w w' := by
  obtain ⟨la, hA, gA, rfl⟩ := h
  obtain ⟨lb, hB, gB, rfl⟩ := h'
  have hA := hA.sl MV.cs_len
  have hB := hB.sl MV.cs_len
  have hl : la.length ≤ 1000000 := by simpa using hl
  have e1 := hA.1
  have e2 := hB.1
  refine go_of (ref18_All_go ?_)
  refine brB_of (fun g => ⟨congrArg Value.bool (decide_eq_false fun e => ?_).symm, Mod.refl _⟩) fun g => ?_
  · have := congrArg List.length e
    simp at this g
    omega
  have g : la.length = lb.length := by simp at g; omega
  refine ref18_All_rule1 (fun mm x w' => ∃ k : Nat, x = k ∧ k ≤ la.length ∧ (la.take k).map (·.m) = (lb.take k).map (·.m) ∧ Mod [] w w' ∧ mm = la.length - k) la.length ⟨0, rfl, by omega, by simp, Mod.refl _, rfl⟩ ?_
  rintro mm x w1 ⟨k, rfl, hk, ht, M1, rfl⟩
  refine brB_dec (fun hlt => ?_) fun hge => ?_
  · have g1 : k < la.length := by omega
    have g2 : k < lb.length := by omega
    obtain ⟨x, hx⟩ : ∃ x, la[k]? = some x := ⟨_, List.getElem?_eq_getElem g1⟩
    obtain ⟨y, hy⟩ : ∃ y, lb[k]? = some y := ⟨_, List.getElem?_eq_getElem g2⟩
    have bad : ∀ {w'}, x.m ≠ y.m → Mod [] w w' → (Value.bool false = Value.bool (decide (la.map (·.m) = lb.map (·.m))) ∧ Mod [] w w') := fun {w'} hne M => by
      refine ⟨congrArg Value.bool (decide_eq_false fun e => hne ?_).symm, M⟩
      have := congrArg (fun l : List PMail => l[k]?) e
      simpa [hx, hy] using this
    refine (hA.keep0 M1).ixW hx fun q hq => ?_
    intro w2 A2
    have hq := hq w2 A2.mod
    have N2 := M1.go0 A2.mod (by simp)
    refine ldMail_of (m := x.m) (s := x.s) (f := x.f) (p := x.p) hq ?_
    refine (hB.keep0 N2).ix hy fun q' hq' => ldMail_of (m := y.m) (s := y.s) (f := y.f) (p := y.p) hq' ?_
    refine (MailR_ok (((gA x (List.mem_of_getElem? hx)).at).keep0 N2) (((gB y (List.mem_of_getElem? hy)).at).keep0 N2) (hc _ (List.mem_map.2 ⟨x, List.mem_of_getElem? hx, rfl⟩))).mono ?_
    rintro e w3 ⟨rfl, M3⟩
    have N3 := N2.go0 M3 (by simp)
    refine ⟨_, rfl, brB_of (fun h3 => bad (fun e => by simp [e] at h3) N3) fun h3 => ?_⟩
    have he : x.m = y.m := by simpa using h3
    exact ref18_All_leaf1 (la.length - (k + 1)) (by omega) ⟨k + 1, by rw [wrap_id (by omega) (by omega)]; omega, by omega, by rw [List.take_add_one, List.take_add_one, hx, hy, List.map_append, List.map_append, ht]; simp [he], N3, rfl⟩
  · have hk : k = la.length := by omega
    subst hk
    rw [List.take_length, g, List.take_length] at ht
    exact ⟨congrArg Value.bool (decide_eq_true ht).symm, M1⟩
end Go.Proofs.YtohgihgddknmmaaGreat

/- The document's check of a command. -/
namespace Go.Proofs.YtohgihgddknmmaaGreat
open Go Go.RowKit
set_option linter.unusedVariables false
set_option linter.unusedSimpArgs false

/-! ### letters -/
def hasS (k : Int) : ByteArray := ⟨((hasL k).map UInt8.ofNat).toArray⟩
def amongB (s : ByteArray) (c : Int) : Bool := s.data.toList.any fun b => decide ((b.toNat : Int) = c)
theorem kind_cases {k : Int} (h0 : 0 ≤ k) (h1 : k ≤ 12) : k = 0 ∨ k = 1 ∨ k = 2 ∨ k = 3 ∨ k = 4 ∨ k = 5 ∨ k = 6 ∨ k = 7 ∨ k = 8 ∨ k = 9 ∨ k = 10 ∨ k = 11 ∨ k = 12 := by omega
theorem has_ok {k : Int} (h0 : 0 ≤ k) (h1 : k ≤ 12) (w : World) : Calls Tryz.prog 105 #[.int .i64 k] w fun e w' => e = .returned (.string (hasS k)) ∧ Mod [] w w' := by
  refine go_of (ref04_has_go ?_)
  refine al_of fun b w1 c1 M1 f1 => ?_
  rcases kind_cases h0 h1 with rfl | rfl | rfl | rfl | rfl | rfl | rfl | rfl | rfl | rfl | rfl | rfl | rfl
  all_goals exact ⟨_, rfl, by decide, by decide, ldStr_of (by rw [addr_add, cell_at c1]; rfl) ⟨rfl, M1⟩⟩
theorem Among_ok (s : ByteArray) (hs : s.size ≤ 1000000) (c : Int) (w : World) : Calls Tryz.prog 107 #[.string s, .int .u8 c] w fun e w' => e = .returned (.bool (amongB s c)) ∧ w' = w := by
  refine go_of (ref04_among_go ?_)
  refine ref04_among_rule1 (fun mm x w' => ∃ k : Nat, x = k ∧ k ≤ s.size ∧ ((s.data.toList.take k).any fun b => decide ((b.toNat : Int) = c)) = false ∧ w' = w ∧ mm = s.size - k) s.size ⟨0, rfl, by omega, by simp, rfl, rfl⟩ ?_
  rintro mm x w' ⟨k, rfl, hk, ha, rfl, rfl⟩
  refine brB_dec (fun hlt => ?_) fun hge => ?_
  · have hk' : k < s.size := by omega
    obtain ⟨b, hb, hv⟩ := byteAt_mem hk'
    refine ⟨by omega, by omega, ?_⟩
    rw [Int.toNat_natCast, hv]
    refine brB_of (fun g => ⟨congrArg Value.bool ?_, rfl⟩) fun g => ?_
    · have g : (b.toNat : Int) = c := by simpa using g
      symm
      rw [amongB, List.any_eq_true]
      exact ⟨b, List.mem_of_getElem? hb, by simp [g]⟩
    · have g : ¬ (b.toNat : Int) = c := by simpa using g
      refine ref04_among_leaf1 (s.size - (k + 1)) (by omega) ⟨k + 1, by rw [wrap_id (by omega) (by omega)]; omega, by omega, ?_, rfl, rfl⟩
      rw [take_any hb, ha]; simp [g]
  · have hk : k = s.size := by omega
    subst hk
    rw [List.take_of_length_le (by simp)] at ha
    exact ⟨by rw [amongB, ha], rfl⟩
theorem among_ha {k : Int} (h0 : 0 ≤ k) (h1 : k ≤ 12) : ∀ c ∈ [112, 116, 110, 111, 98, 103, 109, 101, 114, 108], amongB (hasS k) ((c : Nat) : Int) = ha k c := by
  rcases kind_cases h0 h1 with rfl | rfl | rfl | rfl | rfl | rfl | rfl | rfl | rfl | rfl | rfl | rfl | rfl
  all_goals decide
theorem AmongK_ok {k : Int} (h0 : 0 ≤ k) (h1 : k ≤ 12) {c : Nat} (hc : c ∈ [112, 116, 110, 111, 98, 103, 109, 101, 114, 108]) (w : World) : Calls Tryz.prog 107 #[.string (hasS k), .int .u8 (c : Nat)] w fun e w' => e = .returned (.bool (ha k c)) ∧ w' = w := by
  have := Among_ok (hasS k) (by rcases kind_cases h0 h1 with rfl | rfl | rfl | rfl | rfl | rfl | rfl | rfl | rfl | rfl | rfl | rfl | rfl <;> decide) (c : Nat) w
  rwa [among_ha h0 h1 c hc] at this

/-! ### texts in order -/
theorem less_drop : ∀ (k : Nat) (x y : List UInt8), x.take k = y.take k → k ≤ x.length → k ≤ y.length → Op.bytesLess x y = Op.bytesLess (x.drop k) (y.drop k)
  | 0, x, y, _, _, _ => rfl
  | k + 1, [], _, _, h, _ => by simp at h
  | k + 1, _, [], _, _, h => by simp at h
  | k + 1, a :: x, b :: y, h, h1, h2 => by
    simp at h
    obtain ⟨rfl, h⟩ := h
    rw [List.drop_succ_cons, List.drop_succ_cons, ← less_drop k x y h (by simpa using h1) (by simpa using h2), Op.bytesLess]
    have : ¬ a < a := UInt8.lt_irrefl a
    simp [this]
theorem LessR_ok (s t : ByteArray) (hs : s.size ≤ 1000000) (w : World) : Calls Tryz.prog 144 #[.string s, .string t] w fun e w' => e = .returned (.bool (lessB s t)) ∧ Mod [] w w' := by
  refine go_of (ref04_Less_go ?_)
  have hl : lessB s t = Op.bytesLess s.data.toList t.data.toList := by rw [lessB, Lib.toList_data, Lib.toList_data]
  have l1 : s.data.toList.length = s.size := by simp
  have l2 : t.data.toList.length = t.size := by simp
  refine ref04_Less_rule1 (fun mm x w' => ∃ k : Nat, x = k ∧ k ≤ s.size ∧ k ≤ t.size ∧ s.data.toList.take k = t.data.toList.take k ∧ Mod [] w w' ∧ mm = s.size - k) s.size ⟨0, rfl, by omega, by omega, by simp, Mod.refl _, rfl⟩ ?_
  rintro mm x w' ⟨k, rfl, hk, hk2, ht, M, rfl⟩
  have hd : lessB s t = Op.bytesLess (s.data.toList.drop k) (t.data.toList.drop k) := by rw [hl, less_drop k _ _ ht (by omega) (by omega)]
  have dn : ∀ (l : List UInt8), l.length ≤ k → l.drop k = [] := fun l h => List.drop_eq_nil_of_le h
  refine brB_dec (fun hlt => ?_) fun hge => ?_
  · refine brB_dec (fun hlt2 => ?_) fun hge2 => ?_
    · obtain ⟨a, ha, hva⟩ := byteAt_mem (s := s) (k := k) (by omega)
      obtain ⟨b, hb, hvb⟩ := byteAt_mem (s := t) (k := k) (by omega)
      refine ⟨by omega, by omega, by omega, by omega, ?_⟩
      rw [Int.toNat_natCast, hva, hvb]
      refine brB_of (fun g => ⟨by omega, by omega, by omega, by omega, ?_⟩) fun g => ?_
      · rw [Int.toNat_natCast, hva, hvb]
        intro w2 A2
        refine ⟨congrArg Value.bool ?_, M.go0 A2.mod (by simp)⟩
        have g : a ≠ b := fun e => by simp [e] at g
        have ea := List.getElem?_eq_some_iff.1 ha
        have eb := List.getElem?_eq_some_iff.1 hb
        rw [hd, List.drop_eq_getElem_cons ea.1, List.drop_eq_getElem_cons eb.1, ea.2, eb.2, Op.bytesLess]
        have : (a == b) = false := by simpa using g
        rw [this]
        simp [UInt8.lt_iff_toNat_lt]
      · have g : a = b := by
          have : (a.toNat : Int) = b.toNat := by simpa using g
          exact UInt8.toNat_inj.1 (by omega)
        subst g
        intro w2 A2
        exact ref04_Less_leaf1 (s.size - (k + 1)) (by omega) ⟨k + 1, by rw [wrap_id (by omega) (by omega)]; omega, by omega, by omega, take_step ht ha hb, M.go0 A2.mod (by simp), rfl⟩
    · refine ⟨congrArg Value.bool ?_, M⟩
      rw [hd, dn t.data.toList (by omega)]
      have : ¬ ((s.size : Int) < (t.size : Int)) := by omega
      rw [decide_eq_false this]
      cases (s.data.toList.drop k) <;> rfl
  · refine ⟨congrArg Value.bool ?_, M⟩
    rw [hd, dn s.data.toList (by omega)]
    by_cases h2 : t.size ≤ k
    · rw [dn t.data.toList (by omega), decide_eq_false (by omega)]; rfl
    · rw [decide_eq_true (by omega), List.drop_eq_getElem_cons (l := t.data.toList) (by omega)]; rfl
theorem NamesR_ok {w : World} {l : List ByteArray} {ts : Sl} (h : SlAt w 1 encS ts.a ts.n l) :
    Calls Tryz.prog 109 #[.slice ts.a ts.n ts.c] w fun e w' => e = .returned (.bool (namesB l)) ∧ Mod [] w w' := by
  have hn := h.1
  refine go_of (ref04_names_go ?_)
  refine brB_dec (fun g => ⟨by rw [namesB, decide_eq_false (by omega)]; rfl, Mod.refl _⟩) fun g1 => ?_
  refine brB_dec (fun g => ⟨by rw [namesB, decide_eq_false (by omega)]; rfl, Mod.refl _⟩) fun g2 => ?_
  have hN : namesB l = (l.all nameB && riseB l) := by rw [namesB, decide_eq_true (by omega)]; simp
  have no1 : ∀ {w' : World}, l.all nameB = false → Mod [] w w' → (Value.bool false = Value.bool (namesB l) ∧ Mod [] w w') := fun hf M => ⟨by rw [hN, hf]; rfl, M⟩
  have no2 : ∀ {w' : World}, riseB l = false → Mod [] w w' → (Value.bool false = Value.bool (namesB l) ∧ Mod [] w w') := fun hf M => ⟨by rw [hN, hf]; simp, M⟩
  have pre : ∀ k : Nat, riseB (l.take k) = false → riseB l = false := fun k => by
    induction hm : l.length - k generalizing k with
    | zero => intro hf; rwa [List.take_of_length_le (by omega)] at hf
    | succ n ih =>
      intro hf
      refine ih (k + 1) (by omega) ?_
      cases k with
      | zero => simp [riseB] at hf
      | succ k =>
        obtain ⟨x, hx⟩ : ∃ x, l[k]? = some x := ⟨_, List.getElem?_eq_getElem (by omega)⟩
        obtain ⟨y, hy⟩ : ∃ y, l[k + 1]? = some y := ⟨_, List.getElem?_eq_getElem (by omega)⟩
        rw [rise_take hx hy, hf]; rfl
  refine ref04_names_rule1 (fun mm x w' => ∃ k : Nat, x = k ∧ k ≤ l.length ∧ (l.take k).all nameB = true ∧ riseB (l.take k) = true ∧ Mod [] w w' ∧ mm = l.length - k) l.length ⟨0, rfl, by omega, by simp, by simp [riseB], Mod.refl _, rfl⟩ ?_
  rintro mm x w1 ⟨k, rfl, hk, ha, hr, M1, rfl⟩
  refine brB_dec (fun hlt => ?_) fun hge => ?_
  · obtain ⟨x, hx⟩ : ∃ x, l[k]? = some x := ⟨_, List.getElem?_eq_getElem (by omega)⟩
    refine (h.keep0 M1).ixW hx fun q hq => ?_
    intro w2 A2
    have N2 := M1.go0 A2.mod (by simp)
    refine ldStr_of (x := x) (by simpa [add_zero] using hq w2 A2.mod 0 _ rfl) ?_
    refine (RName_ok x w2).mono ?_
    rintro e w3 ⟨rfl, rfl⟩
    have ew : IntKind.wrap .i64 ((k : Int) + 1) = ((k + 1 : Nat) : Int) := by rw [wrap_id (by omega) (by omega)]; omega
    refine ⟨_, rfl, brB_of (fun g => no1 ?_ N2) fun g => ?_⟩
    · rw [List.all_eq_false]; exact ⟨x, List.mem_of_getElem? hx, by rw [notT g]; decide⟩
    have hx1 : nameB x = true := notF g
    have ha' : (l.take (k + 1)).all nameB = true := by rw [take_all hx, ha, hx1]; rfl
    refine brB_dec (fun g3 => ?_) fun g3 => ?_
    · obtain ⟨j, rfl⟩ : ∃ j, k = j + 1 := ⟨k - 1, by omega⟩
      obtain ⟨y, hy⟩ : ∃ y, l[j]? = some y := ⟨_, List.getElem?_eq_getElem (by omega)⟩
      rw [show IntKind.wrap .i64 (((j + 1 : Nat) : Int) - 1) = ((j : Nat) : Int) by rw [wrap_id (by omega) (by omega)]; omega]
      refine (h.keep0 N2).ix hy fun q hq => ldStr_of (x := y) (by simpa [add_zero] using hq 0 _ rfl) ?_
      refine (h.keep0 N2).ix hx fun q hq => ldStr_of (x := x) (by simpa [add_zero] using hq 0 _ rfl) ?_
      have hys : y.size ≤ 16 := by
        have := List.all_eq_true.1 ha y (List.mem_of_getElem? (i := j) (by rw [List.getElem?_take]; simp [hy]))
        simp [nameB] at this; omega
      refine (LessR_ok y x (by omega) _).mono ?_
      rintro e w4 ⟨rfl, M4⟩
      have N4 := N2.go0 M4 (by simp)
      refine ⟨_, rfl, brB_of (fun g => no2 (pre (j + 2) ?_) N4) fun g => ?_⟩
      · rw [rise_take hy hx, notT g]; simp
      · exact ref04_names_leaf1 (l.length - (j + 1 + 1)) (by omega) ⟨j + 1 + 1, ew, by omega, ha', by rw [rise_take hy hx, notF g, hr]; rfl, N4, rfl⟩
    · have hk0 : k = 0 := by omega
      subst hk0
      refine ref04_names_leaf1 (l.length - (0 + 1)) (by omega) ⟨0 + 1, ew, by omega, ha', ?_, N2, rfl⟩
      cases l <;> simp [riseB]
  · have : k = l.length := by omega
    subst this
    rw [List.take_length] at ha hr
    exact ⟨by rw [hN, ha, hr]; rfl, M1⟩

/-! ### batches -/
theorem AllR3_ok {w : World} {b : PBatch} {rs : Sl} (h : SlAt w 4 encR rs.a rs.n b.recs) :
    Calls Tryz.prog 111 #[b.v rs] w fun e w' => e = .returned (.int .i64 (batchE b)) ∧ Mod [] w w' := by
  refine go_of (ref03_All_go ?_)
  have hn := h.1
  intro b1 f1 w1 A1
  have l1 := A1.lt b1 (by simp)
  have bad : ∀ {k : Int} {w' : World}, batchE b = k → Mod [] w w' → (Value.int .i64 k = Value.int .i64 (batchE b) ∧ Mod [] w w') := fun e M => ⟨by rw [e], M⟩
  refine (Num3_ok b.prod w1).mono ?_
  rintro e w2 ⟨rfl, rfl⟩
  refine ⟨_, rfl, Keep.of0 (Mod.refl _), brB_of (fun q1 => bad (by rw [batchE, if_pos (by rw [notT q1]; rfl)]) A1.mod) fun q1 => ?_⟩
  refine (Num3_ok b.epoch w2).mono ?_
  rintro e w3 ⟨rfl, rfl⟩
  refine ⟨_, rfl, Keep.of0 (Mod.refl _), brB_of (fun q2 => bad (by rw [batchE, if_pos (by rw [notT q2]; simp)]) A1.mod) fun q2 => ?_⟩
  refine (Num3_ok b.seq w3).mono ?_
  rintro e w4 ⟨rfl, rfl⟩
  refine ⟨_, rfl, Keep.of0 (Mod.refl _), brB_of (fun q3 => bad (by rw [batchE, if_pos (by rw [notT q3]; simp)]) A1.mod) fun q3 => ?_⟩
  have e0 : batchE b = if b.recs.length = 0 then 30 else if b.recs.length > 16 then 2 else match b.recs.find? fun r => recE r ≠ 0 with | none => 0 | some r => recE r := by
    rw [batchE, if_neg (by rw [notF q1, notF q2, notF q3]; decide)]; rfl
  refine brB_of (fun q4 => bad (by rw [e0, if_pos (by simp at q4; omega)]) A1.mod) fun q4 => ?_
  rw [if_neg (by simp at q4; omega)] at e0
  refine brB_dec (fun q5 => bad (by rw [e0, if_pos (by omega)]) A1.mod) fun q5 => ?_
  rw [if_neg (by omega)] at e0
  refine ref03_All_rule1 (fun mm x w' => ∃ k : Nat, x = k ∧ k ≤ b.recs.length ∧ (∀ y ∈ b.recs.take k, recE y = 0) ∧ Mod [] w w' ∧ mm = b.recs.length - k) b.recs.length ⟨0, rfl, by omega, by simp, A1.mod, rfl⟩ ?_
  rintro mm x w5 ⟨k, rfl, hk, hz, M5, rfl⟩
  refine brB_dec (fun hlt => ?_) fun hge => ?_
  · obtain ⟨y, hy⟩ : ∃ y, b.recs[k]? = some y := ⟨_, List.getElem?_eq_getElem (by omega)⟩
    refine (h.keep0 M5).ix hy fun q hq => ldBool_of (by simpa [add_zero] using hq 0 _ rfl) (ldStr_of (hq 1 _ rfl) (ldBool_of (hq 2 _ rfl) (ldStr_of (hq 3 _ rfl) ?_)))
    refine (RefCheck_ok y w5).mono ?_
    rintro e w7 ⟨rfl, M7⟩
    have N7 := M5.go0 M7 (by simp)
    refine ⟨_, rfl, Keep.of0 M7, brB_of (fun q6 => ?_) fun q6 => ?_⟩
    · have q6 : recE y ≠ 0 := by simpa using q6
      exact bad (by rw [e0, find_take hy hz q6]) N7
    · have q6 : recE y = 0 := by simpa using q6
      refine ref03_All_leaf1 (b.recs.length - (k + 1)) (by omega) ⟨k + 1, by rw [wrap_id (by omega) (by omega)]; omega, by omega, ?_, N7, rfl⟩
      rw [List.take_add_one, hy]
      intro z hz'
      rcases List.mem_append.1 hz' with h | h
      · exact hz z h
      · simp at h; subst h; exact q6
  · have : k = b.recs.length := by omega
    subst this
    rw [List.take_length] at hz
    refine bad ?_ M5
    rw [e0, List.find?_eq_none.2 (by intro y hy; simp [hz y hy])]
end Go.Proofs.YtohgihgddknmmaaGreat

/- The document's check of a command is the checker's. -/
namespace Go.Proofs.YtohgihgddknmmaaGreat
open Go Go.RowKit
set_option linter.unusedVariables false
set_option linter.unusedSimpArgs false

theorem emptyS (s : ByteArray) : (s.toList == (⟨#[]⟩ : ByteArray).toList) = emptyB s := by
  rw [strEq, emptyB]
  apply Bool.eq_iff_iff.2
  simp only [decide_eq_true_eq]
  constructor
  · rintro rfl; rfl
  · intro h; exact ByteArray.ext (Array.eq_empty_of_size_eq_zero h)
theorem decN (x : Int) : decide (x = 0) = !(x != 0) := by
  by_cases h : x = 0 <;> simp [h]
theorem b0_eq (b : PBatch) (n : Nat) (hr : n = b.recs.length) : decide (b = batch0) = (!(b.prod != 0) && !(b.epoch != 0) && !(b.seq != 0) && !(decide ((n : Int) > 0))) := by
  obtain ⟨b1, b2, b3, b4⟩ := b
  subst hr
  by_cases h1 : b1 = 0 <;> by_cases h2 : b2 = 0 <;> by_cases h3 : b3 = 0 <;> cases b4 <;> simp [batch0, h1, h2, h3] <;> omega
theorem onlyB_eq {o : POp} {rs ts : Sl} (hr : rs.n = o.b.recs.length) (ht : ts.n = o.topics.length) : onlyB o = (((ha o.kind 112 || ha o.kind 116 || (o.part.t.toList == (⟨#[]⟩ : ByteArray).toList)) && (ha o.kind 112 || !(o.part.n != 0)) && (ha o.kind 110 || !(o.n != 0)) && (ha o.kind 111 || !(o.off != 0))) && (ha o.kind 98 || (!(o.b.prod != 0) && !(o.b.epoch != 0) && !(o.b.seq != 0) && !(decide ((rs.n : Int) > 0)))) && ((ha o.kind 103 || (o.g.toList == (⟨#[]⟩ : ByteArray).toList)) && (ha o.kind 109 || (o.m.toList == (⟨#[]⟩ : ByteArray).toList)) && (ha o.kind 101 || !(o.gen != 0))) && (ha o.kind 114 || (!o.robin && ((ts.n : Int) == 0)))) := by
  have ht0 : decide (o.topics = []) = ((ts.n : Int) == 0) := by
    rw [ht]
    cases o.topics <;> simp
    omega
  unfold onlyB
  rw [b0_eq o.b rs.n hr, ht0, emptyS, emptyS, emptyS, decN, decN, decN, decN]
  simp only [Bool.and_assoc]
set_option maxHeartbeats 4000000 in
theorem Only_ok {w : World} {o : POp} {rs ts : Sl} (h0 : 0 ≤ o.kind) (h1 : o.kind ≤ 12) (hr : rs.n = o.b.recs.length) (ht : ts.n = o.topics.length) :
    Calls Tryz.prog 106 #[o.v rs ts] w fun e w' => e = .returned (.bool (onlyB o)) ∧ Mod [] w w' := by
  have hO := onlyB_eq hr ht
  have A112 : ∀ w, Calls Tryz.prog 107 #[.string (hasS o.kind), .int .u8 112] w fun e w' => e = .returned (.bool (ha o.kind 112)) ∧ w' = w := fun w => AmongK_ok h0 h1 (c := 112) (by decide) w
  have A116 : ∀ w, Calls Tryz.prog 107 #[.string (hasS o.kind), .int .u8 116] w fun e w' => e = .returned (.bool (ha o.kind 116)) ∧ w' = w := fun w => AmongK_ok h0 h1 (c := 116) (by decide) w
  have A110 : ∀ w, Calls Tryz.prog 107 #[.string (hasS o.kind), .int .u8 110] w fun e w' => e = .returned (.bool (ha o.kind 110)) ∧ w' = w := fun w => AmongK_ok h0 h1 (c := 110) (by decide) w
  have A111 : ∀ w, Calls Tryz.prog 107 #[.string (hasS o.kind), .int .u8 111] w fun e w' => e = .returned (.bool (ha o.kind 111)) ∧ w' = w := fun w => AmongK_ok h0 h1 (c := 111) (by decide) w
  have A98 : ∀ w, Calls Tryz.prog 107 #[.string (hasS o.kind), .int .u8 98] w fun e w' => e = .returned (.bool (ha o.kind 98)) ∧ w' = w := fun w => AmongK_ok h0 h1 (c := 98) (by decide) w
  have A103 : ∀ w, Calls Tryz.prog 107 #[.string (hasS o.kind), .int .u8 103] w fun e w' => e = .returned (.bool (ha o.kind 103)) ∧ w' = w := fun w => AmongK_ok h0 h1 (c := 103) (by decide) w
  have A109 : ∀ w, Calls Tryz.prog 107 #[.string (hasS o.kind), .int .u8 109] w fun e w' => e = .returned (.bool (ha o.kind 109)) ∧ w' = w := fun w => AmongK_ok h0 h1 (c := 109) (by decide) w
  have A101 : ∀ w, Calls Tryz.prog 107 #[.string (hasS o.kind), .int .u8 101] w fun e w' => e = .returned (.bool (ha o.kind 101)) ∧ w' = w := fun w => AmongK_ok h0 h1 (c := 101) (by decide) w
  have A114 : ∀ w, Calls Tryz.prog 107 #[.string (hasS o.kind), .int .u8 114] w fun e w' => e = .returned (.bool (ha o.kind 114)) ∧ w' = w := fun w => AmongK_ok h0 h1 (c := 114) (by decide) w
  refine go_of (ref04_only_go ?_)
  intro b1 f1 w2 A2
  refine (has_ok h0 h1 w2).mono ?_
  rintro e w3 ⟨rfl, M3⟩
  refine ⟨_, rfl, Keep.of0 M3, ?_⟩
  have N3 := A2.mod.go0 M3 (by simp)
  have c6 : ((ha o.kind 112 || ha o.kind 116 || (o.part.t.toList == (⟨#[]⟩ : ByteArray).toList)) && (ha o.kind 112 || !(o.part.n != 0)) && (ha o.kind 110 || !(o.n != 0)) && (ha o.kind 111 || !(o.off != 0))) = true → (ha o.kind 98 || (!(o.b.prod != 0) && !(o.b.epoch != 0) && !(o.b.seq != 0) && !(decide ((rs.n : Int) > 0)))) = true → ((ha o.kind 103 || (o.g.toList == (⟨#[]⟩ : ByteArray).toList)) && (ha o.kind 109 || (o.m.toList == (⟨#[]⟩ : ByteArray).toList)) && (ha o.kind 101 || !(o.gen != 0))) = true → ref04_only_C6 (hasS o.kind) b1 o.kind o.part.t o.part.n o.n o.off o.b.prod o.b.epoch o.b.seq rs.a rs.n rs.c o.g o.m o.gen o.robin ts.a ts.n ts.c (fun v w' => v = .bool (onlyB o) ∧ Mod [] w w') w3 := fun q1 q2 q3 => by
    rw [q1, q2, q3] at hO
    refine (A114 _).mono ?_
    rintro e w' ⟨rfl, rfl⟩
    refine ⟨_, rfl, Keep.of0 (Mod.refl _), ?_⟩
    refine brB_of (fun g => ⟨?_, N3⟩) fun g => brB_of (fun g2 => ⟨?_, N3⟩) fun g2 => ⟨?_, N3⟩
    · rw [hO, g]; rfl
    · rw [hO, g, g2]; rfl
    · rw [hO, g, g2]; rfl
  have c5 : ∀ t : Bool, ((ha o.kind 112 || ha o.kind 116 || (o.part.t.toList == (⟨#[]⟩ : ByteArray).toList)) && (ha o.kind 112 || !(o.part.n != 0)) && (ha o.kind 110 || !(o.n != 0)) && (ha o.kind 111 || !(o.off != 0))) = true → (ha o.kind 98 || (!(o.b.prod != 0) && !(o.b.epoch != 0) && !(o.b.seq != 0) && !(decide ((rs.n : Int) > 0)))) = true → t = !((ha o.kind 103 || (o.g.toList == (⟨#[]⟩ : ByteArray).toList)) && (ha o.kind 109 || (o.m.toList == (⟨#[]⟩ : ByteArray).toList)) && (ha o.kind 101 || !(o.gen != 0))) → ref04_only_C5 (hasS o.kind) t b1 o.kind o.part.t o.part.n o.n o.off o.b.prod o.b.epoch o.b.seq rs.a rs.n rs.c o.g o.m o.gen o.robin ts.a ts.n ts.c (fun v w' => v = .bool (onlyB o) ∧ Mod [] w w') w3 := fun t q1 q2 e => by
    subst e
    refine brB_of (fun g => ⟨?_, N3⟩) fun g => ref04_only_at6 (c6 q1 q2 (notF g))
    rw [hO, q1, q2, notT g]; simp
  have c4 : ((ha o.kind 112 || ha o.kind 116 || (o.part.t.toList == (⟨#[]⟩ : ByteArray).toList)) && (ha o.kind 112 || !(o.part.n != 0)) && (ha o.kind 110 || !(o.n != 0)) && (ha o.kind 111 || !(o.off != 0))) = true → (ha o.kind 98 || (!(o.b.prod != 0) && !(o.b.epoch != 0) && !(o.b.seq != 0) && !(decide ((rs.n : Int) > 0)))) = true → ref04_only_C4 (hasS o.kind) b1 o.kind o.part.t o.part.n o.n o.off o.b.prod o.b.epoch o.b.seq rs.a rs.n rs.c o.g o.m o.gen o.robin ts.a ts.n ts.c (fun v w' => v = .bool (onlyB o) ∧ Mod [] w w') w3 := fun q1 q2 => by
    unfold ref04_only_C4
    clear c6 N3 hO
    have c := fun t => c5 t q1 q2
    clear c5 q1 q2
    generalize ha o.kind 103 = G at *
    generalize ha o.kind 109 = M at *
    generalize ha o.kind 101 = E at *
    generalize (o.g.toList == (⟨#[]⟩ : ByteArray).toList) = eg at *
    generalize (o.m.toList == (⟨#[]⟩ : ByteArray).toList) = em at *
    generalize (o.gen != 0) = zg at *
    repeat' (first | ((with_reducible refine brB_of (fun g => ?_) fun g => ?_) <;> first | exact absurd g (by decide) | subst g | (replace g := notT g; subst g) | (replace g := notF g; subst g) | clear g) | (with_reducible refine Calls.mono (A112 _) ?_; rintro e w' ⟨rfl, rfl⟩; refine ⟨_, rfl, Keep.of0 (Mod.refl _), ?_⟩) | (with_reducible refine Calls.mono (A116 _) ?_; rintro e w' ⟨rfl, rfl⟩; refine ⟨_, rfl, Keep.of0 (Mod.refl _), ?_⟩) | (with_reducible refine Calls.mono (A110 _) ?_; rintro e w' ⟨rfl, rfl⟩; refine ⟨_, rfl, Keep.of0 (Mod.refl _), ?_⟩) | (with_reducible refine Calls.mono (A111 _) ?_; rintro e w' ⟨rfl, rfl⟩; refine ⟨_, rfl, Keep.of0 (Mod.refl _), ?_⟩) | (with_reducible refine Calls.mono (A98 _) ?_; rintro e w' ⟨rfl, rfl⟩; refine ⟨_, rfl, Keep.of0 (Mod.refl _), ?_⟩) | (with_reducible refine Calls.mono (A103 _) ?_; rintro e w' ⟨rfl, rfl⟩; refine ⟨_, rfl, Keep.of0 (Mod.refl _), ?_⟩) | (with_reducible refine Calls.mono (A109 _) ?_; rintro e w' ⟨rfl, rfl⟩; refine ⟨_, rfl, Keep.of0 (Mod.refl _), ?_⟩) | (with_reducible refine Calls.mono (A101 _) ?_; rintro e w' ⟨rfl, rfl⟩; refine ⟨_, rfl, Keep.of0 (Mod.refl _), ?_⟩) | (with_reducible refine Calls.mono (A114 _) ?_; rintro e w' ⟨rfl, rfl⟩; refine ⟨_, rfl, Keep.of0 (Mod.refl _), ?_⟩))
    all_goals exact ref04_only_at5 (c _ (by first | rfl | simp))
  have c3 : ∀ t : Bool, ((ha o.kind 112 || ha o.kind 116 || (o.part.t.toList == (⟨#[]⟩ : ByteArray).toList)) && (ha o.kind 112 || !(o.part.n != 0)) && (ha o.kind 110 || !(o.n != 0)) && (ha o.kind 111 || !(o.off != 0))) = true → t = !(ha o.kind 98 || (!(o.b.prod != 0) && !(o.b.epoch != 0) && !(o.b.seq != 0) && !(decide ((rs.n : Int) > 0)))) → ref04_only_C3 (hasS o.kind) t b1 o.kind o.part.t o.part.n o.n o.off o.b.prod o.b.epoch o.b.seq rs.a rs.n rs.c o.g o.m o.gen o.robin ts.a ts.n ts.c (fun v w' => v = .bool (onlyB o) ∧ Mod [] w w') w3 := fun t q1 e => by
    subst e
    refine brB_of (fun g => ⟨?_, N3⟩) fun g => ref04_only_at4 (c4 q1 (notF g))
    rw [hO, q1, notT g]; simp
  have c2 : ((ha o.kind 112 || ha o.kind 116 || (o.part.t.toList == (⟨#[]⟩ : ByteArray).toList)) && (ha o.kind 112 || !(o.part.n != 0)) && (ha o.kind 110 || !(o.n != 0)) && (ha o.kind 111 || !(o.off != 0))) = true → ref04_only_C2 (hasS o.kind) b1 o.kind o.part.t o.part.n o.n o.off o.b.prod o.b.epoch o.b.seq rs.a rs.n rs.c o.g o.m o.gen o.robin ts.a ts.n ts.c (fun v w' => v = .bool (onlyB o) ∧ Mod [] w w') w3 := fun q1 => by
    unfold ref04_only_C2
    clear c6 N3 hO c4 c5
    have c := fun t => c3 t q1
    clear c3 q1
    generalize ha o.kind 98 = B at *
    generalize (o.b.prod != 0) = z5 at *
    generalize (o.b.epoch != 0) = z6 at *
    generalize (o.b.seq != 0) = z7 at *
    generalize decide ((rs.n : Int) > 0) = z8 at *
    repeat' (first | ((with_reducible refine brB_of (fun g => ?_) fun g => ?_) <;> first | exact absurd g (by decide) | subst g | (replace g := notT g; subst g) | (replace g := notF g; subst g) | clear g) | (with_reducible refine Calls.mono (A112 _) ?_; rintro e w' ⟨rfl, rfl⟩; refine ⟨_, rfl, Keep.of0 (Mod.refl _), ?_⟩) | (with_reducible refine Calls.mono (A116 _) ?_; rintro e w' ⟨rfl, rfl⟩; refine ⟨_, rfl, Keep.of0 (Mod.refl _), ?_⟩) | (with_reducible refine Calls.mono (A110 _) ?_; rintro e w' ⟨rfl, rfl⟩; refine ⟨_, rfl, Keep.of0 (Mod.refl _), ?_⟩) | (with_reducible refine Calls.mono (A111 _) ?_; rintro e w' ⟨rfl, rfl⟩; refine ⟨_, rfl, Keep.of0 (Mod.refl _), ?_⟩) | (with_reducible refine Calls.mono (A98 _) ?_; rintro e w' ⟨rfl, rfl⟩; refine ⟨_, rfl, Keep.of0 (Mod.refl _), ?_⟩) | (with_reducible refine Calls.mono (A103 _) ?_; rintro e w' ⟨rfl, rfl⟩; refine ⟨_, rfl, Keep.of0 (Mod.refl _), ?_⟩) | (with_reducible refine Calls.mono (A109 _) ?_; rintro e w' ⟨rfl, rfl⟩; refine ⟨_, rfl, Keep.of0 (Mod.refl _), ?_⟩) | (with_reducible refine Calls.mono (A101 _) ?_; rintro e w' ⟨rfl, rfl⟩; refine ⟨_, rfl, Keep.of0 (Mod.refl _), ?_⟩) | (with_reducible refine Calls.mono (A114 _) ?_; rintro e w' ⟨rfl, rfl⟩; refine ⟨_, rfl, Keep.of0 (Mod.refl _), ?_⟩))
    all_goals exact ref04_only_at3 (c _ (by first | rfl | simp))
  have c1 : ∀ t : Bool, t = !((ha o.kind 112 || ha o.kind 116 || (o.part.t.toList == (⟨#[]⟩ : ByteArray).toList)) && (ha o.kind 112 || !(o.part.n != 0)) && (ha o.kind 110 || !(o.n != 0)) && (ha o.kind 111 || !(o.off != 0))) → ref04_only_C1 (hasS o.kind) t b1 o.kind o.part.t o.part.n o.n o.off o.b.prod o.b.epoch o.b.seq rs.a rs.n rs.c o.g o.m o.gen o.robin ts.a ts.n ts.c (fun v w' => v = .bool (onlyB o) ∧ Mod [] w w') w3 := fun t e => by
    subst e
    refine brB_of (fun g => ⟨?_, N3⟩) fun g => ref04_only_at2 (c2 (notF g))
    rw [hO, notT g]; simp
  clear c2 c3 c4 c5 c6 N3 hO
  generalize ha o.kind 112 = P at *
  generalize ha o.kind 116 = T at *
  generalize ha o.kind 110 = N at *
  generalize ha o.kind 111 = O at *
  generalize (o.part.t.toList == (⟨#[]⟩ : ByteArray).toList) = et at *
  generalize (o.part.n != 0) = z2 at *
  generalize (o.n != 0) = z3 at *
  generalize (o.off != 0) = z4 at *
  repeat' (first | ((with_reducible refine brB_of (fun g => ?_) fun g => ?_) <;> first | exact absurd g (by decide) | subst g | (replace g := notT g; subst g) | (replace g := notF g; subst g) | clear g) | (with_reducible refine Calls.mono (A112 _) ?_; rintro e w' ⟨rfl, rfl⟩; refine ⟨_, rfl, Keep.of0 (Mod.refl _), ?_⟩) | (with_reducible refine Calls.mono (A116 _) ?_; rintro e w' ⟨rfl, rfl⟩; refine ⟨_, rfl, Keep.of0 (Mod.refl _), ?_⟩) | (with_reducible refine Calls.mono (A110 _) ?_; rintro e w' ⟨rfl, rfl⟩; refine ⟨_, rfl, Keep.of0 (Mod.refl _), ?_⟩) | (with_reducible refine Calls.mono (A111 _) ?_; rintro e w' ⟨rfl, rfl⟩; refine ⟨_, rfl, Keep.of0 (Mod.refl _), ?_⟩) | (with_reducible refine Calls.mono (A98 _) ?_; rintro e w' ⟨rfl, rfl⟩; refine ⟨_, rfl, Keep.of0 (Mod.refl _), ?_⟩) | (with_reducible refine Calls.mono (A103 _) ?_; rintro e w' ⟨rfl, rfl⟩; refine ⟨_, rfl, Keep.of0 (Mod.refl _), ?_⟩) | (with_reducible refine Calls.mono (A109 _) ?_; rintro e w' ⟨rfl, rfl⟩; refine ⟨_, rfl, Keep.of0 (Mod.refl _), ?_⟩) | (with_reducible refine Calls.mono (A101 _) ?_; rintro e w' ⟨rfl, rfl⟩; refine ⟨_, rfl, Keep.of0 (Mod.refl _), ?_⟩) | (with_reducible refine Calls.mono (A114 _) ?_; rintro e w' ⟨rfl, rfl⟩; refine ⟨_, rfl, Keep.of0 (Mod.refl _), ?_⟩))
  all_goals exact ref04_only_at1 (c1 _ (by first | rfl | simp))
end Go.Proofs.YtohgihgddknmmaaGreat

/- The document's check of a command, whole. -/
namespace Go.Proofs.YtohgihgddknmmaaGreat
open Go Go.RowKit
set_option linter.unusedVariables false
set_option linter.unusedSimpArgs false

set_option maxHeartbeats 4000000 in
theorem CheckR_ok {w : World} {o : POp} {rs ts : Sl} (h1 : SlAt w 4 encR rs.a rs.n o.b.recs) (h2 : SlAt w 1 encS ts.a ts.n o.topics) :
    Calls Tryz.prog 63 #[o.v rs ts] w fun e w' => e = .returned (.int .i64 (opE o)) ∧ Mod [] w w' := by
  refine go_of (ref04_Check_go ?_)
  intro b1 f1
  refine brB_dec (fun g => fun w2 A2 => ⟨by rw [opE, if_pos (.inl g)], A2.mod⟩) fun k0 => ?_
  refine brB_dec (fun g => fun w2 A2 => ⟨by rw [opE, if_pos (.inr g)], A2.mod⟩) fun k1 => ?_
  have k0 : 0 ≤ o.kind := by omega
  have k1 : o.kind ≤ 12 := by omega
  have hE : opE o = if formB o = false then 40 else if (num o.part.n && num o.n && num o.off && num o.gen) = false then 1 else if o.kind = 2 then batchE o.b else 0 := by rw [opE, if_neg (by omega)]
  intro w4 A4
  refine (has_ok k0 k1 w4).mono ?_
  rintro e w5 ⟨rfl, M5⟩
  refine ⟨_, rfl, Keep.of0 M5, ?_⟩
  have N5 := A4.mod.go0 M5 (by simp)
  refine (Only_ok k0 k1 h1.1 h2.1).mono ?_
  rintro e w7 ⟨rfl, M7⟩
  refine ⟨_, rfl, Keep.of0 M7, ?_⟩
  have N7 := N5.go0 M7 (by simp)
  have bad : ∀ w', formB o = false → Mod [] w w' → (Value.int .i64 40 = Value.int .i64 (opE o) ∧ Mod [] w w') := fun w' hf M => ⟨by rw [hE, if_pos hf], M⟩
  have c1 : ∀ w', formB o = true → Mod [] w w' → ref04_Check_C1 b1 o.kind o.part.t o.part.n o.n o.off o.b.prod o.b.epoch o.b.seq rs.a rs.n rs.c o.g o.m o.gen o.robin ts.a ts.n ts.c (fun v w' => v = .int .i64 (opE o) ∧ Mod [] w w') w' := fun w' hf N => by
    rw [if_neg (by rw [hf]; decide)] at hE
    have no : ∀ {k : Int} {w'' : World}, opE o = k → Mod [] w w'' → (Value.int .i64 k = Value.int .i64 (opE o) ∧ Mod [] w w'') := fun e M => ⟨by rw [e], M⟩
    refine (Num3_ok o.part.n w').mono ?_
    rintro e w8 ⟨rfl, rfl⟩
    refine ⟨_, rfl, Keep.of0 (Mod.refl _), brB_of (fun g => no (by rw [hE, if_pos (by rw [notT g]; rfl)]) N) fun g1 => ?_⟩
    refine (Num3_ok o.n w8).mono ?_
    rintro e w9 ⟨rfl, rfl⟩
    refine ⟨_, rfl, Keep.of0 (Mod.refl _), brB_of (fun g => no (by rw [hE, if_pos (by rw [notT g]; simp)]) N) fun g2 => ?_⟩
    refine (Num3_ok o.off w9).mono ?_
    rintro e w10 ⟨rfl, rfl⟩
    refine ⟨_, rfl, Keep.of0 (Mod.refl _), brB_of (fun g => no (by rw [hE, if_pos (by rw [notT g]; simp)]) N) fun g3 => ?_⟩
    refine (Num3_ok o.gen w10).mono ?_
    rintro e w11 ⟨rfl, rfl⟩
    refine ⟨_, rfl, Keep.of0 (Mod.refl _), brB_of (fun g => no (by rw [hE, if_pos (by rw [notT g]; simp)]) N) fun g4 => ?_⟩
    rw [if_neg (by rw [notF g1, notF g2, notF g3, notF g4]; decide)] at hE
    refine brB_of (fun g => ?_) fun g => no (by rw [hE, if_neg (by simpa using g)]) N
    refine (AllR3_ok (b := o.b) (rs := rs) (h1.keep0 N)).mono ?_
    rintro e w12 ⟨rfl, M12⟩
    exact ⟨_, rfl, Keep.of0 M12, no (by rw [hE, if_pos (by simpa using g)]) (N.go0 M12 (by simp))⟩
  have hNs := fun w' (M : Mod [] w7 w') => NamesR_ok (l := o.topics) (ts := ts) (h2.keep0 (N7.go0 M (by simp)))
  have hN1 := RName_ok o.part.t
  have hN2 := RName_ok o.g
  have hN3 := RName_ok o.m
  unfold formB at bad c1
  have A112 : ∀ w, Calls Tryz.prog 107 #[.string (hasS o.kind), .int .u8 112] w fun e w' => e = .returned (.bool (ha o.kind 112)) ∧ w' = w := fun w => AmongK_ok k0 k1 (c := 112) (by decide) w
  have A116 : ∀ w, Calls Tryz.prog 107 #[.string (hasS o.kind), .int .u8 116] w fun e w' => e = .returned (.bool (ha o.kind 116)) ∧ w' = w := fun w => AmongK_ok k0 k1 (c := 116) (by decide) w
  have A103 : ∀ w, Calls Tryz.prog 107 #[.string (hasS o.kind), .int .u8 103] w fun e w' => e = .returned (.bool (ha o.kind 103)) ∧ w' = w := fun w => AmongK_ok k0 k1 (c := 103) (by decide) w
  have A109 : ∀ w, Calls Tryz.prog 107 #[.string (hasS o.kind), .int .u8 109] w fun e w' => e = .returned (.bool (ha o.kind 109)) ∧ w' = w := fun w => AmongK_ok k0 k1 (c := 109) (by decide) w
  have A108 : ∀ w, Calls Tryz.prog 107 #[.string (hasS o.kind), .int .u8 108] w fun e w' => e = .returned (.bool (ha o.kind 108)) ∧ w' = w := fun w => AmongK_ok k0 k1 (c := 108) (by decide) w
  clear hE h1 h2 N5 M7
  generalize ha o.kind 112 = P at *
  generalize ha o.kind 116 = T at *
  generalize ha o.kind 103 = G at *
  generalize ha o.kind 109 = M at *
  generalize ha o.kind 108 = L at *
  generalize nameB o.part.t = n1 at *
  generalize nameB o.g = n2 at *
  generalize nameB o.m = n3 at *
  generalize namesB o.topics = ns at *
  generalize onlyB o = on at *
  repeat' (first | ((with_reducible refine brB_of (fun g => ?_) fun g => ?_) <;> first | exact absurd g (by decide) | subst g | (replace g := notT g; subst g) | (replace g := notF g; subst g) | clear g) | (with_reducible refine Calls.mono (A112 _) ?_; rintro e w' ⟨rfl, rfl⟩; refine ⟨_, rfl, Keep.of0 (Mod.refl _), ?_⟩) | (with_reducible refine Calls.mono (A116 _) ?_; rintro e w' ⟨rfl, rfl⟩; refine ⟨_, rfl, Keep.of0 (Mod.refl _), ?_⟩) | (with_reducible refine Calls.mono (A103 _) ?_; rintro e w' ⟨rfl, rfl⟩; refine ⟨_, rfl, Keep.of0 (Mod.refl _), ?_⟩) | (with_reducible refine Calls.mono (A109 _) ?_; rintro e w' ⟨rfl, rfl⟩; refine ⟨_, rfl, Keep.of0 (Mod.refl _), ?_⟩) | (with_reducible refine Calls.mono (A108 _) ?_; rintro e w' ⟨rfl, rfl⟩; refine ⟨_, rfl, Keep.of0 (Mod.refl _), ?_⟩) | (with_reducible refine Calls.mono (hN1 _) ?_; rintro e w' ⟨rfl, rfl⟩; refine ⟨_, rfl, Keep.of0 (Mod.refl _), ?_⟩) | (with_reducible refine Calls.mono (hN2 _) ?_; rintro e w' ⟨rfl, rfl⟩; refine ⟨_, rfl, Keep.of0 (Mod.refl _), ?_⟩) | (with_reducible refine Calls.mono (hN3 _) ?_; rintro e w' ⟨rfl, rfl⟩; refine ⟨_, rfl, Keep.of0 (Mod.refl _), ?_⟩) | (with_reducible refine Calls.mono (hNs _ (Mod.refl _)) ?_; rintro e w8 ⟨rfl, M8⟩; have N8 := N7.go0 M8 (by simp); refine ⟨_, rfl, Keep.of0 M8, ?_⟩))
  all_goals first | exact bad _ (by first | rfl | simp) N7 | exact bad _ (by first | rfl | simp) N8 | exact ref04_Check_at1 (c1 _ (by first | rfl | simp) N7) | exact ref04_Check_at1 (c1 _ (by first | rfl | simp) N8)
end Go.Proofs.YtohgihgddknmmaaGreat

/- What an argument that reads as data looks like in memory, for types of numbers, bools, strings, structs and slices of such, to whatever depth. -/
namespace Go.Proofs.YtohgihgddknmmaaGreat
open Go Go.RowKit Go.ChangeShapes Go.WideShapes Go.ChangeAt
set_option linter.unusedVariables false
set_option linter.unusedSimpArgs false

def plainD : Option TypeDesc → Bool
  | some (.int _) | some .bool | some .string | some (.slice _) | some (.struct _) => true
  | _ => false

inductive OkT (P : Program) (w : World) : TypeId → List Value → Prop
  | int {t : TypeId} {k : IntKind} {x : Int} (h : P.underlying t = some (.int k)) (hw : (Lit.int k x).wf = true) : OkT P w t [.int k x]
  | bool {t : TypeId} {b : Bool} (h : P.underlying t = some .bool) : OkT P w t [.bool b]
  | string {t : TypeId} {s : ByteArray} (h : P.underlying t = some .string) (hs : s.size ≤ maxLen) : OkT P w t [.string s]
  | nilSlice {t e : TypeId} (h : P.underlying t = some (.slice e)) : OkT P w t [.slice none 0 0]
  | slice {t e : TypeId} {ad : Addr} {len cap : Nat} (rows : Nat → List Value) (h : P.underlying t = some (.slice e)) (hl : len ≤ cap) (hc : cap ≤ maxLen) (h1 : ∀ i, i < len → (rows i).length = P.cellsOf e)
      (h2 : ∀ i, i < len → ∀ j v, (rows i)[j]? = some v → w.cell? ((ad.add (i * P.cellsOf e)).add j) = some v) (h3 : ∀ i, i < len → OkT P w e (rows i)) : OkT P w t [.slice (some ad) len cap]
  | struct {t : TypeId} {fs : Array Field} {cs : List Value} (h : P.underlying t = some (.struct fs)) (hn : cs.length = P.cellsOf t) (hf : ∀ f ∈ fs.toList, OkT P w f.type ((cs.drop f.offset).take (P.cellsOf f.type))) : OkT P w t cs
  | other {t : TypeId} {cs : List Value} (h : plainD (P.underlying t) = false) : OkT P w t cs

theorem mapM_some {α β : Type} {f : α → Option β} : ∀ {l : List α} {r : List β}, l.mapM f = some r → ∀ a ∈ l, ∃ b, f a = some b
  | [], _, _, a, ha => by cases ha
  | x :: l, r, h, a, ha => by
    rw [List.mapM_cons] at h
    simp only [Option.pure_def, Option.bind_eq_bind, Option.bind_eq_some_iff] at h
    obtain ⟨b, hb, r', hr, _⟩ := h
    rcases List.mem_cons.1 ha with rfl | ha
    · exact ⟨b, hb⟩
    · exact mapM_some hr a ha

theorem mapM_get {α β : Type} {f : α → Option β} : ∀ {l : List α} {r : List β}, l.mapM f = some r → ∀ (j : Nat) (b : β), r[j]? = some b → ∃ a, l[j]? = some a ∧ f a = some b
  | [], r, h, j, b, hb => by simp at h; subst h; simp at hb
  | x :: l, r, h, j, b, hb => by
    rw [List.mapM_cons] at h
    simp only [Option.pure_def, Option.bind_eq_bind, Option.bind_eq_some_iff, Option.some.injEq] at h
    obtain ⟨b', hb', r', hr, rfl⟩ := h
    cases j with
    | zero => simp at hb; subst hb; exact ⟨x, rfl, hb'⟩
    | succ j => obtain ⟨a, h1, h2⟩ := mapM_get hr j b (by simpa using hb); exact ⟨a, by simpa using h1, h2⟩
theorem mapM_len {α β : Type} {f : α → Option β} : ∀ {l : List α} {r : List β}, l.mapM f = some r → r.length = l.length
  | [], r, h => by simp at h; subst h; rfl
  | x :: l, r, h => by
    rw [List.mapM_cons] at h
    simp only [Option.pure_def, Option.bind_eq_bind, Option.bind_eq_some_iff, Option.some.injEq] at h
    obtain ⟨b', hb', r', hr, rfl⟩ := h
    simp [mapM_len hr]

theorem cells_len {w : World} {base n : Nat} {a : Addr} {row : List Value} (h : w.cells? base a n = some row) : row.length = n := by
  unfold World.cells? at h
  split at h
  · simpa using mapM_len h
  · cases h
theorem cells_get {w : World} {base n : Nat} {a : Addr} {row : List Value} (h : w.cells? base a n = some row) : ∀ j v, row[j]? = some v → w.cell? (a.add j) = some v := by
  intro j v hv
  unfold World.cells? at h
  split at h
  · obtain ⟨j', h1, h2⟩ := mapM_get h j v hv
    obtain ⟨hj, rfl⟩ : j < n ∧ j = j' := by
      obtain ⟨x, y⟩ := List.getElem?_eq_some_iff.1 h1
      simp at x y; exact ⟨x, y⟩
    exact h2
  · cases h

theorem trod_ok {H : Type} {enc : TypeId × Value → H} {P : Program} {w : World} {base : Nat} {sp : Nat → Bool} {held : Bool} : ∀ {fuel : Nat} {t : TypeId} {cs : List Value} {x : DataW H × List MemPlace}, DataW.trod enc P w base sp held fuel t cs = some x → OkT P w t cs := by
  intro fuel
  induction fuel with
  | zero => intro t cs x h; cases h
  | succ n ih =>
    intro t cs x h
    cases hu : P.underlying t with
    | none => exact .other (by rw [hu]; rfl)
    | some d =>
      cases d with
      | bool =>
          unfold DataW.trod at h
          rw [hu] at h
          split at h <;> simp_all
          exact .bool hu
      | int k =>
          unfold DataW.trod at h
          rw [hu] at h
          split at h <;> simp_all
          obtain ⟨⟨rfl, hw⟩, _⟩ := h
          exact .int hu hw
      | string =>
          unfold DataW.trod at h
          rw [hu] at h
          split at h <;> simp_all
          exact .string hu h.1
      | slice e =>
          rcases Go.Deep.open_slice hu h with ⟨rfl, _⟩ | ⟨a, len, cap, m, n', D, Pl, rfl, hb, hl, hc, hm, _, hel⟩
          · exact .nilSlice hu
          · unfold DataW.trod at h
            rw [hu] at h
            simp only at h
            split at h
            case isFalse => cases h
            rename_i hcond
            simp only [Option.bind_eq_some_iff] at h
            obtain ⟨elems, h1, _⟩ := h
            have key : ∀ i, i < len → ∃ row y, w.cells? base (a.add (i * P.cellsOf e)) (P.cellsOf e) = some row ∧ DataW.trod enc P w base sp held n e row = some y := fun i hi => by
              obtain ⟨y, hy⟩ := mapM_some h1 i (by simpa using hi)
              simp only [Option.bind_eq_some_iff] at hy
              obtain ⟨row, hr1, hr2⟩ := hy
              exact ⟨row, y, hr1, hr2⟩
            classical
            refine .slice (fun i => if hi : i < len then (key i hi).choose else []) hu hl hc (fun i hi => ?_) (fun i hi j v hv => ?_) (fun i hi => ?_)
            · simp only [dif_pos hi]
              obtain ⟨y, hr1, hr2⟩ := (key i hi).choose_spec
              exact cells_len hr1
            · simp only [dif_pos hi] at hv
              obtain ⟨y, hr1, hr2⟩ := (key i hi).choose_spec
              exact cells_get hr1 j v hv
            · simp only [dif_pos hi]
              obtain ⟨y, hr1, hr2⟩ := (key i hi).choose_spec
              exact ih hr2
      | struct fs =>
        unfold DataW.trod at h
        rw [hu] at h
        simp only at h
        split at h
        · rename_i hn
          simp only [Option.map_eq_some_iff] at h
          obtain ⟨xs, h1, _⟩ := h
          refine .struct hu hn fun f hf => ?_
          obtain ⟨y, hy⟩ := mapM_some h1 f hf
          exact ih hy
        · cases h
      | _ => exact .other (by rw [hu]; rfl)

theorem OkT.int_inv {P : Program} {w : World} {t : TypeId} {k : IntKind} {cs : List Value} (h : OkT P w t cs) (hu : P.underlying t = some (.int k)) : ∃ x, cs = [.int k x] ∧ (Lit.int k x).wf = true := by
  cases h <;> simp_all [plainD]
theorem OkT.bool_inv {P : Program} {w : World} {t : TypeId} {cs : List Value} (h : OkT P w t cs) (hu : P.underlying t = some .bool) : ∃ b, cs = [.bool b] := by
  cases h <;> simp_all [plainD]
theorem OkT.string_inv {P : Program} {w : World} {t : TypeId} {cs : List Value} (h : OkT P w t cs) (hu : P.underlying t = some .string) : ∃ s, cs = [.string s] ∧ s.size ≤ maxLen := by
  cases h <;> simp_all [plainD]
theorem OkT.struct_inv {P : Program} {w : World} {t : TypeId} {fs : Array Field} {cs : List Value} (h : OkT P w t cs) (hu : P.underlying t = some (.struct fs)) : cs.length = P.cellsOf t ∧ ∀ f ∈ fs.toList, OkT P w f.type ((cs.drop f.offset).take (P.cellsOf f.type)) := by
  cases h with
  | struct h hn hf => rw [hu] at h; cases h; exact ⟨hn, hf⟩
  | _ => simp_all [plainD]
/-- A slice, by what each of its elements is. -/
theorem OkT.slice_inv {P : Program} {w : World} {t e : TypeId} {cs : List Value} {α : Type} {enc : α → List Value} {good : α → Prop} (h : OkT P w t cs) (hu : P.underlying t = some (.slice e))
    (he : ∀ row, OkT P w e row → row.length = P.cellsOf e → ∃ x, row = enc x ∧ good x) : ∃ a len cap l, cs = [.slice a len cap] ∧ SlAt w (P.cellsOf e) enc a len l ∧ (∀ x ∈ l, good x) ∧ len ≤ cap ∧ cap ≤ maxLen := by
  cases h with
  | nilSlice h => exact ⟨none, 0, 0, [], rfl, ⟨rfl, by simp⟩, by simp, Nat.le_refl _, by decide⟩
  | @slice _ _ ad len cap rows h hl hc h1 h2 h3 =>
    rw [hu] at h; cases h
    have key : ∀ i, i < len → ∃ x, rows i = enc x ∧ good x := fun i hi => he _ (h3 i hi) (h1 i hi)
    classical
    by_cases h0 : len = 0
    · subst h0
      exact ⟨_, _, _, [], rfl, ⟨rfl, by simp⟩, by simp, hl, hc⟩
    have x0 : α := (key 0 (by omega)).choose
    refine ⟨some ad, len, cap, (List.range len).map (fun i => if hi : i < len then (key i hi).choose else x0), rfl, ⟨by simp, fun i x hx => ⟨ad, rfl, fun j v hv => ?_⟩⟩, fun x hx => ?_, hl, hc⟩
    · rw [List.getElem?_map] at hx
      simp only [Option.map_eq_some_iff] at hx
      obtain ⟨i', hi', rfl⟩ := hx
      obtain ⟨hil, rfl⟩ : i < len ∧ i = i' := by
        obtain ⟨a, b⟩ := List.getElem?_eq_some_iff.1 hi'
        simp at a b; exact ⟨a, b⟩
      simp only [dif_pos hil] at hv
      rw [← (key i hil).choose_spec.1] at hv
      exact h2 i hil j v hv
    · simp only [List.mem_map, List.mem_range] at hx
      obtain ⟨i, hi, rfl⟩ := hx
      simp only [dif_pos hi]
      exact (key i hi).choose_spec.2
  | _ => simp_all [plainD]

end Go.Proofs.YtohgihgddknmmaaGreat

/- What is handed in, as data: records, replies, commands, calls, messages. -/
namespace Go.Proofs.YtohgihgddknmmaaGreat
open Go Go.RowKit Go.Maps Go.MapKept
set_option linter.unusedVariables false
set_option linter.unusedSimpArgs false

/-- What a reply reads as (of any length). -/
structure RepRd (w : World) (r : PRep) (f p : Sl) : Prop where
  found : SlAt w 5 encF f.a f.n r.found
  parts : SlAt w 2 encP p.a p.n r.parts
  wf : f.n ≤ maxLen
  wp : p.n ≤ maxLen
  sf : ∀ x ∈ r.found, x.r.key.size ≤ maxLen ∧ x.r.val.size ≤ maxLen
  sp : ∀ x ∈ r.parts, x.t.size ≤ maxLen
theorem RepRd.keep0 {w w' : World} {r : PRep} {f p : Sl} (h : RepRd w r f p) (M : Mod [] w w') : RepRd w' r f p := ⟨h.found.keep0 M, h.parts.keep0 M, h.wf, h.wp, h.sf, h.sp⟩

theorem cI : Tryz.prog.cellsOf 3 = 1 := by kernel_rfl
theorem cB : Tryz.prog.cellsOf 4 = 1 := by kernel_rfl
theorem cS : Tryz.prog.cellsOf 9 = 1 := by kernel_rfl
theorem cE : Tryz.prog.cellsOf 24 = 1 := by kernel_rfl
theorem cSF : Tryz.prog.cellsOf 40 = 1 := by kernel_rfl
theorem cSP : Tryz.prog.cellsOf 41 = 1 := by kernel_rfl
theorem cSR : Tryz.prog.cellsOf 33 = 1 := by kernel_rfl
theorem cSS : Tryz.prog.cellsOf 36 = 1 := by kernel_rfl
theorem cSC : Tryz.prog.cellsOf 39 = 1 := by kernel_rfl
theorem cRc : Tryz.prog.cellsOf 149 = 4 := by kernel_rfl
theorem cFd : Tryz.prog.cellsOf 152 = 5 := by kernel_rfl
theorem cPt : Tryz.prog.cellsOf 32 = 2 := by kernel_rfl
theorem cRp : Tryz.prog.cellsOf 43 = 6 := by kernel_rfl
theorem cBt : Tryz.prog.cellsOf 35 = 4 := by kernel_rfl
theorem cOp : Tryz.prog.cellsOf 38 = 14 := by kernel_rfl
theorem cCl : Tryz.prog.cellsOf 57 = 16 := by kernel_rfl
theorem cMl : Tryz.prog.cellsOf 45 = 17 := by kernel_rfl
theorem inv_rec (w : World) (row : List Value) (h : OkT Tryz.prog w 149 row) (hl : row.length = Tryz.prog.cellsOf 149) : ∃ r : PRec, row = [.bool r.hk, .string r.key, .bool r.tomb, .string r.val] ∧ r.key.size ≤ maxLen ∧ r.val.size ≤ maxLen := by
  rw [cRc] at hl
  match row, hl with
  | [a, b, c, d], _ =>
    obtain ⟨_, hf⟩ := h.struct_inv Tryz.underlying149
    simp [cI, cB, cS, cE] at hf
    obtain ⟨ha, hb, hc, hd⟩ := hf
    obtain ⟨x1, e1⟩ := ha.bool_inv Tryz.underlying4
    obtain ⟨x2, e2, g2⟩ := hb.string_inv Tryz.underlying9
    obtain ⟨x3, e3⟩ := hc.bool_inv Tryz.underlying4
    obtain ⟨x4, e4, g4⟩ := hd.string_inv Tryz.underlying9
    simp at e1 e2 e3 e4
    subst e1 e2 e3 e4
    exact ⟨⟨x1, x2, x3, x4⟩, rfl, g2, g4⟩
theorem inv_found (w : World) (row : List Value) (h : OkT Tryz.prog w 152 row) (hl : row.length = Tryz.prog.cellsOf 152) : ∃ x : PFound, row = encF x ∧ (x.r.key.size ≤ maxLen ∧ x.r.val.size ≤ maxLen) := by
  have hl' := hl
  rw [cFd] at hl
  match row, hl with
  | [a, b, c, d, e], _ =>
    obtain ⟨_, hf⟩ := h.struct_inv Tryz.underlying152
    simp [cI, cB, cS, cE, cSF, cSP, cSR, cSS, cSC, cPt, cRc, cFd, cRp] at hf
    obtain ⟨ha, hb⟩ := hf
    obtain ⟨x1, e1, _⟩ := ha.int_inv Tryz.underlying3
    obtain ⟨r, e2, g⟩ := inv_rec w _ hb cRc.symm
    simp at e1 e2
    obtain ⟨rfl, rfl, rfl, rfl⟩ := e2
    subst e1
    exact ⟨⟨x1, r⟩, rfl, g⟩
theorem inv_part (w : World) (row : List Value) (h : OkT Tryz.prog w 32 row) (hl : row.length = Tryz.prog.cellsOf 32) : ∃ x : PPart, row = encP x ∧ x.t.size ≤ maxLen := by
  rw [cPt] at hl
  match row, hl with
  | [a, b], _ =>
    obtain ⟨_, hf⟩ := h.struct_inv Tryz.underlying32
    simp [cI, cB, cS, cE, cSF, cSP, cSR, cSS, cSC, cPt, cRc, cFd, cRp] at hf
    obtain ⟨ha, hb⟩ := hf
    obtain ⟨x1, e1, g1⟩ := ha.string_inv Tryz.underlying9
    obtain ⟨x2, e2, _⟩ := hb.int_inv Tryz.underlying3
    simp at e1 e2
    subst e1 e2
    exact ⟨⟨x1, x2⟩, rfl, g1⟩
theorem inv_rep (w : World) (row : List Value) (h : OkT Tryz.prog w 43 row) (hl : row.length = Tryz.prog.cellsOf 43) : ∃ (r : PRep) (f p : Sl), row = PRep.cs r f p ∧ RepRd w r f p := by
  rw [cRp] at hl
  match row, hl with
  | [a, b, c, d, e, f], _ =>
    obtain ⟨_, hf⟩ := h.struct_inv Tryz.underlying43
    simp [cI, cB, cS, cE, cSF, cSP, cSR, cSS, cSC, cPt, cRc, cFd, cRp] at hf
    obtain ⟨ha, hb, hc, hd, he, hg⟩ := hf
    obtain ⟨x1, e1, _⟩ := ha.int_inv Tryz.underlying24
    obtain ⟨x2, e2, _⟩ := hb.int_inv Tryz.underlying3
    obtain ⟨x3, e3, _⟩ := hc.int_inv Tryz.underlying3
    obtain ⟨x4, e4, _⟩ := hd.int_inv Tryz.underlying3
    obtain ⟨fa, fn, fc, fl, e5, s5, g5, u5, c5⟩ := he.slice_inv Tryz.underlying40 (inv_found w)
    obtain ⟨pa, pn, pc, pl, e6, s6, g6, u6, c6⟩ := hg.slice_inv Tryz.underlying41 (inv_part w)
    simp at e1 e2 e3 e4 e5 e6
    subst e1 e2 e3 e4 e5 e6
    rw [cFd] at s5
    rw [cPt] at s6
    exact ⟨⟨x1, x2, x3, x4, fl, pl⟩, ⟨fa, fn, fc⟩, ⟨pa, pn, pc⟩, rfl, ⟨s5, s6, by show fn ≤ _; omega, by show pn ≤ _; omega, g5, g6⟩⟩

theorem inv_str (w : World) (row : List Value) (h : OkT Tryz.prog w 9 row) (hl : row.length = Tryz.prog.cellsOf 9) : ∃ s : ByteArray, row = encS s ∧ s.size ≤ maxLen := by
  obtain ⟨s, rfl, g⟩ := h.string_inv Tryz.underlying9
  exact ⟨s, rfl, g⟩
/-- What a command reads as (of any length). -/
structure OpRd (w : World) (o : POp) (rs ts : Sl) : Prop where
  recs : SlAt w 4 encR rs.a rs.n o.b.recs
  topics : SlAt w 1 encS ts.a ts.n o.topics
  wr : rs.n ≤ maxLen
  wt : ts.n ≤ maxLen
  sr : ∀ r ∈ o.b.recs, r.key.size ≤ maxLen ∧ r.val.size ≤ maxLen
  st : ∀ s ∈ o.topics, s.size ≤ maxLen
  sp : o.part.t.size ≤ maxLen
  sg : o.g.size ≤ maxLen
  sm : o.m.size ≤ maxLen
theorem OpRd.keep0 {w w' : World} {o : POp} {rs ts : Sl} (h : OpRd w o rs ts) (M : Mod [] w w') : OpRd w' o rs ts := ⟨h.recs.keep0 M, h.topics.keep0 M, h.wr, h.wt, h.sr, h.st, h.sp, h.sg, h.sm⟩
structure OV where
  o : POp
  rs : Sl
  ts : Sl
def OV.cs (q : OV) : List Value := q.o.cs q.rs q.ts
theorem inv_batch (w : World) (row : List Value) (h : OkT Tryz.prog w 35 row) (hl : row.length = Tryz.prog.cellsOf 35) : ∃ (b : PBatch) (rs : Sl), row = [.int .i64 b.prod, .int .i64 b.epoch, .int .i64 b.seq, .slice rs.a rs.n rs.c] ∧ SlAt w 4 encR rs.a rs.n b.recs ∧ rs.n ≤ maxLen ∧ ∀ r ∈ b.recs, r.key.size ≤ maxLen ∧ r.val.size ≤ maxLen := by
  rw [cBt] at hl
  match row, hl with
  | [a, b, c, d], _ =>
    obtain ⟨_, hf⟩ := h.struct_inv Tryz.underlying35
    simp [cI, cB, cS, cE, cSF, cSP, cSR, cSS, cSC, cPt, cRc, cFd, cRp, cBt, cOp, cCl] at hf
    obtain ⟨ha, hb, hc, hd⟩ := hf
    obtain ⟨x1, e1, _⟩ := ha.int_inv Tryz.underlying3
    obtain ⟨x2, e2, _⟩ := hb.int_inv Tryz.underlying3
    obtain ⟨x3, e3, _⟩ := hc.int_inv Tryz.underlying3
    obtain ⟨ra, rn, rc, rl, e5, s5, g5, u5, c5⟩ := hd.slice_inv (enc := encR) Tryz.underlying33 (inv_rec w)
    simp at e1 e2 e3 e5
    subst e1 e2 e3 e5
    rw [cRc] at s5
    exact ⟨⟨x1, x2, x3, rl⟩, ⟨ra, rn, rc⟩, rfl, s5, by show rn ≤ _; omega, g5⟩
theorem inv_op (w : World) (row : List Value) (h : OkT Tryz.prog w 38 row) (hl : row.length = Tryz.prog.cellsOf 38) : ∃ x : OV, row = OV.cs x ∧ OpRd w x.o x.rs x.ts := by
  rw [cOp] at hl
  match row, hl with
  | [a, b, c, d, e, f, g, i, j, k, l, m, n, o], _ =>
    obtain ⟨_, hf⟩ := h.struct_inv Tryz.underlying38
    simp [cI, cB, cS, cE, cSF, cSP, cSR, cSS, cSC, cPt, cRc, cFd, cRp, cBt, cOp, cCl] at hf
    obtain ⟨h1, h2, h3, h4, h5, h6, h7, h8, h9, h10⟩ := hf
    obtain ⟨x1, e1, _⟩ := h1.int_inv Tryz.underlying3
    obtain ⟨x2, e2, g2⟩ := inv_part w _ h2 cPt.symm
    obtain ⟨x3, e3, _⟩ := h3.int_inv Tryz.underlying3
    obtain ⟨x4, e4, _⟩ := h4.int_inv Tryz.underlying3
    obtain ⟨x5, rs, e5, s5, w5, g5⟩ := inv_batch w _ h5 cBt.symm
    obtain ⟨x6, e6, g6⟩ := h6.string_inv Tryz.underlying9
    obtain ⟨x7, e7, g7⟩ := h7.string_inv Tryz.underlying9
    obtain ⟨x8, e8, _⟩ := h8.int_inv Tryz.underlying3
    obtain ⟨x9, e9⟩ := h9.bool_inv Tryz.underlying4
    obtain ⟨ta, tn, tc, tl, e10, s10, g10, u10, c10⟩ := h10.slice_inv (enc := encS) Tryz.underlying36 (inv_str w)
    simp [encP] at e1 e2 e3 e4 e5 e6 e7 e8 e9 e10
    subst e1 e3 e4 e6 e7 e8 e9 e10
    obtain ⟨rfl, rfl⟩ := e2
    obtain ⟨rfl, rfl, rfl, rfl⟩ := e5
    rw [cS] at s10
    exact ⟨⟨⟨x1, x2, x3, x4, x5, x6, x7, x8, x9, tl⟩, rs, ⟨ta, tn, tc⟩⟩, rfl, ⟨s5, s10, w5, by show tn ≤ _; omega, g5, g10, g2, g6, g7⟩⟩
theorem inv_call (w : World) (row : List Value) (h : OkT Tryz.prog w 57 row) (hl : row.length = Tryz.prog.cellsOf 57) : ∃ x : CV, row = CV.cs x ∧ OpRd w x.x.op x.rs x.ts := by
  rw [cCl] at hl
  match row, hl with
  | a :: b :: t, hl =>
    obtain ⟨_, hf⟩ := h.struct_inv Tryz.underlying57
    simp [cI, cB, cS, cE, cSF, cSP, cSR, cSS, cSC, cPt, cRc, cFd, cRp, cBt, cOp, cCl] at hf
    obtain ⟨h1, h2, h3⟩ := hf
    obtain ⟨x1, e1, _⟩ := h1.int_inv Tryz.underlying3
    obtain ⟨x2, e2, _⟩ := h2.int_inv Tryz.underlying3
    have ht : t.take 14 = t := List.take_of_length_le (by simp at hl; omega)
    rw [ht] at h3
    obtain ⟨x3, e3, g3⟩ := inv_op w _ h3 (by rw [cOp]; simp at hl; omega)
    simp at e1 e2
    subst e1 e2 e3
    exact ⟨⟨⟨x1, x2, x3.o⟩, x3.rs, x3.ts⟩, rfl, g3⟩
/-- A message as it is handed in. -/
structure MR where
  m : PMail
  s : Sl
  f : Sl
  p : Sl
def MR.cs (x : MR) : List Value := x.m.cs x.s x.f x.p
structure MailRd (w : World) (m : PMail) (s f p : Sl) : Prop where
  calls : ∃ ll : List CV, SlAt w 16 CV.cs s.a s.n ll ∧ (∀ q ∈ ll, OpRd w q.x.op q.rs q.ts) ∧ ll.map (·.x) = m.calls
  ws : s.n ≤ maxLen
  rep : RepRd w m.r f p
theorem inv_mail (w : World) (row : List Value) (h : OkT Tryz.prog w 45 row) (hl : row.length = Tryz.prog.cellsOf 45) : ∃ x : MR, row = MR.cs x ∧ MailRd w x.m x.s x.f x.p := by
  rw [cMl] at hl
  match row, hl with
  | [a, b, c, d, e, f, g, i, j, k, l, m, n, o, p, q, r], _ =>
    obtain ⟨_, hf⟩ := h.struct_inv Tryz.underlying45
    simp [cI, cB, cS, cE, cSF, cSP, cSR, cSS, cSC, cPt, cRc, cFd, cRp, cBt, cOp, cCl] at hf
    obtain ⟨h1, h2, h3, h4, h5, h6, h7, h8, h9, h10, h11, h12⟩ := hf
    obtain ⟨x1, e1, _⟩ := h1.int_inv Tryz.underlying3
    obtain ⟨x2, e2, _⟩ := h2.int_inv Tryz.underlying3
    obtain ⟨x3, e3, _⟩ := h3.int_inv Tryz.underlying3
    obtain ⟨x4, e4, _⟩ := h4.int_inv Tryz.underlying3
    obtain ⟨x5, e5, _⟩ := h5.int_inv Tryz.underlying3
    obtain ⟨x6, e6, _⟩ := h6.int_inv Tryz.underlying3
    obtain ⟨x7, e7, _⟩ := h7.int_inv Tryz.underlying3
    obtain ⟨x8, e8, _⟩ := h8.int_inv Tryz.underlying3
    obtain ⟨x9, e9, _⟩ := h9.int_inv Tryz.underlying3
    obtain ⟨x10, e10, _⟩ := h10.int_inv Tryz.underlying3
    obtain ⟨ca, cn, cc, cl, e11, s11, g11, u11, c11⟩ := h11.slice_inv Tryz.underlying39 (inv_call w)
    obtain ⟨x12, fs, ps, e12, g12⟩ := inv_rep w _ h12 cRp.symm
    simp [PRep.cs] at e1 e2 e3 e4 e5 e6 e7 e8 e9 e10 e11 e12
    subst e1 e2 e3 e4 e5 e6 e7 e8 e9 e10 e11
    obtain ⟨rfl, rfl, rfl, rfl, rfl, rfl⟩ := e12
    rw [cCl] at s11
    exact ⟨⟨⟨x1, x2, x3, x4, x5, x6, x7, x8, x9, x10, cl.map (·.x), x12⟩, ⟨ca, cn, cc⟩, fs, ps⟩, rfl, ⟨⟨cl, s11, g11, rfl⟩, by show cn ≤ _; omega, g12⟩⟩
end Go.Proofs.YtohgihgddknmmaaGreat

/- The conditions of Go functions' bodies, printed by gen2.py. -/
namespace Go.Proofs.YtohgihgddknmmaaGreat
open Go Go.RowKit
set_option linter.unusedVariables false
set_option maxRecDepth 100000

def law03_cut_an : List LA := []
def law03_cut_T (a2 : Bool) (a0 : ByteArray) (a3 : Bool) (a1 : ByteArray) (R : Value → World → Prop) (w : World) : Prop :=
 ∀ b1, w.heap.size ≤ b1 →
 ∀ b2, w.heap.size ≤ b2 →
 slS a0 0 (if 80 < (a0.size : Int) then 80 else (a0.size : Int)) fun s3 =>
 slS a1 0 (if 600 < (a1.size : Int) then 600 else (a1.size : Int)) fun s4 =>
 ∀ w5, Adv [] [b2, b1] w w5 →
 R (.agg #[.bool a2, .string s3, .bool a3, .string s4]) w5
theorem law03_cut_eq (a0 : Bool) (a1 : ByteArray) (a2 : Bool) (a3 : ByteArray) (R : Value → World → Prop) (w : World) :
 dnF Tryz.prog law03_cut_an (code Tryz.f103) 400 [] (post3 Tryz.prog Tryz.f103 [] R) ⟨args0 0 [(.agg #[.bool a0, .string a1, .bool a2, .string a3])], fun _ => undef⟩ ⟨[], w, [], [], true⟩ = law03_cut_T a0 a1 a2 a3 R w := by kernel_rfl
theorem law03_cut_go {a0 : Bool} {a1 : ByteArray} {a2 : Bool} {a3 : ByteArray} {R : Value → World → Prop} {w : World} (h : law03_cut_T a0 a1 a2 a3 R w) :
 Calls Tryz.prog 103 #[(.agg #[.bool a0, .string a1, .bool a2, .string a3])] w fun e w' => ∃ v, e = .returned v ∧ R v w' :=
 calls_none Tryz.wide_mixed (f := 103) (args := [(.agg #[.bool a0, .string a1, .bool a2, .string a3])]) Tryz.func103 rfl rfl (by kernel_rfl) rfl (Eq.mpr (law03_cut_eq a0 a1 a2 a3 R w) h)
def law03_Bound_la1 : LA := ⟨[0, 0, 1, 0, 1, 1], [1, 2, 3, 4], [(1, 0, 0), (2, 1, 0), (3, 2, 0)], 3, []⟩
def law03_Bound_an : List LA := [law03_Bound_la1]
def law03_Bound_v1 (bm0 bm1 bm2 : Nat) (a0 : Int) : List Value := [(.pointer (some ⟨bm0, 0, none⟩)), (.pointer (some ⟨bm1, 0, none⟩)), (.pointer (some ⟨bm2, 0, none⟩)), .int .i64 a0]
def law03_Bound_m1 (bm0 : Nat) (a6 a7 a8 : Int) (a0 : Option Addr) (a4 a2 bm1 bm2 : Nat) (a9 b0 b1 : Int) (a1 : Option Addr) (a5 a3 : Nat) : List TB := [⟨bm0, 35, [.int .i64 a6, .int .i64 a7, .int .i64 a8, .slice a0 a4 a2], false⟩, ⟨bm1, 35, [.int .i64 0, .int .i64 0, .int .i64 0, .slice none 0 0], false⟩, ⟨bm2, 35, [.int .i64 a9, .int .i64 b0, .int .i64 b1, .slice a1 a5 a3], false⟩]
def law03_Bound_L1 (bm0 : Nat) (b0 b1 b2 : Int) (a7 : Option Addr) (a3 a9 bm1 bm2 : Nat) (a4 a5 a6 a8 : Int) (a0 : Option Addr) (a2 a1 : Nat) (K1 : Kh) (R : Value → World → Prop) (w : World) : Prop :=
 brB (decide (a8 < (a3 : Int))) (
 brB (decide (a8 < 20)) (
 ixA a7 a3 a8 4 fun q4 =>
 ∀ w5, Adv [] [] w w5 →
 ldBool w5 q4 fun t6 => ldStr w5 (Addr.add q4 1) fun s7 => ldBool w5 (Addr.add q4 2) fun t8 => ldStr w5 (Addr.add q4 3) fun s9 =>
 Calls Tryz.prog 103 #[(.agg #[.bool t6, .string s7, .bool t8, .string s9])] w5 fun e w10 => ∃ (t11 : Bool) (s12 : ByteArray) (t13 : Bool) (s14 : ByteArray), e = .returned (.agg #[.bool t11, .string s12, .bool t13, .string s14]) ∧ Keep [bm0, bm1, bm2] w5 w10 ∧ (((.slice a0 a2 a1) : Value) = (.slice a0 a2 a1)) ∧
 al w10 (.cells #[.bool t11, .string s12, .bool t13, .string s14] 149) fun b15 w16 =>
 effSl Tryz.prog (Builtin.append_ #[33, 33] 33 #[.slice a0 a2 a1, (.slice (some ⟨b15, 0, none⟩) 1 1)]) w16 fun a18 n19 c20 w17 => Keep [bm0, bm1, bm2] w16 w17 ∧
 ∀ w21, Adv [bm2] [] w17 w21 →
 K1 (law03_Bound_v1 bm0 bm1 bm2 (IntKind.wrap .i64 (a8 + 1))) (law03_Bound_m1 bm0 b0 b1 b2 a7 a3 a9 bm1 bm2 a4 a5 a6 a18 n19 c20) w21)
 (
 ∀ w22, Adv [bm1] [] w w22 →
 R (.agg #[.int .i64 a4, .int .i64 a5, .int .i64 a6, .slice a0 a2 a1]) w22))
 (
 ∀ w23, Adv [bm1] [] w w23 →
 R (.agg #[.int .i64 a4, .int .i64 a5, .int .i64 a6, .slice a0 a2 a1]) w23)
theorem law03_Bound_L1_eq (bm0 : Nat) (a6 a7 a8 : Int) (a0 : Option Addr) (a4 a2 bm1 bm2 : Nat) (a9 b0 b1 b2 : Int) (a1 : Option Addr) (a5 a3 : Nat) (K1 : Kh) (js : Nat → Value) (R : Value → World → Prop) (w : World) :
 headA law03_Bound_la1 ((dnF Tryz.prog law03_Bound_an (code Tryz.f57) 396 [0, 0, 1, 0, 1, 1]) (kthen3 (atA law03_Bound_la1 K1) (kont3 Tryz.prog law03_Bound_an (code Tryz.f57) [1, 1, 0, 1, 0] [] (post3 Tryz.prog Tryz.f57 [] R)))) (law03_Bound_v1 bm0 bm1 bm2 b2) js (law03_Bound_m1 bm0 a6 a7 a8 a0 a4 a2 bm1 bm2 a9 b0 b1 a1 a5 a3) w = law03_Bound_L1 bm0 a6 a7 a8 a0 a4 a2 bm1 bm2 a9 b0 b1 b2 a1 a5 a3 K1 R w := by kernel_rfl
def law03_Bound_K1 (bm0 : Nat) (a6 a7 a8 : Int) (a3 : Option Addr) (a5 a4 bm1 bm2 : Nat) (a9 b0 b1 : Int) (I : Nat → Int → Option Addr → Nat → Nat → World → Prop) (m : Nat) (vals : List Value) (mem : List TB) (w : World) : Prop := ∃ m', m' < m ∧ ∃ b2 a0 a2 a1, vals = (law03_Bound_v1 bm0 bm1 bm2 b2) ∧ mem = (law03_Bound_m1 bm0 a6 a7 a8 a3 a5 a4 bm1 bm2 a9 b0 b1 a0 a2 a1) ∧ I m' b2 a0 a2 a1 w
theorem law03_Bound_leaf1 {bm0 : Nat} {a6 a7 a8 : Int} {a0 : Option Addr} {a4 a2 bm1 bm2 : Nat} {a9 b0 b1 : Int} {I : Nat → Int → Option Addr → Nat → Nat → World → Prop} {m : Nat} {b2 : Int} {a1 : Option Addr} {a5 a3 : Nat} {w : World} (m' : Nat) (h1 : m' < m) (h2 : I m' b2 a1 a5 a3 w) : law03_Bound_K1 bm0 a6 a7 a8 a0 a4 a2 bm1 bm2 a9 b0 b1 I m (law03_Bound_v1 bm0 bm1 bm2 b2) (law03_Bound_m1 bm0 a6 a7 a8 a0 a4 a2 bm1 bm2 a9 b0 b1 a1 a5 a3) w := ⟨m', h1, _, _, _, _, rfl, rfl, h2⟩
theorem law03_Bound_rule1 {bm0 : Nat} {a6 a7 a8 : Int} {a3 : Option Addr} {a5 a4 bm1 bm2 : Nat} {a9 b0 b1 b6 : Int} {b3 : Option Addr} {b5 b4 : Nat} {R : Value → World → Prop} {w0 : World} (I : Nat → Int → Option Addr → Nat → Nat → World → Prop) (m0 : Nat) (h0 : I m0 b6 b3 b5 b4 w0)
 (hr : ∀ (m : Nat) (b2 : Int) (a0 : Option Addr) (a2 a1 : Nat) (w : World), I m b2 a0 a2 a1 w → law03_Bound_L1 bm0 a6 a7 a8 a3 a5 a4 bm1 bm2 a9 b0 b1 b2 a0 a2 a1 (law03_Bound_K1 bm0 a6 a7 a8 a3 a5 a4 bm1 bm2 a9 b0 b1 I m) R w) :
 loopD3 law03_Bound_la1 (dnF Tryz.prog law03_Bound_an (code Tryz.f57) 396 [0, 0, 1, 0, 1, 1]) (kont3 Tryz.prog law03_Bound_an (code Tryz.f57) [1, 1, 0, 1, 0] [] (post3 Tryz.prog Tryz.f57 [] R)) (law03_Bound_v1 bm0 bm1 bm2 b6) (law03_Bound_m1 bm0 a6 a7 a8 a3 a5 a4 bm1 bm2 a9 b0 b1 b3 b5 b4) w0 := by
 refine ⟨fun m vals mem w => ∃ b2 a0 a2 a1, vals = (law03_Bound_v1 bm0 bm1 bm2 b2) ∧ mem = (law03_Bound_m1 bm0 a6 a7 a8 a3 a5 a4 bm1 bm2 a9 b0 b1 a0 a2 a1) ∧ I m b2 a0 a2 a1 w, m0, ⟨_, _, _, _, rfl, rfl, h0⟩, ?_⟩
 rintro m vals mem w ⟨b2, a0, a2, a1, rfl, rfl, hI⟩
 refine ⟨rfl, rfl, fun js => ?_⟩
 have h := hr m b2 a0 a2 a1 w hI
 rw [← law03_Bound_L1_eq _ _ _ _ _ _ _ _ _ _ _ _ _ _ _ _ _ js] at h
 exact h
def law03_Bound_T (a0 a1 a2 : Int) (a3 : Option Addr) (a5 a4 : Nat) (R : Value → World → Prop) (w : World) : Prop :=
 ∀ b1, w.heap.size ≤ b1 →
 ∀ b2, w.heap.size ≤ b2 →
 ∀ b3, w.heap.size ≤ b3 →
 ∀ w24, Adv [] [b3, b2, b1] w w24 →
 loopD3 law03_Bound_la1 (dnF Tryz.prog law03_Bound_an (code Tryz.f57) 396 [0, 0, 1, 0, 1, 1]) (kont3 Tryz.prog law03_Bound_an (code Tryz.f57) [1, 1, 0, 1, 0] [] (post3 Tryz.prog Tryz.f57 [] R)) (law03_Bound_v1 b1 b2 b3 0) (law03_Bound_m1 b1 a0 a1 a2 a3 a5 a4 b2 b3 a0 a1 a2 none 0 0) w24
theorem law03_Bound_eq (a3 a4 a5 : Int) (a0 : Option Addr) (a2 a1 : Nat) (R : Value → World → Prop) (w : World) :
 dnF Tryz.prog law03_Bound_an (code Tryz.f57) 400 [] (post3 Tryz.prog Tryz.f57 [] R) ⟨args0 0 [(.agg #[.int .i64 a3, .int .i64 a4, .int .i64 a5, .slice a0 a2 a1])], fun _ => undef⟩ ⟨[], w, [], [], true⟩ = law03_Bound_T a3 a4 a5 a0 a2 a1 R w := by kernel_rfl
theorem law03_Bound_go {a3 a4 a5 : Int} {a0 : Option Addr} {a2 a1 : Nat} {R : Value → World → Prop} {w : World} (h : law03_Bound_T a3 a4 a5 a0 a2 a1 R w) :
 Calls Tryz.prog 57 #[(.agg #[.int .i64 a3, .int .i64 a4, .int .i64 a5, .slice a0 a2 a1])] w fun e w' => ∃ v, e = .returned v ∧ R v w' :=
 calls_none Tryz.wide_mixed (f := 57) (args := [(.agg #[.int .i64 a3, .int .i64 a4, .int .i64 a5, .slice a0 a2 a1])]) Tryz.func57 rfl rfl (by kernel_rfl) rfl (Eq.mpr (law03_Bound_eq a3 a4 a5 a0 a2 a1 R w) h)
def law04_Cut_la1 : LA := ⟨[0, 0, 1, 0, 1, 1, 1, 1, 1, 1, 1], [1, 2, 3, 4], [(1, 0, 0), (2, 1, 0), (3, 2, 0)], 3, []⟩
def law04_Cut_an : List LA := [law04_Cut_la1]
def law04_Cut_v1 (bm0 bm1 bm2 : Nat) (a0 : Int) : List Value := [(.pointer (some ⟨bm0, 0, none⟩)), (.pointer (some ⟨bm1, 0, none⟩)), (.pointer (some ⟨bm2, 0, none⟩)), .int .i64 a0]
def law04_Cut_m1 (bm0 : Nat) (c2 : Int) (b8 : ByteArray) (c3 c4 c5 c6 c7 c8 : Int) (b2 : Option Addr) (b6 b4 : Nat) (b9 a6 : ByteArray) (b0 : Int) (a8 : Bool) (a0 : Option Addr) (a4 a2 bm1 bm2 : Nat) (c9 : Int) (c0 : ByteArray) (d0 d1 d2 d3 d4 d5 : Int) (b3 : Option Addr) (b7 b5 : Nat) (c1 a7 : ByteArray) (b1 : Int) (a9 : Bool) (a1 : Option Addr) (a5 a3 : Nat) : List TB := [⟨bm0, 38, [.int .i64 c2, .string b8, .int .i64 c3, .int .i64 c4, .int .i64 c5, .int .i64 c6, .int .i64 c7, .int .i64 c8, .slice b2 b6 b4, .string b9, .string a6, .int .i64 b0, .bool a8, .slice a0 a4 a2], false⟩, ⟨bm1, 38, [.int .i64 0, .string ByteArray.empty, .int .i64 0, .int .i64 0, .int .i64 0, .int .i64 0, .int .i64 0, .int .i64 0, .slice none 0 0, .string ByteArray.empty, .string ByteArray.empty, .int .i64 0, .bool false, .slice none 0 0], false⟩, ⟨bm2, 38, [.int .i64 c9, .string c0, .int .i64 d0, .int .i64 d1, .int .i64 d2, .int .i64 d3, .int .i64 d4, .int .i64 d5, .slice b3 b7 b5, .string c1, .string a7, .int .i64 b1, .bool a9, .slice a1 a5 a3], false⟩]
def law04_Cut_L1 (bm0 : Nat) (d0 : Int) (c8 : ByteArray) (d1 d2 d3 d4 d5 d6 : Int) (c5 : Option Addr) (c7 c6 : Nat) (c9 c2 : ByteArray) (c4 : Int) (c3 : Bool) (a1 : Option Addr) (a0 c1 bm1 bm2 : Nat) (b3 : Int) (b1 : ByteArray) (b4 b5 b6 b7 b8 b9 : Int) (a8 : Option Addr) (b0 a9 : Nat) (b2 a5 : ByteArray) (a7 : Int) (a6 : Bool) (c0 : Int) (a2 : Option Addr) (a4 a3 : Nat) (K1 : Kh) (R : Value → World → Prop) (w : World) : Prop :=
 brB (decide (c0 < (a0 : Int))) (
 brB (decide (c0 < 12)) (
 ixA a1 a0 c0 1 fun q15 =>
 ∀ w16, Adv [] [] w w16 →
 ldStr w16 q15 fun s17 =>
 ixA a1 a0 c0 1 fun q18 =>
 ldStr w16 q18 fun s19 =>
 slS s17 0 (if 40 < (s19.size : Int) then 40 else (s19.size : Int)) fun s20 =>
 al w16 (.cells #[.string s20] 9) fun b21 w22 =>
 effSl Tryz.prog (Builtin.append_ #[36, 36] 36 #[.slice a2 a4 a3, (.slice (some ⟨b21, 0, none⟩) 1 1)]) w22 fun a24 n25 c26 w23 => Keep [bm0, bm1, bm2] w22 w23 ∧
 ∀ w27, Adv [bm2] [] w23 w27 →
 K1 (law04_Cut_v1 bm0 bm1 bm2 (IntKind.wrap .i64 (c0 + 1))) (law04_Cut_m1 bm0 d0 c8 d1 d2 d3 d4 d5 d6 c5 c7 c6 c9 c2 c4 c3 a1 a0 c1 bm1 bm2 b3 b1 b4 b5 b6 b7 b8 b9 a8 b0 a9 b2 a5 a7 a6 a24 n25 c26) w27)
 (
 ∀ w28, Adv [bm1] [] w w28 →
 R (.agg #[.int .i64 b3, .string b1, .int .i64 b4, .int .i64 b5, .int .i64 b6, .int .i64 b7, .int .i64 b8, .int .i64 b9, .slice a8 b0 a9, .string b2, .string a5, .int .i64 a7, .bool a6, .slice a2 a4 a3]) w28))
 (
 ∀ w29, Adv [bm1] [] w w29 →
 R (.agg #[.int .i64 b3, .string b1, .int .i64 b4, .int .i64 b5, .int .i64 b6, .int .i64 b7, .int .i64 b8, .int .i64 b9, .slice a8 b0 a9, .string b2, .string a5, .int .i64 a7, .bool a6, .slice a2 a4 a3]) w29)
theorem law04_Cut_L1_eq (bm0 : Nat) (c2 : Int) (b8 : ByteArray) (c3 c4 c5 c6 c7 c8 : Int) (b2 : Option Addr) (b6 b4 : Nat) (b9 a6 : ByteArray) (b0 : Int) (a8 : Bool) (a0 : Option Addr) (a4 a2 bm1 bm2 : Nat) (c9 : Int) (c0 : ByteArray) (d0 d1 d2 d3 d4 d5 : Int) (b3 : Option Addr) (b7 b5 : Nat) (c1 a7 : ByteArray) (b1 : Int) (a9 : Bool) (d6 : Int) (a1 : Option Addr) (a5 a3 : Nat) (K1 : Kh) (js : Nat → Value) (R : Value → World → Prop) (w : World) :
 headA law04_Cut_la1 ((dnF Tryz.prog law04_Cut_an (code Tryz.f13) 391 [0, 0, 1, 0, 1, 1, 1, 1, 1, 1, 1]) (kthen3 (atA law04_Cut_la1 K1) (kont3 Tryz.prog law04_Cut_an (code Tryz.f13) [1, 1, 1, 1, 1, 1, 1, 0, 1, 0] [] (post3 Tryz.prog Tryz.f13 [] R)))) (law04_Cut_v1 bm0 bm1 bm2 d6) js (law04_Cut_m1 bm0 c2 b8 c3 c4 c5 c6 c7 c8 b2 b6 b4 b9 a6 b0 a8 a0 a4 a2 bm1 bm2 c9 c0 d0 d1 d2 d3 d4 d5 b3 b7 b5 c1 a7 b1 a9 a1 a5 a3) w = law04_Cut_L1 bm0 c2 b8 c3 c4 c5 c6 c7 c8 b2 b6 b4 b9 a6 b0 a8 a0 a4 a2 bm1 bm2 c9 c0 d0 d1 d2 d3 d4 d5 b3 b7 b5 c1 a7 b1 a9 d6 a1 a5 a3 K1 R w := by kernel_rfl
def law04_Cut_K1 (bm0 : Nat) (c2 : Int) (b8 : ByteArray) (c3 c4 c5 c6 c7 c8 : Int) (b2 : Option Addr) (b6 b4 : Nat) (b9 a6 : ByteArray) (b0 : Int) (a8 : Bool) (a3 : Option Addr) (a5 a4 bm1 bm2 : Nat) (c9 : Int) (c0 : ByteArray) (d0 d1 d2 d3 d4 d5 : Int) (b3 : Option Addr) (b7 b5 : Nat) (c1 a7 : ByteArray) (b1 : Int) (a9 : Bool) (I : Nat → Int → Option Addr → Nat → Nat → World → Prop) (m : Nat) (vals : List Value) (mem : List TB) (w : World) : Prop := ∃ m', m' < m ∧ ∃ d6 a0 a2 a1, vals = (law04_Cut_v1 bm0 bm1 bm2 d6) ∧ mem = (law04_Cut_m1 bm0 c2 b8 c3 c4 c5 c6 c7 c8 b2 b6 b4 b9 a6 b0 a8 a3 a5 a4 bm1 bm2 c9 c0 d0 d1 d2 d3 d4 d5 b3 b7 b5 c1 a7 b1 a9 a0 a2 a1) ∧ I m' d6 a0 a2 a1 w
theorem law04_Cut_leaf1 {bm0 : Nat} {c2 : Int} {b8 : ByteArray} {c3 c4 c5 c6 c7 c8 : Int} {b2 : Option Addr} {b6 b4 : Nat} {b9 a6 : ByteArray} {b0 : Int} {a8 : Bool} {a0 : Option Addr} {a4 a2 bm1 bm2 : Nat} {c9 : Int} {c0 : ByteArray} {d0 d1 d2 d3 d4 d5 : Int} {b3 : Option Addr} {b7 b5 : Nat} {c1 a7 : ByteArray} {b1 : Int} {a9 : Bool} {I : Nat → Int → Option Addr → Nat → Nat → World → Prop} {m : Nat} {d6 : Int} {a1 : Option Addr} {a5 a3 : Nat} {w : World} (m' : Nat) (h1 : m' < m) (h2 : I m' d6 a1 a5 a3 w) : law04_Cut_K1 bm0 c2 b8 c3 c4 c5 c6 c7 c8 b2 b6 b4 b9 a6 b0 a8 a0 a4 a2 bm1 bm2 c9 c0 d0 d1 d2 d3 d4 d5 b3 b7 b5 c1 a7 b1 a9 I m (law04_Cut_v1 bm0 bm1 bm2 d6) (law04_Cut_m1 bm0 c2 b8 c3 c4 c5 c6 c7 c8 b2 b6 b4 b9 a6 b0 a8 a0 a4 a2 bm1 bm2 c9 c0 d0 d1 d2 d3 d4 d5 b3 b7 b5 c1 a7 b1 a9 a1 a5 a3) w := ⟨m', h1, _, _, _, _, rfl, rfl, h2⟩
theorem law04_Cut_rule1 {bm0 : Nat} {c2 : Int} {b8 : ByteArray} {c3 c4 c5 c6 c7 c8 : Int} {b2 : Option Addr} {b6 b4 : Nat} {b9 a6 : ByteArray} {b0 : Int} {a8 : Bool} {a3 : Option Addr} {a5 a4 bm1 bm2 : Nat} {c9 : Int} {c0 : ByteArray} {d0 d1 d2 d3 d4 d5 : Int} {b3 : Option Addr} {b7 b5 : Nat} {c1 a7 : ByteArray} {b1 : Int} {a9 : Bool} {e0 : Int} {d6 : Option Addr} {d8 d7 : Nat} {R : Value → World → Prop} {w0 : World} (I : Nat → Int → Option Addr → Nat → Nat → World → Prop) (m0 : Nat) (h0 : I m0 e0 d6 d8 d7 w0)
 (hr : ∀ (m : Nat) (d9 : Int) (a0 : Option Addr) (a2 a1 : Nat) (w : World), I m d9 a0 a2 a1 w → law04_Cut_L1 bm0 c2 b8 c3 c4 c5 c6 c7 c8 b2 b6 b4 b9 a6 b0 a8 a3 a5 a4 bm1 bm2 c9 c0 d0 d1 d2 d3 d4 d5 b3 b7 b5 c1 a7 b1 a9 d9 a0 a2 a1 (law04_Cut_K1 bm0 c2 b8 c3 c4 c5 c6 c7 c8 b2 b6 b4 b9 a6 b0 a8 a3 a5 a4 bm1 bm2 c9 c0 d0 d1 d2 d3 d4 d5 b3 b7 b5 c1 a7 b1 a9 I m) R w) :
 loopD3 law04_Cut_la1 (dnF Tryz.prog law04_Cut_an (code Tryz.f13) 391 [0, 0, 1, 0, 1, 1, 1, 1, 1, 1, 1]) (kont3 Tryz.prog law04_Cut_an (code Tryz.f13) [1, 1, 1, 1, 1, 1, 1, 0, 1, 0] [] (post3 Tryz.prog Tryz.f13 [] R)) (law04_Cut_v1 bm0 bm1 bm2 e0) (law04_Cut_m1 bm0 c2 b8 c3 c4 c5 c6 c7 c8 b2 b6 b4 b9 a6 b0 a8 a3 a5 a4 bm1 bm2 c9 c0 d0 d1 d2 d3 d4 d5 b3 b7 b5 c1 a7 b1 a9 d6 d8 d7) w0 := by
 refine ⟨fun m vals mem w => ∃ d9 a0 a2 a1, vals = (law04_Cut_v1 bm0 bm1 bm2 d9) ∧ mem = (law04_Cut_m1 bm0 c2 b8 c3 c4 c5 c6 c7 c8 b2 b6 b4 b9 a6 b0 a8 a3 a5 a4 bm1 bm2 c9 c0 d0 d1 d2 d3 d4 d5 b3 b7 b5 c1 a7 b1 a9 a0 a2 a1) ∧ I m d9 a0 a2 a1 w, m0, ⟨_, _, _, _, rfl, rfl, h0⟩, ?_⟩
 rintro m vals mem w ⟨d9, a0, a2, a1, rfl, rfl, hI⟩
 refine ⟨rfl, rfl, fun js => ?_⟩
 have h := hr m d9 a0 a2 a1 w hI
 rw [← law04_Cut_L1_eq _ _ _ _ _ _ _ _ _ _ _ _ _ _ _ _ _ _ _ _ _ _ _ _ _ _ _ _ _ _ _ _ _ _ _ _ _ _ _ _ _ js] at h
 exact h
def law04_Cut_T (a8 : Int) (a1 : ByteArray) (b5 b6 b7 b8 b9 c0 : Int) (a3 : Option Addr) (a5 a4 : Nat) (a2 a0 : ByteArray) (a6 : Int) (a7 : Bool) (a9 : Option Addr) (b4 b0 : Nat) (R : Value → World → Prop) (w : World) : Prop :=
 ∀ b1, w.heap.size ≤ b1 →
 ∀ b2, w.heap.size ≤ b2 →
 ∀ b3, w.heap.size ≤ b3 →
 slS a1 0 (if 40 < (a1.size : Int) then 40 else (a1.size : Int)) fun s4 =>
 slS a2 0 (if 40 < (a2.size : Int) then 40 else (a2.size : Int)) fun s5 =>
 slS a0 0 (if 40 < (a0.size : Int) then 40 else (a0.size : Int)) fun s6 =>
 ∀ w7, Adv [] [b3, b2, b1] w w7 →
 Calls Tryz.prog 57 #[(.agg #[.int .i64 b8, .int .i64 b9, .int .i64 c0, .slice a3 a5 a4])] w7 fun e w8 => ∃ (x9 x10 x11 : Int) (a12 : Option Addr) (n13 c14 : Nat), e = .returned (.agg #[.int .i64 x9, .int .i64 x10, .int .i64 x11, .slice a12 n13 c14]) ∧ Keep [b1, b2, b3] w7 w8 ∧
 ∀ w30, Adv [b3] [] w8 w30 →
 loopD3 law04_Cut_la1 (dnF Tryz.prog law04_Cut_an (code Tryz.f13) 391 [0, 0, 1, 0, 1, 1, 1, 1, 1, 1, 1]) (kont3 Tryz.prog law04_Cut_an (code Tryz.f13) [1, 1, 1, 1, 1, 1, 1, 0, 1, 0] [] (post3 Tryz.prog Tryz.f13 [] R)) (law04_Cut_v1 b1 b2 b3 0) (law04_Cut_m1 b1 a8 a1 b5 b6 b7 b8 b9 c0 a3 a5 a4 a2 a0 a6 a7 a9 b4 b0 b2 b3 a8 s4 b5 b6 b7 x9 x10 x11 a12 n13 c14 s5 s6 a6 a7 none 0 0) w30
theorem law04_Cut_eq (a9 : Int) (b0 : ByteArray) (b1 b2 b3 b4 b5 b6 : Int) (a3 : Option Addr) (a5 a4 : Nat) (b7 a6 : ByteArray) (a7 : Int) (a8 : Bool) (a0 : Option Addr) (a2 a1 : Nat) (R : Value → World → Prop) (w : World) :
 dnF Tryz.prog law04_Cut_an (code Tryz.f13) 400 [] (post3 Tryz.prog Tryz.f13 [] R) ⟨args0 0 [(.agg #[.int .i64 a9, .string b0, .int .i64 b1, .int .i64 b2, .int .i64 b3, .int .i64 b4, .int .i64 b5, .int .i64 b6, .slice a3 a5 a4, .string b7, .string a6, .int .i64 a7, .bool a8, .slice a0 a2 a1])], fun _ => undef⟩ ⟨[], w, [], [], true⟩ = law04_Cut_T a9 b0 b1 b2 b3 b4 b5 b6 a3 a5 a4 b7 a6 a7 a8 a0 a2 a1 R w := by kernel_rfl
theorem law04_Cut_go {a9 : Int} {b0 : ByteArray} {b1 b2 b3 b4 b5 b6 : Int} {a3 : Option Addr} {a5 a4 : Nat} {b7 a6 : ByteArray} {a7 : Int} {a8 : Bool} {a0 : Option Addr} {a2 a1 : Nat} {R : Value → World → Prop} {w : World} (h : law04_Cut_T a9 b0 b1 b2 b3 b4 b5 b6 a3 a5 a4 b7 a6 a7 a8 a0 a2 a1 R w) :
 Calls Tryz.prog 13 #[(.agg #[.int .i64 a9, .string b0, .int .i64 b1, .int .i64 b2, .int .i64 b3, .int .i64 b4, .int .i64 b5, .int .i64 b6, .slice a3 a5 a4, .string b7, .string a6, .int .i64 a7, .bool a8, .slice a0 a2 a1])] w fun e w' => ∃ v, e = .returned v ∧ R v w' :=
 calls_none Tryz.wide_mixed (f := 13) (args := [(.agg #[.int .i64 a9, .string b0, .int .i64 b1, .int .i64 b2, .int .i64 b3, .int .i64 b4, .int .i64 b5, .int .i64 b6, .slice a3 a5 a4, .string b7, .string a6, .int .i64 a7, .bool a8, .slice a0 a2 a1])]) Tryz.func13 rfl rfl (by kernel_rfl) rfl (Eq.mpr (law04_Cut_eq a9 b0 b1 b2 b3 b4 b5 b6 a3 a5 a4 b7 a6 a7 a8 a0 a2 a1 R w) h)
def law22_tick_an : List LA := []
def law22_tick_T (R : Value → World → Prop) (w : World) : Prop :=
 ∀ b1, w.heap.size ≤ b1 →
 ∀ w2, Adv [] [b1] w w2 →
 R (.agg #[.int .i64 12, .string ByteArray.empty, .int .i64 0, .int .i64 1, .int .i64 0, .int .i64 0, .int .i64 0, .int .i64 0, .slice none 0 0, .string ByteArray.empty, .string ByteArray.empty, .int .i64 0, .bool false, .slice none 0 0]) w2
theorem law22_tick_eq (R : Value → World → Prop) (w : World) :
 dnF Tryz.prog law22_tick_an (code Tryz.f25) 400 [] (post3 Tryz.prog Tryz.f25 [] R) ⟨args0 0 [], fun _ => undef⟩ ⟨[], w, [], [], true⟩ = law22_tick_T R w := by kernel_rfl
theorem law22_tick_go {R : Value → World → Prop} {w : World} (h : law22_tick_T R w) :
 Calls Tryz.prog 25 #[] w fun e w' => ∃ v, e = .returned v ∧ R v w' :=
 calls_none Tryz.wide_mixed (f := 25) (args := []) Tryz.func25 rfl rfl (by kernel_rfl) rfl (Eq.mpr (law22_tick_eq R w) h)
def law22_fixed_an : List LA := []
def law22_fixed_T (R : Value → World → Prop) (w : World) : Prop :=
 Calls Tryz.prog 10 #[.int .i64 5, .int .i64 3] w fun e w1 => ∃ (p2 : Option Addr) (x3 : Int), e = .returned (.tuple #[.pointer p2, .int .i64 x3]) ∧
 brB (Option.isNone p2) (
 R (.bool false) w1)
 (
 brB (x3 != 0) (
 R (.bool false) w1)
 (
 Calls Tryz.prog 25 #[] w1 fun e w4 => ∃ (x5 : Int) (s6 : ByteArray) (x7 x8 x9 x10 x11 x12 : Int) (a13 : Option Addr) (n14 c15 : Nat) (s16 s17 : ByteArray) (x18 : Int) (t19 : Bool) (a20 : Option Addr) (n21 c22 : Nat), e = .returned (.agg #[.int .i64 x5, .string s6, .int .i64 x7, .int .i64 x8, .int .i64 x9, .int .i64 x10, .int .i64 x11, .int .i64 x12, .slice a13 n14 c15, .string s16, .string s17, .int .i64 x18, .bool t19, .slice a20 n21 c22]) ∧
 Calls Tryz.prog 15 #[.pointer p2, (.agg #[.int .i64 x5, .string s6, .int .i64 x7, .int .i64 x8, .int .i64 x9, .int .i64 x10, .int .i64 x11, .int .i64 x12, .slice a13 n14 c15, .string s16, .string s17, .int .i64 x18, .bool t19, .slice a20 n21 c22])] w4 fun e w23 => ∃ (x24 x25 x26 x27 x28 x29 x30 x31 x32 x33 : Int) (a34 : Option Addr) (n35 c36 : Nat) (x37 x38 x39 x40 : Int) (a41 : Option Addr) (n42 c43 : Nat) (a44 : Option Addr) (n45 c46 : Nat) (x47 : Int), e = .returned (.tuple #[(.agg #[.int .i64 x24, .int .i64 x25, .int .i64 x26, .int .i64 x27, .int .i64 x28, .int .i64 x29, .int .i64 x30, .int .i64 x31, .int .i64 x32, .int .i64 x33, .slice a34 n35 c36, .int .i64 x37, .int .i64 x38, .int .i64 x39, .int .i64 x40, .slice a41 n42 c43, .slice a44 n45 c46]), .int .i64 x47]) ∧
 ∀ b48, w23.heap.size ≤ b48 →
 ∀ w49, Adv [] [b48] w23 w49 →
 Calls Tryz.prog 25 #[] w49 fun e w50 => ∃ (x51 : Int) (s52 : ByteArray) (x53 x54 x55 x56 x57 x58 : Int) (a59 : Option Addr) (n60 c61 : Nat) (s62 s63 : ByteArray) (x64 : Int) (t65 : Bool) (a66 : Option Addr) (n67 c68 : Nat), e = .returned (.agg #[.int .i64 x51, .string s52, .int .i64 x53, .int .i64 x54, .int .i64 x55, .int .i64 x56, .int .i64 x57, .int .i64 x58, .slice a59 n60 c61, .string s62, .string s63, .int .i64 x64, .bool t65, .slice a66 n67 c68]) ∧ Keep [b48] w49 w50 ∧
 Calls Tryz.prog 15 #[.pointer p2, (.agg #[.int .i64 x51, .string s52, .int .i64 x53, .int .i64 x54, .int .i64 x55, .int .i64 x56, .int .i64 x57, .int .i64 x58, .slice a59 n60 c61, .string s62, .string s63, .int .i64 x64, .bool t65, .slice a66 n67 c68])] w50 fun e w69 => ∃ (x70 x71 x72 x73 x74 x75 x76 x77 x78 x79 : Int) (a80 : Option Addr) (n81 c82 : Nat) (x83 x84 x85 x86 : Int) (a87 : Option Addr) (n88 c89 : Nat) (a90 : Option Addr) (n91 c92 : Nat) (x93 : Int), e = .returned (.tuple #[(.agg #[.int .i64 x70, .int .i64 x71, .int .i64 x72, .int .i64 x73, .int .i64 x74, .int .i64 x75, .int .i64 x76, .int .i64 x77, .int .i64 x78, .int .i64 x79, .slice a80 n81 c82, .int .i64 x83, .int .i64 x84, .int .i64 x85, .int .i64 x86, .slice a87 n88 c89, .slice a90 n91 c92]), .int .i64 x93]) ∧ Keep [b48] w50 w69 ∧
 ∀ b94, w69.heap.size ≤ b94 →
 ∀ w95, Adv [] [b94] w69 w95 →
 Calls Tryz.prog 18 #[.pointer p2] w95 fun e w96 => ∃ (a97 : Option Addr) (n98 c99 : Nat), e = .returned (.slice a97 n98 c99) ∧ Keep [b48, b94] w95 w96 ∧
 Calls Tryz.prog 21 #[.pointer p2, (.agg #[.int .i64 1, .int .i64 0, .int .i64 5, .int .i64 0, .int .i64 0, .int .i64 0, .int .i64 0, .int .i64 0, .int .i64 0, .int .i64 2, .slice none 0 0, .int .i64 0, .int .i64 0, .int .i64 0, .int .i64 0, .slice none 0 0, .slice none 0 0])] w96 fun e w100 => ∃ (x101 x102 x103 x104 : Int) (a105 : Option Addr) (n106 c107 : Nat) (a108 : Option Addr) (n109 c110 : Nat) (t111 : Bool), e = .returned (.tuple #[(.agg #[.int .i64 x101, .int .i64 x102, .int .i64 x103, .int .i64 x104, .slice a105 n106 c107, .slice a108 n109 c110]), .bool t111]) ∧ Keep [b48, b94] w96 w100 ∧
 ∀ b112, w100.heap.size ≤ b112 →
 ∀ w113, Adv [] [b112] w100 w113 →
 Calls Tryz.prog 26 #[.pointer p2] w113 fun e w114 => ∃ (x115 x116 x117 : Int) (s118 : ByteArray) (x119 x120 x121 x122 x123 x124 : Int) (a125 : Option Addr) (n126 c127 : Nat) (s128 s129 : ByteArray) (x130 : Int) (t131 : Bool) (a132 : Option Addr) (n133 c134 : Nat) (t135 : Bool), e = .returned (.tuple #[(.agg #[.int .i64 x115, .int .i64 x116, .int .i64 x117, .string s118, .int .i64 x119, .int .i64 x120, .int .i64 x121, .int .i64 x122, .int .i64 x123, .int .i64 x124, .slice a125 n126 c127, .string s128, .string s129, .int .i64 x130, .bool t131, .slice a132 n133 c134]), .bool t135]) ∧ Keep [b48, b94, b112] w113 w114 ∧
 ∀ b136, w114.heap.size ≤ b136 →
 ∀ w137, Adv [] [b136] w114 w137 →
 Calls Tryz.prog 21 #[.pointer p2, (.agg #[.int .i64 1, .int .i64 0, .int .i64 5, .int .i64 4, .int .i64 0, .int .i64 0, .int .i64 0, .int .i64 0, .int .i64 0, .int .i64 1, .slice none 0 0, .int .i64 0, .int .i64 7, .int .i64 0, .int .i64 0, .slice none 0 0, .slice none 0 0])] w137 fun e w138 => ∃ (x139 x140 x141 x142 : Int) (a143 : Option Addr) (n144 c145 : Nat) (a146 : Option Addr) (n147 c148 : Nat) (t149 : Bool), e = .returned (.tuple #[(.agg #[.int .i64 x139, .int .i64 x140, .int .i64 x141, .int .i64 x142, .slice a143 n144 c145, .slice a146 n147 c148]), .bool t149]) ∧ Keep [b48, b94, b112, b136] w137 w138 ∧
 ∀ b150, w138.heap.size ≤ b150 →
 ∀ w151, Adv [] [b150] w138 w151 →
 Calls Tryz.prog 21 #[.pointer p2, (.agg #[.int .i64 1, .int .i64 0, .int .i64 5, .int .i64 0, .int .i64 0, .int .i64 0, .int .i64 0, .int .i64 0, .int .i64 0, .int .i64 1, .slice none 0 0, .int .i64 0, .int .i64 0, .int .i64 0, .int .i64 0, .slice none 0 0, .slice none 0 0])] w151 fun e w152 => ∃ (x153 x154 x155 x156 : Int) (a157 : Option Addr) (n158 c159 : Nat) (a160 : Option Addr) (n161 c162 : Nat) (t163 : Bool), e = .returned (.tuple #[(.agg #[.int .i64 x153, .int .i64 x154, .int .i64 x155, .int .i64 x156, .slice a157 n158 c159, .slice a160 n161 c162]), .bool t163]) ∧ Keep [b48, b94, b112, b136, b150] w151 w152 ∧
 ∀ b164, w152.heap.size ≤ b164 →
 ∀ w165, Adv [] [b164] w152 w165 →
 Calls Tryz.prog 25 #[] w165 fun e w166 => ∃ (x167 : Int) (s168 : ByteArray) (x169 x170 x171 x172 x173 x174 : Int) (a175 : Option Addr) (n176 c177 : Nat) (s178 s179 : ByteArray) (x180 : Int) (t181 : Bool) (a182 : Option Addr) (n183 c184 : Nat), e = .returned (.agg #[.int .i64 x167, .string s168, .int .i64 x169, .int .i64 x170, .int .i64 x171, .int .i64 x172, .int .i64 x173, .int .i64 x174, .slice a175 n176 c177, .string s178, .string s179, .int .i64 x180, .bool t181, .slice a182 n183 c184]) ∧ Keep [b48, b94, b112, b136, b150, b164] w165 w166 ∧
 Calls Tryz.prog 15 #[.pointer p2, (.agg #[.int .i64 x167, .string s168, .int .i64 x169, .int .i64 x170, .int .i64 x171, .int .i64 x172, .int .i64 x173, .int .i64 x174, .slice a175 n176 c177, .string s178, .string s179, .int .i64 x180, .bool t181, .slice a182 n183 c184])] w166 fun e w185 => ∃ (x186 x187 x188 x189 x190 x191 x192 x193 x194 x195 : Int) (a196 : Option Addr) (n197 c198 : Nat) (x199 x200 x201 x202 : Int) (a203 : Option Addr) (n204 c205 : Nat) (a206 : Option Addr) (n207 c208 : Nat) (x209 : Int), e = .returned (.tuple #[(.agg #[.int .i64 x186, .int .i64 x187, .int .i64 x188, .int .i64 x189, .int .i64 x190, .int .i64 x191, .int .i64 x192, .int .i64 x193, .int .i64 x194, .int .i64 x195, .slice a196 n197 c198, .int .i64 x199, .int .i64 x200, .int .i64 x201, .int .i64 x202, .slice a203 n204 c205, .slice a206 n207 c208]), .int .i64 x209]) ∧ Keep [b48, b94, b112, b136, b150, b164] w166 w185 ∧
 ∀ b210, w185.heap.size ≤ b210 →
 ∀ w211, Adv [] [b210] w185 w211 →
 Calls Tryz.prog 15 #[.pointer p2, (.agg #[(.int .i64 (-1)), .string ByteArray.empty, .int .i64 0, .int .i64 0, .int .i64 0, .int .i64 0, .int .i64 0, .int .i64 0, .slice none 0 0, .string ByteArray.empty, .string ByteArray.empty, .int .i64 0, .bool false, .slice none 0 0])] w211 fun e w212 => ∃ (x213 x214 x215 x216 x217 x218 x219 x220 x221 x222 : Int) (a223 : Option Addr) (n224 c225 : Nat) (x226 x227 x228 x229 : Int) (a230 : Option Addr) (n231 c232 : Nat) (a233 : Option Addr) (n234 c235 : Nat) (x236 : Int), e = .returned (.tuple #[(.agg #[.int .i64 x213, .int .i64 x214, .int .i64 x215, .int .i64 x216, .int .i64 x217, .int .i64 x218, .int .i64 x219, .int .i64 x220, .int .i64 x221, .int .i64 x222, .slice a223 n224 c225, .int .i64 x226, .int .i64 x227, .int .i64 x228, .int .i64 x229, .slice a230 n231 c232, .slice a233 n234 c235]), .int .i64 x236]) ∧ Keep [b48, b94, b112, b136, b150, b164, b210] w211 w212 ∧
 ∀ b237, w212.heap.size ≤ b237 →
 ∀ w238, Adv [] [b237] w212 w238 →
 Calls Tryz.prog 10 #[.int .i64 0, .int .i64 3] w238 fun e w239 => ∃ (p240 : Option Addr) (x241 : Int), e = .returned (.tuple #[.pointer p240, .int .i64 x241]) ∧ Keep [b48, b94, b112, b136, b150, b164, b210, b237] w238 w239 ∧
 Calls Tryz.prog 10 #[.int .i64 1, .int .i64 8] w239 fun e w242 => ∃ (p243 : Option Addr) (x244 : Int), e = .returned (.tuple #[.pointer p243, .int .i64 x244]) ∧ Keep [b48, b94, b112, b136, b150, b164, b210, b237] w239 w242 ∧
 brB (x47 == 0) (
 brB (x24 == 0) (
 brB (x25 == 5) (
 brB (x26 == 0) (
 brB ((n35 : Int) == 1) (
 brB (x93 == 220) (
 brB ((n98 : Int) == 3) (
 ixA a97 n98 2 17 fun q245 =>
 ldInt .i64 w242 (Addr.add q245 2) fun x246 =>
 brB (x246 == 2) (
 brB (!t111) (
 brB t135 (
 brB (x116 == 1) (
 brB t149 (
 brB (x140 == 7) (
 brB (!t163) (
 brB (x188 == 1) (
 brB (x209 == 0) (
 brB (x236 == 41) (
 brB (x241 == 1) (
 brB (x244 == 1) (
 Calls Tryz.prog 29 #[.pointer p2] w242 fun e w247 => ∃ x248 : Int, e = .returned (.int .i64 x248) ∧ Keep [b48, b94, b112, b136, b150, b164, b210, b237] w242 w247 ∧
 R (.bool (x248 == 4)) w247)
 (
 R (.bool false) w242))
 (
 R (.bool false) w242))
 (
 R (.bool false) w242))
 (
 R (.bool false) w242))
 (
 R (.bool false) w242))
 (
 R (.bool false) w242))
 (
 R (.bool false) w242))
 (
 R (.bool false) w242))
 (
 R (.bool false) w242))
 (
 R (.bool false) w242))
 (
 R (.bool false) w242))
 (
 R (.bool false) w242))
 (
 R (.bool false) w242))
 (
 R (.bool false) w242))
 (
 R (.bool false) w242))
 (
 R (.bool false) w242))
 (
 R (.bool false) w242))
 (
 R (.bool false) w242))
 (
 R (.bool false) w242)))
theorem law22_fixed_eq (R : Value → World → Prop) (w : World) :
 dnF Tryz.prog law22_fixed_an (code Tryz.f12) 400 [] (post3 Tryz.prog Tryz.f12 [] R) ⟨args0 0 [], fun _ => undef⟩ ⟨[], w, [], [], true⟩ = law22_fixed_T R w := by kernel_rfl
theorem law22_fixed_go {R : Value → World → Prop} {w : World} (h : law22_fixed_T R w) :
 Calls Tryz.prog 12 #[] w fun e w' => ∃ v, e = .returned v ∧ R v w' :=
 calls_none Tryz.wide_mixed (f := 12) (args := []) Tryz.func12 rfl rfl (by kernel_rfl) rfl (Eq.mpr (law22_fixed_eq R w) h)

end Go.Proofs.YtohgihgddknmmaaGreat

/- The conditions of Go functions' bodies, printed by gen2.py. -/
namespace Go.Proofs.YtohgihgddknmmaaGreat
open Go Go.RowKit
set_option linter.unusedVariables false
set_option maxRecDepth 100000

def law16_Cut_la1 : LA := ⟨[0, 0, 1, 0, 1, 1], [0, 3, 4], [], 0, []⟩
def law16_Cut_an : List LA := [law16_Cut_la1]
def law16_Cut_v1 (a0 : Option Addr) (a4 a2 : Nat) (a1 : Option Addr) (a5 a3 : Nat) (a6 : Int) : List Value := [.slice a0 a4 a2, .slice a1 a5 a3, .int .i64 a6]
def law16_Cut_m1 : List TB := []
def law16_Cut_L1 (a2 : Option Addr) (a1 a6 : Nat) (a3 : Option Addr) (a5 a4 : Nat) (a0 : Int) (K1 : Kh) (R : Value → World → Prop) (w : World) : Prop :=
 brB (decide (a0 < (a1 : Int))) (
 brB (decide (a0 < 12)) (
 ixA a2 a1 a0 16 fun q3 =>
 ∀ w4, Adv [] [] w w4 →
 ldInt .i64 w4 q3 fun x5 =>
 ixA a2 a1 a0 16 fun q6 =>
 ldInt .i64 w4 (Addr.add q6 1) fun x7 =>
 ixA a2 a1 a0 16 fun q8 =>
 ldInt .i64 w4 (Addr.add q8 2) fun x9 => ldStr w4 (Addr.add (Addr.add q8 2) 1) fun s10 => ldInt .i64 w4 (Addr.add (Addr.add q8 2) 2) fun x11 => ldInt .i64 w4 (Addr.add (Addr.add q8 2) 3) fun x12 => ldInt .i64 w4 (Addr.add (Addr.add q8 2) 4) fun x13 => ldInt .i64 w4 (Addr.add (Addr.add q8 2) 5) fun x14 => ldInt .i64 w4 (Addr.add (Addr.add q8 2) 6) fun x15 => ldInt .i64 w4 (Addr.add (Addr.add q8 2) 7) fun x16 => ldSlice w4 (Addr.add (Addr.add q8 2) 8) fun a17 n18 c19 => ldStr w4 (Addr.add (Addr.add q8 2) 9) fun s20 => ldStr w4 (Addr.add (Addr.add q8 2) 10) fun s21 => ldInt .i64 w4 (Addr.add (Addr.add q8 2) 11) fun x22 => ldBool w4 (Addr.add (Addr.add q8 2) 12) fun t23 => ldSlice w4 (Addr.add (Addr.add q8 2) 13) fun a24 n25 c26 =>
 Calls Tryz.prog 13 #[(.agg #[.int .i64 x9, .string s10, .int .i64 x11, .int .i64 x12, .int .i64 x13, .int .i64 x14, .int .i64 x15, .int .i64 x16, .slice a17 n18 c19, .string s20, .string s21, .int .i64 x22, .bool t23, .slice a24 n25 c26])] w4 fun e w27 => ∃ (x28 : Int) (s29 : ByteArray) (x30 x31 x32 x33 x34 x35 : Int) (a36 : Option Addr) (n37 c38 : Nat) (s39 s40 : ByteArray) (x41 : Int) (t42 : Bool) (a43 : Option Addr) (n44 c45 : Nat), e = .returned (.agg #[.int .i64 x28, .string s29, .int .i64 x30, .int .i64 x31, .int .i64 x32, .int .i64 x33, .int .i64 x34, .int .i64 x35, .slice a36 n37 c38, .string s39, .string s40, .int .i64 x41, .bool t42, .slice a43 n44 c45]) ∧ (ldInt .i64 w27 (Addr.add q6 1) fun x46 => ((.int .i64 x46) : Value) = (.int .i64 x7)) ∧ (ldInt .i64 w27 q3 fun x47 => ((.int .i64 x47) : Value) = (.int .i64 x5)) ∧
 al w27 (.cells #[.int .i64 x5, .int .i64 x7, .int .i64 x28, .string s29, .int .i64 x30, .int .i64 x31, .int .i64 x32, .int .i64 x33, .int .i64 x34, .int .i64 x35, .slice a36 n37 c38, .string s39, .string s40, .int .i64 x41, .bool t42, .slice a43 n44 c45] 57) fun b48 w49 =>
 effSl Tryz.prog (Builtin.append_ #[39, 39] 39 #[.slice a3 a5 a4, (.slice (some ⟨b48, 0, none⟩) 1 1)]) w49 fun a51 n52 c53 w50 =>
 K1 (law16_Cut_v1 a2 a1 a6 a51 n52 c53 (IntKind.wrap .i64 (a0 + 1))) (law16_Cut_m1) w50)
 (
 R (.slice a3 a5 a4) w))
 (
 R (.slice a3 a5 a4) w)
theorem law16_Cut_L1_eq (a0 : Option Addr) (a4 a2 : Nat) (a1 : Option Addr) (a5 a3 : Nat) (a6 : Int) (K1 : Kh) (js : Nat → Value) (R : Value → World → Prop) (w : World) :
 headA law16_Cut_la1 ((dnF Tryz.prog law16_Cut_an (code Tryz.f30) 396 [0, 0, 1, 0, 1, 1]) (kthen3 (atA law16_Cut_la1 K1) (kont3 Tryz.prog law16_Cut_an (code Tryz.f30) [1, 1, 0, 1, 0] [] (post3 Tryz.prog Tryz.f30 [] R)))) (law16_Cut_v1 a0 a4 a2 a1 a5 a3 a6) js (law16_Cut_m1) w = law16_Cut_L1 a0 a4 a2 a1 a5 a3 a6 K1 R w := by kernel_rfl
def law16_Cut_K1 (a4 : Option Addr) (a6 a5 : Nat) (I : Nat → Option Addr → Nat → Nat → Int → World → Prop) (m : Nat) (vals : List Value) (mem : List TB) (w : World) : Prop := ∃ m', m' < m ∧ ∃ a0 a2 a1 a3, vals = (law16_Cut_v1 a4 a6 a5 a0 a2 a1 a3) ∧ mem = (law16_Cut_m1) ∧ I m' a0 a2 a1 a3 w
theorem law16_Cut_leaf1 {a0 : Option Addr} {a4 a2 : Nat} {I : Nat → Option Addr → Nat → Nat → Int → World → Prop} {m : Nat} {a1 : Option Addr} {a5 a3 : Nat} {a6 : Int} {w : World} (m' : Nat) (h1 : m' < m) (h2 : I m' a1 a5 a3 a6 w) : law16_Cut_K1 a0 a4 a2 I m (law16_Cut_v1 a0 a4 a2 a1 a5 a3 a6) (law16_Cut_m1) w := ⟨m', h1, _, _, _, _, rfl, rfl, h2⟩
theorem law16_Cut_rule1 {a4 : Option Addr} {a6 a5 : Nat} {a7 : Option Addr} {a9 a8 : Nat} {b0 : Int} {R : Value → World → Prop} {w0 : World} (I : Nat → Option Addr → Nat → Nat → Int → World → Prop) (m0 : Nat) (h0 : I m0 a7 a9 a8 b0 w0)
 (hr : ∀ (m : Nat) (a0 : Option Addr) (a2 a1 : Nat) (a3 : Int) (w : World), I m a0 a2 a1 a3 w → law16_Cut_L1 a4 a6 a5 a0 a2 a1 a3 (law16_Cut_K1 a4 a6 a5 I m) R w) :
 loopD3 law16_Cut_la1 (dnF Tryz.prog law16_Cut_an (code Tryz.f30) 396 [0, 0, 1, 0, 1, 1]) (kont3 Tryz.prog law16_Cut_an (code Tryz.f30) [1, 1, 0, 1, 0] [] (post3 Tryz.prog Tryz.f30 [] R)) (law16_Cut_v1 a4 a6 a5 a7 a9 a8 b0) (law16_Cut_m1) w0 := by
 refine ⟨fun m vals mem w => ∃ a0 a2 a1 a3, vals = (law16_Cut_v1 a4 a6 a5 a0 a2 a1 a3) ∧ mem = (law16_Cut_m1) ∧ I m a0 a2 a1 a3 w, m0, ⟨_, _, _, _, rfl, rfl, h0⟩, ?_⟩
 rintro m vals mem w ⟨a0, a2, a1, a3, rfl, rfl, hI⟩
 refine ⟨rfl, rfl, fun js => ?_⟩
 have h := hr m a0 a2 a1 a3 w hI
 rw [← law16_Cut_L1_eq _ _ _ _ _ _ _ _ js] at h
 exact h
def law16_Cut_T (a0 : Option Addr) (a2 a1 : Nat) (R : Value → World → Prop) (w : World) : Prop :=
 al w (.cells #[] 57) fun b1 w2 =>
 loopD3 law16_Cut_la1 (dnF Tryz.prog law16_Cut_an (code Tryz.f30) 396 [0, 0, 1, 0, 1, 1]) (kont3 Tryz.prog law16_Cut_an (code Tryz.f30) [1, 1, 0, 1, 0] [] (post3 Tryz.prog Tryz.f30 [] R)) (law16_Cut_v1 a0 a2 a1 (some ⟨b1, 0, none⟩) 0 0 0) (law16_Cut_m1) w2
theorem law16_Cut_eq (a0 : Option Addr) (a2 a1 : Nat) (R : Value → World → Prop) (w : World) :
 dnF Tryz.prog law16_Cut_an (code Tryz.f30) 400 [] (post3 Tryz.prog Tryz.f30 [] R) ⟨args0 0 [.slice a0 a2 a1], fun _ => undef⟩ ⟨[], w, [], [], true⟩ = law16_Cut_T a0 a2 a1 R w := by kernel_rfl
theorem law16_Cut_go {a0 : Option Addr} {a2 a1 : Nat} {R : Value → World → Prop} {w : World} (h : law16_Cut_T a0 a2 a1 R w) :
 Calls Tryz.prog 30 #[.slice a0 a2 a1] w fun e w' => ∃ v, e = .returned v ∧ R v w' :=
 calls_none Tryz.wide_mixed (f := 30) (args := [.slice a0 a2 a1]) Tryz.func30 rfl rfl (by kernel_rfl) rfl (Eq.mpr (law16_Cut_eq a0 a2 a1 R w) h)
end Go.Proofs.YtohgihgddknmmaaGreat

/- The statements' fixed calls. -/
namespace Go.Proofs.YtohgihgddknmmaaGreat
open Go Go.RowKit
set_option linter.unusedVariables false
set_option linter.unusedSimpArgs false

def tickO : POp := ⟨12, ⟨⟨#[]⟩, 0⟩, 1, 0, batch0, ⟨#[]⟩, ⟨#[]⟩, 0, false, []⟩
theorem tick_ok (w : World) : Calls Tryz.prog 25 #[] w fun e w' => e = .returned (tickO.v nilS nilS) ∧ Mod [] w w' := by
  refine go_of (law22_tick_go ?_)
  intro b1 f1 w2 A2
  exact ⟨rfl, A2.mod⟩
theorem tick_E : opE tickO = 0 := by decide
theorem tick_at (w : World) : OpAt w tickO nilS nilS := ⟨(Row.nil w 0 149 4 encR).sl encR_len, (Row.nil w 0 9 1 encS).sl encS_len, by simp [tickO, batch0], by simp [tickO]⟩
theorem tickE_none {n : Int} (hn : n < 1099511627776) : callE tickO n none = 0 := by rw [callE, if_neg (by rw [tick_E]; decide), if_neg (by decide), if_neg (by omega)]
theorem tickE_some {n : Int} {c : PCall} : callE tickO n (some c) = 220 := by rw [callE, if_neg (by rw [tick_E]; decide), if_pos (by rfl)]
/-- A tick is called. -/
theorem Tick_ok {w : World} {b0 : Nat} {cl rp n v : Int} (h : Ses w b0 cl rp n v none) (hv : 0 ≤ v) (hrp : mayB rp = true) (hn : 0 ≤ n) (hn2 : n < 1099511627776) :
    Calls Tryz.prog 15 #[.pointer (some ⟨b0, 0, none⟩), tickO.v nilS nilS] w fun e w' => ∃ s' : Sl, e = .returned (.tuple #[(askM cl (v % rp) ⟨cl, n + 1, tickO⟩).v s' nilS nilS, .int .i64 0]) ∧ Mod [b0] w w' ∧ MailOwn w' w.heap.size (askM cl (v % rp) ⟨cl, n + 1, tickO⟩) s' nilS nilS ∧ Ses w' b0 cl rp (n + 1) v (some ⟨cl, n + 1, tickO⟩) := by
  refine (Call_ok h (fun w' _ => tick_at w') hv hrp hn).mono ?_
  rintro e w' ⟨_, rfl, M, hh⟩
  rw [if_pos (tickE_none hn2)] at hh
  obtain ⟨s', rfl, h1, h2⟩ := hh
  exact ⟨s', rfl, M, h1, h2⟩
theorem TickB_ok {w : World} {b0 : Nat} {cl rp n v : Int} {c : PCall} (h : Ses w b0 cl rp n v (some c)) (hv : 0 ≤ v) (hrp : mayB rp = true) (hn : 0 ≤ n) :
    Calls Tryz.prog 15 #[.pointer (some ⟨b0, 0, none⟩), tickO.v nilS nilS] w fun e w' => e = .returned (.tuple #[mail0.v nilS nilS nilS, .int .i64 220]) ∧ Mod [b0] w w' ∧ Ses w' b0 cl rp n v (some c) := by
  refine (Call_ok h (fun w' _ => tick_at w') hv hrp hn).mono ?_
  rintro e w' ⟨_, rfl, M, hh⟩
  rw [if_neg (by rw [tickE_some]; decide), tickE_some] at hh
  exact ⟨by rw [hh.1], M, hh.2⟩
/-- An answer, as the statements make them. -/
def ansM (to view n off : Int) : PMail := ⟨1, 0, to, view, 0, 0, 0, 0, 0, n, [], ⟨0, off, 0, 0, [], []⟩⟩
theorem ans_E {to view n off : Int} (h1 : num to = true) (h2 : num view = true) (h3 : num n = true) (h4 : num off = true) : mailE0 (ansM to view n off) = 0 := by
  have n0 : num 0 = true := by decide
  have n1 : num 1 = true := by decide
  have e1 : (numsL (ansM to view n off)).all num = true := by simp [numsL, ansM, h1, h2, h3, n0, n1]
  rw [mailE0, if_neg (by simp [ansM]), if_neg (by rw [e1]; decide)]
  simp [repE, ansM, ok0, h4, n0]
theorem Ans_ok {w : World} {b0 : Nat} {cl rp n v : Int} {o : Option PCall} (h : Ses w b0 cl rp n v o) {to view k off : Int} (h1 : num to = true) (h2 : num view = true) (h3 : num k = true) (h4 : num off = true) :
    Calls Tryz.prog 21 #[.pointer (some ⟨b0, 0, none⟩), (ansM to view k off).v nilS nilS nilS] w fun e w' => ∃ u, e = .returned u ∧ Mod [b0] w w' ∧
      (if heardB 0 (ansM to view k off) cl o = true then ∃ f' p' : Sl, u = .tuple #[(ansM to view k off).r.v f' p', .bool true] ∧ RepOwn w' w.heap.size (ansM to view k off).r f' p' ∧ Ses w' b0 cl rp n (if view > v then view else v) none
      else u = .tuple #[rep00.v nilS nilS, .bool false] ∧ Ses w' b0 cl rp n v o) := by
  refine Hear_ok h (fun w' _ => ?_) fun _ => ⟨by simp [ansM], fun w' _ => ⟨⟨[], (Row.nil w' 0 57 16 CV.cs).sl CV.cs_len, by simp, rfl⟩, ⟨(Row.nil w' 0 152 5 encF).sl encF_len, (Row.nil w' 0 32 2 encP).sl encP_len, by simp [ansM], by simp [ansM]⟩⟩⟩
  have := MsgCheck0_ok (w := w') (m := ansM to view k off) (s := nilS) (f := nilS) (p := nilS) rfl ⟨(Row.nil w' 0 152 5 encF).sl encF_len, (Row.nil w' 0 32 2 encP).sl encP_len, by simp [ansM], by simp [ansM]⟩
  rwa [ans_E h1 h2 h3 h4] at this
theorem AnsYes_ok {w : World} {b0 : Nat} {cl rp n v : Int} {c : PCall} (h : Ses w b0 cl rp n v (some c)) {view off : Int} (h1 : num cl = true) (h2 : num view = true) (h3 : num c.n = true) (h4 : num off = true) :
    Calls Tryz.prog 21 #[.pointer (some ⟨b0, 0, none⟩), (ansM cl view c.n off).v nilS nilS nilS] w fun e w' => ∃ f' p' : Sl, e = .returned (.tuple #[(ansM cl view c.n off).r.v f' p', .bool true]) ∧ Mod [b0] w w' ∧ Ses w' b0 cl rp n (if view > v then view else v) none := by
  refine (Ans_ok h h1 h2 h3 h4).mono ?_
  rintro e w' ⟨_, rfl, M, hh⟩
  rw [if_pos (by simp [heardB, ansM])] at hh
  obtain ⟨f', p', rfl, _, hS⟩ := hh
  exact ⟨f', p', rfl, M, hS⟩
theorem AnsNo_ok {w : World} {b0 : Nat} {cl rp n v : Int} {o : Option PCall} (h : Ses w b0 cl rp n v o) {to view k off : Int} (hno : ∀ c, o = some c → k ≠ c.n) (h1 : num to = true) (h2 : num view = true) (h3 : num k = true) (h4 : num off = true) :
    Calls Tryz.prog 21 #[.pointer (some ⟨b0, 0, none⟩), (ansM to view k off).v nilS nilS nilS] w fun e w' => e = .returned (.tuple #[rep00.v nilS nilS, .bool false]) ∧ Mod [b0] w w' ∧ Ses w' b0 cl rp n v o := by
  refine (Ans_ok h h1 h2 h3 h4).mono ?_
  rintro e w' ⟨_, rfl, M, hh⟩
  rw [if_neg] at hh
  · exact ⟨by rw [hh.1], M, hh.2⟩
  · cases o with
    | none => simp [heardB]
    | some c => simp only [heardB, decide_eq_true_eq]; rintro ⟨_, _, _, hk⟩; exact hno c rfl hk
theorem one_len {w : World} {B : Nat} {cl to : Int} {c : PCall} {s : Sl} (h : MailOwn w B (askM cl to c) s nilS nilS) : s.n = 1 := by
  obtain ⟨ll, h1, _, h3⟩ := h.calls
  have := congrArg List.length h3
  simp [askM] at this
  rw [h1.1, this]
theorem mails_len {w : World} {B : Nat} {s : Sl} {xs : List PMail} (h : MailsOwn w B s xs) : s.n = xs.length := by
  obtain ⟨ll, h1, _, h3⟩ := h
  rw [h1.1, ← h3, List.length_map]
theorem mails_keep {w w' : World} {B : Nat} {s : Sl} {xs : List PMail} (h : MailsOwn w B s xs) (M : Mod [] w w') : MailsOwn w' B s xs := by
  obtain ⟨ll, h1, h2, h3⟩ := h
  exact ⟨ll, h1.keep0 M, fun y hy => (h2 y hy).keep0 M, h3⟩
theorem mails_keepB {S : List Nat} {w w' : World} {B : Nat} {s : Sl} {xs : List PMail} (h : MailsOwn w B s xs) (M : Mod S w w') (hS : ∀ k ∈ S, k < B) : MailsOwn w' B s xs := by
  obtain ⟨ll, h1, h2, h3⟩ := h
  exact ⟨ll, h1.keep M fun ad ha hk => by have := h1.base ad ha; have := hS _ hk; omega, fun y hy => (h2 y hy).keepB M hS, h3⟩
theorem mails_ix {w : World} {B : Nat} {s : Sl} {xs : List PMail} (h : MailsOwn w B s xs) {i : Nat} {m : PMail} (hi : xs[i]? = some m) : ∃ y : MV, y.m = m ∧ MailOwn w B y.m y.s y.f y.p ∧ ∀ {F : Addr → Prop}, (∀ q, (∀ w', Mod [] w w' → ∀ j v, y.cs[j]? = some v → w'.cell? (q.add j) = some v) → F q) → ixA s.a s.n (i : Int) 17 F := by
  obtain ⟨ll, h1, h2, h3⟩ := h
  rw [← h3, List.getElem?_map, Option.map_eq_some_iff] at hi
  obtain ⟨y, hy, rfl⟩ := hi
  exact ⟨y, rfl, h2 y (List.mem_of_getElem? hy), fun hF => (h1.sl MV.cs_len).ixW hy hF⟩


set_option maxHeartbeats 1000000 in
theorem Fixed_ok (w : World) : Calls Tryz.prog 12 #[] w fun e w' => e = .returned (.bool true) ∧ Mod [] w w' := by
  refine go_of (law22_fixed_go ?_)
  have hrp : mayB 3 = true := by decide
  refine (New_ok w).mono ?_
  rintro e w1 ⟨_, rfl, h1, M1⟩
  rw [if_pos ⟨by decide, by decide, hrp⟩] at h1
  obtain ⟨b0, rfl, hb0, S1⟩ := h1
  refine ⟨_, _, rfl, brB_of (fun h => by cases h) fun _ => brB_of (fun h => by cases h) fun _ => ?_⟩
  refine (tick_ok w1).mono ?_
  rintro e w2 ⟨rfl, M2⟩
  refine ⟨_, _, _, _, _, _, _, _, _, _, _, _, _, _, _, _, _, _, rfl, ?_⟩
  have N2 := M1.go0 M2 (by simp)
  refine (Tick_ok (S1.keep0 M2) (by decide) hrp (by decide) (by decide)).mono ?_
  rintro e w3 ⟨s3, rfl, M3, O3, S3⟩
  have N3 := N2.go0 M3 (by simpa using hb0)
  have l3 := S3.lt
  refine ⟨_, _, _, _, _, _, _, _, _, _, _, _, _, _, _, _, _, _, _, _, _, _, _, _, rfl, ?_⟩
  intro b4 f4 w4 A4
  have N4 := N3.go0 A4.mod (by simp)
  have s4 := A4.mod.size
  refine (tick_ok w4).mono ?_
  rintro e w5 ⟨rfl, M5⟩
  have N5 := N4.go0 M5 (by simp)
  have s5 := M5.size
  refine ⟨_, _, _, _, _, _, _, _, _, _, _, _, _, _, _, _, _, _, rfl, Keep.of0 M5, ?_⟩
  refine (TickB_ok ((S3.keep0 A4.mod).keep0 M5) (by decide) hrp (by decide)).mono ?_
  rintro e w6 ⟨rfl, M6, S6⟩
  have N6 := N5.go0 M6 (by simpa using hb0)
  have s6 := M6.size
  refine ⟨_, _, _, _, _, _, _, _, _, _, _, _, _, _, _, _, _, _, _, _, _, _, _, _, rfl, Keep.of M6 fun b hb _ hn => by simp at hb hn; omega, ?_⟩
  intro b7 f7 w7 A7
  have N7 := N6.go0 A7.mod (by simp)
  have s7 := A7.mod.size
  refine (Retry_ok hrp (S6.keep0 A7.mod)).mono ?_
  rintro e w8 ⟨_, rfl, s8, rfl, L8, M8⟩
  have N8 := N7.go0 M8 (by simp)
  have s8' := M8.size
  refine ⟨_, _, _, rfl, Keep.of0 M8, ?_⟩
  have S8 := (S6.keep0 A7.mod).keep0 M8
  refine (AnsNo_ok S8 (to := 5) (view := 0) (k := 2) (off := 0) (by rintro c hc; cases hc; decide) (by decide) (by decide) (by decide) (by decide)).mono ?_
  rintro e w9 ⟨rfl, M9, S9⟩
  have N9 := N8.go0 M9 (by simpa using hb0)
  have s9 := M9.size
  have L9 := mails_keepB L8 M9 (by simp; omega)
  refine ⟨_, _, _, _, _, _, _, _, _, _, _, rfl, Keep.of M9 fun b hb _ hn => by simp at hb hn; omega, ?_⟩
  intro b10 f10 w10 A10
  have N10 := N9.go0 A10.mod (by simp)
  have s10 := A10.mod.size
  refine (Waits_ok (S9.keep0 A10.mod)).mono ?_
  rintro e w11 ⟨_, rfl, ⟨rs, ts, rfl, _⟩, M11⟩
  have N11 := N10.go0 M11 (by simp)
  have s11 := M11.size
  refine ⟨_, _, _, _, _, _, _, _, _, _, _, _, _, _, _, _, _, _, _, _, _, rfl, Keep.of0 M11, ?_⟩
  intro b12 f12 w12 A12
  have N12 := N11.go0 A12.mod (by simp)
  have s12 := A12.mod.size
  have S12 := ((S9.keep0 A10.mod).keep0 M11).keep0 A12.mod
  have L12 := mails_keep (mails_keep (mails_keep L9 A10.mod) M11) A12.mod
  refine (AnsYes_ok S12 (view := 4) (off := 7) (by decide) (by decide) (by decide) (by decide)).mono ?_
  rintro e w13 ⟨f13, p13, rfl, M13, S13⟩
  have N13 := N12.go0 M13 (by simpa using hb0)
  have s13 := M13.size
  have L13 := mails_keepB L12 M13 (by simp; omega)
  refine ⟨_, _, _, _, _, _, _, _, _, _, _, rfl, Keep.of M13 fun b hb _ hn => by simp at hb hn; omega, ?_⟩
  intro b14 f14 w14 A14
  have N14 := N13.go0 A14.mod (by simp)
  have s14 := A14.mod.size
  refine (AnsNo_ok (S13.keep0 A14.mod) (to := 5) (view := 0) (k := 1) (off := 0) (by rintro c hc; cases hc) (by decide) (by decide) (by decide) (by decide)).mono ?_
  rintro e w15 ⟨rfl, M15, S15⟩
  have N15 := N14.go0 M15 (by simpa using hb0)
  have s15 := M15.size
  have L15 := mails_keepB (mails_keep L13 A14.mod) M15 (by simp; omega)
  refine ⟨_, _, _, _, _, _, _, _, _, _, _, rfl, Keep.of M15 fun b hb _ hn => by simp at hb hn; omega, ?_⟩
  intro b16 f16 w16 A16
  have N16 := N15.go0 A16.mod (by simp)
  have s16 := A16.mod.size
  refine (tick_ok w16).mono ?_
  rintro e w17 ⟨rfl, M17⟩
  have N17 := N16.go0 M17 (by simp)
  have s17 := M17.size
  refine ⟨_, _, _, _, _, _, _, _, _, _, _, _, _, _, _, _, _, _, rfl, Keep.of0 M17, ?_⟩
  refine (Tick_ok ((S15.keep0 A16.mod).keep0 M17) (by decide) hrp (by decide) (by decide)).mono ?_
  rintro e w18 ⟨s18, rfl, M18, O18, S18⟩
  have N18 := N17.go0 M18 (by simpa using hb0)
  have s18' := M18.size
  have L18 := mails_keepB (mails_keep (mails_keep L15 A16.mod) M17) M18 (by simp; omega)
  refine ⟨_, _, _, _, _, _, _, _, _, _, _, _, _, _, _, _, _, _, _, _, _, _, _, _, rfl, Keep.of M18 fun b hb _ hn => by simp at hb hn; omega, ?_⟩
  intro b19 f19 w19 A19
  have N19 := N18.go0 A19.mod (by simp)
  have s19 := A19.mod.size
  have hbad : callE (⟨-1, ⟨⟨#[]⟩, 0⟩, 0, 0, batch0, ⟨#[]⟩, ⟨#[]⟩, 0, false, []⟩ : POp) (0 + 1 + 1) (some ⟨5, 0 + 1 + 1, tickO⟩) = 41 := by decide
  refine (Call_ok (op := ⟨-1, ⟨⟨#[]⟩, 0⟩, 0, 0, batch0, ⟨#[]⟩, ⟨#[]⟩, 0, false, []⟩) (rs := nilS) (ts := nilS) (S18.keep0 A19.mod) (fun w' _ => ⟨(Row.nil w' 0 149 4 encR).sl encR_len, (Row.nil w' 0 9 1 encS).sl encS_len, by simp [batch0], by simp⟩) (by decide) hrp (by decide)).mono ?_
  rintro e w20 ⟨_, rfl, M20, h20⟩
  rw [if_neg (by rw [hbad]; decide), hbad] at h20
  obtain ⟨rfl, S20⟩ := h20
  have N20 := N19.go0 M20 (by simpa using hb0)
  have s20 := M20.size
  have L20 := mails_keepB (mails_keep L18 A19.mod) M20 (by simp; omega)
  refine ⟨_, _, _, _, _, _, _, _, _, _, _, _, _, _, _, _, _, _, _, _, _, _, _, _, rfl, Keep.of M20 fun b hb _ hn => by simp at hb hn; omega, ?_⟩
  intro b21 f21 w21 A21
  have N21 := N20.go0 A21.mod (by simp)
  refine (New_ok w21).mono ?_
  rintro e w22 ⟨_, rfl, h22, M22⟩
  rw [if_neg (by decide)] at h22
  subst h22
  refine ⟨_, _, rfl, Keep.of0 M22, ?_⟩
  refine (New_ok w22).mono ?_
  rintro e w23 ⟨_, rfl, h23, M23⟩
  rw [if_neg (by decide)] at h23
  subst h23
  refine ⟨_, _, rfl, Keep.of0 M23, ?_⟩
  have N23 := (N21.go0 M22 (by simp)).go0 M23 (by simp)
  have L23 := mails_keep (mails_keep (mails_keep L20 A21.mod) M22) M23
  have S23 := ((S20.keep0 A21.mod).keep0 M22).keep0 M23
  have hn3 := one_len O3
  have hn8 : s8.n = 3 := by rw [mails_len L23]; rfl
  obtain ⟨y, hy, _, hix⟩ := mails_ix L23 (i := 2) (m := askM 5 2 ⟨5, 0 + 1, tickO⟩) rfl
  have yes : ∀ {t : Bool} {A B : Prop}, t = true → A → brB t A B := fun ht ha => brB_of (fun _ => ha) fun h => by rw [ht] at h; cases h
  refine yes (by decide) (yes (by decide) (yes (by decide) (yes (by decide) (yes (by rw [hn3]; rfl) (yes (by decide) (yes (by rw [hn8]; rfl) ?_))))))
  refine hix fun q hq => ldInt_of (x := y.m.to) (hq w23 (Mod.refl _) 2 _ rfl) ?_
  rw [hy]
  refine yes (by decide) (yes (by decide) (yes (by decide) (yes (by rfl) (yes (by decide) (yes (by decide) (yes (by decide) (yes (by decide) (yes (by decide) (yes (by decide) (yes (by decide) (yes (by decide) ?_)))))))))))
  refine (View_ok S23).mono ?_
  rintro e w24 ⟨rfl, M24⟩
  exact ⟨_, rfl, Keep.of0 M24, by rfl, N23.go0 M24 (by simp)⟩

end Go.Proofs.YtohgihgddknmmaaGreat
