/- A region whose order is open, with effects: one order serves for all, where each operation that may come ahead of an effect, or behind it, reads the same. -/
import Derived.Test.YtohgihgddknmmaaDen1
namespace Go.Proofs.Ytohgihgddknmmaa
open Go Go.RowKit
set_option linter.unusedVariables false
set_option linter.unusedSimpArgs false

/-- Leaves the world, whatever happens. -/
def stillB (P : Program) (o : Oper) : Bool := quietB P o && match o.op with
  | .call c => match c.callee with
    | .builtin _ => true
    | _ => false
  | _ => true
def isNewB (o : Oper) : Bool := match o.op with
  | .alloc _ | .box _ _ | .buildSlice _ _ _ | .makeMap _ _ => true
  | _ => false

/-! ### who must stand ahead of whom -/
inductive Reach (ops : Array Oper) : Nat → Nat → Prop
  | edge {i j : Nat} {o : Oper} {e : Edge} (h : ops[i]? = some o) (he : e ∈ o.after) (hb : Region.binds .any e = true) (hj : e.on = j) : Reach ops i j
  | step {i j k : Nat} {o : Oper} {e : Edge} (h : ops[i]? = some o) (he : e ∈ o.after) (hb : Region.binds .any e = true) (hj : e.on = j) (r : Reach ops j k) : Reach ops i k

def maskOf (acc : List Nat) : List Edge → Nat
  | [] => 0
  | e :: r => if Region.binds .any e then (1 <<< e.on) ||| acc.getD e.on 0 ||| maskOf acc r else maskOf acc r
def cloFrom (acc : List Nat) : List Oper → List Nat
  | [] => acc
  | o :: r => cloFrom (acc ++ [maskOf acc o.after.toList]) r
def clo (ops : Array Oper) : List Nat := cloFrom [] ops.toList
def depB (m : List Nat) (i j : Nat) : Bool := (m.getD i 0).testBit j

theorem mask_reach {ops : Array Oper} {acc : List Nat} (hacc : ∀ i j, (acc.getD i 0).testBit j = true → Reach ops i j) {i : Nat} {o : Oper} (ho : ops[i]? = some o) : ∀ {l : List Edge} {j : Nat}, (∀ e ∈ l, e ∈ o.after) → (maskOf acc l).testBit j = true → Reach ops i j
  | [], j, _, h => by simp [maskOf] at h
  | e :: r, j, hl, h => by
    unfold maskOf at h
    split at h
    · rename_i hb
      simp only [Nat.testBit_or, Bool.or_eq_true] at h
      rcases h with (h | h) | h
      · refine .edge ho (hl e (by simp)) hb ?_
        simp [Nat.one_shiftLeft, Nat.testBit_two_pow] at h
        exact h
      · exact .step ho (hl e (by simp)) hb rfl (hacc _ _ h)
      · exact mask_reach hacc ho (fun e he => hl e (by simp [he])) h
    · exact mask_reach hacc ho (fun e he => hl e (by simp [he])) h

theorem cloFrom_reach {ops : Array Oper} : ∀ {l : List Oper} {acc : List Nat}, (∀ i j, (acc.getD i 0).testBit j = true → Reach ops i j) → (∀ k, l[k]? = ops[acc.length + k]?) → ∀ i j, ((cloFrom acc l).getD i 0).testBit j = true → Reach ops i j
  | [], acc, h, _, i, j, hij => h i j hij
  | o :: r, acc, h, hk, i, j, hij => by
    refine cloFrom_reach (l := r) (acc := acc ++ [maskOf acc o.after.toList]) ?_ ?_ i j hij
    · intro i j hij
      by_cases hi : i < acc.length
      · rw [List.getD_eq_getElem?_getD, List.getElem?_append_left hi, ← List.getD_eq_getElem?_getD] at hij
        exact h i j hij
      · by_cases he : i = acc.length
        · subst he
          have h0 := hk 0
          simp at h0
          rw [List.getD_eq_getElem?_getD, List.getElem?_append_right (Nat.le_refl _)] at hij
          simp at hij
          exact mask_reach h h0.symm (fun e he => by simpa using he) hij
        · rw [List.getD_eq_getElem?_getD, List.getElem?_append_right (by omega)] at hij
          have : i - acc.length ≠ 0 := by omega
          rw [List.getElem?_eq_none (by simp; omega)] at hij
          simp at hij
    · intro k
      have := hk (k + 1)
      simp only [List.getElem?_cons_succ] at this
      rw [this]; simp; congr 1; omega

theorem clo_reach {ops : Array Oper} {i j : Nat} (h : depB (clo ops) i j = true) : Reach ops i j :=
  cloFrom_reach (l := ops.toList) (acc := []) (by simp) (by simp) i j h

/-! ### the order that serves -/
def edgeB (o : Oper) (j : Nat) : Bool := o.after.toList.any fun e => Region.binds .any e && e.on == j
/-- x stands ahead of y in the list. -/
def pairB (P : Program) (ops : Array Oper) (m : List Nat) (x y : Nat) : Bool := match ops[x]?, ops[y]? with
  | some ox, some oy => !(edgeB ox y) && (stillB P ox || depB m y x) && (ox.apart ops oy || depB m y x)
  | _, _ => false
def pairsB (P : Program) (ops : Array Oper) (m : List Nat) : List Nat → Bool
  | [] => true
  | x :: L => L.all (pairB P ops m x) && pairsB P ops m L
def oneB (ops : Array Oper) (x : Nat) : Bool := match ops[x]? with
  | some o => !(edgeB o x) && (o.after.all fun e => !Region.binds .any e || decide (e.on < ops.size)) && (match o.op with | .select .. => false | _ => true)
  | none => false
def permB (n : Nat) (L : List Nat) : Bool := L.length == n && L.all (fun x => decide (x < n)) && decide L.Nodup && (List.range n).all (fun x => L.contains x)
/-- Greedy: whatever leaves the world first. -/
def pickFrom (ops : Array Oper) (done : Nat) (p : Oper → Bool) : Nat → List Oper → Option Nat
  | _, [] => none
  | i, o :: r => match done.testBit i with
    | true => pickFrom ops done p (i + 1) r
    | false => match p o && o.after.all (fun e => !Region.binds .any e || done.testBit e.on) with
      | true => some i
      | false => pickFrom ops done p (i + 1) r
def greedy (P : Program) (ops : Array Oper) : Nat → Nat → List Nat
  | 0, _ => []
  | n + 1, done => match pickFrom ops done (stillB P) 0 ops.toList with
    | some i => i :: greedy P ops n (done ||| (1 <<< i))
    | none => match pickFrom ops done (fun _ => true) 0 ops.toList with
      | some i => i :: greedy P ops n (done ||| (1 <<< i))
      | none => []
def ordOf (P : Program) (ops : Array Oper) : List Nat := greedy P ops ops.size 0
def ordB (P : Program) (ops : Array Oper) (L : List Nat) : Bool := permB ops.size L && pairsB P ops (clo ops) L && L.all (oneB ops)

/-! ### the condition -/
/-- An operation that leaves the world yields v; so it does in whatever world is w but for new blocks. -/
def YieldsQ (P : Program) (ops : Array Oper) (o : Oper) (v : Value) (a : Act) (w : World) : Prop :=
  (Region.wanted o (yielded ops a.tmps) = true ∧ ∀ w', (readB P o = true → Mod [] w w') → (execOp a.eval o).run P w' = .ok (.value v) w') ∨
  (Region.wanted o (yielded ops a.tmps) = false ∧ v = undef)
theorem YieldsQ.of_same {P : Program} {ops : Array Oper} {o : Oper} {v : Value} {a a' : Act} {w : World} (hy : YieldsQ P ops o v a w) (he : execOp a'.eval o = execOp a.eval o)
    (hw : Region.wanted o (yielded ops a'.tmps) = Region.wanted o (yielded ops a.tmps)) : YieldsQ P ops o v a' w := by
  unfold YieldsQ at *
  rw [he, hw]
  exact hy

abbrev Recs := List (Nat × Act × Value)
def Obl (P : Program) (ops : Array Oper) (m : List Nat) (i : Nat) (Γ : Recs) (w : World) : Prop := ∀ g ∈ Γ, depB m i g.1 = false → ∀ o, ops[g.1]? = some o → YieldsQ P ops o g.2.2 g.2.1 w
/-- What an operation hangs on is behind it for good. -/
def sift (m : List Nat) (i : Nat) (Γ : Recs) : Recs := Γ.filter fun g => !depB m i g.1
theorem sift_mem {m : List Nat} {i : Nat} {Γ : Recs} {g : Nat × Act × Value} : g ∈ sift m i Γ ↔ g ∈ Γ ∧ depB m i g.1 = false := by simp [sift]
def ordVC (P : Program) (ops : Array Oper) (m : List Nat) (Q : Act → World → Prop) : List Nat → Recs → Act → World → Prop
  | [], _, a, w => Q a w
  | i :: L, Γ, a, w => ∃ o, ops[i]? = some o ∧ match stillB P o with
    | true => ∃ v, YieldsQ P ops o v a w ∧ ordVC P ops m Q L ((i, a, v) :: Γ) (a.put o.dst v) w
    | false => (Region.wanted o (yielded ops a.tmps) = true → effW P (execOp a.eval o) w fun v w' => Obl P ops m i Γ w' ∧ ordVC P ops m Q L (sift m i Γ) (a.put o.dst v) w') ∧
      (Region.wanted o (yielded ops a.tmps) = false → ordVC P ops m Q L Γ (a.put o.dst undef) w)

/-- Fewer, or other records of the same. -/
def Less (P : Program) (ops : Array Oper) (Γ' Γ : Recs) : Prop := ∀ g' ∈ Γ', ∃ g ∈ Γ, g.1 = g'.1 ∧ ∀ o w, ops[g.1]? = some o → YieldsQ P ops o g.2.2 g.2.1 w → YieldsQ P ops o g'.2.2 g'.2.1 w
theorem Less.refl {P : Program} {ops : Array Oper} (Γ : Recs) : Less P ops Γ Γ := fun g hg => ⟨g, hg, rfl, fun _ _ _ h => h⟩
theorem Less.cons {P : Program} {ops : Array Oper} {Γ' Γ : Recs} (h : Less P ops Γ' Γ) (x : Nat × Act × Value) : Less P ops (x :: Γ') (x :: Γ) := fun g hg => by
  rcases List.mem_cons.1 hg with rfl | hg
  · exact ⟨_, by simp, rfl, fun _ _ _ h => h⟩
  · obtain ⟨g', h1, h2⟩ := h g hg; exact ⟨g', by simp [h1], h2⟩
theorem Less.drop {P : Program} {ops : Array Oper} (Γ : Recs) (x : Nat × Act × Value) : Less P ops Γ (x :: Γ) := fun g hg => ⟨g, by simp [hg], rfl, fun _ _ _ h => h⟩
theorem Obl.less {P : Program} {ops : Array Oper} {m : List Nat} {i : Nat} {Γ Γ' : Recs} {w : World} (h : Obl P ops m i Γ w) (hl : Less P ops Γ' Γ) : Obl P ops m i Γ' w := fun g' hg' hd o ho => by
  obtain ⟨g, hg, h1, h2⟩ := hl g' hg'
  rw [← h1] at ho hd
  exact h2 o w ho (h g hg hd o ho)
theorem Less.sift {P : Program} {ops : Array Oper} {Γ' Γ : Recs} {m : List Nat} {i : Nat} (h : Less P ops Γ' Γ) : Less P ops (Go.Proofs.Ytohgihgddknmmaa.sift m i Γ') (Go.Proofs.Ytohgihgddknmmaa.sift m i Γ) := fun g' hg' => by
  obtain ⟨h1, h2⟩ := sift_mem.1 hg'
  obtain ⟨g, h3, h4, h5⟩ := h g' h1
  exact ⟨g, sift_mem.2 ⟨h3, by rw [h4]; exact h2⟩, h4, h5⟩
theorem ordVC_less {P : Program} {ops : Array Oper} {m : List Nat} {Q : Act → World → Prop} : ∀ {L : List Nat} {Γ Γ' : Recs} {a : Act} {w : World}, ordVC P ops m Q L Γ a w → Less P ops Γ' Γ → ordVC P ops m Q L Γ' a w
  | [], _, _, _, _, h, _ => h
  | i :: L, Γ, Γ', a, w, h, hl => by
    obtain ⟨o, ho, h⟩ := h
    refine ⟨o, ho, ?_⟩
    split at h
    · obtain ⟨v, h1, h2⟩ := h
      exact ⟨v, h1, ordVC_less h2 (hl.cons _)⟩
    · exact ⟨fun hw => effW_mono (h.1 hw) fun v w' ⟨h1, h2⟩ => ⟨h1.less hl, ordVC_less h2 hl.sift⟩, fun hw => ordVC_less (h.2 hw) hl⟩

/-- One that is ready goes to the front. -/
theorem ordVC_front {P : Program} {ops : Array Oper} {m : List Nat} {Q : Act → World → Prop} {j : Nat} {oj : Oper} (hj : ops[j]? = some oj) (hsj : ∀ cs b, oj.op ≠ .select cs b) {L2 : List Nat} :
    ∀ {qs : List Nat} {Γ : Recs} {a : Act} {w : World}, (∀ q ∈ qs, ∃ oq, ops[q]? = some oq ∧ stillB P oq = true ∧ oq.apart ops oj = true ∧ depB m j q = false ∧ ∀ cs b, oq.op ≠ .select cs b) → ordVC P ops m Q (qs ++ j :: L2) Γ a w →
    match stillB P oj with
    | true => ∃ v, YieldsQ P ops oj v a w ∧ ordVC P ops m Q (qs ++ L2) Γ (a.put oj.dst v) w
    | false => (Region.wanted oj (yielded ops a.tmps) = true → effW P (execOp a.eval oj) w fun v w' => Obl P ops m j Γ w' ∧ ordVC P ops m Q (qs ++ L2) (sift m j Γ) (a.put oj.dst v) w') ∧
      (Region.wanted oj (yielded ops a.tmps) = false → ordVC P ops m Q (qs ++ L2) Γ (a.put oj.dst undef) w)
  | [], Γ, a, w, _, h => by
    obtain ⟨o, ho, h⟩ := h
    rw [hj] at ho; cases ho
    split at h
    · rename_i hs
      try simp only [hs]
      obtain ⟨v, h1, h2⟩ := h
      exact ⟨v, h1, ordVC_less h2 (Less.drop _ _)⟩
    · rename_i hs
      try simp only [hs]
      exact h
  | q :: qs, Γ, a, w, hq, h => by
    obtain ⟨oq, hoq, hsq, hap, hd, hsel⟩ := hq q (by simp)
    obtain ⟨h1, h2, h3⟩ := Oper.apart_spec hap
    obtain ⟨o, ho, h⟩ := h
    rw [hoq] at ho; cases ho
    simp only [hsq] at h
    obtain ⟨u, hu, h⟩ := h
    have ih := ordVC_front hj hsj (fun q' hq' => hq q' (by simp [hq'])) h
    have comm : ∀ v, (a.put oq.dst u).put oj.dst v = (a.put oj.dst v).put oq.dst u := fun v => Act.put_comm a u v h2
    have yq : ∀ v w', YieldsQ P ops oq u a w' → YieldsQ P ops oq u (a.put oj.dst v) w' := fun v w' hy => hy.of_same (execOp_put oq hsel a oj.dst v h3) (wanted_put oq a oj.dst v h3)
    have back : ∀ Γ v w', YieldsQ P ops oq u a w' → ordVC P ops m Q (qs ++ L2) ((q, a, u) :: Γ) ((a.put oq.dst u).put oj.dst v) w' → ordVC P ops m Q (q :: (qs ++ L2)) Γ (a.put oj.dst v) w' := fun Γ v w' hy h => by
      refine ⟨oq, hoq, ?_⟩
      simp only [hsq]
      refine ⟨u, yq v w' hy, ?_⟩
      rw [comm] at h
      refine ordVC_less h fun g' hg' => ?_
      rcases List.mem_cons.1 hg' with rfl | hg'
      · exact ⟨_, List.mem_cons_self, rfl, fun o w'' ho hy => by
          rw [hoq] at ho; cases ho
          exact yq v w'' hy⟩
      · exact ⟨g', by simp [hg'], rfl, fun _ _ _ h => h⟩
    split at ih
    · rename_i hs
      try simp only [hs]
      obtain ⟨v, h4, h5⟩ := ih
      refine ⟨v, h4.of_same (execOp_put oj hsj a oq.dst u h1).symm (wanted_put oj a oq.dst u h1).symm, ?_⟩
      exact back Γ v w hu h5
    · rename_i hs
      try simp only [hs]
      rw [wanted_put oj a oq.dst u h1, execOp_put oj hsj a oq.dst u h1] at ih
      refine ⟨fun hw => effW_mono (ih.1 hw) fun v w' ⟨h4, h5⟩ => ⟨h4.less (Less.drop _ _), back _ v w' (h4 _ List.mem_cons_self hd oq hoq) (show ordVC P ops m Q (qs ++ L2) ((q, a, u) :: sift m j Γ) _ _ from (show sift m j ((q, a, u) :: Γ) = (q, a, u) :: sift m j Γ by simp [sift, hd]) ▸ h5)⟩, fun hw => back Γ undef w hu (ih.2 hw)⟩

theorem reach_listed {ops : Array Oper} {L : List Nat} (hc : ∀ x o, x ∉ L → ops[x]? = some o → ∀ e ∈ o.after, Region.binds .any e = true → e.on ∉ L) {i k : Nat} (h : Reach ops i k) :
    (∀ o, ops[i]? = some o → ∀ e ∈ o.after, Region.binds .any e = true → e.on ∉ L) → k ∉ L := by
  induction h with
  | edge h he hb hj => intro hi; rw [← hj]; exact hi _ h _ he hb
  | step h he hb hj r ih => intro hi; exact ih (fun o ho => hc _ o (by rw [← hj]; exact hi _ h _ he hb) ho)

theorem pairs_of_split {P : Program} {ops : Array Oper} {m : List Nat} : ∀ {qs L2 : List Nat} {j : Nat}, pairsB P ops m (qs ++ j :: L2) = true → ∀ q ∈ qs, pairB P ops m q j = true
  | [], _, _, _, q, hq => by cases hq
  | x :: qs, L2, j, h, q, hq => by
    simp only [List.cons_append, pairsB, Bool.and_eq_true, List.all_eq_true] at h
    rcases List.mem_cons.1 hq with rfl | hq
    · exact h.1 j (by simp)
    · exact pairs_of_split h.2 q hq
theorem pairs_erase {P : Program} {ops : Array Oper} {m : List Nat} : ∀ {qs L2 : List Nat} {j : Nat}, pairsB P ops m (qs ++ j :: L2) = true → pairsB P ops m (qs ++ L2) = true
  | [], _, _, h => by simp only [List.nil_append, pairsB, Bool.and_eq_true] at h; exact h.2
  | x :: qs, L2, j, h => by
    simp only [List.cons_append, pairsB, Bool.and_eq_true, List.all_eq_true] at h ⊢
    exact ⟨fun y hy => h.1 y (by simp at hy ⊢; rcases hy with hy | hy <;> simp [hy]), pairs_erase h.2⟩

theorem ordVC_sound {P : Program} {ops : Array Oper} {Q : Exit → Act → World → Prop} : ∀ (n : Nat) {L : List Nat} {listed : Array Bool} {a : Act} {w : World}, L.length = n → listed.size = ops.size → L.Nodup →
    (∀ i, i < ops.size → (listed.getD i true = false ↔ i ∈ L)) → (∀ i ∈ L, i < ops.size) → pairsB P ops (clo ops) L = true → (∀ x ∈ L, oneB ops x = true) →
    (∀ x o, x ∉ L → ops[x]? = some o → ∀ e ∈ o.after, Region.binds .any e = true → e.on ∉ L) → ordVC P ops (clo ops) (Q .normal) L [] a w → wpAny P .any ops Q n listed a w := by
  intro n
  induction n with
  | zero =>
    intro L listed a w hn hsz hnd hl hlt hp h1 hc h
    have : L = [] := List.length_eq_zero_iff.1 hn
    subst this
    refine ⟨?_, h⟩
    unfold Region.ready
    rw [List.filter_eq_nil_iff]
    intro i hi hb
    simp only [Bool.and_eq_true, Bool.not_eq_true'] at hb
    have := (hl i (by simpa using hi)).1 hb.1
    cases this
  | succ n ih =>
    intro L listed a w hn hsz hnd hl hlt hp h1 hc h
    refine ⟨fun hr => ?_, fun i hi => ?_⟩
    · -- the first of the list is ready
      exfalso
      match L, hn with
      | x :: L', hn =>
        have hx := hlt x (by simp)
        obtain ⟨o, ho⟩ : ∃ o, ops[x]? = some o := ⟨ops[x], by simp [hx]⟩
        have h1x := h1 x (by simp)
        simp only [oneB, ho, Bool.and_eq_true, Bool.not_eq_true'] at h1x
        simp only [pairsB, Bool.and_eq_true, List.all_eq_true] at hp
        have : x ∈ Region.ready .any ops listed := by
          unfold Region.ready
          rw [List.mem_filter]
          refine ⟨by simpa using hx, ?_⟩
          simp only [Bool.and_eq_true, Bool.not_eq_true', ho, Option.map_some, Option.getD_some]
          refine ⟨(hl x hx).2 (by simp), ?_⟩
          rw [Array.all_eq_true_iff_forall_mem]
          intro e he
          by_cases hb : Region.binds .any e = true
          · have hlt' : e.on < ops.size := by
              have := h1x.1.2
              rw [Array.all_eq_true_iff_forall_mem] at this
              have := this e he
              simpa [hb] using this
            have hnm : e.on ∉ x :: L' := by
              intro hm
              have edge : ∀ y, e.on = y → edgeB o y = true := fun y hy => by
                unfold edgeB
                rw [List.any_eq_true]
                exact ⟨e, by simpa using he, by simp [hb, hy]⟩
              rcases List.mem_cons.1 hm with hm | hm
              · rw [edge _ hm] at h1x; simp at h1x
              · have := hp.1 _ hm
                unfold pairB at this
                rw [ho] at this
                split at this
                · rename_i ox oy e1 e2
                  cases e1
                  rw [edge _ rfl] at this
                  simp at this
                · cases this
            have : listed.getD e.on true ≠ false := fun hf => hnm ((hl _ hlt').1 hf)
            have hs : e.on < listed.size := by omega
            simp only [hb, Bool.not_true, Bool.false_or]
            simp [Array.getD, hs] at this ⊢
            exact this
          · simp [hb]
        rw [hr] at this
        cases this
    · unfold Region.ready at hi
      rw [List.mem_filter] at hi
      obtain ⟨hi1, hi2⟩ := hi
      have hilt : i < ops.size := by simpa using hi1
      obtain ⟨o, ho⟩ : ∃ o, ops[i]? = some o := ⟨ops[i], by simp [hilt]⟩
      simp only [Bool.and_eq_true, Bool.not_eq_true', ho, Option.map_some, Option.getD_some] at hi2
      have hiL : i ∈ L := (hl i hilt).1 hi2.1
      have hedge : ∀ e ∈ o.after, Region.binds .any e = true → e.on ∉ L := fun e he hb hm => by
        have h2 := hi2.2
        rw [Array.all_eq_true_iff_forall_mem] at h2
        have h2 := h2 e he
        simp only [hb, Bool.not_true, Bool.false_or] at h2
        have hlt' := hlt _ hm
        have := (hl _ hlt').2 hm
        have hs : e.on < listed.size := by omega
        simp [Array.getD, hs] at this h2
        rw [this] at h2
        cases h2
      have nodep : ∀ q ∈ L, depB (clo ops) i q = false := fun q hq => by
        cases hd : depB (clo ops) i q with
        | false => rfl
        | true => exact absurd hq (reach_listed hc (clo_reach hd) (fun o' ho' => by rw [ho] at ho'; cases ho'; exact hedge))
      obtain ⟨qs, L2, rfl⟩ := List.append_of_mem hiL
      have hsel : ∀ x ∈ qs ++ i :: L2, ∀ o, ops[x]? = some o → ∀ cs b, o.op ≠ .select cs b := fun x hx o ho cs b e => by
        have := h1 x hx
        simp [oneB, ho, e] at this
      have hq : ∀ q ∈ qs, ∃ oq, ops[q]? = some oq ∧ stillB P oq = true ∧ oq.apart ops o = true ∧ depB (clo ops) i q = false ∧ ∀ cs b, oq.op ≠ .select cs b := fun q hq => by
        have hp' := pairs_of_split hp q hq
        have hd := nodep q (by simp [hq])
        unfold pairB at hp'
        split at hp'
        · rename_i ox oy e1 e2
          rw [ho] at e2; cases e2
          simp only [hd, Bool.or_false, Bool.and_eq_true] at hp'
          exact ⟨ox, e1, hp'.1.2, hp'.2, hd, hsel q (by simp [hq]) ox e1⟩
        · cases hp'
      have hf := ordVC_front ho (hsel i (by simp) o ho) hq h
      -- what is left
      have next : ∀ a' w', ordVC P ops (clo ops) (Q .normal) (qs ++ L2) [] a' w' → wpAny P .any ops Q n (listed.setIfInBounds i true) a' w' := fun a' w' h' => by
        have hni : i ∉ qs ++ L2 := by
          intro hm
          have := List.nodup_append.1 hnd
          rcases List.mem_append.1 hm with hm | hm
          · exact this.2.2 i hm i (by simp) rfl
          · exact (List.nodup_cons.1 this.2.1).1 hm
        refine ih (L := qs ++ L2) (by simp at hn ⊢; omega) (by simp [hsz]) ?_ ?_ (fun x hx => hlt x (by simp at hx ⊢; rcases hx with hx | hx <;> simp [hx])) (pairs_erase hp) (fun x hx => h1 x (by simp at hx ⊢; rcases hx with hx | hx <;> simp [hx])) ?_ h'
        · have hsub : (qs ++ L2).Sublist (qs ++ i :: L2) := List.Sublist.append (List.Sublist.refl _) (List.sublist_cons_self _ _)
          exact hnd.sublist hsub
        · intro k hk
          by_cases hki : k = i
          · subst hki
            constructor
            · intro hf; simp [Array.getD, hsz, hk] at hf
            · intro hm; exact absurd hm hni
          · have e1 : (listed.setIfInBounds i true).getD k true = listed.getD k true := by
              simp [Array.getD, hsz, hk, Array.getElem_setIfInBounds, Ne.symm hki]
            rw [e1, hl k hk]
            simp [hki]
        · intro x o' hx ho' e he hb hm
          by_cases hxi : x = i
          · subst hxi
            rw [ho] at ho'; cases ho'
            exact hedge e he hb (by simp at hm ⊢; rcases hm with hm | hm <;> simp [hm])
          · exact hc x o' (by simp at hx ⊢; exact ⟨hx.1, hxi, hx.2⟩) ho' e he hb (by simp at hm ⊢; rcases hm with hm | hm <;> simp [hm])
      unfold wpOp
      simp only [ho]
      split at hf
      · obtain ⟨v, hy, h'⟩ := hf
        rcases hy with ⟨hw, hr⟩ | ⟨hw, rfl⟩
        · rw [if_pos hw]
          exact .inl (effW_wp (K := fun u w' => u = v ∧ w' = w) (effW_run (hr w (fun _ => Mod.refl w)) ⟨rfl, rfl⟩) fun u w' ⟨e1, e2⟩ => by subst e1; subst e2; exact next _ _ h')
        · rw [if_neg (by rw [hw]; simp)]
          exact next _ _ h'
      · by_cases hw : Region.wanted o (yielded ops a.tmps) = true
        · rw [if_pos hw]
          exact .inl (effW_wp (hf.1 hw) fun v w' ⟨_, h'⟩ => next _ _ h')
        · have hw : Region.wanted o (yielded ops a.tmps) = false := by simpa using hw
          rw [if_neg (by rw [hw]; simp)]
          exact next _ _ (hf.2 hw)

theorem ordVC_region {P : Program} (hm : P.follows .mixedOrders = true) {id : Nat} {ops : Array Oper} {Q : Exit → Act → World → Prop} {a : Act} {w : World} {L : List Nat} (hL : ordB P ops L = true)
    (h : ∀ w1, Mod [] w w1 → ordVC P ops (clo ops) (Q .normal) L [] a w1) : (Code.region id ops true).wp P Q a w := by
  simp only [ordB, permB, Bool.and_eq_true, List.all_eq_true, decide_eq_true_eq, beq_iff_eq] at hL
  obtain ⟨⟨⟨⟨⟨h1, h2⟩, h3⟩, h6⟩, h4⟩, h5⟩ := hL
  have hmem : ∀ i, i < ops.size → i ∈ L := fun i hi => by simpa using h6 i (by simpa using hi)
  refine wp_region_any hm (ordVC_sound ops.size h1 (by simp) h3 ?_ h2 h4 h5 ?_ (h _ (Mod.drewN w 1)))
  · intro i hi
    simp [hi, hmem i hi]
  · intro x o hx ho
    exact absurd (hmem x (Array.getElem?_eq_some_iff.1 ho).1) hx

/-! ### .. in words that can be read -/
structure DRec where
  i : Nat
  o : Oper
  fr : Fr
  v : Value
/-- What was read reads the same. -/
def sameD (P : Program) (g : DRec) (w : World) : Prop := match g.o.op with
  | .load t a => match ev g.fr a, (P.underlying t).isSome with
    | .pointer (some a), true => ldT P t w a fun u => u = g.v
    | _, _ => False
  | .lookup t x i ok => ∀ w', Mod [] w w' → (Instr.lookup t (ev g.fr x) (ev g.fr i) ok).run P w' = .ok g.v w'
  | _ => ∀ w', Mod [] w w' → (execOp (ev g.fr) g.o).run P w' = .ok (.value g.v) w'
def oblD (P : Program) (m : List Nat) (i : Nat) : List DRec → World → Prop → Prop
  | [], _, F => F
  | g :: r, w, F => match depB m i g.i with
    | true => oblD P m i r w F
    | false => sameD P g w ∧ oblD P m i r w F
def keepD (m : List Nat) (i : Nat) : List DRec → List DRec
  | [] => []
  | g :: r => match depB m i g.i with
    | true => keepD m i r
    | false => g :: keepD m i r
def goneD (m : List Nat) (i : Nat) : List DRec → List Nat
  | [] => []
  | g :: r => match depB m i g.i with
    | true => g.i :: goneD m i r
    | false => goneD m i r
def operOf (ops : Array Oper) (L : List Nat) : List Oper := L.filterMap (ops[·]?)

def stepD (P : Program) (ops : Array Oper) (m : List Nat) (L : List Nat) (i : Nat) (o : Oper) (Γ : List DRec) (X : List Nat) (fr : Fr) (w : World) (K : List DRec → List Nat → Fr → World → Prop) : Prop :=
  match stillB P o with
  | true => quietOp P o (ev fr) w fun v => match readB P o with
    | true => K (⟨i, o, fr, v⟩ :: Γ) X (pt fr o.dst v) w
    | false => K Γ X (pt fr o.dst v) w
  | false => match X.all (depB m i) with
    | false => False
    | true => match isNewB o with
      | true => newOp P o (ev fr) w fun v w' => K Γ X (pt fr o.dst v) w'
      | false => denOp P (operOf ops L) o (ev fr) w fun v w' => oblD P m i Γ w' (K (keepD m i Γ) (goneD m i Γ ++ X) (pt fr o.dst v) w')

def denE (P : Program) (ops : Array Oper) (m : List Nat) : List Nat → List DRec → List Nat → (Fr → World → Prop) → Fr → World → Prop
  | [], _, _, K, fr, w => K fr w
  | i :: L, Γ, X, K, fr, w => match ops[i]? with
    | none => False
    | some o => match o.guard with
      | none => stepD P ops m L i o Γ X fr w fun Γ X fr w => denE P ops m L Γ X K fr w
      | some (j, b) => match (ops[j]?).bind (·.dst) with
        | none => denE P ops m L Γ X K (pt fr o.dst undef) w
        | some d => match fr.getD d undef with
          | .bool t => brB t
              (match b with
                | true => stepD P ops m L i o Γ X (fr.set d (.bool true)) w fun Γ X fr w => denE P ops m L Γ X K fr w
                | false => denE P ops m L Γ X K (pt (fr.set d (.bool true)) o.dst undef) w)
              (match b with
                | false => stepD P ops m L i o Γ X (fr.set d (.bool false)) w fun Γ X fr w => denE P ops m L Γ X K fr w
                | true => denE P ops m L Γ X K (pt (fr.set d (.bool false)) o.dst undef) w)
          | _ => denE P ops m L Γ X K (pt fr o.dst undef) w

def GoodD (P : Program) (g : DRec) (w : World) : Prop := ∀ w', Mod [] w w' → (execOp (ev g.fr) g.o).run P w' = .ok (.value g.v) w'
theorem GoodD.mod {P : Program} {g : DRec} {w w' : World} (h : GoodD P g w) (hm : Mod [] w w') : GoodD P g w' := fun w'' h' => h w'' (by simpa using hm.trans h')
theorem sameD_good {P : Program} {g : DRec} {w : World} (h : sameD P g w) : GoodD P g w := by
  unfold sameD at h
  split at h
  · rename_i t a hop
    split at h
    · rename_i a' ha hd
      obtain ⟨v, rfl, hr⟩ := ldT_run h hd
      intro w' hm
      simp only [execOp, hop, ha]
      exact run_value (hr w' hm)
    · exact h.elim
  · rename_i t x i ok hop
    intro w' hm
    simp only [execOp, hop]
    exact run_value (h w' hm)
  · exact h

/-- How the readable records stand to the model's. -/
structure RecsD (P : Program) (ops : Array Oper) (m : List Nat) (Γ : Recs) (D : List DRec) (X : List Nat) (w : World) : Prop where
  good : ∀ g ∈ D, GoodD P g w
  all : ∀ g ∈ Γ, (∀ o w', ops[g.1]? = some o → YieldsQ P ops o g.2.2 g.2.1 w') ∨ (∃ d ∈ D, d.i = g.1 ∧ ops[d.i]? = some d.o ∧ act d.fr = g.2.1 ∧ d.v = g.2.2 ∧ Region.wanted d.o (yielded ops g.2.1.tmps) = true ∧ readB P d.o = true) ∨ g.1 ∈ X

theorem RecsD.obl {P : Program} {ops : Array Oper} {m : List Nat} {Γ : Recs} {D : List DRec} {X : List Nat} {w w' : World} {i : Nat} (h : RecsD P ops m Γ D X w) (hX : X.all (depB m i) = true) (hs : ∀ g ∈ D, depB m i g.i = false → GoodD P g w') : Obl P ops m i Γ w' := by
  intro g hg hd o ho
  rcases h.all g hg with h1 | ⟨d, h1, h2, h3, h4, h5, h6⟩ | h1
  · exact h1 o w' ho
  · rw [← h2] at ho hd
    rw [h3] at ho; cases ho
    refine .inl ⟨h6.1, fun w'' hm => ?_⟩
    rw [← h4, eval_act, ← h5]
    exact hs d h1 hd w'' (hm h6.2)
  · have := List.all_eq_true.1 hX _ h1
    rw [hd] at this; cases this

theorem oblD_out {P : Program} {m : List Nat} {i : Nat} {F : Prop} {w : World} : ∀ {D : List DRec}, oblD P m i D w F → (∀ g ∈ D, depB m i g.i = false → GoodD P g w) ∧ F
  | [], h => ⟨by simp, h⟩
  | g :: r, h => by
    unfold oblD at h
    split at h
    · rename_i hd
      obtain ⟨h1, h2⟩ := oblD_out h
      refine ⟨fun g' hg' hd' => ?_, h2⟩
      rcases List.mem_cons.1 hg' with rfl | hg'
      · rw [hd] at hd'; cases hd'
      · exact h1 g' hg' hd'
    · obtain ⟨h0, h⟩ := h
      obtain ⟨h1, h2⟩ := oblD_out h
      refine ⟨fun g' hg' hd' => ?_, h2⟩
      rcases List.mem_cons.1 hg' with rfl | hg'
      · exact sameD_good h0
      · exact h1 g' hg' hd'
theorem keepD_mem {m : List Nat} {i : Nat} {g : DRec} : ∀ {D : List DRec}, g ∈ keepD m i D ↔ g ∈ D ∧ depB m i g.i = false
  | [] => by simp [keepD]
  | x :: r => by
    unfold keepD
    split
    · rename_i hd
      rw [keepD_mem]
      constructor
      · exact fun ⟨a, b⟩ => ⟨by simp [a], b⟩
      · rintro ⟨a, b⟩
        rcases List.mem_cons.1 a with rfl | a
        · rw [hd] at b; cases b
        · exact ⟨a, b⟩
    · rename_i hd
      rw [List.mem_cons, List.mem_cons, keepD_mem]
      constructor
      · rintro (rfl | ⟨a, b⟩)
        · exact ⟨.inl rfl, hd⟩
        · exact ⟨.inr a, b⟩
      · rintro ⟨rfl | a, b⟩
        · exact .inl rfl
        · exact .inr ⟨a, b⟩
theorem goneD_mem {m : List Nat} {i : Nat} {g : DRec} : ∀ {D : List DRec}, g ∈ D → depB m i g.i = true → g.i ∈ goneD m i D
  | [], h, _ => by cases h
  | x :: r, h, hd => by
    unfold goneD
    rcases List.mem_cons.1 h with rfl | h
    · rw [hd]; simp
    · split
      · simp [goneD_mem h hd]
      · exact goneD_mem h hd

theorem newOp_eff {P : Program} {o : Oper} {ρ : Operand → Value} {w : World} {K : Value → World → Prop} (h : newOp P o ρ w K) : effW P (execOp ρ o) w fun v w' => Mod [] w w' ∧ K v w' := by
  unfold newOp at h
  split at h
  · rename_i ob k hn
    unfold al at h
    simp only at h
    split at h
    · rename_i v hv
      exact effW_run (run_of_newRun hn hv) ⟨Mod.of_below ((Below.refl _ _).alloc (Nat.le_refl _) _), h⟩
    · exact h.elim
  · exact h.elim

theorem denE_sound {P : Program} {ops : Array Oper} {m : List Nat} {Q : Act → World → Prop} {K : Fr → World → Prop} (hK : ∀ fr w, K fr w → Q (act fr) w) : ∀ {L : List Nat} {Γ : Recs} {D : List DRec} {X : List Nat} {fr : Fr} {w : World}, denE P ops m L D X K fr w → RecsD P ops m Γ D X w → ordVC P ops m Q L Γ (act fr) w
  | [], _, _, _, fr, w, h, _ => hK fr w h
  | i :: L, Γ, D, X, fr, w, h, hr => by
    unfold denE at h
    split at h
    · exact h.elim
    rename_i o ho
    have run : stepD P ops m L i o D X fr w (fun Γ X fr w => denE P ops m L Γ X K fr w) → Region.wanted o (yielded ops (act fr).tmps) = true → ordVC P ops m Q (i :: L) Γ (act fr) w := fun h hw => by
      refine ⟨o, ho, ?_⟩
      unfold stepD at h
      split at h
      · rename_i hs
        try simp only [hs]
        obtain ⟨v, h1, h2⟩ := quietOp_run h
        refine ⟨v, .inl ⟨hw, by rw [eval_act]; exact h2⟩, ?_⟩
        rw [put_act]
        split at h1
        · rename_i hrd
          refine denE_sound hK h1 ⟨fun g hg => ?_, fun g hg => ?_⟩
          · rcases List.mem_cons.1 hg with rfl | hg
            · exact fun w' hm => h2 w' (fun _ => hm)
            · exact hr.good g hg
          · rcases List.mem_cons.1 hg with rfl | hg
            · exact .inr (.inl ⟨_, List.mem_cons_self, rfl, ho, rfl, rfl, hw, hrd⟩)
            · rcases hr.all g hg with h3 | ⟨d, h3, h4⟩ | h3
              · exact .inl h3
              · exact .inr (.inl ⟨d, by simp [h3], h4⟩)
              · exact .inr (.inr h3)
        · rename_i hrd
          refine denE_sound hK h1 ⟨hr.good, fun g hg => ?_⟩
          rcases List.mem_cons.1 hg with rfl | hg
          · refine .inl fun o' w' ho' => ?_
            simp only at ho'
            rw [ho] at ho'; cases ho'
            exact .inl ⟨hw, fun w'' _ => by rw [eval_act]; exact h2 w'' (fun h => by rw [hrd] at h; cases h)⟩
          · exact hr.all g hg
      · rename_i hs
        try simp only [hs]
        split at h
        · exact h.elim
        rename_i hX
        refine ⟨fun _ => ?_, fun hw' => by rw [hw] at hw'; cases hw'⟩
        rw [eval_act]
        split at h
        · refine effW_mono (newOp_eff h) fun v w' ⟨hm, h⟩ => ⟨hr.obl hX fun g hg _ => (hr.good g hg).mod hm, ?_⟩
          rw [put_act]
          exact denE_sound hK h ⟨fun g hg => (hr.good g hg).mod hm, fun g hg => hr.all g (sift_mem.1 hg).1⟩
        · refine effW_mono (denOp_eff h) fun v w' h => ?_
          obtain ⟨h1, h⟩ := oblD_out h
          refine ⟨hr.obl hX h1, ?_⟩
          rw [put_act]
          refine denE_sound hK h ⟨fun g hg => h1 g (keepD_mem.1 hg).1 (keepD_mem.1 hg).2, fun g hg => ?_⟩
          rcases hr.all g (sift_mem.1 hg).1 with h3 | ⟨d, h3, h4⟩ | h3
          · exact .inl h3
          · cases hd : depB m i d.i with
            | false => exact .inr (.inl ⟨d, keepD_mem.2 ⟨h3, hd⟩, h4⟩)
            | true => exact .inr (.inr (by rw [← h4.1]; simp [goneD_mem h3 hd]))
          · exact .inr (.inr (by simp [h3]))
    have skip : denE P ops m L D X K (pt fr o.dst undef) w → Region.wanted o (yielded ops (act fr).tmps) = false → ordVC P ops m Q (i :: L) Γ (act fr) w := fun h hw => by
      refine ⟨o, ho, ?_⟩
      split
      · refine ⟨undef, .inr ⟨hw, rfl⟩, ?_⟩
        rw [put_act]
        refine denE_sound hK h ⟨hr.good, fun g hg => ?_⟩
        rcases List.mem_cons.1 hg with rfl | hg
        · refine .inl fun o' w' ho' => ?_
          simp only at ho'
          rw [ho] at ho'; cases ho'
          exact .inr ⟨hw, rfl⟩
        · exact hr.all g hg
      · refine ⟨(fun hw' => by rw [hw] at hw'; cases hw'), fun _ => ?_⟩
        rw [put_act]
        exact denE_sound hK h hr
    split at h
    · rename_i hg
      exact run h (by simp [Region.wanted, hg])
    · rename_i j b hg
      split at h
      · rename_i hd
        exact skip h (by simp [Region.wanted, hg, yielded_none hd])
      · rename_i d hd
        split at h
        · rename_i t ht
          obtain ⟨hs, h2⟩ := set_same ht
          cases t
          · simp only [brB, hs] at h
            split at h
            · exact run h (by simp [Region.wanted, hg, yielded_act hd, h2])
            · exact skip h (by simp [Region.wanted, hg, yielded_act hd, h2])
          · simp only [brB, hs] at h
            split at h
            · exact run h (by simp [Region.wanted, hg, yielded_act hd, h2])
            · exact skip h (by simp [Region.wanted, hg, yielded_act hd, h2])
        · rename_i hn
          refine skip h ?_
          have : yielded ops (act fr).tmps j = none := by
            rw [yielded_act hd]
            split
            · rename_i b' hb
              refine absurd ?_ (hn b')
              rw [List.getD_eq_getElem?_getD, hb]; rfl
            · rfl
          simp [Region.wanted, hg, this]

end Go.Proofs.Ytohgihgddknmmaa
