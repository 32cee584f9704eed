/- Regions where one operation and one call may stand in either order: two conditions serve for all orders. -/
import Derived.Test.YtohgihgddknmmaaOrd
namespace Go.Proofs.Ytohgihgddknmmaa
open Go Go.RowKit
set_option linter.unusedVariables false
set_option linter.unusedSimpArgs false

/-- What leaves the world, the first two that do not, the rest. -/
def splitO (P : Program) (ops : Array Oper) : List Nat → Option (List Nat × Nat × Nat × List Nat)
  | [] => none
  | i :: r => match ops[i]? with
    | none => none
    | some o => match stillB P o with
      | true => match splitO P ops r with
        | some (X, c, a, Y) => some (i :: X, c, a, Y)
        | none => none
      | false => match r with
        | a :: Y => some ([], i, a, Y)
        | [] => none
def edgeN (ops : Array Oper) (x y : Nat) : Bool := match ops[x]? with
  | some o => !(edgeB o y)
  | none => false
def stillN (P : Program) (ops : Array Oper) (x : Nat) : Bool := match ops[x]? with
  | some o => stillB P o
  | none => false
def ord3B (P : Program) (ops : Array Oper) (X : List Nat) (c a : Nat) (Y : List Nat) : Bool :=
  permB ops.size (X ++ c :: a :: Y) && pairsB P ops (clo ops) (X ++ a :: Y) && pairsB P ops (clo ops) (X ++ c :: Y) && (X ++ c :: a :: Y).all (oneB ops) && X.all (stillN P ops) && edgeN ops c a && edgeN ops a c && Y.all (fun y => depB (clo ops) y c && depB (clo ops) y a)

theorem YieldsQ.det {P : Program} {ops : Array Oper} {o : Oper} {u v : Value} {a : Act} {w : World} (h : YieldsQ P ops o u a w) (k : YieldsQ P ops o v a w) : u = v := by
  rcases h with ⟨h1, h2⟩ | ⟨h1, h2⟩ <;> rcases k with ⟨k1, k2⟩ | ⟨k1, k2⟩
  · have e1 := h2 w (fun _ => Mod.refl w)
    have e2 := k2 w (fun _ => Mod.refl w)
    rw [e1] at e2
    simpa using e2
  · rw [h1] at k1; cases k1
  · rw [h1] at k1; cases k1
  · rw [h2, k2]

/-- What is listed, and is left. -/
structure Left (ops : Array Oper) (listed : Array Bool) (L : List Nat) : Prop where
  size : listed.size = ops.size
  nd : L.Nodup
  iff : ∀ i, i < ops.size → (listed.getD i true = false ↔ i ∈ L)
  lt : ∀ i ∈ L, i < ops.size
  one : ∀ x ∈ L, oneB ops x = true
  clo : ∀ x o, x ∉ L → ops[x]? = some o → ∀ e ∈ o.after, Region.binds .any e = true → e.on ∉ L
theorem Left.next {ops : Array Oper} {listed : Array Bool} {L R : List Nat} {i : Nat} {o : Oper} (h : Left ops listed L) (hi : i ∈ L) (ho : ops[i]? = some o) (hedge : ∀ e ∈ o.after, Region.binds .any e = true → e.on ∉ L) (hR : R.Nodup) (hm : ∀ x, x ∈ R ↔ x ∈ L ∧ x ≠ i) : Left ops (listed.setIfInBounds i true) R := by
  refine ⟨by simp [h.size], hR, fun k hk => ?_, fun x hx => h.lt x ((hm x).1 hx).1, fun x hx => h.one x ((hm x).1 hx).1, fun x o' hx ho' e he hb hmm => ?_⟩
  · by_cases hki : k = i
    · subst hki
      constructor
      · intro hf; simp [Array.getD, h.size, hk] at hf
      · intro hmm; exact absurd rfl ((hm k).1 hmm).2
    · have e1 : (listed.setIfInBounds i true).getD k true = listed.getD k true := by
        simp [Array.getD, h.size, hk, Array.getElem_setIfInBounds, Ne.symm hki]
      rw [e1, h.iff k hk, hm]
      exact ⟨fun h => ⟨h, hki⟩, fun h => h.1⟩
  · by_cases hxi : x = i
    · subst hxi
      rw [ho] at ho'; cases ho'
      exact hedge e he hb ((hm _).1 hmm).1
    · exact h.clo x o' (fun hxL => hx ((hm x).2 ⟨hxL, hxi⟩)) ho' e he hb ((hm _).1 hmm).1
theorem Left.sound {P : Program} {ops : Array Oper} {Q : Exit → Act → World → Prop} {n : Nat} {L : List Nat} {listed : Array Bool} {a : Act} {w : World} (h : Left ops listed L) (hn : L.length = n) (hp : pairsB P ops (Go.Proofs.Ytohgihgddknmmaa.clo ops) L = true) (hv : ordVC P ops (Go.Proofs.Ytohgihgddknmmaa.clo ops) (Q .normal) L [] a w) : wpAny P .any ops Q n listed a w :=
  ordVC_sound n hn h.size h.nd h.iff h.lt hp h.one h.clo hv
/-- One without an edge into what is left is ready. -/
theorem Left.ready {ops : Array Oper} {listed : Array Bool} {L : List Nat} (h : Left ops listed L) {x : Nat} {o : Oper} (hx : x ∈ L) (ho : ops[x]? = some o) (hne : ∀ y ∈ L, y ≠ x → edgeB o y = false) : x ∈ Region.ready .any ops listed := by
  have h1x := h.one x hx
  simp only [oneB, ho, Bool.and_eq_true, Bool.not_eq_true'] at h1x
  unfold Region.ready
  rw [List.mem_filter]
  refine ⟨by simpa using h.lt x hx, ?_⟩
  simp only [Bool.and_eq_true, Bool.not_eq_true', ho, Option.map_some, Option.getD_some]
  refine ⟨(h.iff x (h.lt x hx)).2 hx, ?_⟩
  rw [Array.all_eq_true_iff_forall_mem]
  intro e he
  by_cases hb : Region.binds .any e = true
  · have hlt' : e.on < ops.size := by
      have := h1x.1.2
      rw [Array.all_eq_true_iff_forall_mem] at this
      have := this e he
      simpa [hb] using this
    have edge : ∀ y, e.on = y → edgeB o y = true := fun y hy => by
      unfold edgeB
      rw [List.any_eq_true]
      exact ⟨e, by simpa using he, by simp [hb, hy]⟩
    have hnm : e.on ∉ L := by
      intro hm
      by_cases hxe : e.on = x
      · rw [edge _ hxe] at h1x; simp at h1x
      · have := hne _ hm hxe
        rw [edge _ rfl] at this; cases this
    have : listed.getD e.on true ≠ false := fun hf => hnm ((h.iff _ hlt').1 hf)
    have hs : e.on < listed.size := by rw [h.size]; exact hlt'
    simp only [hb, Bool.not_true, Bool.false_or]
    simp [Array.getD, hs] at this ⊢
    exact this
  · simp [hb]
theorem pair_edge {P : Program} {ops : Array Oper} {m : List Nat} {x y : Nat} {o : Oper} (h : pairB P ops m x y = true) (ho : ops[x]? = some o) : edgeB o y = false := by
  unfold pairB at h
  rw [ho] at h
  split at h
  · rename_i ox oy e1 e2
    cases e1
    simp at h
    exact h.1.1
  · cases h
theorem pairs_head {P : Program} {ops : Array Oper} {m : List Nat} {x : Nat} {L : List Nat} (h : pairsB P ops m (x :: L) = true) : ∀ y ∈ L, pairB P ops m x y = true := by
  simp only [pairsB, Bool.and_eq_true, List.all_eq_true] at h; exact h.1
theorem edgeN_out {ops : Array Oper} {x y : Nat} {o : Oper} (h : edgeN ops x y = true) (ho : ops[x]? = some o) : edgeB o y = false := by
  unfold edgeN at h; rw [ho] at h; simpa using h
theorem stillN_out {P : Program} {ops : Array Oper} {x : Nat} {o : Oper} (h : stillN P ops x = true) (ho : ops[x]? = some o) : stillB P o = true := by
  unfold stillN at h; rw [ho] at h; exact h

theorem ordVC_two {P : Program} {ops : Array Oper} {Q : Exit → Act → World → Prop} : ∀ (n : Nat) {X Y : List Nat} {c a : Nat} {listed : Array Bool} {act : Act} {w : World}, (X ++ c :: a :: Y).length = n → Left ops listed (X ++ c :: a :: Y) →
    pairsB P ops (clo ops) (X ++ a :: Y) = true → pairsB P ops (clo ops) (X ++ c :: Y) = true → (∀ x ∈ X, stillN P ops x = true) → edgeN ops c a = true → edgeN ops a c = true → (∀ y ∈ Y, depB (clo ops) y c = true) →
    ordVC P ops (clo ops) (Q .normal) (X ++ a :: c :: Y) [] act w → ordVC P ops (clo ops) (Q .normal) (X ++ c :: a :: Y) [] act w → wpAny P .any ops Q n listed act w := by
  intro n
  induction n with
  | zero => intro X Y c a listed act w hn; simp at hn
  | succ n ih =>
    intro X Y c a listed act w hn hL hp1 hp2 hst he1 he2 hdep h1 h2
    refine ⟨fun hr => ?_, fun i hi => ?_⟩
    · exfalso
      have key : ∀ x ∈ (X ++ c :: a :: Y), ∀ o, ops[x]? = some o → (∀ y ∈ (X ++ c :: a :: Y), y ≠ x → edgeB o y = false) → False := fun x hx o ho hne => by
        have := hL.ready hx ho hne
        rw [hr] at this; cases this
      cases X with
      | nil =>
        have hc := hL.lt c (by simp)
        obtain ⟨o, ho⟩ : ∃ o, ops[c]? = some o := ⟨ops[c], by simp [hc]⟩
        refine key c (by simp) o ho fun y hy hne => ?_
        simp at hy
        rcases hy with rfl | rfl | hy
        · exact absurd rfl hne
        · exact edgeN_out he1 ho
        · exact pair_edge (pairs_head hp2 y hy) ho
      | cons x X =>
        have hc := hL.lt x (by simp)
        obtain ⟨o, ho⟩ : ∃ o, ops[x]? = some o := ⟨ops[x], by simp [hc]⟩
        refine key x (by simp) o ho fun y hy hne => ?_
        simp at hy
        rcases hy with rfl | hy | rfl | rfl | hy
        · exact absurd rfl hne
        · exact pair_edge (pairs_head hp2 y (by simp [hy])) ho
        · exact pair_edge (pairs_head hp2 y (by simp)) ho
        · exact pair_edge (pairs_head hp1 y (by simp)) ho
        · exact pair_edge (pairs_head hp2 y (by simp [hy])) ho
    · have hi' := hi
      unfold Region.ready at hi
      rw [List.mem_filter] at hi
      obtain ⟨hi1, hi2⟩ := hi
      have hilt : i < ops.size := by simpa using hi1
      obtain ⟨o, ho⟩ : ∃ o, ops[i]? = some o := ⟨ops[i], by simp [hilt]⟩
      simp only [Bool.and_eq_true, Bool.not_eq_true', ho, Option.map_some, Option.getD_some] at hi2
      have hiL : i ∈ X ++ c :: a :: Y := (hL.iff i hilt).1 hi2.1
      have hedge : ∀ e ∈ o.after, Region.binds .any e = true → e.on ∉ X ++ c :: a :: Y := fun e he hb hm => by
        have h2 := hi2.2
        rw [Array.all_eq_true_iff_forall_mem] at h2
        have h2 := h2 e he
        simp only [hb, Bool.not_true, Bool.false_or] at h2
        have hlt' := hL.lt _ hm
        have := (hL.iff _ hlt').2 hm
        have hs : e.on < listed.size := by rw [hL.size]; exact hlt'
        simp [Array.getD, hs] at this h2
        rw [this] at h2
        cases h2
      have nodep : ∀ q ∈ X ++ c :: a :: Y, depB (clo ops) i q = false := fun q hq => by
        cases hd : depB (clo ops) i q with
        | false => rfl
        | true => exact absurd hq (reach_listed hL.clo (clo_reach hd) (fun o' ho' => by rw [ho] at ho'; cases ho'; exact hedge))
      have hsel : ∀ x ∈ X ++ c :: a :: Y, ∀ o, ops[x]? = some o → ∀ cs b, o.op ≠ .select cs b := fun x hx o ho cs b e => by
        have := hL.one x hx
        simp [oneB, ho, e] at this
      have hq : ∀ q ∈ X, pairB P ops (clo ops) q i = true → ∃ oq, ops[q]? = some oq ∧ stillB P oq = true ∧ oq.apart ops o = true ∧ depB (clo ops) i q = false ∧ ∀ cs b, oq.op ≠ .select cs b := fun q hq hp' => by
        have hd := nodep q (by simp [hq])
        unfold pairB at hp'
        split at hp'
        · rename_i ox oy e1 e2
          rw [ho] at e2; cases e2
          simp only [hd, Bool.or_false, Bool.and_eq_true] at hp'
          exact ⟨ox, e1, hp'.1.2, hp'.2, hd, hsel q (by simp [hq]) ox e1⟩
        · cases hp'
      have hnd := hL.nd
      have wpop : (match stillB P o with
          | true => ∃ v, YieldsQ P ops o v act w ∧ wpAny P .any ops Q n (listed.setIfInBounds i true) (act.put o.dst v) w
          | false => (Region.wanted o (yielded ops act.tmps) = true → effW P (execOp act.eval o) w fun v w' => wpAny P .any ops Q n (listed.setIfInBounds i true) (act.put o.dst v) w') ∧
            (Region.wanted o (yielded ops act.tmps) = false → wpAny P .any ops Q n (listed.setIfInBounds i true) (act.put o.dst undef) w)) → wpOp P ops Q i (wpAny P .any ops Q n (listed.setIfInBounds i true)) act w := fun hf => by
        unfold wpOp
        simp only [ho]
        split at hf
        · obtain ⟨v, hy, h'⟩ := hf
          rcases hy with ⟨hw, hr⟩ | ⟨hw, rfl⟩
          · rw [if_pos hw]
            exact .inl (effW_wp (K := fun u w' => u = v ∧ w' = w) (effW_run (hr w (fun _ => Mod.refl w)) ⟨rfl, rfl⟩) fun u w' ⟨e1, e2⟩ => by subst e1; subst e2; exact h')
          · rw [if_neg (by rw [hw]; simp)]
            exact h'
        · by_cases hw : Region.wanted o (yielded ops act.tmps) = true
          · rw [if_pos hw]
            exact .inl (effW_wp (hf.1 hw) fun v w' h' => h')
          · have hw : Region.wanted o (yielded ops act.tmps) = false := by simpa using hw
            rw [if_neg (by rw [hw]; simp)]
            exact hf.2 hw
      -- on, when one of a and c is done
      have fin : ∀ {L2 : List Nat}, ordVC P ops (clo ops) (Q .normal) (X ++ i :: L2) [] act w → (∀ q ∈ X, pairB P ops (clo ops) q i = true) → (∀ a' w', ordVC P ops (clo ops) (Q .normal) (X ++ L2) [] a' w' → wpAny P .any ops Q n (listed.setIfInBounds i true) a' w') → wpOp P ops Q i (wpAny P .any ops Q n (listed.setIfInBounds i true)) act w := fun {L2} h hp hk => by
        refine wpop ?_
        have hf := ordVC_front ho (hsel i hiL o ho) (fun q hq' => hq q hq' (hp q hq')) h
        split at hf
        · rename_i hs
          simp only [hs]
          obtain ⟨v, h1, h2⟩ := hf
          exact ⟨v, h1, hk _ _ h2⟩
        · rename_i hs
          simp only [hs]
          exact ⟨fun hw => effW_mono (hf.1 hw) fun v w' ⟨_, h⟩ => hk _ _ h, fun hw => hk _ _ (hf.2 hw)⟩
      have hmem := hiL
      simp only [List.mem_append, List.mem_cons] at hmem
      have ndX : X.Nodup ∧ (∀ x ∈ X, x ≠ c ∧ x ≠ a ∧ x ∉ Y) ∧ c ≠ a ∧ c ∉ Y ∧ a ∉ Y ∧ Y.Nodup := by
        have h := List.nodup_append.1 hnd
        have h' := List.nodup_cons.1 h.2.1
        have h'' := List.nodup_cons.1 h'.2
        refine ⟨h.1, fun x hx => ⟨fun e => h.2.2 x hx c (by simp) e, fun e => h.2.2 x hx a (by simp) e, fun hy => h.2.2 x hx x (by simp [hy]) rfl⟩, fun e => h'.1 (by simp [e]), fun hy => h'.1 (by simp [hy]), h''.1, h''.2⟩
      obtain ⟨nX, nXo, nca, ncY, naY, nY⟩ := ndX
      rcases hmem with hX | rfl | rfl | hY
      · -- one ahead of both
        obtain ⟨X1, X2, rfl⟩ := List.append_of_mem hX
        have hs : stillB P o = true := stillN_out (hst i (by simp)) ho
        have e1 : ∀ Z : List Nat, X1 ++ i :: X2 ++ Z = X1 ++ i :: (X2 ++ Z) := fun Z => by simp
        have hpq : ∀ q ∈ X1, pairB P ops (clo ops) q i = true := by rw [e1] at hp1; exact pairs_of_split hp1
        rw [e1] at h1 h2
        have f1 := ordVC_front ho (hsel i hiL o ho) (fun q hq' => hq q (by simp [hq']) (hpq q hq')) h1
        have f2 := ordVC_front ho (hsel i hiL o ho) (fun q hq' => hq q (by simp [hq']) (hpq q hq')) h2
        simp only [hs] at f1 f2
        obtain ⟨v1, y1, g1⟩ := f1
        obtain ⟨v2, y2, g2⟩ := f2
        have ev := y1.det y2
        subst ev
        refine wpop ?_
        simp only [hs]
        rw [← List.append_assoc] at g1 g2
        refine ⟨v1, y1, ih (X := X1 ++ X2) (by simp at hn ⊢; omega) ?_ ?_ ?_ (fun x hx => hst x (by simp at hx ⊢; rcases hx with hx | hx <;> simp [hx])) he1 he2 hdep g1 g2⟩
        · refine hL.next hiL ho hedge ?_ fun x => ?_
          · have : (X1 ++ X2 ++ c :: a :: Y).Sublist (X1 ++ i :: X2 ++ c :: a :: Y) := by
              rw [List.append_assoc, List.append_assoc]
              exact List.Sublist.append (List.Sublist.refl _) (by simp)
            exact hnd.sublist this
          · have hni : i ∉ X1 ∧ i ∉ X2 := by
              have h := List.nodup_append.1 nX
              have h' := List.nodup_cons.1 h.2.1
              exact ⟨fun hx => h.2.2 i hx i (by simp) rfl, h'.1⟩
            have hno := nXo i (by simp)
            simp only [List.mem_append, List.mem_cons]
            constructor
            · rintro ((h | h) | h | h | h)
              · exact ⟨.inl (.inl h), fun e => hni.1 (e ▸ h)⟩
              · exact ⟨.inl (.inr (.inr h)), fun e => hni.2 (e ▸ h)⟩
              · exact ⟨.inr (.inl h), fun e => hno.1 (e.symm.trans h)⟩
              · exact ⟨.inr (.inr (.inl h)), fun e => hno.2.1 (e.symm.trans h)⟩
              · exact ⟨.inr (.inr (.inr h)), fun e => hno.2.2 (e ▸ h)⟩
            · rintro ⟨(h | h | h) | h | h | h, hne⟩
              · exact .inl (.inl h)
              · exact absurd h hne
              · exact .inl (.inr h)
              · exact .inr (.inl h)
              · exact .inr (.inr (.inl h))
              · exact .inr (.inr (.inr h))
        · rw [e1] at hp1; have := pairs_erase hp1; rwa [List.append_assoc]
        · rw [e1] at hp2; have := pairs_erase hp2; rwa [List.append_assoc]
      · -- the call
        refine fin h2 (pairs_of_split hp2) fun a' w' h => ?_
        refine (hL.next hiL ho hedge (R := X ++ a :: Y) ?_ fun x => ?_).sound (by simp at hn ⊢; omega) hp1 h
        · exact hnd.sublist (List.Sublist.append (List.Sublist.refl _) (List.sublist_cons_self _ _))
        · simp only [List.mem_append, List.mem_cons]
          constructor
          · rintro (h | h | h)
            · exact ⟨.inl h, (nXo x h).1⟩
            · exact ⟨.inr (.inr (.inl h)), fun e => nca (e.symm.trans h)⟩
            · exact ⟨.inr (.inr (.inr h)), fun e => ncY (e ▸ h)⟩
          · rintro ⟨h | h | h | h, hne⟩
            · exact .inl h
            · exact absurd h hne
            · exact .inr (.inl h)
            · exact .inr (.inr h)
      · refine fin h1 (pairs_of_split hp1) fun a' w' h => ?_
        refine (hL.next hiL ho hedge (R := X ++ c :: Y) ?_ fun x => ?_).sound (by simp at hn ⊢; omega) hp2 h
        · exact hnd.sublist (List.Sublist.append (List.Sublist.refl _) (List.Sublist.cons_cons _ (List.sublist_cons_self _ _)))
        · simp only [List.mem_append, List.mem_cons]
          constructor
          · rintro (h | h | h)
            · exact ⟨.inl h, (nXo x h).2.1⟩
            · exact ⟨.inr (.inl h), fun e => nca (h.symm.trans e)⟩
            · exact ⟨.inr (.inr (.inr h)), fun e => naY (e ▸ h)⟩
          · rintro ⟨h | h | h | h, hne⟩
            · exact .inl h
            · exact .inr (.inl h)
            · exact absurd h hne
            · exact .inr (.inr h)
      · have := hdep i hY
        rw [nodep c (by simp)] at this; cases this
theorem splitO_still {P : Program} {ops : Array Oper} : ∀ {L X Y : List Nat} {c a : Nat}, splitO P ops L = some (X, c, a, Y) → L = X ++ c :: a :: Y
  | [], _, _, _, _, h => by cases h
  | i :: r, X, Y, c, a, h => by
    unfold splitO at h
    split at h
    · cases h
    · split at h
      · split at h
        · rename_i X' c' a' Y' e
          simp only [Option.some.injEq, Prod.mk.injEq] at h
          obtain ⟨rfl, rfl, rfl, rfl⟩ := h
          rw [splitO_still e]; rfl
        · cases h
      · split at h
        · simp only [Option.some.injEq, Prod.mk.injEq] at h
          obtain ⟨rfl, rfl, rfl, rfl⟩ := h
          rfl
        · cases h
theorem ordVC_region2 {P : Program} (hm : P.follows .mixedOrders = true) {id : Nat} {ops : Array Oper} {Q : Exit → Act → World → Prop} {act : Act} {w : World} {X Y : List Nat} {c a : Nat} (hL : ord3B P ops X c a Y = true)
    (h1 : ∀ w1, Mod [] w w1 → ordVC P ops (clo ops) (Q .normal) (X ++ a :: c :: Y) [] act w1) (h2 : ∀ w1, Mod [] w w1 → ordVC P ops (clo ops) (Q .normal) (X ++ c :: a :: Y) [] act w1) : (Code.region id ops true).wp P Q act w := by
  simp only [ord3B, permB, Bool.and_eq_true, List.all_eq_true, decide_eq_true_eq, beq_iff_eq] at hL
  obtain ⟨⟨⟨⟨⟨⟨⟨⟨⟨⟨p1, p2⟩, p3⟩, p4⟩, q1⟩, q2⟩, q3⟩, q4⟩, q5⟩, q6⟩, q7⟩ := hL
  have hmem : ∀ i, i < ops.size → i ∈ X ++ c :: a :: Y := fun i hi => by simpa using p4 i (by simpa using hi)
  refine wp_region_any hm (ordVC_two ops.size p1 ⟨by simp, p3, fun i hi => ?_, p2, q3, fun x o hx ho => ?_⟩ q1 q2 q4 q5 q6 (fun y hy => (q7 y hy).1) (h1 _ (Mod.drewN w 1)) (h2 _ (Mod.drewN w 1)))
  · have := hmem i hi
    have e : (Array.replicate ops.size false).getD i true = false := by simp [hi]
    exact ⟨fun _ => this, fun _ => e⟩
  · exact absurd (hmem x (Array.getElem?_eq_some_iff.1 ho).1) hx
end Go.Proofs.Ytohgihgddknmmaa
