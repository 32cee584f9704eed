/- 'den2' suffices. -/
import Derived.Test.YtohgihgddknmmaaTrk
namespace Go.Proofs.Ytohgihgddknmmaa
open Go Go.RowKit
set_option linter.unusedVariables false
set_option linter.unusedSimpArgs false

theorem addr_add (b o j : Nat) : (⟨b, o, none⟩ : Addr).add j = ⟨b, o + j, none⟩ := by
  unfold Addr.add; split
  · rename_i h; subst h; rfl
  · rfl
theorem idsB_mem {mem : List TB} {x : Nat} : ∀ {l : List Nat}, x ∈ idsB mem l ↔ ∃ i ∈ l, ∃ tb, mem[i]? = some tb ∧ x = tb.b
  | [] => by simp [idsB]
  | i :: r => by
    unfold idsB
    split
    · rename_i tb ht
      rw [List.mem_cons, idsB_mem]
      constructor
      · rintro (rfl | ⟨j, hj, h⟩)
        · exact ⟨i, by simp, tb, ht, rfl⟩
        · exact ⟨j, by simp [hj], h⟩
      · rintro ⟨j, hj, tb', h1, h2⟩
        rcases List.mem_cons.1 hj with rfl | hj
        · rw [ht] at h1; cases h1; exact .inl h2
        · exact .inr ⟨j, hj, tb', h1, h2⟩
    · rename_i hn
      rw [idsB_mem]
      constructor
      · rintro ⟨j, hj, h⟩; exact ⟨j, by simp [hj], h⟩
      · rintro ⟨j, hj, tb', h1, h2⟩
        rcases List.mem_cons.1 hj with rfl | hj
        · rw [hn] at h1; cases h1
        · exact ⟨j, hj, tb', h1, h2⟩

structure Inv (f : FA) (s : St) (wa : World) : Prop where
  at_ : ∀ (k : Nat) tb, s.mem[k]? = some tb → wa.heap[tb.b]? = some (.cells tb.cs.toArray tb.T)
  nd : ∀ (i j : Nat) x y, s.mem[i]? = some x → s.mem[j]? = some y → x.b = y.b → i = j
  tags : ∀ (i k off : Nat), f.tag i = some (k, off) → ∃ tb, s.mem[k]? = some tb ∧ f.get i = .pointer (some ⟨tb.b, off, none⟩)
  mod : Mod (idsB s.mem s.S) s.w wa
  new : ∀ k ∈ s.N, ∀ tb, s.mem[k]? = some tb → s.w.heap.size ≤ tb.b
  cl : s.cl = true → wa = s.w

/-- What an operation leaves, ahead of its result's being put. -/
structure OpI (f : FA) (s : St) (v : Value) (t : Tag) (wa : World) : Prop extends Inv f s wa where
  tag : ∀ k off, t = some (k, off) → ∃ tb, s.mem[k]? = some tb ∧ v = .pointer (some ⟨tb.b, off, none⟩)

theorem Inv.op {f : FA} {s : St} {v : Value} {wa : World} (h : Inv f s wa) : OpI f s v none wa := ⟨h, by simp⟩
theorem Inv.lt {f : FA} {s : St} {wa : World} (h : Inv f s wa) {k : Nat} {tb : TB} (hk : s.mem[k]? = some tb) : tb.b < wa.heap.size := lt_of_block (h.at_ k tb hk)

theorem factsD_out {w : World} {F : Prop} : ∀ {mem : List TB}, factsD mem w F → (∀ (k : Nat) tb, mem[k]? = some tb → w.heap[tb.b]? = some (.cells tb.cs.toArray tb.T)) → F
  | [], h, _ => h
  | tb :: r, h, hm => by
    unfold factsD at h
    have hr : ∀ (k : Nat) tb, r[k]? = some tb → w.heap[tb.b]? = some (.cells tb.cs.toArray tb.T) := fun k tb hk => hm (k + 1) tb (by simpa using hk)
    split at h
    · exact factsD_out (h (hm 0 tb (by simp))) hr
    · exact factsD_out h hr

theorem forceL_out {α : Type} : ∀ {l : List α} {k : List α → Prop}, forceL l k → k l
  | [], _, h => h
  | x :: r, k, h => forceL_out (l := r) (k := fun r' => k (x :: r')) h
theorem forceM_out : ∀ {l : List TB} {k : List TB → Prop}, forceM l k → k l
  | [], _, h => h
  | ⟨b, T, cs, true⟩ :: r, k, h => forceM_out (l := r) (k := fun r' => k (⟨b, T, cs, true⟩ :: r')) (forceL_out h)
  | ⟨b, T, cs, false⟩ :: r, k, h => forceM_out (l := r) (k := fun r' => k (⟨b, T, cs, false⟩ :: r')) (forceL_out h)
theorem flush_out {s : St} {K : St → Prop} {f : FA} {wa : World} (h : flushD s K) (hI : Inv f s wa) : ∃ s', K s' ∧ Inv f s' wa ∧ s'.w = wa ∧ s'.mem = s.mem ∧ s'.cl = true := by
  obtain ⟨mem, w, S, N, cl⟩ := s
  unfold flushD at h
  simp only at h
  split at h
  · exact ⟨_, h, hI, (hI.cl rfl).symm, rfl, rfl⟩
  · have := forceM_out h wa ⟨hI.mod, fun b hb => by
      obtain ⟨i, _, tb, ht, rfl⟩ := idsB_mem.1 hb
      exact hI.lt ht⟩
    refine ⟨_, factsD_out this hI.at_, ⟨hI.at_, hI.nd, hI.tags, ?_, by simp, fun _ => rfl⟩, rfl, rfl, rfl⟩
    exact (Mod.refl wa).less (by simp)

theorem exM_get {ids : List Nat} : ∀ {mem : List TB} {i k : Nat}, ((exM ids i mem)[k]?).map (fun tb => (tb.b, tb.T, tb.cs)) = (mem[k]?).map (fun tb => (tb.b, tb.T, tb.cs))
  | [], _, _ => by simp [exM]
  | tb :: r, i, 0 => by
    unfold exM
    split <;> simp
  | tb :: r, i, k + 1 => by
    unfold exM
    simp only [List.getElem?_cons_succ]
    exact exM_get
theorem same_get {mem mem' : List TB} (h : ∀ k : Nat, (mem'[k]?).map (fun tb => (tb.b, tb.T, tb.cs)) = (mem[k]?).map (fun tb => (tb.b, tb.T, tb.cs))) {k : Nat} {tb' : TB} (hk : mem'[k]? = some tb') : ∃ tb, mem[k]? = some tb ∧ tb'.b = tb.b ∧ tb'.T = tb.T ∧ tb'.cs = tb.cs := by
  have := h k
  rw [hk] at this
  simp only [Option.map_some] at this
  obtain ⟨tb, h1, h2⟩ := Option.map_eq_some_iff.1 this.symm
  simp only [Prod.mk.injEq] at h2
  exact ⟨tb, h1, h2.1.symm, h2.2.1.symm, h2.2.2.symm⟩
theorem expose_mem (ids : List Nat) (s : St) : ∀ k : Nat, ((expose ids s).mem[k]?).map (fun tb => (tb.b, tb.T, tb.cs)) = (s.mem[k]?).map (fun tb => (tb.b, tb.T, tb.cs)) := by
  intro k
  unfold expose
  split
  · rfl
  · split
    · exact exM_get
    · rfl
theorem expose_rest (ids : List Nat) (s : St) : (expose ids s).w = s.w ∧ (expose ids s).S = s.S ∧ (expose ids s).N = s.N ∧ ((expose ids s).cl = true → s.cl = true) := by
  unfold expose; split
  · exact ⟨rfl, rfl, rfl, id⟩
  · split
    · exact ⟨rfl, rfl, rfl, by simp⟩
    · exact ⟨rfl, rfl, rfl, id⟩
theorem expose_inv {ids : List Nat} {f : FA} {s : St} {wa : World} (hI : Inv f s wa) : Inv f (expose ids s) wa := by
  have hm := expose_mem ids s
  have hm' := fun k => (hm k).symm
  obtain ⟨e1, e2, e3, e4⟩ := expose_rest ids s
  refine ⟨fun k tb hk => ?_, fun i j x y hx hy hb => ?_, fun i k off ht => ?_, ?_, fun k hk tb ht => ?_, fun hc => ?_⟩
  · obtain ⟨tb0, h0, a, b, c⟩ := same_get hm hk
    rw [a, b, c]; exact hI.at_ k tb0 h0
  · obtain ⟨x0, hx0, a, _⟩ := same_get hm hx
    obtain ⟨y0, hy0, b, _⟩ := same_get hm hy
    exact hI.nd i j x0 y0 hx0 hy0 (by rw [← a, ← b, hb])
  · obtain ⟨tb, h1, h2⟩ := hI.tags i k off ht
    obtain ⟨tb', h1', a, _⟩ := same_get hm' h1
    exact ⟨tb', h1', by rw [h2, a]⟩
  · rw [e1, e2]
    refine hI.mod.less fun x hx _ => ?_
    obtain ⟨i, hi, tb, ht, rfl⟩ := idsB_mem.1 hx
    obtain ⟨tb', h1', a, _⟩ := same_get hm' ht
    exact idsB_mem.2 ⟨i, hi, tb', h1', a⟩
  · rw [e3] at hk
    obtain ⟨tb0, h0, a, _⟩ := same_get hm ht
    rw [e1, a]; exact hI.new k hk tb0 h0
  · rw [e1]; exact hI.cl (e4 hc)

theorem get_put (f : FA) (d i : Nat) (v : Value) (t : Tag) : (putA f (some d) v t).get i = if d = i then v else f.get i := by
  obtain ⟨u, js⟩ := f
  simp only [putA, FA.get, lkV]
  by_cases h : d = i
  · subst h; simp
  · have : Nat.beq d i = false := by rw [Bool.eq_false_iff]; intro e; exact h (Nat.eq_of_beq_eq_true e)
    simp [this, h]
theorem tag_put (f : FA) (d i : Nat) (v : Value) (t : Tag) : (putA f (some d) v t).tag i = if d = i then t else f.tag i := by
  obtain ⟨u, js⟩ := f
  simp only [putA, FA.tag, lkT]
  by_cases h : d = i
  · subst h; simp
  · have : Nat.beq d i = false := by rw [Bool.eq_false_iff]; intro e; exact h (Nat.eq_of_beq_eq_true e)
    simp [this, h]
/-- A result put. -/
theorem OpI.put {f : FA} {s : St} {v : Value} {t : Tag} {wa : World} (h : OpI f s v t wa) (d : Option Tmp) : Inv (putA f d v t) s wa := by
  refine ⟨h.at_, h.nd, fun i k off ht => ?_, h.mod, h.new, h.cl⟩
  cases d with
  | none => exact h.tags i k off ht
  | some d =>
    rw [tag_put] at ht
    rw [get_put]
    split at ht
    · rename_i e; rw [if_pos e]; exact h.tag k off ht
    · rename_i e; rw [if_neg e]; exact h.tags i k off ht
/-- A frame is the model's. -/
structure Rel (n : Nat) (f : FA) (a : Act) : Prop where
  get : ∀ i, a.tmps.getD i undef = f.get i
  defers : a.defers = []
  size : a.tmps.size = n
theorem Rel.eval {n : Nat} {f : FA} {a : Act} (h : Rel n f a) : a.eval = evA f := by
  funext x
  cases x with
  | tmp t => simpa [Act.eval, evA] using h.get t
  | _ => simp [Act.eval, evA]
theorem Rel.put {n : Nat} {f : FA} {a : Act} (h : Rel n f a) (d : Option Tmp) (hd : ∀ k, d = some k → k < n) (v : Value) (t : Tag) : Rel n (putA f d v t) (a.put d v) := by
  cases d with
  | none => exact ⟨h.get, h.defers, h.size⟩
  | some d =>
    have hd := hd d rfl
    have hs := h.size
    refine ⟨fun i => ?_, h.defers, by simp [Act.put, hs]⟩
    rw [get_put]
    have := h.get i
    simp only [Act.put, Array.getD_eq_getD_getElem?, Array.getElem?_setIfInBounds] at this ⊢
    by_cases e : d = i
    · subst e; simp [hs, hd]
    · simp [e, this]
theorem Rel.bool {n : Nat} {f : FA} {a : Act} (h : Rel n f a) {d : Nat} {t : Bool} (hd : f.get d = .bool t) : a.tmps[d]? = some (.bool t) := by
  have := h.get d
  rw [hd, Array.getD_eq_getD_getElem?] at this
  cases hx : a.tmps[d]? with
  | none => rw [hx] at this; simp [undef] at this
  | some u => rw [hx] at this; simpa using this
/-- A bool that is known. -/
theorem put_bool {f : FA} {d : Nat} {t : Bool} (h : f.get d = .bool t) {s : St} {wa : World} (hI : Inv f s wa) : Inv (putA f (some d) (.bool t) none) s wa := OpI.put (v := .bool t) (t := none) hI.op (some d)
theorem rel_bool {n : Nat} {f : FA} {a : Act} {d : Nat} {t : Bool} (h : f.get d = .bool t) (hr : Rel n f a) : Rel n (putA f (some d) (.bool t) none) a := by
  refine ⟨fun i => ?_, hr.defers, hr.size⟩
  rw [get_put]
  split
  · rename_i e; subst e; rw [hr.get, h]
  · exact hr.get i

/-! ### operations -/
theorem okLs_ldL {w : World} {a : Addr} : ∀ {ls : List Leaf} {cs : List Value} {i : Nat} {F : List Value → Prop}, okLs ls cs = true → (∀ j v, cs[j]? = some v → w.cell? (a.add (i + j)) = some v) → F (cs.take ls.length) → ldL w a i ls F
  | [], cs, i, F, _, _, hF => by simpa [ldL] using hF
  | l :: ls, [], i, F, h, _, _ => by cases l <;> simp [okLs] at h
  | l :: ls, v :: vs, i, F, h, hc, hF => by
    have h0 := hc 0 v (by simp)
    have hr : ∀ j u, vs[j]? = some u → w.cell? (a.add (i + 1 + j)) = some u := fun j u hu => by rw [show i + 1 + j = i + (j + 1) by omega]; exact hc (j + 1) u (by simpa using hu)
    simp only [Nat.add_zero] at h0
    simp only [List.length_cons, List.take_succ_cons] at hF
    unfold okLs at h
    split at h
    case h_2 => cases h
    rename_i hl
    unfold okL at hl
    split at hl
    · rename_i k k' x
      have : k = k' := by simpa using hl
      subst this
      simp only [ldL, ldInt, h0]
      exact ⟨trivial, okLs_ldL h hr hF⟩
    all_goals first
      | (cases hl; done)
      | (simp only [ldL, ldBool, ldStr, ldPtr, ldMap, ldSlice, ldAny, h0]
         exact okLs_ldL h hr hF)

theorem ldTr_run {P : Program} {t : TypeId} {cs : List Value} {K : Value → Prop} {w : World} {a : Addr} (h : ldTr P t cs K) (hc : ∀ (j : Nat) v, cs[j]? = some v → w.cell? (a.add j) = some v) : ∃ v, K v ∧ ∀ w', Mod [] w w' → (Instr.loadAt t (.pointer (some a))).run P w' = .ok v w' := by
  unfold ldTr at h
  cases h1 : (leaves P 20 t).length == P.cellsOf t with
  | false => rw [h1] at h; exact h.elim
  | true =>
  rw [h1] at h
  cases h2 : okLs (leaves P 20 t) cs with
  | false => rw [h2] at h; exact h.elim
  | true =>
  rw [h2] at h
  cases h3 : (P.underlying t).isSome with
  | false => rw [h3] at h; exact h.elim
  | true =>
  rw [h3] at h
  simp only at h
  have key : ∀ {F : Value → Prop}, ((match isAggB P t, cs.take (leaves P 20 t).length with
    | true, vs => F (.agg ⟨vs⟩)
    | false, [v] => F v
    | _, _ => False)) → ldT P t w a F := fun {F} hF => by
    unfold ldT
    rw [h1]
    exact okLs_ldL h2 (by simpa using hc) hF
  have h1 : (leaves P 20 t).length = P.cellsOf t := by simpa using h1
  refine ldT_run (key ?_) h3
  cases h4 : isAggB P t with
  | true => rw [h4] at h; rw [h1]; exact h
  | false =>
    rw [h4] at h
    simp only at h ⊢
    split at h
    · rename_i v r l hl
      rw [hl]
      simpa using h
    · exact h.elim

theorem cells_of {w : World} {tb : TB} (h : w.heap[tb.b]? = some (.cells tb.cs.toArray tb.T)) (off : Nat) : ∀ (j : Nat) v, (tb.cs.drop off)[j]? = some v → w.cell? ((⟨tb.b, off, none⟩ : Addr).add j) = some v := by
  intro j v hv
  rw [addr_add, cell_at h]
  simpa using hv

theorem Inv.tag_of {f : FA} {s : St} {wa : World} (hI : Inv f s wa) {x : Operand} {k off : Nat} (h : tagOf f x = some (k, off)) : ∃ tb, s.mem[k]? = some tb ∧ evA f x = .pointer (some ⟨tb.b, off, none⟩) := by
  cases x with
  | tmp t => exact hI.tags t k off h
  | _ => cases h

theorem run_zero {P : Program} {e : TypeId} {z : Value} (hz : pureRun P (zeroValue e) = some z) (w : World) : (Instr.alloc e true (.tuple #[])).run P w = .ok (.pointer (some ⟨w.heap.size, 0, none⟩)) (w.alloc (.cells z.cells e)) := by
  simp [Instr.alloc, Sem.run_bind, run_of_pureRun hz, Result.andThen, newVar, newRow, newObj, Sem.run]
theorem run_box {P : Program} {e : TypeId} {z : Value} (w : World) : (Instr.box e z).run P w = .ok (.pointer (some ⟨w.heap.size, 0, none⟩)) (w.alloc (.cells z.cells e)) := by
  simp [Instr.box, Sem.run_bind, Result.andThen, newVar, newRow, newObj, Sem.run]

theorem info_some {P : Program} {t : TypeId} (h : (P.info? t).isSome = true) (w : World) : (sizeOf t).run P w = .ok (P.cellsOf t) w := by
  obtain ⟨i, hi⟩ := Option.isSome_iff_exists.1 h
  simp [sizeOf, typeInfo, Program.cellsOf, hi, Sem.run_bind, program, Sem.run, Result.andThen]

theorem alloc_inv {f : FA} {s : St} {wa : World} (hI : Inv f s wa) (T : TypeId) (c : Array Value) :
    OpI f ⟨s.mem ++ [⟨wa.heap.size, T, c.toList, false⟩], s.w, s.S, s.mem.length :: s.N, false⟩ (.pointer (some ⟨wa.heap.size, 0, none⟩)) (some (s.mem.length, 0)) (wa.alloc (.cells c T)) := by
  have M : Mod [] wa (wa.alloc (.cells c T)) := Mod.of_below ((Below.refl _ _).alloc (Nat.le_refl _) _)
  have hnew := (MapKept.heap_alloc wa (.cells c T)).1
  have get : ∀ (k : Nat) tb, (s.mem ++ [(⟨wa.heap.size, T, c.toList, false⟩ : TB)])[k]? = some tb → s.mem[k]? = some tb ∨ (k = s.mem.length ∧ tb = ⟨wa.heap.size, T, c.toList, false⟩) := fun k tb h => by
    by_cases hk : k < s.mem.length
    · rw [List.getElem?_append_left hk] at h; exact .inl h
    · rw [List.getElem?_append_right (by omega)] at h
      by_cases hk' : k = s.mem.length
      · subst hk'; simp at h; exact .inr ⟨rfl, h.symm⟩
      · rw [List.getElem?_eq_none (by simp; omega)] at h; cases h
  have keep : ∀ (k : Nat) tb, s.mem[k]? = some tb → (s.mem ++ [(⟨wa.heap.size, T, c.toList, false⟩ : TB)])[k]? = some tb := fun k tb h => by
    rw [List.getElem?_append_left (List.getElem?_eq_some_iff.1 h).1]; exact h
  refine ⟨⟨fun k tb hk => ?_, fun i j x y hx hy hb => ?_, fun i k off ht => ?_, ?_, fun k hk tb ht => ?_, by simp⟩, fun k off h => ?_⟩
  · rcases get k tb hk with h | ⟨_, rfl⟩
    · exact M.keep0 (hI.at_ k tb h)
    · simpa using hnew
  · rcases get i x hx with h | ⟨h, rfl⟩ <;> rcases get j y hy with h' | ⟨h', rfl⟩
    · exact hI.nd i j x y h h' hb
    · have := hI.lt h; simp at hb; omega
    · have := hI.lt h'; simp at hb; omega
    · omega
  · obtain ⟨tb, h1, h2⟩ := hI.tags i k off ht
    exact ⟨tb, keep k tb h1, h2⟩
  · refine (hI.mod.trans M).less fun x hx _ => ?_
    simp only [List.append_nil] at hx
    obtain ⟨i, hi, tb, ht, rfl⟩ := idsB_mem.1 hx
    exact idsB_mem.2 ⟨i, hi, tb, keep i tb ht, rfl⟩
  · have hs := hI.mod.size
    rcases get k tb ht with h | ⟨_, rfl⟩
    · rcases List.mem_cons.1 hk with rfl | hk
      · have := (List.getElem?_eq_some_iff.1 h).1; omega
      · exact hI.new k hk tb h
    · exact hs
  · cases h
    exact ⟨⟨wa.heap.size, T, c.toList, false⟩, by rw [List.getElem?_append_right (Nat.le_refl _)]; simp, rfl⟩

theorem newB_eff {P : Program} {f : FA} {s : St} {wa : World} {K : KOp} {T : TypeId} {z : Value} (h : newB s T z.cells.toList K) (hI : Inv f s wa) :
    ∃ t s', K (.pointer (some ⟨wa.heap.size, 0, none⟩)) t s' ∧ OpI f s' (.pointer (some ⟨wa.heap.size, 0, none⟩)) t (wa.alloc (.cells z.cells T)) ∧ (∀ (k : Nat) tb, s.mem[k]? = some tb → ∃ tb', s'.mem[k]? = some tb' ∧ tb'.b = tb.b) :=
  ⟨_, _, forceM_out (h wa.heap.size hI.mod.size), alloc_inv hI T z.cells, fun k tb hk => ⟨tb, by rw [List.getElem?_append_left (List.getElem?_eq_some_iff.1 hk).1]; exact hk, rfl⟩⟩

theorem splice_eq : ∀ (cs : List Value) (o : Nat) (vs : List Value) (c : Array Value), o + vs.length ≤ cs.length → c.toList = cs → (setFrom c o vs).toList = splice cs o vs := by
  have key : ∀ (vs : List Value) (c : Array Value) (o : Nat) , o + vs.length ≤ c.size → (setFrom c o vs).toList = c.toList.take o ++ vs ++ c.toList.drop (o + vs.length) := by
    intro vs
    induction vs with
    | nil => intro c o h; simp [setFrom]
    | cons v r ih =>
      intro c o h
      simp only [List.length_cons] at h
      rw [setFrom, ih _ _ (by simp; omega)]
      simp only [Array.toList_setIfInBounds]
      have ho : o < c.toList.length := by simp; omega
      have e1 : (c.toList.set o v).take (o + 1) = c.toList.take o ++ [v] := by
        rw [List.take_succ_eq_append_getElem (by simpa using ho), List.take_set_of_le (Nat.le_refl _)]
        simp
      rw [e1, List.drop_set_of_lt (by omega)]
      simp [Nat.add_assoc, Nat.add_comm 1]
  have key2 : ∀ (cs : List Value) (o : Nat) (vs : List Value), o + vs.length ≤ cs.length → splice cs o vs = cs.take o ++ vs ++ cs.drop (o + vs.length) := by
    intro cs
    induction cs with
    | nil => intro o vs h; simp at h; obtain ⟨rfl, h⟩ := h; subst h; simp [splice]
    | cons x r ih =>
      intro o vs h
      cases o with
      | succ o =>
        simp only [List.length_cons] at h
        rw [splice, ih o vs (by omega)]
        simp [Nat.add_right_comm o 1]
      | zero =>
        cases vs with
        | nil => simp [splice]
        | cons v vs =>
          simp only [List.length_cons] at h
          rw [splice, ih 0 vs (by omega)]
          simp
  intro cs o vs c h e
  rw [key vs c o (by simpa [← e] using h), key2 cs o vs h, e]

theorem hasN_mem : ∀ {l : List Nat} {i : Nat}, hasN l i = true ↔ i ∈ l
  | [], i => by simp [hasN]
  | x :: r, i => by
    unfold hasN
    split
    · rename_i h; have h := Nat.eq_of_beq_eq_true h; subst h; simp
    · rename_i h; have h := Nat.ne_of_beq_eq_false h
      rw [hasN_mem, List.mem_cons]
      constructor
      · exact .inr
      · rintro (rfl | h')
        · exact absurd rfl h
        · exact h'

theorem store_inv {f : FA} {s : St} {wa wb : World} {k off : Nat} {tb : TB} {vs : List Value} (hI : Inv f s wa) (hk : s.mem[k]? = some tb) (hs : off + vs.length ≤ tb.cs.length)
    (hb : wb.heap[tb.b]? = some (.cells (setFrom tb.cs.toArray off vs) tb.T)) (hM : Mod [tb.b] wa wb) :
    OpI f ⟨s.mem.set k ⟨tb.b, tb.T, splice tb.cs off vs, tb.ex⟩, s.w, addS s.N s.S k, s.N, false⟩ undef none wb := by
  have hkl := (List.getElem?_eq_some_iff.1 hk).1
  have get : ∀ (j : Nat) x, (s.mem.set k ⟨tb.b, tb.T, splice tb.cs off vs, tb.ex⟩)[j]? = some x → (j = k ∧ x = ⟨tb.b, tb.T, splice tb.cs off vs, tb.ex⟩) ∨ (j ≠ k ∧ s.mem[j]? = some x) := fun j x h => by
    by_cases hj : j = k
    · subst hj; rw [List.getElem?_set_self hkl] at h; cases h; exact .inl ⟨rfl, rfl⟩
    · rw [List.getElem?_set_ne (Ne.symm hj)] at h; exact .inr ⟨hj, h⟩
  have old : ∀ (j : Nat) x, (s.mem.set k ⟨tb.b, tb.T, splice tb.cs off vs, tb.ex⟩)[j]? = some x → ∃ y, s.mem[j]? = some y ∧ y.b = x.b := fun j x h => by
    rcases get j x h with ⟨rfl, rfl⟩ | ⟨_, h⟩
    · exact ⟨tb, hk, rfl⟩
    · exact ⟨x, h, rfl⟩
  have fwd : ∀ (j : Nat) x, s.mem[j]? = some x → ∃ y, (s.mem.set k ⟨tb.b, tb.T, splice tb.cs off vs, tb.ex⟩)[j]? = some y ∧ y.b = x.b := fun j x h => by
    by_cases hj : j = k
    · subst hj; rw [hk] at h; cases h; exact ⟨_, List.getElem?_set_self hkl, rfl⟩
    · exact ⟨x, by rw [List.getElem?_set_ne (Ne.symm hj)]; exact h, rfl⟩
  refine Inv.op ⟨fun j x hj => ?_, fun i j x y hx hy hxy => ?_, fun i j o ht => ?_, ?_, fun j hj x hx => ?_, by simp⟩
  · rcases get j x hj with ⟨rfl, rfl⟩ | ⟨hne, h⟩
    · simp only
      rw [hb, ← splice_eq tb.cs off vs tb.cs.toArray hs (by simp)]
    · refine hM.keep (hI.at_ j x h) ?_
      simp only [List.mem_singleton]
      exact fun e => hne (hI.nd j k x tb h hk e)
  · obtain ⟨x', h1, e1⟩ := old i x hx
    obtain ⟨y', h2, e2⟩ := old j y hy
    exact hI.nd i j x' y' h1 h2 (by rw [e1, e2, hxy])
  · obtain ⟨x, h1, h2⟩ := hI.tags i j o ht
    obtain ⟨y, h3, h4⟩ := fwd j x h1
    exact ⟨y, h3, by rw [h2, h4]⟩
  · refine (hI.mod.trans hM).less fun x hx hlt => ?_
    rcases List.mem_append.1 hx with hx | hx
    · obtain ⟨i, hi, t, ht, rfl⟩ := idsB_mem.1 hx
      obtain ⟨y, h3, h4⟩ := fwd i t ht
      refine idsB_mem.2 ⟨i, ?_, y, h3, h4.symm⟩
      simp only at hi ⊢
      unfold addS
      split
      · exact List.mem_cons_of_mem _ hi
      · exact hi
    · simp at hx; subst hx
      obtain ⟨y, h3, h4⟩ := fwd k tb hk
      refine idsB_mem.2 ⟨k, ?_, y, h3, h4.symm⟩
      simp only
      unfold addS
      split
      · simp
      · rename_i hn
        cases hN : hasN s.N k with
        | true => have := hI.new k (hasN_mem.1 hN) tb hk; omega
        | false =>
          cases hS : hasN s.S k with
          | true => exact hasN_mem.1 hS
          | false => exact absurd hS (by simpa using hn hN)
  · obtain ⟨y, h1, h2⟩ := old j x hx
    rw [← h2]; exact hI.new j hj y h1

theorem keepA_out {mem : List TB} {w w' : World} {F : Prop} (h : keepA mem w w' F) : (∀ (k : Nat) tb, mem[k]? = some tb → tb.b < w.heap.size → w'.heap[tb.b]? = w.heap[tb.b]?) ∧ F := by
  unfold keepA at h
  split at h
  · exact ⟨by simp, h⟩
  · obtain ⟨h1, h2⟩ := h
    exact ⟨fun k tb hk hl => h1 _ (List.mem_map.2 ⟨tb, List.mem_of_getElem? hk, rfl⟩) hl, h2⟩
theorem reD_out {P : Program} {w' : World} : ∀ {mem : List TB} {F : List TB → Prop}, reD P w' mem F → ∃ mem', F mem' ∧ mem'.length = mem.length ∧ ∀ (k : Nat) tb, mem[k]? = some tb → ∃ tb', mem'[k]? = some tb' ∧ tb'.b = tb.b ∧ (tb.ex = false → tb' = tb) ∧ (tb.ex = true → w'.heap[tb'.b]? = some (.cells tb'.cs.toArray tb'.T))
  | [], F, h => ⟨[], h, rfl, by simp⟩
  | tb :: r, F, h => by
    unfold reD at h
    have fin : ∀ {x : TB}, x.b = tb.b → (tb.ex = false → x = tb) → (tb.ex = true → w'.heap[x.b]? = some (.cells x.cs.toArray x.T)) → reD P w' r (fun m => F (x :: m)) → ∃ mem', F mem' ∧ mem'.length = (tb :: r).length ∧ ∀ (k : Nat) t, (tb :: r)[k]? = some t → ∃ t', mem'[k]? = some t' ∧ t'.b = t.b ∧ (t.ex = false → t' = t) ∧ (t.ex = true → w'.heap[t'.b]? = some (.cells t'.cs.toArray t'.T)) := fun {x} e1 e2 e3 h => by
      obtain ⟨m, h1, h2, h3⟩ := reD_out h
      refine ⟨x :: m, h1, by simp [h2], fun k t hk => ?_⟩
      cases k with
      | zero => simp at hk; subst hk; exact ⟨x, by simp, e1, e2, e3⟩
      | succ k => obtain ⟨t', h4, h5⟩ := h3 k t (by simpa using hk); exact ⟨t', by simpa using h4, h5⟩
    split at h
    · rename_i hx
      exact fin rfl (fun _ => rfl) (fun h => by rw [hx] at h; cases h) h
    · rename_i hx
      obtain ⟨vs, hv, h⟩ := exLs_out h
      exact fin (x := ⟨tb.b, tb.T, vs, true⟩) rfl (fun h => by rw [hx] at h; cases h) (fun _ => hv) h
theorem nxB_mem {tb : TB} : ∀ {mem : List TB}, tb ∈ mem → tb.ex = false → tb.b ∈ nxB mem
  | [], h, _ => by cases h
  | x :: r, h, hx => by
    unfold nxB
    rcases List.mem_cons.1 h with rfl | h
    · rw [hx]; simp
    · split
      · exact nxB_mem h hx
      · exact List.mem_cons_of_mem _ (nxB_mem h hx)
theorem keepX_out {P : Program} {mem : List TB} {w w' : World} {F : List TB → Prop} (h : keepX P mem w w' F) :
    ∃ mem', F mem' ∧ mem'.length = mem.length ∧ ∀ (k : Nat) tb, mem[k]? = some tb → ∃ tb', mem'[k]? = some tb' ∧ tb'.b = tb.b ∧ (tb.b < w.heap.size → w.heap[tb.b]? = some (.cells tb.cs.toArray tb.T) → w'.heap[tb'.b]? = some (.cells tb'.cs.toArray tb'.T)) := by
  have fin : (∀ b ∈ nxB mem, b < w.heap.size → w'.heap[b]? = w.heap[b]?) → reD P w' mem F → ∃ mem', F mem' ∧ mem'.length = mem.length ∧ ∀ (k : Nat) tb, mem[k]? = some tb → ∃ tb', mem'[k]? = some tb' ∧ tb'.b = tb.b ∧ (tb.b < w.heap.size → w.heap[tb.b]? = some (.cells tb.cs.toArray tb.T) → w'.heap[tb'.b]? = some (.cells tb'.cs.toArray tb'.T)) := fun hk hr => by
    obtain ⟨m, h1, h2, h3⟩ := reD_out hr
    refine ⟨m, h1, h2, fun k tb hm => ?_⟩
    obtain ⟨t', h4, h5, h6, h7⟩ := h3 k tb hm
    refine ⟨t', h4, h5, fun hl hc => ?_⟩
    cases hx : tb.ex with
    | true => exact h7 hx
    | false => rw [h6 hx, hk _ (nxB_mem (List.mem_of_getElem? hm) hx) hl]; exact hc
  unfold keepX at h
  split at h
  · rename_i hn
    exact fin (by rw [hn]; simp) h
  · exact fin h.1 h.2

/-- A state behind an effect, where each tracked block is known. -/
theorem after_inv {f : FA} {s : St} {wa w' : World} {mem : List TB} (hI : Inv f s wa) (hl : mem.length = s.mem.length)
    (hm : ∀ (k : Nat) tb, s.mem[k]? = some tb → ∃ tb', mem[k]? = some tb' ∧ tb'.b = tb.b ∧ w'.heap[tb'.b]? = some (.cells tb'.cs.toArray tb'.T)) : Inv f ⟨mem, w', [], [], true⟩ w' := by
  have back : ∀ (k : Nat) x, mem[k]? = some x → ∃ tb, s.mem[k]? = some tb ∧ x.b = tb.b ∧ w'.heap[x.b]? = some (.cells x.cs.toArray x.T) := fun k x h => by
    have hk : k < s.mem.length := by rw [← hl]; exact (List.getElem?_eq_some_iff.1 h).1
    obtain ⟨tb', h1, h2, h3⟩ := hm k s.mem[k] (by simp [hk])
    rw [h] at h1; cases h1
    exact ⟨_, by simp [hk], h2, h3⟩
  refine ⟨fun k x hk => (back k x hk).choose_spec.2.2, fun i j x y hx hy hb => ?_, fun i k off ht => ?_, (Mod.refl w').less (by simp), by simp, fun _ => rfl⟩
  · obtain ⟨x', h1, e1, _⟩ := back i x hx
    obtain ⟨y', h2, e2, _⟩ := back j y hy
    exact hI.nd i j x' y' h1 h2 (by rw [← e1, ← e2, hb])
  · obtain ⟨tb, h1, h2⟩ := hI.tags i k off ht
    obtain ⟨tb', h3, h4, _⟩ := hm k tb h1
    exact ⟨tb', h3, by rw [h2, h4]⟩

theorem effN_quiet {P : Program} {o : Oper} {rest : List Oper} {f : FA} {w : World} {K : Value → World → Prop} (he : effN P o = 0) (h : quietOp P o (evA f) w fun v => K v w) : effW P (execOp (evA f) o) w K :=
  let ⟨v, h1, h2⟩ := quietOp_run h
  effW_run (h2 w (fun _ => Mod.refl w)) h1

/-- Tracked blocks stay tracked, at their places. -/
def Later (s s' : St) : Prop := ∀ (k : Nat) tb, s.mem[k]? = some tb → ∃ tb', s'.mem[k]? = some tb' ∧ tb'.b = tb.b
theorem Later.refl (s : St) : Later s s := fun k tb h => ⟨tb, h, rfl⟩
theorem Later.trans {a b c : St} (h : Later a b) (k : Later b c) : Later a c := fun i tb hi => by
  obtain ⟨t1, h1, e1⟩ := h i tb hi
  obtain ⟨t2, h2, e2⟩ := k i t1 h1
  exact ⟨t2, h2, by rw [e2, e1]⟩
theorem Later.of_mem {s s' : St} (h : s'.mem = s.mem) : Later s s' := fun k tb hk => ⟨tb, by rw [h]; exact hk, rfl⟩
theorem Later.exposed (ids : List Nat) (s : St) : Later s (expose ids s) := fun k tb hk => by
  obtain ⟨tb', h1, a, _⟩ := same_get (fun k => (expose_mem ids s k).symm) hk
  exact ⟨tb', h1, a.symm⟩
theorem Later.flush {ids : List Nat} {s s' : St} (h : s'.mem = (expose ids s).mem) : Later s s' := (Later.exposed ids s).trans (Later.of_mem h)

/-- .. an operation that leaves the world. -/
def Quiets (P : Program) (o : Oper) (f : FA) (s : St) (wa : World) (K : KOp) : Prop := ∃ v t s', K v t s' ∧ (OpI f s' v t wa ∧ Later s s') ∧ ∀ w', (readB P o = true → Mod [] wa w') → (execOp (evA f) o).run P w' = .ok (.value v) w'
def Effs (P : Program) (o : Oper) (f : FA) (s : St) (wa : World) (K : KOp) : Prop := effW P (execOp (evA f) o) wa fun v wa' => ∃ t s', K v t s' ∧ OpI f s' v t wa' ∧ Later s s'
theorem Quiets.eff {P : Program} {o : Oper} {f : FA} {s : St} {wa : World} {K : KOp} (h : Quiets P o f s wa K) : Effs P o f s wa K := by
  obtain ⟨v, t, s', h1, h2, h3⟩ := h
  exact effW_run (h3 wa (fun _ => Mod.refl wa)) ⟨t, s', h1, h2⟩

theorem rawD_quiet {P : Program} {rest : List Oper} {o : Oper} {f : FA} {s : St} {wa : World} {K : KOp} (h : rawD P rest o f s K) (he : effN P o = 0) (hI : Inv f s wa) : Quiets P o f s wa K := by
  unfold rawD at h
  rw [he] at h
  cases hr : readB P o with
  | false =>
    rw [hr] at h
    obtain ⟨v, h1, h2⟩ := quietOp_run h
    exact ⟨v, none, _, h1, ⟨(expose_inv hI).op, Later.exposed _ _⟩, fun w' _ => h2 w' (by rw [hr]; simp)⟩
  | true =>
    rw [hr] at h
    obtain ⟨s', h, hI', hw, hmem, _⟩ := flush_out h (expose_inv hI)
    obtain ⟨v, h1, h2⟩ := quietOp_run h
    rw [hw] at h2
    exact ⟨v, none, _, h1, ⟨hI'.op, Later.flush hmem⟩, h2⟩
theorem rawD_eff {P : Program} {rest : List Oper} {o : Oper} {f : FA} {s : St} {wa : World} {K : KOp} (h : rawD P rest o f s K) (hI : Inv f s wa) : Effs P o f s wa K := by
  by_cases he : effN P o = 0
  · exact (rawD_quiet h he hI).eff
  unfold rawD at h
  split at h
  · rename_i h0 _; exact absurd h0 he
  obtain ⟨s', h, hI', hw, hmem, _⟩ := flush_out h (expose_inv hI)
  have hLt := Later.flush hmem
  split at h
  · rename_i h0; exact absurd h0 he
  · rw [hw] at h
    refine effW_mono (newOp_eff h) fun v w' ⟨hM, hk⟩ => ⟨none, _, hk, (after_inv hI' rfl fun k tb hk => ⟨tb, hk, rfl, hM.keep0 (hI'.at_ k tb hk)⟩).op, hLt.trans (Later.of_mem rfl)⟩
  · rw [hw] at h
    refine effW_mono (denOp_eff h) fun v w' hk => ?_
    obtain ⟨h1, h2⟩ := keepA_out hk
    exact ⟨none, _, h2, (after_inv hI' rfl fun k tb hk => ⟨tb, hk, rfl, by rw [h1 k tb hk (hI'.lt hk)]; exact hI'.at_ k tb hk⟩).op, hLt.trans (Later.of_mem rfl)⟩
  · rw [hw] at h
    refine effW_mono (denOp_eff h) fun v w' hk => ?_
    obtain ⟨m, h1, h2, h3⟩ := keepX_out hk
    refine ⟨none, _, h1, (after_inv hI' h2 fun k tb hk => ?_).op, hLt.trans fun k tb hk => ?_⟩
    · obtain ⟨t', h4, h5, h6⟩ := h3 k tb hk
      exact ⟨t', h4, h5, h6 (hI'.lt hk) (hI'.at_ k tb hk)⟩
    · obtain ⟨t', h4, h5, _⟩ := h3 k tb hk
      exact ⟨t', h4, h5⟩

/-- What is done of a tracked variable's address. -/
theorem den3Op_both {P : Program} {rest : List Oper} {o : Oper} {f : FA} {s : St} {wa : World} {K : KOp} (h : den3Op P rest o f s K) (hI : Inv f s wa) : (effN P o = 0 → Quiets P o f s wa K) ∧ Effs P o f s wa K := by
  have raw : rawD P rest o f s K → (effN P o = 0 → Quiets P o f s wa K) ∧ Effs P o f s wa K := fun h => ⟨fun he => rawD_quiet h he hI, rawD_eff h hI⟩
  have q : Quiets P o f s wa K → (effN P o = 0 → Quiets P o f s wa K) ∧ Effs P o f s wa K := fun h => ⟨fun _ => h, h.eff⟩
  have val : ∀ {v : Value} {t : Tag} {s' : St}, K v t s' → (OpI f s' v t wa ∧ Later s s') → (∀ w', (execOp (evA f) o).run P w' = .ok (.value v) w') → Quiets P o f s wa K := fun h1 h2 h3 => ⟨_, _, _, h1, h2, fun w' _ => h3 w'⟩
  unfold den3Op at h
  split at h
  · -- load
    rename_i t a hop
    split at h
    · rename_i k off ht
      split at h
      · rename_i tb hk
        obtain ⟨tb', hk', ha⟩ := hI.tag_of ht
        rw [hk] at hk'; cases hk'
        obtain ⟨v, h1, h2⟩ := ldTr_run h (cells_of (hI.at_ k tb hk) off)
        refine q ⟨v, none, s, h1, ⟨hI.op, Later.refl s⟩, fun w' hm => ?_⟩
        simp only [execOp, hop, ha]
        exact run_value (h2 w' (hm (by simp [readB, hop])))
      · exact h.elim
    · exact raw h
  · -- store
    rename_i t a x hop
    split at h
    · rename_i k off ht
      have hE := expose_inv (ids := opIds f [x]) hI
      split at h
      · rename_i tb hk hsz hd hl
        split at h
        · rename_i hle
          obtain ⟨tb', hk', ha⟩ := hE.tag_of ht
          rw [hk] at hk'; cases hk'
          have hle := Nat.le_of_ble_eq_true hle
          have e := expose_rest (opIds f [x]) s
          refine ⟨fun he => absurd he (by simp [effN, hop]), ?_⟩
          have hst := st_of (F := fun w' => w'.heap[tb.b]? = some (.cells (setFrom tb.cs.toArray off (evA f x).cells.toList) tb.T) ∧ Mod [tb.b] wa w') (hE.at_ k tb hk) hl (by simpa using hle) fun w' h1 h2 => ⟨h1, h2⟩
          obtain ⟨w', h1, h2, h3⟩ := stC_run (P := P) hst
          obtain ⟨d, hd⟩ := Option.isSome_iff_exists.1 hd
          have hs' : (evA f x).cells.size = P.cellsOf t := by simpa using hsz
          refine effW_skip (w' := w') ?_ ⟨none, _, forceM_out h, ?_, (Later.exposed (opIds f [x]) s).trans fun j y hj => ?_⟩
          · simp [execOp, hop, Instr.storeAt, Instr.sureAddr, storeVar, ha, Sem.run_bind, run_sizeOf hd, Result.andThen, hs', h1]
          · have := store_inv hE hk (by simpa using hle) h2 h3
            rw [e.1, e.2.1, e.2.2.1] at this
            exact this
          · by_cases hjk : j = k
            · subst hjk; rw [hk] at hj; cases hj
              exact ⟨_, List.getElem?_set_self (List.getElem?_eq_some_iff.1 hk).1, rfl⟩
            · exact ⟨y, by rw [List.getElem?_set_ne (Ne.symm hjk)]; exact hj, rfl⟩
        · exact h.elim
      · exact h.elim
    · exact raw h
  · -- alloc
    rename_i e hop
    split at h
    · rename_i z hz
      refine ⟨fun he => absurd he (by simp [effN, hop]), ?_⟩
      obtain ⟨t, s', h1, h2, h3⟩ := newB_eff (P := P) h hI
      refine effW_run (v := .pointer (some ⟨wa.heap.size, 0, none⟩)) ?_ ⟨t, s', h1, h2, h3⟩
      simp only [execOp, hop]
      exact run_value (run_zero hz wa)
    · exact h.elim
  · -- box
    rename_i e x hop
    refine ⟨fun he => absurd he (by simp [effN, hop]), ?_⟩
    obtain ⟨t, s', h1, h2, h3⟩ := newB_eff (P := P) h (expose_inv hI)
    refine effW_run (v := .pointer (some ⟨wa.heap.size, 0, none⟩)) ?_ ⟨t, s', h1, h2, (Later.exposed _ _).trans h3⟩
    simp only [execOp, hop]
    exact run_value (run_box wa)
  · -- fieldAddr
    rename_i t x fi hop
    split at h
    · rename_i k off ht
      split at h
      · rename_i tb fs hk hu
        split at h
        · rename_i fl hff
          split at h
          · rename_i n hi hn
            obtain ⟨tb', hk', ha⟩ := hI.tag_of ht
            rw [hk] at hk'; cases hk'
            refine q (val h ⟨⟨hI, fun k' off' e => by cases e; exact ⟨tb, hk, rfl⟩⟩, Later.refl s⟩ fun w' => ?_)
            simp only [execOp, hop, ha]
            refine run_value ?_
            have e0 : ¬ P.cellsOf fl.type = 0 := by omega
            simp [Instr.fieldAt, Instr.sureAddr, fieldPlace, Sem.run_bind, run_underlying hu, Result.andThen, hff, info_some hi, e0, addr_add]
          · exact h.elim
        · exact h.elim
      · exact h.elim
    · exact raw h
  · -- indexAddr
    rename_i t x ix hop
    split at h
    · rename_i len e hu
      split at h
      · exact h.elim
      rename_i hi
      split at h
      · rename_i n k off hl ht
        obtain ⟨kk, rfl⟩ : ∃ kk, ix = .const (.int kk (.ofNat n)) := by
          unfold idxLit at hl; split at hl
          · cases hl; exact ⟨_, rfl⟩
          · cases hl
        split at h
        · rename_i tb hk hlt
          obtain ⟨tb', hk', ha⟩ := hI.tag_of ht
          rw [hk] at hk'; cases hk'
          refine q (val h ⟨⟨hI, fun k' off' e => by cases e; exact ⟨tb, hk, rfl⟩⟩, Later.refl s⟩ fun w' => ?_)
          have hlt : n < len := by simpa [Nat.blt_eq] using hlt
          have hc : evA f (.const (.int kk (.ofNat n))) = .int kk (.ofNat n) := rfl
          simp only [execOp, hop, ha, hc]
          refine run_value ?_
          simp [Instr.indexAt, asIntOf, Instr.sureAddr, Sem.run_bind, run_underlying hu, Result.andThen, hlt, info_some hi, addr_add]
        · exact h.elim
      · split at h
        · rename_i a kk i ha hix
          obtain ⟨h0, h1, h⟩ := h
          refine q (val h ⟨(expose_inv hI).op, Later.exposed _ _⟩ fun w' => ?_)
          simp only [execOp, hop, ha, hix]
          refine run_value ?_
          simp [Instr.indexAt, asIntOf, Instr.sureAddr, Sem.run_bind, run_underlying hu, Result.andThen, h0, h1, info_some hi]
        · exact h.elim
    · exact raw h
  · -- nilCheck
    rename_i x hop
    split at h
    · rename_i k off ht
      split at h
      · rename_i tb hk
        obtain ⟨tb', hk', ha⟩ := hI.tag_of ht
        rw [hk] at hk'; cases hk'
        refine q (val h ⟨⟨hI, fun k' off' e => by cases e; exact ⟨tb, hk, rfl⟩⟩, Later.refl s⟩ fun w' => ?_)
        simp [execOp, hop, ha, Sem.run]
      · exact h.elim
    · exact raw h
  · rename_i x hop
    refine q (val h ⟨⟨hI, fun k off e => hI.tag_of e⟩, Later.refl s⟩ fun w' => ?_)
    simp [execOp, hop, Sem.run]
  · rename_i x hop
    refine q (val h ⟨⟨hI, fun k off e => hI.tag_of e⟩, Later.refl s⟩ fun w' => ?_)
    simp [execOp, hop, Sem.run]
  · -- pick
    rename_i c a b hop
    split at h
    · rename_i t hc
      have hE := expose_inv (ids := opIds f [a, b]) hI
      cases t
      · refine q (val (show K (evA f b) none _ from h) ⟨hE.op, Later.exposed _ _⟩ fun w' => ?_)
        simp [execOp, hop, hc, asBool, Sem.run, Sem.run_bind]
      · refine q (val (show K (evA f a) none _ from h) ⟨hE.op, Later.exposed _ _⟩ fun w' => ?_)
        simp [execOp, hop, hc, asBool, Sem.run, Sem.run_bind]
    · exact h.elim
  · exact raw h

/-! ### lists of operations -/
theorem yielded_tmp {ops : Array Oper} {tmps : Array Value} {j d : Nat} (hd : (ops[j]?).bind (·.dst) = some d) : yielded ops tmps j = match tmps[d]? with
    | some (.bool b) => some b
    | _ => none := by
  cases h : tmps[d]? with
  | none => simp [yielded, hd, h]
  | some v => cases v <;> simp [yielded, hd, h]
theorem yielded_noneA {ops : Array Oper} {tmps : Array Value} {j : Nat} (hd : (ops[j]?).bind (·.dst) = none) : yielded ops tmps j = none := by
  simp [yielded, hd]
theorem Inv.skip {f : FA} {s : St} {wa : World} (h : Inv f s wa) (d : Option Tmp) : Inv (putA f d undef none) s wa := OpI.put (v := undef) (t := none) h.op d
theorem dstB_mem {n : Nat} : ∀ {l : List Oper}, dstB n l = true → ∀ o ∈ l, ∀ k, o.dst = some k → k < n
  | [], _, o, ho, _, _ => by cases ho
  | x :: r, h, o, ho, k, hk => by
    unfold dstB at h
    split at h
    · rename_i hx
      rcases List.mem_cons.1 ho with rfl | ho
      · rw [hx] at hk; cases hk
      · exact dstB_mem h o ho k hk
    · rename_i d hx
      split at h
      · rename_i hlt
        rcases List.mem_cons.1 ho with rfl | ho
        · rw [hx] at hk; cases hk; simpa [Nat.blt_eq] using hlt
        · exact dstB_mem h o ho k hk
      · cases h

theorem den3Ops_sound {P : Program} {n : Nat} {ops : Array Oper} {Q : Exit → Act → World → Prop} {K : FA → St → Prop} (hK : ∀ f s wa a, K f s → Inv f s wa → Rel n f a → Q .normal a wa) :
    ∀ {l : List Oper} {f : FA} {s : St} {wa : World} {a : Act}, (∀ o ∈ l, ∀ k, o.dst = some k → k < n) → den3Ops P ops l K f s → Inv f s wa → Rel n f a → wpList P ops Q l a wa
  | [], f, s, wa, a, _, h, hI, hR => hK f s wa a h hI hR
  | o :: r, f, s, wa, a, hn, h, hI, hR => by
    have hnr : ∀ o ∈ r, ∀ k, o.dst = some k → k < n := fun o ho => hn o (by simp [ho])
    have run : ∀ {f : FA}, (den3Op P r o f s fun v t s => den3Ops P ops r K (putA f o.dst v t) s) → Inv f s wa → Rel n f a → Region.wanted o (yielded ops a.tmps) = true → wpList P ops Q (o :: r) a wa := fun {f} h hI hR hw => by
      unfold wpList
      rw [if_pos hw]
      refine .inl (effW_wp (K := fun v wa' => ∃ t s', den3Ops P ops r K (putA f o.dst v t) s' ∧ OpI f s' v t wa' ∧ Later s s') (by rw [hR.eval]; exact (den3Op_both h hI).2) fun v w' ⟨t, s', h1, h2, _⟩ => ?_)
      exact den3Ops_sound hK hnr h1 (h2.put o.dst) (hR.put o.dst (hn o (by simp)) v t)
    have skip : ∀ {f : FA}, den3Ops P ops r K (putA f o.dst undef none) s → Inv f s wa → Rel n f a → Region.wanted o (yielded ops a.tmps) = false → wpList P ops Q (o :: r) a wa := fun {f} h hI hR hw => by
      unfold wpList
      rw [if_neg (by rw [hw]; simp)]
      exact den3Ops_sound hK hnr h (hI.skip o.dst) (hR.put o.dst (hn o (by simp)) _ _)
    unfold den3Ops at h
    split at h
    · rename_i hg
      exact run h hI hR (by simp [Region.wanted, hg])
    · rename_i j b hg
      split at h
      · rename_i hd
        exact skip h hI hR (by simp [Region.wanted, hg, yielded_noneA hd])
      · rename_i d hd
        split at h
        · rename_i t ht
          have hy := hR.bool ht
          have hI' := put_bool ht hI
          have hR' := rel_bool ht hR
          cases t
          · simp only [brB] at h
            split at h
            · exact run h hI' hR' (by simp [Region.wanted, hg, yielded_tmp hd, hy])
            · exact skip h hI' hR' (by simp [Region.wanted, hg, yielded_tmp hd, hy])
          · simp only [brB] at h
            split at h
            · exact run h hI' hR' (by simp [Region.wanted, hg, yielded_tmp hd, hy])
            · exact skip h hI' hR' (by simp [Region.wanted, hg, yielded_tmp hd, hy])
        · rename_i hn
          refine skip h hI hR ?_
          have : yielded ops a.tmps j = none := by
            rw [yielded_tmp hd]
            split
            · rename_i b' hb
              refine absurd ?_ (hn b')
              rw [← hR.get, Array.getD_eq_getD_getElem?, hb]; rfl
            · rfl
          simp [Region.wanted, hg, this]

/-- .. that leave the world, in whatever order. -/
theorem den3OpsQ_sound {P : Program} {n : Nat} {ops : Array Oper} {w : World} {Q : Act → Prop} {K : FA → St → Prop} (hK : ∀ f s a, K f s → Inv f s w → Rel n f a → Q a) :
    ∀ {l : List Oper} {f : FA} {s : St} {a : Act}, (∀ o ∈ l, ∀ k, o.dst = some k → k < n) → (∀ o ∈ l, effN P o = 0) → den3Ops P ops l K f s → Inv f s w → Rel n f a → wpQuiet P ops (fun w' => Mod [] w w') Q l a
  | [], f, s, a, _, _, h, hI, hR => hK f s a h hI hR
  | o :: r, f, s, a, hn, hl, h, hI, hR => by
    have hnr : ∀ o ∈ r, ∀ k, o.dst = some k → k < n := fun o ho => hn o (by simp [ho])
    have hr : ∀ o ∈ r, effN P o = 0 := fun o ho => hl o (by simp [ho])
    have run : ∀ {f : FA}, (den3Op P r o f s fun v t s => den3Ops P ops r K (putA f o.dst v t) s) → Inv f s w → Rel n f a → Region.wanted o (yielded ops a.tmps) = true → wpQuiet P ops (fun w' => Mod [] w w') Q (o :: r) a := fun {f} h hI hR hw => by
      unfold wpQuiet
      rw [if_pos hw]
      obtain ⟨v, t, s', h1, ⟨h2, _⟩, h3⟩ := (den3Op_both h hI).1 (hl o (by simp))
      refine ⟨v, fun w' hm => ?_, ?_⟩
      · unfold Oper.quietAt
        rw [hR.eval, h3 w' (fun _ => hm)]
        exact ⟨rfl, rfl⟩
      · exact den3OpsQ_sound hK hnr hr h1 (h2.put o.dst) (hR.put o.dst (hn o (by simp)) v t)
    have skip : ∀ {f : FA}, den3Ops P ops r K (putA f o.dst undef none) s → Inv f s w → Rel n f a → Region.wanted o (yielded ops a.tmps) = false → wpQuiet P ops (fun w' => Mod [] w w') Q (o :: r) a := fun {f} h hI hR hw => by
      unfold wpQuiet
      rw [if_neg (by rw [hw]; simp)]
      exact den3OpsQ_sound hK hnr hr h (hI.skip o.dst) (hR.put o.dst (hn o (by simp)) _ _)
    unfold den3Ops at h
    split at h
    · rename_i hg
      exact run h hI hR (by simp [Region.wanted, hg])
    · rename_i j b hg
      split at h
      · rename_i hd
        exact skip h hI hR (by simp [Region.wanted, hg, yielded_noneA hd])
      · rename_i d hd
        split at h
        · rename_i t ht
          have hy := hR.bool ht
          have hI' := put_bool ht hI
          have hR' := rel_bool ht hR
          cases t
          · simp only [brB] at h
            split at h
            · exact run h hI' hR' (by simp [Region.wanted, hg, yielded_tmp hd, hy])
            · exact skip h hI' hR' (by simp [Region.wanted, hg, yielded_tmp hd, hy])
          · simp only [brB] at h
            split at h
            · exact run h hI' hR' (by simp [Region.wanted, hg, yielded_tmp hd, hy])
            · exact skip h hI' hR' (by simp [Region.wanted, hg, yielded_tmp hd, hy])
        · rename_i hn
          refine skip h hI hR ?_
          have : yielded ops a.tmps j = none := by
            rw [yielded_tmp hd]
            split
            · rename_i b' hb
              refine absurd ?_ (hn b')
              rw [← hR.get, Array.getD_eq_getD_getElem?, hb]; rfl
            · rfl
          simp [Region.wanted, hg, this]

/-! ### regions whose order is open -/
def GoodA (P : Program) (g : DRec2) (w : World) : Prop := ∀ w', Mod [] w w' → (execOp (evA g.f) g.o).run P w' = .ok (.value g.v) w'
theorem GoodA.mod {P : Program} {g : DRec2} {w w' : World} (h : GoodA P g w) (hm : Mod [] w w') : GoodA P g w' := fun w'' h' => h w'' (by simpa using hm.trans h')
theorem sameA_good {P : Program} {g : DRec2} {w : World} (h : sameA P g w) : GoodA P g w := by
  unfold sameA at h
  split at h
  · rename_i t a hop
    split at h
    · rename_i a' ha hd
      obtain ⟨v, rfl, hr⟩ := ldT_run h hd
      intro w' hm
      simp only [execOp, hop, ha]
      exact run_value (hr w' hm)
    · exact h.elim
  · rename_i t x i ok hop
    intro w' hm
    simp only [execOp, hop]
    exact run_value (h w' hm)
  · exact h
def TagG (g : DRec2) (s : St) : Prop := ∀ k off, g.tag = some (k, off) → ∃ t a tb, g.o.op = .load t a ∧ s.mem[k]? = some tb ∧ evA g.f a = .pointer (some ⟨tb.b, off, none⟩)
theorem sameD2_good {P : Program} {g : DRec2} {s : St} {f0 : FA} {wa : World} (h : sameD2 P g s) (hI : Inv f0 s wa) (hw : g.tag = none → s.w = wa) (ht : TagG g s) : GoodA P g wa := by
  cases htag : g.tag with
  | none =>
    unfold sameD2 at h
    rw [htag] at h
    simp only at h
    rw [hw htag] at h
    exact sameA_good h
  | some x =>
    obtain ⟨k, off⟩ := x
    obtain ⟨t, a, tb, hop, hk, ha⟩ := ht k off htag
    unfold sameD2 at h
    rw [htag, hop] at h
    simp only [hk] at h
    obtain ⟨v, h1, h2⟩ := ldTr_run h (cells_of (hI.at_ k tb hk) off)
    subst h1
    intro w' hm
    simp only [execOp, hop, ha]
    exact run_value (h2 w' hm)
theorem obl2_out {P : Program} {m : List Nat} {i : Nat} {F : Prop} {s : St} : ∀ {D : List DRec2}, obl2 P m i D s F → (∀ g ∈ D, depB m i g.i = false → sameD2 P g s) ∧ F
  | [], h => ⟨by simp, h⟩
  | g :: r, h => by
    unfold obl2 at h
    split at h
    · rename_i hd
      obtain ⟨h1, h2⟩ := obl2_out h
      refine ⟨fun g' hg' hd' => ?_, h2⟩
      rcases List.mem_cons.1 hg' with rfl | hg'
      · rw [hd] at hd'; cases hd'
      · exact h1 g' hg' hd'
    · obtain ⟨h0, h⟩ := h
      obtain ⟨h1, h2⟩ := obl2_out h
      refine ⟨fun g' hg' hd' => ?_, h2⟩
      rcases List.mem_cons.1 hg' with rfl | hg'
      · exact h0
      · exact h1 g' hg' hd'
theorem keep2_mem {m : List Nat} {i : Nat} {g : DRec2} : ∀ {D : List DRec2}, g ∈ keep2 m i D ↔ g ∈ D ∧ depB m i g.i = false
  | [] => by simp [keep2]
  | x :: r => by
    unfold keep2
    split
    · rename_i hd
      rw [keep2_mem]
      constructor
      · exact fun ⟨a, b⟩ => ⟨by simp [a], b⟩
      · rintro ⟨a, b⟩
        rcases List.mem_cons.1 a with rfl | a
        · rw [hd] at b; cases b
        · exact ⟨a, b⟩
    · rename_i hd
      rw [List.mem_cons, List.mem_cons, keep2_mem]
      constructor
      · rintro (rfl | ⟨a, b⟩)
        · exact ⟨.inl rfl, hd⟩
        · exact ⟨.inr a, b⟩
      · rintro ⟨rfl | a, b⟩
        · exact .inl rfl
        · exact .inr ⟨a, b⟩
theorem gone2_mem {m : List Nat} {i : Nat} {g : DRec2} : ∀ {D : List DRec2}, g ∈ D → depB m i g.i = true → g.i ∈ gone2 m i D
  | [], h, _ => by cases h
  | x :: r, h, hd => by
    unfold gone2
    rcases List.mem_cons.1 h with rfl | h
    · rw [hd]; simp
    · split
      · simp [gone2_mem h hd]
      · exact gone2_mem h hd
theorem needW_mem {g : DRec2} : ∀ {D : List DRec2}, needW D = false → g ∈ D → g.tag ≠ none
  | [], _, h => by cases h
  | x :: r, h, hg => by
    unfold needW at h
    split at h
    · cases h
    · rename_i hx
      rcases List.mem_cons.1 hg with rfl | hg
      · exact hx
      · exact needW_mem h hg

/-- How the readable records stand to the model's. -/
structure Recs2 (P : Program) (ops : Array Oper) (Γ : Recs) (D : List DRec2) (X : List Nat) (s : St) (w : World) : Prop where
  good : ∀ g ∈ D, GoodA P g w
  tag : ∀ g ∈ D, TagG g s
  all : ∀ g ∈ Γ, (∀ o w', ops[g.1]? = some o → YieldsQ P ops o g.2.2 g.2.1 w') ∨ (∃ d ∈ D, d.i = g.1 ∧ ops[d.i]? = some d.o ∧ g.2.1.eval = evA d.f ∧ d.v = g.2.2 ∧ Region.wanted d.o (yielded ops g.2.1.tmps) = true ∧ readB P d.o = true)
theorem TagG.later {g : DRec2} {s s' : St} (h : TagG g s) (hl : Later s s') : TagG g s' := fun k off ht => by
  obtain ⟨t, a, tb, h1, h2, h3⟩ := h k off ht
  obtain ⟨tb', h4, h5⟩ := hl k tb h2
  exact ⟨t, a, tb', h1, h4, by rw [h3, h5]⟩
theorem Recs2.later {P : Program} {ops : Array Oper} {Γ : Recs} {D : List DRec2} {X : List Nat} {s s' : St} {w : World} (h : Recs2 P ops Γ D X s w) (hl : Later s s') : Recs2 P ops Γ D X s' w :=
  ⟨h.good, fun g hg => (h.tag g hg).later hl, h.all⟩
theorem Recs2.obl {P : Program} {ops : Array Oper} {m : List Nat} {Γ : Recs} {D : List DRec2} {X : List Nat} {s : St} {w w' : World} {i : Nat} (h : Recs2 P ops Γ D X s w) (hs : ∀ g ∈ D, depB m i g.i = false → GoodA P g w') : Obl P ops m i Γ w' := by
  intro g hg hd o ho
  rcases h.all g hg with h1 | ⟨d, h1, h2, h3, h4, h5, h6⟩
  · exact h1 o w' ho
  · rw [← h2] at ho hd
    rw [h3] at ho; cases ho
    refine .inl ⟨h6.1, fun w'' hm => ?_⟩
    rw [h4, ← h5]
    exact hs d h1 hd w'' (hm h6.2)
theorem oblD2_out {P : Program} {m : List Nat} {i : Nat} {D : List DRec2} {s : St} {K : St → Prop} {f0 : FA} {v0 : Value} {t0 : Tag} {wa : World} (h : oblD2 P m i D s K) (hI : OpI f0 s v0 t0 wa) (ht : ∀ g ∈ D, TagG g s) :
    ∃ s', K s' ∧ OpI f0 s' v0 t0 wa ∧ Later s s' ∧ ∀ g ∈ D, depB m i g.i = false → GoodA P g wa := by
  unfold oblD2 at h
  split at h
  · obtain ⟨s', h, hI', hw, hmem, _⟩ := flush_out h hI.toInv
    obtain ⟨h1, h2⟩ := obl2_out h
    have hl : Later s s' := Later.of_mem hmem
    exact ⟨s', h2, ⟨hI', by rw [hmem]; exact hI.tag⟩, hl, fun g hg hd => sameD2_good (h1 g hg hd) hI' (fun _ => hw) ((ht g hg).later hl)⟩
  · rename_i hn
    obtain ⟨h1, h2⟩ := obl2_out h
    exact ⟨s, h2, hI, Later.refl s, fun g hg hd => sameD2_good (h1 g hg hd) hI.toInv (fun e => absurd e (needW_mem hn (keep2_mem.2 ⟨hg, hd⟩))) (ht g hg)⟩

theorem den3Op_new {P : Program} {o : Oper} {f : FA} {s : St} {wa : World} {K : KOp} (h : den3Op P [] o f s K) (hn : isNewB o = true) (hI : Inv f s wa) : effW P (execOp (evA f) o) wa fun v wa' => Mod [] wa wa' ∧ ∃ t s', K v t s' ∧ OpI f s' v t wa' ∧ Later s s' := by
  have M : ∀ c T, Mod [] wa (wa.alloc (.cells c T)) := fun c T => Mod.of_below ((Below.refl _ _).alloc (Nat.le_refl _) _)
  unfold den3Op at h
  split at h
  case h_3 e hop =>
    split at h
    · rename_i z hz
      obtain ⟨t, s', h1, h2, h3⟩ := newB_eff (P := P) h hI
      refine effW_run (v := .pointer (some ⟨wa.heap.size, 0, none⟩)) ?_ ⟨M _ _, t, s', h1, h2, h3⟩
      simp only [execOp, hop]
      exact run_value (run_zero hz wa)
    · exact h.elim
  case h_4 e x hop =>
    obtain ⟨t, s', h1, h2, h3⟩ := newB_eff (P := P) h (expose_inv hI)
    refine effW_run (v := .pointer (some ⟨wa.heap.size, 0, none⟩)) ?_ ⟨M _ _, t, s', h1, h2, (Later.exposed _ _).trans h3⟩
    simp only [execOp, hop]
    exact run_value (run_box wa)
  case h_11 =>
    have he : effN P o = 1 := by
      unfold isNewB at hn
      unfold effN
      split at hn
      all_goals first
        | (rename_i hop; simp only [hop]; done)
        | (cases hn)
    unfold rawD at h
    rw [he] at h
    obtain ⟨s', h, hI', hw, hmem, _⟩ := flush_out h (expose_inv hI)
    have hLt := Later.flush hmem
    simp only at h
    rw [hw] at h
    exact effW_mono (newOp_eff h) fun v w' ⟨hM, hk⟩ => ⟨hM, none, _, hk, (after_inv hI' rfl fun k tb hk => ⟨tb, hk, rfl, hM.keep0 (hI'.at_ k tb hk)⟩).op, hLt.trans (Later.of_mem rfl)⟩
  all_goals
    rename_i hop
    simp [isNewB, hop] at hn

theorem den3E_sound {P : Program} {n : Nat} {ops : Array Oper} {m : List Nat} {Q : Act → World → Prop} {K : FA → St → Prop} (hnn : ∀ (i : Nat) o, ops[i]? = some o → ∀ k, o.dst = some k → k < n) (hK : ∀ f s w a, K f s → Inv f s w → Rel n f a → Q a w) :
    ∀ {L : List Nat} {Γ : Recs} {D : List DRec2} {X : List Nat} {f : FA} {s : St} {w : World} {a : Act}, den3E P ops m L D X K f s → Inv f s w → Rel n f a → Recs2 P ops Γ D X s w → ordVC P ops m Q L Γ a w
  | [], _, _, _, f, s, w, a, h, hI, hR, _ => hK f s w a h hI hR
  | i :: L, Γ, D, X, f, s, w, a, h, hI, hR, hr => by
    unfold den3E at h
    split at h
    · exact h.elim
    rename_i o ho
    have hn := hnn i o ho
    have run : ∀ {f : FA}, stepD3 P ops m L i o D X f s (fun Γ X f s => den3E P ops m L Γ X K f s) → Inv f s w → Rel n f a → Region.wanted o (yielded ops a.tmps) = true → ordVC P ops m Q (i :: L) Γ a w := fun {f} h hI hR hw => by
      refine ⟨o, ho, ?_⟩
      unfold stepD3 at h
      split at h
      · rename_i hs
        try simp only [hs]
        split at h
        case h_2 => exact h.elim
        rename_i he
        obtain ⟨v, t, s', h1, ⟨hO, hl⟩, h2⟩ := (den3Op_both h hI).1 he
        refine ⟨v, .inl ⟨hw, by rw [hR.eval]; exact h2⟩, ?_⟩
        have hR' := hR.put o.dst hn v t
        have hr' := hr.later hl
        split at h1
        · rename_i hrd
          refine den3E_sound hnn hK h1 (hO.put o.dst) hR' ⟨fun g hg => ?_, fun g hg => ?_, fun g hg => ?_⟩
          · rcases List.mem_cons.1 hg with rfl | hg
            · exact fun w' hm => h2 w' (fun _ => hm)
            · exact hr'.good g hg
          · rcases List.mem_cons.1 hg with rfl | hg
            · intro k off ht
              simp only at ht
              unfold trkOf at ht
              split at ht
              · rename_i t' a hop
                obtain ⟨tb, h3, h4⟩ := hI.tag_of ht
                obtain ⟨tb', h5, h6⟩ := hl k tb h3
                exact ⟨t', a, tb', hop, h5, by rw [h4, h6]⟩
              · cases ht
            · exact hr'.tag g hg
          · rcases List.mem_cons.1 hg with rfl | hg
            · exact .inr ⟨_, List.mem_cons_self, rfl, ho, hR.eval, rfl, hw, hrd⟩
            · rcases hr'.all g hg with h3 | ⟨d, h3, h4⟩
              · exact .inl h3
              · exact .inr ⟨d, by simp [h3], h4⟩
        · rename_i hrd
          refine den3E_sound hnn hK h1 (hO.put o.dst) hR' ⟨hr'.good, hr'.tag, fun g hg => ?_⟩
          rcases List.mem_cons.1 hg with rfl | hg
          · refine .inl fun o' w' ho' => ?_
            simp only at ho'
            rw [ho] at ho'; cases ho'
            exact .inl ⟨hw, fun w'' _ => by rw [hR.eval]; exact h2 w'' (fun h => by rw [hrd] at h; cases h)⟩
          · exact hr'.all g hg
      · rename_i hs
        try simp only [hs]
        refine ⟨fun _ => ?_, fun hw' => by rw [hw] at hw'; cases hw'⟩
        rw [hR.eval]
        split at h
        · rename_i hnw
          refine effW_mono (den3Op_new h hnw hI) fun v w' ⟨hm, t, s', h1, h2, hl⟩ => ⟨hr.obl fun g hg _ => (hr.good g hg).mod hm, ?_⟩
          have hr' := hr.later hl
          exact den3E_sound hnn hK h1 (h2.put o.dst) (hR.put o.dst hn v t) ⟨fun g hg => (hr'.good g hg).mod hm, hr'.tag, fun g hg => hr'.all g (sift_mem.1 hg).1⟩
        · refine effW_mono (den3Op_both h hI).2 fun v w' ⟨t, s', h1, h2, hl⟩ => ?_
          have hr' := hr.later hl
          obtain ⟨s'', h3, h4, hl', h5⟩ := oblD2_out h1 h2 hr'.tag
          refine ⟨hr.obl h5, ?_⟩
          have hr'' := hr'.later hl'
          refine den3E_sound hnn hK h3 (h4.put o.dst) (hR.put o.dst hn v t) ⟨fun g hg => h5 g (keep2_mem.1 hg).1 (keep2_mem.1 hg).2, fun g hg => hr''.tag g (keep2_mem.1 hg).1, fun g hg => ?_⟩
          obtain ⟨hg, hd⟩ := sift_mem.1 hg
          rcases hr''.all g hg with h6 | ⟨d, h6, h7⟩
          · exact .inl h6
          · exact .inr ⟨d, keep2_mem.2 ⟨h6, by rw [h7.1]; exact hd⟩, h7⟩
    have skip : ∀ {f : FA}, den3E P ops m L D X K (putA f o.dst undef none) s → Inv f s w → Rel n f a → Region.wanted o (yielded ops a.tmps) = false → ordVC P ops m Q (i :: L) Γ a w := fun {f} h hI hR hw => by
      have hI' := hI.skip o.dst
      have hR' := hR.put o.dst hn undef none
      refine ⟨o, ho, ?_⟩
      split
      · refine ⟨undef, .inr ⟨hw, rfl⟩, ?_⟩
        refine den3E_sound hnn hK h hI' hR' ⟨hr.good, hr.tag, fun g hg => ?_⟩
        rcases List.mem_cons.1 hg with rfl | hg
        · refine .inl fun o' w' ho' => ?_
          simp only at ho'
          rw [ho] at ho'; cases ho'
          exact .inr ⟨hw, rfl⟩
        · exact hr.all g hg
      · exact ⟨(fun hw' => by rw [hw] at hw'; cases hw'), fun _ => den3E_sound hnn hK h hI' hR' ⟨hr.good, hr.tag, hr.all⟩⟩
    split at h
    · rename_i hg
      exact run h hI hR (by simp [Region.wanted, hg])
    · rename_i j b hg
      split at h
      · rename_i hd
        exact skip h hI hR (by simp [Region.wanted, hg, yielded_noneA hd])
      · rename_i d hd
        split at h
        · rename_i t ht
          have hy := hR.bool ht
          have hI' := put_bool ht hI
          have hR' := rel_bool ht hR
          cases t
          · simp only [brB] at h
            split at h
            · exact run h hI' hR' (by simp [Region.wanted, hg, yielded_tmp hd, hy])
            · exact skip h hI' hR' (by simp [Region.wanted, hg, yielded_tmp hd, hy])
          · simp only [brB] at h
            split at h
            · exact run h hI' hR' (by simp [Region.wanted, hg, yielded_tmp hd, hy])
            · exact skip h hI' hR' (by simp [Region.wanted, hg, yielded_tmp hd, hy])
        · rename_i hn
          refine skip h hI hR ?_
          have : yielded ops a.tmps j = none := by
            rw [yielded_tmp hd]
            split
            · rename_i b' hb
              refine absurd ?_ (hn b')
              rw [← hR.get, Array.getD_eq_getD_getElem?, hb]; rfl
            · rfl
          simp [Region.wanted, hg, this]
/-! ### 'ordB', reckoned faster -/
theorem tB_eq (m i : Nat) : tB m i = m.testBit i := by
  have e : Nat.land (Nat.shiftRight m i) 1 = (m >>> i) % 2 := by
    show (m >>> i) &&& 1 = _
    exact Nat.and_one_is_mod _
  unfold tB
  rw [e, Nat.testBit_eq_decide_div_mod_eq, Nat.shiftRight_eq_div_pow]
  cases h : decide (m / 2 ^ i % 2 = 1) with
  | true => simp at h; simp [h]
  | false => simp at h; rw [h]; rfl
theorem allB_eq {α : Type} {p : α → Bool} : ∀ {l : List α}, allB p l = true → ∀ x ∈ l, p x = true
  | [], _, x, hx => by cases hx
  | y :: r, h, x, hx => by
    unfold allB at h
    split at h
    · rename_i hy
      rcases List.mem_cons.1 hx with rfl | hx
      · exact hy
      · exact allB_eq h x hx
    · cases h
theorem lor_shift (m x i : Nat) : (Nat.lor m (Nat.shiftLeft 1 x)).testBit i = (m.testBit i || decide (x = i)) := by
  show (m ||| 1 <<< x).testBit i = _
  rw [Nat.testBit_or, Nat.one_shiftLeft, Nat.testBit_two_pow]
theorem permM_out {n : Nat} : ∀ {L : List Nat} {m : Nat}, permM n m L = true → L.Nodup ∧ (∀ x ∈ L, x < n ∧ m.testBit x = false) ∧ ∀ i, i < n → m.testBit i = true ∨ i ∈ L
  | [], m, h => by
    refine ⟨List.nodup_nil, by simp, fun i hi => .inl ?_⟩
    have : m = 1 <<< n - 1 := Nat.eq_of_beq_eq_true h
    rw [this, Nat.one_shiftLeft]
    simp [Nat.testBit_two_pow_sub_one, hi]
  | x :: r, m, h => by
    unfold permM at h
    split at h
    · rename_i h1 h2
      rw [tB_eq] at h2
      have h1 : x < n := by simpa [Nat.blt_eq] using h1
      obtain ⟨a, b, c⟩ := permM_out h
      refine ⟨List.nodup_cons.2 ⟨fun hx => ?_, a⟩, fun y hy => ?_, fun i hi => ?_⟩
      · have := (b x hx).2; rw [lor_shift] at this; simp at this
      · rcases List.mem_cons.1 hy with rfl | hy
        · exact ⟨h1, h2⟩
        · have := b y hy; rw [lor_shift] at this; simp at this; exact ⟨this.1, this.2.1⟩
      · rcases c i hi with h | h
        · rw [lor_shift] at h; simp at h
          rcases h with h | rfl
          · exact .inl h
          · exact .inr (by simp)
        · exact .inr (by simp [h])
    · cases h
theorem oneE_out {n x : Nat} : ∀ {l : List Edge}, oneE n x l = true → ∀ e ∈ l, Region.binds .any e = true → e.on < n ∧ e.on ≠ x
  | [], _, e, he, _ => by cases he
  | e' :: r, h, e, he, hb => by
    unfold oneE at h
    split at h
    · rename_i hb'
      rcases List.mem_cons.1 he with rfl | he
      · rw [hb] at hb'; cases hb'
      · exact oneE_out h e he hb
    · split at h
      · rename_i h1 h2
        rcases List.mem_cons.1 he with rfl | he
        · exact ⟨by simpa [Nat.blt_eq] using h1, Nat.ne_of_beq_eq_false h2⟩
        · exact oneE_out h e he hb
      · cases h
theorem oneB2_out {ops : Array Oper} {x : Nat} (h : oneB2 ops.size ops x = true) : oneB ops x = true := by
  unfold oneB2 at h
  unfold oneB
  split at h
  · rename_i o ho
    split at h
    · cases h
    · rename_i hs
      have := oneE_out h
      try rw [ho]
      simp only [Bool.and_eq_true, Bool.not_eq_true']
      refine ⟨⟨?_, ?_⟩, ?_⟩
      · unfold edgeB
        rw [List.any_eq_false]
        intro e he
        by_cases hb : Region.binds .any e = true
        · simp [hb, (this e he hb).2]
        · simp [hb]
      · rw [Array.all_eq_true_iff_forall_mem]
        intro e he
        by_cases hb : Region.binds .any e = true
        · simp [(this e (by simpa using he) hb).1]
        · simp [hb]
      · cases hop : o.op with
        | select a b => exact absurd hop (hs a b)
        | _ => trivial
  · cases h
theorem maskL_bit : ∀ {l : List Nat} {i : Nat}, (maskL l).testBit i = true ↔ i ∈ l
  | [], i => by simp [maskL]
  | x :: r, i => by
    simp only [maskL, lor_shift, Bool.or_eq_true, decide_eq_true_eq, maskL_bit, List.mem_cons]
    constructor
    · rintro (h | rfl) <;> simp_all
    · rintro (rfl | h) <;> simp_all
theorem edgeM_bit : ∀ {l : List Edge} {i : Nat}, (edgeM l).testBit i = true ↔ ∃ e ∈ l, Region.binds .any e = true ∧ e.on = i
  | [], i => by simp [edgeM]
  | e :: r, i => by
    unfold edgeM
    split
    · rename_i hb
      simp only [lor_shift, Bool.or_eq_true, decide_eq_true_eq, edgeM_bit, List.mem_cons]
      constructor
      · rintro (⟨e', h1, h2⟩ | rfl)
        · exact ⟨e', .inr h1, h2⟩
        · exact ⟨e, .inl rfl, hb, rfl⟩
      · rintro ⟨e', rfl | h1, h2, h3⟩
        · exact .inr h3
        · exact .inl ⟨e', h1, h2, h3⟩
    · rename_i hb
      rw [edgeM_bit]
      constructor
      · rintro ⟨e', h1, h2⟩; exact ⟨e', by simp [h1], h2⟩
      · rintro ⟨e', h1, h2⟩
        rcases List.mem_cons.1 h1 with rfl | h1
        · rw [hb] at h2; cases h2.1
        · exact ⟨e', h1, h2⟩
theorem restM_bit : ∀ {l : List OR} {i : Nat}, (restM l).testBit i = true ↔ ∃ x ∈ l, x.i = i
  | [], i => by simp [restM]
  | x :: r, i => by
    simp only [restM, lor_shift, Bool.or_eq_true, decide_eq_true_eq, restM_bit, List.mem_cons]
    constructor
    · rintro (⟨y, h1, h2⟩ | h)
      · exact ⟨y, .inr h1, h2⟩
      · exact ⟨x, .inl rfl, h⟩
    · rintro ⟨y, rfl | h1, h2⟩
      · exact .inr h2
      · exact .inl ⟨y, h1, h2⟩
theorem land_zero {a b : Nat} (h : Nat.beq (Nat.land a b) 0 = true) {i : Nat} (ha : a.testBit i = true) : b.testBit i = false := by
  have h := Nat.eq_of_beq_eq_true h
  have e : (a &&& b).testBit i = false := by
    show (Nat.land a b).testBit i = false
    rw [h]; simp
  rw [Nat.testBit_and, ha] at e
  simpa using e
theorem dstM_bit {d : Option Tmp} {i : Nat} : (dstM d).testBit i = true ↔ d = some i := by
  cases d with
  | none => simp [dstM]
  | some d =>
    show (1 <<< d).testBit i = true ↔ _
    rw [Nat.one_shiftLeft, Nat.testBit_two_pow]
    simp
/-- Rows that stand for operations. -/
def RowOk (P : Program) (ops : Array Oper) (m : List Nat) (x : OR) : Prop := ∃ o, ops[x.i]? = some o ∧ x.em = edgeM o.after.toList ∧ x.cm = m.getD x.i 0 ∧ x.st = stillB P o ∧ x.rm = maskL (o.looksAt ops) ∧ x.dm = dstM o.dst
theorem rowsO_out {P : Program} {ops : Array Oper} {m : List Nat} : ∀ {L : List Nat} {k : List OR → Bool}, rowsO P ops m L k = true → ∃ l, k l = true ∧ l.map (·.i) = L ∧ ∀ x ∈ l, RowOk P ops m x
  | [], k, h => ⟨[], h, rfl, by simp⟩
  | i :: r, k, h => by
    unfold rowsO at h
    split at h
    · cases h
    rename_i o ho
    split at h
    all_goals
      rename_i hs
      obtain ⟨l, h1, h2, h3⟩ := rowsO_out h
      refine ⟨_, h1, by simp [h2], fun x hx => ?_⟩
      rcases List.mem_cons.1 hx with rfl | hx
      · exact ⟨o, ho, rfl, rfl, hs.symm, rfl, rfl⟩
      · exact h3 x hx
theorem pair3_out {P : Program} {ops : Array Oper} {m : List Nat} {x y : OR} (hx : RowOk P ops m x) (hy : RowOk P ops m y) (h : pair3 x y = true) {ox oy : Oper} (hox : ops[x.i]? = some ox) (hoy : ops[y.i]? = some oy) : (stillB P ox || depB m y.i x.i) = true ∧ (ox.apart ops oy || depB m y.i x.i) = true := by
  obtain ⟨ox', e0, e1, e2, e3, e4, e5⟩ := hx
  obtain ⟨oy', f0, f1, f2, f3, f4, f5⟩ := hy
  rw [hox] at e0; cases e0
  rw [hoy] at f0; cases f0
  unfold pair3 at h
  split at h
  · rename_i hd
    rw [tB_eq, f2] at hd
    have : depB m y.i x.i = true := hd
    simp [this]
  · split at h
    · rename_i hs h1 h2
      rw [e3] at hs
      rw [e5, f4, f5] at h1
      rw [f5, e4] at h2
      have ap : ox.apart ops oy = true := by
        unfold Oper.apart
        rw [Bool.and_eq_true]
        constructor
        · cases hd : ox.dst with
          | none => rfl
          | some d =>
            have := land_zero h1 (i := d) (dstM_bit.2 hd)
            have e : (Nat.lor (maskL (oy.looksAt ops)) (dstM oy.dst)).testBit d = ((maskL (oy.looksAt ops)).testBit d || (dstM oy.dst).testBit d) := by
              show (maskL (oy.looksAt ops) ||| dstM oy.dst).testBit d = _
              rw [Nat.testBit_or]
            rw [e, Bool.or_eq_false_iff] at this
            have n1 : d ∉ oy.looksAt ops := fun hm => by rw [maskL_bit.2 hm] at this; cases this.1
            have n2 : oy.dst ≠ some d := fun hm => by rw [dstM_bit.2 hm] at this; cases this.2
            simp [n1, n2]
        · cases hd : oy.dst with
          | none => rfl
          | some d =>
            have := land_zero h2 (i := d) (dstM_bit.2 hd)
            have n1 : d ∉ ox.looksAt ops := fun hm => by rw [maskL_bit.2 hm] at this; cases this
            simp [n1]
      simp [hs, ap]
    · cases h
theorem pairs3_out {P : Program} {ops : Array Oper} {m : List Nat} : ∀ {l : List OR}, pairs3 l = true → (∀ x ∈ l, RowOk P ops m x) → pairsB P ops m (l.map (·.i)) = true
  | [], _, _ => rfl
  | x :: r, h, hl => by
    unfold pairs3 at h
    split at h
    · rename_i h1 h2
      have hx := hl x (by simp)
      have ih := pairs3_out h fun y hy => hl y (by simp [hy])
      simp only [List.map_cons, pairsB, Bool.and_eq_true, List.all_eq_true]
      refine ⟨fun i hi => ?_, ih⟩
      obtain ⟨y, hy, rfl⟩ := List.mem_map.1 hi
      have hyr := hl y (by simp [hy])
      obtain ⟨ox, e0, e1, _⟩ := id hx
      obtain ⟨oy, f0, _⟩ := id hyr
      obtain ⟨p1, p2⟩ := pair3_out hx hyr (allB_eq h2 y hy) e0 f0
      have ne : edgeB ox y.i = false := by
        rw [Bool.eq_false_iff]
        intro he
        unfold edgeB at he
        rw [List.any_eq_true] at he
        obtain ⟨e, hm, he⟩ := he
        simp only [Bool.and_eq_true, beq_iff_eq] at he
        have := land_zero h1 (i := y.i) (by rw [e1]; exact edgeM_bit.2 ⟨e, hm, he.1, he.2⟩)
        rw [restM_bit.2 ⟨y, hy, rfl⟩] at this
        cases this
      unfold pairB
      rw [e0, f0]
      simp only [ne, Bool.not_false, Bool.true_and, Bool.and_eq_true]
      exact ⟨p1, p2⟩
    · cases h
theorem ordB2_out {P : Program} {ops : Array Oper} {L : List Nat} (h : ordB2 P ops L = true) : ordB P ops L = true := by
  unfold ordB2 at h
  split at h
  · rename_i h1 h2
    split at h
    · rename_i h3
      obtain ⟨a, b, c⟩ := permM_out h2
      have hb : ∀ x ∈ L, x < ops.size := fun x hx => (b x hx).1
      simp only [ordB, permB, Bool.and_eq_true, List.all_eq_true, decide_eq_true_eq, beq_iff_eq]
      refine ⟨⟨⟨⟨⟨Nat.eq_of_beq_eq_true h1, hb⟩, a⟩, fun x hx => ?_⟩, ?_⟩, fun x hx => oneB2_out (allB_eq h3 x hx)⟩
      · rcases c x (by simpa using hx) with h | h
        · simp at h
        · simpa using h
      · obtain ⟨l, e1, e2, e3⟩ := rowsO_out h
        rw [← e2]
        exact pairs3_out e1 e3
    · cases h
  · cases h


/-! ### bodies -/
theorem tgA_mem {i k o : Nat} : ∀ {l : List (Nat × Nat × Nat)}, tgA l i = some (k, o) → (i, k, o) ∈ l
  | [], h => by cases h
  | (j, k', o') :: r, h => by
    unfold tgA at h
    split at h
    · rename_i hb
      have hb := Nat.eq_of_beq_eq_true hb
      subst hb; cases h; simp
    · exact List.mem_cons_of_mem _ (tgA_mem h)
theorem chkT_out {f : FA} {n : Nat} : ∀ {l : List (Nat × Nat × Nat)}, chkT f n l = true → ∀ i k o, (i, k, o) ∈ l → f.tag i = some (k, o) ∧ k < n
  | [], _, i, k, o, h => by cases h
  | (j, k', o') :: r, hc, i, k, o, h => by
    unfold chkT at hc
    split at hc
    · rename_i k2 o2 ht
      split at hc
      · rename_i h1 h2 h3
        have h1 := Nat.eq_of_beq_eq_true h1
        have h2 := Nat.eq_of_beq_eq_true h2
        subst h1; subst h2
        rcases List.mem_cons.1 h with h | h
        · cases h; exact ⟨ht, by simpa [Nat.blt_eq] using h3⟩
        · exact chkT_out hc i k o h
      · cases hc
    · cases hc
theorem mkU_get {tg : List (Nat × Nat × Nat)} {js g : Nat → Value} (hj : ∀ i, js i = g i) : ∀ (live : List Nat) (i : Nat), lkV (mkU tg live (live.map g)) js i = g i
  | [], i => hj i
  | j :: r, i => by
    simp only [List.map_cons, mkU, lkV]
    split
    · rename_i hb; have := Nat.eq_of_beq_eq_true hb; subst this; rfl
    · exact mkU_get hj r i
theorem mkU_tag {tg : List (Nat × Nat × Nat)} : ∀ {live : List Nat} {vals : List Value} {i k o : Nat}, lkT (mkU tg live vals) i = some (k, o) → tgA tg i = some (k, o)
  | [], vals, i, k, o, h => by cases vals <;> cases h
  | j :: r, [], i, k, o, h => by cases h
  | j :: r, v :: vs, i, k, o, h => by
    simp only [mkU, lkT] at h
    split at h
    · rename_i hb; have := Nat.eq_of_beq_eq_true hb; subst this; exact h
    · exact mkU_tag h
theorem valsA_map (f : FA) : ∀ l : List Nat, valsA f l = l.map f.get
  | [] => rfl
  | i :: r => by simp [valsA, valsA_map f r]

/-- What is known at a head. -/
theorem head_inv {a : LA} {f : FA} {s : St} {wa : World} (hI : Inv f s wa) (hT : chkT f a.n a.tg = true) : Inv ⟨mkU a.tg a.live (valsA f a.live), f.get⟩ ⟨s.mem.take a.n, wa, [], [], true⟩ wa := by
  have hg : ∀ i, (⟨mkU a.tg a.live (valsA f a.live), f.get⟩ : FA).get i = f.get i := fun i => by
    rw [valsA_map]
    exact mkU_get (fun _ => rfl) a.live i
  have get : ∀ (k : Nat) tb, (s.mem.take a.n)[k]? = some tb → s.mem[k]? = some tb := fun k tb h => by
    rw [List.getElem?_take] at h
    split at h
    · exact h
    · cases h
  refine ⟨fun k tb hk => hI.at_ k tb (get k tb hk), fun i j x y hx hy => hI.nd i j x y (get i x hx) (get j y hy), fun i k off hi => ?_, (Mod.refl wa).less (by simp), by simp, fun _ => rfl⟩
  obtain ⟨h1, hn⟩ := chkT_out hT i k off (tgA_mem (mkU_tag hi))
  obtain ⟨tb, h2, h3⟩ := hI.tags i k off h1
  exact ⟨tb, by rw [List.getElem?_take, if_pos hn]; exact h2, by rw [hg]; exact h3⟩
theorem head_rel {a : LA} {f : FA} {n : Nat} {b : Act} (hR : Rel n f b) : Rel n ⟨mkU a.tg a.live (valsA f a.live), f.get⟩ b :=
  ⟨fun i => by rw [hR.get, valsA_map]; exact (mkU_get (fun _ => rfl) a.live i).symm, hR.defers, hR.size⟩

theorem atA_out {a : LA} {K : List Value → List TB → World → Prop} {f : FA} {s : St} {wa : World} (h : atA a K f s) (hI : Inv f s wa) :
    ∃ mem, K (valsA f a.live) mem wa ∧ Inv ⟨mkU a.tg a.live (valsA f a.live), f.get⟩ ⟨mem, wa, [], [], true⟩ wa := by
  unfold atA at h
  split at h
  · rename_i hT
    obtain ⟨s', h, hI', hw, hmem, _⟩ := flush_out h (expose_inv hI)
    rw [hw] at h
    exact ⟨_, h, head_inv hI' hT⟩
  · exact h.elim

theorem den3_sound {P : Program} (hm : P.follows .mixedOrders = true) (an : List LA) (n : Nat) (root : Code) : ∀ (k : Nat) (c : Code) (rp : List Nat) {Q3 : Kx3} {Q : Exit → Act → World → Prop} {f : FA} {s : St} {w : World} {a : Act}, subR root rp = c → dstsB n c = true → den3 P an (dnF P an root k) rp c Q3 f s → Inv f s w → Rel n f a →
    (∀ e f s w a, Q3 e f s → Inv f s w → Rel n f a → Q e a w) → c.wp P Q a w := by
  have other : ∀ (c : Code) (rp : List Nat) {Q3 : Kx3} {Q : Exit → Act → World → Prop} {f : FA} {s : St} {w : World} {a : Act}, wpD3 P an rp c Q3 f s → Inv f s w → Rel n f a → (∀ e f s w a, Q3 e f s → Inv f s w → Rel n f a → Q e a w) → c.wp P Q a w := by
    intro c rp Q3 Q f s w a h hI hR hQ
    unfold wpD3 at h
    split at h
    case h_2 => exact h.elim
    rename_i l _
    obtain ⟨mem, h, hI'⟩ := atA_out h hI
    have e : ∀ l : List Nat, valsT a l = valsA f l := fun l => by
      induction l with
      | nil => rfl
      | cons i r ih => simp [valsT, valsA, ih, hR.get]
    have h := h n a hR.size hR.defers (e _)
    refine Code.wp_mono (fun e a w' ⟨hd, hs, hq⟩ => hQ _ _ _ _ _ hq ⟨by simp, by simp, fun i k off ht => by simp [FA.tag, lkT] at ht, (Mod.refl w').less (by simp), by simp, fun _ => rfl⟩ ⟨fun i => rfl, hd, hs⟩) h
  intro k
  induction k using Nat.strongRecOn with
  | _ k ihk =>
  -- behind a ';', a loop's round
  have deep : ∀ (c : Code) (rp : List Nat) {Q3 : Kx3} {Q : Exit → Act → World → Prop} {f : FA} {s : St} {w : World} {a : Act}, subR root rp = c → dstsB n c = true → dnF P an root k rp Q3 f s → Inv f s w → Rel n f a →
      (∀ e f s w a, Q3 e f s → Inv f s w → Rel n f a → Q e a w) → c.wp P Q a w := by
    intro c rp Q3 Q f s w a hc hd h hI hR hQ
    cases k with
    | zero => exact False.elim h
    | succ k =>
      have h : den3 P an (dnF P an root k) rp (subR root rp) Q3 f s := h
      rw [hc] at h
      exact ihk k (Nat.lt_succ_self k) c rp hc hd h hI hR hQ
  intro c
  induction c with
  | skip => intro rp Q3 Q f s w a hc hd h hI hR hQ; exact wp_skip (hQ _ _ _ _ _ h hI hR)
  | region id ops draw =>
    intro rp Q3 Q f s w a hc hd h hI hR hQ
    have hdm := dstB_mem (by simpa [dstsB] using hd : dstB n ops.toList = true)
    cases draw
    · exact wp_region_list (den3Ops_sound (fun f s w a h hI hR => hQ _ _ _ _ _ h hI hR) hdm h hI hR)
    · unfold den3 at h
      simp only at h
      have dirt : ∀ {f : FA} {s : St} {w w1 : World}, Inv f s w → Mod [] w w1 → Inv f (dirty s) w1 := fun {f s w w1} hI hM => by
        obtain ⟨mem, ws, S, N, cl⟩ := s
        exact ⟨fun k tb hk => hM.keep0 (hI.at_ k tb hk), hI.nd, hI.tags, by simpa [dirty] using hI.mod.trans hM, hI.new, by simp [dirty]⟩
      split at h
      · rename_i hq
        simp only [Bool.and_eq_true] at hq
        obtain ⟨hq2, hq1⟩ := hq
        have hq2 : ∀ o ∈ ops.toList, stillB P o = true ∧ Nat.beq (effN P o) 0 = true := fun o ho => by simpa only [Bool.and_eq_true] using allB_eq hq2 o ho
        unfold quietsB at hq1
        simp only [Bool.and_eq_true] at hq1
        refine wp_region_quiet (C := fun w' => Mod [] w w') hm hq1.2 (Mod.drewN w 1) ?_
        exact den3OpsQ_sound (fun f s a h hI hR w' hw' => hQ _ _ _ _ _ h (dirt hI hw') hR) hdm (fun o ho => Nat.eq_of_beq_eq_true (hq2 o ho).2) h hI hR
      · split at h
        · rename_i hL
          have hL := ordB2_out hL
          exact ordVC_region hm hL fun w1 h1 => den3E_sound (fun i o ho => hdm o (by rw [← Array.getElem?_toList] at ho; exact List.mem_of_getElem? ho)) (fun f s w a h hI hR => hQ _ _ _ _ _ h hI hR) h (dirt hI h1) hR ⟨by simp, by simp, by simp⟩
        · split at h
          · exact other _ _ h hI hR hQ
          · split at h
            · rename_i hL
              obtain ⟨hA, hB⟩ := h
              exact ordVC_region2 hm hL (fun w1 h1 => den3E_sound (fun i o ho => hdm o (by rw [← Array.getElem?_toList] at ho; exact List.mem_of_getElem? ho)) (fun f s w a h hI hR => hQ _ _ _ _ _ h hI hR) hA (dirt hI h1) hR ⟨by simp, by simp, by simp⟩)
                fun w1 h1 => den3E_sound (fun i o ho => hdm o (by rw [← Array.getElem?_toList] at ho; exact List.mem_of_getElem? ho)) (fun f s w a h hI hR => hQ _ _ _ _ _ h hI hR) hB (dirt hI h1) hR ⟨by simp, by simp, by simp⟩
            · exact other _ _ h hI hR hQ
  | seq c1 c2 ih1 ih2 =>
    intro rp Q3 Q f s w a hc hd h hI hR hQ
    have hd1 : dstsB n c1 = true := by unfold dstsB at hd; split at hd <;> simp_all
    have hd2 : dstsB n c2 = true := by unfold dstsB at hd; split at hd <;> simp_all
    unfold den3 at h
    have hc1 : subR root (0 :: rp) = c1 := by simp only [subR, hc]; rfl
    have hc2 : subR root (1 :: rp) = c2 := by simp only [subR, hc]; rfl
    refine wp_seq (ih1 _ hc1 hd1 h hI hR fun e f s w a hq hI hR => ?_)
    unfold seqK at hq
    cases hx : findA (1 :: rp) an with
    | none =>
      rw [hx] at hq
      cases e
      case normal => exact deep _ _ hc2 hd2 hq hI hR hQ
      all_goals exact hQ _ _ _ _ _ hq hI hR
    | some la =>
      rw [hx] at hq
      cases e
      case normal =>
        change atA _ _ _ _ at hq
        obtain ⟨mem, hc, hI'⟩ := atA_out hq hI
        obtain ⟨J, h0, hr⟩ := hc
        obtain ⟨_, _, hh⟩ := hr _ _ _ h0
        exact deep _ _ hc2 hd2 (factsD_out (hh f.get) hI'.at_) hI' (head_rel hR) hQ
      all_goals exact hQ _ _ _ _ _ hq hI hR
  | cond c a b iha ihb =>
    intro rp Q3 Q f s w act hc hd h hI hR hQ
    have hd1 : dstsB n a = true := by unfold dstsB at hd; split at hd <;> simp_all
    have hd2 : dstsB n b = true := by unfold dstsB at hd; split at hd <;> simp_all
    unfold den3 at h
    split at h
    · rename_i t ht
      refine wp_cond (t := t) (by rw [hR.eval]; exact ht) ?_
      cases t
      · exact ihb _ (by simp only [subR, hc]; rfl) hd2 h hI hR hQ
      · exact iha _ (by simp only [subR, hc]; rfl) hd1 h hI hR hQ
    · exact h.elim
  | block id c ih =>
    intro rp Q3 Q f s w a hc hd h hI hR hQ
    unfold den3 at h
    refine wp_block (ih _ (by simp only [subR, hc]; rfl) (by simpa [dstsB] using hd) h hI hR fun e f s w a hq hI hR => ?_)
    cases e
    case exit i =>
      simp only [kblock3] at hq
      show if i = id then Q .normal a w else Q (.exit i) a w
      split at hq
      · rename_i hi; rw [if_pos (by simpa using hi)]; exact hQ _ _ _ _ _ hq hI hR
      · rename_i hi; rw [if_neg (by simpa using hi)]; exact hQ _ _ _ _ _ hq hI hR
    all_goals exact hQ _ _ _ _ _ hq hI hR
  | loop c ih =>
    intro rp Q3 Q f s w a hc hd h hI hR hQ
    have hd1 : dstsB n c = true := by simpa [dstsB] using hd
    unfold den3 at h
    split at h
    case h_2 => exact h.elim
    rename_i la _
    obtain ⟨mem, hl, hI1⟩ := atA_out h hI
    obtain ⟨I, m, h0, hr⟩ := hl
    -- the invariant, of the model's frames
    let J : Nat → Act → World → Prop := fun m a w => ∃ vals js mem, I m vals mem w ∧ Inv ⟨mkU la.tg la.live vals, js⟩ ⟨mem, w, [], [], true⟩ w ∧ Rel n ⟨mkU la.tg la.live vals, js⟩ a
    have hJ0 : J m a w := ⟨_, _, _, h0, hI1, head_rel hR⟩
    have hD : ∀ m a w, J m a w → c.wp P (Exit.then (fun a' w' => ∃ m', m' < m ∧ J m' a' w') Q) a w := by
      rintro m a w ⟨vals, js, mem, hi, hI, hR⟩
      obtain ⟨_, _, hf⟩ := hr m vals mem w hi
      refine deep c _ (by simp only [subR, hc]; rfl) hd1 (factsD_out (hf js) hI.at_) hI hR fun e f' s' w' a' hq hI' hR' => ?_
      cases e
      case normal =>
        have hq : atA la (fun vals' mem' w' => ∃ m', m' < m ∧ I m' vals' mem' w') f' s' := hq
        obtain ⟨mem', hk, hI2⟩ := atA_out hq hI'
        obtain ⟨m', hlt, hi'⟩ := hk
        exact ⟨m', hlt, _, _, _, hi', hI2, head_rel hR'⟩
      all_goals exact hQ _ _ _ _ _ hq hI' hR'
    classical
    let μ : Act → World → Nat := fun a w => if h : ∃ m, J m a w then Classical.choose (least h) else 0
    refine wp_loop (fun a w => ∃ m, J m a w) μ ⟨m, hJ0⟩ fun a w hI => ?_
    have e1 : μ a w = Classical.choose (least hI) := dif_pos hI
    refine Code.wp_mono (fun e a' w' hq => ?_) (hD _ _ _ (Classical.choose_spec (least hI)).1)
    cases e
    case normal =>
      obtain ⟨m', h1, h2⟩ := hq
      have h3 : ∃ m, J m a' w' := ⟨m', h2⟩
      have e2 : μ a' w' = Classical.choose (least h3) := dif_pos h3
      refine ⟨h3, ?_⟩
      rw [e1, e2]
      exact Nat.lt_of_le_of_lt ((Classical.choose_spec (least h3)).2 m' h2) h1
    all_goals exact hq
  | exit id => intro rp Q3 Q f s w a hc hd h hI hR hQ; exact wp_exit (hQ _ _ _ _ _ h hI hR)
  | ret => intro rp Q3 Q f s w a hc hd h hI hR hQ; exact wp_ret (hQ _ _ _ _ _ h hI hR)
  | label l => intro rp Q3 Q f s w a hc hd h hI hR hQ; exact wp_label (hQ _ _ _ _ _ h hI hR)
  | _ => intro rp Q3 Q f s w a hc hd h hI hR hQ; exact other _ _ h hI hR hQ

theorem resOne_get {P : Program} {n : Nat} {f : FA} {a : Act} (hR : Rel n f a) (w : World) (t : Nat) : (resOne a.tmps (.tmp t)).run P w = .ok (f.get t) w := by
  simp only [resOne, ← hR.get]; rfl
theorem retD3_run {P : Program} {n : Nat} {f : FA} {a : Act} {s : St} {w : World} (hI : Inv f s w) (hR : Rel n f a) (hw : s.w = w) : ∀ {rs : List ResultVar} {F : List Value → Prop}, retD3 P rs f s F → ∃ vs, F vs ∧ (rs.mapM (resOne a.tmps)).run P w = .ok vs w
  | [], F, h => ⟨[], h, by simp [Sem.run]⟩
  | .tmp t :: r, F, h => by
    obtain ⟨vs, h1, h2⟩ := retD3_run hI hR hw (rs := r) h
    refine ⟨_, h1, ?_⟩
    rw [List.mapM_cons, Sem.run_bind, resOne_get hR]
    simp only [Result.andThen]
    rw [Sem.run_bind, h2]
    rfl
  | .cell c t :: r, F, h => by
    have fin : ∀ {a' : Addr} {v : Value} {F' : List Value → Prop}, f.get c = .pointer (some a') → (∀ w', Mod [] w w' → (Instr.loadAt t (.pointer (some a'))).run P w' = .ok v w') → retD3 P r f s (fun vs => F' (v :: vs)) → ∃ vs, F' vs ∧ ((ResultVar.cell c t :: r).mapM (resOne a.tmps)).run P w = .ok vs w := fun {a' v F'} ha hr h => by
      obtain ⟨vs, h1, h2⟩ := retD3_run hI hR hw (rs := r) h
      refine ⟨_, h1, ?_⟩
      have hr := hr w (Mod.refl w)
      have e2 : a.tmps.getD c undef = .pointer (some a') := by rw [hR.get, ha]
      have e1 : (resOne a.tmps (.cell c t)).run P w = .ok v w := by
        show (do loadVar t (← asAddr (a.tmps.getD c undef)) : Sem Value).run P w = _
        rw [e2]
        exact hr
      rw [List.mapM_cons, Sem.run_bind, e1]
      simp only [Result.andThen]
      rw [Sem.run_bind, h2]
      rfl
    unfold retD3 at h
    split at h
    · rename_i k off ht
      split at h
      · rename_i tb hk
        obtain ⟨tb', hk', ha⟩ := hI.tags _ _ _ ht
        rw [hk] at hk'; cases hk'
        obtain ⟨v, h, hr⟩ := ldTr_run h (cells_of (hI.at_ k tb hk) off)
        exact fin ha hr h
      · exact h.elim
    · split at h
      · rename_i a' ha hd
        obtain ⟨v, h, hr⟩ := ldT_run h hd
        rw [hw] at hr
        exact fin ha hr h
      · exact h.elim

/-- A CALL: what is to be shown of the body's condition. -/
theorem calls_den3 {P : Program} (hm : P.follows .mixedOrders = true) {f : FuncId} {fn : Func} {c : Code} {args : List Value} {n : Nat} {w : World} {R : Value → World → Prop} {np : List Nat} {an : List LA} {u : List (Nat × Value × Tag)} {mem : List TB} (hf : P.funcs[f]? = some fn) (hb : fn.body = some c) (hn : fn.ntmps = n) (hd : dstsB n c = true) (ha : args.length ≤ n)
    (hu : ∀ i, lkV u (fun _ => undef) i = args.getD i undef) (hI : Inv ⟨u, fun _ => undef⟩ ⟨mem, w, [], [], true⟩ w)
    (h : dnF P an c 400 [] (post3 P fn np R) ⟨u, fun _ => undef⟩ ⟨mem, w, [], [], true⟩) : Calls P f args.toArray w fun e w' => ∃ v, e = .returned v ∧ R v w' := by
  refine calls_of_wp hf hb ?_
  have hR : Rel n ⟨u, fun _ => undef⟩ ({ tmps := args.toArray ++ Array.replicate (fn.ntmps - args.toArray.size) undef, defers := [] } : Act) := by
    refine ⟨fun i => ?_, rfl, by simp [hn]; omega⟩
    show _ = lkV u (fun _ => undef) i
    rw [hu i]
    simp only [Array.getD_eq_getD_getElem?, List.getD_eq_getElem?_getD]
    by_cases hi : i < args.length
    · rw [Array.getElem?_append_left (by simpa using hi)]; simp
    · rw [Array.getElem?_append_right (by simpa using hi), List.getElem?_eq_none (by omega)]
      simp only [Array.getElem?_replicate]
      split <;> rfl
  refine den3_sound hm an n c 399 c [] rfl hd h hI hR fun e f s w' a hq hI' hR' => ?_
  have fin : flushD (expose (np ++ opIds f (resOps fn.results.toList)) s) (fun s => retD3 P fn.results.toList f s fun vs => match vs with
      | [v] => R v s.w
      | vs => R (.tuple ⟨vs⟩) s.w) → ∃ v, (results fn a.tmps).run P w' = .ok v w' ∧ R v w' := fun h => by
    obtain ⟨s', h, hI2, hw, _⟩ := flush_out h (expose_inv hI')
    obtain ⟨vs, h1, h2⟩ := retD3_run hI2 hR' hw h
    rw [hw] at h1
    have e : (fn.results.mapM (resOne a.tmps)).run P w' = .ok vs.toArray w' := by
      rw [Array.mapM_eq_mapM_toList, map_eq_pure_bind, Sem.run_bind, h2]
      simp [Result.andThen]
    rw [results_eq, Sem.run_bind, e]
    simp only [Result.andThen]
    split at h1
    · rename_i v
      exact ⟨v, by simp [Sem.run], h1⟩
    · rename_i hn
      refine ⟨_, ?_, h1⟩
      have : ¬ vs.toArray.size = 1 := fun hl => by
        match vs, hl, hn with
        | [v], _, hn => exact hn v rfl
      rw [dif_neg this]; rfl
  cases e
  case normal => obtain ⟨v, h1, h2⟩ := fin hq; exact ⟨hR'.defers, v, h1, v, rfl, h2⟩
  case ret => obtain ⟨v, h1, h2⟩ := fin hq; exact ⟨hR'.defers, v, h1, v, rfl, h2⟩
  all_goals exact hq.elim

theorem args0_get : ∀ (args : List Value) (k i : Nat), lkV (args0 k args) (fun _ => undef) i = if i < k then undef else args.getD (i - k) undef
  | [], k, i => by simp [args0, lkV]
  | v :: r, k, i => by
    simp only [args0, lkV]
    split
    · rename_i hb; have := Nat.eq_of_beq_eq_true hb; subst this; simp
    · rename_i hb
      have hne := Nat.ne_of_beq_eq_false hb
      rw [args0_get r (k + 1) i]
      by_cases h1 : i < k
      · rw [if_pos (by omega), if_pos h1]
      · rw [if_neg (by omega), if_neg h1, show i - k = (i - (k + 1)) + 1 by omega, List.getD_cons_succ]
theorem args0_tag : ∀ (args : List Value) (k i : Nat), lkT (args0 k args) i = none
  | [], k, i => rfl
  | v :: r, k, i => by
    simp only [args0, lkT]
    split
    · rfl
    · exact args0_tag r (k + 1) i
/-- .. where nothing is tracked yet. -/
theorem calls_none {P : Program} (hm : P.follows .mixedOrders = true) {f : FuncId} {fn : Func} {c : Code} {args : List Value} {n : Nat} {w : World} {R : Value → World → Prop} {an : List LA} (hf : P.funcs[f]? = some fn) (hb : fn.body = some c) (hn : fn.ntmps = n) (hd : dstsB n c = true) (ha : Nat.ble args.length n = true)
    (h : dnF P an c 400 [] (post3 P fn [] R) ⟨args0 0 args, fun _ => undef⟩ ⟨[], w, [], [], true⟩) : Calls P f args.toArray w fun e w' => ∃ v, e = .returned v ∧ R v w' :=
  calls_den3 hm hf hb hn hd (Nat.le_of_ble_eq_true ha) (fun i => by rw [args0_get]; simp)
    ⟨by simp, by simp, fun i k off ht => by simp [FA.tag, args0_tag] at ht, (Mod.refl w).less (by simp), by simp, fun _ => rfl⟩ h
/-- .. where the first parameter's variable is. -/
theorem calls_one {P : Program} (hm : P.follows .mixedOrders = true) {f : FuncId} {fn : Func} {c : Code} {args : List Value} {n : Nat} {w : World} {R : Value → World → Prop} {an : List LA} {b : Nat} {T : TypeId} {cs : List Value} (hf : P.funcs[f]? = some fn) (hb : fn.body = some c) (hn : fn.ntmps = n) (hd : dstsB n c = true) (ha : Nat.ble (args.length + 1) n = true)
    (hw : w.heap[b]? = some (.cells cs.toArray T))
    (h : dnF P an c 400 [] (post3 P fn [0] R) ⟨(0, .pointer (some ⟨b, 0, none⟩), some (0, 0)) :: args0 1 args, fun _ => undef⟩ ⟨[⟨b, T, cs, false⟩], w, [], [], true⟩) : Calls P f (.pointer (some ⟨b, 0, none⟩) :: args).toArray w fun e w' => ∃ v, e = .returned v ∧ R v w' := by
  have get : ∀ (k : Nat) (tb : TB), [(⟨b, T, cs, false⟩ : TB)][k]? = some tb → k = 0 ∧ tb = ⟨b, T, cs, false⟩ := fun k tb h => by
    cases k with
    | zero => simp at h; exact ⟨rfl, h.symm⟩
    | succ k => simp at h
  refine calls_den3 hm hf hb hn hd (by have := Nat.le_of_ble_eq_true ha; simpa using this) (fun i => ?_)
    ⟨fun k tb hk => ?_, fun i j x y hx hy _ => by rw [(get i x hx).1, (get j y hy).1], fun i k off ht => ?_, (Mod.refl w).less (by simp), by simp, fun _ => rfl⟩ h
  · cases i with
    | zero => rfl
    | succ i =>
      show lkV (args0 1 args) (fun _ => undef) (i + 1) = _
      rw [args0_get, if_neg (by omega)]; rfl
  · obtain ⟨_, rfl⟩ := get k tb hk; exact hw
  · cases i with
    | zero =>
      have ht : some (0, 0) = some (k, off) := ht
      cases ht
      exact ⟨⟨b, T, cs, false⟩, by simp, rfl⟩
    | succ i =>
      have ht : lkT (args0 1 args) (i + 1) = some (k, off) := ht
      rw [args0_tag] at ht; cases ht
end Go.Proofs.Ytohgihgddknmmaa
