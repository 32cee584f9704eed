/- Small laws for the printed conditions: memory read, written, made; slices; appending. -/
import Derived.Test.YtohgihgddknmmaaBase
import Derived.Test.YtohgihgddknmmaaMap
namespace Go.Proofs.Ytohgihgddknmmaa
open Go Go.RowKit
set_option linter.unusedVariables false
set_option linter.unusedSimpArgs false

/-! ### cells -/
theorem cell_at {w : World} {b i : Nat} {c : Array Value} {T : TypeId} {z : Nat × Nat} (h : w.heap[b]? = some (.cells c T z)) : w.cell? ⟨b, i, none⟩ = c[i]? := by
  simp [World.cell?, h]
theorem frozen_at {w : World} {b i : Nat} {c : Array Value} {T : TypeId} (h : w.heap[b]? = some (.cells c T)) : w.frozen? ⟨b, i, none⟩ = false := by
  simp [World.frozen?, h]
theorem ldInt_of {k : IntKind} {w : World} {a : Addr} {x : Int} {F : Int → Prop} (h : w.cell? a = some (.int k x)) (hF : F x) : ldInt k w a F := by
  unfold ldInt; rw [h]; exact ⟨rfl, hF⟩
theorem ldBool_of {w : World} {a : Addr} {x : Bool} {F : Bool → Prop} (h : w.cell? a = some (.bool x)) (hF : F x) : ldBool w a F := by
  unfold ldBool; rw [h]; exact hF
theorem ldStr_of {w : World} {a : Addr} {x : ByteArray} {F : ByteArray → Prop} (h : w.cell? a = some (.string x)) (hF : F x) : ldStr w a F := by
  unfold ldStr; rw [h]; exact hF
theorem ldPtr_of {w : World} {a : Addr} {x : Option Addr} {F : Option Addr → Prop} (h : w.cell? a = some (.pointer x)) (hF : F x) : ldPtr w a F := by
  unfold ldPtr; rw [h]; exact hF
theorem ldMap_of {w : World} {a : Addr} {x : Option Nat} {F : Option Nat → Prop} (h : w.cell? a = some (.map x)) (hF : F x) : ldMap w a F := by
  unfold ldMap; rw [h]; exact hF
theorem ldSlice_of {w : World} {a : Addr} {x : Option Addr} {n c : Nat} {F : Option Addr → Nat → Nat → Prop} (h : w.cell? a = some (.slice x n c)) (hF : F x n c) : ldSlice w a F := by
  unfold ldSlice; rw [h]; exact hF
theorem ldInt_at {k : IntKind} {w : World} {b i : Nat} {c : Array Value} {T : TypeId} {z : Nat × Nat} {x : Int} {F : Int → Prop} (h : w.heap[b]? = some (.cells c T z)) (hc : c[i]? = some (.int k x)) (hF : F x) : ldInt k w ⟨b, i, none⟩ F :=
  ldInt_of ((cell_at h).trans hc) hF
theorem ldBool_at {w : World} {b i : Nat} {c : Array Value} {T : TypeId} {z : Nat × Nat} {x : Bool} {F : Bool → Prop} (h : w.heap[b]? = some (.cells c T z)) (hc : c[i]? = some (.bool x)) (hF : F x) : ldBool w ⟨b, i, none⟩ F :=
  ldBool_of ((cell_at h).trans hc) hF
theorem ldStr_at {w : World} {b i : Nat} {c : Array Value} {T : TypeId} {z : Nat × Nat} {x : ByteArray} {F : ByteArray → Prop} (h : w.heap[b]? = some (.cells c T z)) (hc : c[i]? = some (.string x)) (hF : F x) : ldStr w ⟨b, i, none⟩ F :=
  ldStr_of ((cell_at h).trans hc) hF
theorem ldPtr_at {w : World} {b i : Nat} {c : Array Value} {T : TypeId} {z : Nat × Nat} {x : Option Addr} {F : Option Addr → Prop} (h : w.heap[b]? = some (.cells c T z)) (hc : c[i]? = some (.pointer x)) (hF : F x) : ldPtr w ⟨b, i, none⟩ F :=
  ldPtr_of ((cell_at h).trans hc) hF
theorem ldMap_at {w : World} {b i : Nat} {c : Array Value} {T : TypeId} {z : Nat × Nat} {x : Option Nat} {F : Option Nat → Prop} (h : w.heap[b]? = some (.cells c T z)) (hc : c[i]? = some (.map x)) (hF : F x) : ldMap w ⟨b, i, none⟩ F :=
  ldMap_of ((cell_at h).trans hc) hF
theorem ldSlice_at {w : World} {b i : Nat} {c : Array Value} {T : TypeId} {z : Nat × Nat} {x : Option Addr} {n q : Nat} {F : Option Addr → Nat → Nat → Prop} (h : w.heap[b]? = some (.cells c T z)) (hc : c[i]? = some (.slice x n q)) (hF : F x n q) : ldSlice w ⟨b, i, none⟩ F :=
  ldSlice_of ((cell_at h).trans hc) hF

/-- A new block: all that was there stays. -/
theorem al_of {w : World} {o : Obj} {F : Nat → World → Prop} (h : ∀ b w', w'.heap[b]? = some o → Mod [] w w' → w.heap.size ≤ b → F b w') : al w o F :=
  h _ _ (MapKept.heap_alloc w o).1 (Mod.of_below ((Below.refl _ _).alloc (Nat.le_refl _) _)) (Nat.le_refl _)

theorem setCell_heap {w : World} {b i : Nat} {c : Array Value} {T : TypeId} {z : Nat × Nat} {v : Value} (h : w.heap[b]? = some (.cells c T z)) : (w.setCell ⟨b, i, none⟩ v).heap[b]? = some (.cells (c.setIfInBounds i v) T z) := by
  simp [World.setCell, Array.getElem?_modify, h]
theorem setCell_mod (w : World) (a : Addr) (v : Value) : Mod [a.block] w (w.setCell a v) :=
  ⟨rfl, rfl, rfl, by simp [World.setCell], fun k hk hS => Below.heap_setCell w a v k (by simpa using hS)⟩

def setFrom (c : Array Value) (i : Nat) : List Value → Array Value
  | [] => c
  | v :: r => setFrom (c.setIfInBounds i v) (i + 1) r
theorem size_setFrom : ∀ (vs : List Value) (c : Array Value) (i : Nat), (setFrom c i vs).size = c.size
  | [], _, _ => rfl
  | v :: r, c, i => by simp [setFrom, size_setFrom r]

theorem stC_of {w : World} {b o : Nat} {T : TypeId} {F : World → Prop} : ∀ {vs : List Value} {i : Nat} {c : Array Value} {w0 : World}, w0.heap[b]? = some (.cells c T) → vs.all leafB = true → o + i + vs.length ≤ c.size →
    Mod [b] w w0 → (∀ w', w'.heap[b]? = some (.cells (setFrom c (o + i) vs) T) → Mod [b] w w' → F w') → stC w0 ⟨b, o, none⟩ i vs F
  | [], i, c, w0, h, _, _, hm, hF => hF w0 h hm
  | v :: r, i, c, w0, h, hl, hs, hm, hF => by
    have ha : (⟨b, o, none⟩ : Addr).add i = ⟨b, o + i, none⟩ := by
      unfold Addr.add; split
      · rename_i h0; subst h0; rfl
      · rfl
    simp only [List.all_cons, Bool.and_eq_true] at hl
    simp only [List.length_cons] at hs
    refine ⟨hl.1, ?_, ?_, ?_⟩
    · rw [ha, cell_at h]; simp; omega
    · rw [ha, frozen_at h]
    · rw [ha]
      refine stC_of (w := w) (c := c.setIfInBounds (o + i) v) (i := i + 1) (setCell_heap h) hl.2 (by simp; omega) ?_ ?_
      · exact (hm.trans (setCell_mod w0 _ v)).less (fun k hk _ => by simpa using hk)
      · intro w' h1 h2; exact hF w' (by simpa [setFrom, Nat.add_assoc] using h1) h2

/-- Cells of a block written. -/
theorem st_of {w : World} {b o : Nat} {c : Array Value} {T : TypeId} {vs : List Value} {F : World → Prop} (h : w.heap[b]? = some (.cells c T)) (hl : vs.all leafB = true) (hs : o + vs.length ≤ c.size)
    (hF : ∀ w', w'.heap[b]? = some (.cells (setFrom c o vs) T) → Mod [b] w w' → F w') : st w ⟨b, o, none⟩ vs F :=
  stC_of (i := 0) h hl (by omega) ((Mod.refl w).less (by simp)) (by simpa using hF)

theorem setFrom_all : ∀ (vs : List Value) (c : Array Value) (i : Nat), i + vs.length = c.size → (setFrom c i vs).toList = c.toList.take i ++ vs
  | [], c, i, h => by simp at h; subst h; simp [setFrom]; rw [← Array.length_toList, List.take_length]
  | v :: r, c, i, h => by
    simp only [List.length_cons] at h
    rw [setFrom, setFrom_all r _ _ (by simp; omega)]
    simp only [Array.toList_setIfInBounds]
    have hi : i < c.toList.length := by simp; omega
    rw [List.take_succ_eq_append_getElem (by simpa using hi), List.take_set_of_le (Nat.le_refl _)]
    simp

/-- .. all its cells. -/
theorem st_all {w : World} {b : Nat} {c : Array Value} {T : TypeId} {vs : List Value} {F : World → Prop} (h : w.heap[b]? = some (.cells c T)) (hl : vs.all leafB = true) (hs : vs.length = c.size)
    (hF : ∀ w', w'.heap[b]? = some (.cells vs.toArray T) → Mod [b] w w' → F w') : st w ⟨b, 0, none⟩ vs F :=
  st_of h hl (by omega) fun w' h1 h2 => hF w' (by
    have := setFrom_all vs c 0 (by omega)
    have e : setFrom c 0 vs = vs.toArray := Array.ext' (by simpa using this)
    rw [h1, e]) h2

/-- A variable made and filled at once. -/
theorem al_st {w : World} {c : Array Value} {T : TypeId} {vs : List Value} {F : Nat → World → Prop} (hl : vs.all leafB = true) (hs : vs.length = c.size)
    (hF : ∀ b w', w'.heap[b]? = some (.cells vs.toArray T) → Mod [] w w' → w.heap.size ≤ b → F b w') : al w (.cells c T) fun b w1 => st w1 ⟨b, 0, none⟩ vs fun w' => F b w' :=
  al_of fun b w1 h1 h2 h3 => st_all h1 hl hs fun w' h4 h5 => hF b w' h4 ((h2.trans h5).less (fun k hk hlt => by simp at hk; omega)) h3

/-! ### calls -/
/-- A callee by its contract. -/
theorem call_of {P : Program} {f : FuncId} {args : Array Value} {w : World} {R R' : Ending → World → Prop} (h : Calls P f args w R) (hR : ∀ e w', R e w' → R' e w') : Calls P f args w R' := h.mono hR

/-! ### slices that are read -/
/-- A slice that reads as a list, each element by the cells that 'enc' says. -/
def SlAt {α : Type} (w : World) (sz : Nat) (enc : α → List Value) (a : Option Addr) (n : Nat) (l : List α) : Prop :=
  n = l.length ∧ ∀ i x, l[i]? = some x → ∃ ad, a = some ad ∧ ∀ j v, (enc x)[j]? = some v → w.cell? ((ad.add (i * sz)).add j) = some v
theorem SlAt.keep {α : Type} {w w' : World} {sz : Nat} {enc : α → List Value} {a : Option Addr} {n : Nat} {l : List α} {S : List Nat} (h : SlAt w sz enc a n l) (hm : Mod S w w') (hS : ∀ ad, a = some ad → ad.block ∉ S) : SlAt w' sz enc a n l :=
  ⟨h.1, fun i x hx => by
    obtain ⟨ad, ha, hc⟩ := h.2 i x hx
    refine ⟨ad, ha, fun j v hv => ?_⟩
    have h1 := hc j v hv
    have hb := block_of_cell h1
    have e : ((ad.add (i * sz)).add j).block = ad.block := by simp only [Addr.add]; split <;> split <;> rfl
    rw [hm.cell hb (by rw [e]; exact hS ad ha)]
    exact h1⟩
theorem SlAt.keep0 {α : Type} {w w' : World} {sz : Nat} {enc : α → List Value} {a : Option Addr} {n : Nat} {l : List α} (h : SlAt w sz enc a n l) (hm : Mod [] w w') : SlAt w' sz enc a n l := h.keep hm (by simp)
theorem add_zero (a : Addr) : a.add 0 = a := by simp [Addr.add]
/-- An element of it. -/
theorem SlAt.ix {α : Type} {w : World} {sz : Nat} {enc : α → List Value} {a : Option Addr} {n : Nat} {l : List α} {i : Nat} {x : α} {F : Addr → Prop} (h : SlAt w sz enc a n l) (hx : l[i]? = some x)
    (hF : ∀ q, (∀ j v, (enc x)[j]? = some v → w.cell? (q.add j) = some v) → F q) : ixA a n (i : Int) sz F := by
  obtain ⟨ad, ha, hc⟩ := h.2 i x hx
  have hl := (List.getElem?_eq_some_iff.1 hx).1
  exact ⟨ad, ha, by omega, by rw [h.1]; omega, hF _ (by simpa using hc)⟩

/-! ### slices of one's own -/
def Row {α : Type} (w : World) (base : Nat) (T sz : Nat) (enc : α → List Value) (a : Option Addr) (n c : Nat) (l : List α) : Prop :=
  n = l.length ∧ w.ownsRow base T sz (.slice a n c) n (l.flatMap enc)

theorem flatMap_get {α : Type} {enc : α → List Value} {sz : Nat} (hs : ∀ x, (enc x).length = sz) : ∀ (l : List α) (i j : Nat) (x : α), l[i]? = some x → j < sz → (l.flatMap enc)[i * sz + j]? = (enc x)[j]?
  | [], i, j, x, h, _ => by simp at h
  | y :: r, 0, j, x, h, hj => by
    simp at h; subst h
    rw [List.flatMap_cons, Nat.zero_mul, Nat.zero_add, List.getElem?_append_left (by rw [hs]; exact hj)]
  | y :: r, i + 1, j, x, h, hj => by
    rw [List.flatMap_cons, List.getElem?_append_right (by rw [hs, Nat.add_mul]; omega), hs]
    rw [show (i + 1) * sz + j - sz = i * sz + j by rw [Nat.add_mul]; omega]
    exact flatMap_get hs r i j x (by simpa using h) hj

theorem Row.sl {α : Type} {w : World} {base T sz : Nat} {enc : α → List Value} {a : Option Addr} {n c : Nat} {l : List α} (h : Row w base T sz enc a n c l) (hs : ∀ x, (enc x).length = sz) : SlAt w sz enc a n l := by
  obtain ⟨hn, hl, ho⟩ := h
  refine ⟨hn, fun i x hx => ?_⟩
  have hil := (List.getElem?_eq_some_iff.1 hx).1
  rcases ho with ⟨_, h0⟩ | ⟨g, cap, cur, hv, _, hh, _, _, hc, ht⟩
  · omega
  · simp only [Value.slice.injEq] at hv
    refine ⟨_, hv.1, fun j v hv' => ?_⟩
    have hj : j < sz := by rw [← hs x]; exact (List.getElem?_eq_some_iff.1 hv').1
    have e : ((⟨g, 0, none⟩ : Addr).add (i * sz)).add j = ⟨g, i * sz + j, none⟩ := by
      simp only [Addr.add]
      by_cases h1 : i * sz = 0 <;> by_cases h2 : j = 0 <;> simp [h1, h2]
    rw [e, cell_at hh]
    have hg := flatMap_get hs l i j x hx hj
    rw [← ht, hv', List.getElem?_take] at hg
    split at hg
    · rw [← Array.getElem?_toList]; exact hg
    · cases hg

theorem Row.keep {α : Type} {w w' : World} {base T sz : Nat} {enc : α → List Value} {a : Option Addr} {n c : Nat} {l : List α} {S : List Nat} (h : Row w base T sz enc a n c l) (hm : Mod S w w') (hS : ∀ ad, a = some ad → ad.block ∉ S) : Row w' base T sz enc a n c l := by
  obtain ⟨hn, hl, ho⟩ := h
  refine ⟨hn, hl, ?_⟩
  rcases ho with ho | ⟨g, cap, cur, hv, hb, hh, r⟩
  · exact .inl ho
  · refine .inr ⟨g, cap, cur, hv, hb, hm.keep hh ?_, r⟩
    simp only [Value.slice.injEq] at hv
    exact hS _ hv.1
theorem Row.keep0 {α : Type} {w w' : World} {base T sz : Nat} {enc : α → List Value} {a : Option Addr} {n c : Nat} {l : List α} (h : Row w base T sz enc a n c l) (hm : Mod [] w w') : Row w' base T sz enc a n c l := h.keep hm (by simp)
theorem Row.base {α : Type} {w : World} {base T sz : Nat} {enc : α → List Value} {a : Option Addr} {n c : Nat} {l : List α} (h : Row w base T sz enc a n c l) : ∀ ad, a = some ad → base ≤ ad.block := by
  intro ad ha
  obtain ⟨hn, hl, ho⟩ := h
  rcases ho with ⟨ho, _⟩ | ⟨g, cap, cur, hv, hb, hh, r⟩
  · simp only [Value.slice.injEq] at ho; rw [ho.1] at ha; cases ha
  · simp only [Value.slice.injEq] at hv; rw [hv.1] at ha; cases ha; exact hb
theorem Row.nil {α : Type} (w : World) (base T sz : Nat) (enc : α → List Value) : Row w base T sz enc none 0 0 [] := ⟨rfl, by simp, .inl ⟨rfl, rfl⟩⟩

/-- 'append(s, x)': the new block holds x's cells. -/
theorem append_of {α : Type} {P : Program} {w : World} {base T S sz bytes : Nat} {enc : α → List Value} {a : Option Addr} {n c : Nat} {l : List α} {i : TypeInfo} {z : Value} {ty : TypeId} {F : Option Addr → Nat → Nat → World → Prop}
    (h : Row w base T sz enc a n c l) (ht : P.underlying S = some (.slice T)) (hi : P.info? T = some i) (hz : i.zero = some z) (hsize : i.size = sz) (hby : i.bytes = bytes) (hzs : z.cells.size = sz) (hsz : 0 < sz)
    {b : Nat} {x : α} {T' : TypeId} (hb : w.heap[b]? = some (.cells (enc x).toArray T')) (hx : (enc x).length = sz) (hone : ∀ u ∈ enc x, u.oneCell' = true) (hlen : (l.length + 1) * bytes ≤ 140737488355328) (hl2 : l.length + 1 ≤ maxLen) (hbase : base ≤ w.heap.size)
    (hF : ∀ a' c' w', Row w' base T sz enc a' (n + 1) c' (l ++ [x]) → (∀ X, (∀ ad, a = some ad → ad.block ∈ X) → Mod X w w') → F a' (n + 1) c' w') :
    effSl P (Builtin.append_ #[S, S] ty #[.slice a n c, .slice (some ⟨b, 0, none⟩) 1 1]) w F := by
  obtain ⟨hn, ho⟩ := h
  obtain ⟨v', w', h1, h2, h3, _⟩ := run_append_own w base S ty T i z sz bytes ht hi hz hsize hby hzs hsz (.slice a n c) n (l.flatMap enc) ho ⟨b, 0, none⟩ 1 1 (enc x) (by rw [hx]; omega)
    (fun j u hu => by
      have e : (⟨b, 0, none⟩ : Addr).add j = ⟨b, j, none⟩ := by
        simp only [Addr.add]; split
        · rename_i h0; subst h0; rfl
        · simp
      rw [e, cell_at hb]; simpa using hu) hone (by rw [hn]; exact hl2) (by rw [hn]; exact hlen) hbase
  have hv : ∃ a' c', v' = .slice a' (n + 1) c' := by
    rcases h2.2 with ⟨e1, e2⟩ | ⟨g, cap, cur, e1, _⟩
    · exact ⟨none, 0, by rw [e1]; omega⟩
    · exact ⟨_, _, e1⟩
  obtain ⟨a', c', rfl⟩ := hv
  refine ⟨a', n + 1, c', w', h1, hF a' c' w' ⟨by simp [hn], by simpa using h2⟩ fun X hX => ⟨h3.os, h3.tape, h3.output, h3.size, fun k hk hkX => h3.block k hk fun e => hkX ?_⟩⟩
  cases a with
  | none => simp [Value.ownBlock] at e
  | some ad => simp [Value.ownBlock] at e; subst e; exact hX ad rfl

/-! ### wraps -/
theorem wrap_id {x : Int} (h1 : -9223372036854775808 ≤ x) (h2 : x ≤ 9223372036854775807) : IntKind.wrap .i64 x = x := by
  rw [IntKind.wrap_i64]; omega

end Go.Proofs.Ytohgihgddknmmaa
