/- More small laws for the words of 'den3' (for seats that do not import the texts of layer 17). -/
import Derived.Test.YtohgihgddknmmaaWd
import Derived.Lib.Strings
namespace Go.Proofs.Ytohgihgddknmmaa
open Go Go.RowKit
set_option linter.unusedVariables false
set_option linter.unusedSimpArgs false

theorem go_of {P : Program} {f : FuncId} {args : Array Value} {w : World} {X : Value} {S : World → Prop} (h : Calls P f args w fun e w' => ∃ v, e = .returned v ∧ (v = X ∧ S w')) : Calls P f args w fun e w' => e = .returned X ∧ S w' :=
  h.mono fun e w' ⟨v, h1, h2, h3⟩ => ⟨by rw [h1, h2], h3⟩
/-- .. where what comes is said by a relation. -/
theorem go_ex {P : Program} {f : FuncId} {args : Array Value} {w : World} {S : Value → World → Prop} (h : Calls P f args w fun e w' => ∃ v, e = .returned v ∧ S v w') : Calls P f args w fun e w' => ∃ v, e = .returned v ∧ S v w' := h
theorem pkB_of {t : Bool} {A B : Prop} (h1 : t = true → A) (h2 : t = false → B) : pkB t A B := by cases t; exact h2 rfl; exact h1 rfl
theorem brT {A B : Prop} {t : Bool} (h : t = true) (hA : A) : brB t A B := by subst h; exact hA
theorem brF {A B : Prop} {t : Bool} (h : t = false) (hB : B) : brB t A B := by subst h; exact hB
theorem add_add (a : Addr) (i j : Nat) : (a.add i).add j = a.add (i + j) := by
  unfold Addr.add
  cases i <;> cases j <;> simp [Nat.add_assoc] <;> omega
theorem Row.fresh {α : Type} {w : World} {base T sz b : Nat} {enc : α → List Value} (h : w.heap[b]? = some (.cells #[] T)) (hb : base ≤ b) : Row w base T sz enc (some ⟨b, 0, none⟩) 0 0 [] :=
  ⟨rfl, by simp, .inr ⟨b, 0, #[], rfl, hb, h, by simp, by simp, by simp, by simp⟩⟩
theorem Row.block {α : Type} {w : World} {base T sz : Nat} {enc : α → List Value} {a : Option Addr} {n c : Nat} {l : List α} (h : Row w base T sz enc a n c l) : ∀ ad, a = some ad → base ≤ ad.block ∧ ∃ cur, w.heap[ad.block]? = some (.cells cur T) := by
  intro ad ha
  obtain ⟨hn, hl, ho⟩ := h
  rcases ho with ⟨ho, _⟩ | ⟨g, cap, cur, hv, hb, hh, r⟩
  · simp only [Value.slice.injEq] at ho; rw [ho.1] at ha; cases ha
  · simp only [Value.slice.injEq] at hv; rw [hv.1] at ha; cases ha; exact ⟨hb, _, hh⟩
/-- Two texts are the same. -/
theorem toList_inj {a b : ByteArray} : a.toList = b.toList ↔ a = b := by
  constructor
  · intro e
    rw [Lib.toList_data, Lib.toList_data] at e
    rw [← Lib.mk_data a, ← Lib.mk_data b, e]
  · rintro rfl; rfl
theorem strEq (a b : ByteArray) : (a.toList == b.toList) = decide (a = b) := by
  by_cases h : a = b
  · subst h; simp
  · rw [decide_eq_false h, Bool.eq_false_iff]
    intro e
    exact h (toList_inj.1 (eq_of_beq e))
theorem size0 (a : ByteArray) : a = ⟨#[]⟩ ↔ a.size = 0 := by
  constructor
  · rintro rfl; rfl
  · intro h
    obtain ⟨d⟩ := a
    have : d = #[] := Array.eq_empty_of_size_eq_zero h
    rw [this]
theorem flatMap_len {α : Type} {enc : α → List Value} {sz : Nat} (hs : ∀ x, (enc x).length = sz) : ∀ l : List α, (l.flatMap enc).length = l.length * sz
  | [] => by simp
  | x :: r => by rw [List.flatMap_cons, List.length_append, hs, flatMap_len hs r, List.length_cons, Nat.succ_mul]; omega
theorem SlAt.flat {α : Type} {w : World} {sz : Nat} {enc : α → List Value} {ad : Addr} {n : Nat} {l : List α} (h : SlAt w sz enc (some ad) n l) (hs : ∀ x, (enc x).length = sz) : ∀ j u, (l.flatMap enc)[j]? = some u → w.cell? (ad.add j) = some u := by
  intro j u hu
  have hj := (List.getElem?_eq_some_iff.1 hu).1
  rw [flatMap_len hs] at hj
  have hsz : 0 < sz := Nat.pos_of_ne_zero fun e => by subst e; simp at hj
  have hi : j / sz < l.length := Nat.div_lt_of_lt_mul (by rwa [Nat.mul_comm])
  have hx : l[j / sz]? = some l[j / sz] := List.getElem?_eq_getElem hi
  have e : j / sz * sz + j % sz = j := by rw [Nat.mul_comm]; exact Nat.div_add_mod j sz
  have hm := flatMap_get hs l (j / sz) (j % sz) _ hx (Nat.mod_lt _ hsz)
  rw [e] at hm
  obtain ⟨ad', ha, hc⟩ := h.2 _ _ hx
  cases ha
  have := hc (j % sz) u (hm.symm.trans hu)
  rwa [add_add, e] at this
theorem append_none {P : Program} (w : World) (base : Nat) (t ty e : TypeId) (i : TypeInfo) (size : Nat) (ht : P.underlying t = some (.slice e)) (hi : P.info? e = some i)
    (v : Value) (n : Nat) (xs : List Value) (hown : w.ownsRow base e size v n xs) (c : Nat) :
    (Builtin.append_ #[t, t] ty #[v, .slice none 0 c]).run P w = .ok v w := by
  rcases hown.2 with ⟨rfl, rfl⟩ | ⟨g, cap, cur, rfl, _, _, hnc, _⟩
  · simp [Builtin.append_, run_underlying ht, sizeOf, typeInfo, hi, Builtin.lenOf, Builtin.firstCells]
  · simp [Builtin.append_, run_underlying ht, sizeOf, typeInfo, hi, Builtin.lenOf, Builtin.firstCells, hnc, storeCells]
/-- 'append(s, t...)' -/
theorem appendAll_of {α : Type} {P : Program} {w : World} {base T S sz bytes : Nat} {enc : α → List Value} {a : Option Addr} {n c : Nat} {l : List α} {i : TypeInfo} {z : Value} {ty : TypeId} {F : Option Addr → Nat → Nat → World → Prop}
    (h : Row w base T sz enc a n c l) (ht : P.underlying S = some (.slice T)) (hi : P.info? T = some i) (hz : i.zero = some z) (hsize : i.size = sz) (hby : i.bytes = bytes) (hzs : z.cells.size = sz) (hsz : 0 < sz)
    {a2 : Option Addr} {n2 c2 : Nat} {l2 : List α} (h2 : SlAt w sz enc a2 n2 l2) (hx : ∀ x, (enc x).length = sz) (hone : ∀ x, ∀ u ∈ enc x, u.oneCell' = true) (hlen : (l.length + l2.length) * bytes ≤ 140737488355328) (hl2 : l.length + l2.length ≤ maxLen) (hbase : base ≤ w.heap.size)
    (hF : ∀ a' n' c' w', Row w' base T sz enc a' n' c' (l ++ l2) → (∀ X, (∀ ad, a = some ad → ad.block ∈ X) → Mod X w w') → F a' n' c' w') :
    effSl P (Builtin.append_ #[S, S] ty #[.slice a n c, .slice a2 n2 c2]) w F := by
  have h0 := h
  obtain ⟨hn, ho⟩ := h
  cases a2 with
  | none =>
    have hl0 : l2 = [] := by
      cases l2 with
      | nil => rfl
      | cons x r => obtain ⟨ad, ha, _⟩ := h2.2 0 x rfl; cases ha
    subst hl0
    have hn2 : n2 = 0 := h2.1
    subst hn2
    exact ⟨a, n, c, w, append_none w base S ty T i sz ht hi _ n _ ho c2, hF a n c w (by simpa using h0) fun X _ => (Mod.refl w).less (by simp)⟩
  | some ad =>
  obtain ⟨v', w', h1, h3, h4, _⟩ := run_append_own w base S ty T i z sz bytes ht hi hz hsize hby hzs hsz (.slice a n c) n (l.flatMap enc) ho ad n2 c2 (l2.flatMap enc) (by rw [flatMap_len hx, h2.1])
    (h2.flat hx) (fun u hu => by obtain ⟨x, _, hx'⟩ := List.mem_flatMap.1 hu; exact hone x u hx') (by rw [hn, h2.1]; exact hl2) (by rw [hn, h2.1]; exact hlen) hbase
  have hv : ∃ a' c', v' = .slice a' (n + n2) c' := by
    rcases h3.2 with ⟨e1, e2⟩ | ⟨g, cap, cur, e1, _⟩
    · have h5 := h3.1
      rw [e2] at h5
      have h6 : n + n2 = 0 := by
        rcases Nat.eq_zero_or_pos (n + n2) with h | h
        · exact h
        · have := Nat.mul_pos h hsz; simp at h5; omega
      exact ⟨none, 0, by rw [e1, h6]⟩
    · exact ⟨_, _, e1⟩
  obtain ⟨a', c', rfl⟩ := hv
  refine ⟨a', n + n2, c', w', h1, hF a' _ c' w' ⟨by simp [hn, h2.1], by simpa using h3⟩ fun X hX => ⟨h4.os, h4.tape, h4.output, h4.size, fun k hk hkX => h4.block k hk fun e => hkX ?_⟩⟩
  cases a with
  | none => simp [Value.ownBlock] at e
  | some ad => simp [Value.ownBlock] at e; subst e; exact hX ad rfl
end Go.Proofs.Ytohgihgddknmmaa
