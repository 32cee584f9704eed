/- What an argument that reads as data looks like in memory, for types of numbers, bools, strings, structs and slices of such, to whatever depth. -/
import Derived.Test.YtohgihgddknmmaaLib
import Derived.ProofKit
import Derived.OpenShut
import Derived.ShutString
import Derived.ChangeOld
import Derived.Below
import Derived.Deep.Slices
namespace Go.Proofs.Ytohgihgddknmmaa
open Go Go.RowKit Go.ChangeShapes Go.WideShapes Go.ChangeAt
set_option linter.unusedVariables false
set_option linter.unusedSimpArgs false

def plainD : Option TypeDesc → Bool
  | some (.int _) | some .bool | some .string | some (.slice _) | some (.struct _) => true
  | _ => false

inductive OkT (P : Program) (w : World) : TypeId → List Value → Prop
  | int {t : TypeId} {k : IntKind} {x : Int} (h : P.underlying t = some (.int k)) (hw : (Lit.int k x).wf = true) : OkT P w t [.int k x]
  | bool {t : TypeId} {b : Bool} (h : P.underlying t = some .bool) : OkT P w t [.bool b]
  | string {t : TypeId} {s : ByteArray} (h : P.underlying t = some .string) (hs : s.size ≤ maxLen) : OkT P w t [.string s]
  | nilSlice {t e : TypeId} (h : P.underlying t = some (.slice e)) : OkT P w t [.slice none 0 0]
  | slice {t e : TypeId} {ad : Addr} {len cap : Nat} (rows : Nat → List Value) (h : P.underlying t = some (.slice e)) (hl : len ≤ cap) (hc : cap ≤ maxLen) (h1 : ∀ i, i < len → (rows i).length = P.cellsOf e)
      (h2 : ∀ i, i < len → ∀ j v, (rows i)[j]? = some v → w.cell? ((ad.add (i * P.cellsOf e)).add j) = some v) (h3 : ∀ i, i < len → OkT P w e (rows i)) : OkT P w t [.slice (some ad) len cap]
  | struct {t : TypeId} {fs : Array Field} {cs : List Value} (h : P.underlying t = some (.struct fs)) (hn : cs.length = P.cellsOf t) (hf : ∀ f ∈ fs.toList, OkT P w f.type ((cs.drop f.offset).take (P.cellsOf f.type))) : OkT P w t cs
  | other {t : TypeId} {cs : List Value} (h : plainD (P.underlying t) = false) : OkT P w t cs

theorem mapM_some {α β : Type} {f : α → Option β} : ∀ {l : List α} {r : List β}, l.mapM f = some r → ∀ a ∈ l, ∃ b, f a = some b
  | [], _, _, a, ha => by cases ha
  | x :: l, r, h, a, ha => by
    rw [List.mapM_cons] at h
    simp only [Option.pure_def, Option.bind_eq_bind, Option.bind_eq_some_iff] at h
    obtain ⟨b, hb, r', hr, _⟩ := h
    rcases List.mem_cons.1 ha with rfl | ha
    · exact ⟨b, hb⟩
    · exact mapM_some hr a ha

theorem mapM_get {α β : Type} {f : α → Option β} : ∀ {l : List α} {r : List β}, l.mapM f = some r → ∀ (j : Nat) (b : β), r[j]? = some b → ∃ a, l[j]? = some a ∧ f a = some b
  | [], r, h, j, b, hb => by simp at h; subst h; simp at hb
  | x :: l, r, h, j, b, hb => by
    rw [List.mapM_cons] at h
    simp only [Option.pure_def, Option.bind_eq_bind, Option.bind_eq_some_iff, Option.some.injEq] at h
    obtain ⟨b', hb', r', hr, rfl⟩ := h
    cases j with
    | zero => simp at hb; subst hb; exact ⟨x, rfl, hb'⟩
    | succ j => obtain ⟨a, h1, h2⟩ := mapM_get hr j b (by simpa using hb); exact ⟨a, by simpa using h1, h2⟩
theorem mapM_len {α β : Type} {f : α → Option β} : ∀ {l : List α} {r : List β}, l.mapM f = some r → r.length = l.length
  | [], r, h => by simp at h; subst h; rfl
  | x :: l, r, h => by
    rw [List.mapM_cons] at h
    simp only [Option.pure_def, Option.bind_eq_bind, Option.bind_eq_some_iff, Option.some.injEq] at h
    obtain ⟨b', hb', r', hr, rfl⟩ := h
    simp [mapM_len hr]

theorem cells_len {w : World} {base n : Nat} {a : Addr} {row : List Value} (h : w.cells? base a n = some row) : row.length = n := by
  unfold World.cells? at h
  split at h
  · simpa using mapM_len h
  · cases h
theorem cells_get {w : World} {base n : Nat} {a : Addr} {row : List Value} (h : w.cells? base a n = some row) : ∀ j v, row[j]? = some v → w.cell? (a.add j) = some v := by
  intro j v hv
  unfold World.cells? at h
  split at h
  · obtain ⟨j', h1, h2⟩ := mapM_get h j v hv
    obtain ⟨hj, rfl⟩ : j < n ∧ j = j' := by
      obtain ⟨x, y⟩ := List.getElem?_eq_some_iff.1 h1
      simp at x y; exact ⟨x, y⟩
    exact h2
  · cases h

theorem trod_ok {H : Type} {enc : TypeId × Value → H} {P : Program} {w : World} {base : Nat} {sp : Nat → Bool} {held : Bool} : ∀ {fuel : Nat} {t : TypeId} {cs : List Value} {x : DataW H × List MemPlace}, DataW.trod enc P w base sp held fuel t cs = some x → OkT P w t cs := by
  intro fuel
  induction fuel with
  | zero => intro t cs x h; cases h
  | succ n ih =>
    intro t cs x h
    cases hu : P.underlying t with
    | none => exact .other (by rw [hu]; rfl)
    | some d =>
      cases d with
      | bool =>
          unfold DataW.trod at h
          rw [hu] at h
          split at h <;> simp_all
          exact .bool hu
      | int k =>
          unfold DataW.trod at h
          rw [hu] at h
          split at h <;> simp_all
          obtain ⟨⟨rfl, hw⟩, _⟩ := h
          exact .int hu hw
      | string =>
          unfold DataW.trod at h
          rw [hu] at h
          split at h <;> simp_all
          exact .string hu h.1
      | slice e =>
          rcases Go.Deep.open_slice hu h with ⟨rfl, _⟩ | ⟨a, len, cap, m, n', D, Pl, rfl, hb, hl, hc, hm, _, hel⟩
          · exact .nilSlice hu
          · unfold DataW.trod at h
            rw [hu] at h
            simp only at h
            split at h
            case isFalse => cases h
            rename_i hcond
            simp only [Option.bind_eq_some_iff] at h
            obtain ⟨elems, h1, _⟩ := h
            have key : ∀ i, i < len → ∃ row y, w.cells? base (a.add (i * P.cellsOf e)) (P.cellsOf e) = some row ∧ DataW.trod enc P w base sp held n e row = some y := fun i hi => by
              obtain ⟨y, hy⟩ := mapM_some h1 i (by simpa using hi)
              simp only [Option.bind_eq_some_iff] at hy
              obtain ⟨row, hr1, hr2⟩ := hy
              exact ⟨row, y, hr1, hr2⟩
            classical
            refine .slice (fun i => if hi : i < len then (key i hi).choose else []) hu hl hc (fun i hi => ?_) (fun i hi j v hv => ?_) (fun i hi => ?_)
            · simp only [dif_pos hi]
              obtain ⟨y, hr1, hr2⟩ := (key i hi).choose_spec
              exact cells_len hr1
            · simp only [dif_pos hi] at hv
              obtain ⟨y, hr1, hr2⟩ := (key i hi).choose_spec
              exact cells_get hr1 j v hv
            · simp only [dif_pos hi]
              obtain ⟨y, hr1, hr2⟩ := (key i hi).choose_spec
              exact ih hr2
      | struct fs =>
        unfold DataW.trod at h
        rw [hu] at h
        simp only at h
        split at h
        · rename_i hn
          simp only [Option.map_eq_some_iff] at h
          obtain ⟨xs, h1, _⟩ := h
          refine .struct hu hn fun f hf => ?_
          obtain ⟨y, hy⟩ := mapM_some h1 f hf
          exact ih hy
        · cases h
      | _ => exact .other (by rw [hu]; rfl)

theorem OkT.int_inv {P : Program} {w : World} {t : TypeId} {k : IntKind} {cs : List Value} (h : OkT P w t cs) (hu : P.underlying t = some (.int k)) : ∃ x, cs = [.int k x] ∧ (Lit.int k x).wf = true := by
  cases h <;> simp_all [plainD]
theorem OkT.bool_inv {P : Program} {w : World} {t : TypeId} {cs : List Value} (h : OkT P w t cs) (hu : P.underlying t = some .bool) : ∃ b, cs = [.bool b] := by
  cases h <;> simp_all [plainD]
theorem OkT.string_inv {P : Program} {w : World} {t : TypeId} {cs : List Value} (h : OkT P w t cs) (hu : P.underlying t = some .string) : ∃ s, cs = [.string s] ∧ s.size ≤ maxLen := by
  cases h <;> simp_all [plainD]
theorem OkT.struct_inv {P : Program} {w : World} {t : TypeId} {fs : Array Field} {cs : List Value} (h : OkT P w t cs) (hu : P.underlying t = some (.struct fs)) : cs.length = P.cellsOf t ∧ ∀ f ∈ fs.toList, OkT P w f.type ((cs.drop f.offset).take (P.cellsOf f.type)) := by
  cases h with
  | struct h hn hf => rw [hu] at h; cases h; exact ⟨hn, hf⟩
  | _ => simp_all [plainD]
/-- A slice, by what each of its elements is. -/
theorem OkT.slice_inv {P : Program} {w : World} {t e : TypeId} {cs : List Value} {α : Type} {enc : α → List Value} {good : α → Prop} (h : OkT P w t cs) (hu : P.underlying t = some (.slice e))
    (he : ∀ row, OkT P w e row → row.length = P.cellsOf e → ∃ x, row = enc x ∧ good x) : ∃ a len cap l, cs = [.slice a len cap] ∧ SlAt w (P.cellsOf e) enc a len l ∧ (∀ x ∈ l, good x) ∧ len ≤ cap ∧ cap ≤ maxLen := by
  cases h with
  | nilSlice h => exact ⟨none, 0, 0, [], rfl, ⟨rfl, by simp⟩, by simp, Nat.le_refl _, by decide⟩
  | @slice _ _ ad len cap rows h hl hc h1 h2 h3 =>
    rw [hu] at h; cases h
    have key : ∀ i, i < len → ∃ x, rows i = enc x ∧ good x := fun i hi => he _ (h3 i hi) (h1 i hi)
    classical
    by_cases h0 : len = 0
    · subst h0
      exact ⟨_, _, _, [], rfl, ⟨rfl, by simp⟩, by simp, hl, hc⟩
    have x0 : α := (key 0 (by omega)).choose
    refine ⟨some ad, len, cap, (List.range len).map (fun i => if hi : i < len then (key i hi).choose else x0), rfl, ⟨by simp, fun i x hx => ⟨ad, rfl, fun j v hv => ?_⟩⟩, fun x hx => ?_, hl, hc⟩
    · rw [List.getElem?_map] at hx
      simp only [Option.map_eq_some_iff] at hx
      obtain ⟨i', hi', rfl⟩ := hx
      obtain ⟨hil, rfl⟩ : i < len ∧ i = i' := by
        obtain ⟨a, b⟩ := List.getElem?_eq_some_iff.1 hi'
        simp at a b; exact ⟨a, b⟩
      simp only [dif_pos hil] at hv
      rw [← (key i hil).choose_spec.1] at hv
      exact h2 i hil j v hv
    · simp only [List.mem_map, List.mem_range] at hx
      obtain ⟨i, hi, rfl⟩ := hx
      simp only [dif_pos hi]
      exact (key i hi).choose_spec.2
  | _ => simp_all [plainD]

theorem wf_i64 {n : Int} (h : (Lit.int .i64 n).wf = true) : -9223372036854775808 ≤ n ∧ n ≤ 9223372036854775807 := by
  simp only [Lit.wf, Bool.and_eq_true, decide_eq_true_eq] at h
  exact ⟨h.1, h.2⟩

end Go.Proofs.Ytohgihgddknmmaa
