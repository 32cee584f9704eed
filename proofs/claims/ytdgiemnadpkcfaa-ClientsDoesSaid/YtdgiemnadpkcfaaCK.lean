/- The keys of a map of ints, sorted. -/
import Derived.Shelf.SlIterI.Nil
import Derived.Shelf.SortM.Plain
import Derived.Shelf.SortM.SortNone
import Derived.Ground.GgzProg
import Derived.Ground.SlgmProg
import Derived.Shelf.Lay
import Derived.Test.YtdgiemnadpkcfaaWd2
import Derived.Test.YtdgiemnadpkcfaaProg
namespace Go.Proofs
open Go.Shelf
shelf_lay_g SlLaysZI.n7 Ggz 7 at Try 32 as Try.keysL
shelf_lay_g SlLaysZI.n6 Ggz 6 at Try 31 as Try.sortedL
shelf_lay_g SlLaysM.n5 Slgm 5 at Try 51 as Try.sortL
end Go.Proofs
namespace Go.Proofs.Ytdgiemnadpkcfaa
open Go Go.RowKit Go.Maps Go.Sort Go.Shelf Go.MapKept Go.WideElems Go.WideShapes
set_option linter.unusedVariables false
set_option linter.unusedSimpArgs false

theorem keyOf_int_inv {P : Program} {t : TypeId} (ht : P.underlying t = some (.int .i64)) {k : Int} {l : Lit} (h : keyOf P t (.int .i64 k) = some l) : l = .int .i64 k ∧ (Lit.int .i64 k).wf = true := by
  simp [keyOf, ht, mapKey] at h
  obtain ⟨h1, h2⟩ := h
  exact ⟨h2.symm, h1⟩
theorem MapAt.owns {P : Program} {t : TypeId} {β : Type} {ev : β → Value} {w : World} {b : Nat} {L : List (Int × β)} (h : MapAt P t (fun k : Int => .int .i64 k) ev w b L) (ht : P.underlying t = some (.int .i64)) (hl : L.length ≤ maxLen) :
    ∃ D : DataW Unit, w.ownsMap P t (fun _ => some (.nil, [])) b L.length D ∧ (intKeys D).Perm (L.map (·.1)) ∧ Maps.size D = L.length := by
  obtain ⟨es, clock, hb, he, hk, hs⟩ := h
  have hlen : es.toList.length = L.length := by simpa using congrArg List.length he
  have hrd : ∀ x ∈ es.toList, ∃ k : Int, x.key = .int .i64 k ∧ (Lit.int .i64 k).wf = true ∧ Go.WideElems.rd (H := Unit) P t (fun _ => some (.nil, [])) x = some (.int .i64 k, .nil) := by
    intro x hx
    have hm : (x.key, x.val) ∈ es.toList.map fun e => (e.key, e.val) := List.mem_map.2 ⟨x, hx, rfl⟩
    rw [he] at hm
    obtain ⟨p, hp, hpe⟩ := List.mem_map.1 hm
    simp only [Prod.mk.injEq] at hpe
    obtain ⟨l, hl⟩ := hk p hp
    obtain ⟨rfl, hw⟩ := keyOf_int_inv ht hl
    refine ⟨p.1, hpe.1.symm, hw, ?_⟩
    unfold Go.WideElems.rd
    rw [← hpe.1, hl]; rfl
  have hmap : (es.toList.map (Go.WideElems.rg (H := Unit) P t (fun _ => some (.nil, [])))).map (fun p => Go.intOf p.1) = L.map (·.1) := by
    have e2 : es.toList.map (fun e => e.key) = L.map (fun p => Value.int .i64 p.1) := by
      have := congrArg (List.map fun q : Value × Value => q.1) he
      simpa [Function.comp_def] using this
    have e3 : es.toList.map (fun e => (match e.key with | .int _ k => k | _ => 0 : Int)) = L.map (·.1) := by
      have := congrArg (List.map fun v : Value => (match v with | .int _ k => k | _ => 0 : Int)) e2
      simpa [Function.comp_def] using this
    rw [← e3, List.map_map]
    apply List.map_congr_left
    intro x hx
    obtain ⟨k, h1, h2, h3⟩ := hrd x hx
    simp only [Function.comp_apply, h1]
    unfold Go.WideElems.rg
    rw [h3]; rfl
  have hlen' : es.size = L.length := by simpa using hlen
  refine ⟨DataW.map ((es.toList.map (Go.WideElems.rg P t (fun _ => some (.nil, [])))).foldr DataW.insert []), ⟨es, clock, hb, ⟨by omega, hs, fun x hx => ?_⟩, by omega, rfl⟩, ?_, ?_⟩
  · obtain ⟨k, h1, h2, h3⟩ := hrd x hx; exact ⟨_, h3⟩
  · rw [← hmap]
    exact (sorted_perm _).map _
  · rw [Maps.size_eq, length_sorted]; simpa using hlen

/-- Keys, sorted. -/
def sortK (l : List Int) : List Int := l.mergeSort fun x y => decide (x ≤ y)
theorem sortK_perm {a b : List Int} (h : a.Perm b) : sortK a = sortK b := by
  have tr : ∀ a b c : Int, decide (a ≤ b) = true → decide (b ≤ c) = true → decide (a ≤ c) = true := by simp; omega
  have to : ∀ a b : Int, (decide (a ≤ b) || decide (b ≤ a)) = true := by simp; omega
  have p1 := List.pairwise_mergeSort tr to a
  have p2 := List.pairwise_mergeSort tr to b
  have hp : (sortK a).Perm (sortK b) := ((List.mergeSort_perm a _).trans h).trans (List.mergeSort_perm b _).symm
  exact hp.eq_of_pairwise (fun x y _ _ h1 h2 => by simp at h1 h2; omega) p1 p2
theorem sorts_ok (n : Nat) : AnyZI.SortsIn Try.prog Try.sortedL_ren Fence.wide n :=
  ⟨fun blk off cap ss W hH hblk hsz => callsIn_wide.2 (AnyM.slices_Sort_int Try.sortL blk off cap ss W hH hblk hsz),
   fun p cap W => callsIn_wide.2 (AnyM.slices_Sort_int_none Try.sortL p cap W)⟩
theorem Keys_ok (mb : Option Nat) (w : World) : Calls Try.prog 32 #[.map mb] w fun e w' =>
    e = .returned (.func (.func 52) #[] #[.pointer (some ⟨w.heap.size, 0, none⟩)]) ∧ w' = w.alloc (.cells #[.map mb] 66) :=
  (callsIn_wide (n := 5)).1 (AnyZI.keys_in Try.keysL Fence.wide 5 trivial rfl mb w)
theorem Sorted_ok {β : Type} {ev : β → Value} {w : World} {b Bm : Nat} {L : List (Int × β)} (h : MapAt Try.prog 3 (fun k : Int => .int .i64 k) ev w b L) (hl : L.length ≤ 1000000) (hB : Bm < w.heap.size) (hm : w.cell? ⟨Bm, 0, none⟩ = some (.map (some b))) :
    Calls Try.prog 31 #[.func (.func 52) #[] #[.pointer (some ⟨Bm, 0, none⟩)]] w fun e w' => ∃ v, e = .returned v ∧
      ∃ (a : Option Addr) (n c : Nat), v = .slice a n c ∧ Row w' w.heap.size 3 1 (fun x : Int => [.int .i64 x]) a n c (sortK (L.map (·.1))) ∧ Mod [] w w' := by
  obtain ⟨D, hown, hperm, hsz⟩ := h.owns Try.underlying3 (by unfold maxLen; omega)
  have hseq : SeqGives Fence.wide 2 Try.prog 52 #[.pointer (some ⟨Bm, 0, none⟩)] encZ (fun ss => ss.Perm (intKeys D)) (Maps.size D) w :=
    AnyZI.keys_gives (ρ := Try.keysL_ren) { Try.keysL with } Fence.wide _ trivial rfl (by omega) Bm b _ D w hB hm hown
  have cS := AnyZI.sorted_in Try.sortedL Fence.wide 5 trivial trivial trivial trivial rfl (by omega) (sorts_ok _) (enters_of Try.func51 (by kernel_rfl) rfl) 52 #[.pointer (some ⟨Bm, 0, none⟩)] trivial (enters_of Try.func52 (by kernel_rfl) rfl) _ _ (by rw [hsz]; unfold maxLen; omega) (by rw [hsz]; omega) _ hseq
  refine ((callsIn_wide (n := 5)).1 cS).mono ?_
  rintro e w' ⟨v, ss, rfl, hS, hrow, hnil, hb⟩
  have hss : sortK ss = sortK (L.map (·.1)) := sortK_perm (hS.trans hperm)
  have hv : ∃ a c, v = .slice a ss.length c := by
    rcases hrow.2 with ⟨h1, h2⟩ | ⟨g, cap, cur, h1, _⟩
    · exact ⟨none, 0, by rw [h1, h2]⟩
    · exact ⟨_, _, h1⟩
  obtain ⟨a, c, rfl⟩ := hv
  refine ⟨_, rfl, a, ss.length, c, rfl, ⟨?_, ?_⟩, Mod.of_below hb⟩
  · rw [← hss, sortK, List.length_mergeSort]
  · rw [← hss]
    have e : (sortK ss).flatMap (fun x : Int => [Value.int .i64 x]) = (sortK ss).map encZ := by rw [List.map_eq_flatMap]
    rw [e]
    exact hrow
end Go.Proofs.Ytdgiemnadpkcfaa
