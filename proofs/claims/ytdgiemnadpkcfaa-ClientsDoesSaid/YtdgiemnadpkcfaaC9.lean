/- The table of clients: List, Load. -/
import Derived.Test.YtdgiemnadpkcfaaC8
import Derived.Test.YtdgiemnadpkcfaaCK
namespace Go.Proofs.Ytdgiemnadpkcfaa
open Go Go.RowKit Go.Maps Go.MapKept
set_option linter.unusedVariables false
set_option linter.unusedSimpArgs false

def LV.cs (q : LV) : List Value := [.int .i64 q.x.c, .int .i64 q.x.n, .bool q.x.done, .int .i64 q.x.r.e, .int .i64 q.x.r.off, .int .i64 q.x.r.n, .int .i64 q.x.r.gen, .slice q.f.a q.f.n q.f.c, .slice q.p.a q.p.n q.p.c]
theorem LV.cs_len (q : LV) : q.cs.length = 9 := rfl
theorem LV.cs_one (q : LV) : ∀ u ∈ q.cs, u.oneCell' = true := by simp [LV.cs, Value.oneCell']
theorem infoL : (Try.prog.info? 29).map (fun i => (i.zero, i.size, i.bytes)) = some (some lv0.v, 9, 104) := by kernel_rfl
/-- Rows that are read; rows of one's own. -/
def RowsAt (w : World) (s : Sl) (xs : List PLast) : Prop := ∃ ll : List LV, SlAt w 9 LV.cs s.a s.n ll ∧ (∀ q ∈ ll, RepAt w q.x.r q.f q.p) ∧ ll.map (·.x) = xs
def RowsOwn (w : World) (base : Nat) (s : Sl) (xs : List PLast) : Prop := ∃ ll : List LV, Row w base 29 9 LV.cs s.a s.n s.c ll ∧ (∀ q ∈ ll, RepOwn w base q.x.r q.f q.p) ∧ ll.map (·.x) = xs
theorem RowsOwn.at {w : World} {base : Nat} {s : Sl} {xs : List PLast} (h : RowsOwn w base s xs) : RowsAt w s xs := by
  obtain ⟨ll, h1, h2, h3⟩ := h; exact ⟨ll, h1.sl LV.cs_len, fun q hq => (h2 q hq).at, h3⟩
theorem RowsAt.keep0 {w w' : World} {s : Sl} {xs : List PLast} (h : RowsAt w s xs) (M : Mod [] w w') : RowsAt w' s xs := by
  obtain ⟨ll, h1, h2, h3⟩ := h; exact ⟨ll, h1.keep0 M, fun q hq => (h2 q hq).keep0 M, h3⟩
theorem RowsOwn.keep0 {w w' : World} {base : Nat} {s : Sl} {xs : List PLast} (h : RowsOwn w base s xs) (M : Mod [] w w') : RowsOwn w' base s xs := by
  obtain ⟨ll, h1, h2, h3⟩ := h; exact ⟨ll, h1.keep0 M, fun q hq => (h2 q hq).keep0 M, h3⟩
theorem RowsOwn.rebase {w : World} {base base' : Nat} {s : Sl} {xs : List PLast} (h : RowsOwn w base s xs) (hb : base' ≤ base) : RowsOwn w base' s xs := by
  obtain ⟨ll, h1, h2, h3⟩ := h; exact ⟨ll, h1.rebase hb, fun q hq => (h2 q hq).rebase hb, h3⟩

theorem MapAt.keyed {P : Program} {t : TypeId} {κ β : Type} {ek : κ → Value} {ev : β → Value} {w : World} {b : Nat} {L : List (κ × β)} (h : MapAt P t ek ev w b L) : ∀ p ∈ L, ∃ l, keyOf P t (ek p.1) = some l := by
  obtain ⟨es, clock, _, _, hk, _⟩ := h; exact hk
def last0 : PLast := ⟨0, 0, false, rep0⟩
def listS (T : Tb) : List PLast := (sortK (T.map (·.1))).map fun k => (lkp T k).getD last0
theorem sortK_mem {l : List Int} {k : Int} : k ∈ sortK l ↔ k ∈ l := by simp [sortK]
theorem List_ok {w : World} {base b m : Nat} {T : Tb} (h : TabAt w base b m T) (hlen : T.length ≤ 1000) :
    Calls Try.prog 13 #[.pointer (some ⟨b, 0, none⟩)] w fun e w' => ∃ v, e = .returned v ∧ ∃ s : Sl, v = s.v ∧ RowsOwn w' w.heap.size s (listS T) ∧ Mod [] w w' := by
  obtain ⟨L, h, rfl⟩ := h
  have hlen : L.length ≤ 1000 := by simpa [absT] using hlen
  have hkeys : (absT L).map (·.1) = L.map (·.1) := by simp [absT]
  refine clients_Table_List_go h.cells ?_
  refine (Keys_ok (some m) w).mono ?_
  rintro e w1 ⟨rfl, rfl⟩
  have M1 : Mod [] w (w.alloc (.cells #[.map (some m)] 66)) := Mod.of_below ((Below.refl _ _).alloc (Nat.le_refl _) _)
  refine ⟨_, rfl, Keep.of0 M1, ?_⟩
  have h1 := h.keep0 M1
  refine (Sorted_ok h1.map (by omega) (by simp) (by simp)).mono ?_
  rintro e w3 ⟨_, rfl, ka, kn, kc, rfl, hK, M3⟩
  have N3 := M1.go0 M3 (by simp)
  have h3 := h.keep0 N3
  refine ⟨_, _, _, rfl, Keep.of0 M3, ?_⟩
  obtain ⟨ks, hks⟩ : ∃ ks, ks = sortK (L.map (·.1)) := ⟨_, rfl⟩
  rw [← hks] at hK
  have hlk : ks.length ≤ 1000 := by rw [hks, sortK, List.length_mergeSort]; simpa using hlen
  have hkn : kn = ks.length := hK.1
  have hsl := hK.sl (fun x => (rfl : [Value.int .i64 x].length = 1))
  have eS : listS (absT L) = ks.map fun k => (lkp (absT L) k).getD last0 := by rw [listS, hkeys, ← hks]
  have s3 := N3.size
  have hb3 := lt_of_block h3.cells
  refine clients_Table_List_rule1 (fun mm a q c x w' => ∃ (k : Nat) (ll : List LV), x = k ∧ k ≤ ks.length ∧ Row w' w3.heap.size 29 9 LV.cs a q c ll ∧ (∀ y ∈ ll, RepOwn w' w3.heap.size y.x.r y.f y.p) ∧ ll.map (·.x) = (ks.take k).map (fun k => (lkp (absT L) k).getD last0) ∧ Mod [] w3 w' ∧ mm = ks.length - k) ks.length
    ⟨0, [], rfl, by omega, Row.nil .., by simp, by simp, Mod.refl _, rfl⟩ ?_
  rintro mm a q c x w4 ⟨k, ll, rfl, hk, hR, hO, hll, M4, rfl⟩
  have s4 := M4.size
  refine brB_dec (fun hlt => ?_) fun hge => ?_
  · have g1 : k < ks.length := by omega
    obtain ⟨y, hy⟩ : ∃ y, ks[k]? = some y := ⟨_, List.getElem?_eq_getElem g1⟩
    have hyl : y ∈ L.map (·.1) := by rw [← sortK_mem, ← hks]; exact List.mem_of_getElem? hy
    obtain ⟨v, hv⟩ : ∃ v, lkp L y = some v := by
      cases hl : lkp L y with
      | none => obtain ⟨p, hp, he⟩ := List.mem_map.1 hyl; exact absurd he (lkp_none.1 hl p hp)
      | some v => exact ⟨v, rfl⟩
    have hvm := mem_of_lkp hv
    obtain ⟨lit, hlit⟩ := h.map.keyed (y, v) hvm
    refine (hsl.keep0 M4).ix hy fun q hq => ldInt_of (x := y) (by simpa [add_zero] using hq 0 _ rfl) ?_
    have look := fun w' (hm : Mod [] w4 w') => ((h3.keep0 M4).keep0 hm).map.look false keyI ki_inj Try.underlying66 (zeroL w') hlit
    simp only [hv] at look
    refine ⟨_, _, _, _, _, _, _, _, _, _, _, _, _, fun w' hm => look w' hm, ?_⟩
    intro b5 f5 w5 A5
    have l5 := A5.lt b5 (by simp)
    have s5 := A5.mod.size
    have N5 := M4.go0 A5.mod (by simp)
    have hrep := ((h3.own (y, v) hvm).2.keep0 N5).at
    refine (own_ok hrep).mono ?_
    rintro e w6 ⟨_, rfl, f', p', rfl, hR6, M6⟩
    have s6 := M6.size
    have N6 := N5.go0 M6 (by simp)
    refine ⟨_, _, _, _, _, _, _, _, _, _, rfl, Keep.of0 M6, ?_⟩
    intro w7 A7
    have s7 := A7.mod.size
    have N7 := N6.go0 A7.mod (by simp; omega)
    have K7 : Mod [] w4 w7 := (A5.mod.go0 M6 (by simp)).go0 A7.mod (by simp; omega)
    have hR7 : RepOwn w7 w3.heap.size v.x.r f' p' := by
      refine ⟨(hR6.found.keep A7.mod fun ad ha hk => ?_).rebase (by omega), (hR6.parts.keep A7.mod fun ad ha hk => ?_).rebase (by omega), hR6.lf, hR6.lp⟩
      · have := hR6.found.base ad ha; simp at hk; omega
      · have := hR6.parts.base ad ha; simp at hk; omega
    refine al_of fun b8 w8 c8 M8 f8 => ?_
    have s8 := M8.size
    have N8 := N7.go0 M8 (by simp)
    have K8 := K7.go0 M8 (by simp)
    have hR8 := hR.keep0 K8
    obtain ⟨i0, hi, hz0, hz1, hz2⟩ := info_parts infoL
    have hlll : ll.length ≤ 1000 := by have := congrArg List.length hll; simp at this; omega
    refine append_of (x := ⟨v.x, f', p'⟩) hR8 Try.underlying22 hi hz0 hz1 hz2 rfl (by decide) c8 rfl (LV.cs_one _) (by omega) (by unfold maxLen; omega) (by omega) fun a' c' w9 hR9 hM9 => ?_
    have M9 := hM9 _ (rowS_ok a)
    have hrow : ∀ k ∈ rowS a, w3.heap.size ≤ k ∧ ∃ cur, w8.heap[k]? = some (.cells cur 29) := by
      cases a with
      | none => simp [rowS]
      | some ad => intro k hk; simp [rowS] at hk; subst hk; exact hR8.block ad rfl
    have kp : ∀ {r f p}, RepOwn w8 w3.heap.size r f p → RepOwn w9 w3.heap.size r f p := fun hh => hh.keep M9 fun k hk cs T hc => by
      obtain ⟨_, cur, hcur⟩ := hrow k hk
      rw [hcur] at hc; cases hc; decide
    refine ⟨Keep.of M9 fun j hj _ hj' => ?_, ?_⟩
    · obtain ⟨h9, cur, hcur⟩ := hrow j hj'
      simp at hj
      rcases hj with rfl | rfl
      · have := lt_of_block h.cells; omega
      · have hsz := hR.block
        cases a with
        | none => simp [rowS] at hj'
        | some ad =>
          simp [rowS] at hj'
          obtain ⟨_, cur4, hc4⟩ := hR.block ad rfl
          have := lt_of_block hc4
          omega
    · refine clients_Table_List_leaf1 (ks.length - (k + 1)) (by omega) ⟨k + 1, ll ++ [⟨v.x, f', p'⟩], by rw [wrap_id (by omega) (by omega)]; omega, by omega, hR9, ?_, ?_, N8.go0 M9 fun i hi => (hrow i hi).1, rfl⟩
      · intro y hy
        rcases List.mem_append.1 hy with hy | hy
        · exact kp ((hO y hy).keep0 K8)
        · simp at hy; subst hy; exact kp (hR7.keep0 M8)
      · rw [List.take_add_one, hy, List.map_append, List.map_append, hll]
        simp [absT_lkp, hv]
  · have hk' : k = ks.length := by omega
    subst hk'
    rw [List.take_length] at hll
    intro w5 A5 _
    have N5 := N3.go0 (M4.go0 A5.mod (by simp)) (by simp)
    refine ⟨⟨a, q, c⟩, rfl, ?_, N5⟩
    exact (RowsOwn.keep0 (s := ⟨a, q, c⟩) ⟨ll, hR, hO, by rw [hll, eS]⟩ A5.mod).rebase s3

/-! ### Load -/
def okRow (prev : Option PLast) (x : PLast) : Bool :=
  num1 x.c && num1 x.n && (match prev with | none => true | some y => decide (y.c < x.c)) && decide (repE x.r = 0) && (x.done || decide (x.r = rep0))
def okRows : Option PLast → List PLast → Bool
  | _, [] => true
  | p, x :: r => okRow p x && okRows (some x) r
def loadE (xs : List PLast) : Int := if xs.length > 16 then 2 else if okRows none xs then 0 else 1
def loadT (xs : List PLast) : Tb := xs.map fun x => (x.c, x)
theorem okRows_at : ∀ {xs : List PLast} {p : Option PLast}, okRows p xs = true ↔ ∀ k x, xs[k]? = some x → okRow (if k = 0 then p else xs[k - 1]?) x = true
  | [], p => by simp [okRows]
  | y :: r, p => by
    rw [okRows, Bool.and_eq_true, okRows_at (xs := r)]
    constructor
    · rintro ⟨h1, h2⟩ k x hx
      cases k with
      | zero => simp at hx; subst hx; simpa using h1
      | succ k =>
        have := h2 k x (by simpa using hx)
        cases k with
        | zero => simpa using this
        | succ k => simpa using this
    · intro h
      refine ⟨by simpa using h 0 y rfl, fun k x hx => ?_⟩
      have := h (k + 1) x (by simpa using hx)
      cases k with
      | zero => simpa using this
      | succ k => simpa using this
/-- A table of rows that rise. -/
theorem put_new {T : Tb} {k : Int} {v : PLast} (h : ∀ q ∈ T, q.1 ≠ k) : put T k v = T ++ [(k, v)] := put_of_none (lkp_none.2 h)
end Go.Proofs.Ytdgiemnadpkcfaa
