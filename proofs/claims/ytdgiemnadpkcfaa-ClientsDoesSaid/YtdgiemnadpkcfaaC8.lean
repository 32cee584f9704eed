/- The table of clients: New, Ask, Begin, Done. -/
import Derived.Test.YtdgiemnadpkcfaaC7
import Derived.Test.YtdgiemnadpkcfaaGenC3
import Derived.Maps.Keyed
namespace Go.Proofs.Ytdgiemnadpkcfaa
open Go Go.RowKit Go.Maps Go.MapKept
set_option linter.unusedVariables false
set_option linter.unusedSimpArgs false

structure PLast where
  c : Int
  n : Int
  done : Bool
  r : PRep
  deriving DecidableEq
/-- A row as the map holds it: where its reply's lists lie. -/
structure LV where
  x : PLast
  f : Sl
  p : Sl
def LV.v (q : LV) : Value := .agg #[.int .i64 q.x.c, .int .i64 q.x.n, .bool q.x.done, .int .i64 q.x.r.e, .int .i64 q.x.r.off, .int .i64 q.x.r.n, .int .i64 q.x.r.gen, .slice q.f.a q.f.n q.f.c, .slice q.p.a q.p.n q.p.c]
def rep0 : PRep := ⟨0, 0, 0, 0, [], []⟩
def sl0 : Sl := ⟨none, 0, 0⟩
def lv0 : LV := ⟨⟨0, 0, false, rep0⟩, sl0, sl0⟩
abbrev ki : Int → Value := fun k => .int .i64 k
theorem ki_inj : ∀ a b : Int, ki a = ki b → a = b := by intro a b h; simpa [ki] using h
theorem keyI : Keyed Try.prog 3 := int_keyed Try.underlying3
def i64B (n : Int) : Prop := -9223372036854775808 ≤ n ∧ n ≤ 9223372036854775807
theorem wf64 {n : Int} (h : i64B n) : (Lit.int .i64 n).wf = true := by
  simp [Lit.wf, IntKind.min, IntKind.max, IntKind.signed, IntKind.bits]; exact h
theorem keyOf_ki {k : Int} (h : i64B k) : keyOf Try.prog 3 (ki k) = some (.int .i64 k) := keyOf_int_mk Try.underlying3 (wf64 h)
theorem zeroL (w : World) : (zeroValue 29).run Try.prog w = .ok lv0.v w := by kernel_rfl
theorem rep0_own (w : World) (base : Nat) : RepOwn w base rep0 sl0 sl0 := ⟨Row.nil .., Row.nil .., by simp [rep0], by simp [rep0]⟩
theorem rep0_at (w : World) : RepAt w rep0 sl0 sl0 := (rep0_own w 0).at
theorem num1_i64 {n : Int} (h : num1 n = true) : i64B n := by simp [num1] at h; unfold i64B; omega

abbrev Tb := List (Int × PLast)
def absT (L : List (Int × LV)) : Tb := L.map fun q => (q.1, q.2.x)
theorem absT_lkp (L : List (Int × LV)) (k : Int) : lkp (absT L) k = (lkp L k).map (·.x) := by
  induction L with
  | nil => rfl
  | cons q r ih =>
    unfold absT at ih ⊢
    rw [List.map_cons, lkp, lkp, ih]
    split <;> rfl
theorem absT_put (L : List (Int × LV)) (k : Int) (v : LV) : absT (put L k v) = put (absT L) k v.x := by
  induction L with
  | nil => rfl
  | cons q r ih =>
    unfold absT at ih ⊢
    rw [List.map_cons, put, put, ← ih]
    split <;> simp
theorem mem_put {κ β : Type} [DecidableEq κ] : ∀ {L : List (κ × β)} {k : κ} {v : β} {q : κ × β}, q ∈ put L k v → q = (k, v) ∨ q ∈ L
  | [], k, v, q, h => by simp [put] at h; exact .inl h
  | p :: r, k, v, q, h => by
    unfold put at h
    split at h
    · rcases List.mem_cons.1 h with h | h
      · exact .inl h
      · exact .inr (List.mem_cons_of_mem _ h)
    · rcases List.mem_cons.1 h with h | h
      · exact .inr (by simp [h])
      · rcases mem_put h with h | h
        · exact .inl h
        · exact .inr (List.mem_cons_of_mem _ h)

theorem setBlock_mod {w : World} {b : Nat} {o : Obj} : Mod [b] w (Go.ChangeMaps.setBlock w b o) :=
  ⟨rfl, rfl, rfl, by simp [Go.ChangeMaps.setBlock], fun k hk hS => setBlock_other (by simpa using hS)⟩
structure TabL (w : World) (base b m : Nat) (L : List (Int × LV)) : Prop where
  cells : w.heap[b]? = some (.cells #[.map (some m)] 68)
  map : MapAt Try.prog 3 ki LV.v w m L
  own : ∀ q ∈ L, q.2.x.c = q.1 ∧ RepOwn w base q.2.x.r q.2.f q.2.p
theorem TabL.keep0 {w w' : World} {base b m : Nat} {L : List (Int × LV)} (h : TabL w base b m L) (M : Mod [] w w') : TabL w' base b m L :=
  ⟨M.keep0 h.cells, h.map.of_block (M.block m h.map.lt (by simp)), fun q hq => ⟨(h.own q hq).1, (h.own q hq).2.keep0 M⟩⟩
theorem TabL.ne {w : World} {base b m : Nat} {L : List (Int × LV)} (h : TabL w base b m L) : b ≠ m := by
  rintro rfl
  obtain ⟨es, cl, hb, _⟩ := h.map
  rw [h.cells] at hb; cases hb
theorem RepOwn.keep {S : List Nat} {w w' : World} {base : Nat} {r : PRep} {f p : Sl} (h : RepOwn w base r f p) (M : Mod S w w') (hS : ∀ k ∈ S, ∀ cs T, w.heap[k]? = some (.cells cs T) → T ≠ 62 ∧ T ≠ 58) : RepOwn w' base r f p :=
  ⟨h.found.keep M fun ad ha hk => by obtain ⟨_, cur, hc⟩ := h.found.block ad ha; exact (hS _ hk _ _ hc).1 rfl,
   h.parts.keep M fun ad ha hk => by obtain ⟨_, cur, hc⟩ := h.parts.block ad ha; exact (hS _ hk _ _ hc).2 rfl, h.lf, h.lp⟩
def TabAt (w : World) (base b m : Nat) (T : Tb) : Prop := ∃ L, TabL w base b m L ∧ absT L = T
theorem TabAt.keep0 {w w' : World} {base b m : Nat} {T : Tb} (h : TabAt w base b m T) (M : Mod [] w w') : TabAt w' base b m T := by
  obtain ⟨L, h, rfl⟩ := h; exact ⟨L, h.keep0 M, rfl⟩
/-- 't.l[client] = x' -/
theorem TabL.update {w : World} {base b m : Nat} {L : List (Int × LV)} (h : TabL w base b m L) {q : LV} (hq : RepOwn w base q.x.r q.f q.p) (hc : i64B q.x.c) :
    ∃ w', (Instr.mapUpdate 66 (.map (some m)) (ki q.x.c) q.v).run Try.prog w = .ok () w' ∧ TabL w' base b m (put L q.x.c q) ∧ Mod [m] w w' := by
  obtain ⟨o, hr, hm⟩ := h.map.update keyI ki_inj Try.underlying66 q (keyOf_ki hc)
  have hM := setBlock_mod (w := w) (b := m) (o := o)
  have hk : ∀ {r f p}, RepOwn w base r f p → RepOwn (Go.ChangeMaps.setBlock w m o) base r f p := fun hR => hR.keep hM fun k hk cs T hb => by
    simp at hk; subst hk
    obtain ⟨es, cl, hb', _⟩ := h.map
    rw [hb'] at hb; cases hb
  refine ⟨_, hr, ⟨hM.keep h.cells (by simpa using h.ne), hm, fun p hp => ?_⟩, hM⟩
  rcases mem_put hp with rfl | hp
  · exact ⟨rfl, hk hq⟩
  · exact ⟨(h.own p hp).1, hk (h.own p hp).2⟩

theorem New_ok (w : World) : Calls Try.prog 15 #[] w fun e w' => ∃ v, e = .returned v ∧ ∃ b m, v = .pointer (some ⟨b, 0, none⟩) ∧ TabL w' w.heap.size b m [] ∧ Mod [] w w' ∧ w.heap.size ≤ b ∧ w.heap.size ≤ m := by
  refine clients_New_go ?_
  refine al_of fun m w1 c1 M1 f1 => ?_
  intro b f2 w2 A2 hb
  have s1 := M1.size
  exact ⟨b, m, rfl, ⟨hb, MapAt.of_new (A2.mod.keep0 c1), by simp⟩, M1.go0 A2.mod (by simp), by omega, f1⟩

def askS (T : Tb) (c n : Int) : Int × PRep × Int :=
  if (num1 c && num1 n) = false then (0, rep0, 1) else match lkp T c with
    | none => (0, rep0, 0)
    | some x => if n > x.n then (0, rep0, 0) else if n < x.n then (0, rep0, 150) else if x.done then (1, x.r, 0) else (2, rep0, 0)
theorem Ask_ok {w : World} {base b m : Nat} {T : Tb} {c n : Int} (h : TabAt w base b m T) :
    Calls Try.prog 16 #[.pointer (some ⟨b, 0, none⟩), .int .i64 c, .int .i64 n] w fun e w' => ∃ v, e = .returned v ∧
      ∃ f p, v = .tuple #[.int .i64 (askS T c n).1, (askS T c n).2.1.v f p, .int .i64 (askS T c n).2.2] ∧ RepOwn w' w.heap.size (askS T c n).2.1 f p ∧ Mod [] w w' := by
  obtain ⟨L, h, rfl⟩ := h
  refine clients_Table_Ask_go h.cells ?_
  intro b1 f1 w1 A1
  have hb1 := A1.lt b1 (by simp)
  have fin : ∀ {k : Int × Int} {w' : World}, askS (absT L) c n = (k.1, rep0, k.2) → Mod [] w w' → ∃ f p, Value.tuple #[.int .i64 k.1, .agg #[.int .i64 0, .int .i64 0, .int .i64 0, .int .i64 0, .slice none 0 0, .slice none 0 0], .int .i64 k.2] = .tuple #[.int .i64 (askS (absT L) c n).1, (askS (absT L) c n).2.1.v f p, .int .i64 (askS (absT L) c n).2.2] ∧ RepOwn w' w.heap.size (askS (absT L) c n).2.1 f p ∧ Mod [] w w' := fun {k} {w'} e M => by
    rw [e]; exact ⟨sl0, sl0, rfl, rep0_own _ _, M⟩
  refine (number15_ok c w1).mono ?_
  rintro e w2 ⟨rfl, rfl⟩
  refine ⟨_, rfl, Keep.of0 (Mod.refl _), brB_of (fun g1 => ?_) fun g1 => ?_⟩
  · intro w3 A3 _
    exact fin (k := (0, 1)) (by rw [askS, notT g1]; simp) (A1.mod.go0 A3.mod (by simpa using f1))
  have g1 := notF g1
  refine (number15_ok n w2).mono ?_
  rintro e w3 ⟨rfl, rfl⟩
  refine ⟨_, rfl, Keep.of0 (Mod.refl _), brB_of (fun g2 => ?_) fun g2 => ?_⟩
  · intro w4 A4 _
    exact fin (k := (0, 1)) (by rw [askS, notT g2]; simp) (A1.mod.go0 A4.mod (by simpa using f1))
  have g2 := notF g2
  have hs : askS (absT L) c n = match lkp (absT L) c with
    | none => (0, rep0, 0)
    | some x => if n > x.n then (0, rep0, 0) else if n < x.n then (0, rep0, 150) else if x.done then (1, x.r, 0) else (2, rep0, 0) := by
    rw [askS, if_neg (by rw [g1, g2]; decide)]
  rw [absT_lkp] at hs
  have look := fun w' (hm : Mod [] w3 w') => ((h.keep0 A1.mod).keep0 hm).map.look true keyI ki_inj Try.underlying66 (zeroL w') (keyOf_ki (num1_i64 g1))
  cases hl : lkp L c with
  | none =>
    rw [hl] at hs look
    refine ⟨_, _, _, _, _, _, _, _, _, _, _, _, _, false, fun w' hm => look w' hm, ?_⟩
    intro b4 f4
    refine brT rfl ?_
    intro w5 A5 _
    exact fin (k := (0, 0)) hs (A1.mod.go0 A5.mod (by simpa using f1))
  | some q =>
    rw [hl] at hs look
    simp only [Option.map_some] at hs
    refine ⟨_, _, _, _, _, _, _, _, _, _, _, _, _, true, fun w' hm => look w' hm, ?_⟩
    intro b4 f4
    refine brF rfl ?_
    refine brB_dec (fun g3 => ?_) fun g3 => ?_
    · intro w5 A5 _
      exact fin (k := (0, 0)) (by rw [hs, if_pos g3]) (A1.mod.go0 A5.mod (by simpa using f1))
    rw [if_neg g3] at hs
    refine brB_dec (fun g4 => ?_) fun g4 => ?_
    · intro w5 A5 _
      exact fin (k := (0, 150)) (by rw [hs, if_pos g4]) (A1.mod.go0 A5.mod (by simpa using f1))
    rw [if_neg g4] at hs
    refine brB_of (fun g5 => ?_) fun g5 => ?_
    · have g5 : q.x.done = true := g5
      rw [if_pos g5] at hs
      intro w5 A5
      have hq := ((h.own (c, q) (mem_of_lkp hl)).2.keep0 A1.mod).keep0 A5.mod
      refine (own_ok hq.at).mono ?_
      rintro e w6 ⟨_, rfl, f', p', rfl, hR, M6⟩
      refine ⟨_, _, _, _, _, _, _, _, _, _, rfl, Keep.of0 M6, ?_⟩
      intro w7 A7 _
      rw [hs]
      have s1 := A1.mod.size
      have s5 := A5.mod.size
      refine ⟨f', p', rfl, ?_, ((A1.mod.go0 A5.mod (by simp)).go0 M6 (by simp)).go0 A7.mod (by simpa using f1)⟩
      refine ⟨(hR.found.keep A7.mod fun ad ha hk => ?_).rebase (by omega), (hR.parts.keep A7.mod fun ad ha hk => ?_).rebase (by omega), hR.lf, hR.lp⟩
      · have := hR.found.base ad ha; simp at hk; omega
      · have := hR.parts.base ad ha; simp at hk; omega
    · have g5 : q.x.done = false := g5
      rw [if_neg (by rw [g5]; decide)] at hs
      intro w5 A5 _
      exact fin (k := (2, 0)) hs (A1.mod.go0 A5.mod (by simpa using f1))

def beginE (T : Tb) (c n : Int) : Int :=
  if (askS T c n).2.2 ≠ 0 then (askS T c n).2.2 else if (askS T c n).1 ≠ 0 then 0 else if lkp T c = none ∧ 16 ≤ T.length then 2 else 0
def beginT (T : Tb) (c n : Int) : Tb :=
  if (askS T c n).2.2 ≠ 0 then T else if (askS T c n).1 ≠ 0 then T else if lkp T c = none ∧ 16 ≤ T.length then T else put T c ⟨c, n, false, rep0⟩
theorem ask_num {T : Tb} {c n : Int} (h : (askS T c n).2.2 = 0) : num1 c = true ∧ num1 n = true := by
  by_cases g : (num1 c && num1 n) = false
  · rw [askS, if_pos g] at h; simp at h
  · simpa using g
theorem Begin_ok {w : World} {base b m : Nat} {T : Tb} {c n : Int} (h : TabAt w base b m T) (hb : base ≤ w.heap.size) :
    Calls Try.prog 17 #[.pointer (some ⟨b, 0, none⟩), .int .i64 c, .int .i64 n] w fun e w' => e = .returned (.int .i64 (beginE T c n)) ∧
      (TabAt w' base b m (beginT T c n) ∧ Mod [m] w w') := by
  obtain ⟨L, hL, hT⟩ := h
  refine go_of (clients_Table_Begin_go hL.cells ?_)
  intro w1 A1 hc1
  have h1 := hL.keep0 A1.mod
  refine (Ask_ok (c := c) (n := n) ⟨L, h1, hT⟩).mono ?_
  rintro e w2 ⟨_, rfl, f, p, rfl, _, M2⟩
  have h2 := h1.keep0 M2
  have N2 := A1.mod.go0 M2 (by simp)
  refine ⟨_, _, _, _, _, _, _, _, _, _, _, _, rfl, _, h2.cells, ?_⟩
  intro b3 f3
  have less : ∀ {w'}, Mod [] w w' → Mod [m] w w' := fun M => M.less (by simp)
  refine brB_of (fun g1 => ?_) fun g1 => ?_
  · intro w3 A3 _
    have g : (askS T c n).2.2 ≠ 0 := by simpa using g1
    have M := N2.go0 A3.mod (by simp)
    exact ⟨by rw [beginE, if_pos g], by rw [beginT, if_pos g]; exact ⟨L, hL.keep0 M, hT⟩, less M⟩
  have g1 : (askS T c n).2.2 = 0 := by simpa using g1
  have eE : beginE T c n = if (askS T c n).1 ≠ 0 then 0 else if lkp T c = none ∧ 16 ≤ T.length then 2 else 0 := by rw [beginE, if_neg (by rw [g1]; decide)]
  have eT : beginT T c n = if (askS T c n).1 ≠ 0 then T else if lkp T c = none ∧ 16 ≤ T.length then T else put T c ⟨c, n, false, rep0⟩ := by rw [beginT, if_neg (by rw [g1]; decide)]
  refine brB_of (fun g2 => ?_) fun g2 => ?_
  · intro w3 A3 _
    have g : (askS T c n).1 ≠ 0 := by simpa using g2
    rw [if_pos g] at eE eT
    have M := N2.go0 A3.mod (by simp)
    exact ⟨by rw [eE, g1], by rw [eT]; exact ⟨L, hL.keep0 M, hT⟩, less M⟩
  have g2 : (askS T c n).1 = 0 := by simpa using g2
  rw [if_neg (by rw [g2]; decide)] at eE eT
  obtain ⟨n1, n2⟩ := ask_num g1
  intro w3 A3 _
  have M3 := N2.go0 A3.mod (by simp)
  have h3 := hL.keep0 M3
  have look := fun w' (hm : Mod [] w3 w') => (h3.keep0 hm).map.look true keyI ki_inj Try.underlying66 (zeroL w') (keyOf_ki (num1_i64 n1))
  have fin : ∀ {w'}, Mod [] w3 w' → ¬ (lkp T c = none ∧ 16 ≤ T.length) → effU Try.prog (Instr.mapUpdate 66 (.map (some m)) (.int .i64 c) (.agg #[.int .i64 c, .int .i64 n, .bool false, .int .i64 0, .int .i64 0, .int .i64 0, .int .i64 0, .slice none 0 0, .slice none 0 0])) w' fun w'' =>
      Mod [m] w' w'' ∧ (Value.int .i64 0 = .int .i64 (beginE T c n) ∧ (TabAt w'' base b m (beginT T c n) ∧ Mod [m] w w'')) := fun {w'} M' hg => by
    obtain ⟨w'', hr, hT', hM⟩ := (h3.keep0 M').update (q := ⟨⟨c, n, false, rep0⟩, sl0, sl0⟩) (rep0_own _ _) (num1_i64 n1)
    rw [if_neg hg] at eE eT
    refine ⟨w'', hr, hM, by rw [eE], by rw [eT, ← hT, ← absT_put L c ⟨⟨c, n, false, rep0⟩, sl0, sl0⟩]; exact ⟨_, hT', rfl⟩, ?_⟩
    exact ((M3.trans M').trans hM).less (by simp)
  have keepM : ∀ {x y : World} {bl : List Nat}, (∀ k ∈ bl, k ≠ m) → Mod [m] x y → Keep bl x y := fun hne hM => Keep.of hM fun k hk _ hkm => hne k hk (by simpa using hkm)
  have hbm := hL.ne
  have hml := hL.map.lt
  have s2 := N2.size
  have s3 := M3.size
  have hlk : lkp T c = (lkp L c).map (·.x) := by rw [← hT, absT_lkp]
  have hlen : T.length = L.length := by rw [← hT, absT]; simp
  cases hl : lkp L c with
  | none =>
    rw [hl] at look
    refine ⟨_, _, _, _, _, _, _, _, _, _, _, _, _, false, fun w' hm => look w' hm, ?_⟩
    intro b4 f4
    refine brT rfl ?_
    intro w5 A5 _
    have h5 := h3.keep0 A5.mod
    refine ⟨L.length, fun w' hm => (h5.keep0 hm).map.len Try.underlying66 _, ?_⟩
    refine brB_dec (fun g3 => ?_) fun g3 => ?_
    · rw [if_pos ⟨by rw [hlk, hl]; rfl, by omega⟩] at eE eT
      have M := M3.go0 A5.mod (by simp)
      exact ⟨by rw [eE], by rw [eT]; exact ⟨L, hL.keep0 M, hT⟩, less M⟩
    · obtain ⟨w'', hr, hM, hR⟩ := fin A5.mod (by rintro ⟨_, g⟩; omega)
      exact ⟨w'', hr, keepM (by simp; omega) hM, hR⟩
  | some q =>
    rw [hl] at look
    refine ⟨_, _, _, _, _, _, _, _, _, _, _, _, _, true, fun w' hm => look w' hm, ?_⟩
    intro b4 f4
    refine brF rfl ?_
    intro w5 A5 _
    obtain ⟨w'', hr, hM, hR⟩ := fin A5.mod (by rintro ⟨g, _⟩; rw [hlk, hl] at g; cases g)
    exact ⟨w'', hr, keepM (by simp; omega) hM, hR⟩

def doneE (T : Tb) (c n : Int) : Int :=
  if (num1 c && num1 n) = false then 1 else match lkp T c with
    | none => 151
    | some x => if x.n ≠ n then 150 else 0
def doneT (T : Tb) (c n : Int) (r : PRep) : Tb :=
  if doneE T c n ≠ 0 then T else put T c ⟨c, n, true, r⟩
theorem Done_ok {w : World} {base b m : Nat} {T : Tb} {c n : Int} {r : PRep} {f p : Sl} (h : TabAt w base b m T) (hb : base ≤ w.heap.size) (hci : i64B c) (hr : RepAt w r f p) :
    Calls Try.prog 18 #[.pointer (some ⟨b, 0, none⟩), .int .i64 c, .int .i64 n, r.v f p] w fun e w' => e = .returned (.int .i64 (doneE T c n)) ∧
      (TabAt w' base b m (doneT T c n r) ∧ Mod [m] w w') := by
  obtain ⟨L, hL, hT⟩ := h
  refine go_of (clients_Table_Done_go hL.cells ?_)
  intro b1 f1 w1 A1
  have l1 := A1.lt b1 (by simp)
  have h1 := hL.keep0 A1.mod
  have look := fun w' (hm : Mod [] w1 w') => (h1.keep0 hm).map.look true keyI ki_inj Try.underlying66 (zeroL w') (keyOf_ki hci)
  have hlk : lkp T c = (lkp L c).map (·.x) := by rw [← hT, absT_lkp]
  have bad : ∀ {k : Int} {w'}, doneE T c n = k → k ≠ 0 → Mod [] w w' → (Value.int .i64 k = .int .i64 (doneE T c n) ∧ (TabAt w' base b m (doneT T c n r) ∧ Mod [m] w w')) := fun {k} {w'} e hk M =>
    ⟨by rw [e], by rw [doneT, if_pos (by rw [e]; exact hk)]; exact ⟨L, hL.keep0 M, hT⟩, M.less (by simp)⟩
  have hbm := hL.ne
  have hml := hL.map.lt
  obtain ⟨q, t, hq, look⟩ : ∃ (q : LV) (t : Bool), (match t with | true => lkp L c = some q | false => lkp L c = none) ∧ ∀ w', Mod [] w1 w' → (Instr.lookup 66 (.map (some m)) (ki c) true).run Try.prog w' = .ok (.tuple #[q.v, .bool t]) w' := by
    cases hl : lkp L c with
    | none => rw [hl] at look; exact ⟨lv0, false, rfl, look⟩
    | some q => rw [hl] at look; exact ⟨q, true, rfl, look⟩
  refine ⟨_, _, _, _, _, _, _, _, _, _, _, _, _, t, look, ?_⟩
  intro b2 f2 w2 A2
  have l2 := A2.lt b2 (by simp)
  have N2 := A1.mod.go0 A2.mod (by simp)
  refine (number15_ok c w2).mono ?_
  rintro e w3 ⟨rfl, rfl⟩
  refine ⟨_, rfl, Keep.of0 (Mod.refl _), brB_of (fun g1 => ?_) fun g1 => ?_⟩
  · intro w4 A4 _
    exact bad (by rw [doneE, notT g1]; rfl) (by decide) (N2.go0 A4.mod (by simp))
  have g1 := notF g1
  refine (number15_ok n w3).mono ?_
  rintro e w4 ⟨rfl, rfl⟩
  refine ⟨_, rfl, Keep.of0 (Mod.refl _), brB_of (fun g2 => ?_) fun g2 => ?_⟩
  · intro w5 A5 _
    exact bad (by rw [doneE, notT g2]; simp) (by decide) (N2.go0 A5.mod (by simp))
  have g2 := notF g2
  have eE : doneE T c n = match lkp T c with | none => 151 | some x => if x.n ≠ n then 150 else 0 := by rw [doneE, if_neg (by rw [g1, g2]; decide)]
  refine brB_of (fun g3 => ?_) fun g3 => ?_
  · have g3 := notT g3
    subst g3
    have hq : lkp L c = none := hq
    intro w5 A5 _
    exact bad (by rw [eE, hlk, hq]; rfl) (by decide) (N2.go0 A5.mod (by simp))
  have g3 := notF g3
  subst g3
  have hq : lkp L c = some q := hq
  rw [hlk, hq] at eE
  simp only [Option.map_some] at eE
  refine brB_of (fun g4 => ?_) fun g4 => ?_
  · have g4 : q.x.n ≠ n := by simpa using g4
    intro w5 A5 _
    exact bad (by rw [eE, if_pos g4]) (by decide) (N2.go0 A5.mod (by simp))
  have g4 : q.x.n = n := by simpa using g4
  rw [if_neg (by rw [g4]; simp)] at eE
  have hqc := (hL.own (c, q) (mem_of_lkp hq)).1
  simp only at hqc
  refine (own_ok (hr.keep0 N2)).mono ?_
  rintro e w5 ⟨_, rfl, f', p', rfl, hR, M5⟩
  refine ⟨_, _, _, _, _, _, _, _, _, _, rfl, Keep.of0 M5, ?_⟩
  intro w6 A6
  have s1 := A1.mod.size
  have s2 := N2.size
  have s5 := M5.size
  have s6 := A6.mod.size
  have N6 : Mod [] w w6 := (N2.go0 M5 (by simp)).go0 A6.mod (by simp; omega)
  have hR6 : RepOwn w6 base r f' p' := by
    refine ⟨(hR.found.keep A6.mod fun ad ha hk => ?_).rebase (by omega), (hR.parts.keep A6.mod fun ad ha hk => ?_).rebase (by omega), hR.lf, hR.lp⟩
    · have := hR.found.base ad ha; simp at hk; omega
    · have := hR.parts.base ad ha; simp at hk; omega
  obtain ⟨w7, hrun, hT', hM⟩ := (hL.keep0 N6).update (q := ⟨⟨c, n, true, r⟩, f', p'⟩) hR6 hci
  refine ⟨w7, ?_, Keep.of hM fun k hk _ hkm => ?_, ?_⟩
  · rw [← hrun]
    simp only [LV.v, hqc, g4]
  · simp at hk hkm; omega
  · intro w8 A8 _
    refine ⟨by rw [eE], ?_, ((N6.trans hM).trans A8.mod).less (by simp)⟩
    rw [doneT, if_neg (by rw [eE]; decide), ← hT, ← absT_put L c ⟨⟨c, n, true, r⟩, f', p'⟩]
    exact ⟨_, hT'.keep0 A8.mod, rfl⟩
end Go.Proofs.Ytdgiemnadpkcfaa
