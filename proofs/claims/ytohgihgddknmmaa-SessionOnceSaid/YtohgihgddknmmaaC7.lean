/- A reply's bytes. -/
import Derived.Test.YtohgihgddknmmaaC6
namespace Go.Proofs.Ytohgihgddknmmaa
open Go Go.RowKit
set_option linter.unusedVariables false
set_option linter.unusedSimpArgs false

theorem Wr.keep {B b v : Nat} {w w' : World} {cs : Array Value} {T : TypeId} (W : Wr B b w w') (h : w.heap[v]? = some (.cells cs T)) (hv : v ≠ b) (hT : T ≠ 5) : w'.heap[v]? = some (.cells cs T) :=
  W.oth v _ h (by simpa using hv) fun c fz e => hT (by cases e; rfl)
theorem Wr.mod {B b : Nat} {w0 w w' : World} (W : Wr B b w w') (M : Mod [] w0 w) (hB : w0.heap.size ≤ B) : Mod [] w0 w' :=
  ⟨W.bel.os.trans M.os, W.bel.tape.trans M.tape, W.bel.output.trans M.output, Nat.le_trans M.size W.bel.size, fun k hk _ => (W.bel.block k (by omega)).trans (M.block k hk (by simp))⟩
def partB (x : PPart) : List UInt8 := putT x.t ++ vPutL x.n.toNat
theorem part_ok {B b v : Nat} {l : List UInt8} {w : World} {x : PPart} (h : Bd B b l w) (hlen : l.length ≤ 1000000000) (hB : B ≤ w.heap.size) (hv : w.heap[v]? = some (.cells #[.string x.t, .int .i64 x.n] 29)) (hvb : v ≠ b) (hs : x.t.size ≤ 1000) (hn : num x.n = true) :
    Calls Try.prog 58 #[.iface 145 (.pointer (some ⟨b, 0, none⟩)), .pointer (some ⟨v, 0, none⟩)] w fun e w' => e = .returned (.tuple #[]) ∧ (Bd B b (l ++ partB x) w' ∧ Wr B b w w') := by
  have hn : 0 ≤ x.n ∧ x.n ≤ 1099511627776 := by simpa [num] using hn
  obtain ⟨n, hn'⟩ := Int.eq_ofNat_of_zero_le hn.1
  refine go_of (request_part_go ?_)
  intro w1 A1
  have h1 := h.keep0 A1.mod
  have v1 := A1.mod.keep0 hv
  have s1 := A1.mod.size
  refine (Wname_ok h1 (by omega) (by omega) (a := ⟨v, 0, none⟩) (s := x.t) (by rw [cell_at v1]; rfl) (by omega)).mono ?_
  rintro e w2 ⟨rfl, h2, W2⟩
  refine ⟨rfl, ?_⟩
  intro w3 A3
  have h3 := h2.keep0 A3.mod
  have v2 := W2.keep v1 hvb (by decide)
  have v3 := A3.mod.keep0 v2
  have s2 := W2.bel.size
  have s3 := A3.mod.size
  have lt := putT_len x.t (by omega)
  refine (Wnum_ok h3 (by simp; omega) (by omega) (a := (⟨v, 0, none⟩ : Addr).add 1) (x := n) (by rw [addr_add, cell_at v3, hn']; rfl) (by omega)).mono ?_
  rintro e w4 ⟨rfl, h4, W4⟩
  refine ⟨rfl, rfl, ?_, ((Wr.of0 A1.mod hB).trans W2).trans ((Wr.of0 A3.mod (by omega)).trans W4)⟩
  rw [partB, hn', Int.toNat_natCast, ← List.append_assoc]
  exact h4

/-! ### the reply's bytes -/
def hdL (r : PRep) : List Nat := [r.e.toNat, r.off.toNat, r.n.toNat, r.gen.toNat, r.found.length]
def foundB (x : PFound) : List UInt8 := vPutL x.off.toNat ++ recB x.r
def rep1 (r : PRep) (k : Nat) : List UInt8 := ((hdL r).take k).flatMap vPutL
def rep2 (r : PRep) (k : Nat) : List UInt8 := (hdL r).flatMap vPutL ++ (r.found.take k).flatMap foundB
def rep3 (r : PRep) (k : Nat) : List UInt8 := (hdL r).flatMap vPutL ++ r.found.flatMap foundB ++ vPutL r.parts.length ++ (r.parts.take k).flatMap partB
def repB (r : PRep) : List UInt8 := rep3 r r.parts.length
theorem take_flat {α β : Type} {f : α → List β} {l : List α} {k : Nat} {x : α} (hx : l[k]? = some x) : (l.take (k + 1)).flatMap f = (l.take k).flatMap f ++ f x := by
  rw [List.take_add_one, hx]; simp
theorem flat_le {α β : Type} {f : α → List β} {c : Nat} : ∀ {l : List α}, (∀ x ∈ l, (f x).length ≤ c) → (l.flatMap f).length ≤ l.length * c
  | [], _ => by simp
  | x :: r, h => by
    have h1 := h x (by simp)
    have h2 := flat_le (l := r) fun y hy => h y (by simp [hy])
    rw [List.flatMap_cons, List.length_append, List.length_cons, Nat.succ_mul]; omega
structure RepGood (r : PRep) : Prop where
  hd : ∀ x ∈ hdL r, x ≤ 1099511627776
  nn : 0 ≤ r.e ∧ 0 ≤ r.off ∧ 0 ≤ r.n ∧ 0 ≤ r.gen
  f : ∀ x ∈ r.found, num x.off = true ∧ recE x.r = 0
  p : ∀ x ∈ r.parts, num x.n = true ∧ nameB x.t = true
  lf : r.found.length ≤ 64
  lp : r.parts.length ≤ 64
theorem RepGood.of {r : PRep} (h : repE r = 0) : RepGood r := by
  unfold repE at h
  split at h
  · omega
  rename_i h1
  split at h
  · omega
  split at h
  · omega
  split at h
  · omega
  rename_i h2 h3 h4
  have h1 := Bool.not_eq_false _ ▸ h1
  simp only [Bool.and_eq_true, List.all_eq_true, ok0] at h1
  simp [badF, badP] at h4
  obtain ⟨⟨⟨⟨⟨a1, a2⟩, a3⟩, a4⟩, hf⟩, hp⟩ := h1
  have nb : ∀ {x : Int}, num x = true → 0 ≤ x ∧ x ≤ 1099511627776 := fun h => by simpa [num] using h
  have a1 := nb a1
  have a2 := nb a2
  have a3 := nb a3
  have a4 := nb a4
  refine ⟨?_, by omega, fun x hx => ⟨hf x hx, h4.1 x hx⟩, fun x hx => ⟨hp x hx, h4.2 x hx⟩, by omega, by omega⟩
  intro x hx
  simp [hdL] at hx
  omega
theorem RepGood.len1 {r : PRep} (h : RepGood r) (k : Nat) : (rep1 r k).length ≤ 50 := by
  have := flat_le (f := vPutL) (c := 10) (l := (hdL r).take k) fun x hx => (vPutL_len x (by have := h.hd x (List.mem_of_mem_take hx); omega)).2
  have e : ((hdL r).take k).length ≤ 5 := by rw [List.length_take]; simp [hdL]; omega
  unfold rep1; omega
theorem RepGood.lenF {r : PRep} (h : RepGood r) {x : PFound} (hx : x ∈ r.found) : (foundB x).length ≤ 610 := by
  obtain ⟨h1, h2⟩ := h.f x hx
  have h3 := recB_len h2
  have h4 : 0 ≤ x.off ∧ x.off ≤ 1099511627776 := by simpa [num] using h1
  have h5 := (vPutL_len x.off.toNat (by omega)).2
  unfold foundB; rw [List.length_append]; omega
theorem RepGood.len2 {r : PRep} (h : RepGood r) (k : Nat) : (rep2 r k).length ≤ 50000 := by
  have h1 := h.len1 5
  have e : rep1 r 5 = (hdL r).flatMap vPutL := by rw [rep1, List.take_of_length_le (by simp [hdL])]
  rw [e] at h1
  have h2 := flat_le (f := foundB) (c := 610) (l := r.found.take k) fun x hx => h.lenF (List.mem_of_mem_take hx)
  have e : (r.found.take k).length ≤ 64 := by have := h.lf; rw [List.length_take]; omega
  unfold rep2; rw [List.length_append]; omega
theorem RepGood.lenP {r : PRep} (h : RepGood r) {x : PPart} (hx : x ∈ r.parts) : (partB x).length ≤ 40 ∧ x.t.size ≤ 16 := by
  obtain ⟨h1, h2⟩ := h.p x hx
  have h4 : 0 ≤ x.n ∧ x.n ≤ 1099511627776 := by simpa [num] using h1
  have h5 := (vPutL_len x.n.toNat (by omega)).2
  have h6 : x.t.size ≤ 16 := by simp [nameB] at h2; omega
  have h7 := putT_len x.t (by omega)
  unfold partB; rw [List.length_append]; omega
theorem RepGood.len3 {r : PRep} (h : RepGood r) (k : Nat) : (rep3 r k).length ≤ 60000 := by
  have h1 := h.len2 r.found.length
  have e : rep2 r r.found.length = (hdL r).flatMap vPutL ++ r.found.flatMap foundB := by rw [rep2, List.take_length]
  rw [e] at h1
  have h2 := flat_le (f := partB) (c := 40) (l := r.parts.take k) fun x hx => (h.lenP (List.mem_of_mem_take hx)).1
  have e : (r.parts.take k).length ≤ 64 := by have := h.lp; rw [List.length_take]; omega
  have h5 := (vPutL_len r.parts.length (by have := h.lp; omega)).2
  unfold rep3; rw [List.length_append, List.length_append]; omega

/-- What 'Reply' hands back. -/
abbrev PostW (r : PRep) (w0 : World) : Value → World → Prop := fun v w' => v = .tuple #[.string (if repE r = 0 then bs (repB r) else bs []), .int .i64 (repE r)] ∧ Mod [] w0 w'
theorem hdL_get {r : PRep} (h : RepGood r) {k : Nat} (hk : k < 5) : ∃ x : Nat, (hdL r)[k]? = some x ∧ x ≤ 1099511627776 := by
  have hk' : k < (hdL r).length := by simp [hdL]; omega
  exact ⟨(hdL r)[k], List.getElem?_eq_getElem hk', h.hd _ (List.getElem_mem hk')⟩
def encN (x : Nat) : List Value := [.int .i64 (x : Nat)]
theorem Reply_okW {w : World} {r : PRep} {f p : Sl} (h : RepAtW w r f p) :
    Calls Try.prog 50 #[r.v f p] w fun e w' => e = .returned (.tuple #[.string (if repE r = 0 then bs (repB r) else bs []), .int .i64 (repE r)]) ∧ Mod [] w w' := by
  refine go_of (request_Reply_go ?_)
  intro b1 f1 w1 A1
  have l1 := A1.lt b1 (by simp)
  refine (check_okW Name_ok (h.keep0 A1.mod)).mono ?_
  rintro e w2 ⟨rfl, M2⟩
  refine ⟨_, rfl, Keep.of0 M2, ?_⟩
  have N2 := A1.mod.go0 M2 (by simp)
  have s2 := N2.size
  have s2' := M2.size
  refine brB_of (fun g1 => ?_) fun g1 => ?_
  · have g : ¬ repE r = 0 := by simpa using g1
    rw [if_neg g]; exact ⟨rfl, N2⟩
  have g : repE r = 0 := by simpa using g1
  have G := RepGood.of g
  intro b3 f3 w3 A3
  have l3 := A3.lt b3 (by simp)
  refine al_of fun b4 w4 c4 M4 f4 => ?_
  intro w5 A5 hb5
  have s3 := A3.mod.size
  have s4 := M4.size
  have s5 := A5.mod.size
  have M5 := (A3.mod.go0 M4 (by simp)).go0 A5.mod (by simp)
  have c5 := A5.mod.keep0 c4
  have hbd : Bd w2.heap.size b3 [] w5 := .inl ⟨f3, .slice none 0 0, hb5, ⟨by simp [Lib.byteCells], .inl ⟨rfl, by simp [Lib.byteCells]⟩⟩, by simp [Value.ownBlock]⟩
  have hne : b4 ≠ b3 := by omega
  have Wr0 : Wr w2.heap.size b3 w2 w5 := Wr.of0 M5 (Nat.le_refl _)
  have hk1 : ∀ {x y : World}, Wr w2.heap.size b3 x y → Keep [b1] x y := fun W b hb _ => by
    simp at hb; subst hb; exact W.bel.block _ (by omega)
  have hcell : ∀ {w' : World}, Wr w2.heap.size b3 w5 w' → SlAt w' 1 encN (some ⟨b4, 0, none⟩) 5 (hdL r) := fun {w'} W => by
    have c6 := W.keep c5 hne (by decide)
    refine ⟨rfl, fun i x hx => ⟨_, rfl, fun j v hv => ?_⟩⟩
    have hj : j = 0 := by have := (List.getElem?_eq_some_iff.1 hv).1; simp [encN] at this; omega
    subst hj
    rw [addr_add, addr_add, cell_at c6]
    simp [encN] at hv
    subst hv
    have hnn := G.nn
    have hi := (List.getElem?_eq_some_iff.1 hx).1
    simp [hdL] at hi
    have : r.e = (r.e.toNat : Int) ∧ r.off = (r.off.toNat : Int) ∧ r.n = (r.n.toNat : Int) ∧ r.gen = (r.gen.toNat : Int) := by omega
    have e4 := h.found.1
    match i, hi, hx with
    | 0, _, hx => simp [hdL] at hx; subst hx; simp; omega
    | 1, _, hx => simp [hdL] at hx; subst hx; simp; omega
    | 2, _, hx => simp [hdL] at hx; subst hx; simp; omega
    | 3, _, hx => simp [hdL] at hx; subst hx; simp; omega
    | 4, _, hx => simp [hdL] at hx; subst hx; simp; omega
  refine request_Reply_rule1 (fun mm x p0 a0 n0 c0 w' => ∃ k : Nat, x = k ∧ k ≤ 5 ∧ Bd w2.heap.size b3 (rep1 r k) w' ∧ Wr w2.heap.size b3 w5 w' ∧ mm = 5 - k) 5 ⟨0, rfl, by omega, by simpa [rep1] using hbd, Wr.of0 (Mod.refl _) (by omega), rfl⟩ ?_
  rintro mm x p0 a0 n0 c0 w6 ⟨k, rfl, hk, hB6, W6, rfl⟩ hc6
  have s6 := W6.bel.size
  have lb := hB6.lt
  refine brB_dec (fun hlt => ?_) fun hge => ?_
  · obtain ⟨x, hx, hx2⟩ := hdL_get G (k := k) (by omega)
    refine (hcell W6).ix hx fun q hq => ldInt_of (by simpa [add_zero] using hq 0 _ rfl) ?_
    intro b7 f7 w7 A7 hb7 hv7
    have s7 := A7.mod.size
    refine (Wnum_ok (hB6.keep0 A7.mod) (by have := G.len1 k; omega) (by omega) (a := ⟨b7, 0, none⟩) (x := x) (by rw [cell_at hv7]; rfl) (by omega)).mono ?_
    rintro e w8 ⟨rfl, hB8, W8⟩
    obtain ⟨p8, a8, n8, c8, hc8⟩ := hB8.cells
    refine ⟨rfl, hk1 W8, p8, a8, n8, c8, hc8, _, W8.keep hv7 (by omega) (by decide), ?_⟩
    refine request_Reply_leaf1 (5 - (k + 1)) (by omega) ⟨k + 1, by rw [wrap_id (by omega) (by omega)]; omega, by omega, ?_, (W6.trans (Wr.of0 A7.mod (by omega))).trans W8, rfl⟩
    rw [rep1, take_flat hx]
    exact hB8
  have hk5 : k = 5 := by omega
  subst hk5
  have e1 : rep1 r 5 = rep2 r 0 := by rw [rep1, rep2, List.take_of_length_le (by simp [hdL])]; simp
  rw [e1] at hB6
  have e4 := h.found.1
  have e5 := h.parts.1
  have lf := G.lf
  have lp := G.lp
  have mod0 : ∀ {w'}, Wr w2.heap.size b3 w5 w' → Mod [] w w' := fun W => (Wr0.trans W).mod N2 s2
  refine request_Reply_rule2 (fun mm x p0 a0 n0 c0 w' => ∃ k : Nat, x = k ∧ k ≤ r.found.length ∧ Bd w2.heap.size b3 (rep2 r k) w' ∧ Wr w2.heap.size b3 w5 w' ∧ mm = r.found.length - k) r.found.length ⟨0, rfl, by omega, hB6, W6, rfl⟩ ?_
  clear hB6 W6 hc6 lb s6
  rintro mm x p0 a0 n0 c0 w6 ⟨k, rfl, hk, hB6, W6, rfl⟩ hc6
  have s6 := W6.bel.size
  have lb := hB6.lt
  refine brB_dec (fun hlt => ?_) fun hge => ?_
  · have g1 : k < r.found.length := by omega
    obtain ⟨x, hx⟩ : ∃ x, r.found[k]? = some x := ⟨_, List.getElem?_eq_getElem g1⟩
    obtain ⟨hx1, hx2⟩ := G.f x (List.mem_of_getElem? hx)
    have hx1 : 0 ≤ x.off ∧ x.off ≤ 1099511627776 := by simpa [num] using hx1
    obtain ⟨n, hn'⟩ := Int.eq_ofNat_of_zero_le hx1.1
    refine (h.keep0 (mod0 W6)).found.ix hx fun q hq => ldInt_of (by simpa [add_zero] using hq 0 _ rfl) (ldBool_of (hq 1 _ rfl) (ldStr_of (hq 2 _ rfl) (ldBool_of (hq 3 _ rfl) (ldStr_of (hq 4 _ rfl) ?_))))
    intro b7 f7 w7 A7 hb7 hv7
    have s7 := A7.mod.size
    have lr := recB_len hx2
    have lk := G.len2 k
    have lv := vPutL_len n (by omega)
    refine (Wnum_ok (hB6.keep0 A7.mod) (by omega) (by omega) (a := ⟨b7, 0, none⟩) (x := n) (by rw [cell_at hv7, hn']; rfl) (by omega)).mono ?_
    rintro e w8 ⟨rfl, hB8, W8⟩
    have s8 := W8.bel.size
    obtain ⟨p8, a8, n8, c8, hc8⟩ := hB8.cells
    have hv8 := W8.keep hv7 (by omega) (by decide)
    refine ⟨rfl, hk1 W8, p8, a8, n8, c8, hc8, _, _, _, _, _, hv8, ?_⟩
    refine (RecPut_ok x.r w8).mono ?_
    rintro e w9 ⟨rfl, M9⟩
    have hB9 := hB8.keep0 M9
    have s9 := M9.size
    refine ⟨_, _, rfl, Keep.of0 M9, p8, a8, n8, c8, M9.keep0 hc8, _, _, _, _, _, M9.keep0 hv8, ?_⟩
    rw [if_pos hx2]
    refine (WS_ok hB9 (by rw [List.length_append]; omega) (by omega)).mono ?_
    rintro e w10 ⟨rfl, hB10, W10⟩
    obtain ⟨p10, a10, n10, c10, hc10⟩ := hB10.cells
    refine ⟨_, _, rfl, hk1 W10, p10, a10, n10, c10, hc10, _, _, _, _, _, W10.keep (M9.keep0 hv8) (by omega) (by decide), ?_⟩
    refine request_Reply_leaf2 (r.found.length - (k + 1)) (by omega) ⟨k + 1, by rw [wrap_id (by omega) (by omega)]; omega, by omega, ?_, (W6.trans (Wr.of0 A7.mod (by omega))).trans ((W8.trans (Wr.of0 M9 (by omega))).trans W10), rfl⟩
    have e : rep2 r (k + 1) = rep2 r k ++ vPutL n ++ recB x.r := by
      rw [rep2, take_flat hx, foundB, hn', Int.toNat_natCast, rep2]; simp
    rw [e]
    exact hB10
  have hkf : k = r.found.length := by omega
  subst hkf
  intro b7 f7 w7 A7 hb7 hv7
  have s7 := A7.mod.size
  have lk := G.len2 r.found.length
  refine (Wnum_ok (hB6.keep0 A7.mod) (by omega) (by omega) (a := ⟨b7, 0, none⟩) (x := r.parts.length) (by rw [cell_at hv7, e5]; rfl) (by omega)).mono ?_
  rintro e w8 ⟨rfl, hB8, W8⟩
  have s8 := W8.bel.size
  obtain ⟨p8, a8, n8, c8, hc8⟩ := hB8.cells
  have hv8 := W8.keep hv7 (by omega) (by decide)
  refine ⟨rfl, hk1 W8, p8, a8, n8, c8, hc8, _, hv8, ?_⟩
  have W8' : Wr w2.heap.size b3 w5 w8 := (W6.trans (Wr.of0 A7.mod (by omega))).trans W8
  have e3 : rep2 r r.found.length ++ vPutL r.parts.length = rep3 r 0 := by rw [rep2, rep3, List.take_length]; simp
  rw [e3] at hB8
  have lb8 := lt_of_block hv8
  refine request_Reply_rule3 (fun mm x p0 a0 n0 c0 y w' => ∃ k : Nat, x = k ∧ k ≤ r.parts.length ∧ Bd w2.heap.size b3 (rep3 r k) w' ∧ Wr w2.heap.size b3 w5 w' ∧ w8.heap.size ≤ w'.heap.size ∧ mm = r.parts.length - k) r.parts.length ⟨0, rfl, by omega, hB8, W8', Nat.le_refl _, rfl⟩ ?_
  rintro mm x p0 a0 n0 c0 y w9 ⟨k, rfl, hk, hB9, W9, hs9, rfl⟩ hc9 hv9
  have s9 := W9.bel.size
  refine brB_dec (fun hlt => ?_) fun hge => ?_
  · have g1 : k < r.parts.length := by omega
    obtain ⟨x, hx⟩ : ∃ x, r.parts[k]? = some x := ⟨_, List.getElem?_eq_getElem g1⟩
    have hxm := List.mem_of_getElem? hx
    refine (h.keep0 (mod0 W9)).parts.ix hx fun q hq => ldStr_of (by simpa [add_zero] using hq 0 _ rfl) (ldInt_of (hq 1 _ rfl) ?_)
    intro b10 f10 w10 A10 hb10 hv10' hv10
    have s10 := A10.mod.size
    have lk := G.len3 k
    refine (part_ok (hB9.keep0 A10.mod) (by omega) (by omega) hv10 (by omega) (by have := (G.lenP hxm).2; omega) (G.p x hxm).1).mono ?_
    rintro e w11 ⟨rfl, hB11, W11⟩
    have s11 := W11.bel.size
    obtain ⟨p11, a11, n11, c11, hc11⟩ := hB11.cells
    refine ⟨rfl, hk1 W11, p11, a11, n11, c11, hc11, _, W11.keep hv10' (by omega) (by decide), _, _, W11.keep hv10 (by omega) (by decide), ?_⟩
    refine request_Reply_leaf3 (r.parts.length - (k + 1)) (by omega) ⟨k + 1, by rw [wrap_id (by omega) (by omega)]; omega, by omega, ?_, (W9.trans (Wr.of0 A10.mod (by omega))).trans W11, by omega, rfl⟩
    have e : rep3 r (k + 1) = rep3 r k ++ partB x := by
      rw [rep3, take_flat hx, rep3]; simp
    rw [e]
    exact hB11
  · have hkp : k = r.parts.length := by omega
    subst hkp
    refine (String_ok BTw w2.heap.size b3 (repB r) w9 hB9 ?_).mono ?_
    · intro e0
      have h1 : (repB r).length = 0 := by rw [e0]; rfl
      have h2 := (vPutL_len r.parts.length (by omega)).1
      rw [repB, rep3, List.length_append, List.length_append] at h1
      omega
    · rintro e w10 ⟨rfl, hB10, h10, o10⟩
      have W10 : Wr w2.heap.size b3 w9 w10 := ⟨h10, o10⟩
      obtain ⟨p10, a10, n10, c10, hc10⟩ := Bd.cells hB10
      refine ⟨_, rfl, hk1 W10, p10, a10, n10, c10, hc10, _, W10.keep hv9 (by omega) (by decide), ?_, mod0 (W9.trans W10)⟩
      rw [if_pos g, g]; rfl
theorem Reply_ok {w : World} {r : PRep} {f p : Sl} (h : RepAt w r f p) :
    Calls Try.prog 50 #[r.v f p] w fun e w' => e = .returned (.tuple #[.string (if repE r = 0 then bs (repB r) else bs []), .int .i64 (repE r)]) ∧ Mod [] w w' := Reply_okW h.wide
end Go.Proofs.Ytohgihgddknmmaa
