/- Whether a reply may be. -/
import Derived.Test.YtohgihgddknmmaaC2
namespace Go.Proofs.Ytohgihgddknmmaa
open Go Go.RowKit
set_option linter.unusedVariables false
set_option linter.unusedSimpArgs false

def ok0 (r : PRep) : Bool := num r.e && num r.off && num r.n && num r.gen
def okF (x : PFound) : Bool := num x.off
def badF (x : PFound) : Bool := recE x.r != 0
def okP (x : PPart) : Bool := num x.n
def badP (x : PPart) : Bool := !nameB x.t
def repE (r : PRep) : Int :=
  if (ok0 r && r.found.all okF && r.parts.all okP) = false then 1 else if r.found.length > 64 then 2 else if r.parts.length > 64 then 2 else if (r.found.any badF || r.parts.any badP) = true then 40 else 0
theorem take_all {α : Type} {p : α → Bool} {l : List α} {k : Nat} {x : α} (hx : l[k]? = some x) : (l.take (k + 1)).all p = ((l.take k).all p && p x) := by
  rw [List.take_add_one, hx]; simp
theorem take_any {α : Type} {p : α → Bool} {l : List α} {k : Nat} {x : α} (hx : l[k]? = some x) : (l.take (k + 1)).any p = ((l.take k).any p || p x) := by
  rw [List.take_add_one, hx]; simp

theorem notT {b : Bool} (h : (!b) = true) : b = false := by cases b <;> simp_all
theorem notF {b : Bool} (h : (!b) = false) : b = true := by cases b <;> simp_all

/-- 'request.Name' answers as the document says. -/
def NameOk : Prop := ∀ (s : ByteArray) (w : World), Calls Try.prog 82 #[.string s] w fun e w' => e = .returned (.bool (nameB s)) ∧ Mod [] w w'

theorem check_parts (hN : NameOk) {w0 w : World} {bm : Nat} {r : PRep} {f p : Sl} (h : RepAtW w0 r f p) (M : Mod [] w0 w) (hb : bm < w.heap.size) {t3 t4 : Bool} (h3 : t3 = (ok0 r && r.found.all okF)) (h4 : t4 = r.found.any badF) :
    loopD3 request_check_la3 (dnF Try.prog request_check_an (code Try.f69) 394 [0, 0, 1, 0, 1, 1, 1, 1]) (kont3 Try.prog request_check_an (code Try.f69) [1, 1, 1, 1, 0, 1, 0] [] (post3 Try.prog Try.f69 [] fun v w' => v = .int .i64 (repE r) ∧ Mod [] w0 w'))
      (request_check_v3 p.a p.n p.c (p.n : Int) bm t3 t4 0) (request_check_m3 bm r.e r.off r.n r.gen f.a f.n f.c p.a p.n p.c) w := by
  have e5 := h.parts.1
  have e4 := h.found.1
  have hl := h.lp
  refine request_check_rule3 (fun mm t3 t4 x w' => ∃ k : Nat, x = k ∧ k ≤ r.parts.length ∧ t3 = (ok0 r && r.found.all okF && (r.parts.take k).all okP) ∧ t4 = (r.found.any badF || (r.parts.take k).any badP) ∧ Mod [] w0 w' ∧ mm = r.parts.length - k) r.parts.length ⟨0, rfl, by omega, by simp [h3], by simp [h4], M, rfl⟩ ?_
  rintro mm t3 t4 x w1 ⟨k, rfl, hk, rfl, rfl, M1, rfl⟩
  refine brB_dec (fun hlt => ?_) fun hge => ?_
  · have g1 : k < r.parts.length := by omega
    obtain ⟨x, hx⟩ : ∃ x, r.parts[k]? = some x := ⟨_, List.getElem?_eq_getElem g1⟩
    have ek : IntKind.wrap .i64 ((k : Int) + 1) = ((k + 1 : Nat) : Int) := by rw [wrap_id (by omega) (by omega)]; omega
    refine (h.keep0 M1).parts.ix hx fun q hq => ldStr_of (by simpa [add_zero] using hq 0 _ rfl) (ldInt_of (hq 1 _ rfl) ?_)
    intro b2 f2
    refine brB_of (fun g3 => ?_) (fun g3 => ?_)
    · intro w2 A2
      refine (number4_ok x.n w2).mono ?_
      rintro e w3 ⟨rfl, rfl⟩
      refine ⟨_, rfl, Keep.of0 (Mod.refl _), ?_⟩
      refine brB_of (fun g4 => ?_) (fun g4 => ?_)
      · exact request_check_leaf3 (r.parts.length - (k + 1)) (by omega) ⟨k + 1, ek, by omega, by rw [take_all hx, ← Bool.and_assoc, g3]; rfl, by rw [take_any hx, ← Bool.or_assoc, g4]; rfl, M1.go0 A2.mod (by simp), rfl⟩
      · refine (hN x.t w3).mono ?_
        rintro e w4 ⟨rfl, M4⟩
        refine ⟨_, rfl, Keep.of0 M4, ?_⟩
        exact request_check_leaf3 (r.parts.length - (k + 1)) (by omega) ⟨k + 1, ek, by omega, by rw [take_all hx, ← Bool.and_assoc, g3]; rfl, by rw [take_any hx, ← Bool.or_assoc, g4]; rfl, (M1.go0 A2.mod (by simp)).go0 M4 (by simp), rfl⟩
    · refine brB_of (fun g4 => ?_) (fun g4 => ?_)
      · intro w2 A2
        exact request_check_leaf3 (r.parts.length - (k + 1)) (by omega) ⟨k + 1, ek, by omega, by rw [take_all hx, ← Bool.and_assoc, g3]; rfl, by rw [take_any hx, ← Bool.or_assoc, g4]; rfl, M1.go0 A2.mod (by simp), rfl⟩
      · intro w2 A2
        refine (hN x.t w2).mono ?_
        rintro e w4 ⟨rfl, M4⟩
        refine ⟨_, rfl, Keep.of0 M4, ?_⟩
        exact request_check_leaf3 (r.parts.length - (k + 1)) (by omega) ⟨k + 1, ek, by omega, by rw [take_all hx, ← Bool.and_assoc, g3]; rfl, by rw [take_any hx, ← Bool.or_assoc, g4]; rfl, (M1.go0 A2.mod (by simp)).go0 M4 (by simp), rfl⟩
  · have hk : k = r.parts.length := by omega
    subst hk
    rw [List.take_length]
    unfold repE
    refine brB_of (fun g1 => ⟨by rw [if_pos (notT g1)], M1⟩) fun g1 => ?_
    rw [if_neg (by rw [notF g1]; decide)]
    refine brB_dec (fun g2 => ⟨by rw [if_pos (by omega)], M1⟩) fun g2 => ?_
    rw [if_neg (by omega)]
    refine brB_dec (fun g3 => ⟨by rw [if_pos (by omega)], M1⟩) fun g3 => ?_
    rw [if_neg (by omega)]
    refine brB_of (fun g4 => ⟨by rw [if_pos g4], M1⟩) fun g4 => ?_
    exact ⟨by rw [if_neg (by rw [g4]; decide)], M1⟩

theorem check_rest (hN : NameOk) {w0 w : World} {bm : Nat} {r : PRep} {f p : Sl} (h : RepAtW w0 r f p) (M : Mod [] w0 w) (hb : bm < w.heap.size) {t : Bool} (ht : t = ok0 r) :
    request_check_C1 t bm r.e r.off r.n r.gen f.a f.n f.c p.a p.n p.c (fun v w' => v = .int .i64 (repE r) ∧ Mod [] w0 w') w := by
  have e4 := h.found.1
  have hl := h.lf
  refine request_check_rule2 (fun mm t3 t4 x w' => ∃ k : Nat, x = k ∧ k ≤ r.found.length ∧ t3 = (ok0 r && (r.found.take k).all okF) ∧ t4 = (r.found.take k).any badF ∧ Mod [] w0 w' ∧ bm < w'.heap.size ∧ mm = r.found.length - k) r.found.length ⟨0, rfl, by omega, by simp [ht], by simp, M, hb, rfl⟩ ?_
  rintro mm t3 t4 x w1 ⟨k, rfl, hk, rfl, rfl, M1, hb1, rfl⟩
  refine brB_dec (fun hlt => ?_) fun hge => ?_
  · have g1 : k < r.found.length := by omega
    obtain ⟨x, hx⟩ : ∃ x, r.found[k]? = some x := ⟨_, List.getElem?_eq_getElem g1⟩
    have ek : IntKind.wrap .i64 ((k : Int) + 1) = ((k + 1 : Nat) : Int) := by rw [wrap_id (by omega) (by omega)]; omega
    refine (h.keep0 M1).found.ix hx fun q hq => ldInt_of (by simpa [add_zero] using hq 0 _ rfl) (ldBool_of (hq 1 _ rfl) (ldStr_of (hq 2 _ rfl) (ldBool_of (hq 3 _ rfl) (ldStr_of (hq 4 _ rfl) ?_))))
    intro b2 f2
    have fin : ∀ {w'}, Mod [] w0 w' → w1.heap.size ≤ w'.heap.size → ∃ k' : Nat, IntKind.wrap .i64 ((k : Int) + 1) = k' ∧ k' ≤ r.found.length ∧ (ok0 r && (r.found.take k).all okF && okF x) = (ok0 r && (r.found.take k').all okF) ∧ ((r.found.take k).any badF || badF x) = (r.found.take k').any badF ∧ Mod [] w0 w' ∧ bm < w'.heap.size ∧ r.found.length - (k + 1) = r.found.length - k' :=
      fun {w'} hM hs => ⟨k + 1, ek, by omega, by rw [take_all hx, ← Bool.and_assoc], by rw [take_any hx], hM, by omega, rfl⟩
    refine brB_of (fun g3 => ?_) (fun g3 => ?_)
    · intro w2 A2
      have s2 := A2.mod.size
      refine (number4_ok x.off w2).mono ?_
      rintro e w3 ⟨rfl, rfl⟩
      refine ⟨_, rfl, Keep.of0 (Mod.refl _), ?_⟩
      refine brB_of (fun g4 => ?_) (fun g4 => ?_)
      · have := fin (M1.go0 A2.mod (by simp)) s2
        rw [g3, g4, Bool.true_and, Bool.true_or] at this
        exact request_check_leaf2 (r.found.length - (k + 1)) (by omega) this
      · refine (RecCheck_ok x.r w3).mono ?_
        rintro e w4 ⟨rfl, M4⟩
        have s4 := M4.size
        refine ⟨_, rfl, Keep.of0 M4, ?_⟩
        have := fin ((M1.go0 A2.mod (by simp)).go0 M4 (by simp)) (by omega)
        rw [g3, g4, Bool.true_and, Bool.false_or] at this
        exact request_check_leaf2 (r.found.length - (k + 1)) (by omega) this
    · refine brB_of (fun g4 => ?_) (fun g4 => ?_)
      · intro w2 A2
        have := fin (M1.go0 A2.mod (by simp)) A2.mod.size
        rw [g3, g4, Bool.false_and, Bool.true_or] at this
        exact request_check_leaf2 (r.found.length - (k + 1)) (by omega) this
      · intro w2 A2
        have s2 := A2.mod.size
        refine (RecCheck_ok x.r w2).mono ?_
        rintro e w4 ⟨rfl, M4⟩
        have s4 := M4.size
        refine ⟨_, rfl, Keep.of0 M4, ?_⟩
        have := fin ((M1.go0 A2.mod (by simp)).go0 M4 (by simp)) (by omega)
        rw [g3, g4, Bool.false_and, Bool.false_or] at this
        exact request_check_leaf2 (r.found.length - (k + 1)) (by omega) this
  · have hk : k = r.found.length := by omega
    subst hk
    rw [List.take_length]
    exact check_parts hN h M1 hb1 rfl rfl
theorem check_okW (hN : NameOk) {w : World} {r : PRep} {f p : Sl} (h : RepAtW w r f p) :
    Calls Try.prog 69 #[r.v f p] w fun e w' => e = .returned (.int .i64 (repE r)) ∧ Mod [] w w' := by
  refine go_of (request_check_go ?_)
  intro b1 f1 w1 A1
  have l1 := A1.lt b1 (by simp)
  refine (number4_ok _ _).mono ?_
  rintro e w2 ⟨rfl, rfl⟩
  refine ⟨_, rfl, Keep.of0 (Mod.refl _), brB_of (fun g1 => ?_) (fun g1 => ?_)⟩
  rotate_left
  · refine request_check_cut1 (fun t bm x0 x1 x2 x3 a4 n4 c4 a5 n5 c5 w' => t = ok0 r ∧ bm < w'.heap.size ∧ x0 = r.e ∧ x1 = r.off ∧ x2 = r.n ∧ x3 = r.gen ∧ a4 = f.a ∧ n4 = f.n ∧ c4 = f.c ∧ a5 = p.a ∧ n5 = p.n ∧ c5 = p.c ∧ Mod [] w w') ⟨by simp [ok0, g1], l1, rfl, rfl, rfl, rfl, rfl, rfl, rfl, rfl, rfl, rfl, A1.mod⟩ ?_
    rintro t bm x0 x1 x2 x3 a4 n4 c4 a5 n5 c5 w' ⟨ht, hb, rfl, rfl, rfl, rfl, rfl, rfl, rfl, rfl, rfl, rfl, M⟩
    exact check_rest hN h M hb ht
  refine (number4_ok _ _).mono ?_
  rintro e w2 ⟨rfl, rfl⟩
  refine ⟨_, rfl, Keep.of0 (Mod.refl _), brB_of (fun g2 => ?_) (fun g2 => ?_)⟩
  rotate_left
  · refine request_check_cut1 (fun t bm x0 x1 x2 x3 a4 n4 c4 a5 n5 c5 w' => t = ok0 r ∧ bm < w'.heap.size ∧ x0 = r.e ∧ x1 = r.off ∧ x2 = r.n ∧ x3 = r.gen ∧ a4 = f.a ∧ n4 = f.n ∧ c4 = f.c ∧ a5 = p.a ∧ n5 = p.n ∧ c5 = p.c ∧ Mod [] w w') ⟨by simp [ok0, g2], l1, rfl, rfl, rfl, rfl, rfl, rfl, rfl, rfl, rfl, rfl, A1.mod⟩ ?_
    rintro t bm x0 x1 x2 x3 a4 n4 c4 a5 n5 c5 w' ⟨ht, hb, rfl, rfl, rfl, rfl, rfl, rfl, rfl, rfl, rfl, rfl, M⟩
    exact check_rest hN h M hb ht
  refine (number4_ok _ _).mono ?_
  rintro e w2 ⟨rfl, rfl⟩
  refine ⟨_, rfl, Keep.of0 (Mod.refl _), brB_of (fun g3 => ?_) (fun g3 => ?_)⟩
  rotate_left
  · refine request_check_cut1 (fun t bm x0 x1 x2 x3 a4 n4 c4 a5 n5 c5 w' => t = ok0 r ∧ bm < w'.heap.size ∧ x0 = r.e ∧ x1 = r.off ∧ x2 = r.n ∧ x3 = r.gen ∧ a4 = f.a ∧ n4 = f.n ∧ c4 = f.c ∧ a5 = p.a ∧ n5 = p.n ∧ c5 = p.c ∧ Mod [] w w') ⟨by simp [ok0, g3], l1, rfl, rfl, rfl, rfl, rfl, rfl, rfl, rfl, rfl, rfl, A1.mod⟩ ?_
    rintro t bm x0 x1 x2 x3 a4 n4 c4 a5 n5 c5 w' ⟨ht, hb, rfl, rfl, rfl, rfl, rfl, rfl, rfl, rfl, rfl, rfl, M⟩
    exact check_rest hN h M hb ht
  refine (number4_ok _ _).mono ?_
  rintro e w2 ⟨rfl, rfl⟩
  refine ⟨_, rfl, Keep.of0 (Mod.refl _), ?_⟩
  refine request_check_cut1 (fun t bm x0 x1 x2 x3 a4 n4 c4 a5 n5 c5 w' => t = ok0 r ∧ bm < w'.heap.size ∧ x0 = r.e ∧ x1 = r.off ∧ x2 = r.n ∧ x3 = r.gen ∧ a4 = f.a ∧ n4 = f.n ∧ c4 = f.c ∧ a5 = p.a ∧ n5 = p.n ∧ c5 = p.c ∧ Mod [] w w') ⟨by simp [ok0, g1, g2, g3], l1, rfl, rfl, rfl, rfl, rfl, rfl, rfl, rfl, rfl, rfl, A1.mod⟩ ?_
  rintro t bm x0 x1 x2 x3 a4 n4 c4 a5 n5 c5 w' ⟨ht, hb, rfl, rfl, rfl, rfl, rfl, rfl, rfl, rfl, rfl, rfl, M⟩
  exact check_rest hN h M hb ht
theorem check_ok (hN : NameOk) {w : World} {r : PRep} {f p : Sl} (h : RepAt w r f p) :
    Calls Try.prog 69 #[r.v f p] w fun e w' => e = .returned (.int .i64 (repE r)) ∧ Mod [] w w' := check_okW hN h.wide
end Go.Proofs.Ytohgihgddknmmaa
