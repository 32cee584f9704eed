/- Part 5 of the proof of PMGets. -/
import Derived.Test.YtkbcmppbjfpjmaaGreatPMGetsK4
namespace Go.Proofs.YtkbcmppbjfpjmaaGreat
open Go Go.RowKit
set_option linter.all false
def yfJ (k : Int) : ByteArray := ⟨((ygE k).map UInt8.ofNat).toArray⟩
def yvT (s : ByteArray) (c : Int) : Bool := s.data.toList.any fun b => decide ((b.toNat : Int) = c)
theorem ycO {k : Int} (h0 : 0 ≤ k) (h1 : k ≤ 12) : k = 0 ∨ k = 1 ∨ k = 2 ∨ k = 3 ∨ k = 4 ∨ k = 5 ∨ k = 6 ∨ k = 7 ∨ k = 8 ∨ k = 9 ∨ k = 10 ∨ k = 11 ∨ k = 12 := by omega
theorem yvU {k : Int} (h0 : 0 ≤ k) (h1 : k ≤ 12) (w : World) : Calls pP 101 #[.int .i64 k] w fun e w' => e = .returned (.string (yfJ k)) ∧ Mod [] w w' := by
 refine yaP (yIj ?_)
 refine ydO fun b w1 c1 M1 f1 => ?_
 rcases ycO h0 h1 with rfl | rfl | rfl | rfl | rfl | rfl | rfl | rfl | rfl | rfl | rfl | rfl | rfl
 all_goals exact ⟨_, rfl, by decide, by decide, yaI (by rw [ya5, ya1 c1]; rfl) ⟨rfl, M1⟩⟩
theorem yDy (s : ByteArray) (hs : s.size ≤ 1000000) (c : Int) (w : World) : Calls pP 124 #[.string s, .int .u8 c] w fun e w' => e = .returned (.bool (yvT s c)) ∧ w' = w := by
 refine yaP (yIm ?_)
 refine yAC (fun mm x w' => ∃ k : Nat, x = k ∧ k ≤ s.size ∧ ((s.data.toList.take k).any fun b => decide ((b.toNat : Int) = c)) = false ∧ w' = w ∧ mm = s.size - k) s.size ⟨0, rfl, by omega, by simp, rfl, rfl⟩ ?_
 rintro mm x w' ⟨k, rfl, hk, ha, rfl, rfl⟩
 refine yaC (fun hlt => ?_) fun hge => ?_
 ·have hk' : k < s.size := by omega
  obtain ⟨b, hb, hv⟩ := ycA hk'
  refine ⟨by omega, by omega, ?_⟩
  rw [Int.toNat_natCast, hv]
  refine yaB (fun g => ⟨congrArg Value.bool ?_, rfl⟩) fun g => ?_
  ·have g : (b.toNat : Int) = c := by simpa using g
   symm
   rw [yvT, List.any_eq_true]
   exact ⟨b, List.mem_of_getElem? hb, by simp [g]⟩
  ·have g : ¬ (b.toNat : Int) = c := by simpa using g
   refine yAB (s.size - (k + 1)) (by omega) ⟨k + 1, by rw [yaG (by omega) (by omega)]; omega, by omega, ?_, rfl, rfl⟩
   rw [yeO hb, ha]; simp [g]
 ·have hk : k = s.size := by omega
  subst hk
  rw [List.take_of_length_le (by simp)] at ha
  exact ⟨by rw [yvT, ha], rfl⟩
theorem yDz {k : Int} (h0 : 0 ≤ k) (h1 : k ≤ 12) : ∀ c ∈ [112, 116, 110, 111, 98, 103, 109, 101, 114, 108], yvT (yfJ k) ((c : Nat) : Int) = ha k c := by
 rcases ycO h0 h1 with rfl | rfl | rfl | rfl | rfl | rfl | rfl | rfl | rfl | rfl | rfl | rfl | rfl
 all_goals decide
theorem ybZ {k : Int} (h0 : 0 ≤ k) (h1 : k ≤ 12) {c : Nat} (hc : c ∈ [112, 116, 110, 111, 98, 103, 109, 101, 114, 108]) (w : World) : Calls pP 124 #[.string (yfJ k), .int .u8 (c : Nat)] w fun e w' => e = .returned (.bool (ha k c)) ∧ w' = w := by
 have := yDy (yfJ k) (by rcases ycO h0 h1 with rfl | rfl | rfl | rfl | rfl | rfl | rfl | rfl | rfl | rfl | rfl | rfl | rfl <;> decide) (c : Nat) w
 rwa [yDz h0 h1 c hc] at this
theorem yrA : ∀ (k : Nat) (x y : List UInt8), x.take k = y.take k → k ≤ x.length → k ≤ y.length → Op.bytesLess x y = Op.bytesLess (x.drop k) (y.drop k)
 | 0, x, y, _, _, _ => rfl
 | k + 1, [], _, _, h, _ => by simp at h
 | k + 1, _, [], _, _, h => by simp at h
 | k + 1, a :: x, b :: y, h, h1, h2 => by
  simp at h
  obtain ⟨rfl, h⟩ := h
  rw [List.drop_succ_cons, List.drop_succ_cons, ← yrA k x y h (by simpa using h1) (by simpa using h2), Op.bytesLess]
  have : ¬ a < a := UInt8.lt_irrefl a
  simp [this]
theorem yDA (s t : ByteArray) (hs : s.size ≤ 1000000) (w : World) : Calls pP 136 #[.string s, .string t] w fun e w' => e = .returned (.bool (ysD s t)) ∧ Mod [] w w' := by
 refine yaP (yIp ?_)
 have hl : ysD s t = Op.bytesLess s.data.toList t.data.toList := by rw [ysD, Lib.toList_data, Lib.toList_data]
 have l1 : s.data.toList.length = s.size := by simp
 have l2 : t.data.toList.length = t.size := by simp
 refine yAE (fun mm x w' => ∃ k : Nat, x = k ∧ k ≤ s.size ∧ k ≤ t.size ∧ s.data.toList.take k = t.data.toList.take k ∧ Mod [] w w' ∧ mm = s.size - k) s.size ⟨0, rfl, by omega, by omega, by simp, Mod.refl _, rfl⟩ ?_
 rintro mm x w' ⟨k, rfl, hk, hk2, ht, M, rfl⟩
 have hd : ysD s t = Op.bytesLess (s.data.toList.drop k) (t.data.toList.drop k) := by rw [hl, yrA k _ _ ht (by omega) (by omega)]
 have dn : ∀ (l : List UInt8), l.length ≤ k → l.drop k = [] := fun l h => List.drop_eq_nil_of_le h
 refine yaC (fun hlt => ?_) fun hge => ?_
 ·refine yaC (fun hlt2 => ?_) fun hge2 => ?_
  ·obtain ⟨a, ha, hva⟩ := ycA (s := s) (k := k) (by omega)
   obtain ⟨b, hb, hvb⟩ := ycA (s := t) (k := k) (by omega)
   refine ⟨by omega, by omega, by omega, by omega, ?_⟩
   rw [Int.toNat_natCast, hva, hvb]
   refine yaB (fun g => ⟨by omega, by omega, by omega, by omega, ?_⟩) fun g => ?_
   ·rw [Int.toNat_natCast, hva, hvb]
    intro w2 A2
    refine ⟨congrArg Value.bool ?_, M.go0 A2.mod (by simp)⟩
    have g : a ≠ b := fun e => by simp [e] at g
    have ea := List.getElem?_eq_some_iff.1 ha
    have eb := List.getElem?_eq_some_iff.1 hb
    rw [hd, List.drop_eq_getElem_cons ea.1, List.drop_eq_getElem_cons eb.1, ea.2, eb.2, Op.bytesLess]
    have : (a == b) = false := by simpa using g
    rw [this]
    simp [UInt8.lt_iff_toNat_lt]
   ·have g : a = b := by
     have : (a.toNat : Int) = b.toNat := by simpa using g
     exact UInt8.toNat_inj.1 (by omega)
    subst g
    intro w2 A2
    exact yAD (s.size - (k + 1)) (by omega) ⟨k + 1, by rw [yaG (by omega) (by omega)]; omega, by omega, by omega, ycH ht ha hb, M.go0 A2.mod (by simp), rfl⟩
  ·refine ⟨congrArg Value.bool ?_, M⟩
   rw [hd, dn t.data.toList (by omega)]
   have : ¬ ((s.size : Int) < (t.size : Int)) := by omega
   rw [decide_eq_false this]
   cases (s.data.toList.drop k) <;> rfl
 ·refine ⟨congrArg Value.bool ?_, M⟩
  rw [hd, dn s.data.toList (by omega)]
  by_cases h2 : t.size ≤ k
  ·rw [dn t.data.toList (by omega), decide_eq_false (by omega)]; rfl
  ·rw [decide_eq_true (by omega), List.drop_eq_getElem_cons (l := t.data.toList) (by omega)]; rfl
theorem yB0 {w : World} {l : List ByteArray} {ts : Sl} (h : ycQ w 1 yjD ts.a ts.n l) :
  Calls pP 125 #[.slice ts.a ts.n ts.c] w fun e w' => e = .returned (.bool (ycJ l)) ∧ Mod [] w w' := by
 have hn := h.1
 refine yaP (yIs ?_)
 refine yaC (fun g => ⟨by rw [ycJ, decide_eq_false (by omega)]; rfl, Mod.refl _⟩) fun g1 => ?_
 refine yaC (fun g => ⟨by rw [ycJ, decide_eq_false (by omega)]; rfl, Mod.refl _⟩) fun g2 => ?_
 have hN : ycJ l = (l.all ybS && ye0 l) := by rw [ycJ, decide_eq_true (by omega)]; simp
 have no1 : ∀ {w' : World}, l.all ybS = false → Mod [] w w' → (Value.bool false = Value.bool (ycJ l) ∧ Mod [] w w') := fun hf M => ⟨by rw [hN, hf]; rfl, M⟩
 have no2 : ∀ {w' : World}, ye0 l = false → Mod [] w w' → (Value.bool false = Value.bool (ycJ l) ∧ Mod [] w w') := fun hf M => ⟨by rw [hN, hf]; simp, M⟩
 have pre : ∀ k : Nat, ye0 (l.take k) = false → ye0 l = false := fun k => by
  induction hm : l.length - k generalizing k with
  | zero => intro hf; rwa [List.take_of_length_le (by omega)] at hf
  | succ n ih =>
   intro hf
   refine ih (k + 1) (by omega) ?_
   cases k with
   | zero => simp [ye0] at hf
   | succ k =>
    obtain ⟨x, hx⟩ : ∃ x, l[k]? = some x := ⟨_, List.getElem?_eq_getElem (by omega)⟩
    obtain ⟨y, hy⟩ : ∃ y, l[k + 1]? = some y := ⟨_, List.getElem?_eq_getElem (by omega)⟩
    rw [yfZ hx hy, hf]; rfl
 refine yAG (fun mm x w' => ∃ k : Nat, x = k ∧ k ≤ l.length ∧ (l.take k).all ybS = true ∧ ye0 (l.take k) = true ∧ Mod [] w w' ∧ mm = l.length - k) l.length ⟨0, rfl, by omega, by simp, by simp [ye0], Mod.refl _, rfl⟩ ?_
 rintro mm x w1 ⟨k, rfl, hk, ha, hr, M1, rfl⟩
 refine yaC (fun hlt => ?_) fun hge => ?_
 ·obtain ⟨x, hx⟩ : ∃ x, l[k]? = some x := ⟨_, List.getElem?_eq_getElem (by omega)⟩
  refine (h.keep0 M1).ixW hx fun q hq => ?_
  intro w2 A2
  have N2 := M1.go0 A2.mod (by simp)
  refine yaI (x := x) (by simpa [add_zero] using hq w2 A2.mod 0 _ rfl) ?_
  refine (yhK x w2).mono ?_
  rintro e w3 ⟨rfl, rfl⟩
  have ew : IntKind.wrap .i64 ((k : Int) + 1) = ((k + 1 : Nat) : Int) := by rw [yaG (by omega) (by omega)]; omega
  refine ⟨_, rfl, yaB (fun g => no1 ?_ N2) fun g => ?_⟩
  ·rw [List.all_eq_false]; exact ⟨x, List.mem_of_getElem? hx, by rw [yjM g]; decide⟩
  have hx1 : ybS x = true := yh5 g
  have ha' : (l.take (k + 1)).all ybS = true := by rw [ycD hx, ha, hx1]; rfl
  refine yaC (fun g3 => ?_) fun g3 => ?_
  ·obtain ⟨j, rfl⟩ : ∃ j, k = j + 1 := ⟨k - 1, by omega⟩
   obtain ⟨y, hy⟩ : ∃ y, l[j]? = some y := ⟨_, List.getElem?_eq_getElem (by omega)⟩
   rw [show IntKind.wrap .i64 (((j + 1 : Nat) : Int) - 1) = ((j : Nat) : Int) by rw [yaG (by omega) (by omega)]; omega]
   refine (h.keep0 N2).ix hy fun q hq => yaI (x := y) (by simpa [add_zero] using hq 0 _ rfl) ?_
   refine (h.keep0 N2).ix hx fun q hq => yaI (x := x) (by simpa [add_zero] using hq 0 _ rfl) ?_
   have hys : y.size ≤ 16 := by
    have := List.all_eq_true.1 ha y (List.mem_of_getElem? (i := j) (by rw [List.getElem?_take]; simp [hy]))
    simp [ybS] at this; omega
   refine (yDA y x (by omega) _).mono ?_
   rintro e w4 ⟨rfl, M4⟩
   have N4 := N2.go0 M4 (by simp)
   refine ⟨_, rfl, yaB (fun g => no2 (pre (j + 2) ?_) N4) fun g => ?_⟩
   ·rw [yfZ hy hx, yjM g]; simp
   ·exact yqR (l.length - (j + 1 + 1)) (by omega) ⟨j + 1 + 1, ew, by omega, ha', by rw [yfZ hy hx, yh5 g, hr]; rfl, N4, rfl⟩
  ·have hk0 : k = 0 := by omega
   subst hk0
   refine yqR (l.length - (0 + 1)) (by omega) ⟨0 + 1, ew, by omega, ha', ?_, N2, rfl⟩
   cases l <;> simp [ye0]
 ·have : k = l.length := by omega
  subst this
  rw [List.take_length] at ha hr
  exact ⟨by rw [hN, ha, hr]; rfl, M1⟩
theorem yvV {w : World} {b : PBatch} {rs : Sl} (h : ycQ w 4 yg2 rs.a rs.n b.recs) :
  Calls pP 126 #[b.v rs] w fun e w' => e = .returned (.int .i64 (ybH b)) ∧ Mod [] w w' := by
 refine yaP (yIe ?_)
 have hn := h.1
 intro b1 f1 w1 A1
 have l1 := A1.lt b1 (by simp)
 have bad : ∀ {k : Int} {w' : World}, ybH b = k → Mod [] w w' → (Value.int .i64 k = Value.int .i64 (ybH b) ∧ Mod [] w w') := fun e M => ⟨by rw [e], M⟩
 refine (ycW b.prod w1).mono ?_
 rintro e w2 ⟨rfl, rfl⟩
 refine ⟨_, rfl, yaD.of0 (Mod.refl _), yaB (fun q1 => bad (by rw [ybH, if_pos (by rw [yjM q1]; rfl)]) A1.mod) fun q1 => ?_⟩
 refine (ycW b.epoch w2).mono ?_
 rintro e w3 ⟨rfl, rfl⟩
 refine ⟨_, rfl, yaD.of0 (Mod.refl _), yaB (fun q2 => bad (by rw [ybH, if_pos (by rw [yjM q2]; simp)]) A1.mod) fun q2 => ?_⟩
 refine (ycW b.seq w3).mono ?_
 rintro e w4 ⟨rfl, rfl⟩
 refine ⟨_, rfl, yaD.of0 (Mod.refl _), yaB (fun q3 => bad (by rw [ybH, if_pos (by rw [yjM q3]; simp)]) A1.mod) fun q3 => ?_⟩
 have e0 : ybH b = if b.recs.length = 0 then 30 else if b.recs.length > 16 then 2 else match b.recs.find? fun r => ygB r ≠ 0 with | none => 0 | some r => ygB r := by
  rw [ybH, if_neg (by rw [yh5 q1, yh5 q2, yh5 q3]; decide)] <;> rfl
 refine yaB (fun q4 => bad (by rw [e0, if_pos (by simp at q4; omega)]) A1.mod) fun q4 => ?_
 rw [if_neg (by simp at q4; omega)] at e0
 refine yaC (fun q5 => bad (by rw [e0, if_pos (by omega)]) A1.mod) fun q5 => ?_
 rw [if_neg (by omega)] at e0
 refine yAy (fun mm x w' => ∃ k : Nat, x = k ∧ k ≤ b.recs.length ∧ (∀ y ∈ b.recs.take k, ygB y = 0) ∧ Mod [] w w' ∧ mm = b.recs.length - k) b.recs.length ⟨0, rfl, by omega, by simp, A1.mod, rfl⟩ ?_
 rintro mm x w5 ⟨k, rfl, hk, hz, M5, rfl⟩
 refine yaC (fun hlt => ?_) fun hge => ?_
 ·obtain ⟨y, hy⟩ : ∃ y, b.recs[k]? = some y := ⟨_, List.getElem?_eq_getElem (by omega)⟩
  refine (h.keep0 M5).ix hy fun q hq => yaO (by simpa [add_zero] using hq 0 _ rfl) (yaI (hq 1 _ rfl) (yaO (hq 2 _ rfl) (yaI (hq 3 _ rfl) ?_)))
  refine (ykF y w5).mono ?_
  rintro e w7 ⟨rfl, M7⟩
  have N7 := M5.go0 M7 (by simp)
  refine ⟨_, rfl, yaD.of0 M7, yaB (fun q6 => ?_) fun q6 => ?_⟩
  ·have q6 : ygB y ≠ 0 := by simpa using q6
   exact bad (by rw [e0, yqU hy hz q6]) N7
  ·have q6 : ygB y = 0 := by simpa using q6
   refine yAx (b.recs.length - (k + 1)) (by omega) ⟨k + 1, by rw [yaG (by omega) (by omega)]; omega, by omega, ?_, N7, rfl⟩
   rw [List.take_add_one, hy]
   intro z hz'
   rcases List.mem_append.1 hz' with h | h
   ·exact hz z h
   ·simp at h; subst h; exact q6
 ·have : k = b.recs.length := by omega
  subst this
  rw [List.take_length] at hz
  refine bad ?_ M5
  rw [e0, List.find?_eq_none.2 (by intro y hy; simp [hz y hy])]
theorem yB1 (s : ByteArray) : (s.toList == (⟨#[]⟩ : ByteArray).toList) = yhN s := by
 rw [yfW, yhN]
 apply Bool.eq_iff_iff.2
 simp only [decide_eq_true_eq]
 constructor
 ·rintro rfl; rfl
 ·intro h; exact ByteArray.ext (Array.eq_empty_of_size_eq_zero h)
theorem yKi (x : Int) : decide (x = 0) = !(x != 0) := by
 by_cases h : x = 0 <;> simp [h]
theorem yKL (b : PBatch) (n : Nat) (hr : n = b.recs.length) : decide (b = ybK) = (!(b.prod != 0) && !(b.epoch != 0) && !(b.seq != 0) && !(decide ((n : Int) > 0))) := by
 obtain ⟨b1, b2, b3, b4⟩ := b
 subst hr
 by_cases h1 : b1 = 0 <;> by_cases h2 : b2 = 0 <;> by_cases h3 : b3 = 0 <;> cases b4 <;> simp [ybK, h1, h2, h3] <;> omega
theorem yDB {o : POp} {rs ts : Sl} (hr : rs.n = o.b.recs.length) (ht : ts.n = o.topics.length) : yeH o = (((ha o.kind 112 || ha o.kind 116 || (o.part.t.toList == (⟨#[]⟩ : ByteArray).toList)) && (ha o.kind 112 || !(o.part.n != 0)) && (ha o.kind 110 || !(o.n != 0)) && (ha o.kind 111 || !(o.off != 0))) && (ha o.kind 98 || (!(o.b.prod != 0) && !(o.b.epoch != 0) && !(o.b.seq != 0) && !(decide ((rs.n : Int) > 0)))) && ((ha o.kind 103 || (o.g.toList == (⟨#[]⟩ : ByteArray).toList)) && (ha o.kind 109 || (o.m.toList == (⟨#[]⟩ : ByteArray).toList)) && (ha o.kind 101 || !(o.gen != 0))) && (ha o.kind 114 || (!o.robin && ((ts.n : Int) == 0)))) := by
 have ht0 : decide (o.topics = []) = ((ts.n : Int) == 0) := by
  rw [ht]
  cases o.topics <;> simp
  omega
 unfold yeH
 rw [yKL o.b rs.n hr, ht0, yB1, yB1, yB1, yKi, yKi, yKi, yKi]
 simp only [Bool.and_assoc]
set_option maxHeartbeats 4000000 in
theorem yGq {w : World} {o : POp} {rs ts : Sl} (h0 : 0 ≤ o.kind) (h1 : o.kind ≤ 12) (hr : rs.n = o.b.recs.length) (ht : ts.n = o.topics.length) :
  Calls pP 123 #[o.v rs ts] w fun e w' => e = .returned (.bool (yeH o)) ∧ Mod [] w w' := by
 have hO := yDB hr ht
 have A112 : ∀ w, Calls pP 124 #[.string (yfJ o.kind), .int .u8 112] w fun e w' => e = .returned (.bool (ha o.kind 112)) ∧ w' = w := fun w => ybZ h0 h1 (c := 112) (by decide) w
 have A116 : ∀ w, Calls pP 124 #[.string (yfJ o.kind), .int .u8 116] w fun e w' => e = .returned (.bool (ha o.kind 116)) ∧ w' = w := fun w => ybZ h0 h1 (c := 116) (by decide) w
 have A110 : ∀ w, Calls pP 124 #[.string (yfJ o.kind), .int .u8 110] w fun e w' => e = .returned (.bool (ha o.kind 110)) ∧ w' = w := fun w => ybZ h0 h1 (c := 110) (by decide) w
 have A111 : ∀ w, Calls pP 124 #[.string (yfJ o.kind), .int .u8 111] w fun e w' => e = .returned (.bool (ha o.kind 111)) ∧ w' = w := fun w => ybZ h0 h1 (c := 111) (by decide) w
 have A98 : ∀ w, Calls pP 124 #[.string (yfJ o.kind), .int .u8 98] w fun e w' => e = .returned (.bool (ha o.kind 98)) ∧ w' = w := fun w => ybZ h0 h1 (c := 98) (by decide) w
 have A103 : ∀ w, Calls pP 124 #[.string (yfJ o.kind), .int .u8 103] w fun e w' => e = .returned (.bool (ha o.kind 103)) ∧ w' = w := fun w => ybZ h0 h1 (c := 103) (by decide) w
 have A109 : ∀ w, Calls pP 124 #[.string (yfJ o.kind), .int .u8 109] w fun e w' => e = .returned (.bool (ha o.kind 109)) ∧ w' = w := fun w => ybZ h0 h1 (c := 109) (by decide) w
 have A101 : ∀ w, Calls pP 124 #[.string (yfJ o.kind), .int .u8 101] w fun e w' => e = .returned (.bool (ha o.kind 101)) ∧ w' = w := fun w => ybZ h0 h1 (c := 101) (by decide) w
 have A114 : ∀ w, Calls pP 124 #[.string (yfJ o.kind), .int .u8 114] w fun e w' => e = .returned (.bool (ha o.kind 114)) ∧ w' = w := fun w => ybZ h0 h1 (c := 114) (by decide) w
 refine yaP (yIt ?_)
 intro b1 f1 w2 A2
 refine (yvU h0 h1 w2).mono ?_
 rintro e w3 ⟨rfl, M3⟩
 refine ⟨_, rfl, yaD.of0 M3, ?_⟩
 have N3 := A2.mod.go0 M3 (by simp)
 have c6 : ((ha o.kind 112 || ha o.kind 116 || (o.part.t.toList == (⟨#[]⟩ : ByteArray).toList)) && (ha o.kind 112 || !(o.part.n != 0)) && (ha o.kind 110 || !(o.n != 0)) && (ha o.kind 111 || !(o.off != 0))) = true → (ha o.kind 98 || (!(o.b.prod != 0) && !(o.b.epoch != 0) && !(o.b.seq != 0) && !(decide ((rs.n : Int) > 0)))) = true → ((ha o.kind 103 || (o.g.toList == (⟨#[]⟩ : ByteArray).toList)) && (ha o.kind 109 || (o.m.toList == (⟨#[]⟩ : ByteArray).toList)) && (ha o.kind 101 || !(o.gen != 0))) = true → yAK (yfJ o.kind) b1 o.kind o.part.t o.part.n o.n o.off o.b.prod o.b.epoch o.b.seq rs.a rs.n rs.c o.g o.m o.gen o.robin ts.a ts.n ts.c (fun v w' => v = .bool (yeH o) ∧ Mod [] w w') w3 := fun q1 q2 q3 => by
  rw [q1, q2, q3] at hO
  refine (A114 _).mono ?_
  rintro e w' ⟨rfl, rfl⟩
  refine ⟨_, rfl, yaD.of0 (Mod.refl _), ?_⟩
  refine yaB (fun g => ⟨?_, N3⟩) fun g => yaB (fun g2 => ⟨?_, N3⟩) fun g2 => ⟨?_, N3⟩
  ·rw [hO, g]; rfl
  ·rw [hO, g, g2]; rfl
  ·rw [hO, g, g2]; rfl
 have c5 : ∀ t : Bool, ((ha o.kind 112 || ha o.kind 116 || (o.part.t.toList == (⟨#[]⟩ : ByteArray).toList)) && (ha o.kind 112 || !(o.part.n != 0)) && (ha o.kind 110 || !(o.n != 0)) && (ha o.kind 111 || !(o.off != 0))) = true → (ha o.kind 98 || (!(o.b.prod != 0) && !(o.b.epoch != 0) && !(o.b.seq != 0) && !(decide ((rs.n : Int) > 0)))) = true → t = !((ha o.kind 103 || (o.g.toList == (⟨#[]⟩ : ByteArray).toList)) && (ha o.kind 109 || (o.m.toList == (⟨#[]⟩ : ByteArray).toList)) && (ha o.kind 101 || !(o.gen != 0))) → yAJ (yfJ o.kind) t b1 o.kind o.part.t o.part.n o.n o.off o.b.prod o.b.epoch o.b.seq rs.a rs.n rs.c o.g o.m o.gen o.robin ts.a ts.n ts.c (fun v w' => v = .bool (yeH o) ∧ Mod [] w w') w3 := fun t q1 q2 e => by
  subst e
  refine yaB (fun g => ⟨?_, N3⟩) fun g => yFE (c6 q1 q2 (yh5 g))
  rw [hO, q1, q2, yjM g]; simp
 have c4 : ((ha o.kind 112 || ha o.kind 116 || (o.part.t.toList == (⟨#[]⟩ : ByteArray).toList)) && (ha o.kind 112 || !(o.part.n != 0)) && (ha o.kind 110 || !(o.n != 0)) && (ha o.kind 111 || !(o.off != 0))) = true → (ha o.kind 98 || (!(o.b.prod != 0) && !(o.b.epoch != 0) && !(o.b.seq != 0) && !(decide ((rs.n : Int) > 0)))) = true → yuR (yfJ o.kind) b1 o.kind o.part.t o.part.n o.n o.off o.b.prod o.b.epoch o.b.seq rs.a rs.n rs.c o.g o.m o.gen o.robin ts.a ts.n ts.c (fun v w' => v = .bool (yeH o) ∧ Mod [] w w') w3 := fun q1 q2 => by
  unfold yuR
  clear c6 N3 hO
  have c := fun t => c5 t q1 q2
  clear c5 q1 q2
  generalize ha o.kind 103 = G at *
  generalize ha o.kind 109 = M at *
  generalize ha o.kind 101 = E at *
  generalize (o.g.toList == (⟨#[]⟩ : ByteArray).toList) = eg at *
  generalize (o.m.toList == (⟨#[]⟩ : ByteArray).toList) = em at *
  generalize (o.gen != 0) = zg at *
  repeat' (first | ((with_reducible refine yaB (fun g => ?_) fun g => ?_) <;> first | exact absurd g (by decide) | subst g | (replace g := yjM g; subst g) | (replace g := yh5 g; subst g) | clear g) | (with_reducible refine Calls.mono (A112 _) ?_; rintro e w' ⟨rfl, rfl⟩; refine ⟨_, rfl, yaD.of0 (Mod.refl _), ?_⟩) | (with_reducible refine Calls.mono (A116 _) ?_; rintro e w' ⟨rfl, rfl⟩; refine ⟨_, rfl, yaD.of0 (Mod.refl _), ?_⟩) | (with_reducible refine Calls.mono (A110 _) ?_; rintro e w' ⟨rfl, rfl⟩; refine ⟨_, rfl, yaD.of0 (Mod.refl _), ?_⟩) | (with_reducible refine Calls.mono (A111 _) ?_; rintro e w' ⟨rfl, rfl⟩; refine ⟨_, rfl, yaD.of0 (Mod.refl _), ?_⟩) | (with_reducible refine Calls.mono (A98 _) ?_; rintro e w' ⟨rfl, rfl⟩; refine ⟨_, rfl, yaD.of0 (Mod.refl _), ?_⟩) | (with_reducible refine Calls.mono (A103 _) ?_; rintro e w' ⟨rfl, rfl⟩; refine ⟨_, rfl, yaD.of0 (Mod.refl _), ?_⟩) | (with_reducible refine Calls.mono (A109 _) ?_; rintro e w' ⟨rfl, rfl⟩; refine ⟨_, rfl, yaD.of0 (Mod.refl _), ?_⟩) | (with_reducible refine Calls.mono (A101 _) ?_; rintro e w' ⟨rfl, rfl⟩; refine ⟨_, rfl, yaD.of0 (Mod.refl _), ?_⟩) | (with_reducible refine Calls.mono (A114 _) ?_; rintro e w' ⟨rfl, rfl⟩; refine ⟨_, rfl, yaD.of0 (Mod.refl _), ?_⟩))
  all_goals exact yFD (c _ (by first | rfl | simp))
 have c3 : ∀ t : Bool, ((ha o.kind 112 || ha o.kind 116 || (o.part.t.toList == (⟨#[]⟩ : ByteArray).toList)) && (ha o.kind 112 || !(o.part.n != 0)) && (ha o.kind 110 || !(o.n != 0)) && (ha o.kind 111 || !(o.off != 0))) = true → t = !(ha o.kind 98 || (!(o.b.prod != 0) && !(o.b.epoch != 0) && !(o.b.seq != 0) && !(decide ((rs.n : Int) > 0)))) → yAI (yfJ o.kind) t b1 o.kind o.part.t o.part.n o.n o.off o.b.prod o.b.epoch o.b.seq rs.a rs.n rs.c o.g o.m o.gen o.robin ts.a ts.n ts.c (fun v w' => v = .bool (yeH o) ∧ Mod [] w w') w3 := fun t q1 e => by
  subst e
  refine yaB (fun g => ⟨?_, N3⟩) fun g => yFC (c4 q1 (yh5 g))
  rw [hO, q1, yjM g]; simp
 have c2 : ((ha o.kind 112 || ha o.kind 116 || (o.part.t.toList == (⟨#[]⟩ : ByteArray).toList)) && (ha o.kind 112 || !(o.part.n != 0)) && (ha o.kind 110 || !(o.n != 0)) && (ha o.kind 111 || !(o.off != 0))) = true → yuQ (yfJ o.kind) b1 o.kind o.part.t o.part.n o.n o.off o.b.prod o.b.epoch o.b.seq rs.a rs.n rs.c o.g o.m o.gen o.robin ts.a ts.n ts.c (fun v w' => v = .bool (yeH o) ∧ Mod [] w w') w3 := fun q1 => by
  unfold yuQ
  clear c6 N3 hO c4 c5
  have c := fun t => c3 t q1
  clear c3 q1
  generalize ha o.kind 98 = B at *
  generalize (o.b.prod != 0) = z5 at *
  generalize (o.b.epoch != 0) = z6 at *
  generalize (o.b.seq != 0) = z7 at *
  generalize decide ((rs.n : Int) > 0) = z8 at *
  repeat' (first | ((with_reducible refine yaB (fun g => ?_) fun g => ?_) <;> first | exact absurd g (by decide) | subst g | (replace g := yjM g; subst g) | (replace g := yh5 g; subst g) | clear g) | (with_reducible refine Calls.mono (A112 _) ?_; rintro e w' ⟨rfl, rfl⟩; refine ⟨_, rfl, yaD.of0 (Mod.refl _), ?_⟩) | (with_reducible refine Calls.mono (A116 _) ?_; rintro e w' ⟨rfl, rfl⟩; refine ⟨_, rfl, yaD.of0 (Mod.refl _), ?_⟩) | (with_reducible refine Calls.mono (A110 _) ?_; rintro e w' ⟨rfl, rfl⟩; refine ⟨_, rfl, yaD.of0 (Mod.refl _), ?_⟩) | (with_reducible refine Calls.mono (A111 _) ?_; rintro e w' ⟨rfl, rfl⟩; refine ⟨_, rfl, yaD.of0 (Mod.refl _), ?_⟩) | (with_reducible refine Calls.mono (A98 _) ?_; rintro e w' ⟨rfl, rfl⟩; refine ⟨_, rfl, yaD.of0 (Mod.refl _), ?_⟩) | (with_reducible refine Calls.mono (A103 _) ?_; rintro e w' ⟨rfl, rfl⟩; refine ⟨_, rfl, yaD.of0 (Mod.refl _), ?_⟩) | (with_reducible refine Calls.mono (A109 _) ?_; rintro e w' ⟨rfl, rfl⟩; refine ⟨_, rfl, yaD.of0 (Mod.refl _), ?_⟩) | (with_reducible refine Calls.mono (A101 _) ?_; rintro e w' ⟨rfl, rfl⟩; refine ⟨_, rfl, yaD.of0 (Mod.refl _), ?_⟩) | (with_reducible refine Calls.mono (A114 _) ?_; rintro e w' ⟨rfl, rfl⟩; refine ⟨_, rfl, yaD.of0 (Mod.refl _), ?_⟩))
  all_goals exact yFB (c _ (by first | rfl | simp))
 have c1 : ∀ t : Bool, t = !((ha o.kind 112 || ha o.kind 116 || (o.part.t.toList == (⟨#[]⟩ : ByteArray).toList)) && (ha o.kind 112 || !(o.part.n != 0)) && (ha o.kind 110 || !(o.n != 0)) && (ha o.kind 111 || !(o.off != 0))) → yAH (yfJ o.kind) t b1 o.kind o.part.t o.part.n o.n o.off o.b.prod o.b.epoch o.b.seq rs.a rs.n rs.c o.g o.m o.gen o.robin ts.a ts.n ts.c (fun v w' => v = .bool (yeH o) ∧ Mod [] w w') w3 := fun t e => by
  subst e
  refine yaB (fun g => ⟨?_, N3⟩) fun g => yFA (c2 (yh5 g))
  rw [hO, yjM g]; simp
 clear c2 c3 c4 c5 c6 N3 hO
 generalize ha o.kind 112 = P at *
 generalize ha o.kind 116 = T at *
 generalize ha o.kind 110 = N at *
 generalize ha o.kind 111 = O at *
 generalize (o.part.t.toList == (⟨#[]⟩ : ByteArray).toList) = et at *
 generalize (o.part.n != 0) = z2 at *
 generalize (o.n != 0) = z3 at *
 generalize (o.off != 0) = z4 at *
 repeat' (first | ((with_reducible refine yaB (fun g => ?_) fun g => ?_) <;> first | exact absurd g (by decide) | subst g | (replace g := yjM g; subst g) | (replace g := yh5 g; subst g) | clear g) | (with_reducible refine Calls.mono (A112 _) ?_; rintro e w' ⟨rfl, rfl⟩; refine ⟨_, rfl, yaD.of0 (Mod.refl _), ?_⟩) | (with_reducible refine Calls.mono (A116 _) ?_; rintro e w' ⟨rfl, rfl⟩; refine ⟨_, rfl, yaD.of0 (Mod.refl _), ?_⟩) | (with_reducible refine Calls.mono (A110 _) ?_; rintro e w' ⟨rfl, rfl⟩; refine ⟨_, rfl, yaD.of0 (Mod.refl _), ?_⟩) | (with_reducible refine Calls.mono (A111 _) ?_; rintro e w' ⟨rfl, rfl⟩; refine ⟨_, rfl, yaD.of0 (Mod.refl _), ?_⟩) | (with_reducible refine Calls.mono (A98 _) ?_; rintro e w' ⟨rfl, rfl⟩; refine ⟨_, rfl, yaD.of0 (Mod.refl _), ?_⟩) | (with_reducible refine Calls.mono (A103 _) ?_; rintro e w' ⟨rfl, rfl⟩; refine ⟨_, rfl, yaD.of0 (Mod.refl _), ?_⟩) | (with_reducible refine Calls.mono (A109 _) ?_; rintro e w' ⟨rfl, rfl⟩; refine ⟨_, rfl, yaD.of0 (Mod.refl _), ?_⟩) | (with_reducible refine Calls.mono (A101 _) ?_; rintro e w' ⟨rfl, rfl⟩; refine ⟨_, rfl, yaD.of0 (Mod.refl _), ?_⟩) | (with_reducible refine Calls.mono (A114 _) ?_; rintro e w' ⟨rfl, rfl⟩; refine ⟨_, rfl, yaD.of0 (Mod.refl _), ?_⟩))
 all_goals exact yFz (c1 _ (by first | rfl | simp))
set_option maxHeartbeats 4000000 in
theorem yrB {w : World} {o : POp} {rs ts : Sl} (h1 : ycQ w 4 yg2 rs.a rs.n o.b.recs) (h2 : ycQ w 1 yjD ts.a ts.n o.topics) :
  Calls pP 100 #[o.v rs ts] w fun e w' => e = .returned (.int .i64 (opE o)) ∧ Mod [] w w' := by
 refine yaP (yIu ?_)
 intro b1 f1
 refine yaC (fun g => fun w2 A2 => ⟨by rw [opE, if_pos (.inl g)], A2.mod⟩) fun k0 => ?_
 refine yaC (fun g => fun w2 A2 => ⟨by rw [opE, if_pos (.inr g)], A2.mod⟩) fun k1 => ?_
 have k0 : 0 ≤ o.kind := by omega
 have k1 : o.kind ≤ 12 := by omega
 have hE : opE o = if yqQ o = false then 40 else if (num o.part.n && num o.n && num o.off && num o.gen) = false then 1 else if o.kind = 2 then ybH o.b else 0 := by rw [opE, if_neg (by omega)]
 intro w4 A4
 refine (yvU k0 k1 w4).mono ?_
 rintro e w5 ⟨rfl, M5⟩
 refine ⟨_, rfl, yaD.of0 M5, ?_⟩
 have N5 := A4.mod.go0 M5 (by simp)
 refine (yGq k0 k1 h1.1 h2.1).mono ?_
 rintro e w7 ⟨rfl, M7⟩
 refine ⟨_, rfl, yaD.of0 M7, ?_⟩
 have N7 := N5.go0 M7 (by simp)
 have bad : ∀ w', yqQ o = false → Mod [] w w' → (Value.int .i64 40 = Value.int .i64 (opE o) ∧ Mod [] w w') := fun w' hf M => ⟨by rw [hE, if_pos hf], M⟩
 have c1 : ∀ w', yqQ o = true → Mod [] w w' → yAL b1 o.kind o.part.t o.part.n o.n o.off o.b.prod o.b.epoch o.b.seq rs.a rs.n rs.c o.g o.m o.gen o.robin ts.a ts.n ts.c (fun v w' => v = .int .i64 (opE o) ∧ Mod [] w w') w' := fun w' hf N => by
  rw [if_neg (by rw [hf]; decide)] at hE
  have no : ∀ {k : Int} {w'' : World}, opE o = k → Mod [] w w'' → (Value.int .i64 k = Value.int .i64 (opE o) ∧ Mod [] w w'') := fun e M => ⟨by rw [e], M⟩
  refine (ycW o.part.n w').mono ?_
  rintro e w8 ⟨rfl, rfl⟩
  refine ⟨_, rfl, yaD.of0 (Mod.refl _), yaB (fun g => no (by rw [hE, if_pos (by rw [yjM g]; rfl)]) N) fun g1 => ?_⟩
  refine (ycW o.n w8).mono ?_
  rintro e w9 ⟨rfl, rfl⟩
  refine ⟨_, rfl, yaD.of0 (Mod.refl _), yaB (fun g => no (by rw [hE, if_pos (by rw [yjM g]; simp)]) N) fun g2 => ?_⟩
  refine (ycW o.off w9).mono ?_
  rintro e w10 ⟨rfl, rfl⟩
  refine ⟨_, rfl, yaD.of0 (Mod.refl _), yaB (fun g => no (by rw [hE, if_pos (by rw [yjM g]; simp)]) N) fun g3 => ?_⟩
  refine (ycW o.gen w10).mono ?_
  rintro e w11 ⟨rfl, rfl⟩
  refine ⟨_, rfl, yaD.of0 (Mod.refl _), yaB (fun g => no (by rw [hE, if_pos (by rw [yjM g]; simp)]) N) fun g4 => ?_⟩
  rw [if_neg (by rw [yh5 g1, yh5 g2, yh5 g3, yh5 g4]; decide)] at hE
  refine yaB (fun g => ?_) fun g => no (by rw [hE, if_neg (by simpa using g)]) N
  refine (yvV (b := o.b) (rs := rs) (h1.keep0 N)).mono ?_
  rintro e w12 ⟨rfl, M12⟩
  exact ⟨_, rfl, yaD.of0 M12, no (by rw [hE, if_pos (by simpa using g)]) (N.go0 M12 (by simp))⟩
 have hNs := fun w' (M : Mod [] w7 w') => yB0 (l := o.topics) (ts := ts) (h2.keep0 (N7.go0 M (by simp)))
 have hN1 := yhK o.part.t
 have hN2 := yhK o.g
 have hN3 := yhK o.m
 unfold yqQ at bad c1
 have A112 : ∀ w, Calls pP 124 #[.string (yfJ o.kind), .int .u8 112] w fun e w' => e = .returned (.bool (ha o.kind 112)) ∧ w' = w := fun w => ybZ k0 k1 (c := 112) (by decide) w
 have A116 : ∀ w, Calls pP 124 #[.string (yfJ o.kind), .int .u8 116] w fun e w' => e = .returned (.bool (ha o.kind 116)) ∧ w' = w := fun w => ybZ k0 k1 (c := 116) (by decide) w
 have A103 : ∀ w, Calls pP 124 #[.string (yfJ o.kind), .int .u8 103] w fun e w' => e = .returned (.bool (ha o.kind 103)) ∧ w' = w := fun w => ybZ k0 k1 (c := 103) (by decide) w
 have A109 : ∀ w, Calls pP 124 #[.string (yfJ o.kind), .int .u8 109] w fun e w' => e = .returned (.bool (ha o.kind 109)) ∧ w' = w := fun w => ybZ k0 k1 (c := 109) (by decide) w
 have A108 : ∀ w, Calls pP 124 #[.string (yfJ o.kind), .int .u8 108] w fun e w' => e = .returned (.bool (ha o.kind 108)) ∧ w' = w := fun w => ybZ k0 k1 (c := 108) (by decide) w
 clear hE h1 h2 N5 M7
 generalize ha o.kind 112 = P at *
 generalize ha o.kind 116 = T at *
 generalize ha o.kind 103 = G at *
 generalize ha o.kind 109 = M at *
 generalize ha o.kind 108 = L at *
 generalize ybS o.part.t = n1 at *
 generalize ybS o.g = n2 at *
 generalize ybS o.m = n3 at *
 generalize ycJ o.topics = ns at *
 generalize yeH o = on at *
 repeat' (first | ((with_reducible refine yaB (fun g => ?_) fun g => ?_) <;> first | exact absurd g (by decide) | subst g | (replace g := yjM g; subst g) | (replace g := yh5 g; subst g) | clear g) | (with_reducible refine Calls.mono (A112 _) ?_; rintro e w' ⟨rfl, rfl⟩; refine ⟨_, rfl, yaD.of0 (Mod.refl _), ?_⟩) | (with_reducible refine Calls.mono (A116 _) ?_; rintro e w' ⟨rfl, rfl⟩; refine ⟨_, rfl, yaD.of0 (Mod.refl _), ?_⟩) | (with_reducible refine Calls.mono (A103 _) ?_; rintro e w' ⟨rfl, rfl⟩; refine ⟨_, rfl, yaD.of0 (Mod.refl _), ?_⟩) | (with_reducible refine Calls.mono (A109 _) ?_; rintro e w' ⟨rfl, rfl⟩; refine ⟨_, rfl, yaD.of0 (Mod.refl _), ?_⟩) | (with_reducible refine Calls.mono (A108 _) ?_; rintro e w' ⟨rfl, rfl⟩; refine ⟨_, rfl, yaD.of0 (Mod.refl _), ?_⟩) | (with_reducible refine Calls.mono (hN1 _) ?_; rintro e w' ⟨rfl, rfl⟩; refine ⟨_, rfl, yaD.of0 (Mod.refl _), ?_⟩) | (with_reducible refine Calls.mono (hN2 _) ?_; rintro e w' ⟨rfl, rfl⟩; refine ⟨_, rfl, yaD.of0 (Mod.refl _), ?_⟩) | (with_reducible refine Calls.mono (hN3 _) ?_; rintro e w' ⟨rfl, rfl⟩; refine ⟨_, rfl, yaD.of0 (Mod.refl _), ?_⟩) | (with_reducible refine Calls.mono (hNs _ (Mod.refl _)) ?_; rintro e w8 ⟨rfl, M8⟩; have N8 := N7.go0 M8 (by simp); refine ⟨_, rfl, yaD.of0 M8, ?_⟩))
 all_goals first | exact bad _ (by first | rfl | simp) N7 | exact bad _ (by first | rfl | simp) N8 | exact yAM (c1 _ (by first | rfl | simp) N7) | exact yAM (c1 _ (by first | rfl | simp) N8)
theorem ymW {x : Int} (h0 : 0 ≤ x) (h1 : x ≤ 1099511627776) : num x = true := by simp [num]; omega
section
set_option maxRecDepth 100000
variable {R : VWP} {w w0 : World} {m : Nat} {i0 i1 i2 i3 i4 i5 i6 i7 i8 i9 j0 j1 j2 j3 j4 j5 j6 j7 j8 j9 k0 k1 k2 k3 k4 k5 k6 k7 k8 k9 l0 l1 l2 l3 l4 l5 l6 l7 l8 l9 : Int} {s0 s1 s2 s3 s4 s5 s6 s7 s8 s9 t0 t1 t2 t3 t4 t5 t6 t7 t8 t9 : BA} {n0 n1 n2 n3 n4 n5 n6 n7 n8 n9 o0 o1 o2 o3 o4 o5 o6 o7 o8 o9 p0 p1 p2 p3 p4 p5 p6 p7 p8 p9 : Nat} {q0 q1 q2 q3 q4 q5 q6 q7 q8 q9 r0 r1 r2 r3 r4 r5 r6 r7 r8 r9 : OA} {B0 B1 B2 B3 B4 B5 B6 B7 B8 B9 : Bool} {M0 M1 M2 M3 : Option Nat} {V0 V1 V2 V3 V4 V5 : Value} {A0 A1 A2 : Addr}
theorem yGr (h :
 brB (decide (i0 ≥ 1)) (
 R (.bool (decide (i0 ≤ 1099511627776))) w)
 (
 R (.bool false) w)) :
 CR pP 99 #[.int .i64 i0] w R :=
 yaA Tryz.wide_mixed (an := []) Tryz.func99 rfl rfl (by kernel_rfl) rfl (Eq.mpr (by kernel_rfl) h)
def yoZ : LA := ⟨[0, 0, 1, 0, 1], [0, 3], [], 0, []⟩
def yo0 : LA := ⟨[0, 0, 1, 0, 1, 1], [0, 4], [], 0, []⟩
def yo1 : List LA := [yoZ, yo0]
abbrev yvW := dnF pP yo1 (code Tryz.f63)
abbrev yLb := yaN pP yo1 (code Tryz.f63)
abbrev yvX (p : List Nat) (K : List Kh) (R : VWP) := yaN pP yo1 (code Tryz.f63) p K (ya4 pP Tryz.f63 [] R)
def yiK (a0 : OA) (a2 a1 : Nat) : Int → List Value × List TB := fun a3 => ([.slice a0 a2 a1, .int .i64 a3], [])
def yiL (a0 : OA) (a2 a1 : Nat) : Int → List Value × List TB := fun a3 => ([.slice a0 a2 a1, .int .i64 a3], [])
abbrev yB2 (a0 : OA) (a2 a1 : Nat) (I : Nat → Int → World → Prop) (m : Nat) : Kh := KG (yiK a0 a2 a1) (U1 I) m
theorem yxL {I : Nat → Int → World → Prop} (m' : Nat) (h1 : m' < m) (h2 : I m' i0 w) : KS (yB2 q0 n0 n1 I m) (yiK q0 n0 n1 i0) w := ⟨m', h1, _, rfl, rfl, h2⟩
theorem ymX {a1 : OA} (I : Nat → Int → World → Prop) (m0 : Nat) (h0 : I m0 i0 w0)
 (hr : ∀ m a2 w, I m a2 w →
 brB (decide (a2 < (n0 : Int))) (
 ixA a1 n0 a2 16 fun q1 =>
 yaH .i64 w q1 fun x2 =>
 Calls pP 99 #[.int .i64 x2] w fun e w3 => ∃ t4, e = .returned (.bool t4) ∧
 brB (!t4) (
 R (.int .i64 1) w3)
 (
 ixA a1 n0 a2 16 fun q5 =>
 yaH .i64 w3 (Addr.add q5 1) fun x6 =>
 Calls pP 99 #[.int .i64 x6] w3 fun e w7 => ∃ t8, e = .returned (.bool t8) ∧
 brB (!t8) (
 R (.int .i64 1) w7)
 (
 KS (yB2 a1 n0 n1 I m) (yiK a1 n0 n1 (IntKind.wrap .i64 (a2 + 1))) w7)))
 (
 yaK yo0 (yvW 396 [0, 0, 1, 0, 1, 1]) (yvX [1, 1, 0, 1, 0] [] R) (yiL a1 n0 n1 0) w)) :
 yaK yoZ (yvW 397 [0, 0, 1, 0, 1]) (yvX [1, 0, 1, 0] [] R) (yiK a1 n0 n1 i0) w0 :=
 lrule (yiK a1 n0 n1) (U1 I) h0 (by rintro m a2 w h; exact ⟨by kernel_rfl, by kernel_rfl, fun js => Eq.mpr (by kernel_rfl) (hr m a2 w h)⟩)
abbrev yB3 (a0 : OA) (a2 a1 : Nat) (I : Nat → Int → World → Prop) (m : Nat) : Kh := KG (yiL a0 a2 a1) (U1 I) m
theorem yxM {I : Nat → Int → World → Prop} (m' : Nat) (h1 : m' < m) (h2 : I m' i0 w) : KS (yB3 q0 n0 n1 I m) (yiL q0 n0 n1 i0) w := ⟨m', h1, _, rfl, rfl, h2⟩
theorem ymY {a2 : OA} (I : Nat → Int → World → Prop) (m0 : Nat) (h0 : I m0 i0 w0)
 (hr : ∀ m a1 w, I m a1 w →
 brB (decide (a1 < (n0 : Int))) (
 ixA a2 n0 a1 16 fun q9 =>
 yaH .i64 w (Addr.add q9 2) fun b7 => yaT w (Addr.add (Addr.add q9 2) 1) fun b3 => yaH .i64 w (Addr.add (Addr.add q9 2) 2) fun b8 => yaH .i64 w (Addr.add (Addr.add q9 2) 3) fun b9 => yaH .i64 w (Addr.add (Addr.add q9 2) 4) fun c0 => yaH .i64 w (Addr.add (Addr.add q9 2) 5) fun c1 => yaH .i64 w (Addr.add (Addr.add q9 2) 6) fun c2 => yaH .i64 w (Addr.add (Addr.add q9 2) 7) fun c3 => yaY w (Addr.add (Addr.add q9 2) 8) fun a7 b1 a9 => yaT w (Addr.add (Addr.add q9 2) 9) fun b4 => yaT w (Addr.add (Addr.add q9 2) 10) fun b5 => yaH .i64 w (Addr.add (Addr.add q9 2) 11) fun c4 => yaX w (Addr.add (Addr.add q9 2) 12) fun b6 => yaY w (Addr.add (Addr.add q9 2) 13) fun a8 b2 b0 =>
 Calls pP 100 #[(.agg (Z1 b7 b3 b8 b9 c0 c1 c2 c3 a7 b1 a9 b4 b5 c4 b6 a8 b2 b0))] w fun e a6 => ∃ a4, e = .returned (.int .i64 a4) ∧
 brB (a4 != 0) (
 R (.int .i64 a4) a6)
 (
 KS (yB3 a2 n0 n1 I m) (yiL a2 n0 n1 (IntKind.wrap .i64 (a1 + 1))) a6))
 (
 R (.int .i64 0) w)) :
 yaK yo0 (yvW 396 [0, 0, 1, 0, 1, 1]) (yvX [1, 1, 0, 1, 0] [] R) (yiL a2 n0 n1 i0) w0 :=
 lrule (yiL a2 n0 n1) (U1 I) h0 (by rintro m a1 w h; exact ⟨by kernel_rfl, by kernel_rfl, fun js => Eq.mpr (by kernel_rfl) (hr m a1 w h)⟩)
theorem yB4 (h :
 yaK yoZ (yvW 397 [0, 0, 1, 0, 1]) (yvX [1, 0, 1, 0] [] R) (yiK q0 n0 n1 0) w) :
 CR pP 63 #[.slice q0 n0 n1] w R :=
 yaA Tryz.wide_mixed (an := yo1) Tryz.func63 rfl rfl (by kernel_rfl) rfl (Eq.mpr (by kernel_rfl) h)
end
theorem yB5 (n : Int) (w : World) : Calls pP 99 #[.int .i64 n] w fun e w' => e = .returned (.bool (!yw2 n)) ∧ w' = w := by
 refine yaP (yGr ?_)
 refine yaC (fun h => ⟨?_, rfl⟩) fun h => ⟨?_, rfl⟩
 ·congr 1; rw [Bool.eq_iff_iff]; simp [yw2]; omega
 ·congr 1; symm; rw [Bool.eq_false_iff]; simp [yw2]; omega
theorem yB6 {w : World} {s : Sl} {ll : List CV} (h : CsAt w s ll) (hl : ll.length ≤ 1000000) :
  Calls pP 63 #[.slice s.a s.n s.c] w fun e w' => e = .returned (.int .i64 (ydE (ll.map (·.x)))) ∧ Mod [] w w' := by
 have hn := h.sl.1
 have ea : ((ll.map (·.x)).any yfU) = ll.any fun q => yfU q.x := by rw [List.any_map]; rfl
 refine yaP (yB4 ?_)
 refine ymX (fun mm x w' => ∃ k : Nat, x = k ∧ k ≤ ll.length ∧ w' = w ∧ ((ll.take k).any fun q => yfU q.x) = false ∧ mm = ll.length - k) ll.length ⟨0, rfl, by omega, rfl, by simp, rfl⟩ ?_
 rintro mm x w1 ⟨k, rfl, hk, rfl, ha, rfl⟩
 refine yaC (fun hlt => ?_) fun hge => ?_
 ·obtain ⟨q, hq⟩ : ∃ q, ll[k]? = some q := ⟨_, List.getElem?_eq_getElem (by omega)⟩
  have bad : yfU q.x = true → ydE (ll.map (·.x)) = 1 := fun ho => by
   rw [ydE, if_pos]
   rw [ea]
   exact List.any_eq_true.2 ⟨q, List.mem_of_getElem? hq, ho⟩
  refine h.sl.ix hq fun ad had => yaF (x := q.x.c) (by simpa [add_zero] using had 0 _ rfl) ?_
  refine (yB5 q.x.c w1).mono ?_
  rintro _ w2 ⟨rfl, rfl⟩
  refine ⟨_, rfl, yaB (fun g => ⟨by rw [bad (by simp at g; simp [yfU, g])], Mod.refl _⟩) fun g => ?_⟩
  refine h.sl.ix hq fun ad had => yaF (x := q.x.n) (had 1 _ rfl) ?_
  refine (yB5 q.x.n w2).mono ?_
  rintro _ w3 ⟨rfl, rfl⟩
  refine ⟨_, rfl, yaB (fun g2 => ⟨by rw [bad (by simp at g2; simp [yfU, g2])], Mod.refl _⟩) fun g2 => ?_⟩
  refine yxL (ll.length - (k + 1)) (by omega) ⟨k + 1, by rw [yaG (by omega) (by omega)]; omega, by omega, rfl, ?_, rfl⟩
  rw [yvI hq, ha]
  simp at g g2
  simp [yfU, g, g2]
 have hk : k = ll.length := by omega
 subst hk
 rw [List.take_length] at ha
 have hE : ydE (ll.map (·.x)) = match (ll.map (·.x)).find? fun x => opE x.op ≠ 0 with
   | none => 0
   | some x => opE x.op := by rw [ydE, ea, ha]; rfl
 refine ymY (fun mm x w' => ∃ k : Nat, x = k ∧ k ≤ ll.length ∧ Mod [] w1 w' ∧ (∀ q ∈ ll.take k, opE q.x.op = 0) ∧ mm = ll.length - k) ll.length ⟨0, rfl, by omega, Mod.refl _, by simp, rfl⟩ ?_
 rintro mm x w4 ⟨k, rfl, hk, M4, hz, rfl⟩
 refine yaC (fun hlt => ?_) fun hge => ?_
 ·obtain ⟨q, hq⟩ : ∃ q, ll[k]? = some q := ⟨_, List.getElem?_eq_getElem (by omega)⟩
  refine (h.sl.keep0 M4).ix hq fun ad had => ytH (yoY had) ?_
  have ho4 := (h.op q (List.mem_of_getElem? hq)).keep0 M4
  refine (yrB ho4.recs ho4.topics).mono ?_
  rintro _ w6 ⟨rfl, M6⟩
  have N6 := M4.go0 M6 (by simp)
  refine ⟨_, rfl, yaB (fun g2 => ?_) fun g2 => ?_⟩
  ·have g2 : opE q.x.op ≠ 0 := by simpa using g2
   refine ⟨?_, N6⟩
   rw [hE, yq8 hz hq g2]
  ·have g2 : opE q.x.op = 0 := by simpa using g2
   refine yxM (ll.length - (k + 1)) (by omega) ⟨k + 1, by rw [yaG (by omega) (by omega)]; omega, by omega, N6, ?_, rfl⟩
   intro q' hq'
   rw [List.take_add_one, hq] at hq'
   simp at hq'
   rcases hq' with hq' | rfl
   ·exact hz q' hq'
   ·exact g2
 ·have hk : k = ll.length := by omega
  subst hk
  rw [List.take_length] at hz
  refine ⟨?_, M4⟩
  rw [hE]
  have : (ll.map (·.x)).find? (fun x => opE x.op ≠ 0) = none := by
   rw [List.find?_eq_none]
   intro x hx
   obtain ⟨q', hq', rfl⟩ := List.mem_map.1 hx
   simpa using hz q' hq'
  rw [this]
section
set_option maxRecDepth 100000
variable {R : VWP} {w w0 : World} {m : Nat} {i0 i1 i2 i3 i4 i5 i6 i7 i8 i9 j0 j1 j2 j3 j4 j5 j6 j7 j8 j9 k0 k1 k2 k3 k4 k5 k6 k7 k8 k9 l0 l1 l2 l3 l4 l5 l6 l7 l8 l9 : Int} {s0 s1 s2 s3 s4 s5 s6 s7 s8 s9 t0 t1 t2 t3 t4 t5 t6 t7 t8 t9 : BA} {n0 n1 n2 n3 n4 n5 n6 n7 n8 n9 o0 o1 o2 o3 o4 o5 o6 o7 o8 o9 p0 p1 p2 p3 p4 p5 p6 p7 p8 p9 : Nat} {q0 q1 q2 q3 q4 q5 q6 q7 q8 q9 r0 r1 r2 r3 r4 r5 r6 r7 r8 r9 : OA} {B0 B1 B2 B3 B4 B5 B6 B7 B8 B9 : Bool} {M0 M1 M2 M3 : Option Nat} {V0 V1 V2 V3 V4 V5 : Value} {A0 A1 A2 : Addr}
theorem yGs {b0 : Nat} (hb : w.heap[b0]? = some (.cells (Z5 s0 i0 B0) 124)) (h :
 ∀ w1, Adv [] [] w w1 →
 Calls pP 44 #[.string s0, .int .i64 i0] w1 fun e w2 => ∃ x3 x4 x5, e = .returned (.tuple #[.int .u64 x3, .int .i64 x4, .int .i64 x5]) ∧ yaD [b0] w1 w2 ∧
 brB B0 (
 ∀ w6, Adv [b0] [] w2 w6 → w6.heap[b0]? = some (.cells (Z5 s0 i0 true) 124) →
 R (.int .i64 0) w6)
 (
 brB (x5 != 0) (
 ∀ w7, Adv [b0] [] w2 w7 → w7.heap[b0]? = some (.cells (Z5 s0 i0 true) 124) →
 R (.int .i64 0) w7)
 (
 brB (decide (x3 > 1099511627776)) (
 ∀ w8, Adv [b0] [] w2 w8 → w8.heap[b0]? = some (.cells (Z5 s0 i0 true) 124) →
 R (.int .i64 0) w8)
 (
 ∀ w9, Adv [b0] [] w2 w9 → w9.heap[b0]? = some (.cells (Z5 s0 x4 B0) 124) →
 R (.int .i64 (IntKind.wrap .i64 x3)) w9)))) :
 CR pP 83 #[(.pointer (some ⟨b0, 0, none⟩))] w R :=
 ybV Tryz.wide_mixed (an := []) Tryz.func83 rfl rfl (by kernel_rfl) rfl hb (Eq.mpr (by kernel_rfl) h)
theorem yGt {b0 : Nat} {o0 : BA} (hb : w.heap[b0]? = some (.cells (Z5 o0 i0 B0) 124)) (h :
 ∀ w1, Adv [] [] w w1 →
 Calls pP 45 (Z2 o0 i0 16) w1 fun e w2 => ∃ s3 x4 x5, e = .returned (.tuple (Z2 s3 x4 x5)) ∧ yaD [b0] w1 w2 ∧
 brB B0 (
 ∀ w6, Adv [b0] [] w2 w6 → w6.heap[b0]? = some (.cells (Z5 o0 i0 true) 124) →
 R (.string (⟨#[]⟩ : BA)) w6)
 (
 brB (x5 != 0) (
 ∀ w7, Adv [b0] [] w2 w7 → w7.heap[b0]? = some (.cells (Z5 o0 i0 true) 124) →
 R (.string (⟨#[]⟩ : BA)) w7)
 (
 ∀ w8, Adv [b0] [] w2 w8 → w8.heap[b0]? = some (.cells (Z5 o0 x4 B0) 124) →
 R (.string s3) w8))) :
 CR pP 85 #[(.pointer (some ⟨b0, 0, none⟩))] w R :=
 ybV Tryz.wide_mixed (an := []) Tryz.func85 rfl rfl (by kernel_rfl) rfl hb (Eq.mpr (by kernel_rfl) h)
def yo2 : LA := ⟨[0, 0, 1, 1, 1, 1, 1, 1, 1, 1, 1, 1, 1, 1, 1, 1, 1, 1, 1, 1, 1, 1, 0, 1, 0, 1], [0, 4, 6, 10, 11], [(0, 0, 0), (4, 1, 0), (6, 2, 0)], 3, [0]⟩
def yo3 : List LA := [yo2]
abbrev yEM := dnF pP yo3 (code Tryz.f133)
abbrev yLc := yaN pP yo3 (code Tryz.f133)
abbrev yEN (p : List Nat) (K : List Kh) (R : VWP) := yaN pP yo3 (code Tryz.f133) p K (ya4 pP Tryz.f133 [0] R)
def yiM (c1 : Int) (bm0 bm1 : Nat) (b4 : Int) (b0 : BA) (b5 b6 b7 b8 b9 c0 : Int) (a6 : OA) (a8 a7 : Nat) (b1 a3 : BA) (a5 : Int) (a4 : Bool) (bm2 : Nat) : Int × ByteArray × Int × Bool × (Option Addr) × Nat × Nat → List Value × List TB := fun (c2, a9, b3, b2, a0, a2, a1) => ([(.pointer (some ⟨bm0, 0, none⟩)), (.pointer (some ⟨bm1, 0, none⟩)), (.pointer (some ⟨bm2, 0, none⟩)), .int .i64 c1, .int .i64 c2], [⟨bm0, 124, [.string a9, .int .i64 b3, .bool b2], true⟩, ⟨bm1, 49, [.int .i64 b4, .string b0, .int .i64 b5, .int .i64 b6, .int .i64 b7, .int .i64 b8, .int .i64 b9, .int .i64 c0, .slice a6 a8 a7, .string b1, .string a3, .int .i64 a5, .bool a4, .slice a0 a2 a1], false⟩, ⟨bm2, 49, [.int .i64 0, .string ByteArray.empty, .int .i64 0, .int .i64 0, .int .i64 0, .int .i64 0, .int .i64 0, .int .i64 0, .slice none 0 0, .string ByteArray.empty, .string ByteArray.empty, .int .i64 0, .bool false, .slice none 0 0], false⟩])
abbrev yB7 (b5 : Int) (bm0 bm1 : Nat) (a8 : Int) (a6 : BA) (a9 b0 b1 b2 b3 b4 : Int) (a3 : OA) (a5 a4 : Nat) (a7 a0 : BA) (a2 : Int) (a1 : Bool) (bm2 : Nat) (I : Nat → Int → ByteArray → Int → Bool → Option Addr → Nat → Nat → World → Prop) (m : Nat) : Kh := KG (yiM b5 bm0 bm1 a8 a6 a9 b0 b1 b2 b3 b4 a3 a5 a4 a7 a0 a2 a1 bm2) (U7 I) m
theorem yxN {I : Nat → Int → ByteArray → Int → Bool → Option Addr → Nat → Nat → World → Prop} (m' : Nat) (h1 : m' < m) (h2 : I m' i9 s3 j0 B1 q1 n5 n6 w) : KS (yB7 i0 n0 n1 i1 s0 i2 i3 i4 i5 i6 i7 q0 n2 n3 s1 s2 i8 B0 n4 I m) (yiM i0 n0 n1 i1 s0 i2 i3 i4 i5 i6 i7 q0 n2 n3 s1 s2 i8 B0 n4 (i9, s3, j0, B1, q1, n5, n6)) w := ⟨m', h1, _, rfl, rfl, h2⟩
theorem yxO (I : Nat → Int → ByteArray → Int → Bool → Option Addr → Nat → Nat → World → Prop) (m0 : Nat) (h0 : I m0 i9 s3 j0 B1 q1 n5 n6 w0)
 (hr : ∀ m c1 a7 a8 a3 a0 a2 a1 w, I m c1 a7 a8 a3 a0 a2 a1 w →
 w.heap[n0]? = some (.cells (Z5 a7 a8 a3) 124) →
 brB (decide (c1 < i0)) (
 brB (!a3) (
 brB (decide (c1 < 9)) (
 ∀ d6, Adv [] [] w d6 → d6.heap[n0]? = some (.cells (Z5 a7 a8 a3) 124) →
 Calls pP 85 #[(.pointer (some ⟨n0, 0, none⟩))] d6 fun e e0 => ∃ e1, e = .returned (.string e1) ∧ yaR [n0] [(n1, 49), (n4, 49)] [n1, n4] d6 e0 ∧ ∃ c9 d5 d0, e0.heap[n0]? = some (.cells (Z5 c9 d5 d0) 124) ∧ (((.slice a0 a2 a1) : Value) = (.slice a0 a2 a1)) ∧
 al e0 (.cells #[.string e1] 9) fun e3 d8 =>
 ycR pP (Builtin.append_ #[47, 47] 47 #[.slice a0 a2 a1, (.slice (some ⟨e3, 0, none⟩) 1 1)]) d8 fun e2 e5 e4 d9 => yaD [n0, n1, n4] d8 d9 ∧
 ∀ d1, Adv [n1] [] d9 d1 → d1.heap[n0]? = some (.cells (Z5 c9 d5 d0) 124) →
 KS (yB7 i0 n0 n1 i1 s0 i2 i3 i4 i5 i6 i7 q0 n2 n3 s1 s2 i8 B0 n4 I m) (yiM i0 n0 n1 i1 s0 i2 i3 i4 i5 i6 i7 q0 n2 n3 s1 s2 i8 B0 n4 ((IntKind.wrap .i64 (c1 + 1)), c9, d5, d0, e2, e5, e4)) d1)
 (
 ∀ d2, Adv [n4] [] w d2 → d2.heap[n0]? = some (.cells (Z5 a7 a8 a3) 124) →
 R (.agg (Z1 i1 s0 i2 i3 i4 i5 i6 i7 q0 n2 n3 s1 s2 i8 B0 a0 a2 a1)) d2))
 (
 ∀ d3, Adv [n4] [] w d3 → d3.heap[n0]? = some (.cells (Z5 a7 a8 a3) 124) →
 R (.agg (Z1 i1 s0 i2 i3 i4 i5 i6 i7 q0 n2 n3 s1 s2 i8 B0 a0 a2 a1)) d3))
 (
 ∀ d4, Adv [n4] [] w d4 → d4.heap[n0]? = some (.cells (Z5 a7 a8 a3) 124) →
 R (.agg (Z1 i1 s0 i2 i3 i4 i5 i6 i7 q0 n2 n3 s1 s2 i8 B0 a0 a2 a1)) d4)) :
 yaK yo2 (yEM 386 [0, 0, 1, 1, 1, 1, 1, 1, 1, 1, 1, 1, 1, 1, 1, 1, 1, 1, 1, 1, 1, 1, 0, 1, 0, 1]) (yEN [1, 0, 1, 0, 1, 1, 1, 1, 1, 1, 1, 1, 1, 1, 1, 1, 1, 1, 1, 1, 1, 1, 1, 1, 0] [] R) (yiM i0 n0 n1 i1 s0 i2 i3 i4 i5 i6 i7 q0 n2 n3 s1 s2 i8 B0 n4 (i9, s3, j0, B1, q1, n5, n6)) w0 :=
 lrule (yiM i0 n0 n1 i1 s0 i2 i3 i4 i5 i6 i7 q0 n2 n3 s1 s2 i8 B0 n4) (U7 I) h0 (by rintro m ⟨c1, a7, a8, a3, a0, a2, a1⟩ w h; exact ⟨by kernel_rfl, by kernel_rfl, fun js => Eq.mpr (by kernel_rfl) (hr m c1 a7 a8 a3 a0 a2 a1 w h)⟩)
theorem yGu {b0 : Nat} {o0 : BA} {b7 : BA} {a9 a8 : Nat} {b6 a3 : BA} {a2 a1 : Nat} (hb : w.heap[b0]? = some (.cells (Z5 o0 i0 B0) 124)) (h :
 ∀ b1, w.heap.size ≤ b1 →
 ∀ b2, w.heap.size ≤ b2 →
 brB (i9 == 116) (
 ∀ w3, Adv [] [b2, b1] w w3 → w3.heap[b0]? = some (.cells (Z5 o0 i0 B0) 124) →
 Calls pP 85 #[(.pointer (some ⟨b0, 0, none⟩))] w3 fun e w4 => ∃ s5, e = .returned (.string s5) ∧ yaR [b0] [(b1, 49), (b2, 49)] [b1, b2] w3 w4 ∧ ∃ s6 x7 t8, w4.heap[b0]? = some (.cells (Z5 s6 x7 t8) 124) ∧
 ∀ w9, Adv [b2, b1] [] w4 w9 → w9.heap[b0]? = some (.cells (Z5 s6 x7 t8) 124) →
 R (.agg (Z1 i1 s5 i2 i3 i4 i5 i6 i7 q0 a9 a8 b6 a3 i8 B1 q1 a2 a1)) w9)
 (
 brB (i9 == 112) (
 ∀ c3, Adv [] [b2, b1] w c3 → c3.heap[b0]? = some (.cells (Z5 o0 i0 B0) 124) →
 Calls pP 85 #[(.pointer (some ⟨b0, 0, none⟩))] c3 fun e e0 => ∃ h1, e = .returned (.string h1) ∧ yaR [b0] [(b1, 49), (b2, 49)] [b1, b2] c3 e0 ∧ ∃ h2 v3 u3, e0.heap[b0]? = some (.cells (Z5 h2 v3 u3) 124) ∧
 ∀ c4, Adv [b1] [] e0 c4 → c4.heap[b0]? = some (.cells (Z5 h2 v3 u3) 124) →
 Calls pP 83 #[(.pointer (some ⟨b0, 0, none⟩))] c4 fun e e1 => ∃ v4, e = .returned (.int .i64 v4) ∧ yaR [b0] [(b1, 49), (b2, 49)] [b1, b2] c4 e1 ∧ ∃ h3 v5 u4, e1.heap[b0]? = some (.cells (Z5 h3 v5 u4) 124) ∧
 ∀ e2, Adv [b2, b1] [] e1 e2 → e2.heap[b0]? = some (.cells (Z5 h3 v5 u4) 124) →
 R (.agg (Z1 i1 h1 v4 i3 i4 i5 i6 i7 q0 a9 a8 b6 a3 i8 B1 q1 a2 a1)) e2)
 (
 brB (i9 == 110) (
 ∀ c5, Adv [] [b2, b1] w c5 → c5.heap[b0]? = some (.cells (Z5 o0 i0 B0) 124) →
 Calls pP 83 #[(.pointer (some ⟨b0, 0, none⟩))] c5 fun e e3 => ∃ v6, e = .returned (.int .i64 v6) ∧ yaR [b0] [(b1, 49), (b2, 49)] [b1, b2] c5 e3 ∧ ∃ h4 v7 u5, e3.heap[b0]? = some (.cells (Z5 h4 v7 u5) 124) ∧
 ∀ e4, Adv [b2, b1] [] e3 e4 → e4.heap[b0]? = some (.cells (Z5 h4 v7 u5) 124) →
 R (.agg (Z1 i1 b7 i2 v6 i4 i5 i6 i7 q0 a9 a8 b6 a3 i8 B1 q1 a2 a1)) e4)
 (
 brB (i9 == 111) (
 ∀ c6, Adv [] [b2, b1] w c6 → c6.heap[b0]? = some (.cells (Z5 o0 i0 B0) 124) →
 Calls pP 83 #[(.pointer (some ⟨b0, 0, none⟩))] c6 fun e e5 => ∃ v8, e = .returned (.int .i64 v8) ∧ yaR [b0] [(b1, 49), (b2, 49)] [b1, b2] c6 e5 ∧ ∃ h5 v9 u6, e5.heap[b0]? = some (.cells (Z5 h5 v9 u6) 124) ∧
 ∀ e6, Adv [b2, b1] [] e5 e6 → e6.heap[b0]? = some (.cells (Z5 h5 v9 u6) 124) →
 R (.agg (Z1 i1 b7 i2 i3 v8 i5 i6 i7 q0 a9 a8 b6 a3 i8 B1 q1 a2 a1)) e6)
 (
 brB (i9 == 98) (
 ((
 ∀ c2, w.heap.size ≤ c2 →
 ∀ e7, Adv [] [c2, b2, b1] w e7 →
 Calls pP 139 #[.string o0, .int .i64 i0] e7 fun e e8 => ∃ g3 g4 g5 d3 d8 d6 g6 w0, e = .returned (.tuple #[(.agg (Z9 g3 g4 g5 d3 d8 d6)), .int .i64 g6, .int .i64 w0]) ∧ yaD [b0, b1, b2, c2] e7 e8 ∧
 brB B0 (
 ∀ e9, Adv [b2, b0, b1, c2] [] e8 e9 → e9.heap[b0]? = some (.cells (Z5 o0 g6 true) 124) →
 R (.agg (Z1 i1 b7 i2 i3 i4 g3 g4 g5 d3 d8 d6 b6 a3 i8 B1 q1 a2 a1)) e9)
 (
 ∀ f0, Adv [b2, b0, b1, c2] [] e8 f0 → f0.heap[b0]? = some (.cells (Z5 o0 g6 (w0 != 0)) 124) →
 R (.agg (Z1 i1 b7 i2 i3 i4 g3 g4 g5 d3 d8 d6 b6 a3 i8 B1 q1 a2 a1)) f0)) ∧
 (
 ∀ f1, Adv [] [b2, b1] w f1 →
 Calls pP 139 #[.string o0, .int .i64 i0] f1 fun e c7 => ∃ g7 g8 g9 d4 d9 d7 h0 w1, e = .returned (.tuple #[(.agg (Z9 g7 g8 g9 d4 d9 d7)), .int .i64 h0, .int .i64 w1]) ∧ yaD [b0, b1, b2] f1 c7 ∧
 ∀ d5, c7.heap.size ≤ d5 →
 brB B0 (
 ∀ f2, Adv [b2, b0, b1] [d5] c7 f2 → f2.heap[b0]? = some (.cells (Z5 o0 h0 true) 124) →
 R (.agg (Z1 i1 b7 i2 i3 i4 g7 g8 g9 d4 d9 d7 b6 a3 i8 B1 q1 a2 a1)) f2)
 (
 ∀ f3, Adv [b2, b0, b1] [d5] c7 f3 → f3.heap[b0]? = some (.cells (Z5 o0 h0 (w1 != 0)) 124) →
 R (.agg (Z1 i1 b7 i2 i3 i4 g7 g8 g9 d4 d9 d7 b6 a3 i8 B1 q1 a2 a1)) f3))))
 (
 brB (i9 == 103) (
 ∀ c8, Adv [] [b2, b1] w c8 → c8.heap[b0]? = some (.cells (Z5 o0 i0 B0) 124) →
 Calls pP 85 #[(.pointer (some ⟨b0, 0, none⟩))] c8 fun e f4 => ∃ h6, e = .returned (.string h6) ∧ yaR [b0] [(b1, 49), (b2, 49)] [b1, b2] c8 f4 ∧ ∃ h7 w2 u7, f4.heap[b0]? = some (.cells (Z5 h7 w2 u7) 124) ∧
 ∀ f5, Adv [b2, b1] [] f4 f5 → f5.heap[b0]? = some (.cells (Z5 h7 w2 u7) 124) →
 R (.agg (Z1 i1 b7 i2 i3 i4 i5 i6 i7 q0 a9 a8 h6 a3 i8 B1 q1 a2 a1)) f5)
 (
 brB (i9 == 109) (
 ∀ c9, Adv [] [b2, b1] w c9 → c9.heap[b0]? = some (.cells (Z5 o0 i0 B0) 124) →
 Calls pP 85 #[(.pointer (some ⟨b0, 0, none⟩))] c9 fun e f6 => ∃ h8, e = .returned (.string h8) ∧ yaR [b0] [(b1, 49), (b2, 49)] [b1, b2] c9 f6 ∧ ∃ h9 w5 u9, f6.heap[b0]? = some (.cells (Z5 h9 w5 u9) 124) ∧
 ∀ f7, Adv [b2, b1] [] f6 f7 → f7.heap[b0]? = some (.cells (Z5 h9 w5 u9) 124) →
 R (.agg (Z1 i1 b7 i2 i3 i4 i5 i6 i7 q0 a9 a8 b6 h8 i8 B1 q1 a2 a1)) f7)
 (
 brB (i9 == 101) (
 ∀ d0, Adv [] [b2, b1] w d0 → d0.heap[b0]? = some (.cells (Z5 o0 i0 B0) 124) →
 Calls pP 83 #[(.pointer (some ⟨b0, 0, none⟩))] d0 fun e f8 => ∃ w6, e = .returned (.int .i64 w6) ∧ yaR [b0] [(b1, 49), (b2, 49)] [b1, b2] d0 f8 ∧ ∃ u0 w7 v0, f8.heap[b0]? = some (.cells (Z5 u0 w7 v0) 124) ∧
 ∀ f9, Adv [b2, b1] [] f8 f9 → f9.heap[b0]? = some (.cells (Z5 u0 w7 v0) 124) →
 R (.agg (Z1 i1 b7 i2 i3 i4 i5 i6 i7 q0 a9 a8 b6 a3 w6 B1 q1 a2 a1)) f9)
 (
 brB (i9 == 114) (
 ∀ d1, Adv [] [b2, b1] w d1 → d1.heap[b0]? = some (.cells (Z5 o0 i0 B0) 124) →
 Calls pP 83 #[(.pointer (some ⟨b0, 0, none⟩))] d1 fun e g0 => ∃ w8, e = .returned (.int .i64 w8) ∧ yaR [b0] [(b1, 49), (b2, 49)] [b1, b2] d1 g0 ∧ ∃ u1 x0 v1, g0.heap[b0]? = some (.cells (Z5 u1 x0 v1) 124) ∧
 ∀ g1, Adv [b2, b1] [] g0 g1 → g1.heap[b0]? = some (.cells (Z5 u1 x0 v1) 124) →
 R (.agg (Z1 i1 b7 i2 i3 i4 i5 i6 i7 q0 a9 a8 b6 a3 i8 (w8 == 1) q1 a2 a1)) g1)
 (
 ∀ d2, Adv [] [b2, b1] w d2 → d2.heap[b0]? = some (.cells (Z5 o0 i0 B0) 124) →
 Calls pP 83 #[(.pointer (some ⟨b0, 0, none⟩))] d2 fun e g2 => ∃ x1, e = .returned (.int .i64 x1) ∧ yaR [b0] [(b1, 49), (b2, 49)] [b1, b2] d2 g2 ∧ ∃ u2 x2 v2, g2.heap[b0]? = some (.cells (Z5 u2 x2 v2) 124) ∧
 yaK yo2 (yEM 386 [0, 0, 1, 1, 1, 1, 1, 1, 1, 1, 1, 1, 1, 1, 1, 1, 1, 1, 1, 1, 1, 1, 0, 1, 0, 1]) (yEN [1, 0, 1, 0, 1, 1, 1, 1, 1, 1, 1, 1, 1, 1, 1, 1, 1, 1, 1, 1, 1, 1, 1, 1, 0] [] R) (yiM x1 b0 b1 i1 b7 i2 i3 i4 i5 i6 i7 q0 a9 a8 b6 a3 i8 B1 b2 (0, u2, x2, v2, q1, a2, a1)) g2)))))))))) :
 CR pP 133 #[(.pointer (some ⟨b0, 0, none⟩)), (.agg (Z1 i1 b7 i2 i3 i4 i5 i6 i7 q0 a9 a8 b6 a3 i8 B1 q1 a2 a1)), .int .u8 i9] w R :=
 ybV Tryz.wide_mixed (an := yo3) Tryz.func133 rfl rfl (by kernel_rfl) rfl hb (Eq.mpr (by kernel_rfl) h)
def yo4 : LA := ⟨[0, 0, 1, 0, 1, 1, 1, 1, 1], [0, 2, 4, 5, 6, 7], [(2, 0, 0), (4, 1, 0), (5, 2, 0)], 3, [1]⟩
def yo5 : List LA := [yo4]
abbrev yEO := dnF pP yo5 (code Tryz.f115)
abbrev yLd := yaN pP yo5 (code Tryz.f115)
abbrev yEP (p : List Nat) (K : List Kh) (R : VWP) := yaN pP yo5 (code Tryz.f115) p K (ya4 pP Tryz.f115 [] R)
def yiN (c1 c2 : BA) (bm0 bm1 bm2 : Nat) : Int × ByteArray × Int × Bool × Int × ByteArray × Int × Int × Int × Int × Int × Int × (Option Addr) × Nat × Nat × ByteArray × ByteArray × Int × Bool × (Option Addr) × Nat × Nat → List Value × List TB := fun (c3, a9, b3, b2, b4, b0, b5, b6, b7, b8, b9, c0, a6, a8, a7, b1, a3, a5, a4, a0, a2, a1) => ([.string c1, (.pointer (some ⟨bm0, 0, none⟩)), (.pointer (some ⟨bm1, 0, none⟩)), (.pointer (some ⟨bm2, 0, none⟩)), .string c2, .int .i64 c3], [⟨bm0, 49, [.int .i64 0, .string ByteArray.empty, .int .i64 0, .int .i64 0, .int .i64 0, .int .i64 0, .int .i64 0, .int .i64 0, .slice none 0 0, .string ByteArray.empty, .string ByteArray.empty, .int .i64 0, .bool false, .slice none 0 0], false⟩, ⟨bm1, 124, [.string a9, .int .i64 b3, .bool b2], true⟩, ⟨bm2, 49, [.int .i64 b4, .string b0, .int .i64 b5, .int .i64 b6, .int .i64 b7, .int .i64 b8, .int .i64 b9, .int .i64 c0, .slice a6 a8 a7, .string b1, .string a3, .int .i64 a5, .bool a4, .slice a0 a2 a1], false⟩])
abbrev yB8 (a0 a1 : BA) (bm0 bm1 bm2 : Nat) (I : Nat → Int → ByteArray → Int → Bool → Int → ByteArray → Int → Int → Int → Int → Int → Int → Option Addr → Nat → Nat → ByteArray → ByteArray → Int → Bool → Option Addr → Nat → Nat → World → Prop) (m : Nat) : Kh := KG (yiN a0 a1 bm0 bm1 bm2) (U22 I) m
theorem yxP {I : Nat → Int → ByteArray → Int → Bool → Int → ByteArray → Int → Int → Int → Int → Int → Int → Option Addr → Nat → Nat → ByteArray → ByteArray → Int → Bool → Option Addr → Nat → Nat → World → Prop} (m' : Nat) (h1 : m' < m) (h2 : I m' i0 s2 i1 B0 i2 s3 i3 i4 i5 i6 i7 i8 q0 n3 n4 s4 s5 i9 B1 q1 n5 n6 w) : KS (yB8 s0 s1 n0 n1 n2 I m) (yiN s0 s1 n0 n1 n2 (i0, s2, i1, B0, i2, s3, i3, i4, i5, i6, i7, i8, q0, n3, n4, s4, s5, i9, B1, q1, n5, n6)) w := ⟨m', h1, _, rfl, rfl, h2⟩
theorem yxQ (I : Nat → Int → ByteArray → Int → Bool → Int → ByteArray → Int → Int → Int → Int → Int → Int → Option Addr → Nat → Nat → ByteArray → ByteArray → Int → Bool → Option Addr → Nat → Nat → World → Prop) (m0 : Nat) (h0 : I m0 i0 s2 i1 B0 i2 s3 i3 i4 i5 i6 i7 i8 q0 n3 n4 s4 s5 i9 B1 q1 n5 n6 w0)
 (hr : ∀ m d9 b9 c0 b8 b1 a9 b2 b3 b4 b5 b6 b7 a6 a8 a7 b0 s3 a5 a4 a1 a3 a2 w, I m d9 b9 c0 b8 b1 a9 b2 b3 b4 b5 b6 b7 a6 a8 a7 b0 s3 a5 a4 a1 a3 a2 w →
 w.heap[n1]? = some (.cells (Z5 b9 c0 b8) 124) →
 brB (decide (d9 < (s1.size : Int))) (
 brB (!b8) (
 ixS s1 d9 fun v1 =>
 ∀ f2, Adv [] [] w f2 → f2.heap[n1]? = some (.cells (Z5 b9 c0 b8) 124) →
 Calls pP 133 #[(.pointer (some ⟨n1, 0, none⟩)), (.agg (Z1 b1 a9 b2 b3 b4 b5 b6 b7 a6 a8 a7 b0 s3 a5 a4 a1 a3 a2)), .int .u8 v1] f2 fun e f5 => ∃ u0 h4 u1 u2 u3 u4 u5 u6 g7 h2 g9 h5 h6 u7 h9 g8 h3 h1, e = .returned (.agg (Z1 u0 h4 u1 u2 u3 u4 u5 u6 g7 h2 g9 h5 h6 u7 h9 g8 h3 h1)) ∧ yaR [n1] [(n0, 49), (n2, 49)] [n0, n2] f2 f5 ∧ ∃ f3 g5 f4, f5.heap[n1]? = some (.cells (Z5 f3 g5 f4) 124) ∧
 ∀ f6, Adv [n2] [] f5 f6 → f6.heap[n1]? = some (.cells (Z5 f3 g5 f4) 124) →
 KS (yB8 s0 s1 n0 n1 n2 I m) (yiN s0 s1 n0 n1 n2 ((IntKind.wrap .i64 (d9 + 1)), f3, g5, f4, u0, h4, u1, u2, u3, u4, u5, u6, g7, h2, g9, h5, h6, u7, h9, g8, h3, h1)) f6)
 (
 Calls pP 64 #[(.agg (Z1 b1 a9 b2 b3 b4 b5 b6 b7 a6 a8 a7 b0 s3 a5 a4 a1 a3 a2))] w fun e d7 => ∃ h7 u9, e = .returned (.tuple #[.string h7, .int .i64 u9]) ∧ yaR [n1] [(n0, 49), (n2, 49)] [n0, n2] w d7 ∧ ∃ e8 f0 d4, d7.heap[n1]? = some (.cells (Z5 e8 f0 d4) 124) ∧
 brB d4 (
 ∀ f7, Adv [n0] [] d7 f7 → f7.heap[n1]? = some (.cells (Z5 e8 f0 d4) 124) →
 R (.tuple #[(.agg (Z1 0 ByteArray.empty 0 0 0 0 0 0 none 0 0 ByteArray.empty ByteArray.empty 0 false none 0 0)), .int .i64 40]) f7)
 (
 brB (u9 != 0) (
 ∀ f8, Adv [n0] [] d7 f8 → f8.heap[n1]? = some (.cells (Z5 e8 f0 d4) 124) →
 R (.tuple #[(.agg (Z1 0 ByteArray.empty 0 0 0 0 0 0 none 0 0 ByteArray.empty ByteArray.empty 0 false none 0 0)), .int .i64 40]) f8)
 (
 brB (!(h7.toList == s0.toList)) (
 ∀ f9, Adv [n0] [] d7 f9 → f9.heap[n1]? = some (.cells (Z5 e8 f0 d4) 124) →
 R (.tuple #[(.agg (Z1 0 ByteArray.empty 0 0 0 0 0 0 none 0 0 ByteArray.empty ByteArray.empty 0 false none 0 0)), .int .i64 40]) f9)
 (
 ∀ g0, Adv [n0] [] d7 g0 → g0.heap[n1]? = some (.cells (Z5 e8 f0 d4) 124) →
 R (.tuple #[(.agg (Z1 b1 a9 b2 b3 b4 b5 b6 b7 a6 a8 a7 b0 s3 a5 a4 a1 a3 a2)), .int .i64 0]) g0)))))
 (
 Calls pP 64 #[(.agg (Z1 b1 a9 b2 b3 b4 b5 b6 b7 a6 a8 a7 b0 s3 a5 a4 a1 a3 a2))] w fun e d8 => ∃ h8 v0, e = .returned (.tuple #[.string h8, .int .i64 v0]) ∧ yaR [n1] [(n0, 49), (n2, 49)] [n0, n2] w d8 ∧ ∃ e9 f1 d5, d8.heap[n1]? = some (.cells (Z5 e9 f1 d5) 124) ∧
 brB d5 (
 ∀ g1, Adv [n0] [] d8 g1 → g1.heap[n1]? = some (.cells (Z5 e9 f1 d5) 124) →
 R (.tuple #[(.agg (Z1 0 ByteArray.empty 0 0 0 0 0 0 none 0 0 ByteArray.empty ByteArray.empty 0 false none 0 0)), .int .i64 40]) g1)
 (
 brB (v0 != 0) (
 ∀ g2, Adv [n0] [] d8 g2 → g2.heap[n1]? = some (.cells (Z5 e9 f1 d5) 124) →
 R (.tuple #[(.agg (Z1 0 ByteArray.empty 0 0 0 0 0 0 none 0 0 ByteArray.empty ByteArray.empty 0 false none 0 0)), .int .i64 40]) g2)
 (
 brB (!(h8.toList == s0.toList)) (
 ∀ g3, Adv [n0] [] d8 g3 → g3.heap[n1]? = some (.cells (Z5 e9 f1 d5) 124) →
 R (.tuple #[(.agg (Z1 0 ByteArray.empty 0 0 0 0 0 0 none 0 0 ByteArray.empty ByteArray.empty 0 false none 0 0)), .int .i64 40]) g3)
 (
 ∀ g4, Adv [n0] [] d8 g4 → g4.heap[n1]? = some (.cells (Z5 e9 f1 d5) 124) →
 R (.tuple #[(.agg (Z1 b1 a9 b2 b3 b4 b5 b6 b7 a6 a8 a7 b0 s3 a5 a4 a1 a3 a2)), .int .i64 0]) g4))))) :
 yaK yo4 (yEO 393 [0, 0, 1, 0, 1, 1, 1, 1, 1]) (yEP [1, 1, 1, 1, 1, 0, 1, 0] [] R) (yiN s0 s1 n0 n1 n2 (i0, s2, i1, B0, i2, s3, i3, i4, i5, i6, i7, i8, q0, n3, n4, s4, s5, i9, B1, q1, n5, n6)) w0 :=
 lrule (yiN s0 s1 n0 n1 n2) (U22 I) h0 (by rintro m ⟨d9, b9, c0, b8, b1, a9, b2, b3, b4, b5, b6, b7, a6, a8, a7, b0, s3, a5, a4, a1, a3, a2⟩ w h; exact ⟨by kernel_rfl, by kernel_rfl, fun js => Eq.mpr (by kernel_rfl) (hr m d9 b9 c0 b8 b1 a9 b2 b3 b4 b5 b6 b7 a6 a8 a7 b0 s3 a5 a4 a1 a3 a2 w h)⟩)
theorem yGv {a0 : BA} (h :
 ∀ b1, w.heap.size ≤ b1 →
 ∀ b2, w.heap.size ≤ b2 →
 ∀ w3, Adv [] [b2, b1] w w3 → w3.heap[b2]? = some (.cells (Z5 a0 0 false) 124) →
 Calls pP 83 #[(.pointer (some ⟨b2, 0, none⟩))] w3 fun e w4 => ∃ x5, e = .returned (.int .i64 x5) ∧ yaR [b2] [(b1, 49)] [b1] w3 w4 ∧ ∃ s6 x7 t8, w4.heap[b2]? = some (.cells (Z5 s6 x7 t8) 124) ∧
 ∀ b9, w4.heap.size ≤ b9 →
 brB t8 (
 ∀ a2, Adv [b1] [b9] w4 a2 → a2.heap[b2]? = some (.cells (Z5 s6 x7 t8) 124) →
 R (.tuple #[(.agg (Z1 0 ByteArray.empty 0 0 0 0 0 0 none 0 0 ByteArray.empty ByteArray.empty 0 false none 0 0)), .int .i64 40]) a2)
 (
 brB (decide (x5 > 12)) (
 ∀ a3, Adv [b1] [b9] w4 a3 → a3.heap[b2]? = some (.cells (Z5 s6 x7 t8) 124) →
 R (.tuple #[(.agg (Z1 0 ByteArray.empty 0 0 0 0 0 0 none 0 0 ByteArray.empty ByteArray.empty 0 false none 0 0)), .int .i64 40]) a3)
 (
 ∀ a1, Adv [] [b9] w4 a1 → a1.heap[b2]? = some (.cells (Z5 s6 x7 t8) 124) →
 Calls pP 101 #[.int .i64 x5] a1 fun e a4 => ∃ a5, e = .returned (.string a5) ∧ yaR [b2] [(b1, 49), (b9, 49)] [b1, b9] a1 a4 ∧ ∃ a6 a8 a7, a4.heap[b2]? = some (.cells (Z5 a6 a8 a7) 124) ∧
 yaK yo4 (yEO 393 [0, 0, 1, 0, 1, 1, 1, 1, 1]) (yEP [1, 1, 1, 1, 1, 0, 1, 0] [] R) (yiN a0 a5 b1 b2 b9 (0, a6, a8, a7, x5, ByteArray.empty, 0, 0, 0, 0, 0, 0, none, 0, 0, ByteArray.empty, ByteArray.empty, 0, false, none, 0, 0)) a4))) :
 CR pP 115 #[.string a0] w R :=
 yaA Tryz.wide_mixed (an := yo5) Tryz.func115 rfl rfl (by kernel_rfl) rfl (Eq.mpr (by kernel_rfl) h)
def yo6 : LA := ⟨[0, 0, 1, 0, 1, 1, 1, 1, 1], [0, 5, 6], [], 0, []⟩
def yo7 : List LA := [yo6]
abbrev yEQ := dnF pP yo7 (code Tryz.f32)
abbrev yLe := yaN pP yo7 (code Tryz.f32)
abbrev yER (p : List Nat) (K : List Kh) (R : VWP) := yaN pP yo7 (code Tryz.f32) p K (ya4 pP Tryz.f32 [] R)
def yiO (a0 : OA) (a2 a1 : Nat) : ByteArray × Int → List Value × List TB := fun (a3, a4) => ([.slice a0 a2 a1, .string a3, .int .i64 a4], [])
abbrev yB9 (a0 : OA) (a2 a1 : Nat) (I : Nat → ByteArray → Int → World → Prop) (m : Nat) : Kh := KG (yiO a0 a2 a1) (U2 I) m
theorem yxR {I : Nat → ByteArray → Int → World → Prop} (m' : Nat) (h1 : m' < m) (h2 : I m' s0 i0 w) : KS (yB9 q0 n0 n1 I m) (yiO q0 n0 n1 (s0, i0)) w := ⟨m', h1, _, rfl, rfl, h2⟩
theorem ymZ {a2 : OA} {a6 : BA} (I : Nat → ByteArray → Int → World → Prop) (m0 : Nat) (h0 : I m0 a6 i0 w0)
 (hr : ∀ m a3 a1 w, I m a3 a1 w →
 brB (decide (a1 < (n0 : Int))) (
 ixA a2 n0 a1 16 fun q5 =>
 yaH .i64 w (Addr.add q5 2) fun x6 => yaT w (Addr.add (Addr.add q5 2) 1) fun s7 => yaH .i64 w (Addr.add (Addr.add q5 2) 2) fun x8 => yaH .i64 w (Addr.add (Addr.add q5 2) 3) fun x9 => yaH .i64 w (Addr.add (Addr.add q5 2) 4) fun d3 => yaH .i64 w (Addr.add (Addr.add q5 2) 5) fun d4 => yaH .i64 w (Addr.add (Addr.add q5 2) 6) fun d5 => yaH .i64 w (Addr.add (Addr.add q5 2) 7) fun d6 => yaY w (Addr.add (Addr.add q5 2) 8) fun b6 c0 b8 => yaT w (Addr.add (Addr.add q5 2) 9) fun c3 => yaT w (Addr.add (Addr.add q5 2) 10) fun c4 => yaH .i64 w (Addr.add (Addr.add q5 2) 11) fun d7 => yaX w (Addr.add (Addr.add q5 2) 12) fun c8 => yaY w (Addr.add (Addr.add q5 2) 13) fun b7 c1 b9 =>
 Calls pP 64 #[(.agg (Z1 x6 s7 x8 x9 d3 d4 d5 d6 b6 c0 b8 c3 c4 d7 c8 b7 c1 b9))] w fun e c9 => ∃ a9 d8, e = .returned (.tuple #[.string a9, .int .i64 d8]) ∧
 ixA a2 n0 a1 16 fun c2 =>
 ∀ a5, Adv [] [] c9 a5 →
 yaH .i64 a5 c2 fun d9 =>
 ixA a2 n0 a1 16 fun a8 =>
 yaH .i64 a5 (Addr.add a8 1) fun b5 =>
 Calls pP 31 #[(.int .u64 (IntKind.wrap .u64 d9))] a5 fun e b4 => ∃ b0, e = .returned (.string b0) ∧ (yaH .i64 b4 (Addr.add a8 1) fun e0 => ((.int .i64 e0) : Value) = (.int .i64 b5)) ∧
 Calls pP 31 #[(.int .u64 (IntKind.wrap .u64 b5))] b4 fun e d0 => ∃ b1, e = .returned (.string b1) ∧
 ye9 b0 b1 fun c5 =>
 Calls pP 34 #[.string a9] d0 fun e d1 => ∃ b2, e = .returned (.string b2) ∧
 ye9 c5 b2 fun c6 =>
 Calls pP 35 #[.string c6] d1 fun e d2 => ∃ b3, e = .returned (.string b3) ∧
 ye9 a3 b3 fun c7 =>
 KS (yB9 a2 n0 n1 I m) (yiO a2 n0 n1 (c7, (IntKind.wrap .i64 (a1 + 1)))) d2)
 (
 R (.tuple #[.string a3, .int .i64 0]) w)) :
 yaK yo6 (yEQ 393 [0, 0, 1, 0, 1, 1, 1, 1, 1]) (yER [1, 1, 1, 1, 1, 0, 1, 0] [] R) (yiO a2 n0 n1 (a6, i0)) w0 :=
 lrule (yiO a2 n0 n1) (U2 I) h0 (by rintro m ⟨a3, a1⟩ w h; exact ⟨by kernel_rfl, by kernel_rfl, fun js => Eq.mpr (by kernel_rfl) (hr m a3 a1 w h)⟩)
theorem yCa (h :
 brB (decide ((n0 : Int) > 4096)) (
 R (.tuple #[(.string (⟨#[]⟩ : BA)), .int .i64 2]) w)
 (
 Calls pP 63 #[.slice q0 n0 n1] w fun e w1 => ∃ x2, e = .returned (.int .i64 x2) ∧
 brB (x2 != 0) (
 R (.tuple #[(.string (⟨#[]⟩ : BA)), .int .i64 x2]) w1)
 (
 Calls pP 31 #[(.int .u64 (IntKind.wrap .u64 (n0 : Int)))] w1 fun e w3 => ∃ s4, e = .returned (.string s4) ∧
 yaK yo6 (yEQ 393 [0, 0, 1, 0, 1, 1, 1, 1, 1]) (yER [1, 1, 1, 1, 1, 0, 1, 0] [] R) (yiO q0 n0 n1 (s4, 0)) w3))) :
 CR pP 32 #[.slice q0 n0 n1] w R :=
 yaA Tryz.wide_mixed (an := yo7) Tryz.func32 rfl rfl (by kernel_rfl) rfl (Eq.mpr (by kernel_rfl) h)
theorem yGw (h :
 ∀ b1, w.heap.size ≤ b1 →
 ∀ w2, Adv [] [b1] w w2 →
 Calls pP 44 #[.string s0, .int .i64 0] w2 fun e w3 => ∃ x4 x5 x6, e = .returned (.tuple #[.int .u64 x4, .int .i64 x5, .int .i64 x6]) ∧ yaD [b1] w2 w3 ∧
 brB (x6 != 0) (
 ∀ w7, Adv [b1] [] w3 w7 →
 R (.tuple #[(.agg (Z4 0 0 0 ByteArray.empty 0 0 0 0 0 0 none 0 0 ByteArray.empty ByteArray.empty 0 false none 0 0)), .bool false]) w7)
 (
 brB (decide (x4 > 1099511627776)) (
 ∀ w8, Adv [b1] [] w3 w8 →
 R (.tuple #[(.agg (Z4 0 0 0 ByteArray.empty 0 0 0 0 0 0 none 0 0 ByteArray.empty ByteArray.empty 0 false none 0 0)), .bool false]) w8)
 (
 Calls pP 44 #[.string s0, .int .i64 x5] w3 fun e w9 => ∃ a2 d0 d1, e = .returned (.tuple #[.int .u64 a2, .int .i64 d0, .int .i64 d1]) ∧ yaD [b1] w3 w9 ∧
 brB (d1 != 0) (
 ∀ c5, Adv [b1] [] w9 c5 →
 R (.tuple #[(.agg (Z4 0 0 0 ByteArray.empty 0 0 0 0 0 0 none 0 0 ByteArray.empty ByteArray.empty 0 false none 0 0)), .bool false]) c5)
 (
 brB (decide (a2 > 1099511627776)) (
 ∀ c6, Adv [b1] [] w9 c6 →
 R (.tuple #[(.agg (Z4 0 0 0 ByteArray.empty 0 0 0 0 0 0 none 0 0 ByteArray.empty ByteArray.empty 0 false none 0 0)), .bool false]) c6)
 (
 Calls pP 45 (Z2 s0 d0 65536) w9 fun e c3 => ∃ c4 d2 d3, e = .returned (.tuple (Z2 c4 d2 d3)) ∧ yaD [b1] w9 c3 ∧
 Calls pP 115 #[.string c4] c3 fun e a1 => ∃ b5 b0 b6 b7 b8 b9 c0 c1 a3 a8 a6 b2 b3 c2 b4 a4 a9 a7 d4, e = .returned (.tuple #[(.agg (Z1 b5 b0 b6 b7 b8 b9 c0 c1 a3 a8 a6 b2 b3 c2 b4 a4 a9 a7)), .int .i64 d4]) ∧ yaD [b1] c3 a1 ∧
 ∀ a5, a1.heap.size ≤ a5 →
 brB (d3 == 0) (
 brB (d4 == 0) (
 ∀ c7, Adv [b1] [a5] a1 c7 →
 R (.tuple #[(.agg (Z4 (IntKind.wrap .i64 x4) (IntKind.wrap .i64 a2) b5 b0 b6 b7 b8 b9 c0 c1 a3 a8 a6 b2 b3 c2 b4 a4 a9 a7)), (.bool (d2 == (s0.size : Int)))]) c7)
 (
 ∀ c8, Adv [b1] [a5] a1 c8 →
 R (.tuple #[(.agg (Z4 (IntKind.wrap .i64 x4) (IntKind.wrap .i64 a2) b5 b0 b6 b7 b8 b9 c0 c1 a3 a8 a6 b2 b3 c2 b4 a4 a9 a7)), .bool false]) c8))
 (
 ∀ c9, Adv [b1] [a5] a1 c9 →
 R (.tuple #[(.agg (Z4 (IntKind.wrap .i64 x4) (IntKind.wrap .i64 a2) b5 b0 b6 b7 b8 b9 c0 c1 a3 a8 a6 b2 b3 c2 b4 a4 a9 a7)), .bool false]) c9)))))) :
 CR pP 82 #[.string s0] w R :=
 yaA Tryz.wide_mixed (an := []) Tryz.func82 rfl rfl (by kernel_rfl) rfl (Eq.mpr (by kernel_rfl) h)
def yo8 : LA := ⟨[0, 0, 1, 0, 1, 1, 1, 1], [0, 4, 5, 7, 8], [], 0, []⟩
def yo9 : List LA := [yo8]
abbrev yES := dnF pP yo9 (code Tryz.f46)
abbrev yLf := yaN pP yo9 (code Tryz.f46)
abbrev yET (p : List Nat) (K : List Kh) (R : VWP) := yaN pP yo9 (code Tryz.f46) p K (ya4 pP Tryz.f46 [] R)
def yiP (a3 : BA) (a4 : Int) : Int × (Option Addr) × Nat × Nat × Int → List Value × List TB := fun (a5, a0, a2, a1, a6) => ([.string a3, .int .u64 a4, .int .i64 a5, .slice a0 a2 a1, .int .i64 a6], [])
abbrev yCb (a0 : BA) (a1 : Int) (I : Nat → Int → Option Addr → Nat → Nat → Int → World → Prop) (m : Nat) : Kh := KG (yiP a0 a1) (U5 I) m
theorem yxS {I : Nat → Int → Option Addr → Nat → Nat → Int → World → Prop} (m' : Nat) (h1 : m' < m) (h2 : I m' i1 q0 n0 n1 i2 w) : KS (yCb s0 i0 I m) (yiP s0 i0 (i1, q0, n0, n1, i2)) w := ⟨m', h1, _, rfl, rfl, h2⟩
theorem yxT {a3 : BA} (I : Nat → Int → Option Addr → Nat → Nat → Int → World → Prop) (m0 : Nat) (h0 : I m0 i1 q0 n0 n1 i2 w0)
 (hr : ∀ m a8 a0 a2 a1 a6 w, I m a8 a0 a2 a1 a6 w →
 brB (decide (a6 < (IntKind.wrap .i64 i0))) (
 Calls pP 43 (Z2 a3 a8 65536) w fun e w7 => ∃ s8 x9 d2, e = .returned (.tuple (Z2 s8 x9 d2)) ∧
 Calls pP 82 #[.string s8] w7 fun e a7 => ∃ d3 d4 d5 c1 d6 d7 d8 d9 e0 e1 b5 b9 b7 c2 c3 e2 c5 b6 c0 b8 c6, e = .returned (.tuple #[(.agg (Z4 d3 d4 d5 c1 d6 d7 d8 d9 e0 e1 b5 b9 b7 c2 c3 e2 c5 b6 c0 b8)), .bool c6]) ∧
 ∀ a4, a7.heap.size ≤ a4 →
 brB (d2 != 0) (
 ∀ c7, Adv [] [a4] a7 c7 →
 R (.tuple #[.slice none 0 0, .int .i64 162]) c7)
 (
 brB (!c6) (
 ∀ c8, Adv [] [a4] a7 c8 →
 R (.tuple #[.slice none 0 0, .int .i64 162]) c8)
 (
 ∀ c9, Adv [] [a4] a7 c9 →
 al c9 (.cells (Z4 d3 d4 d5 c1 d6 d7 d8 d9 e0 e1 b5 b9 b7 c2 c3 e2 c5 b6 c0 b8) 51) fun e5 d0 =>
 ycR pP (Builtin.append_ #[22, 22] 22 #[.slice a0 a2 a1, (.slice (some ⟨e5, 0, none⟩) 1 1)]) d0 fun e4 e7 e6 d1 => yaD [a4] d0 d1 ∧
 KS (yCb a3 i0 I m) (yiP a3 i0 (x9, e4, e7, e6, (IntKind.wrap .i64 (a6 + 1)))) d1)))
 (
 Calls pP 32 #[.slice a0 a2 a1] w fun e b2 => ∃ c4 e3, e = .returned (.tuple #[.string c4, .int .i64 e3]) ∧
 brB (e3 != 0) (
 R (.tuple #[.slice none 0 0, .int .i64 162]) b2)
 (
 brB (!(c4.toList == a3.toList)) (
 R (.tuple #[.slice none 0 0, .int .i64 162]) b2)
 (
 R (.tuple #[.slice a0 a2 a1, .int .i64 0]) b2)))) :
 yaK yo8 (yES 394 [0, 0, 1, 0, 1, 1, 1, 1]) (yET [1, 1, 1, 1, 0, 1, 0] [] R) (yiP a3 i0 (i1, q0, n0, n1, i2)) w0 :=
 lrule (yiP a3 i0) (U5 I) h0 (by rintro m ⟨a8, a0, a2, a1, a6⟩ w h; exact ⟨by kernel_rfl, by kernel_rfl, fun js => Eq.mpr (by kernel_rfl) (hr m a8 a0 a2 a1 a6 w h)⟩)
theorem yGx (h :
 Calls pP 44 #[.string s0, .int .i64 0] w fun e w1 => ∃ x2 x3 x4, e = .returned (.tuple #[.int .u64 x2, .int .i64 x3, .int .i64 x4]) ∧
 brB (x4 != 0) (
 R (.tuple #[.slice none 0 0, .int .i64 162]) w1)
 (
 brB (decide (x2 > 4096)) (
 R (.tuple #[.slice none 0 0, .int .i64 162]) w1)
 (
 al w1 (.cells #[] 51) fun b5 w6 =>
 yaK yo8 (yES 394 [0, 0, 1, 0, 1, 1, 1, 1]) (yET [1, 1, 1, 1, 0, 1, 0] [] R) (yiP s0 x2 (x3, (some ⟨b5, 0, none⟩), 0, 0, 0)) w6))) :
 CR pP 46 #[.string s0] w R :=
 yaA Tryz.wide_mixed (an := yo9) Tryz.func46 rfl rfl (by kernel_rfl) rfl (Eq.mpr (by kernel_rfl) h)
end
theorem yrC (r : PRec) (hr : ygB r = 0) (w : World) : Calls pP 67 #[r.v] w fun e w' => e = .returned (.string (bs (ygS r))) ∧ Mod [] w w' := by
 obtain ⟨hk, hv⟩ := ygD hr
 obtain ⟨k, key, t, val⟩ := r
 refine yaP (yGg ?_)
 intro b1 f1
 have hkt : t = true → k = true ∧ val.size = 0 := fun h => by
  subst h
  unfold ygB yGU at hr
  split at hr
  ·omega
  ·rename_i h; simp at h; cases k <;> simp_all
 have cat1 : ∀ (x : UInt8) (s : ByteArray), s.size ≤ 1000 → (⟨#[x]⟩ : ByteArray).size + (bs (ybM s)).size ≤ 9223372036854775807 := fun x s hs => by
  have := (yaV s (by omega)).2
  rw [yaE]; show 1 + _ ≤ _; omega
 have one : ∀ (x : UInt8) (l : List UInt8), (⟨#[x]⟩ : ByteArray) ++ bs l = bs (x :: l) := fun x l => ybD [x] l
 refine yaB (fun g => ?_) fun g => ?_
 ·obtain ⟨rfl, _⟩ := hkt g
  have g : t = true := g
  subst g
  intro w2 A2
  refine (ybL key (by simp at hk; omega) w2).mono ?_
  rintro e w3 ⟨rfl, M3⟩
  refine ⟨_, rfl, yaD.of0 M3, cat1 _ _ (by simp at hk; omega), ?_, A2.mod.go0 M3 (by simp)⟩
  rw [one]; simp [ygS, ygZ]
 ·have g : t = false := g
  subst g
  refine yaB (fun g2 => ?_) fun g2 => ?_
  ·have g2 : k = true := g2
   subst g2
   intro w2 A2
   refine (ybL key (by simp at hk; omega) w2).mono ?_
   rintro e w3 ⟨rfl, M3⟩
   refine ⟨_, rfl, yaD.of0 M3, rfl, cat1 _ _ (by simp at hk; omega), ?_⟩
   refine (ybL val (by simp at hv; omega) w3).mono ?_
   rintro e w4 ⟨rfl, M4⟩
   have l1 := (yaV key (by simp at hk; omega)).2
   have l2 := (yaV val (by simp at hv; omega)).2
   refine ⟨_, rfl, yaD.of0 M4, by rw [one, yaE, yaE, List.length_cons]; simp at hk hv; omega, ?_, (A2.mod.go0 M3 (by simp)).go0 M4 (by simp)⟩
   rw [one, ybD]; simp [ygS, ygZ]
  ·have g2 : k = false := g2
   subst g2
   intro w2 A2
   refine (ybL val (by simp at hv; omega) w2).mono ?_
   rintro e w3 ⟨rfl, M3⟩
   refine ⟨_, rfl, yaD.of0 M3, cat1 _ _ (by simp at hv; omega), ?_, A2.mod.go0 M3 (by simp)⟩
   rw [one]; simp [ygS, ygZ]
theorem yxU {w : World} {b : PBatch} {rs : Sl} (h : ycQ w 4 yg2 rs.a rs.n b.recs) :
  Calls pP 127 #[b.v rs] w fun e w' => e = .returned (.tuple #[.string (if ybH b = 0 then bs (yd0 b) else bs []), .int .i64 (ybH b)]) ∧ Mod [] w w' := by
 refine yaP (yGh ?_)
 have hn := h.1
 intro b1 f1 w2 A2
 refine (yvV (b := b) (rs := rs) (h.keep0 A2.mod)).mono ?_
 rintro e w3 ⟨rfl, M3⟩
 have N3 := A2.mod.go0 M3 (by simp)
 refine ⟨_, rfl, yaD.of0 M3, yaB (fun g1 => ?_) fun g1 => ?_⟩
 ·have g : ¬ ybH b = 0 := by simpa using g1
  rw [if_neg g]; exact ⟨rfl, N3⟩
 have g : ybH b = 0 := by simpa using g1
 have G := BatGood.of g
 obtain ⟨p1, p2, e1, e2, q1, q2⟩ := G.hd
 have hlr := G.lr
 rw [if_pos g, g]
 obtain ⟨pN, hp⟩ := Int.eq_ofNat_of_zero_le p1
 obtain ⟨eN, he⟩ := Int.eq_ofNat_of_zero_le e1
 obtain ⟨sN, hq⟩ := Int.eq_ofNat_of_zero_le q1
 intro w5 A5
 rw [hp, he, hq, ydJ (by omega), ydJ (by omega), ydJ (by omega), ydJ (by omega)]
 have v1 := (yaL pN (by omega)).2
 have v2 := (yaL eN (by omega)).2
 have v3 := (yaL sN (by omega)).2
 have v4 := (yaL rs.n (by omega)).2
 refine (yb8 (n := pN) (by omega) w5).mono ?_
 rintro e w6 ⟨rfl, M6⟩
 refine ⟨_, rfl, yaD.of0 M6, rfl, rfl, rfl, ?_⟩
 refine (yb8 (n := eN) (by omega) w6).mono ?_
 rintro e w7 ⟨rfl, M7⟩
 refine ⟨_, rfl, yaD.of0 M7, rfl, rfl, by rw [yaE, yaE]; omega, ?_⟩
 rw [ybD]
 refine (yb8 (n := sN) (by omega) w7).mono ?_
 rintro e w8 ⟨rfl, M8⟩
 refine ⟨_, rfl, yaD.of0 M8, rfl, by rw [yaE, yaE, List.length_append]; omega, ?_⟩
 rw [ybD]
 refine (yb8 (n := rs.n) (by omega) w8).mono ?_
 rintro e w9 ⟨rfl, M9⟩
 refine ⟨_, rfl, yaD.of0 M9, by rw [yaE, yaE, List.length_append, List.length_append]; omega, ?_⟩
 rw [ybD]
 have N9 : Mod [] w w9 := ((((N3.go0 A5.mod (by simp)).go0 M6 (by simp)).go0 M7 (by simp)).go0 M8 (by simp)).go0 M9 (by simp)
 have eh : yaJ pN ++ yaJ eN ++ yaJ sN ++ yaJ rs.n = (ycM b).flatMap yaJ := by
  simp [ycM, hp, he, hq, hn]
 rw [eh]
 refine yxC (fun mm s x w' => ∃ k : Nat, x = k ∧ k ≤ b.recs.length ∧ s = bs ((ycM b).flatMap yaJ ++ (b.recs.take k).flatMap ygS) ∧ Mod [] w w' ∧ mm = b.recs.length - k) b.recs.length ⟨0, rfl, by omega, by simp, N9, rfl⟩ ?_
 rintro mm s x w10 ⟨k, rfl, hk, rfl, M10, rfl⟩
 refine yaC (fun hlt => ?_) fun hge => ?_
 ·obtain ⟨y, hy⟩ : ∃ y, b.recs[k]? = some y := ⟨_, List.getElem?_eq_getElem (by omega)⟩
  have gy := G.r y (List.mem_of_getElem? hy)
  refine (h.keep0 M10).ix hy fun q hq => yaO (by simpa [add_zero] using hq 0 _ rfl) (yaI (hq 1 _ rfl) (yaO (hq 2 _ rfl) (yaI (hq 3 _ rfl) ?_)))
  refine (yrC y gy w10).mono ?_
  rintro e w11 ⟨rfl, M11⟩
  have l1 := G.len1 4
  rw [List.take_of_length_le (by simp [ycM])] at l1
  have l2 := G.len2 k
  have l3 := yhL gy
  refine ⟨_, rfl, yaD.of0 M11, by rw [yaE, yaE, List.length_append]; omega, ?_⟩
  rw [ybD]
  refine yxB (b.recs.length - (k + 1)) (by omega) ⟨k + 1, by rw [yaG (by omega) (by omega)]; omega, by omega, ?_, M10.go0 M11 (by simp), rfl⟩
  rw [ya9 hy, ← List.append_assoc]
 ·have : k = b.recs.length := by omega
  subst this
  rw [List.take_length]
  exact ⟨rfl, M10⟩
theorem ycE {x : Int} (hx : num x = true) (w : World) : Calls pP 66 #[.int .i64 x] w fun e w' => e = .returned (.string (bs (yaJ x.toNat))) ∧ Mod [] w w' := by
 have := yd1 hx
 obtain ⟨n, rfl⟩ := Int.eq_ofNat_of_zero_le this.1
 refine yaP (yGk ?_)
 rw [ydJ (by omega)]
 refine (yb8 (n := n) (by omega) w).mono ?_
 rintro e w1 ⟨rfl, M1⟩
 exact ⟨_, rfl, rfl, M1⟩
theorem yvY (t : Bool) : yaJ (yfR t) = [if t then 1 else 0] := by
 cases t <;> (unfold yaJ; rw [ydH (by decide)]; rfl)
def yg6 (o : POp) (c : Nat) : List UInt8 :=
 if c = 116 then ybM o.part.t else if c = 112 then ycU o.part else if c = 110 then yaJ o.n.toNat else if c = 111 then yaJ o.off.toNat else if c = 98 then yd0 o.b
 else if c = 103 then ybM o.g else if c = 109 then ybM o.m else if c = 101 then yaJ o.gen.toNat else if c = 114 then yaJ (yfR o.robin) else ydT o.topics
theorem yCc {k : Int} (h0 : 0 ≤ k) (h1 : k ≤ 12) {c : Nat} (h : ha k c = true) : c ∈ [112, 116, 110, 111, 98, 103, 109, 101, 114, 108] := by
 rcases ycO h0 h1 with rfl | rfl | rfl | rfl | rfl | rfl | rfl | rfl | rfl | rfl | rfl | rfl | rfl <;> simp [ha, ygE] at h <;> simp [h] <;> omega
theorem yKM {k : Int} (h0 : 0 ≤ k) (h1 : k ≤ 12) (h : ha k 98 = true) : k = 2 := by
 rcases ycO h0 h1 with rfl | rfl | rfl | rfl | rfl | rfl | rfl | rfl | rfl | rfl | rfl | rfl | rfl <;> simp [ha, ygE] at h <;> rfl
theorem yfK {l : List ByteArray} (h : ycJ l = true) : l.length ≤ 8 ∧ (∀ s ∈ l, s.size ≤ 16) := by
 simp only [ycJ, Bool.and_eq_true, decide_eq_true_eq] at h
 obtain ⟨⟨⟨l1', l2'⟩, l3'⟩, _⟩ := h
 exact ⟨l2', fun s hs => (ybP (List.all_eq_true.1 l3' s hs)).1⟩
theorem yDC {w : World} {o : POp} {rs ts : Sl} {c : Nat} (h : OpAt w o rs ts) (G : OpGood o) (hc : ha o.kind c = true) :
  Calls pP 102 #[o.v rs ts, .int .u8 (c : Nat)] w fun e w' => e = .returned (.string (bs (yg6 o c))) ∧ Mod [] w w' := by
 obtain ⟨n1, n2, n3, n4⟩ := G.nn
 have yKY := fun {x : Int} (h : num x = true) => (yaL x.toNat (by have := yd1 h; omega)).2
 refine yaP (yGl ?_)
 intro b1 f1
 refine yaB (fun g => ?_) fun g => ?_
 ·have g : c = 116 := by simp at g; omega
  subst g
  intro w2 A2
  refine (ybL o.part.t (by have := (ybP (G.nt (by rw [hc]; simp))).1; omega) w2).mono ?_
  rintro e w3 ⟨rfl, M3⟩
  exact ⟨_, rfl, yaD.of0 M3, rfl, A2.mod.go0 M3 (by simp)⟩
 have g116 : c ≠ 116 := by simp at g; omega
 refine yaB (fun g => ?_) fun g => ?_
 ·have g : c = 112 := by simp at g; omega
  subst g
  intro w2 A2
  have hs := (ybP (G.nt (by rw [hc]; simp))).1
  refine (ybL o.part.t (by omega) w2).mono ?_
  rintro e w3 ⟨rfl, M3⟩
  refine ⟨_, rfl, yaD.of0 M3, rfl, ?_⟩
  refine (ycE n1 w3).mono ?_
  rintro e w4 ⟨rfl, M4⟩
  have := yKY n1
  have := (yaV o.part.t (by omega)).2
  refine ⟨_, rfl, yaD.of0 M4, by rw [yaE, yaE]; omega, ?_, (A2.mod.go0 M3 (by simp)).go0 M4 (by simp)⟩
  rw [ybD]; rfl
 have g112 : c ≠ 112 := by simp at g; omega
 refine yaB (fun g => ?_) fun g => ?_
 ·have g : c = 110 := by simp at g; omega
  subst g
  intro w2 A2
  refine (ycE n2 w2).mono ?_
  rintro e w3 ⟨rfl, M3⟩
  exact ⟨_, rfl, yaD.of0 M3, rfl, A2.mod.go0 M3 (by simp)⟩
 have g110 : c ≠ 110 := by simp at g; omega
 refine yaB (fun g => ?_) fun g => ?_
 ·have g : c = 111 := by simp at g; omega
  subst g
  intro w2 A2
  refine (ycE n3 w2).mono ?_
  rintro e w3 ⟨rfl, M3⟩
  exact ⟨_, rfl, yaD.of0 M3, rfl, A2.mod.go0 M3 (by simp)⟩
 have g111 : c ≠ 111 := by simp at g; omega
 refine yaB (fun g => ?_) fun g => ?_
 ·have g : c = 98 := by simp at g; omega
  subst g
  intro w2 A2
  refine (yxU (b := o.b) (rs := rs) (h.recs.keep0 A2.mod)).mono ?_
  rintro e w3 ⟨rfl, M3⟩
  rw [if_pos (G.b (yKM G.k.1 G.k.2 hc))]
  exact ⟨_, _, rfl, yaD.of0 M3, rfl, A2.mod.go0 M3 (by simp)⟩
 have g98 : c ≠ 98 := by simp at g; omega
 refine yaB (fun g => ?_) fun g => ?_
 ·have g : c = 103 := by simp at g; omega
  subst g
  intro w2 A2
  refine (ybL o.g (by have := (ybP (G.ng hc)).1; omega) w2).mono ?_
  rintro e w3 ⟨rfl, M3⟩
  exact ⟨_, rfl, yaD.of0 M3, rfl, A2.mod.go0 M3 (by simp)⟩
 have g103 : c ≠ 103 := by simp at g; omega
 refine yaB (fun g => ?_) fun g => ?_
 ·have g : c = 109 := by simp at g; omega
  subst g
  intro w2 A2
  refine (ybL o.m (by have := (ybP (G.nm hc)).1; omega) w2).mono ?_
  rintro e w3 ⟨rfl, M3⟩
  exact ⟨_, rfl, yaD.of0 M3, rfl, A2.mod.go0 M3 (by simp)⟩
 have g109 : c ≠ 109 := by simp at g; omega
 refine yaB (fun g => ?_) fun g => ?_
 ·have g : c = 101 := by simp at g; omega
  subst g
  intro w2 A2
  refine (ycE n4 w2).mono ?_
  rintro e w3 ⟨rfl, M3⟩
  exact ⟨_, rfl, yaD.of0 M3, rfl, A2.mod.go0 M3 (by simp)⟩
 have g101 : c ≠ 101 := by simp at g; omega
 refine yaB (fun g => ?_) fun g => ?_
 ·have g : c = 114 := by simp at g; omega
  subst g
  refine yaB (fun g => ?_) fun g => ?_
  ·have g : o.robin = true := g
   intro w2 A2
   exact ⟨by rw [show yg6 o 114 = yaJ (yfR o.robin) from rfl, g, yvY]; rfl, A2.mod⟩
  ·have g : o.robin = false := g
   intro w2 A2
   exact ⟨by rw [show yg6 o 114 = yaJ (yfR o.robin) from rfl, g, yvY]; rfl, A2.mod⟩
 have g114 : c ≠ 114 := by simp at g; omega
 have hc8 : c = 108 := by have := yCc G.k.1 G.k.2 hc; simp at this; omega
 subst hc8
 intro w2 A2
 obtain ⟨hl8, hs16⟩ := yfK (G.nl hc)
 have hts := h.topics.1
 refine (ycE (x := (ts.n : Int)) (by simp [num]; omega) w2).mono ?_
 rintro e w3 ⟨rfl, M3⟩
 refine ⟨_, rfl, yaD.of0 M3, ?_⟩
 rw [Int.toNat_natCast]
 refine yxI (fun mm s x w' => ∃ k : Nat, x = k ∧ k ≤ o.topics.length ∧ s = bs (yaJ ts.n ++ (o.topics.take k).flatMap ybM) ∧ Mod [] w w' ∧ mm = o.topics.length - k) o.topics.length ⟨0, rfl, by omega, by simp, A2.mod.go0 M3 (by simp), rfl⟩ ?_
 rintro mm s x w10 ⟨k, rfl, hk, rfl, M10, rfl⟩
 refine yaC (fun hlt => ?_) fun hge => ?_
 ·obtain ⟨y, hy⟩ : ∃ y, o.topics[k]? = some y := ⟨_, List.getElem?_eq_getElem (by omega)⟩
  have gy := hs16 y (List.mem_of_getElem? hy)
  refine (h.topics.keep0 M10).ix hy fun q hq => yaI (by simpa [add_zero] using hq 0 _ rfl) ?_
  refine (ybL y (by omega) w10).mono ?_
  rintro e w11 ⟨rfl, M11⟩
  have l1 := (yaL ts.n (by omega)).2
  have l2 := ydY (f := ybM) (c := 26) (l := o.topics.take k) fun s hs => by
   have := hs16 s (List.mem_of_mem_take hs); have := (yaV s (by omega)).2; omega
  have l3 : (o.topics.take k).length * 26 ≤ 8 * 26 := Nat.mul_le_mul_right _ (by rw [List.length_take]; omega)
  have l4 := (yaV y (by omega)).2
  refine ⟨_, rfl, yaD.of0 M11, by rw [yaE, yaE, List.length_append]; omega, ?_⟩
  rw [ybD]
  refine yxH (o.topics.length - (k + 1)) (by omega) ⟨k + 1, by rw [yaG (by omega) (by omega)]; omega, by omega, ?_, M10.go0 M11 (by simp), rfl⟩
  rw [ya9 hy, ← List.append_assoc]
 ·have : k = o.topics.length := by omega
  subst this
  rw [List.take_length]
  exact ⟨by rw [show yg6 o 108 = ydT o.topics from rfl, ydT, hts], M10⟩
theorem yeT {o : POp} (h0 : 0 ≤ o.kind) (h1 : o.kind ≤ 12) : ybI o = (ygE o.kind).flatMap (yg6 o) := by
 obtain ⟨kd, pt, n, off, b, g, m, gen, robin, topics⟩ := o
 rcases ycO h0 h1 with h | h | h | h | h | h | h | h | h | h | h | h | h <;> (have h : kd = _ := h; subst h; simp [ybI, ygE, yg6])
theorem yhR {k : Int} (h0 : 0 ≤ k) (h1 : k ≤ 12) : (yfJ k).size ≤ 5 := by
 rcases ycO h0 h1 with rfl | rfl | rfl | rfl | rfl | rfl | rfl | rfl | rfl | rfl | rfl | rfl | rfl <;> decide
theorem yCd {k : Int} (h0 : 0 ≤ k) (h1 : k ≤ 12) {i : Nat} (hi : i < (yfJ k).size) : ∃ c, (ygE k)[i]? = some c ∧ ylG (yfJ k) i = (c : Nat) ∧ ha k c = true := by
  have hi5 : i < 5 := Nat.lt_of_lt_of_le hi (yhR h0 h1)
  rcases ycO h0 h1 with rfl | rfl | rfl | rfl | rfl | rfl | rfl | rfl | rfl | rfl | rfl | rfl | rfl <;>
    (have h5 : i = 0 ∨ i = 1 ∨ i = 2 ∨ i = 3 ∨ i = 4 := by omega
     rcases h5 with rfl | rfl | rfl | rfl | rfl <;> first | exact absurd hi (by decide) | exact ⟨_, rfl, by decide, by decide⟩)
theorem ypA {k : Int} : (yfJ k).size = (ygE k).length := by simp [yfJ, ByteArray.size]
theorem yvZ {w : World} {o : POp} {rs ts : Sl} (h : OpAt w o rs ts) :
  Calls pP 64 #[o.v rs ts] w fun e w' => e = .returned (.tuple #[.string (if opE o = 0 then bs (opB o) else bs []), .int .i64 (opE o)]) ∧ Mod [] w w' := by
 refine yaP (yGm ?_)
 intro b1 f1 w2 A2
 refine (yrB (o := o) (rs := rs) (ts := ts) (h.keep0 A2.mod).recs (h.keep0 A2.mod).topics).mono ?_
 rintro _ w3 ⟨rfl, M3⟩
 have N3 := A2.mod.go0 M3 (by simp)
 refine ⟨_, rfl, yaD.of0 M3, yaB (fun g => ?_) fun g => ?_⟩
 ·have g : opE o ≠ 0 := by simpa using g
  rw [if_neg g]
  exact ⟨rfl, N3⟩
 have g : opE o = 0 := by simpa using g
 have G := OpGood.of g
 obtain ⟨k0, k1⟩ := G.k
 rw [if_pos g, g]
 intro w5 A5
 refine (ycE (x := o.kind) (by simp [num]; omega) w5).mono ?_
 rintro _ w6 ⟨rfl, M6⟩
 refine ⟨_, rfl, yaD.of0 M6, rfl, ?_⟩
 refine (yvU k0 k1 w6).mono ?_
 rintro _ w7 ⟨rfl, M7⟩
 refine ⟨_, rfl, yaD.of0 M7, ?_⟩
 have N7 := ((N3.go0 A5.mod (by simp)).go0 M6 (by simp)).go0 M7 (by simp)
 have hlen := ypA (k := o.kind)
 have h5 := yhR k0 k1
 refine yxK (fun mm s x w' => ∃ k : Nat, x = k ∧ k ≤ (yfJ o.kind).size ∧ s = bs (yaJ o.kind.toNat ++ ((ygE o.kind).take k).flatMap (yg6 o)) ∧ Mod [] w w' ∧ mm = (yfJ o.kind).size - k) (yfJ o.kind).size ⟨0, rfl, by omega, by simp, N7, rfl⟩ ?_
 rintro mm s x w10 ⟨k, rfl, hk, rfl, M10, rfl⟩
 refine yaC (fun hlt => ?_) fun hge => ?_
 ·obtain ⟨c, hc1, hc2, hc3⟩ := yCd k0 k1 (i := k) (by omega)
  refine ⟨by omega, by omega, ?_⟩
  rw [Int.toNat_natCast, hc2]
  intro w11 A11
  have N11 := M10.go0 A11.mod (by simp)
  refine (yDC (rs := rs) (ts := ts) (h.keep0 N11) G hc3).mono ?_
  rintro _ w12 ⟨rfl, M12⟩
  have lo := yiB G
  have e1 : (yaJ o.kind.toNat ++ ((ygE o.kind).take k).flatMap (yg6 o)) ++ yg6 o c = yaJ o.kind.toNat ++ ((ygE o.kind).take (k + 1)).flatMap (yg6 o) := by
   rw [ya9 hc1, ← List.append_assoc]
  have e2 : (yaJ o.kind.toNat ++ ((ygE o.kind).take (k + 1)).flatMap (yg6 o)).length ≤ (opB o).length := by
   rw [opB, yeT k0 k1, List.length_append, List.length_append]
   have : (ygE o.kind).flatMap (yg6 o) = ((ygE o.kind).take (k + 1)).flatMap (yg6 o) ++ ((ygE o.kind).drop (k + 1)).flatMap (yg6 o) := by
    rw [← List.flatMap_append, List.take_append_drop]
   rw [this, List.length_append]; omega
  refine ⟨_, rfl, yaD.of0 M12, by rw [yaE, yaE, ← List.length_append, e1]; omega, ?_⟩
  rw [ybD, e1]
  exact yxJ ((yfJ o.kind).size - (k + 1)) (by omega) ⟨k + 1, by rw [yaG (by omega) (by omega)]; omega, by omega, rfl, N11.go0 M12 (by simp), rfl⟩
 ·have hk : k = (ygE o.kind).length := by omega
  subst hk
  rw [List.take_length]
  exact ⟨by rw [opB, yeT k0 k1], M10⟩
theorem yiQ {w : World} {s : Sl} {ll : List CV} (h : CsAt w s ll) (hl : ll.length ≤ 1000000) :
  Calls pP 32 #[.slice s.a s.n s.c] w fun e w' => e = .returned (.tuple #[.string (if ybY (ll.map (·.x)) = 0 then bs (ybG (ll.map (·.x))) else bs []), .int .i64 (ybY (ll.map (·.x)))]) ∧ Mod [] w w' := by
 have hn := h.sl.1
 have el : (ll.map (·.x)).length = ll.length := by simp
 refine yaP (yCa ?_)
 refine yaC (fun g => ?_) fun g => ?_
 ·have e : ybY (ll.map (·.x)) = 2 := by rw [ybY, if_pos (by rw [el]; omega)]
  rw [e]; exact ⟨rfl, Mod.refl _⟩
 have e : ybY (ll.map (·.x)) = ydE (ll.map (·.x)) := by rw [ybY, if_neg (by rw [el]; omega)]
 refine (yB6 h hl).mono ?_
 rintro _ w1 ⟨rfl, M1⟩
 refine ⟨_, rfl, yaB (fun g2 => ?_) fun g2 => ?_⟩
 ·have g2 : ydE (ll.map (·.x)) ≠ 0 := by simpa using g2
  rw [e, if_neg g2]; exact ⟨rfl, M1⟩
 have g2 : ydE (ll.map (·.x)) = 0 := by simpa using g2
 have good : ∀ q ∈ ll, yfU q.x = false ∧ opE q.x.op = 0 := fun q hq => ykW.1 g2 q.x (List.mem_map.2 ⟨q, hq, rfl⟩)
 rw [e, if_pos g2, g2, ydJ (by omega)]
 refine (yb8 (n := s.n) (by omega) w1).mono ?_
 rintro _ w5 ⟨rfl, M5⟩
 refine ⟨_, rfl, ?_⟩
 have v0 := yaL s.n (by omega)
 refine ymZ (fun mm t x w' => ∃ k : Nat, x = k ∧ k ≤ ll.length ∧ t = bs (yaJ s.n ++ (ll.take k).flatMap fun q => yc9 q.x) ∧ Mod [] w w' ∧ mm = ll.length - k) ll.length ⟨0, rfl, by omega, by simp, M1.go0 M5 (by simp), rfl⟩ ?_
 rintro mm t x w9 ⟨k, rfl, hk, rfl, N9, rfl⟩
 refine yaC (fun hlt => ?_) fun hge => ?_
 ·obtain ⟨q, hq⟩ : ∃ q, ll[k]? = some q := ⟨_, List.getElem?_eq_getElem (by omega)⟩
  obtain ⟨gq1, gq2⟩ := good q (List.mem_of_getElem? hq)
  have hodd := yd4 gq1
  refine h.sl.ixW hq fun ad had => ?_
  have had9 := had w9 N9
  have c1 : ∀ j v, (CV.cs q)[j + 2]? = some v → w9.cell? ((ad.add 2).add j) = some v := fun j v hv => by
   rw [yfF]; have := had9 _ _ hv; rwa [Nat.add_comm] at this
  refine yaF (had9 2 _ rfl) (yaI (c1 1 _ rfl) (yaF (c1 2 _ rfl) (yaF (c1 3 _ rfl) (yaF (c1 4 _ rfl) (yaF (c1 5 _ rfl) (yaF (c1 6 _ rfl) (yaF (c1 7 _ rfl) (ybN (c1 8 _ rfl) (yaI (c1 9 _ rfl) (yaI (c1 10 _ rfl) (yaF (c1 11 _ rfl) (yaO (c1 12 _ rfl) (ybN (c1 13 _ rfl) ?_)))))))))))))
  refine (yvZ (o := q.x.op) (rs := q.rs) (ts := q.ts) ((h.op q (List.mem_of_getElem? hq)).keep0 N9)).mono ?_
  rintro _ w11 ⟨rfl, M11⟩
  rw [if_pos gq2]
  refine ⟨_, _, rfl, ?_⟩
  refine h.sl.ixW hq fun ad had => ?_
  intro w12 A12
  have N12 := (N9.go0 M11 (by simp)).go0 A12.mod (by simp)
  refine yaF (by have := had w12 N12 0 _ rfl; rwa [add_zero] at this) ?_
  refine h.sl.ixW hq fun ad had => yaF (had w12 N12 1 _ rfl) ?_
  obtain ⟨cN, hcN⟩ := Int.eq_ofNat_of_zero_le (show 0 ≤ q.x.c by omega)
  obtain ⟨nN, hnN⟩ := Int.eq_ofNat_of_zero_le (show 0 ≤ q.x.n by omega)
  rw [hcN, hnN, ydJ (by omega), ydJ (by omega)]
  refine (yb8 (n := cN) (by omega) w12).mono ?_
  rintro _ w13 ⟨rfl, M13⟩
  have N13 := N12.go0 M13 (by simp)
  refine ⟨_, rfl, yaF (had w13 N13 1 _ (by rw [← hnN]; rfl)) rfl, ?_⟩
  refine (yb8 (n := nN) (by omega) w13).mono ?_
  rintro _ w14 ⟨rfl, M14⟩
  have lc := yaL cN (by omega)
  have ln := yaL nN (by omega)
  have lo := yiB (OpGood.of gq2)
  refine ⟨_, rfl, by rw [yaE, yaE]; omega, ?_⟩
  rw [ybD]
  refine (ybL (bs (opB q.x.op)) (by rw [yaE]; omega) w14).mono ?_
  rintro _ w15 ⟨rfl, M15⟩
  have lp := (yaV (bs (opB q.x.op)) (by rw [yaE]; omega)).2
  rw [yaE] at lp
  refine ⟨_, rfl, by rw [yaE, yaE, List.length_append]; omega, ?_⟩
  have e2 : bs (yaJ cN ++ yaJ nN) ++ bs (ybM (bs (opB q.x.op))) = bs (yc8 q.x) := by
   rw [ybD]; unfold yc8; rw [hcN, hnN]; rfl
  rw [e2]
  have lr := yf1 gq1 gq2
  refine (ykX (bs (yc8 q.x)) (by rw [yaE]; omega) w15).mono ?_
  rintro _ w16 ⟨rfl, M16⟩
  have hlt2 : (yaJ s.n ++ (ll.take k).flatMap fun q => yc9 q.x).length ≤ 10 + 4096 * 40000 := by
   have e1 := ydY (f := fun q : CV => yc9 q.x) (c := 40000) (l := ll.take k) fun q hq => (yf2 (good q (List.mem_of_mem_take hq)).1 (good q (List.mem_of_mem_take hq)).2).1
   have e3 : (ll.take k).length * 40000 ≤ 4096 * 40000 := Nat.mul_le_mul_right _ (by rw [List.length_take]; omega)
   rw [List.length_append]; omega
  have lcb := yf2 gq1 gq2
  refine ⟨_, rfl, by rw [yaE, yaE]; show _ + (yc9 q.x).length ≤ _; omega, ?_⟩
  rw [ybD]
  refine yxR (ll.length - (k + 1)) (by omega) ⟨k + 1, by rw [yaG (by omega) (by omega)]; omega, by omega, ?_, (((N13.go0 M14 (by simp)).go0 M15 (by simp)).go0 M16 (by simp)), rfl⟩
  rw [ya9 hq, ← List.append_assoc]; rfl
 ·have hk : k = ll.length := by omega
  subst hk
  rw [List.take_length]
  refine ⟨?_, N9⟩
  unfold ybG; rw [el, hn, List.flatMap_map]
def ycC (m : PMail) : Int := if m.kind < 0 ∨ m.kind ≥ 12 then 180 else if ((yaQ m).all num) = false then 1 else if ybY m.calls ≠ 0 then ybY m.calls else yfX m.r
theorem yb7 {m : PMail} (h : ycC m = 0) : (0 ≤ m.kind ∧ m.kind < 12) ∧ (yaQ m).all num = true ∧ ybY m.calls = 0 ∧ yfX m.r = 0 := by
 unfold ycC at h
 split at h
 ·omega
 ·split at h
  ·omega
  ·split at h
   ·rename_i h3; exact absurd h h3
   ·rename_i h1 h2 h3; exact ⟨by omega, by simpa using h2, by simpa using h3, h⟩
structure MailW (w : World) (m : PMail) (s f p : Sl) : Prop where
 calls : yfI w s m.calls
 lc : m.calls.length ≤ 100000
 rep : RepAtW w m.r f p
theorem MailAt.w {w : World} {m : PMail} {s f p : Sl} (h : MailAt w m s f p) (hl : m.calls.length ≤ 100000) : MailW w m s f p := ⟨h.calls, hl, h.rep.wide⟩
theorem ykY {w : World} {m : PMail} {s f p : Sl} (h : MailW w m s f p) :
  Calls pP 12 #[m.v s f p] w fun e w' => e = .returned (.int .i64 (ycC m)) ∧ Mod [] w w' := by
 obtain ⟨ll, hll, hop, hcs⟩ := h.calls
 have hl : ll.length ≤ 1000000 := by have := congrArg List.length hcs; have := h.lc; simp at *; omega
 refine yaP (yI5 ?_)
 intro b1 f1
 refine yaC (fun g1 => fun w2 A2 => ⟨by rw [ycC, if_pos (.inl g1)], A2.mod⟩) fun g1 => ?_
 refine yaC (fun g2 => fun w2 A2 => ⟨by rw [ycC, if_pos (.inr g2)], A2.mod⟩) fun g2 => ?_
 have hE : ycC m = if ((yaQ m).all num) = false then 1 else if ybY m.calls ≠ 0 then ybY m.calls else yfX m.r := by rw [ycC, if_neg (by omega)]
 intro w4 A4 h4
 refine (yq0 b1 w4).mono ?_
 rintro e w5 ⟨rfl, M5⟩
 have N5 := A4.mod.go0 M5 (by simp)
 have h5 := M5.keep0 h4
 refine ⟨_, _, _, _, _, _, _, _, _, _, rfl, _, _, _, _, _, _, _, _, _, _, _, _, _, _, _, _, _, _, _, _, _, _, _, h5, ?_⟩
 refine yAY (fun mm x w' => ∃ k : Nat, x = k ∧ k ≤ 10 ∧ ((yaQ m).take k).all num = true ∧ mm = 10 - k ∧ w' = w5) 10 ⟨0, rfl, by omega, by simp, rfl, rfl⟩ ?_
 rintro mm x w6 ⟨k, rfl, hk, hal, rfl, rfl⟩ h6
 refine yaC (fun hlt => ?_) fun hge => ?_
 ·have hk' : k < 10 := by omega
  obtain ⟨x, hx⟩ : ∃ x, (yaQ m)[k]? = some x := ⟨_, List.getElem?_eq_getElem (by simpa [yaQ] using hk')⟩
  have hc := ye1 (s := s) (f := f) (p := p) h6 hx
  have bad : ¬ (0 ≤ x ∧ x ≤ 1099511627776) → ycC m = 1 := fun hn => by
   rw [hE, if_pos]
   apply Bool.eq_false_iff.2
   intro hh
   have := List.all_eq_true.1 hh x (List.mem_of_getElem? hx)
   exact hn (by simpa [num] using this)
  refine ⟨_, yFU b1 hk', yaF hc ?_⟩
  refine yaC (fun g3 => ⟨by rw [bad (by omega)], N5⟩) fun g3 => ?_
  refine yaF hc ?_
  refine yaC (fun g4 => ⟨by rw [bad (by omega)], N5⟩) fun g4 => ?_
  refine yAX (10 - (k + 1)) (by omega) ⟨k + 1, by rw [yaG (by omega) (by omega)]; omega, by omega, ?_, rfl, rfl⟩
  rw [ycD hx, hal]; simp [num]; omega
 ·have hk' : k = 10 := by omega
  subst hk'
  rw [List.take_of_length_le (by simp [yaQ])] at hal
  rw [hal, if_neg (by decide)] at hE
  refine (ytC (s := s) (ll := ll) ⟨hll.keep0 N5, fun q hq => (hop q hq).keep0 N5⟩ hl).mono ?_
  rw [hcs]
  rintro e w7 ⟨rfl, M7⟩
  refine ⟨_, _, rfl, _, _, _, _, _, _, _, _, _, _, _, _, _, _, _, _, _, _, _, _, _, _, _, M7.keep0 h6, ?_⟩
  have N7 := N5.go0 M7 (by simp)
  refine yaB (fun g => ?_) fun g => ?_
  ·have g : ybY m.calls ≠ 0 := by simpa using g
   exact ⟨by rw [hE, if_pos g], N7⟩
  have g : ybY m.calls = 0 := by simpa using g
  rw [if_neg (by simpa using g)] at hE
  refine (yqZ (h.rep.keep0 N7)).mono ?_
  rintro e w8 ⟨rfl, M8⟩
  refine ⟨_, _, rfl, _, _, _, _, _, _, _, _, _, _, _, _, _, _, _, _, _, _, _, _, _, _, _, (M7.go0 M8 (by simp)).keep0 h6, ?_⟩
  exact ⟨by rw [hE], N7.go0 M8 (by simp)⟩
section
set_option maxRecDepth 100000
variable {R : VWP} {w w0 : World} {m : Nat} {i0 i1 i2 i3 i4 i5 i6 i7 i8 i9 j0 j1 j2 j3 j4 j5 j6 j7 j8 j9 k0 k1 k2 k3 k4 k5 k6 k7 k8 k9 l0 l1 l2 l3 l4 l5 l6 l7 l8 l9 : Int} {s0 s1 s2 s3 s4 s5 s6 s7 s8 s9 t0 t1 t2 t3 t4 t5 t6 t7 t8 t9 : BA} {n0 n1 n2 n3 n4 n5 n6 n7 n8 n9 o0 o1 o2 o3 o4 o5 o6 o7 o8 o9 p0 p1 p2 p3 p4 p5 p6 p7 p8 p9 : Nat} {q0 q1 q2 q3 q4 q5 q6 q7 q8 q9 r0 r1 r2 r3 r4 r5 r6 r7 r8 r9 : OA} {B0 B1 B2 B3 B4 B5 B6 B7 B8 B9 : Bool} {M0 M1 M2 M3 : Option Nat} {V0 V1 V2 V3 V4 V5 : Value} {A0 A1 A2 : Addr}
def ypB : LA := ⟨[0, 0, 1, 0, 1, 1, 1, 1], [1, 5, 6], [(1, 0, 0)], 1, []⟩
def ypC : LA := ⟨[0, 0, 1, 0, 1, 1, 1, 1, 1, 1], [1, 5, 7], [(1, 0, 0)], 1, []⟩
def ypD : List LA := [ypB, ypC]
abbrev yv0 := dnF pP ypD (code Tryz.f33)
abbrev yLg := yaN pP ypD (code Tryz.f33)
abbrev yv1 (p : List Nat) (K : List Kh) (R : VWP) := yaN pP ypD (code Tryz.f33) p K (ya4 pP Tryz.f33 [] R)
def yiR (bm0 : Nat) (a6 a7 a8 a9 : Int) (a0 : OA) (a4 a2 : Nat) (a1 : OA) (a5 a3 : Nat) : ByteArray × Int → List Value × List TB := fun (b0, b1) => ([(.pointer (some ⟨bm0, 0, none⟩)), .string b0, .int .i64 b1], [⟨bm0, 27, [.int .i64 a6, .int .i64 a7, .int .i64 a8, .int .i64 a9, .slice a0 a4 a2, .slice a1 a5 a3], false⟩])
def yiS (bm0 : Nat) (a6 a7 a8 a9 : Int) (a0 : OA) (a4 a2 : Nat) (a1 : OA) (a5 a3 : Nat) : ByteArray × Int → List Value × List TB := fun (b0, b1) => ([(.pointer (some ⟨bm0, 0, none⟩)), .string b0, .int .i64 b1], [⟨bm0, 27, [.int .i64 a6, .int .i64 a7, .int .i64 a8, .int .i64 a9, .slice a0 a4 a2, .slice a1 a5 a3], false⟩])
abbrev yCe (bm0 : Nat) (a6 a7 a8 a9 : Int) (a0 : OA) (a4 a2 : Nat) (a1 : OA) (a5 a3 : Nat) (I : Nat → ByteArray → Int → World → Prop) (m : Nat) : Kh := KG (yiR bm0 a6 a7 a8 a9 a0 a4 a2 a1 a5 a3) (U2 I) m
theorem yxV {I : Nat → ByteArray → Int → World → Prop} (m' : Nat) (h1 : m' < m) (h2 : I m' s0 i4 w) : KS (yCe n0 i0 i1 i2 i3 q0 n1 n2 q1 n3 n4 I m) (yiR n0 i0 i1 i2 i3 q0 n1 n2 q1 n3 n4 (s0, i4)) w := ⟨m', h1, _, rfl, rfl, h2⟩
theorem yxW (I : Nat → ByteArray → Int → World → Prop) (m0 : Nat) (h0 : I m0 s0 i4 w0)
 (hr : ∀ m b4 b3 w, I m b4 b3 w →
 brB (decide (b3 < (n1 : Int))) (
 ixA q0 n1 b3 5 fun c6 =>
 ∀ b1, Adv [] [] w b1 →
 yaH .i64 b1 c6 fun d4 =>
 ixA q0 n1 b3 5 fun b0 =>
 yaX b1 (Addr.add b0 1) fun c2 => yaT b1 (Addr.add (Addr.add b0 1) 1) fun b7 => yaX b1 (Addr.add (Addr.add b0 1) 2) fun c3 => yaT b1 (Addr.add (Addr.add b0 1) 3) fun b8 =>
 Calls pP 66 #[.int .i64 d4] b1 fun e b2 => ∃ b9, e = .returned (.string b9) ∧ yaD [n0] b1 b2 ∧ (yaX b2 (Addr.add b0 1) fun d2 => yaT b2 (Addr.add (Addr.add b0 1) 1) fun c7 => yaX b2 (Addr.add (Addr.add b0 1) 2) fun d3 => yaT b2 (Addr.add (Addr.add b0 1) 3) fun c8 => ((.agg (Z7 d2 c7 d3 c8)) : Value) = (.agg (Z7 c2 b7 c3 b8))) ∧ (((.slice q0 n1 n2) : Value) = (.slice q0 n1 n2)) ∧
 Calls pP 67 #[(.agg (Z7 c2 b7 c3 b8))] b2 fun e c4 => ∃ c0, e = .returned (.string c0) ∧ yaD [n0] b2 c4 ∧
 ye9 b9 c0 fun c9 =>
 ye9 b4 c9 fun d0 =>
 KS (yCe n0 i0 i1 i2 i3 q0 n1 n2 q1 n3 n4 I m) (yiR n0 i0 i1 i2 i3 q0 n1 n2 q1 n3 n4 (d0, (IntKind.wrap .i64 (b3 + 1)))) c4)
 (
 Calls pP 66 #[(.int .i64 (n3 : Int))] w fun e c5 => ∃ c1, e = .returned (.string c1) ∧ yaD [n0] w c5 ∧
 ye9 b4 c1 fun d1 =>
 yaK ypC (yv0 392 [0, 0, 1, 0, 1, 1, 1, 1, 1, 1]) (yv1 [1, 1, 1, 1, 1, 1, 0, 1, 0] [] R) (yiS n0 i0 i1 i2 i3 q0 n1 n2 q1 n3 n4 (d1, 0)) c5)) :
 yaK ypB (yv0 394 [0, 0, 1, 0, 1, 1, 1, 1]) (yv1 [1, 1, 1, 1, 0, 1, 0] [] R) (yiR n0 i0 i1 i2 i3 q0 n1 n2 q1 n3 n4 (s0, i4)) w0 :=
 lrule (yiR n0 i0 i1 i2 i3 q0 n1 n2 q1 n3 n4) (U2 I) h0 (by rintro m ⟨b4, b3⟩ w h; exact ⟨by kernel_rfl, by kernel_rfl, fun js => Eq.mpr (by kernel_rfl) (hr m b4 b3 w h)⟩)
abbrev yCf (bm0 : Nat) (a6 a7 a8 a9 : Int) (a0 : OA) (a4 a2 : Nat) (a1 : OA) (a5 a3 : Nat) (I : Nat → ByteArray → Int → World → Prop) (m : Nat) : Kh := KG (yiS bm0 a6 a7 a8 a9 a0 a4 a2 a1 a5 a3) (U2 I) m
theorem yxX {I : Nat → ByteArray → Int → World → Prop} (m' : Nat) (h1 : m' < m) (h2 : I m' s0 i4 w) : KS (yCf n0 i0 i1 i2 i3 q0 n1 n2 q1 n3 n4 I m) (yiS n0 i0 i1 i2 i3 q0 n1 n2 q1 n3 n4 (s0, i4)) w := ⟨m', h1, _, rfl, rfl, h2⟩
theorem yxY (I : Nat → ByteArray → Int → World → Prop) (m0 : Nat) (h0 : I m0 s0 i4 w0)
 (hr : ∀ m b1 b0 w, I m b1 b0 w →
 brB (decide (b0 < (n3 : Int))) (
 ixA q1 n3 b0 2 fun c1 =>
 ∀ b2, Adv [] [] w b2 →
 yaT b2 c1 fun c2 =>
 ixA q1 n3 b0 2 fun b6 =>
 yaH .i64 b2 (Addr.add b6 1) fun c0 =>
 Calls pP 34 #[.string c2] b2 fun e b3 => ∃ b7, e = .returned (.string b7) ∧ yaD [n0] b2 b3 ∧ (yaH .i64 b3 (Addr.add b6 1) fun c5 => ((.int .i64 c5) : Value) = (.int .i64 c0)) ∧ (((.slice q1 n3 n4) : Value) = (.slice q1 n3 n4)) ∧
 Calls pP 66 #[.int .i64 c0] b3 fun e b9 => ∃ b8, e = .returned (.string b8) ∧ yaD [n0] b3 b9 ∧
 ye9 b7 b8 fun c3 =>
 ye9 b1 c3 fun c4 =>
 KS (yCf n0 i0 i1 i2 i3 q0 n1 n2 q1 n3 n4 I m) (yiS n0 i0 i1 i2 i3 q0 n1 n2 q1 n3 n4 (c4, (IntKind.wrap .i64 (b0 + 1)))) b9)
 (
 R (.tuple #[.string b1, .int .i64 0]) w)) :
 yaK ypC (yv0 392 [0, 0, 1, 0, 1, 1, 1, 1, 1, 1]) (yv1 [1, 1, 1, 1, 1, 1, 0, 1, 0] [] R) (yiS n0 i0 i1 i2 i3 q0 n1 n2 q1 n3 n4 (s0, i4)) w0 :=
 lrule (yiS n0 i0 i1 i2 i3 q0 n1 n2 q1 n3 n4) (U2 I) h0 (by rintro m ⟨b1, b0⟩ w h; exact ⟨by kernel_rfl, by kernel_rfl, fun js => Eq.mpr (by kernel_rfl) (hr m b1 b0 w h)⟩)
theorem yGy (h :
 ∀ b1, w.heap.size ≤ b1 →
 ∀ w2, Adv [] [b1] w w2 →
 Calls pP 65 #[(.agg (Z3 i0 i1 i2 i3 q0 n0 n1 q1 n2 n3))] w2 fun e w3 => ∃ x4, e = .returned (.int .i64 x4) ∧ yaD [b1] w2 w3 ∧
 brB (x4 != 0) (
 R (.tuple #[(.string (⟨#[]⟩ : BA)), .int .i64 x4]) w3)
 (
 ∀ w5, Adv [] [] w3 w5 →
 Calls pP 66 #[.int .i64 i0] w5 fun e w6 => ∃ s7, e = .returned (.string s7) ∧ yaD [b1] w5 w6 ∧ (((.slice q0 n0 n1) : Value) = (.slice q0 n0 n1)) ∧ (((.int .i64 i3) : Value) = (.int .i64 i3)) ∧ (((.int .i64 i2) : Value) = (.int .i64 i2)) ∧ (((.int .i64 i1) : Value) = (.int .i64 i1)) ∧
 Calls pP 66 #[.int .i64 i1] w6 fun e w8 => ∃ s9, e = .returned (.string s9) ∧ yaD [b1] w6 w8 ∧ (((.slice q0 n0 n1) : Value) = (.slice q0 n0 n1)) ∧ (((.int .i64 i3) : Value) = (.int .i64 i3)) ∧ (((.int .i64 i2) : Value) = (.int .i64 i2)) ∧
 ye9 s7 s9 fun b7 =>
 Calls pP 66 #[.int .i64 i2] w8 fun e b0 => ∃ b3, e = .returned (.string b3) ∧ yaD [b1] w8 b0 ∧ (((.slice q0 n0 n1) : Value) = (.slice q0 n0 n1)) ∧ (((.int .i64 i3) : Value) = (.int .i64 i3)) ∧
 ye9 b7 b3 fun b8 =>
 Calls pP 66 #[.int .i64 i3] b0 fun e b2 => ∃ b4, e = .returned (.string b4) ∧ yaD [b1] b0 b2 ∧ (((.slice q0 n0 n1) : Value) = (.slice q0 n0 n1)) ∧
 ye9 b8 b4 fun b9 =>
 Calls pP 66 #[(.int .i64 (n0 : Int))] b2 fun e b6 => ∃ b5, e = .returned (.string b5) ∧ yaD [b1] b2 b6 ∧
 ye9 b9 b5 fun c0 =>
 yaK ypB (yv0 394 [0, 0, 1, 0, 1, 1, 1, 1]) (yv1 [1, 1, 1, 1, 0, 1, 0] [] R) (yiR b1 i0 i1 i2 i3 q0 n0 n1 q1 n2 n3 (c0, 0)) b6)) :
 CR pP 33 #[(.agg (Z3 i0 i1 i2 i3 q0 n0 n1 q1 n2 n3))] w R :=
 yaA Tryz.wide_mixed (an := ypD) Tryz.func33 rfl rfl (by kernel_rfl) rfl (Eq.mpr (by kernel_rfl) h)
def ypE : LA := ⟨[0, 0, 1, 0, 1, 1, 1], [1, 3, 4], [(1, 0, 0)], 1, []⟩
def ypF : List LA := [ypE]
abbrev yEU := dnF pP ypF (code Tryz.f13)
abbrev yLh := yaN pP ypF (code Tryz.f13)
abbrev yEV (p : List Nat) (K : List Kh) (R : VWP) := yaN pP ypF (code Tryz.f13) p K (ya4 pP Tryz.f13 [] R)
def yiT (c3 : OA) (c5 c4 bm0 : Nat) (b3 b4 b5 b6 b7 b8 b9 c0 c1 c2 : Int) (a0 : OA) (a6 a3 : Nat) (a9 b0 b1 b2 : Int) (a1 : OA) (a7 a4 : Nat) (a2 : OA) (a8 a5 : Nat) : Int → List Value × List TB := fun c6 => ([(.pointer (some ⟨bm0, 0, none⟩)), .slice c3 c5 c4, .int .i64 c6], [⟨bm0, 29, [.int .i64 b3, .int .i64 b4, .int .i64 b5, .int .i64 b6, .int .i64 b7, .int .i64 b8, .int .i64 b9, .int .i64 c0, .int .i64 c1, .int .i64 c2, .slice a0 a6 a3, .int .i64 a9, .int .i64 b0, .int .i64 b1, .int .i64 b2, .slice a1 a7 a4, .slice a2 a8 a5], false⟩])
abbrev yCg (c3 : OA) (c5 c4 bm0 : Nat) (b3 b4 b5 b6 b7 b8 b9 c0 c1 c2 : Int) (a0 : OA) (a6 a3 : Nat) (a9 b0 b1 b2 : Int) (a1 : OA) (a7 a4 : Nat) (a2 : OA) (a8 a5 : Nat) (I : Nat → Int → World → Prop) (m : Nat) : Kh := KG (yiT c3 c5 c4 bm0 b3 b4 b5 b6 b7 b8 b9 c0 c1 c2 a0 a6 a3 a9 b0 b1 b2 a1 a7 a4 a2 a8 a5) (U1 I) m
theorem ym0 {I : Nat → Int → World → Prop} (m' : Nat) (h1 : m' < m) (h2 : I m' j4 w) : KS (yCg q0 n0 n1 n2 i0 i1 i2 i3 i4 i5 i6 i7 i8 i9 q1 n3 n4 j0 j1 j2 j3 q2 n5 n6 q3 n7 n8 I m) (yiT q0 n0 n1 n2 i0 i1 i2 i3 i4 i5 i6 i7 i8 i9 q1 n3 n4 j0 j1 j2 j3 q2 n5 n6 q3 n7 n8 j4) w := ⟨m', h1, _, rfl, rfl, h2⟩
theorem ym1 {c5 : OA} {a0 : OA} {a1 : OA} {a2 : OA} (I : Nat → Int → World → Prop) (m0 : Nat) (h0 : I m0 j4 w0)
 (hr : ∀ m c4 w, I m c4 w →
 brB (decide (c4 < (n0 : Int))) (
 ixA c5 n0 c4 1 fun q9 =>
 yaH .i64 w q9 fun d6 =>
 Calls pP 36 #[.int .i64 d6] w fun e c8 => ∃ d1, e = .returned (.bool d1) ∧ yaD [n2] w c8 ∧
 brB (!d1) (
 R (.int .i64 1) c8)
 (
 KS (yCg c5 n0 n1 n2 i0 i1 i2 i3 i4 i5 i6 i7 i8 i9 a0 n3 n4 j0 j1 j2 j3 a1 n5 n6 a2 n7 n8 I m) (yiT c5 n0 n1 n2 i0 i1 i2 i3 i4 i5 i6 i7 i8 i9 a0 n3 n4 j0 j1 j2 j3 a1 n5 n6 a2 n7 n8 (IntKind.wrap .i64 (c4 + 1))) c8))
 (
 Calls pP 32 #[.slice a0 n3 n4] w fun e c7 => ∃ d4 c9, e = .returned (.tuple #[.string d4, .int .i64 c9]) ∧ yaD [n2] w c7 ∧
 brB (c9 != 0) (
 R (.int .i64 c9) c7)
 (
 Calls pP 33 #[(.agg (Z3 j0 j1 j2 j3 a1 n5 n6 a2 n7 n8))] c7 fun e d2 => ∃ d5 d3, e = .returned (.tuple #[.string d5, .int .i64 d3]) ∧ yaD [n2] c7 d2 ∧
 R (.int .i64 d3) d2))) :
 yaK ypE (yEU 395 [0, 0, 1, 0, 1, 1, 1]) (yEV [1, 1, 1, 0, 1, 0] [] R) (yiT c5 n0 n1 n2 i0 i1 i2 i3 i4 i5 i6 i7 i8 i9 a0 n3 n4 j0 j1 j2 j3 a1 n5 n6 a2 n7 n8 j4) w0 :=
 lrule (yiT c5 n0 n1 n2 i0 i1 i2 i3 i4 i5 i6 i7 i8 i9 a0 n3 n4 j0 j1 j2 j3 a1 n5 n6 a2 n7 n8) (U1 I) h0 (by rintro m c4 w h; exact ⟨by kernel_rfl, by kernel_rfl, fun js => Eq.mpr (by kernel_rfl) (hr m c4 w h)⟩)
theorem yCh {a3 a2 : Nat} {a7 a5 : Nat} {b0 a9 : Nat} (h :
 ∀ b1, w.heap.size ≤ b1 →
 brB (decide (i0 < 0)) (
 ∀ w2, Adv [] [b1] w w2 →
 R (.int .i64 180) w2)
 (
 brB (decide (i0 > 11)) (
 ∀ w3, Adv [] [b1] w w3 →
 R (.int .i64 180) w3)
 (
 ∀ w4, Adv [] [b1] w w4 →
 Calls pP 30 #[(.agg (Z0 i0 i1 i2 i3 i4 i5 i6 i7 i8 i9 q0 a3 a2 j0 j1 j2 j3 q1 a7 a5 q2 b0 a9))] w4 fun e w5 => ∃ a6 n7 c8, e = .returned (.slice a6 n7 c8) ∧ yaD [b1] w4 w5 ∧
 yaK ypE (yEU 395 [0, 0, 1, 0, 1, 1, 1]) (yEV [1, 1, 1, 0, 1, 0] [] R) (yiT a6 n7 c8 b1 i0 i1 i2 i3 i4 i5 i6 i7 i8 i9 q0 a3 a2 j0 j1 j2 j3 q1 a7 a5 q2 b0 a9 0) w5))) :
 CR pP 13 #[(.agg (Z0 i0 i1 i2 i3 i4 i5 i6 i7 i8 i9 q0 a3 a2 j0 j1 j2 j3 q1 a7 a5 q2 b0 a9))] w R :=
 yaA Tryz.wide_mixed (an := ypF) Tryz.func13 rfl rfl (by kernel_rfl) rfl (Eq.mpr (by kernel_rfl) h)
def ypG : LA := ⟨[0, 0, 1, 0, 1, 1, 1, 1], [1, 5, 6, 7], [(1, 0, 0)], 1, []⟩
def ypH : List LA := [ypG]
abbrev yEW := dnF pP ypH (code Tryz.f11)
abbrev yLi := yaN pP ypH (code Tryz.f11)
abbrev yEX (p : List Nat) (K : List Kh) (R : VWP) := yaN pP ypH (code Tryz.f11) p K (ya4 pP Tryz.f11 [] R)
def yiU (c3 : OA) (c5 c4 bm0 : Nat) (b3 b4 b5 b6 b7 b8 b9 c0 c1 c2 : Int) (a0 : OA) (a6 a3 : Nat) (a9 b0 b1 b2 : Int) (a1 : OA) (a7 a4 : Nat) (a2 : OA) (a8 a5 : Nat) : ByteArray × Int → List Value × List TB := fun (c6, c7) => ([(.pointer (some ⟨bm0, 0, none⟩)), .string c6, .slice c3 c5 c4, .int .i64 c7], [⟨bm0, 29, [.int .i64 b3, .int .i64 b4, .int .i64 b5, .int .i64 b6, .int .i64 b7, .int .i64 b8, .int .i64 b9, .int .i64 c0, .int .i64 c1, .int .i64 c2, .slice a0 a6 a3, .int .i64 a9, .int .i64 b0, .int .i64 b1, .int .i64 b2, .slice a1 a7 a4, .slice a2 a8 a5], false⟩])
abbrev yCi (c3 : OA) (c5 c4 bm0 : Nat) (b3 b4 b5 b6 b7 b8 b9 c0 c1 c2 : Int) (a0 : OA) (a6 a3 : Nat) (a9 b0 b1 b2 : Int) (a1 : OA) (a7 a4 : Nat) (a2 : OA) (a8 a5 : Nat) (I : Nat → ByteArray → Int → World → Prop) (m : Nat) : Kh := KG (yiU c3 c5 c4 bm0 b3 b4 b5 b6 b7 b8 b9 c0 c1 c2 a0 a6 a3 a9 b0 b1 b2 a1 a7 a4 a2 a8 a5) (U2 I) m
theorem ym2 {I : Nat → ByteArray → Int → World → Prop} (m' : Nat) (h1 : m' < m) (h2 : I m' s0 j4 w) : KS (yCi q0 n0 n1 n2 i0 i1 i2 i3 i4 i5 i6 i7 i8 i9 q1 n3 n4 j0 j1 j2 j3 q2 n5 n6 q3 n7 n8 I m) (yiU q0 n0 n1 n2 i0 i1 i2 i3 i4 i5 i6 i7 i8 i9 q1 n3 n4 j0 j1 j2 j3 q2 n5 n6 q3 n7 n8 (s0, j4)) w := ⟨m', h1, _, rfl, rfl, h2⟩
theorem ym3 {c5 : OA} {a0 : OA} {a1 : OA} {a2 : OA} (I : Nat → ByteArray → Int → World → Prop) (m0 : Nat) (h0 : I m0 s0 j4 w0)
 (hr : ∀ m c6 c4 w, I m c6 c4 w →
 brB (decide (c4 < (n0 : Int))) (
 ixA c5 n0 c4 1 fun q9 =>
 yaH .i64 w q9 fun e5 =>
 Calls pP 31 #[(.int .u64 (IntKind.wrap .u64 e5))] w fun e e1 => ∃ d4, e = .returned (.string d4) ∧ yaD [n2] w e1 ∧
 ye9 c6 d4 fun e3 =>
 KS (yCi c5 n0 n1 n2 i0 i1 i2 i3 i4 i5 i6 i7 i8 i9 a0 n3 n4 j0 j1 j2 j3 a1 n5 n6 a2 n7 n8 I m) (yiU c5 n0 n1 n2 i0 i1 i2 i3 i4 i5 i6 i7 i8 i9 a0 n3 n4 j0 j1 j2 j3 a1 n5 n6 a2 n7 n8 (e3, (IntKind.wrap .i64 (c4 + 1)))) e1)
 (
 Calls pP 32 #[.slice a0 n3 n4] w fun e d0 => ∃ d5 e6, e = .returned (.tuple #[.string d5, .int .i64 e6]) ∧ yaD [n2] w d0 ∧
 Calls pP 33 #[(.agg (Z3 j0 j1 j2 j3 a1 n5 n6 a2 n7 n8))] d0 fun e d1 => ∃ d6 e7, e = .returned (.tuple #[.string d6, .int .i64 e7]) ∧ yaD [n2] d0 d1 ∧
 Calls pP 34 #[.string d5] d1 fun e d2 => ∃ d7, e = .returned (.string d7) ∧ yaD [n2] d1 d2 ∧
 Calls pP 34 #[.string d6] d2 fun e c8 => ∃ d8, e = .returned (.string d8) ∧ yaD [n2] d2 c8 ∧
 ye9 d7 d8 fun e4 =>
 ye9 c6 e4 fun d9 =>
 brB (decide ((d9.size : Int) > 1048576)) (
 R (.tuple #[(.string (⟨#[]⟩ : BA)), .int .i64 2]) c8)
 (
 Calls pP 35 #[.string d9] c8 fun e e2 => ∃ e0, e = .returned (.string e0) ∧ yaD [n2] c8 e2 ∧
 R (.tuple #[.string e0, .int .i64 0]) e2))) :
 yaK ypG (yEW 394 [0, 0, 1, 0, 1, 1, 1, 1]) (yEX [1, 1, 1, 1, 0, 1, 0] [] R) (yiU c5 n0 n1 n2 i0 i1 i2 i3 i4 i5 i6 i7 i8 i9 a0 n3 n4 j0 j1 j2 j3 a1 n5 n6 a2 n7 n8 (s0, j4)) w0 :=
 lrule (yiU c5 n0 n1 n2 i0 i1 i2 i3 i4 i5 i6 i7 i8 i9 a0 n3 n4 j0 j1 j2 j3 a1 n5 n6 a2 n7 n8) (U2 I) h0 (by rintro m ⟨c6, c4⟩ w h; exact ⟨by kernel_rfl, by kernel_rfl, fun js => Eq.mpr (by kernel_rfl) (hr m c6 c4 w h)⟩)
theorem yCj {a2 a1 : Nat} {a5 a4 : Nat} {a9 a8 : Nat} (h :
 ∀ b1, w.heap.size ≤ b1 →
 ∀ w2, Adv [] [b1] w w2 →
 Calls pP 13 #[(.agg (Z0 i0 i1 i2 i3 i4 i5 i6 i7 i8 i9 q0 a2 a1 j0 j1 j2 j3 q1 a5 a4 q2 a9 a8))] w2 fun e w3 => ∃ x4, e = .returned (.int .i64 x4) ∧ yaD [b1] w2 w3 ∧
 brB (x4 != 0) (
 R (.tuple #[(.string (⟨#[]⟩ : BA)), .int .i64 x4]) w3)
 (
 Calls pP 30 #[(.agg (Z0 i0 i1 i2 i3 i4 i5 i6 i7 i8 i9 q0 a2 a1 j0 j1 j2 j3 q1 a5 a4 q2 a9 a8))] w3 fun e w5 => ∃ a6 n7 c8, e = .returned (.slice a6 n7 c8) ∧ yaD [b1] w3 w5 ∧
 yaK ypG (yEW 394 [0, 0, 1, 0, 1, 1, 1, 1]) (yEX [1, 1, 1, 1, 0, 1, 0] [] R) (yiU a6 n7 c8 b1 i0 i1 i2 i3 i4 i5 i6 i7 i8 i9 q0 a2 a1 j0 j1 j2 j3 q1 a5 a4 q2 a9 a8 ((⟨#[]⟩ : BA), 0)) w5)) :
 CR pP 11 #[(.agg (Z0 i0 i1 i2 i3 i4 i5 i6 i7 i8 i9 q0 a2 a1 j0 j1 j2 j3 q1 a5 a4 q2 a9 a8))] w R :=
 yaA Tryz.wide_mixed (an := ypH) Tryz.func11 rfl rfl (by kernel_rfl) rfl (Eq.mpr (by kernel_rfl) h)
def ypI : LA := ⟨[0, 0, 1, 0, 1, 1, 1], [1, 5, 18, 19], [(1, 0, 0), (5, 1, 0)], 2, [0, 1]⟩
def ypJ : List LA := [ypI]
abbrev yEY := dnF pP ypJ (code Tryz.f10)
abbrev yLj := yaN pP ypJ (code Tryz.f10)
abbrev yEZ (p : List Nat) (K : List Kh) (R : VWP) := yaN pP ypJ (code Tryz.f10) p K (ya4 pP Tryz.f10 [] R)
def yiV (b6 b7 b8 b9 c0 c1 c2 c3 c4 c5 : OA) (bm0 bm1 : Nat) : Int × Int × Int × Int × Int × Int × Int × Int × Int × Int × Int × (Option Addr) × Nat × Nat × Int × Int × Int × Int × (Option Addr) × Nat × Nat × (Option Addr) × Nat × Nat × (Option Addr) × (Option Addr) × Nat × Nat → List Value × List TB := fun (d7, c7, c8, c9, d0, d1, d2, d3, d4, d5, d6, a0, a6, a3, a9, b0, b1, b2, a1, a7, a4, a2, a8, a5, c6, b3, b5, b4) => ([(.pointer (some ⟨bm0, 0, none⟩)), (.pointer (some ⟨bm1, 0, none⟩)), (.agg (Z6 b6 b7 b8 b9 c0 c1 c2 c3 c4 c5)), .int .i64 d7], [⟨bm0, 29, [.int .i64 c7, .int .i64 c8, .int .i64 c9, .int .i64 d0, .int .i64 d1, .int .i64 d2, .int .i64 d3, .int .i64 d4, .int .i64 d5, .int .i64 d6, .slice a0 a6 a3, .int .i64 a9, .int .i64 b0, .int .i64 b1, .int .i64 b2, .slice a1 a7 a4, .slice a2 a8 a5], true⟩, ⟨bm1, 61, [.pointer c6, .slice b3 b5 b4], true⟩])
abbrev yCk (a0 a1 a2 a3 a4 a5 a6 a7 a8 a9 : OA) (bm0 bm1 : Nat) (I : Nat → Int → Int → Int → Int → Int → Int → Int → Int → Int → Int → Int → Option Addr → Nat → Nat → Int → Int → Int → Int → Option Addr → Nat → Nat → Option Addr → Nat → Nat → Option Addr → Option Addr → Nat → Nat → World → Prop) (m : Nat) : Kh := KG (yiV a0 a1 a2 a3 a4 a5 a6 a7 a8 a9 bm0 bm1) (U28 I) m
theorem yxZ {I : Nat → Int → Int → Int → Int → Int → Int → Int → Int → Int → Int → Int → Option Addr → Nat → Nat → Int → Int → Int → Int → Option Addr → Nat → Nat → Option Addr → Nat → Nat → Option Addr → Option Addr → Nat → Nat → World → Prop} (m' : Nat) (h1 : m' < m) (h2 : I m' i0 i1 i2 i3 i4 i5 i6 i7 i8 i9 j0 r0 n2 n3 j1 j2 j3 j4 r1 n4 n5 r2 n6 n7 r3 r4 n8 n9 w) : KS (yCk q0 q1 q2 q3 q4 q5 q6 q7 q8 q9 n0 n1 I m) (yiV q0 q1 q2 q3 q4 q5 q6 q7 q8 q9 n0 n1 (i0, i1, i2, i3, i4, i5, i6, i7, i8, i9, j0, r0, n2, n3, j1, j2, j3, j4, r1, n4, n5, r2, n6, n7, r3, r4, n8, n9)) w := ⟨m', h1, _, rfl, rfl, h2⟩
theorem yx0 (I : Nat → Int → Int → Int → Int → Int → Int → Int → Int → Int → Int → Int → Option Addr → Nat → Nat → Int → Int → Int → Int → Option Addr → Nat → Nat → Option Addr → Nat → Nat → Option Addr → Option Addr → Nat → Nat → World → Prop) (m0 : Nat) (h0 : I m0 i0 i1 i2 i3 i4 i5 i6 i7 i8 i9 j0 r0 n2 n3 j1 j2 j3 j4 r1 n4 n5 r2 n6 n7 r3 r4 n8 n9 w0)
 (hr : ∀ m d7 c7 c8 c9 d0 d1 d2 d3 d4 d5 d6 a0 a2 a1 b9 c0 c1 c2 b3 b7 b5 b4 b8 b6 c6 c3 c5 c4 w, I m d7 c7 c8 c9 d0 d1 d2 d3 d4 d5 d6 a0 a2 a1 b9 c0 c1 c2 b3 b7 b5 b4 b8 b6 c6 c3 c5 c4 w →
 w.heap[n0]? = some (.cells (Z0 c7 c8 c9 d0 d1 d2 d3 d4 d5 d6 a0 a2 a1 b9 c0 c1 c2 b3 b7 b5 b4 b8 b6) 29) →
 w.heap[n1]? = some (.cells #[.pointer c6, .slice c3 c5 c4] 61) →
 brB (decide (d7 < 10)) (
 ∃ w6, (∀ w' : World, (Instr.index 63 (.agg (Z6 q0 q1 q2 q3 q4 q5 q6 q7 q8 q9)) (.int .i64 d7)).run pP w' = .ok (.pointer w6) w') ∧
 ynC w6 fun ge =>
 yaH .i64 w ge fun gg =>
 Calls pP 24 #[(.int .u64 (IntKind.wrap .u64 gg))] w fun e v0 => ∃ w8, e = .returned (.string w8) ∧ ∃ gh gi gj gk gl gm gn go gp gq fr fz fv gr gs gt gu fs ga fw ft gb fx, v0.heap[n0]? = some (.cells (Z0 gh gi gj gk gl gm gn go gp gq fr fz fv gr gs gt gu fs ga fw ft gb fx) 29) ∧ ∃ gd fu gc fy, v0.heap[n1]? = some (.cells #[.pointer gd, .slice fu gc fy] 61) ∧
 Calls pP 23 #[(.pointer (some ⟨n1, 0, none⟩)), .string w8] v0 fun e v1 => ∃ gv gf, e = .returned (.tuple #[.int .i64 gv, gf]) ∧ ∃ w9 x0 x1 x2 x3 x4 x5 x6 x7 x8 v6 w3 v9 x9 y0 y1 y2 v7 w4 w1 v8 w5 w2, v1.heap[n0]? = some (.cells (Z0 w9 x0 x1 x2 x3 x4 x5 x6 x7 x8 v6 w3 v9 x9 y0 y1 y2 v7 w4 w1 v8 w5 w2) 29) ∧ ∃ w7 h3 h9 h6, v1.heap[n1]? = some (.cells #[.pointer w7, .slice h3 h9 h6] 61) ∧
 KS (yCk q0 q1 q2 q3 q4 q5 q6 q7 q8 q9 n0 n1 I m) (yiV q0 q1 q2 q3 q4 q5 q6 q7 q8 q9 n0 n1 ((IntKind.wrap .i64 (d7 + 1)), w9, x0, x1, x2, x3, x4, x5, x6, x7, x8, v6, w3, v9, x9, y0, y1, y2, v7, w4, w1, v8, w5, w2, w7, h3, h9, h6)) v1)
 (
 Calls pP 25 #[.slice a0 a2 a1] w fun e g6 => ∃ u2 ck, e = .returned (.tuple #[.string u2, .int .i64 ck]) ∧ ∃ cl cm cn co cp cq cr cs ct cu y3 be af v2 v3 v4 v5 h4 u0 h7 h5 u1 h8, g6.heap[n0]? = some (.cells (Z0 cl cm cn co cp cq cr cs ct cu y3 be af v2 v3 v4 v5 h4 u0 h7 h5 u1 h8) 29) ∧ ∃ cc y4 bf ag, g6.heap[n1]? = some (.cells #[.pointer cc, .slice y4 bf ag] 61) ∧
 Calls pP 26 #[(.agg (Z3 v2 v3 v4 v5 h4 u0 h7 h5 u1 h8))] g6 fun e g7 => ∃ u3 cv, e = .returned (.tuple #[.string u3, .int .i64 cv]) ∧ ∃ cw cx cy cz da db dc dd de df y5 bg ah dg dh di dj y6 bh ai y7 bi aj, g7.heap[n0]? = some (.cells (Z0 cw cx cy cz da db dc dd de df y5 bg ah dg dh di dj y6 bh ai y7 bi aj) 29) ∧ ∃ cd y8 bj ak, g7.heap[n1]? = some (.cells #[.pointer cd, .slice y8 bj ak] 61) ∧
 Calls pP 27 #[(.pointer (some ⟨n1, 0, none⟩))] g7 fun e g8 => ∃ u4, e = .returned (.string u4) ∧ ∃ dk dl dm dn dp dq dr ds dt du y9 bk am dv dw dx dy z0 bl an z1 bm ao, g8.heap[n0]? = some (.cells (Z0 dk dl dm dn dp dq dr ds dt du y9 bk am dv dw dx dy z0 bl an z1 bm ao) 29) ∧ ∃ ce z2 bn ap, g8.heap[n1]? = some (.cells #[.pointer ce, .slice z2 bn ap] 61) ∧
 Calls pP 28 #[.string u2] g8 fun e g9 => ∃ u5, e = .returned (.string u5) ∧ ∃ dz ea eb ec ed ee ef eg eh ei z3 bo aq ej ek el em z4 bp ar z5 bq au, g9.heap[n0]? = some (.cells (Z0 dz ea eb ec ed ee ef eg eh ei z3 bo aq ej ek el em z4 bp ar z5 bq au) 29) ∧ ∃ cf z6 br av, g9.heap[n1]? = some (.cells #[.pointer cf, .slice z6 br av] 61) ∧
 ye9 u4 u5 fun cj =>
 Calls pP 28 #[.string u3] g9 fun e g5 => ∃ u6, e = .returned (.string u6) ∧ ∃ en eo ep eq er et eu ew ex ey z7 bt aw ez fa fb fc z8 bu ax z9 bv ay, g5.heap[n0]? = some (.cells (Z0 en eo ep eq er et eu ew ex ey z7 bt aw ez fa fb fc z8 bu ax z9 bv ay) 29) ∧ ∃ ch aa bw az, g5.heap[n1]? = some (.cells #[.pointer ch, .slice aa bw az] 61) ∧
 ye9 cj u6 fun u7 =>
 brB (decide ((u7.size : Int) > 1048576)) (
 R (.tuple #[(.string (⟨#[]⟩ : BA)), .int .i64 2]) g5)
 (
 Calls pP 29 #[.string u7] g5 fun e h1 => ∃ u9, e = .returned (.string u9) ∧ ∃ fd fe ff fg fh fi fj fk fl fm ab bx ba fn fo fp fq ac bz bb ad ca bc, h1.heap[n0]? = some (.cells (Z0 fd fe ff fg fh fi fj fk fl fm ab bx ba fn fo fp fq ac bz bb ad ca bc) 29) ∧ ∃ ci ae cb bd, h1.heap[n1]? = some (.cells #[.pointer ci, .slice ae cb bd] 61) ∧
 R (.tuple #[.string u9, .int .i64 0]) h1))) :
 yaK ypI (yEY 395 [0, 0, 1, 0, 1, 1, 1]) (yEZ [1, 1, 1, 0, 1, 0] [] R) (yiV q0 q1 q2 q3 q4 q5 q6 q7 q8 q9 n0 n1 (i0, i1, i2, i3, i4, i5, i6, i7, i8, i9, j0, r0, n2, n3, j1, j2, j3, j4, r1, n4, n5, r2, n6, n7, r3, r4, n8, n9)) w0 :=
 lrule (yiV q0 q1 q2 q3 q4 q5 q6 q7 q8 q9 n0 n1) (U28 I) h0 (by rintro m ⟨d7, c7, c8, c9, d0, d1, d2, d3, d4, d5, d6, a0, a2, a1, b9, c0, c1, c2, b3, b7, b5, b4, b8, b6, c6, c3, c5, c4⟩ w h; exact ⟨by kernel_rfl, by kernel_rfl, fun js => Eq.mpr (by kernel_rfl) (hr m d7 c7 c8 c9 d0 d1 d2 d3 d4 d5 d6 a0 a2 a1 b9 c0 c1 c2 b3 b7 b5 b4 b8 b6 c6 c3 c5 c4 w h)⟩)
theorem yGz {a2 a1 : Nat} {a5 a4 : Nat} {a8 a7 : Nat} (h :
 ∀ b1, w.heap.size ≤ b1 →
 ∀ w2, Adv [] [b1] w w2 →
 Calls pP 12 #[(.agg (Z0 i0 i1 i2 i3 i4 i5 i6 i7 i8 i9 q0 a2 a1 j0 j1 j2 j3 q1 a5 a4 q2 a8 a7))] w2 fun e w3 => ∃ x4, e = .returned (.int .i64 x4) ∧ yaD [b1] w2 w3 ∧
 brB (x4 != 0) (
 R (.tuple #[(.string (⟨#[]⟩ : BA)), .int .i64 x4]) w3)
 (
 ∀ b5, w3.heap.size ≤ b5 →
 ∀ w6, Adv [] [b5] w3 w6 → w6.heap[b1]? = some (.cells (Z0 i0 i1 i2 i3 i4 i5 i6 i7 i8 i9 q0 a2 a1 j0 j1 j2 j3 q1 a5 a4 q2 a8 a7) 29) →
 Calls pP 22 #[(.pointer (some ⟨b1, 0, none⟩))] w6 fun e w7 => ∃ p8 p9 e9 f0 f1 f2 f3 f4 f5 f6, e = .returned (.agg (Z6 p8 p9 e9 f0 f1 f2 f3 f4 f5 f6)) ∧ yaR [b1] [(b5, 61)] [b5] w6 w7 ∧ ∃ d5 d6 d7 d8 d9 e0 e1 e2 e3 e4 c6 d2 c9 e5 e6 e7 e8 c7 d3 d0 c8 d4 d1, w7.heap[b1]? = some (.cells (Z0 d5 d6 d7 d8 d9 e0 e1 e2 e3 e4 c6 d2 c9 e5 e6 e7 e8 c7 d3 d0 c8 d4 d1) 29) ∧
 ∀ c5, Adv [] [] w7 c5 → c5.heap[b1]? = some (.cells (Z0 d5 d6 d7 d8 d9 e0 e1 e2 e3 e4 c6 d2 c9 e5 e6 e7 e8 c7 d3 d0 c8 d4 d1) 29) →
 c5.heap[b5]? = some (.cells #[.pointer none, .slice none 0 0] 61) →
 yaK ypI (yEY 395 [0, 0, 1, 0, 1, 1, 1]) (yEZ [1, 1, 1, 0, 1, 0] [] R) (yiV p8 p9 e9 f0 f1 f2 f3 f4 f5 f6 b1 b5 (0, d5, d6, d7, d8, d9, e0, e1, e2, e3, e4, c6, d2, c9, e5, e6, e7, e8, c7, d3, d0, c8, d4, d1, none, none, 0, 0)) c5)) :
 CR pP 10 #[(.agg (Z0 i0 i1 i2 i3 i4 i5 i6 i7 i8 i9 q0 a2 a1 j0 j1 j2 j3 q1 a5 a4 q2 a8 a7))] w R :=
 yaA Tryz.wide_mixed (an := ypJ) Tryz.func10 rfl rfl (by kernel_rfl) rfl (Eq.mpr (by kernel_rfl) h)
def ypK : LA := ⟨[0, 0, 1, 0, 1, 1], [2, 3, 5, 6, 10], [(2, 0, 0), (3, 1, 0), (5, 2, 0), (6, 3, 0)], 4, [0, 1, 2, 3]⟩
def ypL : List LA := [ypK]
abbrev yE0 := dnF pP ypL (code Tryz.f14)
abbrev yLk := yaN pP ypL (code Tryz.f14)
abbrev yE1 (p : List Nat) (K : List Kh) (R : VWP) := yaN pP ypL (code Tryz.f14) p K (ya4 pP Tryz.f14 [] R)
def yiW (bm0 : Nat) (e6 e7 e8 e9 f0 f1 f2 f3 f4 f5 : Int) (a0 : OA) (b2 a6 : Nat) (b8 b9 c0 c1 : Int) (a1 : OA) (b3 a7 : Nat) (a2 : OA) (b4 a8 bm1 : Nat) (f6 f7 f8 f9 g0 g1 g2 g3 g4 g5 : Int) (a3 : OA) (b5 a9 : Nat) (c2 c3 c4 c5 : Int) (a4 : OA) (b6 b0 : Nat) (a5 : OA) (b7 b1 bm2 : Nat) (c6 c7 c8 c9 d0 d1 d2 d3 d4 d5 : OA) (bm3 : Nat) (d6 d7 d8 d9 e0 e1 e2 e3 e4 e5 : OA) : Int → List Value × List TB := fun g6 => ([(.pointer (some ⟨bm0, 0, none⟩)), (.pointer (some ⟨bm1, 0, none⟩)), (.pointer (some ⟨bm2, 0, none⟩)), (.pointer (some ⟨bm3, 0, none⟩)), .int .i64 g6], [⟨bm0, 29, [.int .i64 e6, .int .i64 e7, .int .i64 e8, .int .i64 e9, .int .i64 f0, .int .i64 f1, .int .i64 f2, .int .i64 f3, .int .i64 f4, .int .i64 f5, .slice a0 b2 a6, .int .i64 b8, .int .i64 b9, .int .i64 c0, .int .i64 c1, .slice a1 b3 a7, .slice a2 b4 a8], true⟩, ⟨bm1, 29, [.int .i64 f6, .int .i64 f7, .int .i64 f8, .int .i64 f9, .int .i64 g0, .int .i64 g1, .int .i64 g2, .int .i64 g3, .int .i64 g4, .int .i64 g5, .slice a3 b5 a9, .int .i64 c2, .int .i64 c3, .int .i64 c4, .int .i64 c5, .slice a4 b6 b0, .slice a5 b7 b1], true⟩, ⟨bm2, 63, [.pointer c6, .pointer c7, .pointer c8, .pointer c9, .pointer d0, .pointer d1, .pointer d2, .pointer d3, .pointer d4, .pointer d5], true⟩, ⟨bm3, 63, [.pointer d6, .pointer d7, .pointer d8, .pointer d9, .pointer e0, .pointer e1, .pointer e2, .pointer e3, .pointer e4, .pointer e5], true⟩])
abbrev yCl (bm0 : Nat) (e6 e7 e8 e9 f0 f1 f2 f3 f4 f5 : Int) (a0 : OA) (b2 a6 : Nat) (b8 b9 c0 c1 : Int) (a1 : OA) (b3 a7 : Nat) (a2 : OA) (b4 a8 bm1 : Nat) (f6 f7 f8 f9 g0 g1 g2 g3 g4 g5 : Int) (a3 : OA) (b5 a9 : Nat) (c2 c3 c4 c5 : Int) (a4 : OA) (b6 b0 : Nat) (a5 : OA) (b7 b1 bm2 : Nat) (c6 c7 c8 c9 d0 d1 d2 d3 d4 d5 : OA) (bm3 : Nat) (d6 d7 d8 d9 e0 e1 e2 e3 e4 e5 : OA) (I : Nat → Int → World → Prop) (m : Nat) : Kh := KG (yiW bm0 e6 e7 e8 e9 f0 f1 f2 f3 f4 f5 a0 b2 a6 b8 b9 c0 c1 a1 b3 a7 a2 b4 a8 bm1 f6 f7 f8 f9 g0 g1 g2 g3 g4 g5 a3 b5 a9 c2 c3 c4 c5 a4 b6 b0 a5 b7 b1 bm2 c6 c7 c8 c9 d0 d1 d2 d3 d4 d5 bm3 d6 d7 d8 d9 e0 e1 e2 e3 e4 e5) (U1 I) m
theorem yx1 {d6 d7 d8 d9 e0 e1 e2 e3 e4 e5 : OA} {I : Nat → Int → World → Prop} (m' : Nat) (h1 : m' < m) (h2 : I m' k8 w) : KS (yCl n0 i0 i1 i2 i3 i4 i5 i6 i7 i8 i9 q0 n1 n2 j0 j1 j2 j3 q1 n3 n4 q2 n5 n6 n7 j4 j5 j6 j7 j8 j9 k0 k1 k2 k3 q3 n8 n9 k4 k5 k6 k7 q4 o0 o1 q5 o2 o3 o4 q6 q7 q8 q9 r0 r1 r2 r3 r4 r5 o5 d6 d7 d8 d9 e0 e1 e2 e3 e4 e5 I m) (yiW n0 i0 i1 i2 i3 i4 i5 i6 i7 i8 i9 q0 n1 n2 j0 j1 j2 j3 q1 n3 n4 q2 n5 n6 n7 j4 j5 j6 j7 j8 j9 k0 k1 k2 k3 q3 n8 n9 k4 k5 k6 k7 q4 o0 o1 q5 o2 o3 o4 q6 q7 q8 q9 r0 r1 r2 r3 r4 r5 o5 d6 d7 d8 d9 e0 e1 e2 e3 e4 e5 k8) w := ⟨m', h1, _, rfl, rfl, h2⟩
theorem yx2 {d6 d7 d8 d9 e0 e1 e2 e3 e4 e5 : OA} (I : Nat → Int → World → Prop) (m0 : Nat) (h0 : I m0 k8 w0)
 (hr : ∀ m e6 w, I m e6 w →
 w.heap[n0]? = some (.cells (Z0 i0 i1 i2 i3 i4 i5 i6 i7 i8 i9 q0 n1 n2 j0 j1 j2 j3 q1 n3 n4 q2 n5 n6) 29) →
 w.heap[n7]? = some (.cells (Z0 j4 j5 j6 j7 j8 j9 k0 k1 k2 k3 q3 n8 n9 k4 k5 k6 k7 q4 o0 o1 q5 o2 o3) 29) →
 w.heap[o4]? = some (.cells (Z6 q6 q7 q8 q9 r0 r1 r2 r3 r4 r5) 63) →
 w.heap[o5]? = some (.cells (Z6 d6 d7 d8 d9 e0 e1 e2 e3 e4 e5) 63) →
 brB (decide (e6 < 10)) (0 ≤ e6 ∧ e6 < ((10 : Nat) : Int) ∧
 ypZ w (Addr.add ⟨o4, 0, none⟩ (Int.toNat e6 * 1)) fun db =>
 ynC db fun dc =>
 yaH .i64 w dc fun ba => 0 ≤ e6 ∧ e6 < ((10 : Nat) : Int) ∧
 ypZ w (Addr.add ⟨o5, 0, none⟩ (Int.toNat e6 * 1)) fun y1 =>
 ynC y1 fun az =>
 yaH .i64 w az fun bb =>
 brB (ba != bb) (
 ∀ g7, Adv [] [] w g7 → g7.heap[n0]? = some (.cells (Z0 i0 i1 i2 i3 i4 i5 i6 i7 i8 i9 q0 n1 n2 j0 j1 j2 j3 q1 n3 n4 q2 n5 n6) 29) →
 g7.heap[n7]? = some (.cells (Z0 j4 j5 j6 j7 j8 j9 k0 k1 k2 k3 q3 n8 n9 k4 k5 k6 k7 q4 o0 o1 q5 o2 o3) 29) →
 g7.heap[o4]? = some (.cells (Z6 q6 q7 q8 q9 r0 r1 r2 r3 r4 r5) 63) →
 g7.heap[o5]? = some (.cells (Z6 d6 d7 d8 d9 e0 e1 e2 e3 e4 e5) 63) →
 R (.bool false) g7)
 (
 ∀ g8, Adv [] [] w g8 → g8.heap[n0]? = some (.cells (Z0 i0 i1 i2 i3 i4 i5 i6 i7 i8 i9 q0 n1 n2 j0 j1 j2 j3 q1 n3 n4 q2 n5 n6) 29) →
 g8.heap[n7]? = some (.cells (Z0 j4 j5 j6 j7 j8 j9 k0 k1 k2 k3 q3 n8 n9 k4 k5 k6 k7 q4 o0 o1 q5 o2 o3) 29) →
 g8.heap[o4]? = some (.cells (Z6 q6 q7 q8 q9 r0 r1 r2 r3 r4 r5) 63) →
 g8.heap[o5]? = some (.cells (Z6 d6 d7 d8 d9 e0 e1 e2 e3 e4 e5) 63) →
 KS (yCl n0 i0 i1 i2 i3 i4 i5 i6 i7 i8 i9 q0 n1 n2 j0 j1 j2 j3 q1 n3 n4 q2 n5 n6 n7 j4 j5 j6 j7 j8 j9 k0 k1 k2 k3 q3 n8 n9 k4 k5 k6 k7 q4 o0 o1 q5 o2 o3 o4 q6 q7 q8 q9 r0 r1 r2 r3 r4 r5 o5 d6 d7 d8 d9 e0 e1 e2 e3 e4 e5 I m) (yiW n0 i0 i1 i2 i3 i4 i5 i6 i7 i8 i9 q0 n1 n2 j0 j1 j2 j3 q1 n3 n4 q2 n5 n6 n7 j4 j5 j6 j7 j8 j9 k0 k1 k2 k3 q3 n8 n9 k4 k5 k6 k7 q4 o0 o1 q5 o2 o3 o4 q6 q7 q8 q9 r0 r1 r2 r3 r4 r5 o5 d6 d7 d8 d9 e0 e1 e2 e3 e4 e5 (IntKind.wrap .i64 (e6 + 1))) g8))
 (
 Calls pP 37 #[.slice q0 n1 n2, .slice q3 n8 n9] w fun e g9 => ∃ u5, e = .returned (.bool u5) ∧ ∃ bc bd be bf bg bh bi bj bk bl v6 x3 w5 u7 u9 v0 v1 h3 u1 h7 h4 u2 h8, g9.heap[n0]? = some (.cells (Z0 bc bd be bf bg bh bi bj bk bl v6 x3 w5 u7 u9 v0 v1 h3 u1 h7 h4 u2 h8) 29) ∧ ∃ bm bn bo bp bq br bt bu bv bw v7 x4 w6 v2 v3 v4 v5 h5 u3 h9 h6 u4 u0, g9.heap[n7]? = some (.cells (Z0 bm bn bo bp bq br bt bu bv bw v7 x4 w6 v2 v3 v4 v5 h5 u3 h9 h6 u4 u0) 29) ∧ ∃ y2 y3 y4 y5 y6 y7 y8 y9 z0 z1, g9.heap[o4]? = some (.cells (Z6 y2 y3 y4 y5 y6 y7 y8 y9 z0 z1) 63) ∧ ∃ z2 z3 z4 z5 z6 z7 z8 z9 aa ab, g9.heap[o5]? = some (.cells (Z6 z2 z3 z4 z5 z6 z7 z8 z9 aa ab) 63) ∧
 brB u5 (
 Calls pP 38 #[(.agg (Z3 u7 u9 v0 v1 h3 u1 h7 h4 u2 h8)), (.agg (Z3 v2 v3 v4 v5 h5 u3 h9 h6 u4 u0))] g9 fun e h1 => ∃ u6, e = .returned (.bool u6) ∧ ∃ bx bz ca cb cc cd ce cf ch ci v8 x5 w7 cj ck cl cm v9 x6 w8 w1 x7 w9, h1.heap[n0]? = some (.cells (Z0 bx bz ca cb cc cd ce cf ch ci v8 x5 w7 cj ck cl cm v9 x6 w8 w1 x7 w9) 29) ∧ ∃ cn co cp cq cr cs ct cu cv cw w2 x8 x0 cx cy cz da w3 x9 x1 w4 y0 x2, h1.heap[n7]? = some (.cells (Z0 cn co cp cq cr cs ct cu cv cw w2 x8 x0 cx cy cz da w3 x9 x1 w4 y0 x2) 29) ∧ ∃ ac ad ae af ag ah ai aj ak am, h1.heap[o4]? = some (.cells (Z6 ac ad ae af ag ah ai aj ak am) 63) ∧ ∃ an ao ap aq ar au av aw ax ay, h1.heap[o5]? = some (.cells (Z6 an ao ap aq ar au av aw ax ay) 63) ∧
 R (.bool u6) h1)
 (
 R (.bool false) g9))) :
 yaK ypK (yE0 396 [0, 0, 1, 0, 1, 1]) (yE1 [1, 1, 0, 1, 0] [] R) (yiW n0 i0 i1 i2 i3 i4 i5 i6 i7 i8 i9 q0 n1 n2 j0 j1 j2 j3 q1 n3 n4 q2 n5 n6 n7 j4 j5 j6 j7 j8 j9 k0 k1 k2 k3 q3 n8 n9 k4 k5 k6 k7 q4 o0 o1 q5 o2 o3 o4 q6 q7 q8 q9 r0 r1 r2 r3 r4 r5 o5 d6 d7 d8 d9 e0 e1 e2 e3 e4 e5 k8) w0 :=
 lrule (yiW n0 i0 i1 i2 i3 i4 i5 i6 i7 i8 i9 q0 n1 n2 j0 j1 j2 j3 q1 n3 n4 q2 n5 n6 n7 j4 j5 j6 j7 j8 j9 k0 k1 k2 k3 q3 n8 n9 k4 k5 k6 k7 q4 o0 o1 q5 o2 o3 o4 q6 q7 q8 q9 r0 r1 r2 r3 r4 r5 o5 d6 d7 d8 d9 e0 e1 e2 e3 e4 e5) (U1 I) h0 (by rintro m e6 w h; exact ⟨by kernel_rfl, by kernel_rfl, fun js => Eq.mpr (by kernel_rfl) (hr m e6 w h)⟩)
theorem yGA {a3 a2 : Nat} {a6 a5 : Nat} {a9 a8 : Nat} {b4 b3 : Nat} {b7 b6 : Nat} {c0 b9 : Nat} (h :
 ∀ b1, w.heap.size ≤ b1 →
 ∀ b2, w.heap.size ≤ b2 →
 ∀ w3, Adv [] [b2, b1] w w3 → w3.heap[b1]? = some (.cells (Z0 i0 i1 i2 i3 i4 i5 i6 i7 i8 i9 q0 a3 a2 j0 j1 j2 j3 q1 a6 a5 q2 a9 a8) 29) →
 Calls pP 22 #[(.pointer (some ⟨b1, 0, none⟩))] w3 fun e w4 => ∃ p5 p6 p7 p8 p9 h1 h2 h3 h4 h5, e = .returned (.agg (Z6 p5 p6 p7 p8 p9 h1 h2 h3 h4 h5)) ∧ yaR [b1] [(b2, 29)] [b2] w3 w4 ∧ ∃ y6 y7 y8 y9 z0 z1 z2 z3 z4 z5 x7 y3 y0 z6 z7 z8 z9 x8 y4 y1 x9 y5 y2, w4.heap[b1]? = some (.cells (Z0 y6 y7 y8 y9 z0 z1 z2 z3 z4 z5 x7 y3 y0 z6 z7 z8 z9 x8 y4 y1 x9 y5 y2) 29) ∧
 ∀ f2, Adv [] [] w4 f2 → f2.heap[b1]? = some (.cells (Z0 y6 y7 y8 y9 z0 z1 z2 z3 z4 z5 x7 y3 y0 z6 z7 z8 z9 x8 y4 y1 x9 y5 y2) 29) →
 f2.heap[b2]? = some (.cells (Z0 j4 j5 j6 j7 j8 j9 k0 k1 k2 k3 q3 b4 b3 k4 k5 k6 k7 q4 b7 b6 q5 c0 b9) 29) →
 Calls pP 22 #[(.pointer (some ⟨b2, 0, none⟩))] f2 fun e e9 => ∃ h6 h7 h8 h9 u0 u1 u2 u3 u4 u5, e = .returned (.agg (Z6 h6 h7 h8 h9 u0 u1 u2 u3 u4 u5)) ∧ ∃ u6 u7 u9 v0 v1 v2 v3 v4 v5 v6 f3 g5 f9 v7 v8 v9 w0 f4 g6 g0 f5 g7 g1, e9.heap[b1]? = some (.cells (Z0 u6 u7 u9 v0 v1 v2 v3 v4 v5 v6 f3 g5 f9 v7 v8 v9 w0 f4 g6 g0 f5 g7 g1) 29) ∧ ∃ w1 w2 w5 w6 w7 w8 w9 x0 x1 x2 f6 g8 g2 x3 x4 x5 x6 f7 g9 g3 f8 h0 g4, e9.heap[b2]? = some (.cells (Z0 w1 w2 w5 w6 w7 w8 w9 x0 x1 x2 f6 g8 g2 x3 x4 x5 x6 f7 g9 g3 f8 h0 g4) 29) ∧
 ∀ f0, e9.heap.size ≤ f0 →
 ∀ f1, e9.heap.size ≤ f1 →
 ∀ a0, Adv [] [f1, f0] e9 a0 → a0.heap[b1]? = some (.cells (Z0 u6 u7 u9 v0 v1 v2 v3 v4 v5 v6 f3 g5 f9 v7 v8 v9 w0 f4 g6 g0 f5 g7 g1) 29) →
 a0.heap[b2]? = some (.cells (Z0 w1 w2 w5 w6 w7 w8 w9 x0 x1 x2 f6 g8 g2 x3 x4 x5 x6 f7 g9 g3 f8 h0 g4) 29) →
 a0.heap[f0]? = some (.cells (Z6 p5 p6 p7 p8 p9 h1 h2 h3 h4 h5) 63) →
 a0.heap[f1]? = some (.cells (Z6 h6 h7 h8 h9 u0 u1 u2 u3 u4 u5) 63) →
 yaK ypK (yE0 396 [0, 0, 1, 0, 1, 1]) (yE1 [1, 1, 0, 1, 0] [] R) (yiW b1 u6 u7 u9 v0 v1 v2 v3 v4 v5 v6 f3 g5 f9 v7 v8 v9 w0 f4 g6 g0 f5 g7 g1 b2 w1 w2 w5 w6 w7 w8 w9 x0 x1 x2 f6 g8 g2 x3 x4 x5 x6 f7 g9 g3 f8 h0 g4 f0 p5 p6 p7 p8 p9 h1 h2 h3 h4 h5 f1 h6 h7 h8 h9 u0 u1 u2 u3 u4 u5 0) a0) :
 CR pP 14 #[(.agg (Z0 i0 i1 i2 i3 i4 i5 i6 i7 i8 i9 q0 a3 a2 j0 j1 j2 j3 q1 a6 a5 q2 a9 a8)), (.agg (Z0 j4 j5 j6 j7 j8 j9 k0 k1 k2 k3 q3 b4 b3 k4 k5 k6 k7 q4 b7 b6 q5 c0 b9))] w R :=
 yaA Tryz.wide_mixed (an := ypL) Tryz.func14 rfl rfl (by kernel_rfl) rfl (Eq.mpr (by kernel_rfl) h)
theorem yGB (h :
 ∀ b1, w.heap.size ≤ b1 →
 ∀ w2, Adv [] [b1] w w2 →
 Calls pP 10 #[(.agg (Z0 4 0 1 2 0 0 5 0 0 0 none 0 0 0 0 0 0 none 0 0 none 0 0))] w2 fun e w3 => ∃ s4 x5, e = .returned (.tuple #[.string s4, .int .i64 x5]) ∧ yaD [b1] w2 w3 ∧
 Calls pP 17 #[.string s4] w3 fun e w6 => ∃ x7 x8 x9 d0 d2 d3 d4 d5 d6 d7 a8 b5 b2 d8 d9 e0 e1 a9 b6 b3 b0 b7 b4 f5, e = .returned (.tuple #[(.agg (Z0 x7 x8 x9 d0 d2 d3 d4 d5 d6 d7 a8 b5 b2 d8 d9 e0 e1 a9 b6 b3 b0 b7 b4)), .int .i64 f5]) ∧ yaD [b1] w3 w6 ∧
 ∀ a0, w6.heap.size ≤ a0 →
 ye9 s4 (⟨#[120]⟩ : BA) fun u2 =>
 ∀ c4, Adv [] [a0] w6 c4 →
 Calls pP 17 #[.string u2] c4 fun e c5 => ∃ u4 u5 u6 u7 u9 v0 v1 v2 v3 v4 h3 h9 h6 v5 v6 v7 v8 h4 u0 h7 h5 u1 h8 f6, e = .returned (.tuple #[(.agg (Z0 u4 u5 u6 u7 u9 v0 v1 v2 v3 v4 h3 h9 h6 v5 v6 v7 v8 h4 u0 h7 h5 u1 h8)), .int .i64 f6]) ∧ yaD [b1, a0] c4 c5 ∧
 ∀ a2, c5.heap.size ≤ a2 →
 ∀ c6, Adv [] [a2] c5 c6 →
 Calls pP 10 #[(.agg (Z0 12 0 0 0 0 0 0 0 0 0 none 0 0 0 0 0 0 none 0 0 none 0 0))] c6 fun e c7 => ∃ u3 f7, e = .returned (.tuple #[.string u3, .int .i64 f7]) ∧ yaD [b1, a0, a2] c6 c7 ∧
 Calls pP 11 #[(.agg (Z0 4 0 1 2 0 0 5 0 0 0 none 0 0 0 0 0 0 none 0 0 none 0 0))] c7 fun e c8 => ∃ f1 f8, e = .returned (.tuple #[.string f1, .int .i64 f8]) ∧ yaD [b1, a0, a2] c7 c8 ∧
 Calls pP 19 #[(.agg (Z0 4 0 1 2 0 0 5 0 0 0 none 0 0 0 0 0 0 none 0 0 none 0 0))] c8 fun e a3 => ∃ f9 g0 g1 g2 g3 g4 g5 g6 g7 g8 e2 e8 e5 g9 h0 h1 h2 e3 e9 e6 e4 f0 e7, e = .returned (.agg (Z0 f9 g0 g1 g2 g3 g4 g5 g6 g7 g8 e2 e8 e5 g9 h0 h1 h2 e3 e9 e6 e4 f0 e7)) ∧ yaD [b1, a0, a2] c8 a3 ∧
 ∀ a1, a3.heap.size ≤ a1 →
 brB (x5 == 0) (
 brB (s4.toList == f1.toList) (
 brB (f8 == 0) (
 brB (f5 == 0) (
 ∀ c9, Adv [] [a1] a3 c9 →
 Calls pP 15 #[(.agg (Z0 4 0 1 2 0 0 5 0 0 0 none 0 0 0 0 0 0 none 0 0 none 0 0)), (.agg (Z0 x7 x8 x9 d0 d2 d3 d4 d5 d6 d7 a8 b5 b2 d8 d9 e0 e1 a9 b6 b3 b0 b7 b4))] c9 fun e a4 => ∃ f2, e = .returned (.bool f2) ∧ yaD [b1, a0, a2, a1] c9 a4 ∧
 brB f2 (
 brB (f6 == 180) (
 brB (f7 == 180) (
 Calls pP 14 #[(.agg (Z0 4 0 1 2 0 0 5 0 0 0 none 0 0 0 0 0 0 none 0 0 none 0 0)), (.agg (Z0 x7 x8 x9 d0 d2 d3 d4 d5 d6 d7 a8 b5 b2 d8 d9 e0 e1 a9 b6 b3 b0 b7 b4))] a4 fun e a5 => ∃ f3, e = .returned (.bool f3) ∧ yaD [b1, a0, a2, a1] a4 a5 ∧
 brB f3 (
 Calls pP 14 #[(.agg (Z0 4 0 1 2 0 0 5 0 0 0 none 0 0 0 0 0 0 none 0 0 none 0 0)), (.agg (Z0 0 0 0 0 0 0 0 0 0 0 none 0 0 0 0 0 0 none 0 0 none 0 0))] a5 fun e a6 => ∃ f4, e = .returned (.bool f4) ∧ yaD [b1, a0, a2, a1] a5 a6 ∧
 brB (!f4) (
 Calls pP 15 #[(.agg (Z0 f9 g0 g1 g2 g3 g4 g5 g6 g7 g8 e2 e8 e5 g9 h0 h1 h2 e3 e9 e6 e4 f0 e7)), (.agg (Z0 4 0 1 2 0 0 5 0 0 0 none 0 0 0 0 0 0 none 0 0 none 0 0))] a6 fun e a7 => ∃ b8, e = .returned (.bool b8) ∧ yaD [b1, a0, a2, a1] a6 a7 ∧
 brB b8 (
 Calls pP 12 #[(.agg (Z0 0 0 0 (-1) 0 0 0 0 0 0 none 0 0 0 0 0 0 none 0 0 none 0 0))] a7 fun e b9 => ∃ d1, e = .returned (.int .i64 d1) ∧ yaD [b1, a0, a2, a1] a7 b9 ∧
 R (.bool (d1 == 1)) b9)
 (
 R (.bool false) a7))
 (
 R (.bool false) a6))
 (
 R (.bool false) a5))
 (
 R (.bool false) a4))
 (
 R (.bool false) a4))
 (
 R (.bool false) a4))
 (
 ∀ c0, Adv [] [a1] a3 c0 →
 R (.bool false) c0))
 (
 ∀ c1, Adv [] [a1] a3 c1 →
 R (.bool false) c1))
 (
 ∀ c2, Adv [] [a1] a3 c2 →
 R (.bool false) c2))
 (
 ∀ c3, Adv [] [a1] a3 c3 →
 R (.bool false) c3)) :
 CR pP 16 #[] w R :=
 yaA Tryz.wide_mixed (an := []) Tryz.func16 rfl rfl (by kernel_rfl) rfl (Eq.mpr (by kernel_rfl) h)
end
theorem yf6 {x : Int} (h0 : 0 ≤ x) (h : x.toNat ≤ 1099511627776) : num x = true := ymW h0 (by omega)
theorem ye3 {w : World} {r : PRep} {f p : Sl} (h : RepAt w r f p) :
  Calls pP 33 #[r.v f p] w fun e w' => e = .returned (.tuple #[.string (if yfX r = 0 then bs (ydW r) else bs []), .int .i64 (yfX r)]) ∧ Mod [] w w' := by
 refine yaP (yGy ?_)
 intro b1 f1 w2 A2
 refine (yDc (h.keep0 A2.mod)).mono ?_
 rintro _ w3 ⟨rfl, M3⟩
 have N3 := A2.mod.go0 M3 (by simp)
 refine ⟨_, rfl, yaD.of0 M3, yaB (fun g => ?_) fun g => ?_⟩
 ·have g : yfX r ≠ 0 := by simpa using g
  rw [if_neg g]; exact ⟨rfl, N3⟩
 have g : yfX r = 0 := by simpa using g
 have G := RepGood.of g
 rw [if_pos g, g]
 have e4 := h.found.1
 have e5 := h.parts.1
 have lf := G.lf
 have lp := G.lp
 obtain ⟨n0, n1, n2, n3⟩ := G.nn
 have d0 := G.hd r.e.toNat (by simp [hdL])
 have d1 := G.hd r.off.toNat (by simp [hdL])
 have d2 := G.hd r.n.toNat (by simp [hdL])
 have d3 := G.hd r.gen.toNat (by simp [hdL])
 have v0 := (yaL r.e.toNat (by omega)).2
 have v1 := (yaL r.off.toNat (by omega)).2
 have v2 := (yaL r.n.toNat (by omega)).2
 have v3 := (yaL r.gen.toNat (by omega)).2
 have v4 := (yaL f.n (by omega)).2
 have v5 := (yaL p.n (by omega)).2
 intro w5 A5
 refine (ycE (yf6 n0 d0) w5).mono ?_
 rintro _ w6 ⟨rfl, M6⟩
 refine ⟨_, rfl, yaD.of0 M6, rfl, rfl, rfl, rfl, ?_⟩
 refine (ycE (yf6 n1 d1) w6).mono ?_
 rintro _ w7 ⟨rfl, M7⟩
 refine ⟨_, rfl, yaD.of0 M7, rfl, rfl, rfl, by rw [yaE, yaE]; omega, ?_⟩
 rw [ybD]
 refine (ycE (yf6 n2 d2) w7).mono ?_
 rintro _ w8 ⟨rfl, M8⟩
 refine ⟨_, rfl, yaD.of0 M8, rfl, rfl, by rw [yaE, yaE, List.length_append]; omega, ?_⟩
 rw [ybD]
 refine (ycE (yf6 n3 d3) w8).mono ?_
 rintro _ w9 ⟨rfl, M9⟩
 refine ⟨_, rfl, yaD.of0 M9, rfl, by rw [yaE, yaE, List.length_append, List.length_append]; omega, ?_⟩
 rw [ybD]
 refine (ycE (x := (f.n : Nat)) (ymW (by omega) (by omega)) w9).mono ?_
 rintro _ w10 ⟨rfl, M10⟩
 refine ⟨_, rfl, yaD.of0 M10, by rw [yaE, yaE, List.length_append, List.length_append, List.length_append, Int.toNat_natCast]; omega, ?_⟩
 rw [ybD, Int.toNat_natCast]
 have N10 : Mod [] w w10 := (((((N3.go0 A5.mod (by simp)).go0 M6 (by simp)).go0 M7 (by simp)).go0 M8 (by simp)).go0 M9 (by simp)).go0 M10 (by simp)
 have eh : yaJ r.e.toNat ++ yaJ r.off.toNat ++ yaJ r.n.toNat ++ yaJ r.gen.toNat ++ yaJ f.n = yc1 r 0 := by
  simp [yc1, hdL, e4]
 rw [eh]
 refine yxW (fun mm s x w' => ∃ k : Nat, x = k ∧ k ≤ r.found.length ∧ s = bs (yc1 r k) ∧ Mod [] w w' ∧ mm = r.found.length - k) r.found.length ⟨0, rfl, by omega, rfl, N10, rfl⟩ ?_
 rintro mm s x w11 ⟨k, rfl, hk, rfl, M11, rfl⟩
 have l2 := G.len2 k
 refine yaC (fun hlt => ?_) fun hge => ?_
 ·obtain ⟨y, hy⟩ : ∃ y, r.found[k]? = some y := ⟨_, List.getElem?_eq_getElem (by omega)⟩
  obtain ⟨y1, y2⟩ := G.f y (List.mem_of_getElem? hy)
  have ly := G.lenF (List.mem_of_getElem? hy)
  have l2' := G.len2 (k + 1)
  refine (h.keep0 M11).found.ixW hy fun q hq => ?_
  intro w12 A12
  have N12 := M11.go0 A12.mod (by simp)
  refine yaF (x := y.off) (by simpa [add_zero] using hq w12 A12.mod 0 _ rfl) ?_
  refine (h.keep0 N12).found.ixW hy fun q hq => ?_
  have hc := hq w12 (Mod.refl _)
  rw [yfF, yfF, yfF]
  refine yaO (hc 1 _ rfl) (yaI (hc 2 _ rfl) (yaO (hc 3 _ rfl) (yaI (hc 4 _ rfl) ?_)))
  refine (ycE y1 w12).mono ?_
  rintro _ w13 ⟨rfl, M13⟩
  have hd := hq w13 M13
  refine ⟨_, rfl, yaD.of0 M13, ?_, rfl, ?_⟩
  ·exact yaO (hd 1 _ rfl) (yaI (hd 2 _ rfl) (yaO (hd 3 _ rfl) (yaI (hd 4 _ rfl) rfl)))
  refine (yrC y.r y2 w13).mono ?_
  rintro _ w14 ⟨rfl, M14⟩
  have N14 := (N12.go0 M13 (by simp)).go0 M14 (by simp)
  have eF : yaJ y.off.toNat ++ ygS y.r = yf0 y := rfl
  refine ⟨_, rfl, yaD.of0 M14, by rw [yaE, yaE, ← List.length_append, eF]; omega, ?_⟩
  rw [ybD, eF]
  refine ⟨by rw [yaE, yaE]; omega, ?_⟩
  rw [ybD]
  refine yxV (r.found.length - (k + 1)) (by omega) ⟨k + 1, by rw [yaG (by omega) (by omega)]; omega, by omega, ?_, N14, rfl⟩
  rw [yc1, yc1, ya9 hy, ← List.append_assoc]
 ·have hk : k = r.found.length := by omega
  subst hk
  refine (ycE (x := (p.n : Nat)) (ymW (by omega) (by omega)) w11).mono ?_
  rintro _ w12 ⟨rfl, M12⟩
  refine ⟨_, rfl, yaD.of0 M12, by rw [yaE, yaE, Int.toNat_natCast]; omega, ?_⟩
  rw [ybD, Int.toNat_natCast]
  have e3 : yc1 r r.found.length ++ yaJ p.n = yeQ r 0 := by rw [yc1, yeQ, List.take_length, e5]; simp
  rw [e3]
  refine yxY (fun mm s x w' => ∃ k : Nat, x = k ∧ k ≤ r.parts.length ∧ s = bs (yeQ r k) ∧ Mod [] w w' ∧ mm = r.parts.length - k) r.parts.length ⟨0, rfl, by omega, rfl, M11.go0 M12 (by simp), rfl⟩ ?_
  rintro mm s x w13 ⟨k, rfl, hk, rfl, M13, rfl⟩
  have l3 := G.len3 k
  refine yaC (fun hlt => ?_) fun hge => ?_
  ·obtain ⟨y, hy⟩ : ∃ y, r.parts[k]? = some y := ⟨_, List.getElem?_eq_getElem (by omega)⟩
   obtain ⟨y1, y2⟩ := G.p y (List.mem_of_getElem? hy)
   have ly := G.lenP (List.mem_of_getElem? hy)
   refine (h.keep0 M13).parts.ixW hy fun q hq => ?_
   intro w14 A14
   have N14 := M13.go0 A14.mod (by simp)
   refine yaI (x := y.t) (by simpa [add_zero] using hq w14 A14.mod 0 _ rfl) ?_
   refine (h.keep0 N14).parts.ixW hy fun q hq => ?_
   refine yaF (x := y.n) (hq w14 (Mod.refl _) 1 _ rfl) ?_
   refine (ybL y.t (by omega) w14).mono ?_
   rintro _ w15 ⟨rfl, M15⟩
   refine ⟨_, rfl, yaD.of0 M15, yaF (x := y.n) (hq w15 M15 1 _ rfl) rfl, rfl, ?_⟩
   refine (ycE y1 w15).mono ?_
   rintro _ w16 ⟨rfl, M16⟩
   have N16 := (N14.go0 M15 (by simp)).go0 M16 (by simp)
   have eP : ybM y.t ++ yaJ y.n.toNat = ycU y := rfl
   refine ⟨_, rfl, yaD.of0 M16, by rw [yaE, yaE, ← List.length_append, eP]; omega, ?_⟩
   rw [ybD, eP]
   refine ⟨by rw [yaE, yaE]; omega, ?_⟩
   rw [ybD]
   refine yxX (r.parts.length - (k + 1)) (by omega) ⟨k + 1, by rw [yaG (by omega) (by omega)]; omega, by omega, ?_, N16, rfl⟩
   rw [yeQ, yeQ, ya9 hy, ← List.append_assoc]
  ·have hk : k = r.parts.length := by omega
   subst hk
   exact ⟨rfl, M13⟩
theorem ytI {w : World} {m : PMail} {s f p : Sl} (h : MailAt w m s f p) (hlc : m.calls.length ≤ 100000) :
  Calls pP 13 #[m.v s f p] w fun e w' => e = .returned (.int .i64 (ycC m)) ∧ Mod [] w w' := by
 obtain ⟨ll, hll, hop, hcs⟩ := h.calls
 have hl : ll.length ≤ 1000000 := by have := congrArg List.length hcs; simp at *; omega
 refine yaP (yCh ?_)
 intro b1 f1
 refine yaC (fun g1 => fun w2 A2 => ⟨by rw [ycC, if_pos (.inl g1)], A2.mod⟩) fun g1 => ?_
 refine yaC (fun g2 => fun w2 A2 => ⟨by rw [ycC, if_pos (.inr (by omega))], A2.mod⟩) fun g2 => ?_
 have hE : ycC m = if ((yaQ m).all num) = false then 1 else if ybY m.calls ≠ 0 then ybY m.calls else yfX m.r := by rw [ycC, if_neg (by omega)]
 intro w4 A4
 refine (yiJ m s f p).mono ?_
 rintro e w5 ⟨_, rfl, c5, rfl, h5, M5⟩
 have N5 := A4.mod.go0 M5 (by simp)
 refine ⟨_, _, _, rfl, yaD.of0 M5, ?_⟩
 refine ym1 (fun mm x w' => ∃ k : Nat, x = k ∧ k ≤ 10 ∧ ((yaQ m).take k).all num = true ∧ mm = 10 - k ∧ Mod [] w5 w') 10 ⟨0, rfl, by omega, by simp, rfl, Mod.refl _⟩ ?_
 rintro mm x w6 ⟨k, rfl, hk, hal, rfl, M6⟩
 have N6 := N5.go0 M6 (by simp)
 refine yaC (fun hlt => ?_) fun hge => ?_
 ·have hk' : k < 10 := by omega
  obtain ⟨x, hx⟩ : ∃ x, (yaQ m)[k]? = some x := ⟨_, List.getElem?_eq_getElem (by simpa [yaQ] using hk')⟩
  refine (h5.keep0 M6).ix hx fun q hq => yaF (x := x) (by simpa [add_zero] using hq 0 _ rfl) ?_
  refine (ycW x w6).mono ?_
  rintro _ w7 ⟨rfl, rfl⟩
  refine ⟨_, rfl, yaD.of0 (Mod.refl _), yaB (fun g3 => ⟨?_, N6⟩) fun g3 => ?_⟩
  ·rw [hE, if_pos]
   apply Bool.eq_false_iff.2
   intro hh
   have := List.all_eq_true.1 hh x (List.mem_of_getElem? hx)
   rw [this] at g3; cases g3
  ·exact ym0 (10 - (k + 1)) (by omega) ⟨k + 1, by rw [yaG (by omega) (by omega)]; omega, by omega, by rw [ycD hx, hal, yh5 g3]; rfl, rfl, M6⟩
 ·have hk' : k = 10 := by omega
  subst hk'
  rw [List.take_of_length_le (by simp [yaQ])] at hal
  rw [hal, if_neg (by decide)] at hE
  refine (yiQ (s := s) (ll := ll) ⟨hll.keep0 N6, fun q hq => (hop q hq).keep0 N6⟩ hl).mono ?_
  rw [hcs]
  rintro e w7 ⟨rfl, M7⟩
  have N7 := N6.go0 M7 (by simp)
  refine ⟨_, _, rfl, yaD.of0 M7, yaB (fun g => ?_) fun g => ?_⟩
  ·have g : ybY m.calls ≠ 0 := by simpa using g
   exact ⟨by rw [hE, if_pos g], N7⟩
  have g : ybY m.calls = 0 := by simpa using g
  rw [if_neg (by simpa using g)] at hE
  refine (ye3 (h.rep.keep0 N7)).mono ?_
  rintro e w8 ⟨rfl, M8⟩
  exact ⟨_, _, rfl, yaD.of0 M8, by rw [hE], N7.go0 M8 (by simp)⟩
def yk7 (n : Int) : List UInt8 := yaJ n.toNat
def ybQ (m : PMail) : List UInt8 := (yaQ m).flatMap yk7 ++ ybM (bs (ybG m.calls)) ++ ybM (bs (ydW m.r))
def ybO (m : PMail) : Int := if ycC m ≠ 0 then ycC m else if (ybQ m).length > 1048576 then 2 else 0
def ydU (m : PMail) : ByteArray := bs (ydP (bs (ybQ m)))
theorem yb0 {m : PMail} (h : ybO m = 0) : ycC m = 0 ∧ (ybQ m).length ≤ 1048576 := by
 unfold ybO at h
 split at h
 ·rename_i g; exact absurd h g
 ·rename_i g
  split at h
  ·omega
  ·exact ⟨by simpa using g, by omega⟩
theorem yhS {xs : List PCall} (h : ybY xs = 0) : (ybG xs).length ≤ 200000000 := by
 obtain ⟨h1, h2⟩ := yeG h
 have h3 := ydY (f := yc9) (c := 40000) (l := xs) fun x hx => (yf2 (h2 x hx).1 (h2 x hx).2).1
 have h4 := (yaL xs.length (by omega)).2
 unfold ybG; rw [List.length_append]; omega
theorem yhT (m : PMail) : (yaQ m).length = 10 := rfl
theorem ye4 {n : Int} (h : num n = true) : n.toNat < 18446744073709551616 ∧ (yk7 n).length ≤ 10 := by
 have := yd1 h
 exact ⟨by omega, (yaL n.toNat (by omega)).2⟩
theorem ygJ {m : PMail} (h : (yaQ m).all num = true) {k : Nat} {n : Int} (hn : (yaQ m)[k]? = some n) : num n = true := List.all_eq_true.1 h n (List.mem_of_getElem? hn)
theorem ye5 {m : PMail} (h : (yaQ m).all num = true) (k : Nat) : (((yaQ m).take k).flatMap yk7).length ≤ 100 := by
 have := ydY (f := yk7) (c := 10) (l := (yaQ m).take k) fun x hx => (ye4 (List.all_eq_true.1 h x (List.mem_of_mem_take hx))).2
 have e : ((yaQ m).take k).length ≤ 10 := by rw [List.length_take, yhT]; omega
 omega
theorem ykZ {m : PMail} (h : ycC m = 0) : (ybQ m).length ≤ 300000000 := by
 obtain ⟨_, h1, h2, h3⟩ := yb7 h
 have l1 := ye5 h1 10
 rw [List.take_of_length_le (by rw [yhT]; omega)] at l1
 have l2 := yhS h2
 have l3 := (RepGood.of h3).len3 m.r.parts.length
 have l3 : (ydW m.r).length ≤ 60000 := l3
 have p2 := (yaV (bs (ybG m.calls)) (by rw [yaE]; omega)).2
 have p3 := (yaV (bs (ydW m.r)) (by rw [yaE]; omega)).2
 rw [yaE] at p2 p3
 unfold ybQ; rw [List.length_append, List.length_append]; omega
def yhW (m : PMail) (k : Nat) : Nat := (((yaQ m).take k).flatMap yk7).length
theorem yDD {m : PMail} (h : (yaQ m).all num = true) {k : Nat} {n : Int} (hn : (yaQ m)[k]? = some n) : ycY (ybQ m) (yhW m k) = some (n.toNat, yhW m (k + 1)) := by
 have hs := ye4 (ygJ h hn)
 have hk := (List.getElem?_eq_some_iff.1 hn).1
 have e : yaQ m = (yaQ m).take k ++ n :: (yaQ m).drop (k + 1) := by
  have h2 := List.drop_eq_getElem_cons hk
  have h3 : (yaQ m)[k] = n := (List.getElem?_eq_some_iff.1 hn).2
  rw [h3] at h2
  rw [← h2, List.take_append_drop]
 have hd : (ybQ m).drop (yhW m k) = yk7 n ++ (((yaQ m).drop (k + 1)).flatMap yk7 ++ ybM (bs (ybG m.calls)) ++ ybM (bs (ydW m.r))) := by
  have e2 : (yaQ m).flatMap yk7 = ((yaQ m).take k).flatMap yk7 ++ (yk7 n ++ ((yaQ m).drop (k + 1)).flatMap yk7) := by
   conv => lhs; rw [e]
   rw [List.flatMap_append, List.flatMap_cons]
  unfold ybQ yhW
  rw [e2]
  simp only [List.append_assoc]
  rw [List.drop_left']
  rfl
 rw [ydM (n := n.toNat) hs.1 hd]
 congr 2
 unfold yhW
 rw [ya9 hn, List.length_append]; rfl
theorem yDE {m : PMail} (h : ybO m = 0) : ye2 1048576 (ybQ m) (yhW m 10) = some (bs (ybG m.calls), yhW m 10 + (ybM (bs (ybG m.calls))).length) ∧
  ye2 1048576 (ybQ m) (yhW m 10 + (ybM (bs (ybG m.calls))).length) = some (bs (ydW m.r), (ybQ m).length) := by
 obtain ⟨_, hl⟩ := yb0 h
 have e10 : yhW m 10 = ((yaQ m).flatMap yk7).length := by unfold yhW; rw [List.take_of_length_le (by rw [yhT]; omega)]
 have hd1 : (ybQ m).drop (yhW m 10) = ybM (bs (ybG m.calls)) ++ ybM (bs (ydW m.r)) := by
  rw [e10]; unfold ybQ; rw [List.append_assoc, List.drop_left']; rfl
 have hd2 : (ybQ m).drop (yhW m 10 + (ybM (bs (ybG m.calls))).length) = ybM (bs (ydW m.r)) ++ [] := by
  rw [List.append_nil, yaU hd1]
 have hlen : (ybQ m).length = yhW m 10 + (ybM (bs (ybG m.calls))).length + (ybM (bs (ydW m.r))).length := by
  rw [e10]; unfold ybQ; rw [List.length_append, List.length_append]
 have z1 : (bs (ybG m.calls)).size ≤ (ybM (bs (ybG m.calls))).length := by unfold ybM; rw [List.length_append]; simp
 have z2 : (bs (ydW m.r)).size ≤ (ybM (bs (ydW m.r))).length := by unfold ybM; rw [List.length_append]; simp
 refine ⟨ycN (by omega) (by omega) hd1, ?_⟩
 rw [ycN (by omega) (by omega) hd2, hlen]
theorem yrD {x y : PMail} (hx : ybO x = 0) (hy : ybO y = 0) (h : ydU x = ydU y) : ybQ x = ybQ y := by
 have h := yhM h
 obtain ⟨_, l1⟩ := yb0 hx
 obtain ⟨_, l2⟩ := yb0 hy
 have c1 := ykI (lim := 1048576) (bs (ybQ x)) [] (by rw [yaE]; omega) (by rw [yaE]; omega)
 have c2 := ykI (lim := 1048576) (bs (ybQ y)) [] (by rw [yaE]; omega) (by rw [yaE]; omega)
 rw [h, c2] at c1
 have := (Prod.mk.inj (Option.some.inj c1)).1
 exact (yhM this).symm
theorem yCm {x : PMail} (hx : ybO x = 0) : cg 1048576 (ydU x).data.toList = some (bs (ybQ x), (ydP (bs (ybQ x))).length) := by
 obtain ⟨_, l1⟩ := yb0 hx
 have := ykI (lim := 1048576) (bs (ybQ x)) [] (by rw [yaE]; omega) (by rw [yaE]; omega)
 rw [List.append_nil] at this
 rw [ydU, ycI]; exact this
theorem yiX {α : Type} {f : α → List UInt8} {l : List α} {k : Nat} {x : α} (h : l[k]? = some x) : l.flatMap f = (l.take k).flatMap f ++ (f x ++ (l.drop (k + 1)).flatMap f) := by
 have hk := (List.getElem?_eq_some_iff.1 h).1
 have h2 := List.drop_eq_getElem_cons hk
 have h3 : l[k] = x := (List.getElem?_eq_some_iff.1 h).2
 rw [h3] at h2
 conv => lhs; rw [← List.take_append_drop k l, h2]
 rw [List.flatMap_append, List.flatMap_cons]
theorem ypM {p q l : List UInt8} (h : l = p ++ q) : l.drop p.length = q := by
 rw [h, List.drop_left']; rfl
theorem yE2 {r : PRep} {k n : Nat} (h : (hdL r)[k]? = some n) : ∃ t, (ydW r).drop (yhP r k).length = yaJ n ++ t :=
 ⟨_, ypM (p := yhP r k) (by unfold ydW yeQ yhP; rw [yiX h]; simp only [List.append_assoc]; rfl)⟩
theorem yJ5 {r : PRep} {k : Nat} {y : PFound} (h : r.found[k]? = some y) : ∃ t, (ydW r).drop (yc1 r k).length = yaJ y.off.toNat ++ (ygS y.r ++ t) :=
 ⟨_, ypM (p := yc1 r k) (by unfold ydW yeQ yc1; rw [yiX h, yf0]; simp only [List.append_assoc]; rfl)⟩
theorem yE3 (r : PRep) : ∃ t, (ydW r).drop (yc1 r r.found.length).length = yaJ r.parts.length ++ t :=
 ⟨_, ypM (p := yc1 r r.found.length) (by unfold ydW yeQ yc1; simp only [List.take_length, List.append_assoc]; rfl)⟩
theorem yJ6 {r : PRep} {k : Nat} {y : PPart} (h : r.parts[k]? = some y) : ∃ t, (ydW r).drop (yeQ r k).length = ycU y ++ t :=
 ⟨_, ypM (p := yeQ r k) (by unfold ydW; rw [yeQ, yeQ, List.take_length, yiX h]; simp only [List.append_assoc]; rfl)⟩
theorem yv2 (r : PRep) : yhP r 5 = yc1 r 0 := by rw [yhP, yc1, List.take_of_length_le (by simp [hdL])]; simp
theorem yE4 (r : PRep) : yeQ r 0 = yc1 r r.found.length ++ yaJ r.parts.length := by rw [yc1, yeQ, List.take_length]; simp
theorem yrE {r : PRep} {k n : Nat} (h : (hdL r)[k]? = some n) : (yhP r (k + 1)).length = (yhP r k).length + (yaJ n).length := by rw [yhP, ya9 h, List.length_append]; rfl
theorem yCn {r : PRep} {k : Nat} {y : PFound} (h : r.found[k]? = some y) : (yc1 r (k + 1)).length = (yc1 r k).length + (yaJ y.off.toNat).length + (ygS y.r).length := by
 have e : yc1 r (k + 1) = yc1 r k ++ yf0 y := by rw [yc1, yc1, ya9 h, ← List.append_assoc]
 rw [e, List.length_append, yf0, List.length_append]; omega
theorem yrF {r : PRep} {k : Nat} {y : PPart} (h : r.parts[k]? = some y) : (yeQ r (k + 1)).length = (yeQ r k).length + (ycU y).length := by
 rw [yeQ, yeQ, ya9 h, ← List.append_assoc, List.length_append]
def hdI (r : PRep) : List Int := [r.e, r.off, r.n, r.gen, r.found.length]
theorem yE5 {r : PRep} (G : RepGood r) {k : Nat} {n : Int} (h : (hdI r)[k]? = some n) : num n = true ∧ (hdL r)[k]? = some n.toNat := by
 obtain ⟨n0, n1, n2, n3⟩ := G.nn
 have lf := G.lf
 have d0 := G.hd r.e.toNat (by simp [hdL])
 have d1 := G.hd r.off.toNat (by simp [hdL])
 have d2 := G.hd r.n.toNat (by simp [hdL])
 have d3 := G.hd r.gen.toNat (by simp [hdL])
 have hk := (List.getElem?_eq_some_iff.1 h).1
 simp [hdI] at hk
 match k, hk, h with
 | 0, _, h => simp [hdI] at h; subst h; exact ⟨yf6 n0 d0, rfl⟩
 | 1, _, h => simp [hdI] at h; subst h; exact ⟨yf6 n1 d1, rfl⟩
 | 2, _, h => simp [hdI] at h; subst h; exact ⟨yf6 n2 d2, rfl⟩
 | 3, _, h => simp [hdI] at h; subst h; exact ⟨yf6 n3 d3, rfl⟩
 | 4, _, h => simp [hdI] at h; subst h; exact ⟨ymW (by omega) (by omega), by simp [hdL]⟩
def yc2 (s : ByteArray) (x : PRep) : Prop := yfX x = 0 ∧ s.data.toList = ydW x
theorem yc2.eq {s : ByteArray} {x : PRep} (h : yc2 s x) : s = bs (ydW x) := by
 have := h.2; rw [← this, yqN]
theorem yc2.of {s : ByteArray} {x : PRep} (h : yfX x = 0) (hs : s = bs (ydW x)) : yc2 s x := ⟨h, by rw [hs, ycI]⟩
theorem yc2.hd {s : ByteArray} {x : PRep} (h : yc2 s x) {k : Nat} {n : Int} (hn : (hdI x)[k]? = some n) : ybT s.data.toList (some (yhP x k).length) 0 = (some (yhP x (k + 1)).length, n) := by
 obtain ⟨h1, h2⟩ := yE5 (RepGood.of h.1) hn
 obtain ⟨t, ht⟩ := yE2 h2
 rw [h.2, ybX h1 ht, yrE h2]
theorem yc2.f {s : ByteArray} {x : PRep} (h : yc2 s x) {k : Nat} {y : PFound} (hy : x.found[k]? = some y) :
  ybT s.data.toList (some (yc1 x k).length) 0 = (some ((yc1 x k).length + (yaJ y.off.toNat).length), y.off) ∧ yeI s.data.toList ((yc1 x k).length + (yaJ y.off.toNat).length) = some (y.r, (yc1 x (k + 1)).length) := by
 obtain ⟨h1, h2⟩ := (RepGood.of h.1).f y (List.mem_of_getElem? hy)
 obtain ⟨t, ht⟩ := yJ5 hy
 rw [h.2, ybX h1 ht]
 refine ⟨rfl, ?_⟩
 rw [yvC h2 (yaU ht), yCn hy]
theorem yc2.np {s : ByteArray} {x : PRep} (h : yc2 s x) : ybT s.data.toList (some (yc1 x x.found.length).length) 0 = (some (yeQ x 0).length, ((x.parts.length : Nat) : Int)) := by
 obtain ⟨t, ht⟩ := yE3 x
 have lp := (RepGood.of h.1).lp
 rw [h.2, ybX (n := (x.parts.length : Nat)) (ymW (by omega) (by omega)) (by simpa using ht), yE4, List.length_append]
 rfl
theorem yc2.p {s : ByteArray} {x : PRep} (h : yc2 s x) {k : Nat} {y : PPart} (hy : x.parts[k]? = some y) : ydK s.data.toList (some (yeQ x k).length) = (some (yeQ x (k + 1)).length, y) := by
 obtain ⟨h1, h2⟩ := (RepGood.of h.1).p y (List.mem_of_getElem? hy)
 have h3 := (RepGood.of h.1).lenP (List.mem_of_getElem? hy)
 obtain ⟨t, ht⟩ := yJ6 hy
 rw [h.2, yeF h3.2 h1 ht, yrF hy]
theorem ypN {x y : PRep} (hx : yfX x = 0) (hy : yfX y = 0) (h : ydW x = ydW y) : x = y := by
 have X : yc2 (bs (ydW x)) x := ⟨hx, ycI _⟩
 have Y : yc2 (bs (ydW x)) y := ⟨hy, by rw [ycI, h]⟩
 have hd : ∀ k, k ≤ 5 → (yhP x k).length = (yhP y k).length ∧ (hdI x).take k = (hdI y).take k := by
  intro k
  induction k with
  | zero => intro _; exact ⟨rfl, rfl⟩
  | succ k ih =>
   intro hk
   obtain ⟨i1, i2⟩ := ih (by omega)
   obtain ⟨a, ha⟩ : ∃ a, (hdI x)[k]? = some a := ⟨_, List.getElem?_eq_getElem (by simp [hdI]; omega)⟩
   obtain ⟨b, hb⟩ : ∃ b, (hdI y)[k]? = some b := ⟨_, List.getElem?_eq_getElem (by simp [hdI]; omega)⟩
   have h1 := X.hd ha
   have h2 := Y.hd hb
   rw [i1, h2] at h1
   simp only [Prod.mk.injEq, Option.some.injEq] at h1
   exact ⟨h1.1.symm, by rw [List.take_add_one, List.take_add_one, ha, hb, i2, h1.2]⟩
 obtain ⟨h5, hI⟩ := hd 5 (Nat.le_refl _)
 rw [List.take_of_length_le (by simp [hdI]), List.take_of_length_le (by simp [hdI])] at hI
 simp only [hdI, List.cons.injEq, and_true] at hI
 obtain ⟨e1, e2, e3, e4, e5⟩ := hI
 have e5 : x.found.length = y.found.length := by omega
 rw [yv2, yv2] at h5
 have hf : ∀ k, k ≤ x.found.length → (yc1 x k).length = (yc1 y k).length ∧ x.found.take k = y.found.take k := by
  intro k
  induction k with
  | zero => intro _; exact ⟨h5, rfl⟩
  | succ k ih =>
   intro hk
   obtain ⟨i1, i2⟩ := ih (by omega)
   obtain ⟨a, ha⟩ : ∃ a, x.found[k]? = some a := ⟨_, List.getElem?_eq_getElem (by omega)⟩
   obtain ⟨b, hb⟩ : ∃ b, y.found[k]? = some b := ⟨_, List.getElem?_eq_getElem (by omega)⟩
   obtain ⟨h1, h2⟩ := X.f ha
   obtain ⟨h3, h4⟩ := Y.f hb
   rw [i1, h3] at h1
   simp only [Prod.mk.injEq, Option.some.injEq] at h1
   rw [i1, ← h1.1, h4] at h2
   simp only [Prod.mk.injEq, Option.some.injEq] at h2
   have : a = b := by
    obtain ⟨o1, q1⟩ := a
    obtain ⟨o2, q2⟩ := b
    simp only [PFound.mk.injEq]
    exact ⟨h1.2.symm, h2.1.symm⟩
   exact ⟨h2.2.symm, by rw [List.take_add_one, List.take_add_one, ha, hb, i2, this]⟩
 obtain ⟨h6, e6⟩ := hf _ (Nat.le_refl _)
 rw [List.take_length, e5, List.take_length] at e6
 have h7 := X.np
 have h8 := Y.np
 rw [h6, e5, h8] at h7
 simp only [Prod.mk.injEq, Option.some.injEq] at h7
 have e7 : x.parts.length = y.parts.length := by omega
 have hp : ∀ k, k ≤ x.parts.length → (yeQ x k).length = (yeQ y k).length ∧ x.parts.take k = y.parts.take k := by
  intro k
  induction k with
  | zero => intro _; exact ⟨h7.1.symm, rfl⟩
  | succ k ih =>
   intro hk
   obtain ⟨i1, i2⟩ := ih (by omega)
   obtain ⟨a, ha⟩ : ∃ a, x.parts[k]? = some a := ⟨_, List.getElem?_eq_getElem (by omega)⟩
   obtain ⟨b, hb⟩ : ∃ b, y.parts[k]? = some b := ⟨_, List.getElem?_eq_getElem (by omega)⟩
   have h1 := X.p ha
   have h2 := Y.p hb
   rw [i1, h2] at h1
   simp only [Prod.mk.injEq, Option.some.injEq] at h1
   exact ⟨h1.1.symm, by rw [List.take_add_one, List.take_add_one, ha, hb, i2, h1.2]⟩
 obtain ⟨_, e8⟩ := hp _ (Nat.le_refl _)
 rw [List.take_length, e7, List.take_length] at e8
 obtain ⟨x1, x2, x3, x4, x5, x6⟩ := x
 obtain ⟨y1, y2, y3, y4, y5, y6⟩ := y
 simp only [PRep.mk.injEq]
 exact ⟨e1, e2, e3, e4, e6, e8⟩
section
set_option maxRecDepth 100000
variable {R : VWP} {w w0 : World} {m : Nat} {i0 i1 i2 i3 i4 i5 i6 i7 i8 i9 j0 j1 j2 j3 j4 j5 j6 j7 j8 j9 k0 k1 k2 k3 k4 k5 k6 k7 k8 k9 l0 l1 l2 l3 l4 l5 l6 l7 l8 l9 : Int} {s0 s1 s2 s3 s4 s5 s6 s7 s8 s9 t0 t1 t2 t3 t4 t5 t6 t7 t8 t9 : BA} {n0 n1 n2 n3 n4 n5 n6 n7 n8 n9 o0 o1 o2 o3 o4 o5 o6 o7 o8 o9 p0 p1 p2 p3 p4 p5 p6 p7 p8 p9 : Nat} {q0 q1 q2 q3 q4 q5 q6 q7 q8 q9 r0 r1 r2 r3 r4 r5 r6 r7 r8 r9 : OA} {B0 B1 B2 B3 B4 B5 B6 B7 B8 B9 : Bool} {M0 M1 M2 M3 : Option Nat} {V0 V1 V2 V3 V4 V5 : Value} {A0 A1 A2 : Addr}
def ypO : LA := ⟨[0, 0, 1, 0, 1, 1, 1, 1], [0, 2, 4, 5, 6, 7, 8, 26, 27, 28], [(2, 0, 0), (4, 1, 0), (5, 2, 0), (6, 3, 0), (7, 4, 0), (8, 5, 0)], 6, [1, 2, 3, 4]⟩
def ypP : LA := ⟨[0, 0, 1, 0, 1, 1, 1, 1, 1, 1], [0, 2, 4, 5, 7, 8, 11], [(2, 0, 0), (4, 1, 0), (5, 2, 0), (7, 4, 0), (8, 5, 0)], 6, [1, 2, 3, 4]⟩
def yhU : LA := ⟨[0, 0, 1, 0, 1, 1, 1, 1, 1, 1, 1, 1], [0, 2, 4, 5, 8, 16], [(2, 0, 0), (4, 1, 0), (5, 2, 0), (8, 5, 0)], 6, [1, 2, 3, 4, 5]⟩
def ypQ : List LA := [ypO, ypP, yhU]
abbrev yi9 := dnF pP ypQ (code Tryz.f81)
abbrev yJ7 := yaN pP ypQ (code Tryz.f81)
abbrev yk0 (p : List Nat) (K : List Kh) (R : VWP) := yaN pP ypQ (code Tryz.f81) p K (ya4 pP Tryz.f81 [] R)
def yiY (b9 : BA) (b5 : OA) (b7 b6 bm0 bm1 bm2 bm3 bm4 bm5 : Nat) : Int × ByteArray × Int × Int × Int × Int × Int × Int × (Option Addr) × Nat × Nat × (Option Addr) × Nat × Nat × Int × Int → List Value × List TB := fun (b8, a6, a7, a8, a9, b0, b1, b2, a0, a4, a2, a1, a5, a3, b3, b4) => ([.string b9, (.pointer (some ⟨bm0, 0, none⟩)), (.pointer (some ⟨bm1, 0, none⟩)), (.pointer (some ⟨bm2, 0, none⟩)), (.pointer (some ⟨bm3, 0, none⟩)), (.pointer (some ⟨bm4, 0, none⟩)), (.pointer (some ⟨bm5, 0, none⟩)), .slice b5 b7 b6, (.int .i64 (5 : Int)), .int .i64 b8], [⟨bm0, 27, [.int .i64 0, .int .i64 0, .int .i64 0, .int .i64 0, .slice none 0 0, .slice none 0 0], false⟩, ⟨bm1, 151, [.string a6, .int .i64 a7, .int .i64 a8], true⟩, ⟨bm2, 27, [.int .i64 a9, .int .i64 b0, .int .i64 b1, .int .i64 b2, .slice a0 a4 a2, .slice a1 a5 a3], true⟩, ⟨bm3, 3, [.int .i64 b3], true⟩, ⟨bm4, 3, [.int .i64 b4], true⟩, ⟨bm5, 3, [.int .i64 0], false⟩])
def yfL (b6 : BA) (bm0 bm1 bm2 bm3 bm4 bm5 : Nat) : Int × ByteArray × Int × Int × Int × Int × Int × Int × (Option Addr) × Nat × Nat × (Option Addr) × Nat × Nat × Int × Int → List Value × List TB := fun (b5, a6, a7, a8, a9, b0, b1, b2, a0, a4, a2, a1, a5, a3, b3, b4) => ([.string b6, (.pointer (some ⟨bm0, 0, none⟩)), (.pointer (some ⟨bm1, 0, none⟩)), (.pointer (some ⟨bm2, 0, none⟩)), (.pointer (some ⟨bm4, 0, none⟩)), (.pointer (some ⟨bm5, 0, none⟩)), .int .i64 b5], [⟨bm0, 27, [.int .i64 0, .int .i64 0, .int .i64 0, .int .i64 0, .slice none 0 0, .slice none 0 0], false⟩, ⟨bm1, 151, [.string a6, .int .i64 a7, .int .i64 a8], true⟩, ⟨bm2, 27, [.int .i64 a9, .int .i64 b0, .int .i64 b1, .int .i64 b2, .slice a0 a4 a2, .slice a1 a5 a3], true⟩, ⟨bm3, 3, [.int .i64 b3], true⟩, ⟨bm4, 3, [.int .i64 b4], true⟩, ⟨bm5, 3, [.int .i64 0], false⟩])
def yf7 (b7 : BA) (bm0 bm1 bm2 bm3 bm4 bm5 : Nat) : Int × ByteArray × Int × Int × Int × Int × Int × Int × (Option Addr) × Nat × Nat × (Option Addr) × Nat × Nat × Int × Int × Int → List Value × List TB := fun (b6, a6, a7, a8, a9, b0, b1, b2, a0, a4, a2, a1, a5, a3, b3, b4, b5) => ([.string b7, (.pointer (some ⟨bm0, 0, none⟩)), (.pointer (some ⟨bm1, 0, none⟩)), (.pointer (some ⟨bm2, 0, none⟩)), (.pointer (some ⟨bm5, 0, none⟩)), .int .i64 b6], [⟨bm0, 27, [.int .i64 0, .int .i64 0, .int .i64 0, .int .i64 0, .slice none 0 0, .slice none 0 0], false⟩, ⟨bm1, 151, [.string a6, .int .i64 a7, .int .i64 a8], true⟩, ⟨bm2, 27, [.int .i64 a9, .int .i64 b0, .int .i64 b1, .int .i64 b2, .slice a0 a4 a2, .slice a1 a5 a3], true⟩, ⟨bm3, 3, [.int .i64 b3], true⟩, ⟨bm4, 3, [.int .i64 b4], true⟩, ⟨bm5, 3, [.int .i64 b5], true⟩])
abbrev yCo (a3 : BA) (a0 : OA) (a2 a1 bm0 bm1 bm2 bm3 bm4 bm5 : Nat) (I : Nat → Int → ByteArray → Int → Int → Int → Int → Int → Int → Option Addr → Nat → Nat → Option Addr → Nat → Nat → Int → Int → World → Prop) (m : Nat) : Kh := KG (yiY a3 a0 a2 a1 bm0 bm1 bm2 bm3 bm4 bm5) (U16 I) m
theorem ye6 {I : Nat → Int → ByteArray → Int → Int → Int → Int → Int → Int → Option Addr → Nat → Nat → Option Addr → Nat → Nat → Int → Int → World → Prop} (m' : Nat) (h1 : m' < m) (h2 : I m' i0 s1 i1 i2 i3 i4 i5 i6 q1 n8 n9 q2 o0 o1 i7 i8 w) : KS (yCo s0 q0 n0 n1 n2 n3 n4 n5 n6 n7 I m) (yiY s0 q0 n0 n1 n2 n3 n4 n5 n6 n7 (i0, s1, i1, i2, i3, i4, i5, i6, q1, n8, n9, q2, o0, o1, i7, i8)) w := ⟨m', h1, _, rfl, rfl, h2⟩
theorem yx3 (I : Nat → Int → ByteArray → Int → Int → Int → Int → Int → Int → Option Addr → Nat → Nat → Option Addr → Nat → Nat → Int → Int → World → Prop) (m0 : Nat) (h0 : I m0 i0 s1 i1 i2 i3 i4 i5 i6 q1 n8 n9 q2 o0 o1 i7 i8 w0)
 (hr : ∀ m b6 a7 a8 a9 b4 b0 b1 b2 a1 a5 a3 a2 a6 a4 a0 b3 w, I m b6 a7 a8 a9 b4 b0 b1 b2 a1 a5 a3 a2 a6 a4 a0 b3 w →
 w.heap[n3]? = some (.cells (Z2 a7 a8 a9) 151) →
 w.heap[n4]? = some (.cells (Z3 b4 b0 b1 b2 a1 a5 a3 a2 a6 a4) 27) →
 w.heap[n5]? = some (.cells #[.int .i64 a0] 3) →
 w.heap[n6]? = some (.cells #[.int .i64 b3] 3) →
 brB (decide (b6 < (5 : Int))) (
 ixA q0 n0 b6 1 fun f4 =>
 ypZ w f4 fun f3 =>
 Calls pP 112 #[(.pointer (some ⟨n3, 0, none⟩)), .pointer f3] w fun e c6 => e = .returned (.tuple #[]) ∧ yaR [n3, n4, n5, n6] [(n2, 27), (n7, 3)] [n2, n7] w c6 ∧ ∃ e4 e5 e6, c6.heap[n3]? = some (.cells (Z2 e4 e5 e6) 151) ∧ ∃ e7 e8 e9 f0 d8 e2 e0 d9 e3 e1, c6.heap[n4]? = some (.cells (Z3 e7 e8 e9 f0 d8 e2 e0 d9 e3 e1) 27) ∧ ∃ f1, c6.heap[n5]? = some (.cells #[.int .i64 f1] 3) ∧ ∃ f2, c6.heap[n6]? = some (.cells #[.int .i64 f2] 3) ∧
 KS (yCo s0 q0 n0 n1 n2 n3 n4 n5 n6 n7 I m) (yiY s0 q0 n0 n1 n2 n3 n4 n5 n6 n7 ((IntKind.wrap .i64 (b6 + 1)), e4, e5, e6, e7, e8, e9, f0, d8, e2, e0, d9, e3, e1, f1, f2)) c6)
 (
 ∀ b5, Adv [n4] [] w b5 → b5.heap[n3]? = some (.cells (Z2 a7 a8 a9) 151) →
 b5.heap[n4]? = some (.cells (Z3 a0 b0 b1 b2 a1 a5 a3 a2 a6 a4) 27) →
 b5.heap[n5]? = some (.cells #[.int .i64 a0] 3) →
 b5.heap[n6]? = some (.cells #[.int .i64 b3] 3) →
 yaK ypP (yi9 392 [0, 0, 1, 0, 1, 1, 1, 1, 1, 1]) (yk0 [1, 1, 1, 1, 1, 1, 0, 1, 0] [] R) (yfL s0 n2 n3 n4 n5 n6 n7 (0, a7, a8, a9, a0, b0, b1, b2, a1, a5, a3, a2, a6, a4, a0, b3)) b5)) :
 yaK ypO (yi9 394 [0, 0, 1, 0, 1, 1, 1, 1]) (yk0 [1, 1, 1, 1, 0, 1, 0] [] R) (yiY s0 q0 n0 n1 n2 n3 n4 n5 n6 n7 (i0, s1, i1, i2, i3, i4, i5, i6, q1, n8, n9, q2, o0, o1, i7, i8)) w0 :=
 lrule (yiY s0 q0 n0 n1 n2 n3 n4 n5 n6 n7) (U16 I) h0 (by rintro m ⟨b6, a7, a8, a9, b4, b0, b1, b2, a1, a5, a3, a2, a6, a4, a0, b3⟩ w h; exact ⟨by kernel_rfl, by kernel_rfl, fun js => Eq.mpr (by kernel_rfl) (hr m b6 a7 a8 a9 b4 b0 b1 b2 a1 a5 a3 a2 a6 a4 a0 b3 w h)⟩)
abbrev yk1 (a0 : BA) (bm0 bm1 bm2 bm3 bm4 bm5 : Nat) (I : Nat → Int → ByteArray → Int → Int → Int → Int → Int → Int → Option Addr → Nat → Nat → Option Addr → Nat → Nat → Int → Int → World → Prop) (m : Nat) : Kh := KG (yfL a0 bm0 bm1 bm2 bm3 bm4 bm5) (U16 I) m
theorem ygK {I : Nat → Int → ByteArray → Int → Int → Int → Int → Int → Int → Option Addr → Nat → Nat → Option Addr → Nat → Nat → Int → Int → World → Prop} (m' : Nat) (h1 : m' < m) (h2 : I m' i0 s1 i1 i2 i3 i4 i5 i6 q0 n6 n7 q1 n8 n9 i7 i8 w) : KS (yk1 s0 n0 n1 n2 n3 n4 n5 I m) (yfL s0 n0 n1 n2 n3 n4 n5 (i0, s1, i1, i2, i3, i4, i5, i6, q0, n6, n7, q1, n8, n9, i7, i8)) w := ⟨m', h1, _, rfl, rfl, h2⟩
theorem yx4 (I : Nat → Int → ByteArray → Int → Int → Int → Int → Int → Int → Option Addr → Nat → Nat → Option Addr → Nat → Nat → Int → Int → World → Prop) (m0 : Nat) (h0 : I m0 i0 s1 i1 i2 i3 i4 i5 i6 q0 n6 n7 q1 n8 n9 i7 i8 w0)
 (hr : ∀ m c3 a9 b0 a1 b1 b2 b3 b4 a3 a7 a5 a4 a8 a6 b5 a2 w, I m c3 a9 b0 a1 b1 b2 b3 b4 a3 a7 a5 a4 a8 a6 b5 a2 w →
 w.heap[n1]? = some (.cells (Z2 a9 b0 a1) 151) →
 w.heap[n2]? = some (.cells (Z3 b1 b2 b3 b4 a3 a7 a5 a4 a8 a6) 27) →
 w.heap[n3]? = some (.cells #[.int .i64 b5] 3) →
 w.heap[n4]? = some (.cells #[.int .i64 a2] 3) →
 brB (decide (c3 < a2)) (
 brB (a1 == 0) (
 ∀ a0, w.heap.size ≤ a0 →
 ∀ e8, Adv [] [a0] w e8 → e8.heap[n1]? = some (.cells (Z2 a9 b0 a1) 151) →
 e8.heap[n2]? = some (.cells (Z3 b1 b2 b3 b4 a3 a7 a5 a4 a8 a6) 27) →
 e8.heap[n3]? = some (.cells #[.int .i64 b5] 3) →
 e8.heap[n4]? = some (.cells #[.int .i64 a2] 3) →
 e8.heap[a0]? = some (.cells (Z8 0 false ByteArray.empty false ByteArray.empty) 55) →
 Calls pP 112 #[(.pointer (some ⟨n1, 0, none⟩)), (.pointer (some ⟨a0, 0, none⟩))] e8 fun e d3 => e = .returned (.tuple #[]) ∧ yaR [n1, n2, n3, n4, a0] [(n0, 27), (n5, 3)] [n0, n5] e8 d3 ∧ ∃ v0 v1 ci, d3.heap[n1]? = some (.cells (Z2 v0 v1 ci) 151) ∧ ∃ cj ck cl cm x8 ac z0 x9 ad z1, d3.heap[n2]? = some (.cells (Z3 cj ck cl cm x8 ac z0 x9 ad z1) 27) ∧ ∃ cn, d3.heap[n3]? = some (.cells #[.int .i64 cn] 3) ∧ ∃ co, d3.heap[n4]? = some (.cells #[.int .i64 co] 3) ∧ ∃ cp ap aj aq ak, d3.heap[a0]? = some (.cells (Z8 cp ap aj aq ak) 55) ∧
 ((
 ∀ d2, d3.heap.size ≤ d2 →
 ∀ e9, Adv [] [d2] d3 e9 → e9.heap[n1]? = some (.cells (Z2 v0 v1 ci) 151) →
 e9.heap[n2]? = some (.cells (Z3 cj ck cl cm x8 ac z0 x9 ad z1) 27) →
 e9.heap[n3]? = some (.cells #[.int .i64 cn] 3) →
 e9.heap[n4]? = some (.cells #[.int .i64 co] 3) →
 e9.heap[a0]? = some (.cells (Z8 cp ap aj aq ak) 55) →
 Calls pP 113 #[.string v0, .int .i64 v1] e9 fun e f2 => ∃ w5 w3 w6 w4 dc dd, e = .returned (.tuple #[(.agg (Z7 w5 w3 w6 w4)), .int .i64 dc, .int .i64 dd]) ∧ yaR [n1, n2, n3, n4, a0] [(n0, 27), (n5, 3), (d2, 53)] [n0, n5, d2] e9 f2 ∧ ∃ cw de df, f2.heap[n1]? = some (.cells (Z2 cw de df) 151) ∧ ∃ dg dh di dj cq cu cs cr cv ct, f2.heap[n2]? = some (.cells (Z3 dg dh di dj cq cu cs cr cv ct) 27) ∧ ∃ dk, f2.heap[n3]? = some (.cells #[.int .i64 dk] 3) ∧ ∃ dl, f2.heap[n4]? = some (.cells #[.int .i64 dl] 3) ∧ ∃ dm cz cx da cy, f2.heap[a0]? = some (.cells (Z8 dm cz cx da cy) 55) ∧
 ∀ f0, Adv [d2] [] f2 f0 → f0.heap[n1]? = some (.cells (Z2 cw de df) 151) →
 f0.heap[n2]? = some (.cells (Z3 dg dh di dj cq cu cs cr cv ct) 27) →
 f0.heap[n3]? = some (.cells #[.int .i64 dk] 3) →
 f0.heap[n4]? = some (.cells #[.int .i64 dl] 3) →
 f0.heap[a0]? = some (.cells (Z8 dm cz cx da cy) 55) →
 Calls pP 114 (Z11 (some ⟨n1, 0, none⟩) dc dd) f0 fun e f1 => ∃ db, e = .returned (.bool db) ∧ yaR [n1, n2, n3, n4, a0] [(n0, 27), (n5, 3), (d2, 53)] [n0, n5, d2] f0 f1 ∧ ∃ g2 g4 g5, f1.heap[n1]? = some (.cells (Z2 g2 g4 g5) 151) ∧ ∃ g6 g7 g8 g9 v9 w2 w1 f3 f9 f6, f1.heap[n2]? = some (.cells (Z3 g6 g7 g8 g9 v9 w2 w1 f3 f9 f6) 27) ∧ ∃ h1, f1.heap[n3]? = some (.cells #[.int .i64 h1] 3) ∧ ∃ h2, f1.heap[n4]? = some (.cells #[.int .i64 h2] 3) ∧ ∃ h3 ar v2 v6 v3, f1.heap[a0]? = some (.cells (Z8 h3 ar v2 v6 v3) 55) ∧
 brB db (
 ∀ c4, Adv [a0] [] f1 c4 → c4.heap[n1]? = some (.cells (Z2 g2 g4 g5) 151) →
 c4.heap[n2]? = some (.cells (Z3 g6 g7 g8 g9 v9 w2 w1 f3 f9 f6) 27) →
 c4.heap[n3]? = some (.cells #[.int .i64 h1] 3) →
 c4.heap[n4]? = some (.cells #[.int .i64 h2] 3) →
 c4.heap[a0]? = some (.cells (Z8 h3 w5 w3 w6 w4) 55) →
 al c4 (.cells (Z8 h3 w5 w3 w6 w4) 55) fun dn au =>
 ycR pP (Builtin.append_ #[24, 24] 24 #[.slice v9 w2 w1, (.slice (some ⟨dn, 0, none⟩) 1 1)]) au fun w8 z2 y0 av => yaD [n0, n1, n2, n3, n4, n5, a0, d2] au av ∧
 ∀ c5, Adv [n2] [] av c5 → c5.heap[n1]? = some (.cells (Z2 g2 g4 g5) 151) →
 c5.heap[n2]? = some (.cells (Z3 g6 g7 g8 g9 w8 z2 y0 f3 f9 f6) 27) →
 c5.heap[n3]? = some (.cells #[.int .i64 h1] 3) →
 c5.heap[n4]? = some (.cells #[.int .i64 h2] 3) →
 c5.heap[a0]? = some (.cells (Z8 h3 w5 w3 w6 w4) 55) →
 KS (yk1 s0 n0 n1 n2 n3 n4 n5 I m) (yfL s0 n0 n1 n2 n3 n4 n5 ((IntKind.wrap .i64 (c3 + 1)), g2, g4, g5, g6, g7, g8, g9, w8, z2, y0, f3, f9, f6, h1, h2)) c5)
 (
 al f1 (.cells (Z8 h3 ar v2 v6 v3) 55) fun dp aw =>
 ycR pP (Builtin.append_ #[24, 24] 24 #[.slice v9 w2 w1, (.slice (some ⟨dp, 0, none⟩) 1 1)]) aw fun w9 z3 y1 ax => yaD [n0, n1, n2, n3, n4, n5, a0, d2] aw ax ∧
 ∀ c6, Adv [n2] [] ax c6 → c6.heap[n1]? = some (.cells (Z2 g2 g4 g5) 151) →
 c6.heap[n2]? = some (.cells (Z3 g6 g7 g8 g9 w9 z3 y1 f3 f9 f6) 27) →
 c6.heap[n3]? = some (.cells #[.int .i64 h1] 3) →
 c6.heap[n4]? = some (.cells #[.int .i64 h2] 3) →
 c6.heap[a0]? = some (.cells (Z8 h3 ar v2 v6 v3) 55) →
 KS (yk1 s0 n0 n1 n2 n3 n4 n5 I m) (yfL s0 n0 n1 n2 n3 n4 n5 ((IntKind.wrap .i64 (c3 + 1)), g2, g4, g5, g6, g7, g8, g9, w9, z3, y1, f3, f9, f6, h1, h2)) c6)) ∧
 (
 ∀ b7, Adv [] [] d3 b7 → b7.heap[n1]? = some (.cells (Z2 v0 v1 ci) 151) →
 b7.heap[n2]? = some (.cells (Z3 cj ck cl cm x8 ac z0 x9 ad z1) 27) →
 b7.heap[n3]? = some (.cells #[.int .i64 cn] 3) →
 b7.heap[n4]? = some (.cells #[.int .i64 co] 3) →
 b7.heap[a0]? = some (.cells (Z8 cp ap aj aq ak) 55) →
 Calls pP 113 #[.string v0, .int .i64 v1] b7 fun e b8 => ∃ u7 u5 u9 u6 bc bd, e = .returned (.tuple #[(.agg (Z7 u7 u5 u9 u6)), .int .i64 bc, .int .i64 bd]) ∧ yaR [n1, n2, n3, n4, a0] [(n0, 27), (n5, 3)] [n0, n5] b7 b8 ∧ ∃ ae be bf, b8.heap[n1]? = some (.cells (Z2 ae be bf) 151) ∧ ∃ bg bh bi bj x0 z4 y2 x1 z5 y3, b8.heap[n2]? = some (.cells (Z3 bg bh bi bj x0 z4 y2 x1 z5 y3) 27) ∧ ∃ bk, b8.heap[n3]? = some (.cells #[.int .i64 bk] 3) ∧ ∃ bl, b8.heap[n4]? = some (.cells #[.int .i64 bl] 3) ∧ ∃ bm am af an ag, b8.heap[a0]? = some (.cells (Z8 bm am af an ag) 55) ∧
 ∀ d5, b8.heap.size ≤ d5 →
 ∀ b9, Adv [] [d5] b8 b9 → b9.heap[n1]? = some (.cells (Z2 ae be bf) 151) →
 b9.heap[n2]? = some (.cells (Z3 bg bh bi bj x0 z4 y2 x1 z5 y3) 27) →
 b9.heap[n3]? = some (.cells #[.int .i64 bk] 3) →
 b9.heap[n4]? = some (.cells #[.int .i64 bl] 3) →
 b9.heap[a0]? = some (.cells (Z8 bm am af an ag) 55) →
 Calls pP 114 (Z11 (some ⟨n1, 0, none⟩) bc bd) b9 fun e c0 => ∃ ao, e = .returned (.bool ao) ∧ yaR [n1, n2, n3, n4, a0] [(n0, 27), (n5, 3), (d5, 53)] [n0, n5, d5] b9 c0 ∧ ∃ d8 d9 e0, c0.heap[n1]? = some (.cells (Z2 d8 d9 e0) 151) ∧ ∃ e1 e2 e3 e4 u2 u4 u3 d4 d7 d6, c0.heap[n2]? = some (.cells (Z3 e1 e2 e3 e4 u2 u4 u3 d4 d7 d6) 27) ∧ ∃ e5, c0.heap[n3]? = some (.cells #[.int .i64 e5] 3) ∧ ∃ e6, c0.heap[n4]? = some (.cells #[.int .i64 e6] 3) ∧ ∃ e7 v7 v4 v8 v5, c0.heap[a0]? = some (.cells (Z8 e7 v7 v4 v8 v5) 55) ∧
 brB ao (
 ∀ c7, Adv [a0] [] c0 c7 → c7.heap[n1]? = some (.cells (Z2 d8 d9 e0) 151) →
 c7.heap[n2]? = some (.cells (Z3 e1 e2 e3 e4 u2 u4 u3 d4 d7 d6) 27) →
 c7.heap[n3]? = some (.cells #[.int .i64 e5] 3) →
 c7.heap[n4]? = some (.cells #[.int .i64 e6] 3) →
 c7.heap[a0]? = some (.cells (Z8 e7 u7 u5 u9 u6) 55) →
 al c7 (.cells (Z8 e7 u7 u5 u9 u6) 55) fun dq ay =>
 ycR pP (Builtin.append_ #[24, 24] 24 #[.slice u2 u4 u3, (.slice (some ⟨dq, 0, none⟩) 1 1)]) ay fun x2 z6 y4 az => yaD [n0, n1, n2, n3, n4, n5, a0, d5] ay az ∧
 ∀ c8, Adv [n2] [] az c8 → c8.heap[n1]? = some (.cells (Z2 d8 d9 e0) 151) →
 c8.heap[n2]? = some (.cells (Z3 e1 e2 e3 e4 x2 z6 y4 d4 d7 d6) 27) →
 c8.heap[n3]? = some (.cells #[.int .i64 e5] 3) →
 c8.heap[n4]? = some (.cells #[.int .i64 e6] 3) →
 c8.heap[a0]? = some (.cells (Z8 e7 u7 u5 u9 u6) 55) →
 KS (yk1 s0 n0 n1 n2 n3 n4 n5 I m) (yfL s0 n0 n1 n2 n3 n4 n5 ((IntKind.wrap .i64 (c3 + 1)), d8, d9, e0, e1, e2, e3, e4, x2, z6, y4, d4, d7, d6, e5, e6)) c8)
 (
 al c0 (.cells (Z8 e7 v7 v4 v8 v5) 55) fun dr ba =>
 ycR pP (Builtin.append_ #[24, 24] 24 #[.slice u2 u4 u3, (.slice (some ⟨dr, 0, none⟩) 1 1)]) ba fun x3 z7 y5 bb => yaD [n0, n1, n2, n3, n4, n5, a0, d5] ba bb ∧
 ∀ c9, Adv [n2] [] bb c9 → c9.heap[n1]? = some (.cells (Z2 d8 d9 e0) 151) →
 c9.heap[n2]? = some (.cells (Z3 e1 e2 e3 e4 x3 z7 y5 d4 d7 d6) 27) →
 c9.heap[n3]? = some (.cells #[.int .i64 e5] 3) →
 c9.heap[n4]? = some (.cells #[.int .i64 e6] 3) →
 c9.heap[a0]? = some (.cells (Z8 e7 v7 v4 v8 v5) 55) →
 KS (yk1 s0 n0 n1 n2 n3 n4 n5 I m) (yfL s0 n0 n1 n2 n3 n4 n5 ((IntKind.wrap .i64 (c3 + 1)), d8, d9, e0, e1, e2, e3, e4, x3, z7, y5, d4, d7, d6, e5, e6)) c9))))
 (
 ∀ c1, Adv [] [] w c1 → c1.heap[n1]? = some (.cells (Z2 a9 b0 a1) 151) →
 c1.heap[n2]? = some (.cells (Z3 b1 b2 b3 b4 a3 a7 a5 a4 a8 a6) 27) →
 c1.heap[n3]? = some (.cells #[.int .i64 b5] 3) →
 c1.heap[n4]? = some (.cells #[.int .i64 a2] 3) →
 c1.heap[n5]? = some (.cells #[.int .i64 0] 3) →
 Calls pP 112 #[(.pointer (some ⟨n1, 0, none⟩)), (.pointer (some ⟨n5, 0, none⟩))] c1 fun e d0 => e = .returned (.tuple #[]) ∧ yaR [n1, n2, n3, n4, n5] [(n0, 27)] [n0] c1 d0 ∧ ∃ ah bn bo, d0.heap[n1]? = some (.cells (Z2 ah bn bo) 151) ∧ ∃ bp bq br bt x4 z8 y6 x5 z9 y7, d0.heap[n2]? = some (.cells (Z3 bp bq br bt x4 z8 y6 x5 z9 y7) 27) ∧ ∃ bu, d0.heap[n3]? = some (.cells #[.int .i64 bu] 3) ∧ ∃ bv, d0.heap[n4]? = some (.cells #[.int .i64 bv] 3) ∧ ∃ bw, d0.heap[n5]? = some (.cells #[.int .i64 bw] 3) ∧
 yaK yhU (yi9 390 [0, 0, 1, 0, 1, 1, 1, 1, 1, 1, 1, 1]) (yk0 [1, 1, 1, 1, 1, 1, 1, 1, 0, 1, 0] [] R) (yf7 s0 n0 n1 n2 n3 n4 n5 (0, ah, bn, bo, bp, bq, br, bt, x4, z8, y6, x5, z9, y7, bu, bv, bw)) d0))
 (
 ∀ c2, Adv [] [] w c2 → c2.heap[n1]? = some (.cells (Z2 a9 b0 a1) 151) →
 c2.heap[n2]? = some (.cells (Z3 b1 b2 b3 b4 a3 a7 a5 a4 a8 a6) 27) →
 c2.heap[n3]? = some (.cells #[.int .i64 b5] 3) →
 c2.heap[n4]? = some (.cells #[.int .i64 a2] 3) →
 c2.heap[n5]? = some (.cells #[.int .i64 0] 3) →
 Calls pP 112 #[(.pointer (some ⟨n1, 0, none⟩)), (.pointer (some ⟨n5, 0, none⟩))] c2 fun e d1 => e = .returned (.tuple #[]) ∧ yaR [n1, n2, n3, n4, n5] [(n0, 27)] [n0] c2 d1 ∧ ∃ ai bx bz, d1.heap[n1]? = some (.cells (Z2 ai bx bz) 151) ∧ ∃ ca cb cc cd x6 aa y8 x7 ab y9, d1.heap[n2]? = some (.cells (Z3 ca cb cc cd x6 aa y8 x7 ab y9) 27) ∧ ∃ ce, d1.heap[n3]? = some (.cells #[.int .i64 ce] 3) ∧ ∃ cf, d1.heap[n4]? = some (.cells #[.int .i64 cf] 3) ∧ ∃ ch, d1.heap[n5]? = some (.cells #[.int .i64 ch] 3) ∧
 yaK yhU (yi9 390 [0, 0, 1, 0, 1, 1, 1, 1, 1, 1, 1, 1]) (yk0 [1, 1, 1, 1, 1, 1, 1, 1, 0, 1, 0] [] R) (yf7 s0 n0 n1 n2 n3 n4 n5 (0, ai, bx, bz, ca, cb, cc, cd, x6, aa, y8, x7, ab, y9, ce, cf, ch)) d1)) :
 yaK ypP (yi9 392 [0, 0, 1, 0, 1, 1, 1, 1, 1, 1]) (yk0 [1, 1, 1, 1, 1, 1, 0, 1, 0] [] R) (yfL s0 n0 n1 n2 n3 n4 n5 (i0, s1, i1, i2, i3, i4, i5, i6, q0, n6, n7, q1, n8, n9, i7, i8)) w0 :=
 lrule (yfL s0 n0 n1 n2 n3 n4 n5) (U16 I) h0 (by rintro m ⟨c3, a9, b0, a1, b1, b2, b3, b4, a3, a7, a5, a4, a8, a6, b5, a2⟩ w h; exact ⟨by kernel_rfl, by kernel_rfl, fun js => Eq.mpr (by kernel_rfl) (hr m c3 a9 b0 a1 b1 b2 b3 b4 a3 a7 a5 a4 a8 a6 b5 a2 w h)⟩)
abbrev yCp (a0 : BA) (bm0 bm1 bm2 bm3 bm4 bm5 : Nat) (I : Nat → Int → ByteArray → Int → Int → Int → Int → Int → Int → Option Addr → Nat → Nat → Option Addr → Nat → Nat → Int → Int → Int → World → Prop) (m : Nat) : Kh := KG (yf7 a0 bm0 bm1 bm2 bm3 bm4 bm5) (U17 I) m
theorem yx5 {I : Nat → Int → ByteArray → Int → Int → Int → Int → Int → Int → Option Addr → Nat → Nat → Option Addr → Nat → Nat → Int → Int → Int → World → Prop} (m' : Nat) (h1 : m' < m) (h2 : I m' i0 s1 i1 i2 i3 i4 i5 i6 q0 n6 n7 q1 n8 n9 i7 i8 i9 w) : KS (yCp s0 n0 n1 n2 n3 n4 n5 I m) (yf7 s0 n0 n1 n2 n3 n4 n5 (i0, s1, i1, i2, i3, i4, i5, i6, q0, n6, n7, q1, n8, n9, i7, i8, i9)) w := ⟨m', h1, _, rfl, rfl, h2⟩
theorem yx6 (I : Nat → Int → ByteArray → Int → Int → Int → Int → Int → Int → Option Addr → Nat → Nat → Option Addr → Nat → Nat → Int → Int → Int → World → Prop) (m0 : Nat) (h0 : I m0 i0 s1 i1 i2 i3 i4 i5 i6 q0 n6 n7 q1 n8 n9 i7 i8 i9 w0)
 (hr : ∀ m g2 b6 b9 b2 a6 a7 a8 a9 a0 a4 a2 a1 a5 a3 c0 c1 b3 w, I m g2 b6 b9 b2 a6 a7 a8 a9 a0 a4 a2 a1 a5 a3 c0 c1 b3 w →
 w.heap[n1]? = some (.cells (Z2 b6 b9 b2) 151) →
 w.heap[n2]? = some (.cells (Z3 a6 a7 a8 a9 a0 a4 a2 a1 a5 a3) 27) →
 w.heap[n3]? = some (.cells #[.int .i64 c0] 3) →
 w.heap[n4]? = some (.cells #[.int .i64 c1] 3) →
 w.heap[n5]? = some (.cells #[.int .i64 b3] 3) →
 brB (decide (g2 < b3)) (
 brB (b2 == 0) (
 ∀ b5, w.heap.size ≤ b5 →
 ∀ b4, Adv [] [b5] w b4 → b4.heap[n1]? = some (.cells (Z2 b6 b9 b2) 151) →
 b4.heap[n2]? = some (.cells (Z3 a6 a7 a8 a9 a0 a4 a2 a1 a5 a3) 27) →
 b4.heap[n3]? = some (.cells #[.int .i64 c0] 3) →
 b4.heap[n4]? = some (.cells #[.int .i64 c1] 3) →
 b4.heap[n5]? = some (.cells #[.int .i64 b3] 3) →
 b4.heap[b5]? = some (.cells #[.string ByteArray.empty, .int .i64 0] 43) →
 Calls pP 60 #[(.iface 149 (.pointer (some ⟨n1, 0, none⟩))), (.pointer (some ⟨b5, 0, none⟩))] b4 fun e b7 => e = .returned (.tuple #[]) ∧ yaR [n1, n2, n3, n4, n5, b5] [(n0, 27)] [n0] b4 b7 ∧ ∃ u4 u6 u7, b7.heap[n1]? = some (.cells (Z2 u4 u6 u7) 151) ∧ ∃ u9 v0 v1 v2 u1 u3 u2 v8 w3 w1, b7.heap[n2]? = some (.cells (Z3 u9 v0 v1 v2 u1 u3 u2 v8 w3 w1) 27) ∧ ∃ v3, b7.heap[n3]? = some (.cells #[.int .i64 v3] 3) ∧ ∃ v4, b7.heap[n4]? = some (.cells #[.int .i64 v4] 3) ∧ ∃ v5, b7.heap[n5]? = some (.cells #[.int .i64 v5] 3) ∧ ∃ u5 v6, b7.heap[b5]? = some (.cells #[.string u5, .int .i64 v6] 43) ∧
 al b7 (.cells #[.string u5, .int .i64 v6] 43) fun x1 w7 =>
 ycR pP (Builtin.append_ #[25, 25] 25 #[.slice v8 w3 w1, (.slice (some ⟨x1, 0, none⟩) 1 1)]) w7 fun v9 w4 w2 w8 => yaD [n0, n1, n2, n3, n4, n5, b5] w7 w8 ∧
 ∀ b8, Adv [n2] [] w8 b8 → b8.heap[n1]? = some (.cells (Z2 u4 u6 u7) 151) →
 b8.heap[n2]? = some (.cells (Z3 u9 v0 v1 v2 u1 u3 u2 v9 w4 w2) 27) →
 b8.heap[n3]? = some (.cells #[.int .i64 v3] 3) →
 b8.heap[n4]? = some (.cells #[.int .i64 v4] 3) →
 b8.heap[n5]? = some (.cells #[.int .i64 v5] 3) →
 b8.heap[b5]? = some (.cells #[.string u5, .int .i64 v6] 43) →
 KS (yCp s0 n0 n1 n2 n3 n4 n5 I m) (yf7 s0 n0 n1 n2 n3 n4 n5 ((IntKind.wrap .i64 (g2 + 1)), u4, u6, u7, u9, v0, v1, v2, u1, u3, u2, v9, w4, w2, v3, v4, v5)) b8)
 (
 Calls pP 26 #[(.agg (Z3 a6 a7 a8 a9 a0 a4 a2 a1 a5 a3))] w fun e b0 => ∃ w5 w9, e = .returned (.tuple #[.string w5, .int .i64 w9]) ∧ yaR [n1, n2, n3, n4, n5] [(n0, 27)] [n0] w b0 ∧ ∃ f2 f4 e2, b0.heap[n1]? = some (.cells (Z2 f2 f4 e2) 151) ∧ ∃ e3 e4 e5 e6 d0 d8 d4 d1 d9 d5, b0.heap[n2]? = some (.cells (Z3 e3 e4 e5 e6 d0 d8 d4 d1 d9 d5) 27) ∧ ∃ f5, b0.heap[n3]? = some (.cells #[.int .i64 f5] 3) ∧ ∃ f6, b0.heap[n4]? = some (.cells #[.int .i64 f6] 3) ∧ ∃ f7, b0.heap[n5]? = some (.cells #[.int .i64 f7] 3) ∧
 brB (e2 != 0) (
 ∀ c2, Adv [n0] [] b0 c2 → c2.heap[n1]? = some (.cells (Z2 f2 f4 e2) 151) →
 c2.heap[n2]? = some (.cells (Z3 e3 e4 e5 e6 d0 d8 d4 d1 d9 d5) 27) →
 c2.heap[n3]? = some (.cells #[.int .i64 f5] 3) →
 c2.heap[n4]? = some (.cells #[.int .i64 f6] 3) →
 c2.heap[n5]? = some (.cells #[.int .i64 f7] 3) →
 R (.tuple #[(.agg (Z3 0 0 0 0 none 0 0 none 0 0)), .int .i64 40]) c2)
 (
 brB (w9 != 0) (
 ∀ c3, Adv [n0] [] b0 c3 → c3.heap[n1]? = some (.cells (Z2 f2 f4 e2) 151) →
 c3.heap[n2]? = some (.cells (Z3 e3 e4 e5 e6 d0 d8 d4 d1 d9 d5) 27) →
 c3.heap[n3]? = some (.cells #[.int .i64 f5] 3) →
 c3.heap[n4]? = some (.cells #[.int .i64 f6] 3) →
 c3.heap[n5]? = some (.cells #[.int .i64 f7] 3) →
 R (.tuple #[(.agg (Z3 0 0 0 0 none 0 0 none 0 0)), .int .i64 40]) c3)
 (
 brB (!(w5.toList == s0.toList)) (
 ∀ c4, Adv [n0] [] b0 c4 → c4.heap[n1]? = some (.cells (Z2 f2 f4 e2) 151) →
 c4.heap[n2]? = some (.cells (Z3 e3 e4 e5 e6 d0 d8 d4 d1 d9 d5) 27) →
 c4.heap[n3]? = some (.cells #[.int .i64 f5] 3) →
 c4.heap[n4]? = some (.cells #[.int .i64 f6] 3) →
 c4.heap[n5]? = some (.cells #[.int .i64 f7] 3) →
 R (.tuple #[(.agg (Z3 0 0 0 0 none 0 0 none 0 0)), .int .i64 40]) c4)
 (
 ∀ c5, Adv [n0] [] b0 c5 → c5.heap[n1]? = some (.cells (Z2 f2 f4 e2) 151) →
 c5.heap[n2]? = some (.cells (Z3 e3 e4 e5 e6 d0 d8 d4 d1 d9 d5) 27) →
 c5.heap[n3]? = some (.cells #[.int .i64 f5] 3) →
 c5.heap[n4]? = some (.cells #[.int .i64 f6] 3) →
 c5.heap[n5]? = some (.cells #[.int .i64 f7] 3) →
 R (.tuple #[(.agg (Z3 e3 e4 e5 e6 d0 d8 d4 d1 d9 d5)), .int .i64 0]) c5)))))
 (
 Calls pP 26 #[(.agg (Z3 a6 a7 a8 a9 a0 a4 a2 a1 a5 a3))] w fun e b1 => ∃ w6 x0, e = .returned (.tuple #[.string w6, .int .i64 x0]) ∧ yaR [n1, n2, n3, n4, n5] [(n0, 27)] [n0] w b1 ∧ ∃ f3 f8 e7, b1.heap[n1]? = some (.cells (Z2 f3 f8 e7) 151) ∧ ∃ e8 e9 f0 f1 d2 e0 d6 d3 e1 d7, b1.heap[n2]? = some (.cells (Z3 e8 e9 f0 f1 d2 e0 d6 d3 e1 d7) 27) ∧ ∃ f9, b1.heap[n3]? = some (.cells #[.int .i64 f9] 3) ∧ ∃ g0, b1.heap[n4]? = some (.cells #[.int .i64 g0] 3) ∧ ∃ g1, b1.heap[n5]? = some (.cells #[.int .i64 g1] 3) ∧
 brB (e7 != 0) (
 ∀ c6, Adv [n0] [] b1 c6 → c6.heap[n1]? = some (.cells (Z2 f3 f8 e7) 151) →
 c6.heap[n2]? = some (.cells (Z3 e8 e9 f0 f1 d2 e0 d6 d3 e1 d7) 27) →
 c6.heap[n3]? = some (.cells #[.int .i64 f9] 3) →
 c6.heap[n4]? = some (.cells #[.int .i64 g0] 3) →
 c6.heap[n5]? = some (.cells #[.int .i64 g1] 3) →
 R (.tuple #[(.agg (Z3 0 0 0 0 none 0 0 none 0 0)), .int .i64 40]) c6)
 (
 brB (x0 != 0) (
 ∀ c7, Adv [n0] [] b1 c7 → c7.heap[n1]? = some (.cells (Z2 f3 f8 e7) 151) →
 c7.heap[n2]? = some (.cells (Z3 e8 e9 f0 f1 d2 e0 d6 d3 e1 d7) 27) →
 c7.heap[n3]? = some (.cells #[.int .i64 f9] 3) →
 c7.heap[n4]? = some (.cells #[.int .i64 g0] 3) →
 c7.heap[n5]? = some (.cells #[.int .i64 g1] 3) →
 R (.tuple #[(.agg (Z3 0 0 0 0 none 0 0 none 0 0)), .int .i64 40]) c7)
 (
 brB (!(w6.toList == s0.toList)) (
 ∀ c8, Adv [n0] [] b1 c8 → c8.heap[n1]? = some (.cells (Z2 f3 f8 e7) 151) →
 c8.heap[n2]? = some (.cells (Z3 e8 e9 f0 f1 d2 e0 d6 d3 e1 d7) 27) →
 c8.heap[n3]? = some (.cells #[.int .i64 f9] 3) →
 c8.heap[n4]? = some (.cells #[.int .i64 g0] 3) →
 c8.heap[n5]? = some (.cells #[.int .i64 g1] 3) →
 R (.tuple #[(.agg (Z3 0 0 0 0 none 0 0 none 0 0)), .int .i64 40]) c8)
 (
 ∀ c9, Adv [n0] [] b1 c9 → c9.heap[n1]? = some (.cells (Z2 f3 f8 e7) 151) →
 c9.heap[n2]? = some (.cells (Z3 e8 e9 f0 f1 d2 e0 d6 d3 e1 d7) 27) →
 c9.heap[n3]? = some (.cells #[.int .i64 f9] 3) →
 c9.heap[n4]? = some (.cells #[.int .i64 g0] 3) →
 c9.heap[n5]? = some (.cells #[.int .i64 g1] 3) →
 R (.tuple #[(.agg (Z3 e8 e9 f0 f1 d2 e0 d6 d3 e1 d7)), .int .i64 0]) c9))))) :
 yaK yhU (yi9 390 [0, 0, 1, 0, 1, 1, 1, 1, 1, 1, 1, 1]) (yk0 [1, 1, 1, 1, 1, 1, 1, 1, 0, 1, 0] [] R) (yf7 s0 n0 n1 n2 n3 n4 n5 (i0, s1, i1, i2, i3, i4, i5, i6, q0, n6, n7, q1, n8, n9, i7, i8, i9)) w0 :=
 lrule (yf7 s0 n0 n1 n2 n3 n4 n5) (U17 I) h0 (by rintro m ⟨g2, b6, b9, b2, a6, a7, a8, a9, a0, a4, a2, a1, a5, a3, c0, c1, b3⟩ w h; exact ⟨by kernel_rfl, by kernel_rfl, fun js => Eq.mpr (by kernel_rfl) (hr m g2 b6 b9 b2 a6 a7 a8 a9 a0 a4 a2 a1 a5 a3 c0 c1 b3 w h)⟩)
theorem yGC (h :
 ∀ b1, w.heap.size ≤ b1 →
 ∀ b2, w.heap.size ≤ b2 →
 ∀ b3, w.heap.size ≤ b3 →
 ∀ b4, w.heap.size ≤ b4 →
 ∀ b5, w.heap.size ≤ b5 →
 ∀ b6, w.heap.size ≤ b6 →
 ∀ w7, Adv [] [b6, b5, b4, b3, b2, b1] w w7 → w7.heap[b3]? = some (.cells (Z3 0 0 0 0 none 0 0 none 0 0) 27) →
 w7.heap[b4]? = some (.cells #[.int .i64 0] 3) →
 w7.heap[b5]? = some (.cells #[.int .i64 0] 3) →
 al w7 (.cells #[(.pointer (some ⟨b4, 0, none⟩)), (.pointer (some ⟨b3, 1, none⟩)), (.pointer (some ⟨b3, 2, none⟩)), (.pointer (some ⟨b3, 3, none⟩)), (.pointer (some ⟨b5, 0, none⟩))] 62) fun b8 w9 =>
 ∀ a0, Adv [] [] w9 a0 → a0.heap[b2]? = some (.cells (Z2 s0 0 0) 151) →
 a0.heap[b3]? = some (.cells (Z3 0 0 0 0 none 0 0 none 0 0) 27) →
 a0.heap[b4]? = some (.cells #[.int .i64 0] 3) →
 a0.heap[b5]? = some (.cells #[.int .i64 0] 3) →
 yaK ypO (yi9 394 [0, 0, 1, 0, 1, 1, 1, 1]) (yk0 [1, 1, 1, 1, 0, 1, 0] [] R) (yiY s0 (some ⟨b8, 0, none⟩) 5 5 b1 b2 b3 b4 b5 b6 (0, s0, 0, 0, 0, 0, 0, 0, none, 0, 0, none, 0, 0, 0, 0)) a0) :
 CR pP 81 #[.string s0] w R :=
 yaA Tryz.wide_mixed (an := ypQ) Tryz.func81 rfl rfl (by kernel_rfl) rfl (Eq.mpr (by kernel_rfl) h)
def ypR : LA := ⟨[0, 0, 1, 0, 1, 1, 1], [0, 2, 3, 4, 15, 16], [(2, 0, 0), (3, 1, 0)], 2, [1]⟩
def ypS : List LA := [ypR]
abbrev yE6 := dnF pP ypS (code Tryz.f42)
abbrev yLl := yaN pP ypS (code Tryz.f42)
abbrev yE7 (p : List Nat) (K : List Kh) (R : VWP) := yaN pP ypS (code Tryz.f42) p K (ya4 pP Tryz.f42 [] R)
def yiZ (d4 : BA) (b3 b4 b5 b6 b7 b8 b9 c0 c1 c2 : OA) (bm0 bm1 : Nat) : Int × Int × Int × Int × Int × Int × Int × Int × Int × Int × Int × Int × (Option Addr) × Nat × Nat × Int × Int × Int × Int × (Option Addr) × Nat × Nat × (Option Addr) × Nat × Nat → List Value × List TB := fun (d5, d3, c3, c4, c5, c6, c7, c8, c9, d0, d1, d2, a0, a6, a3, a9, b0, b1, b2, a1, a7, a4, a2, a8, a5) => ([.string d4, (.pointer (some ⟨bm0, 0, none⟩)), (.pointer (some ⟨bm1, 0, none⟩)), .int .i64 d5, (.agg (Z6 b3 b4 b5 b6 b7 b8 b9 c0 c1 c2)), .int .i64 d3], [⟨bm0, 29, [.int .i64 0, .int .i64 0, .int .i64 0, .int .i64 0, .int .i64 0, .int .i64 0, .int .i64 0, .int .i64 0, .int .i64 0, .int .i64 0, .slice none 0 0, .int .i64 0, .int .i64 0, .int .i64 0, .int .i64 0, .slice none 0 0, .slice none 0 0], false⟩, ⟨bm1, 29, [.int .i64 c3, .int .i64 c4, .int .i64 c5, .int .i64 c6, .int .i64 c7, .int .i64 c8, .int .i64 c9, .int .i64 d0, .int .i64 d1, .int .i64 d2, .slice a0 a6 a3, .int .i64 a9, .int .i64 b0, .int .i64 b1, .int .i64 b2, .slice a1 a7 a4, .slice a2 a8 a5], true⟩])
abbrev yCq (b0 : BA) (a0 a1 a2 a3 a4 a5 a6 a7 a8 a9 : OA) (bm0 bm1 : Nat) (I : Nat → Int → Int → Int → Int → Int → Int → Int → Int → Int → Int → Int → Int → Option Addr → Nat → Nat → Int → Int → Int → Int → Option Addr → Nat → Nat → Option Addr → Nat → Nat → World → Prop) (m : Nat) : Kh := KG (yiZ b0 a0 a1 a2 a3 a4 a5 a6 a7 a8 a9 bm0 bm1) (U25 I) m
theorem yx7 {I : Nat → Int → Int → Int → Int → Int → Int → Int → Int → Int → Int → Int → Int → Option Addr → Nat → Nat → Int → Int → Int → Int → Option Addr → Nat → Nat → Option Addr → Nat → Nat → World → Prop} (m' : Nat) (h1 : m' < m) (h2 : I m' i0 i1 i2 i3 i4 i5 i6 i7 i8 i9 j0 j1 r0 n2 n3 j2 j3 j4 j5 r1 n4 n5 r2 n6 n7 w) : KS (yCq s0 q0 q1 q2 q3 q4 q5 q6 q7 q8 q9 n0 n1 I m) (yiZ s0 q0 q1 q2 q3 q4 q5 q6 q7 q8 q9 n0 n1 (i0, i1, i2, i3, i4, i5, i6, i7, i8, i9, j0, j1, r0, n2, n3, j2, j3, j4, j5, r1, n4, n5, r2, n6, n7)) w := ⟨m', h1, _, rfl, rfl, h2⟩
theorem yx8 (I : Nat → Int → Int → Int → Int → Int → Int → Int → Int → Int → Int → Int → Int → Option Addr → Nat → Nat → Int → Int → Int → Int → Option Addr → Nat → Nat → Option Addr → Nat → Nat → World → Prop) (m0 : Nat) (h0 : I m0 i0 i1 i2 i3 i4 i5 i6 i7 i8 i9 j0 j1 r0 n2 n3 j2 j3 j4 j5 r1 n4 n5 r2 n6 n7 w0)
 (hr : ∀ m g2 d3 c3 c4 c5 c6 c7 c8 c9 d0 d1 d2 b0 b6 b3 b9 c0 c1 c2 b1 b7 b4 b2 b8 b5 w, I m g2 d3 c3 c4 c5 c6 c7 c8 c9 d0 d1 d2 b0 b6 b3 b9 c0 c1 c2 b1 b7 b4 b2 b8 b5 w →
 w.heap[n1]? = some (.cells (Z0 c3 c4 c5 c6 c7 c8 c9 d0 d1 d2 b0 b6 b3 b9 c0 c1 c2 b1 b7 b4 b2 b8 b5) 29) →
 brB (decide (d3 < 10)) (
 ∃ co, (∀ w' : World, (Instr.index 63 (.agg (Z6 q0 q1 q2 q3 q4 q5 q6 q7 q8 q9)) (.int .i64 d3)).run pP w' = .ok (.pointer co) w') ∧
 Calls pP 79 #[.string s0, .int .i64 g2] w fun e e9 => ∃ bm cq cr, e = .returned (.tuple #[.int .u64 bm, .int .i64 cq, .int .i64 cr]) ∧ yaR [n1] [(n0, 29)] [n0] w e9 ∧ ∃ bn bo bp bq br bt bu bv bw bx w4 y8 x6 bz ca cb cc w5 y9 x7 w6 z0 x8, e9.heap[n1]? = some (.cells (Z0 bn bo bp bq br bt bu bv bw bx w4 y8 x6 bz ca cb cc w5 y9 x7 w6 z0 x8) 29) ∧
 brB (cr != 0) (
 ∀ z2, Adv [n0] [] e9 z2 → z2.heap[n1]? = some (.cells (Z0 bn bo bp bq br bt bu bv bw bx w4 y8 x6 bz ca cb cc w5 y9 x7 w6 z0 x8) 29) →
 R (.agg (Z0 0 0 0 0 0 0 0 0 0 0 none 0 0 0 0 0 0 none 0 0 none 0 0)) z2)
 (
 brB (decide (bm > 1099511627776)) (
 ∀ z3, Adv [n0] [] e9 z3 → z3.heap[n1]? = some (.cells (Z0 bn bo bp bq br bt bu bv bw bx w4 y8 x6 bz ca cb cc w5 y9 x7 w6 z0 x8) 29) →
 R (.agg (Z0 0 0 0 0 0 0 0 0 0 0 none 0 0 0 0 0 0 none 0 0 none 0 0)) z3)
 (
 ynC co fun ec =>
 st e9 ec [(.int .i64 (IntKind.wrap .i64 bm))] fun z4 => yaR [n1] [(n0, 29)] [n0] e9 z4 ∧ ∃ cs ct cu cv cw cx cy cz da db ce cl ci dc dd de df cf cm cj ch cn ck, z4.heap[n1]? = some (.cells (Z0 cs ct cu cv cw cx cy cz da db ce cl ci dc dd de df cf cm cj ch cn ck) 29) ∧
 KS (yCq s0 q0 q1 q2 q3 q4 q5 q6 q7 q8 q9 n0 n1 I m) (yiZ s0 q0 q1 q2 q3 q4 q5 q6 q7 q8 q9 n0 n1 (cq, (IntKind.wrap .i64 (d3 + 1)), cs, ct, cu, cv, cw, cx, cy, cz, da, db, ce, cl, ci, dc, dd, de, df, cf, cm, cj, ch, cn, ck)) z4)))
 (
 Calls pP 78 (Z2 s0 g2 1048576) w fun e g1 => ∃ cp dg dh, e = .returned (.tuple (Z2 cp dg dh)) ∧ yaR [n1] [(n0, 29)] [n0] w g1 ∧ ∃ di dj dk z5 z6 z7 z8 z9 aa ab v4 x9 w7 ac ad ae af v5 y0 w8 v6 y1 w9, g1.heap[n1]? = some (.cells (Z0 di dj dk z5 z6 z7 z8 z9 aa ab v4 x9 w7 ac ad ae af v5 y0 w8 v6 y1 w9) 29) ∧
 brB (dh != 0) (
 ∀ h3, Adv [n0] [] g1 h3 → h3.heap[n1]? = some (.cells (Z0 di dj dk z5 z6 z7 z8 z9 aa ab v4 x9 w7 ac ad ae af v5 y0 w8 v6 y1 w9) 29) →
 R (.agg (Z0 0 0 0 0 0 0 0 0 0 0 none 0 0 0 0 0 0 none 0 0 none 0 0)) h3)
 (
 Calls pP 78 (Z2 s0 dg 1048576) g1 fun e e4 => ∃ z1 dv ag, e = .returned (.tuple (Z2 z1 dv ag)) ∧ yaR [n1] [(n0, 29)] [n0] g1 e4 ∧ ∃ ah ai aj ak am an ao ap aq ar v7 y2 x0 au av aw ax v8 y3 x1 v9 y4 x2, e4.heap[n1]? = some (.cells (Z0 ah ai aj ak am an ao ap aq ar v7 y2 x0 au av aw ax v8 y3 x1 v9 y4 x2) 29) ∧
 brB (ag != 0) (
 ∀ h4, Adv [n0] [] e4 h4 → h4.heap[n1]? = some (.cells (Z0 ah ai aj ak am an ao ap aq ar v7 y2 x0 au av aw ax v8 y3 x1 v9 y4 x2) 29) →
 R (.agg (Z0 0 0 0 0 0 0 0 0 0 0 none 0 0 0 0 0 0 none 0 0 none 0 0)) h4)
 (
 Calls pP 80 #[.string cp] e4 fun e h5 => ∃ w1 y5 x3 dw, e = .returned (.tuple #[.slice w1 y5 x3, .int .i64 dw]) ∧ yaR [n1] [(n0, 29)] [n0] e4 h5 ∧ ∃ ay az ba bb bc bd be bf bg bh dl ds dp bi bj bk bl w2 y6 x4 w3 y7 x5, h5.heap[n1]? = some (.cells (Z0 ay az ba bb bc bd be bf bg bh dl ds dp bi bj bk bl w2 y6 x4 w3 y7 x5) 29) ∧
 ∀ g0, Adv [n1] [] h5 g0 → g0.heap[n1]? = some (.cells (Z0 ay az ba bb bc bd be bf bg bh w1 y5 x3 bi bj bk bl w2 y6 x4 w3 y7 x5) 29) →
 Calls pP 81 #[.string z1] g0 fun e h6 => ∃ h8 h9 u0 u1 g3 g9 g6 g4 h1 g7 dx, e = .returned (.tuple #[(.agg (Z3 h8 h9 u0 u1 g3 g9 g6 g4 h1 g7)), .int .i64 dx]) ∧ yaR [n1] [(n0, 29)] [n0] g0 h6 ∧ ∃ u2 u3 u4 u5 u6 u7 u9 v0 v1 v2 g5 h2 g8 dy dz ea eb dm dt dq dn du dr, h6.heap[n1]? = some (.cells (Z0 u2 u3 u4 u5 u6 u7 u9 v0 v1 v2 g5 h2 g8 dy dz ea eb dm dt dq dn du dr) 29) ∧
 ∀ h7, Adv [n0, n1] [] h6 h7 → h7.heap[n1]? = some (.cells (Z0 u2 u3 u4 u5 u6 u7 u9 v0 v1 v2 g5 h2 g8 h8 h9 u0 u1 g3 g9 g6 g4 h1 g7) 29) →
 R (.agg (Z0 u2 u3 u4 u5 u6 u7 u9 v0 v1 v2 g5 h2 g8 h8 h9 u0 u1 g3 g9 g6 g4 h1 g7)) h7)))) :
 yaK ypR (yE6 395 [0, 0, 1, 0, 1, 1, 1]) (yE7 [1, 1, 1, 0, 1, 0] [] R) (yiZ s0 q0 q1 q2 q3 q4 q5 q6 q7 q8 q9 n0 n1 (i0, i1, i2, i3, i4, i5, i6, i7, i8, i9, j0, j1, r0, n2, n3, j2, j3, j4, j5, r1, n4, n5, r2, n6, n7)) w0 :=
 lrule (yiZ s0 q0 q1 q2 q3 q4 q5 q6 q7 q8 q9 n0 n1) (U25 I) h0 (by rintro m ⟨g2, d3, c3, c4, c5, c6, c7, c8, c9, d0, d1, d2, b0, b6, b3, b9, c0, c1, c2, b1, b7, b4, b2, b8, b5⟩ w h; exact ⟨by kernel_rfl, by kernel_rfl, fun js => Eq.mpr (by kernel_rfl) (hr m g2 d3 c3 c4 c5 c6 c7 c8 c9 d0 d1 d2 b0 b6 b3 b9 c0 c1 c2 b1 b7 b4 b2 b8 b5 w h)⟩)
theorem yGD (h :
 ∀ b1, w.heap.size ≤ b1 →
 ∀ b2, w.heap.size ≤ b2 →
 ∀ w3, Adv [] [b2, b1] w w3 → w3.heap[b2]? = some (.cells (Z0 0 0 0 0 0 0 0 0 0 0 none 0 0 0 0 0 0 none 0 0 none 0 0) 29) →
 Calls pP 22 #[(.pointer (some ⟨b2, 0, none⟩))] w3 fun e w4 => ∃ p5 p6 p7 p8 p9 b0 b3 b4 b5 b6, e = .returned (.agg (Z6 p5 p6 p7 p8 p9 b0 b3 b4 b5 b6)) ∧ yaR [b2] [(b1, 29)] [b1] w3 w4 ∧ ∃ b7 b8 b9 c0 c1 c2 c3 c4 c5 c6 a1 a7 a4 c7 c8 c9 d0 a2 a8 a5 a3 a9 a6, w4.heap[b2]? = some (.cells (Z0 b7 b8 b9 c0 c1 c2 c3 c4 c5 c6 a1 a7 a4 c7 c8 c9 d0 a2 a8 a5 a3 a9 a6) 29) ∧
 yaK ypR (yE6 395 [0, 0, 1, 0, 1, 1, 1]) (yE7 [1, 1, 1, 0, 1, 0] [] R) (yiZ s0 p5 p6 p7 p8 p9 b0 b3 b4 b5 b6 b1 b2 (0, 0, b7, b8, b9, c0, c1, c2, c3, c4, c5, c6, a1, a7, a4, c7, c8, c9, d0, a2, a8, a5, a3, a9, a6)) w4) :
 CR pP 42 #[.string s0] w R :=
 yaA Tryz.wide_mixed (an := ypS) Tryz.func42 rfl rfl (by kernel_rfl) rfl (Eq.mpr (by kernel_rfl) h)
theorem yGE {a1 : BA} (h :
 ∀ b1, w.heap.size ≤ b1 →
 ∀ w2, Adv [] [b1] w w2 →
 Calls pP 41 (Z2 a1 0 1048576) w2 fun e w3 => ∃ s4 x5 x6, e = .returned (.tuple (Z2 s4 x5 x6)) ∧ yaD [b1] w2 w3 ∧
 Calls pP 42 #[.string s4] w3 fun e w7 => ∃ x8 x9 b4 b5 b6 b7 b8 b9 c0 c1 a2 a9 a6 c2 c3 c4 c5 a3 b0 a7 a4 b2 a8, e = .returned (.agg (Z0 x8 x9 b4 b5 b6 b7 b8 b9 c0 c1 a2 a9 a6 c2 c3 c4 c5 a3 b0 a7 a4 b2 a8)) ∧ yaD [b1] w3 w7 ∧
 ∀ a5, w7.heap.size ≤ a5 →
 ∀ b3, Adv [] [a5] w7 b3 →
 Calls pP 10 #[(.agg (Z0 x8 x9 b4 b5 b6 b7 b8 b9 c0 c1 a2 a9 a6 c2 c3 c4 c5 a3 b0 a7 a4 b2 a8))] b3 fun e a0 => ∃ c6 d1, e = .returned (.tuple #[.string c6, .int .i64 d1]) ∧ yaD [b1, a5] b3 a0 ∧
 brB (x6 != 0) (
 ∀ c7, Adv [b1] [] a0 c7 →
 R (.tuple #[(.agg (Z0 0 0 0 0 0 0 0 0 0 0 none 0 0 0 0 0 0 none 0 0 none 0 0)), .int .i64 180]) c7)
 (
 brB (d1 != 0) (
 ∀ c8, Adv [b1] [] a0 c8 →
 R (.tuple #[(.agg (Z0 0 0 0 0 0 0 0 0 0 0 none 0 0 0 0 0 0 none 0 0 none 0 0)), .int .i64 180]) c8)
 (
 brB (!(c6.toList == a1.toList)) (
 ∀ c9, Adv [b1] [] a0 c9 →
 R (.tuple #[(.agg (Z0 0 0 0 0 0 0 0 0 0 0 none 0 0 0 0 0 0 none 0 0 none 0 0)), .int .i64 180]) c9)
 (
 ∀ d0, Adv [b1] [] a0 d0 →
 R (.tuple #[(.agg (Z0 x8 x9 b4 b5 b6 b7 b8 b9 c0 c1 a2 a9 a6 c2 c3 c4 c5 a3 b0 a7 a4 b2 a8)), .int .i64 0]) d0)))) :
 CR pP 17 #[.string a1] w R :=
 yaA Tryz.wide_mixed (an := []) Tryz.func17 rfl rfl (by kernel_rfl) rfl (Eq.mpr (by kernel_rfl) h)
def ypT : LA := ⟨[0, 0, 1, 0, 1, 1, 1, 1, 1, 1, 1], [0, 2, 4, 5, 6, 7], [(2, 0, 0), (4, 1, 0), (5, 2, 0)], 3, [1]⟩
def ygL : LA := ⟨[0, 0, 1, 0, 1, 1, 1, 1, 1, 1, 1, 1, 1], [0, 2, 4, 5, 12, 13], [(2, 0, 0), (4, 1, 0), (5, 2, 0)], 3, [1]⟩
def ypU : List LA := [ypT, ygL]
abbrev yk2 := dnF pP ypU (code Tryz.f47)
abbrev yJ8 := yaN pP ypU (code Tryz.f47)
abbrev ym4 (p : List Nat) (K : List Kh) (R : VWP) := yaN pP ypU (code Tryz.f47) p K (ya4 pP Tryz.f47 [] R)
def yfM (b0 : BA) (b1 : Int) (bm0 bm1 bm2 : Nat) (a6 a7 a8 a9 : Int) : Int × ByteArray × Int × Bool × (Option Addr) × Nat × Nat → List Value × List TB := fun (b2, a3, a5, a4, a0, a2, a1) => ([.string b0, (.pointer (some ⟨bm0, 0, none⟩)), (.pointer (some ⟨bm1, 0, none⟩)), (.pointer (some ⟨bm2, 0, none⟩)), .int .i64 b1, .int .i64 b2], [⟨bm0, 27, [.int .i64 0, .int .i64 0, .int .i64 0, .int .i64 0, .slice none 0 0, .slice none 0 0], false⟩, ⟨bm1, 124, [.string a3, .int .i64 a5, .bool a4], true⟩, ⟨bm2, 27, [.int .i64 a6, .int .i64 a7, .int .i64 a8, .int .i64 a9, .slice a0 a2 a1, .slice none 0 0], false⟩])
def yfN (b5 : BA) (b3 : Int) (bm0 bm1 bm2 : Nat) (a9 b0 b1 b2 : Int) (a0 : OA) (a4 a2 : Nat) : Int × ByteArray × Int × Bool × (Option Addr) × Nat × Nat → List Value × List TB := fun (b4, a6, a8, a7, a1, a5, a3) => ([.string b5, (.pointer (some ⟨bm0, 0, none⟩)), (.pointer (some ⟨bm1, 0, none⟩)), (.pointer (some ⟨bm2, 0, none⟩)), .int .i64 b3, .int .i64 b4], [⟨bm0, 27, [.int .i64 0, .int .i64 0, .int .i64 0, .int .i64 0, .slice none 0 0, .slice none 0 0], false⟩, ⟨bm1, 124, [.string a6, .int .i64 a8, .bool a7], true⟩, ⟨bm2, 27, [.int .i64 a9, .int .i64 b0, .int .i64 b1, .int .i64 b2, .slice a0 a4 a2, .slice a1 a5 a3], false⟩])
abbrev yk3 (a4 : BA) (a5 : Int) (bm0 bm1 bm2 : Nat) (a0 a1 a2 a3 : Int) (I : Nat → Int → ByteArray → Int → Bool → Option Addr → Nat → Nat → World → Prop) (m : Nat) : Kh := KG (yfM a4 a5 bm0 bm1 bm2 a0 a1 a2 a3) (U7 I) m
theorem ygM {I : Nat → Int → ByteArray → Int → Bool → Option Addr → Nat → Nat → World → Prop} (m' : Nat) (h1 : m' < m) (h2 : I m' i5 s1 i6 B0 q0 n3 n4 w) : KS (yk3 s0 i0 n0 n1 n2 i1 i2 i3 i4 I m) (yfM s0 i0 n0 n1 n2 i1 i2 i3 i4 (i5, s1, i6, B0, q0, n3, n4)) w := ⟨m', h1, _, rfl, rfl, h2⟩
theorem yx9 (I : Nat → Int → ByteArray → Int → Bool → Option Addr → Nat → Nat → World → Prop) (m0 : Nat) (h0 : I m0 i5 s1 i6 B0 q0 n3 n4 w0)
 (hr : ∀ m b2 b1 b3 a9 a4 a6 a5 w, I m b2 b1 b3 a9 a4 a6 a5 w →
 w.heap[n1]? = some (.cells (Z5 b1 b3 a9) 124) →
 brB (decide (b2 < i0)) (
 brB (!a9) (
 brB (decide (b2 < 65)) (
 Calls pP 83 #[(.pointer (some ⟨n1, 0, none⟩))] w fun e c4 => ∃ c9, e = .returned (.int .i64 c9) ∧ yaR [n1] [(n0, 27), (n2, 27)] [n0, n2] w c4 ∧ ∃ c7 d0 e7, c4.heap[n1]? = some (.cells (Z5 c7 d0 e7) 124) ∧
 ∀ a7, c4.heap.size ≤ a7 →
 ((
 ∀ b4, c4.heap.size ≤ b4 →
 ∀ d3, Adv [] [b4, a7] c4 d3 → d3.heap[n1]? = some (.cells (Z5 c7 d0 e7) 124) →
 Calls pP 84 #[.string c7, .int .i64 d0] d3 fun e d4 => ∃ e8 e0 e9 e1 b7 d6, e = .returned (.tuple #[(.agg (Z7 e8 e0 e9 e1)), .int .i64 b7, .int .i64 d6]) ∧ yaR [n1] [(n0, 27), (n2, 27), (a7, 55), (b4, 53)] [n0, n2, a7, b4] d3 d4 ∧ ∃ b5 v7 g7, d4.heap[n1]? = some (.cells (Z5 b5 v7 g7) 124) ∧
 brB g7 (
 ∀ f2, Adv [a7, n1, b4] [] d4 f2 → f2.heap[n1]? = some (.cells (Z5 b5 b7 true) 124) →
 al f2 (.cells (Z8 c9 e8 e0 e9 e1) 55) fun u4 g9 =>
 ycR pP (Builtin.append_ #[24, 24] 24 #[.slice a4 a6 a5, (.slice (some ⟨u4, 0, none⟩) 1 1)]) g9 fun u0 v3 u9 h1 => yaD [n0, n1, n2, a7, b4] g9 h1 ∧
 ∀ f3, Adv [n2] [] h1 f3 → f3.heap[n1]? = some (.cells (Z5 b5 b7 true) 124) →
 KS (yk3 s0 i0 n0 n1 n2 i1 i2 i3 i4 I m) (yfM s0 i0 n0 n1 n2 i1 i2 i3 i4 ((IntKind.wrap .i64 (b2 + 1)), b5, b7, true, u0, v3, u9)) f3)
 (
 ∀ f4, Adv [a7, n1, b4] [] d4 f4 → f4.heap[n1]? = some (.cells (Z5 b5 b7 (d6 != 0)) 124) →
 al f4 (.cells (Z8 c9 e8 e0 e9 e1) 55) fun u5 h2 =>
 ycR pP (Builtin.append_ #[24, 24] 24 #[.slice a4 a6 a5, (.slice (some ⟨u5, 0, none⟩) 1 1)]) h2 fun u1 v4 v0 h3 => yaD [n0, n1, n2, a7, b4] h2 h3 ∧
 ∀ f5, Adv [n2] [] h3 f5 → f5.heap[n1]? = some (.cells (Z5 b5 b7 (d6 != 0)) 124) →
 KS (yk3 s0 i0 n0 n1 n2 i1 i2 i3 i4 I m) (yfM s0 i0 n0 n1 n2 i1 i2 i3 i4 ((IntKind.wrap .i64 (b2 + 1)), b5, b7, (d6 != 0), u1, v4, v0)) f5)) ∧
 (
 ∀ d5, Adv [] [a7] c4 d5 → d5.heap[n1]? = some (.cells (Z5 c7 d0 e7) 124) →
 Calls pP 84 #[.string c7, .int .i64 d0] d5 fun e c8 => ∃ f0 e2 f1 e3 b8 d7, e = .returned (.tuple #[(.agg (Z7 f0 e2 f1 e3)), .int .i64 b8, .int .i64 d7]) ∧ yaR [n1] [(n0, 27), (n2, 27), (a7, 55)] [n0, n2, a7] d5 c8 ∧ ∃ b6 v8 g8, c8.heap[n1]? = some (.cells (Z5 b6 v8 g8) 124) ∧
 ∀ c6, c8.heap.size ≤ c6 →
 brB g8 (
 ∀ f6, Adv [a7, n1] [c6] c8 f6 → f6.heap[n1]? = some (.cells (Z5 b6 b8 true) 124) →
 al f6 (.cells (Z8 c9 f0 e2 f1 e3) 55) fun u6 h4 =>
 ycR pP (Builtin.append_ #[24, 24] 24 #[.slice a4 a6 a5, (.slice (some ⟨u6, 0, none⟩) 1 1)]) h4 fun u2 v5 v1 h5 => yaD [n0, n1, n2, a7, c6] h4 h5 ∧
 ∀ f7, Adv [n2] [] h5 f7 → f7.heap[n1]? = some (.cells (Z5 b6 b8 true) 124) →
 KS (yk3 s0 i0 n0 n1 n2 i1 i2 i3 i4 I m) (yfM s0 i0 n0 n1 n2 i1 i2 i3 i4 ((IntKind.wrap .i64 (b2 + 1)), b6, b8, true, u2, v5, v1)) f7)
 (
 ∀ f8, Adv [a7, n1] [c6] c8 f8 → f8.heap[n1]? = some (.cells (Z5 b6 b8 (d7 != 0)) 124) →
 al f8 (.cells (Z8 c9 f0 e2 f1 e3) 55) fun u7 h6 =>
 ycR pP (Builtin.append_ #[24, 24] 24 #[.slice a4 a6 a5, (.slice (some ⟨u7, 0, none⟩) 1 1)]) h6 fun u3 v6 v2 h7 => yaD [n0, n1, n2, a7, c6] h6 h7 ∧
 ∀ f9, Adv [n2] [] h7 f9 → f9.heap[n1]? = some (.cells (Z5 b6 b8 (d7 != 0)) 124) →
 KS (yk3 s0 i0 n0 n1 n2 i1 i2 i3 i4 I m) (yfM s0 i0 n0 n1 n2 i1 i2 i3 i4 ((IntKind.wrap .i64 (b2 + 1)), b6, b8, (d7 != 0), u3, v6, v2)) f9))))
 (
 Calls pP 83 #[(.pointer (some ⟨n1, 0, none⟩))] w fun e g0 => ∃ h8, e = .returned (.int .i64 h8) ∧ yaR [n1] [(n0, 27), (n2, 27)] [n0, n2] w g0 ∧ ∃ g6 h9 e4, g0.heap[n1]? = some (.cells (Z5 g6 h9 e4) 124) ∧
 yaK ygL (yk2 389 [0, 0, 1, 0, 1, 1, 1, 1, 1, 1, 1, 1, 1]) (ym4 [1, 1, 1, 1, 1, 1, 1, 1, 1, 0, 1, 0] [] R) (yfN s0 h8 n0 n1 n2 i1 i2 i3 i4 a4 a6 a5 (0, g6, h9, e4, none, 0, 0)) g0))
 (
 Calls pP 83 #[(.pointer (some ⟨n1, 0, none⟩))] w fun e d1 => ∃ g1, e = .returned (.int .i64 g1) ∧ yaR [n1] [(n0, 27), (n2, 27)] [n0, n2] w d1 ∧ ∃ d8 g2 e5, d1.heap[n1]? = some (.cells (Z5 d8 g2 e5) 124) ∧
 yaK ygL (yk2 389 [0, 0, 1, 0, 1, 1, 1, 1, 1, 1, 1, 1, 1]) (ym4 [1, 1, 1, 1, 1, 1, 1, 1, 1, 0, 1, 0] [] R) (yfN s0 g1 n0 n1 n2 i1 i2 i3 i4 a4 a6 a5 (0, d8, g2, e5, none, 0, 0)) d1))
 (
 Calls pP 83 #[(.pointer (some ⟨n1, 0, none⟩))] w fun e d2 => ∃ g3, e = .returned (.int .i64 g3) ∧ yaR [n1] [(n0, 27), (n2, 27)] [n0, n2] w d2 ∧ ∃ d9 g4 e6, d2.heap[n1]? = some (.cells (Z5 d9 g4 e6) 124) ∧
 yaK ygL (yk2 389 [0, 0, 1, 0, 1, 1, 1, 1, 1, 1, 1, 1, 1]) (ym4 [1, 1, 1, 1, 1, 1, 1, 1, 1, 0, 1, 0] [] R) (yfN s0 g3 n0 n1 n2 i1 i2 i3 i4 a4 a6 a5 (0, d9, g4, e6, none, 0, 0)) d2)) :
 yaK ypT (yk2 391 [0, 0, 1, 0, 1, 1, 1, 1, 1, 1, 1]) (ym4 [1, 1, 1, 1, 1, 1, 1, 0, 1, 0] [] R) (yfM s0 i0 n0 n1 n2 i1 i2 i3 i4 (i5, s1, i6, B0, q0, n3, n4)) w0 :=
 lrule (yfM s0 i0 n0 n1 n2 i1 i2 i3 i4) (U7 I) h0 (by rintro m ⟨b2, b1, b3, a9, a4, a6, a5⟩ w h; exact ⟨by kernel_rfl, by kernel_rfl, fun js => Eq.mpr (by kernel_rfl) (hr m b2 b1 b3 a9 a4 a6 a5 w h)⟩)
abbrev yCr (a8 : BA) (a7 : Int) (bm0 bm1 bm2 : Nat) (a3 a4 a5 a6 : Int) (a0 : OA) (a2 a1 : Nat) (I : Nat → Int → ByteArray → Int → Bool → Option Addr → Nat → Nat → World → Prop) (m : Nat) : Kh := KG (yfN a8 a7 bm0 bm1 bm2 a3 a4 a5 a6 a0 a2 a1) (U7 I) m
theorem yyA {I : Nat → Int → ByteArray → Int → Bool → Option Addr → Nat → Nat → World → Prop} (m' : Nat) (h1 : m' < m) (h2 : I m' i5 s1 i6 B0 q1 n5 n6 w) : KS (yCr s0 i0 n0 n1 n2 i1 i2 i3 i4 q0 n3 n4 I m) (yfN s0 i0 n0 n1 n2 i1 i2 i3 i4 q0 n3 n4 (i5, s1, i6, B0, q1, n5, n6)) w := ⟨m', h1, _, rfl, rfl, h2⟩
theorem yyB (I : Nat → Int → ByteArray → Int → Bool → Option Addr → Nat → Nat → World → Prop) (m0 : Nat) (h0 : I m0 i5 s1 i6 B0 q1 n5 n6 w0)
 (hr : ∀ m c0 b1 b2 b0 a1 a5 a3 w, I m c0 b1 b2 b0 a1 a5 a3 w →
 w.heap[n1]? = some (.cells (Z5 b1 b2 b0) 124) →
 brB (decide (c0 < i0)) (
 brB (!b0) (
 brB (decide (c0 < 65)) (
 Calls pP 85 #[(.pointer (some ⟨n1, 0, none⟩))] w fun e d7 => ∃ f6, e = .returned (.string f6) ∧ yaR [n1] [(n0, 27), (n2, 27)] [n0, n2] w d7 ∧ ∃ f7 g4 g1, d7.heap[n1]? = some (.cells (Z5 f7 g4 g1) 124) ∧
 ∀ b3, d7.heap.size ≤ b3 →
 ∀ d8, Adv [] [b3] d7 d8 → d8.heap[n1]? = some (.cells (Z5 f7 g4 g1) 124) →
 Calls pP 83 #[(.pointer (some ⟨n1, 0, none⟩))] d8 fun e e0 => ∃ g5, e = .returned (.int .i64 g5) ∧ yaR [n1] [(n0, 27), (n2, 27), (b3, 43)] [n0, n2, b3] d8 e0 ∧ ∃ d5 d9 d6, e0.heap[n1]? = some (.cells (Z5 d5 d9 d6) 124) ∧
 ∀ e1, Adv [b3] [] e0 e1 → e1.heap[n1]? = some (.cells (Z5 d5 d9 d6) 124) →
 al e1 (.cells #[.string f6, .int .i64 g5] 43) fun h1 g2 =>
 ycR pP (Builtin.append_ #[25, 25] 25 #[.slice a1 a5 a3, (.slice (some ⟨h1, 0, none⟩) 1 1)]) g2 fun g9 h3 h2 g3 => yaD [n0, n1, n2, b3] g2 g3 ∧
 ∀ e2, Adv [n2] [] g3 e2 → e2.heap[n1]? = some (.cells (Z5 d5 d9 d6) 124) →
 KS (yCr s0 i0 n0 n1 n2 i1 i2 i3 i4 q0 n3 n4 I m) (yfN s0 i0 n0 n1 n2 i1 i2 i3 i4 q0 n3 n4 ((IntKind.wrap .i64 (c0 + 1)), d5, d9, d6, g9, h3, h2)) e2)
 (
 Calls pP 33 #[(.agg (Z3 i1 i2 i3 i4 q0 n3 n4 a1 a5 a3))] w fun e b7 => ∃ f8 g6, e = .returned (.tuple #[.string f8, .int .i64 g6]) ∧ yaR [n1] [(n0, 27), (n2, 27)] [n0, n2] w b7 ∧ ∃ c1 c5 b4, b7.heap[n1]? = some (.cells (Z5 c1 c5 b4) 124) ∧
 brB b4 (
 ∀ e3, Adv [n0] [] b7 e3 → e3.heap[n1]? = some (.cells (Z5 c1 c5 b4) 124) →
 R (.tuple #[(.agg (Z3 0 0 0 0 none 0 0 none 0 0)), .int .i64 40]) e3)
 (
 brB (g6 != 0) (
 ∀ e4, Adv [n0] [] b7 e4 → e4.heap[n1]? = some (.cells (Z5 c1 c5 b4) 124) →
 R (.tuple #[(.agg (Z3 0 0 0 0 none 0 0 none 0 0)), .int .i64 40]) e4)
 (
 brB (!(f8.toList == s0.toList)) (
 ∀ e5, Adv [n0] [] b7 e5 → e5.heap[n1]? = some (.cells (Z5 c1 c5 b4) 124) →
 R (.tuple #[(.agg (Z3 0 0 0 0 none 0 0 none 0 0)), .int .i64 40]) e5)
 (
 ∀ e6, Adv [n0] [] b7 e6 → e6.heap[n1]? = some (.cells (Z5 c1 c5 b4) 124) →
 R (.tuple #[(.agg (Z3 i1 i2 i3 i4 q0 n3 n4 a1 a5 a3)), .int .i64 0]) e6)))))
 (
 Calls pP 33 #[(.agg (Z3 i1 i2 i3 i4 q0 n3 n4 a1 a5 a3))] w fun e b8 => ∃ f9 g7, e = .returned (.tuple #[.string f9, .int .i64 g7]) ∧ yaR [n1] [(n0, 27), (n2, 27)] [n0, n2] w b8 ∧ ∃ c2 c6 b5, b8.heap[n1]? = some (.cells (Z5 c2 c6 b5) 124) ∧
 brB b5 (
 ∀ e7, Adv [n0] [] b8 e7 → e7.heap[n1]? = some (.cells (Z5 c2 c6 b5) 124) →
 R (.tuple #[(.agg (Z3 0 0 0 0 none 0 0 none 0 0)), .int .i64 40]) e7)
 (
 brB (g7 != 0) (
 ∀ e8, Adv [n0] [] b8 e8 → e8.heap[n1]? = some (.cells (Z5 c2 c6 b5) 124) →
 R (.tuple #[(.agg (Z3 0 0 0 0 none 0 0 none 0 0)), .int .i64 40]) e8)
 (
 brB (!(f9.toList == s0.toList)) (
 ∀ e9, Adv [n0] [] b8 e9 → e9.heap[n1]? = some (.cells (Z5 c2 c6 b5) 124) →
 R (.tuple #[(.agg (Z3 0 0 0 0 none 0 0 none 0 0)), .int .i64 40]) e9)
 (
 ∀ f0, Adv [n0] [] b8 f0 → f0.heap[n1]? = some (.cells (Z5 c2 c6 b5) 124) →
 R (.tuple #[(.agg (Z3 i1 i2 i3 i4 q0 n3 n4 a1 a5 a3)), .int .i64 0]) f0)))))
 (
 Calls pP 33 #[(.agg (Z3 i1 i2 i3 i4 q0 n3 n4 a1 a5 a3))] w fun e b9 => ∃ g0 g8, e = .returned (.tuple #[.string g0, .int .i64 g8]) ∧ yaR [n1] [(n0, 27), (n2, 27)] [n0, n2] w b9 ∧ ∃ c3 c7 b6, b9.heap[n1]? = some (.cells (Z5 c3 c7 b6) 124) ∧
 brB b6 (
 ∀ f1, Adv [n0] [] b9 f1 → f1.heap[n1]? = some (.cells (Z5 c3 c7 b6) 124) →
 R (.tuple #[(.agg (Z3 0 0 0 0 none 0 0 none 0 0)), .int .i64 40]) f1)
 (
 brB (g8 != 0) (
 ∀ f2, Adv [n0] [] b9 f2 → f2.heap[n1]? = some (.cells (Z5 c3 c7 b6) 124) →
 R (.tuple #[(.agg (Z3 0 0 0 0 none 0 0 none 0 0)), .int .i64 40]) f2)
 (
 brB (!(g0.toList == s0.toList)) (
 ∀ f3, Adv [n0] [] b9 f3 → f3.heap[n1]? = some (.cells (Z5 c3 c7 b6) 124) →
 R (.tuple #[(.agg (Z3 0 0 0 0 none 0 0 none 0 0)), .int .i64 40]) f3)
 (
 ∀ f4, Adv [n0] [] b9 f4 → f4.heap[n1]? = some (.cells (Z5 c3 c7 b6) 124) →
 R (.tuple #[(.agg (Z3 i1 i2 i3 i4 q0 n3 n4 a1 a5 a3)), .int .i64 0]) f4))))) :
 yaK ygL (yk2 389 [0, 0, 1, 0, 1, 1, 1, 1, 1, 1, 1, 1, 1]) (ym4 [1, 1, 1, 1, 1, 1, 1, 1, 1, 0, 1, 0] [] R) (yfN s0 i0 n0 n1 n2 i1 i2 i3 i4 q0 n3 n4 (i5, s1, i6, B0, q1, n5, n6)) w0 :=
 lrule (yfN s0 i0 n0 n1 n2 i1 i2 i3 i4 q0 n3 n4) (U7 I) h0 (by rintro m ⟨c0, b1, b2, b0, a1, a5, a3⟩ w h; exact ⟨by kernel_rfl, by kernel_rfl, fun js => Eq.mpr (by kernel_rfl) (hr m c0 b1 b2 b0 a1 a5 a3 w h)⟩)
theorem yGF {a0 : BA} (h :
 ∀ b1, w.heap.size ≤ b1 →
 ∀ b2, w.heap.size ≤ b2 →
 ∀ b3, w.heap.size ≤ b3 →
 ∀ w4, Adv [] [b3, b2, b1] w w4 → w4.heap[b2]? = some (.cells (Z5 a0 0 false) 124) →
 Calls pP 83 #[(.pointer (some ⟨b2, 0, none⟩))] w4 fun e w5 => ∃ x6, e = .returned (.int .i64 x6) ∧ yaR [b2] [(b1, 27), (b3, 27)] [b1, b3] w4 w5 ∧ ∃ s7 x8 t9, w5.heap[b2]? = some (.cells (Z5 s7 x8 t9) 124) ∧
 ∀ a1, Adv [b3] [] w5 a1 → a1.heap[b2]? = some (.cells (Z5 s7 x8 t9) 124) →
 Calls pP 83 #[(.pointer (some ⟨b2, 0, none⟩))] a1 fun e a5 => ∃ c0, e = .returned (.int .i64 c0) ∧ yaR [b2] [(b1, 27), (b3, 27)] [b1, b3] a1 a5 ∧ ∃ a9 c1 b6, a5.heap[b2]? = some (.cells (Z5 a9 c1 b6) 124) ∧
 ∀ a2, Adv [b3] [] a5 a2 → a2.heap[b2]? = some (.cells (Z5 a9 c1 b6) 124) →
 Calls pP 83 #[(.pointer (some ⟨b2, 0, none⟩))] a2 fun e a6 => ∃ c2, e = .returned (.int .i64 c2) ∧ yaR [b2] [(b1, 27), (b3, 27)] [b1, b3] a2 a6 ∧ ∃ b0 c3 b7, a6.heap[b2]? = some (.cells (Z5 b0 c3 b7) 124) ∧
 ∀ a3, Adv [b3] [] a6 a3 → a3.heap[b2]? = some (.cells (Z5 b0 c3 b7) 124) →
 Calls pP 83 #[(.pointer (some ⟨b2, 0, none⟩))] a3 fun e a7 => ∃ c4, e = .returned (.int .i64 c4) ∧ yaR [b2] [(b1, 27), (b3, 27)] [b1, b3] a3 a7 ∧ ∃ b4 c5 b8, a7.heap[b2]? = some (.cells (Z5 b4 c5 b8) 124) ∧
 ∀ a4, Adv [b3] [] a7 a4 → a4.heap[b2]? = some (.cells (Z5 b4 c5 b8) 124) →
 Calls pP 83 #[(.pointer (some ⟨b2, 0, none⟩))] a4 fun e a8 => ∃ c6, e = .returned (.int .i64 c6) ∧ yaR [b2] [(b1, 27), (b3, 27)] [b1, b3] a4 a8 ∧ ∃ b5 c7 b9, a8.heap[b2]? = some (.cells (Z5 b5 c7 b9) 124) ∧
 yaK ypT (yk2 391 [0, 0, 1, 0, 1, 1, 1, 1, 1, 1, 1]) (ym4 [1, 1, 1, 1, 1, 1, 1, 0, 1, 0] [] R) (yfM a0 c6 b1 b2 b3 x6 c0 c2 c4 (0, b5, c7, b9, none, 0, 0)) a8) :
 CR pP 47 #[.string a0] w R :=
 yaA Tryz.wide_mixed (an := ypU) Tryz.func47 rfl rfl (by kernel_rfl) rfl (Eq.mpr (by kernel_rfl) h)
def ypV : LA := ⟨[0, 0, 1, 0, 1, 1, 1], [0, 2, 4, 6, 7, 8, 9], [(2, 0, 0)], 1, []⟩
def ypW : List LA := [ypV]
abbrev yE8 := dnF pP ypW (code Tryz.f18)
abbrev yLm := yaN pP ypW (code Tryz.f18)
abbrev yE9 (p : List Nat) (K : List Kh) (R : VWP) := yaN pP ypW (code Tryz.f18) p K (ya4 pP Tryz.f18 [] R)
def yi0 (a3 a4 : BA) (a5 : Int) (bm0 : Nat) : (Option Addr) × Nat × Nat × Int × Int → List Value × List TB := fun (a0, a2, a1, a6, a7) => ([.string a3, (.pointer (some ⟨bm0, 0, none⟩)), .string a4, .int .i64 a5, .slice a0 a2 a1, .int .i64 a6, .int .i64 a7], [⟨bm0, 29, [.int .i64 0, .int .i64 0, .int .i64 0, .int .i64 0, .int .i64 0, .int .i64 0, .int .i64 0, .int .i64 0, .int .i64 0, .int .i64 0, .slice none 0 0, .int .i64 0, .int .i64 0, .int .i64 0, .int .i64 0, .slice none 0 0, .slice none 0 0], false⟩])
abbrev yCs (a0 a1 : BA) (a2 : Int) (bm0 : Nat) (I : Nat → Option Addr → Nat → Nat → Int → Int → World → Prop) (m : Nat) : Kh := KG (yi0 a0 a1 a2 bm0) (U5 I) m
theorem yyC {I : Nat → Option Addr → Nat → Nat → Int → Int → World → Prop} (m' : Nat) (h1 : m' < m) (h2 : I m' q0 n1 n2 i1 i2 w) : KS (yCs s0 s1 i0 n0 I m) (yi0 s0 s1 i0 n0 (q0, n1, n2, i1, i2)) w := ⟨m', h1, _, rfl, rfl, h2⟩
theorem yyD (I : Nat → Option Addr → Nat → Nat → Int → Int → World → Prop) (m0 : Nat) (h0 : I m0 q0 n1 n2 i1 i2 w0)
 (hr : ∀ m a0 a1 b0 a8 a9 w, I m a0 a1 b0 a8 a9 w →
 brB (decide (a9 < 10)) (
 Calls pP 44 #[.string s1, .int .i64 a8] w fun e w9 => ∃ c9 f1 f2, e = .returned (.tuple #[.int .u64 c9, .int .i64 f1, .int .i64 f2]) ∧ yaD [n0] w w9 ∧
 brB (i0 != 0) (
 ∀ d9, Adv [n0] [] w9 d9 →
 R (.tuple #[(.agg (Z0 0 0 0 0 0 0 0 0 0 0 none 0 0 0 0 0 0 none 0 0 none 0 0)), .int .i64 180]) d9)
 (
 brB (f2 != 0) (
 ∀ e0, Adv [n0] [] w9 e0 →
 R (.tuple #[(.agg (Z0 0 0 0 0 0 0 0 0 0 0 none 0 0 0 0 0 0 none 0 0 none 0 0)), .int .i64 180]) e0)
 (
 brB (decide (c9 > 1099511627776)) (
 ∀ e1, Adv [n0] [] w9 e1 →
 R (.tuple #[(.agg (Z0 0 0 0 0 0 0 0 0 0 0 none 0 0 0 0 0 0 none 0 0 none 0 0)), .int .i64 180]) e1)
 (
 al w9 (.cells #[(.int .i64 (IntKind.wrap .i64 c9))] 3) fun h1 e2 =>
 ycR pP (Builtin.append_ #[76, 76] 76 #[.slice a0 a1 b0, (.slice (some ⟨h1, 0, none⟩) 1 1)]) e2 fun g9 h3 h2 e3 => yaD [n0] e2 e3 ∧
 KS (yCs s0 s1 i0 n0 I m) (yi0 s0 s1 i0 n0 (g9, h3, h2, f1, (IntKind.wrap .i64 (a9 + 1)))) e3))))
 (
 Calls pP 45 (Z2 s1 a8 1048576) w fun e c5 => ∃ d6 f3 f4, e = .returned (.tuple (Z2 d6 f3 f4)) ∧ yaD [n0] w c5 ∧
 Calls pP 45 (Z2 s1 f3 1048576) c5 fun e c6 => ∃ d7 u4 f5, e = .returned (.tuple (Z2 d7 u4 f5)) ∧ yaD [n0] c5 c6 ∧
 Calls pP 46 #[.string d6] c6 fun e c7 => ∃ b2 c1 b7 f6, e = .returned (.tuple #[.slice b2 c1 b7, .int .i64 f6]) ∧ yaD [n0] c6 c7 ∧
 Calls pP 47 #[.string d7] c7 fun e a5 => ∃ d0 d1 d2 d3 b3 c2 b8 b4 c3 b9 f7, e = .returned (.tuple #[(.agg (Z3 d0 d1 d2 d3 b3 c2 b8 b4 c3 b9)), .int .i64 f7]) ∧ yaD [n0] c7 a5 ∧
 ∀ a3, a5.heap.size ≤ a3 →
 brB (f4 != 0) (
 ∀ e4, Adv [n0] [a3] a5 e4 →
 R (.tuple #[(.agg (Z0 0 0 0 0 0 0 0 0 0 0 none 0 0 0 0 0 0 none 0 0 none 0 0)), .int .i64 180]) e4)
 (
 brB (f5 != 0) (
 ∀ e5, Adv [n0] [a3] a5 e5 →
 R (.tuple #[(.agg (Z0 0 0 0 0 0 0 0 0 0 0 none 0 0 0 0 0 0 none 0 0 none 0 0)), .int .i64 180]) e5)
 (
 brB (f6 != 0) (
 ∀ e6, Adv [n0] [a3] a5 e6 →
 R (.tuple #[(.agg (Z0 0 0 0 0 0 0 0 0 0 0 none 0 0 0 0 0 0 none 0 0 none 0 0)), .int .i64 180]) e6)
 (
 brB (f7 != 0) (
 ∀ e7, Adv [n0] [a3] a5 e7 →
 R (.tuple #[(.agg (Z0 0 0 0 0 0 0 0 0 0 0 none 0 0 0 0 0 0 none 0 0 none 0 0)), .int .i64 180]) e7)
 (
 ixA a0 a1 0 1 fun h4 =>
 ∀ a2, Adv [] [a3] a5 a2 →
 yaH .i64 a2 h4 fun f8 =>
 ixA a0 a1 1 1 fun h5 =>
 yaH .i64 a2 h5 fun f9 =>
 ixA a0 a1 2 1 fun h6 =>
 yaH .i64 a2 h6 fun g0 =>
 ixA a0 a1 3 1 fun h7 =>
 yaH .i64 a2 h7 fun g1 =>
 ixA a0 a1 4 1 fun h8 =>
 yaH .i64 a2 h8 fun g2 =>
 ixA a0 a1 5 1 fun h9 =>
 yaH .i64 a2 h9 fun g3 =>
 ixA a0 a1 6 1 fun u0 =>
 yaH .i64 a2 u0 fun g4 =>
 ixA a0 a1 7 1 fun u1 =>
 yaH .i64 a2 u1 fun g5 =>
 ixA a0 a1 8 1 fun u2 =>
 yaH .i64 a2 u2 fun g6 =>
 ixA a0 a1 9 1 fun u3 =>
 yaH .i64 a2 u3 fun g7 =>
 ∀ b6, a2.heap.size ≤ b6 →
 ∀ c8, Adv [] [b6] a2 c8 →
 Calls pP 11 #[(.agg (Z0 f8 f9 g0 g1 g2 g3 g4 g5 g6 g7 b2 c1 b7 d0 d1 d2 d3 b3 c2 b8 b4 c3 b9))] c8 fun e b1 => ∃ d8 g8, e = .returned (.tuple #[.string d8, .int .i64 g8]) ∧ yaD [n0, a3, b6] c8 b1 ∧
 brB (g8 != 0) (
 ∀ e8, Adv [n0] [] b1 e8 →
 R (.tuple #[(.agg (Z0 0 0 0 0 0 0 0 0 0 0 none 0 0 0 0 0 0 none 0 0 none 0 0)), .int .i64 180]) e8)
 (
 brB (!(d8.toList == s0.toList)) (
 ∀ e9, Adv [n0] [] b1 e9 →
 R (.tuple #[(.agg (Z0 0 0 0 0 0 0 0 0 0 0 none 0 0 0 0 0 0 none 0 0 none 0 0)), .int .i64 180]) e9)
 (
 ∀ f0, Adv [n0] [] b1 f0 →
 R (.tuple #[(.agg (Z0 f8 f9 g0 g1 g2 g3 g4 g5 g6 g7 b2 c1 b7 d0 d1 d2 d3 b3 c2 b8 b4 c3 b9)), .int .i64 0]) f0)))))))) :
 yaK ypV (yE8 395 [0, 0, 1, 0, 1, 1, 1]) (yE9 [1, 1, 1, 0, 1, 0] [] R) (yi0 s0 s1 i0 n0 (q0, n1, n2, i1, i2)) w0 :=
 lrule (yi0 s0 s1 i0 n0) (U5 I) h0 (by rintro m ⟨a0, a1, b0, a8, a9⟩ w h; exact ⟨by kernel_rfl, by kernel_rfl, fun js => Eq.mpr (by kernel_rfl) (hr m a0 a1 b0 a8 a9 w h)⟩)
theorem yGG {a0 : BA} (h :
 ∀ b1, w.heap.size ≤ b1 →
 ∀ w2, Adv [] [b1] w w2 →
 Calls pP 43 (Z2 a0 0 1048576) w2 fun e w3 => ∃ s4 x5 x6, e = .returned (.tuple (Z2 s4 x5 x6)) ∧ yaD [b1] w2 w3 ∧
 al w3 (.cells #[] 3) fun b7 w8 =>
 yaK ypV (yE8 395 [0, 0, 1, 0, 1, 1, 1]) (yE9 [1, 1, 1, 0, 1, 0] [] R) (yi0 a0 s4 x6 b1 ((some ⟨b7, 0, none⟩), 0, 0, 0, 0)) w8) :
 CR pP 18 #[.string a0] w R :=
 yaA Tryz.wide_mixed (an := ypW) Tryz.func18 rfl rfl (by kernel_rfl) rfl (Eq.mpr (by kernel_rfl) h)
theorem yGH {a0 : BA} (h :
 slS a0 0 (if 2000 < (a0.size : Int) then 2000 else (a0.size : Int)) fun s1 =>
 Calls pP 17 #[.string s1] w fun e w2 => ∃ x3 x4 x5 x6 x7 x8 x9 c8 c9 d0 a7 b9 b3 d1 d2 d3 d4 a8 c0 b4 a9 c1 b5 d5, e = .returned (.tuple #[(.agg (Z0 x3 x4 x5 x6 x7 x8 x9 c8 c9 d0 a7 b9 b3 d1 d2 d3 d4 a8 c0 b4 a9 c1 b5)), .int .i64 d5]) ∧
 ∀ a1, w2.heap.size ≤ a1 →
 ∀ a4, Adv [] [a1] w2 a4 →
 Calls pP 18 #[.string s1] a4 fun e a5 => ∃ d6 d7 d8 d9 e0 e1 e2 e3 e4 e5 b0 c2 b6 e6 e7 e8 e9 b1 c3 b7 b2 c4 b8 f0, e = .returned (.tuple #[(.agg (Z0 d6 d7 d8 d9 e0 e1 e2 e3 e4 e5 b0 c2 b6 e6 e7 e8 e9 b1 c3 b7 b2 c4 b8)), .int .i64 f0]) ∧ yaD [a1] a4 a5 ∧
 ∀ a3, a5.heap.size ≤ a3 →
 ∀ a6, Adv [] [a3] a5 a6 →
 Calls pP 15 #[(.agg (Z0 x3 x4 x5 x6 x7 x8 x9 c8 c9 d0 a7 b9 b3 d1 d2 d3 d4 a8 c0 b4 a9 c1 b5)), (.agg (Z0 d6 d7 d8 d9 e0 e1 e2 e3 e4 e5 b0 c2 b6 e6 e7 e8 e9 b1 c3 b7 b2 c4 b8))] a6 fun e a2 => ∃ c5, e = .returned (.bool c5) ∧ yaD [a1, a3] a6 a2 ∧
 brB c5 (
 brB (d5 == f0) (
 Calls pP 16 #[] a2 fun e c7 => ∃ c6, e = .returned (.bool c6) ∧ yaD [a1, a3] a2 c7 ∧
 R (.bool c6) c7)
 (
 R (.bool false) a2))
 (
 R (.bool false) a2)) :
 CR pP 4 #[.string a0] w R :=
 yaA Tryz.wide_mixed (an := []) Tryz.func4 rfl rfl (by kernel_rfl) rfl (Eq.mpr (by kernel_rfl) h)
end
def yKN (o : Option (PRec × Nat)) (v : Value) : Prop := ∃ (x : PRec) (b : Nat) (e : Int), v = .tuple #[x.v, .int .i64 (b : Nat), .int .i64 e] ∧ ((e = 0 ∧ o = some (x, b)) ∨ (e ≠ 0 ∧ b = 0 ∧ o = none))
theorem ym5 (s : ByteArray) (a : Nat) (hs : s.size ≤ 1000000000000) (ha : a ≤ s.size) (w : World) :
  Calls pP 113 #[.string s, .int .i64 (a : Nat)] w fun e w' => ∃ v, e = .returned v ∧ yKN (yeI s.data.toList a) v ∧ Mod [] w w' := by
 refine yJD ?_
 intro b1 f1 b2 f2 w3 A3 h3
 have s3 := A3.mod.size
 have l1 := A3.lt b1 (by simp)
 have hne : b1 ≠ b2 := by have := A3.nd; simp at this; exact fun h => this h.symm
 refine (ymO (st := some a) hs ⟨a, 0, h3, ha, rfl⟩).mono ?_
 rintro _ w4 ⟨_, rfl, x, rfl, M4, st, ⟨a4, e4, h4, ha4, he4⟩, q4⟩
 have s4 := M4.size
 refine ⟨_, _, _, _, rfl, yaD.ofE M4 fun k hk hl he => by simp at hk he ⊢; omega, _, _, _, h4, ?_⟩
 have q4 : yeI s.data.toList a = st.map fun a => (x, a) := q4
 intro b12 f12
 have N : ∀ {w'}, Adv [b1] [b12] w4 w' → Mod [] w w' := fun A => (A3.mod.go0 M4 (by simpa using f2)).go0 A.mod (by simpa using f1)
 refine yaB (fun g => ⟨rfl, fun w5 A5 _ => ⟨?_, N A5⟩⟩) fun g => ⟨rfl, fun w5 A5 _ => ⟨?_, N A5⟩⟩
 ·have g : e4 ≠ 0 := by simpa using g
  rw [if_neg g] at he4
  refine ⟨⟨false, ⟨#[]⟩, false, ⟨#[]⟩⟩, 0, e4, rfl, .inr ⟨g, rfl, ?_⟩⟩
  rw [q4, he4]; rfl
 ·have g : e4 = 0 := by simpa using g
  rw [if_pos g] at he4
  refine ⟨x, a4, 0, rfl, .inl ⟨rfl, ?_⟩⟩
  rw [q4, he4]; rfl
theorem yDF {s : ByteArray} {br bp : Nat} {st : Option Nat} {w : World} (hs : s.size ≤ 1000000000000) (h : Rd QT s br st w) (hb : w.heap[bp]? = some (.cells #[.string ⟨#[]⟩, .int .i64 0] 43)) (hne : bp ≠ br) :
  Calls pP 60 #[.iface 149 (.pointer (some ⟨br, 0, none⟩)), .pointer (some ⟨bp, 0, none⟩)] w fun e w' => e = .returned (.tuple #[]) ∧ Rd QT s br (ydK s.data.toList st).1 w' ∧ w'.heap[bp]? = some (.cells (ylO (ydK s.data.toList st).2).toArray 43) ∧ Mod [br, bp] w w' := by
 refine yaP (yEt ?_)
 intro w1 A1
 refine (yn7 hs (h.keep0 A1.mod) (off := 0) (x := ⟨#[]⟩) (A1.mod.keep0 hb) rfl hne).mono ?_
 rintro _ w2 ⟨rfl, h2, hb2, M2⟩
 refine ⟨rfl, ?_⟩
 intro w3 A3
 refine (yb4 hs (h2.keep0 A3.mod) (off := 1) (x := 0) (A3.mod.keep0 hb2) rfl hne).mono ?_
 rintro _ w4 ⟨rfl, h4, hb4, M4⟩
 refine ⟨rfl, rfl, h4, ?_, ?_⟩
 ·rw [hb4]; rfl
 ·refine (((A1.mod.trans M2).trans A3.mod).trans M4).less fun k hk hl => ?_
  simp at hk ⊢; omega
theorem yf8 {w : World} {B : Nat} {f : Sl} {l : List PFound} {y : PFound} {bs : List Nat} {F : Option Addr → Nat → Nat → World → Prop} (hR : Row w B 55 5 yhV f.a f.n f.c l) (hl : l.length ≤ 1000000) (hB : B ≤ w.heap.size) (hbs : ∀ b ∈ bs, b ∉ yjJ f.a)
  (hF : ∀ a' c' w', Row w' B 55 5 yhV a' (f.n + 1) c' (l ++ [y]) → Mod (yjJ f.a) w w' → F a' (f.n + 1) c' w') :
  al w (.cells (yhV y).toArray 55) fun b w1 => ycR pP (Builtin.append_ #[24, 24] 24 #[.slice f.a f.n f.c, .slice (some ⟨b, 0, none⟩) 1 1]) w1 fun a n c w2 => yaD bs w1 w2 ∧ F a n c w2 := by
 refine ydO fun b w1 c1 M1 f1 => ?_
 have s1 := M1.size
 obtain ⟨i0, hi0, hz0, hz1, hz2⟩ := info_parts yHA
 refine ycG (x := y) (hR.keep0 M1) Tryz.underlying24 hi0 hz0 hz1 hz2 rfl (by decide) c1 rfl (yt0 _) (by omega) (by unfold maxLen; omega) (by omega) fun a' c' w8 hR8 hM8 => ?_
 have M8 := hM8 _ (yeC f.a)
 refine ⟨yaD.of M8 fun b hb _ => hbs b hb, hF a' c' w8 hR8 ?_⟩
 exact (M1.trans M8).less fun k hk _ => by simpa using hk
theorem yCt {w : World} {B : Nat} {f : Sl} {l : List PPart} {y : PPart} {bs : List Nat} {F : Option Addr → Nat → Nat → World → Prop} (hR : Row w B 43 2 ylO f.a f.n f.c l) (hl : l.length ≤ 1000000) (hB : B ≤ w.heap.size) (hbs : ∀ b ∈ bs, b ∉ yjJ f.a)
  (hF : ∀ a' c' w', Row w' B 43 2 ylO a' (f.n + 1) c' (l ++ [y]) → Mod (yjJ f.a) w w' → F a' (f.n + 1) c' w') :
  al w (.cells (ylO y).toArray 43) fun b w1 => ycR pP (Builtin.append_ #[25, 25] 25 #[.slice f.a f.n f.c, .slice (some ⟨b, 0, none⟩) 1 1]) w1 fun a n c w2 => yaD bs w1 w2 ∧ F a n c w2 := by
 refine ydO fun b w1 c1 M1 f1 => ?_
 have s1 := M1.size
 obtain ⟨i0, hi0, hz0, hz1, hz2⟩ := info_parts yHB
 refine ycG (x := y) (hR.keep0 M1) Tryz.underlying25 hi0 hz0 hz1 hz2 rfl (by decide) c1 rfl (yt1 _) (by omega) (by unfold maxLen; omega) (by omega) fun a' c' w8 hR8 hM8 => ?_
 have M8 := hM8 _ (yeC f.a)
 refine ⟨yaD.of M8 fun b hb _ => hbs b hb, hF a' c' w8 hR8 ?_⟩
 exact (M1.trans M8).less fun k hk _ => by simpa using hk
theorem yDG {l : List UInt8} {st : Option Nat} {b : Nat} {n : Int} (h : ybT l st 0 = (some b, n)) (x : Int) : ybT l st x = (some b, n) := by
 unfold ybT at *
 split at h
 ·rename_i p hp; simpa [hp] using h
 ·simp at h
theorem yCu {l : List UInt8} {a b : Nat} {x : Int} (h : (ybT l (some a) x).1 = some b) : a < b ∧ b ≤ l.length := by
 unfold ybT at h
 split at h
 ·rename_i p hp
  have := ydZ (n := p.1) (b := p.2) hp
  simp at h; omega
 ·simp at h
end Go.Proofs.YtkbcmppbjfpjmaaGreat
