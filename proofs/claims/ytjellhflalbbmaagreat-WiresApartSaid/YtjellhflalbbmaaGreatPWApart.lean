/- WiresApart, for every input. No conditions. -/
import Derived.Test.YtjellhflalbbmaaGreatPWApartK4
namespace Go.Proofs.YtjellhflalbbmaaGreat
open Go Go.RowKit
set_option linter.all false
theorem yv2 {w : World} {a a' : Option Addr} {n c n' c' : Nat} {l l' : List Int} (h : ycC w 1 yiL a n l) (h' : ycC w 1 yiL a' n' l') (hl : l.length ≤ 1000000) :
  Calls pP 28 #[.slice a n c, .slice a' n' c'] w fun e w' => e = .returned (.bool (decide (l = l'))) ∧ Mod [] w w' := by
 have hn := h.1
 have hn' := h'.1
 refine yaQ (yAH ?_)
 refine yaB (fun g => ?_) fun g => ?_
 ·have : l ≠ l' := fun e => by subst e; simp [hn, hn'] at g
  exact ⟨by rw [decide_eq_false this], Mod.refl _⟩
 have g : n = n' := by
  have g : (n : Int) = n' := by simpa using g
  omega
 refine yrS (fun mm x w' => ∃ k : Nat, x = k ∧ k ≤ l.length ∧ l.take k = l'.take k ∧ Mod [] w w' ∧ mm = l.length - k) l.length ⟨0, rfl, by omega, by simp, Mod.refl _, rfl⟩ ?_
 rintro mm x w1 ⟨k, rfl, hk, ht, M1, rfl⟩
 refine yaC (fun hlt => ?_) fun hge => ?_
 ·obtain ⟨y, hy⟩ : ∃ y, l[k]? = some y := ⟨_, List.getElem?_eq_getElem (by omega)⟩
  obtain ⟨y', hy'⟩ : ∃ y, l'[k]? = some y := ⟨_, List.getElem?_eq_getElem (by omega)⟩
  refine (h.keep0 M1).ix hy fun q hq => yaD (x := y) (by simpa [add_zero] using hq 0 _ rfl) ?_
  refine (h'.keep0 M1).ix hy' fun q hq => yaD (x := y') (by simpa [add_zero] using hq 0 _ rfl) ?_
  refine yaB (fun g => fun w2 A2 => ?_) fun g => fun w2 A2 => ?_
  ·have : l ≠ l' := fun e => by subst e; rw [hy] at hy'; cases hy'; simp at g
   exact ⟨by rw [decide_eq_false this], M1.go0 A2.mod (by simp)⟩
  ·have g : y = y' := by simpa using g
   exact yrR (l.length - (k + 1)) (by omega) ⟨k + 1, by rw [yaG (by omega) (by omega)]; omega, by omega, by rw [List.take_add_one, List.take_add_one, hy, hy', ht, g], M1.go0 A2.mod (by simp), rfl⟩
 ·have : l = l' := by
   rw [List.take_of_length_le (by omega), List.take_of_length_le (by omega)] at ht; exact ht
  exact ⟨by rw [decide_eq_true this], M1⟩
abbrev wmA : PMail := ⟨4, 1, 2, 0, 0, 0, 5, 0, 0, 0, [], ydF⟩
abbrev wmB : PMail := ⟨0, 2, 3, 0, 0, 0, 0, 0, 0, 0, [], ydF⟩
abbrev wmN : PMail := ⟨-1, 0, 0, 0, 0, 0, 0, 0, 0, 0, [], ydF⟩
theorem ylG {m : PMail} (hn : (yaV m).all num = true) (hk : 0 ≤ m.kind ∧ m.kind < 12) (hc : m.calls = []) (hr : m.r = ydF) : ybO m = 0 ∧ (ycL m).size ≤ 900000 := by
 obtain ⟨h1, h2⟩ := yrJ hn hk hc hr
 have := yrK (m := m) (by omega)
 exact ⟨h1, by omega⟩
theorem yv3 {w : World} {b : Nat} {x : Int} (h : w.heap[b]? = some (.cells #[.int .i64 x] 3)) : ycC w 1 yiL (some ⟨b, 0, none⟩) 1 [x] :=
 ⟨rfl, fun i y hy => by
  have hi := (List.getElem?_eq_some_iff.1 hy).1
  have hi : i = 0 := by simp at hi; omega
  subst hi
  simp at hy; subst hy
  refine ⟨_, rfl, fun j v hv => ?_⟩
  have hj : j = 0 := by have := (List.getElem?_eq_some_iff.1 hv).1; simp [yiL] at this; omega
  subst hj
  simp [yiL] at hv; subst hv
  rw [Nat.zero_mul, add_zero, add_zero, yaR h]; rfl⟩
set_option maxHeartbeats 8000000 in
theorem yrX (w : World) : Calls pP 9 #[] w fun e w' => e = .returned (.bool true) ∧ Mod [] w w' := by
 obtain ⟨eA, zA⟩ := ylG (m := wmA) (by decide) (by decide) rfl rfl
 obtain ⟨eB, zB⟩ := ylG (m := wmB) (by decide) (by decide) rfl rfl
 have eN : ybO wmN = 180 := by
  have : yd4 wmN = 180 := by rw [yd4, if_pos (by decide)]
  rw [ybO, if_pos (by rw [this]; decide), this]
 refine yaQ (yAI ?_)
 refine (yoR 2 w).mono ?_
 rintro _ w1 ⟨_, rfl, M1, hv⟩
 rw [if_pos (by decide)] at hv
 obtain ⟨b, bl, ba, rfl, fb, fl, fa, h1⟩ := hv
 refine ⟨_, _, rfl, brF rfl (brF rfl ?_)⟩
 have lb := yaL h1.cells
 have ll := h1.lm.lt
 have la := h1.am.lt
 intro b4 f4 w5 A5
 have s5 := A5.mod.size
 have N5 := M1.go0 A5.mod (by simp)
 have h5 := h1.keep0 A5.mod
 have big : ∀ {x : Nat}, w1.heap.size ≤ x → x ≠ b ∧ x ≠ bl ∧ x ≠ ba := fun h => by omega
 have go1 : ∀ {x x' : World} {S : List Nat}, Mod S x x' → (∀ k ∈ S, k = b ∨ k = bl ∨ k = ba) → Mod [] w x → Mod [] w x' := fun M hS N => N.go0 M fun k hk => by rcases hS k hk with h | h | h <;> omega
 have kp : ∀ {x x' : World} {S bs : List Nat}, Mod S x x' → (∀ k ∈ S, k = b ∨ k = bl ∨ k = ba) → (∀ k ∈ bs, w1.heap.size ≤ k) → yaH bs x x' := fun M hS hb => yaH.of M fun k hk _ hk' => by
  have := hb k hk
  rcases hS k hk' with h | h | h <;> omega
 have sS : ∀ k ∈ [b, bl], k = b ∨ k = bl ∨ k = ba := fun k hk => by simp at hk; omega
 have sL : ∀ k ∈ [bl], k = b ∨ k = bl ∨ k = ba := fun k hk => by simp at hk; omega
 have sA : ∀ k ∈ [ba], k = b ∨ k = bl ∨ k = ba := fun k hk => by simp at hk; omega
 refine (yeV h5 (yf0 w5 wmA rfl rfl) (by simp) (fun _ => zA) (by omega)).mono ?_
 have q1 : yeE 2 [] wmA = 0 := by rw [yeE, if_neg (by simpa using eA)]; rfl
 rw [q1]
 rintro _ w6 ⟨rfl, M6, h6⟩
 simp only [if_true] at h6
 refine ⟨_, _, rfl, kp M6 sS (by simp; omega), ?_⟩
 have N6 := go1 M6 sS N5
 have z6 := M6.size
 refine (yeV h6 (yf0 w6 wmB rfl rfl) (by simp) (fun _ => zB) (by omega)).mono ?_
 have q2 : yeE 2 ([] ++ [(((0 + 1 : Nat) : Int), wmA)]) wmB = 0 := by rw [yeE, if_neg (by simpa using eB)]; rfl
 rw [q2]
 rintro _ w9 ⟨rfl, M9, h9⟩
 simp only [if_true] at h9
 refine ⟨_, _, rfl, kp M9 sS (by simp; omega), ?_⟩
 have N9 := go1 M9 sS N6
 have z9 := M9.size
 refine (yeV h9 (yf0 w9 wmA rfl rfl) (by simp) (fun _ => zA) (by omega)).mono ?_
 have q3 : yeE 2 (([] ++ [(((0 + 1 : Nat) : Int), wmA)]) ++ [(((0 + 1 + 1 : Nat) : Int), wmB)]) wmA = 2 := by rw [yeE, if_neg (by simpa using eA)]; rfl
 rw [q3]
 rintro _ w12 ⟨rfl, M12, h12⟩
 rw [if_neg (by decide), if_neg (by decide)] at h12
 refine ⟨_, _, rfl, kp M12 sS (by simp; omega), ?_⟩
 have N12 := go1 M12 sS N9
 have z12 := M12.size
 have h12 : WiAt w12 b 2 2 bl ba [(1, wmA), (2, wmB)] [] := h12
 refine (yf2 h12 (by unfold r64; omega)).mono ?_
 rintro _ w15 ⟨_, rfl, ⟨s15, f15, p15, rfl, hO15, _⟩, M15⟩
 refine ⟨_, _, _, _, _, _, _, _, _, _, _, _, _, _, _, _, _, _, _, _, _, _, _, _, rfl, yaH.of0 M15, ?_⟩
 intro b40 f40 w41 A41
 have N41 := (N12.go0 M15 (by simp)).go0 A41.mod (by simp)
 have z15 := M15.size
 have z41 := A41.mod.size
 have h41 := (h12.keep0 M15).keep0 A41.mod
 have hO41 := hO15.keep0 A41.mod
 refine (yk5 h41 (x := 2) (y := 1) (by unfold r64; omega) (by unfold r64; omega) true).mono ?_
 rintro _ w42 ⟨rfl, M42, h42⟩
 refine ⟨rfl, kp M42 sA (by simp; omega), ?_⟩
 have N42 := go1 M42 sA N41
 have z42 := M42.size
 have hO42 := hO41.keepB M42 (by simp; omega)
 have h42 : WiAt w42 b 2 2 bl ba [(1, wmA), (2, wmB)] [(1, 2)] := h42
 refine (yk6 h42 (id := 1) (by unfold r64; omega)).mono ?_
 rintro _ w43 ⟨_, rfl, ⟨s43, f43, p43, rfl, _, _⟩, M43, h43⟩
 refine ⟨_, _, _, _, _, _, _, _, _, _, _, _, _, _, _, _, _, _, _, _, _, _, _, _, rfl, kp M43 sL (by simp; omega), ?_⟩
 have N43 := go1 M43 sL N42
 have z43 := M43.size
 have hO43 := hO42.keepB M43 (by simp; omega)
 have h43 : WiAt w43 b 2 2 bl ba [(1, wmA), (2, wmB)] [(1, 2)] := h43
 intro b68 f68 w69 A69
 have z69 := A69.mod.size
 refine (ymQ (h43.keep0 A69.mod)).mono ?_
 rintro _ w70 ⟨a71, n72, c73, rfl, hR70, M70⟩
 refine ⟨_, _, _, rfl, yaH.of0 M70, ?_⟩
 have K70 : Mod [] w43 w70 := A69.mod.go0 M70 (by simp)
 have z70 := M70.size
 have hR70 : Row w70 w69.heap.size 3 1 yiL a71 n72 c73 [2] := hR70
 have h70 := h43.keep0 K70
 have hO70 := hO43.keep0 K70
 have N70 := N43.go0 K70 (by simp)
 refine (yf1 h70 (x := 1) (y := 2) (by unfold r64; omega) (by unfold r64; omega)).mono ?_
 rintro _ w74 ⟨rfl, M74⟩
 refine ⟨_, rfl, yaH.of0 M74, ?_⟩
 have z74 := M74.size
 refine (yk5 (h70.keep0 M74) (x := 1) (y := 2) (by unfold r64; omega) (by unfold r64; omega) false).mono ?_
 rintro _ w76 ⟨rfl, M76, h76⟩
 refine ⟨rfl, kp M76 sA (by simp; omega), ?_⟩
 have N76 := go1 M76 sA (N70.go0 M74 (by simp))
 have z76 := M76.size
 have hO76 := (hO70.keep0 M74).keepB M76 (by simp; omega)
 have hR76 := (hR70.keep0 M74).keep M76 fun ad ha hk => by have := hR70.base ad ha; simp at hk; omega
 have h76 : WiAt w76 b 2 2 bl ba [(1, wmA), (2, wmB)] [] := h76
 refine (yk6 h76 (id := 1) (by unfold r64; omega)).mono ?_
 rintro _ w77 ⟨_, rfl, ⟨s77, f77, p77, rfl, hO77, _⟩, M77, h77⟩
 refine ⟨_, _, _, _, _, _, _, _, _, _, _, _, _, _, _, _, _, _, _, _, _, _, _, _, rfl, kp M77 sL (by simp; omega), ?_⟩
 have z77 := M77.size
 have h77 : WiAt w77 b 2 2 bl ba [(2, wmB)] [] := h77
 intro b102 f102 w103 A103
 have z103 := A103.mod.size
 refine (yk6 (h77.keep0 A103.mod) (id := 1) (by unfold r64; omega)).mono ?_
 rintro _ w104 ⟨_, rfl, ⟨s104, f104, p104, rfl, _, _⟩, M104, h104⟩
 refine ⟨_, _, _, _, _, _, _, _, _, _, _, _, _, _, _, _, _, _, _, _, _, _, _, _, rfl, kp M104 sL (by simp; omega), ?_⟩
 have z104 := M104.size
 have h104 : WiAt w104 b 2 2 bl ba [(2, wmB)] [] := h104
 intro b129 f129 w130 A130
 have z130 := A130.mod.size
 refine (yx2 (h104.keep0 A130.mod) (id := 2) (by unfold r64; omega)).mono ?_
 rintro _ w131 ⟨rfl, M131, h131⟩
 refine ⟨_, rfl, kp M131 sL (by simp; omega), ?_⟩
 have z131 := M131.size
 have h131 : WiAt w131 b 2 2 bl ba [] [] := h131
 have K77 := (((M77.trans A103.mod).trans M104).trans A130.mod).trans M131
 have N131 : Mod [] w w131 := N76.go0 K77 fun k hk => by simp at hk; omega
 refine (yeV h131 (yf0 w131 wmA rfl rfl) (by simp) (fun _ => zA) (by omega)).mono ?_
 rw [q1]
 rintro _ w133 ⟨rfl, M133, h133⟩
 simp only [if_true] at h133
 refine ⟨_, _, rfl, kp M133 sS (by simp; omega), ?_⟩
 have z133 := M133.size
 refine (yeV h133 (yf0 w133 wmN rfl rfl) (by simp) (fun h => by rw [eN] at h; cases h) (by omega)).mono ?_
 have q5 : yeE 2 ([] ++ [(((2 + 1 : Nat) : Int), wmA)]) wmN = 180 := by rw [yeE, if_pos (by rw [eN]; decide), eN]
 rw [q5]
 rintro _ w136 ⟨rfl, M136, h136⟩
 rw [if_neg (by decide), if_neg (by decide)] at h136
 refine ⟨_, _, rfl, kp M136 sS (by simp; omega), ?_⟩
 have z136 := M136.size
 refine (yoR 0 w136).mono ?_
 rintro _ w139 ⟨_, rfl, M139, hv⟩
 rw [if_neg (by decide)] at hv
 subst hv
 refine ⟨_, _, rfl, yaH.of0 M139, ?_⟩
 have z139 := M139.size
 have N139 : Mod [] w w139 := (go1 M136 sS (go1 M133 sS N131)).go0 M139 (by simp)
 have K2 : Mod [b, bl] w131 w139 := ((M133.trans M136).trans M139).less fun k hk _ => by simp at hk ⊢; omega
 have h139 : WiAt w139 b 2 3 bl ba [(3, wmA)] [] := h136.keep0 M139
 have hO1 : MailOwn w139 w12.heap.size wmA s15 f15 p15 := ((hO76.keepB K77 (by simp; omega)).keepB K2 (by simp; omega))
 have hO2 : MailOwn w139 w76.heap.size wmA s77 f77 p77 := ((((hO77.keep0 A103.mod).keepB M104 (by simp; omega)).keep0 A130.mod).keepB M131 (by simp; omega)).keepB K2 (by simp; omega)
 have hR139 : Row w139 w69.heap.size 3 1 yiL a71 n72 c73 [2] := (hR76.keep K77 fun ad ha hk => by have := hR76.base ad ha; simp at hk; omega).keep K2 fun ad ha hk => by have := hR76.base ad ha; simp at hk; omega
 refine brT rfl (brT rfl (brT rfl (brT rfl (brT rfl ?_))))
 refine (ykY (m := wmA) (m' := wmA) hO1.at (yf0 w139 wmA rfl rfl) (by simp)).mono ?_
 rintro _ w142 ⟨rfl, M142⟩
 refine ⟨_, rfl, yaH.of0 M142, brT (by simp) (brT rfl (brT rfl ?_))⟩
 refine yeH fun b144 w145 c145 M145 f145 => ?_
 have N145 := (N139.go0 M142 (by simp)).go0 M145 (by simp)
 refine (yv2 (((hR139.keep0 M142).keep0 M145).sl (fun _ => rfl)) (yv3 c145) (by simp)).mono ?_
 rintro _ w146 ⟨rfl, M146⟩
 have K146 : Mod [] w139 w146 := (M142.go0 M145 (by simp)).go0 M146 (by simp)
 refine ⟨_, rfl, yaH.of0 M146, brT (by simp) (brT rfl ?_)⟩
 refine (ykY (m := wmA) (m' := wmA) (hO2.keep0 K146).at (yf0 w146 wmA rfl rfl) (by simp)).mono ?_
 rintro _ w148 ⟨rfl, M148⟩
 have K148 := K146.go0 M148 (by simp)
 refine ⟨_, rfl, yaH.of0 M148, brT (by simp) (brT rfl (brT rfl (brT rfl (brT rfl (brT rfl (brT rfl (brT rfl ?_)))))))⟩
 refine (yoV (h139.keep0 K148)).mono ?_
 rintro _ w150 ⟨_, rfl, a151, n152, c153, rfl, hR150, M150⟩
 refine ⟨_, _, _, rfl, yaH.of0 M150, ?_⟩
 refine yeH fun b154 w155 c155 M155 f155 => ?_
 have hR150 : Row w150 w148.heap.size 3 1 yiL a151 n152 c153 [3] := hR150
 refine (yv2 ((hR150.keep0 M155).sl (fun _ => rfl)) (yv3 c155) (by simp)).mono ?_
 rintro _ w156 ⟨rfl, M156⟩
 exact ⟨_, rfl, yaH.of0 M156, by simp, (((N139.go0 K148 (by simp)).go0 M150 (by simp)).go0 M155 (by simp)).go0 M156 (by simp)⟩
theorem yDR {w0 w : World} (N : Mod [] w0 w) : Calls pP 9 #[] w fun e w' => ∃ t : Bool, e = .returned (.bool t) ∧ (Value.bool t = .bool true ∧ Mod [] w0 w') := by
 refine (yrX w).mono ?_
 rintro _ w1 ⟨rfl, M1⟩
 exact ⟨_, rfl, rfl, N.go0 M1 (by simp)⟩
def apM (kk : Int) (i : Nat) : PMail := ⟨4, (i / 4 : Nat), (i % 4 : Nat), 0, 0, 0, kk, 0, 0, 0, [], ydF⟩
def apV (kk : Int) (i : Nat) : MV := ⟨apM kk i, ybG, ybG, ybG⟩
def apL (kk : Int) (k : Nat) : PL := (List.range k).map fun i => (((i + 1 : Nat) : Int), apM kk i)
theorem yx8 (kk : Int) (k : Nat) : apL kk (k + 1) = apL kk k ++ [(((k + 1 : Nat) : Int), apM kk k)] := by simp [apL, List.range_succ]
theorem yoW (kk : Int) (k : Nat) : (apL kk k).length = k := by simp [apL]
theorem yAK {kk : Int} {k i : Nat} (h : i < k) : lkp (apL kk k) ((i + 1 : Nat) : Int) = some (apM kk i) := by
 refine yf6 ?_ (List.mem_map.2 ⟨i, List.mem_range.2 h, rfl⟩)
 rw [apL, List.map_map]
 refine List.Pairwise.map _ (fun a b hab => ?_) (List.nodup_range (n := k))
 simp only [Function.comp_apply]
 intro e; exact hab (by omega)
theorem yDS {kk : Int} (h : 0 ≤ kk ∧ kk ≤ 65535) {i : Nat} (hi : i < 16) : ybO (apM kk i) = 0 ∧ (ycL (apM kk i)).size ≤ 900000 := by
 refine ylG ?_ (by show (0 : Int) ≤ 4 ∧ (4 : Int) < 12; omega) rfl rfl
 simp only [yaV, apM, List.all_cons, List.all_nil, num, Bool.and_true, Bool.and_eq_true, decide_eq_true_eq]
 omega
theorem yv4 {a b c d : Int} : prW a b = prW c d ↔ (a = c ∧ b = d) ∨ (a = d ∧ b = c) := by
 unfold prW
 simp only [Prod.mk.injEq]
 constructor
 ·intro ⟨h1, h2⟩; split at h1 <;> split at h1 <;> split at h2 <;> split at h2 <;> omega
 ·rintro (⟨rfl, rfl⟩ | ⟨rfl, rfl⟩)
  ·exact ⟨rfl, rfl⟩
  ·constructor <;> split <;> split <;> omega
theorem yAL {L : PL} : (yAS L []).length = L.length := by
 unfold yAS
 rw [List.length_map, List.filter_eq_self.2]
 intro p _; simp [yqJ]
set_option maxHeartbeats 4000000 in
theorem yrY {a b k : Int} (w : World) :
  Calls pP 5 #[.int .i64 a, .int .i64 b, .int .i64 k] w fun e w' => e = .returned (.bool true) ∧ Mod [] w w' := by
 have rX := ygI (x := a) (m := 3) (by decide) (by decide)
 have rY := ygI (x := b) (m := 3) (by decide) (by decide)
 have rK := ygI (x := k) (m := 65535) (by decide) (by decide)
 refine yaQ (yAJ ?_)
 generalize ygP .i64 a 3 = X at rX ⊢
 generalize ygP .i64 b 3 = Y at rY ⊢
 refine (yoR 64 w).mono ?_
 rintro _ w1 ⟨_, rfl, M1, hv⟩
 rw [if_pos (by decide)] at hv
 obtain ⟨bw, bl, ba, rfl, fb, fl, fa, h1⟩ := hv
 refine ⟨_, _, rfl, brF rfl (brF rfl ?_)⟩
 refine yeH fun b4 w5 c5 M5 f5 => ?_
 have s1 := M1.size
 have s5 := M5.size
 have lb := yaL h1.cells
 have ll := h1.lm.lt
 have la := h1.am.lt
 have sS : ∀ i ∈ [bw, bl], w.heap.size ≤ i := fun i hi => by simp at hi; omega
 have sA : ∀ i ∈ [ba], w.heap.size ≤ i := fun i hi => by simp at hi; omega
 have i64X : r64 X := by unfold r64; omega
 have i64Y : r64 Y := by unfold r64; omega
 obtain ⟨kk, hkk⟩ : ∃ kk, kk = ygP .i64 k 65535 := ⟨_, rfl⟩
 rw [← hkk] at rK
 refine yrU (fun mm a11 n11 c11 x12 w' => ∃ j : Nat, x12 = j ∧ j ≤ 16 ∧ WiAt w' bw 64 j bl ba (apL kk j) [] ∧ Row w' w1.heap.size 37 17 MV.cs a11 n11 c11 ((List.range j).map (apV kk)) ∧ Mod [] w w' ∧ w1.heap.size ≤ w'.heap.size ∧ mm = 16 - j) 16
  ⟨0, rfl, by omega, h1.keep0 M5, Row.fresh0 c5 f5, M1.go0 M5 (by simp), s5, rfl⟩ ?_
 rintro mm a11 n11 c11 x12 w6 ⟨j, rfl, hj, h6, hR6, N6, z6, rfl⟩
 have ed : ∀ {i : Nat}, i < 17 → IntKind.wrap .i64 (Int.tdiv (i : Int) 4) = ((i / 4 : Nat) : Int) := fun {i} hi => by
  rw [Int.tdiv_eq_ediv_of_nonneg (by omega), yaG (by omega) (by omega)]; omega
 have em : ∀ {i : Nat}, Int.tmod (i : Int) 4 = ((i % 4 : Nat) : Int) := fun {i} => by
  rw [Int.tmod_eq_emod_of_nonneg (by omega)]; omega
 refine yaC (fun hlt => ?_) fun hge => ?_
 ·refine ⟨by omega, by omega, ?_⟩
  intro b7 f7 w8 A8
  have z8 := A8.mod.size
  have l7 := A8.lt b7 (by simp)
  have hj16 : j < 16 := by omega
  obtain ⟨e0, z0⟩ := yDS rK hj16
  rw [ed (by omega), em, ← hkk]
  have lb6 := yaL h6.cells
  have ll6 := h6.lm.lt
  refine (yeV (h6.keep0 A8.mod) (yf0 w8 (apM kk j) rfl rfl) (by simp [apM]) (fun _ => z0) (by omega)).mono ?_
  have q : yeE 64 (apL kk j) (apM kk j) = 0 := by rw [yeE, if_neg (by simpa using e0), yoW, if_neg (by omega)]
  rw [q]
  rintro _ w9 ⟨rfl, M9, h9⟩
  simp only [if_true] at h9
  have z9 := M9.size
  have N9 := (N6.go0 A8.mod (by simp)).go0 M9 sS
  refine ⟨_, _, rfl, yaH.of M9 (by simp; omega), ?_⟩
  refine yeH fun b11 w12 c12 M12 f12 => ?_
  have z12 := M12.size
  have hR12 : Row w12 w1.heap.size 37 17 MV.cs a11 n11 c11 ((List.range j).map (apV kk)) := ((hR6.keep0 A8.mod).keep M9 fun ad ha hk => by have := hR6.base ad ha; simp at hk; omega).keep0 M12
  obtain ⟨i0, hi0, hz0, hz1, hz2⟩ := info_parts yxS
  refine ycX (x := apV kk j) hR12 Tryz.underlying30 hi0 hz0 hz1 hz2 rfl (by decide) c12 rfl (MV.cs_one _) (by simp; omega) (by unfold maxLen; simp; omega) (by omega) fun a' c' w13 hR13 hM13 => ?_
  have M13 := hM13 _ (ye9 a11)
  have hrow := ya7 hR12
  have hrow6 := ya7 hR6
  have e1 : IntKind.wrap .i64 ((j : Int) + 1) = ((j + 1 : Nat) : Int) := by rw [yaG (by omega) (by omega)]; omega
  refine ⟨yaH.of M13 fun i hi _ hi' => by have := hrow6 i hi'; simp at hi; omega, brF rfl (brF (by rw [e1]; simp) ?_)⟩
  have hk13 : ∀ {i}, i < w1.heap.size → i ∉ yl3 a11 := fun hi hh => by have := (hrow _ hh).1; omega
  refine yrT (16 - (j + 1)) (by omega) ⟨j + 1, e1, by omega, ?_, ?_, (N9.go0 M12 (by simp)).go0 M13 (fun i hi => by have := (hrow i hi).1; omega), by have := M13.size; omega, rfl⟩
  ·rw [yx8]; exact (h9.keep0 M12).keep M13 (hk13 lb) (hk13 ll) (hk13 la)
  ·rw [List.range_succ, List.map_append]; exact hR13
 ·have hj : j = 16 := by omega
  subst hj
  refine (yk5 h6 i64X i64Y true).mono ?_
  rintro _ w17 ⟨rfl, M17, h17⟩
  have N17 := N6.go0 M17 sA
  have hR17 := hR6.keep M17 fun ad ha hk => by have := hR6.base ad ha; simp at hk; omega
  obtain ⟨A, hA⟩ : ∃ A, A = ye4 [] X Y true := ⟨_, rfl⟩
  rw [← hA] at h17
  have hoff : ∀ p q : Int, yqJ A p q = decide (X ≠ Y ∧ ((p = X ∧ q = Y) ∨ (p = Y ∧ q = X))) := fun p q => by
   unfold yqJ
   rw [hA, ye4]
   by_cases hXY : X = Y
   ·rw [if_neg (by simp [hXY])]; simp [hXY]
   ·rw [if_pos ⟨rfl, hXY⟩]
    simp only [List.erase_nil, List.nil_append, List.mem_singleton, yv4, ne_eq, hXY, not_false_eq_true, true_and]
  refine ⟨rfl, ?_⟩
  refine yrW (fun mm x w' => ∃ i : Nat, x = i ∧ i ≤ 16 ∧ WiAt w' bw 64 16 bl ba (apL kk 16) A ∧ Row w' w1.heap.size 37 17 MV.cs a11 n11 c11 ((List.range 16).map (apV kk)) ∧ Mod [] w w' ∧ mm = 16 - i) 16 ⟨0, rfl, by omega, h17, hR17, N17, rfl⟩ ?_
  rintro mm x w18 ⟨i, rfl, hi, h18, hR18, N18, rfl⟩
  refine yaC (fun hlt => ?_) fun hge => ?_
  ·have hi16 : i < 16 := by omega
   rw [ed (by omega), em]
   have C : ∀ (t : Bool), t = yqJ A ((i / 4 : Nat) : Int) ((i % 4 : Nat) : Int) → ylF (some ⟨bw, 0, none⟩) X Y a11 n11 c11 (i : Int) t (ydJ (some ⟨bw, 0, none⟩) X Y a11 n11 c11 (fun mm x w' => ∃ i : Nat, x = i ∧ i ≤ 16 ∧ WiAt w' bw 64 16 bl ba (apL kk 16) A ∧ Row w' w1.heap.size 37 17 MV.cs a11 n11 c11 ((List.range 16).map (apV kk)) ∧ Mod [] w w' ∧ mm = 16 - i) (16 - i)) (fun v w' => v = .bool true ∧ Mod [] w w') w18 := fun t ht => by
    have e1 : IntKind.wrap .i64 ((i : Int) + 1) = ((i + 1 : Nat) : Int) := by rw [yaG (by omega) (by omega)]; omega
    have hl := yAK (kk := kk) hi16
    have ri : r64 ((i / 4 : Nat) : Int) ∧ r64 ((i % 4 : Nat) : Int) := by unfold r64; omega
    unfold ylF
    rw [e1]
    refine (yf2 h18 (by unfold r64; omega)).mono ?_
    rintro _ w19 ⟨_, rfl, ⟨s19, f19, p19, rfl, hO19, _⟩, M19⟩
    have et : twE (apL kk 16) A ((i + 1 : Nat) : Int) = if t = true then 211 else 0 := by rw [twE, hl, ht]; rfl
    have em' : t = false → twM (apL kk 16) A ((i + 1 : Nat) : Int) = apM kk i := fun h => by rw [twM, hl]; show (if yqJ A _ _ = true then yg3 else apM kk i) = _; rw [if_neg]; show ¬ yqJ A ((i / 4 : Nat) : Int) ((i % 4 : Nat) : Int) = true; rw [← ht, h]; decide
    refine ⟨_, _, _, _, _, _, _, _, _, _, _, _, _, _, _, _, _, _, _, _, _, _, _, _, rfl, ?_⟩
    intro b20 f20
    have N19 := N18.go0 M19 (by simp)
    have h19 := h18.keep0 M19
    have hR19 := hR18.keep0 M19
    have leaf : ∀ {w'}, Mod [] w19 w' → KS (ydJ (some ⟨bw, 0, none⟩) X Y a11 n11 c11 (fun mm x w' => ∃ i : Nat, x = i ∧ i ≤ 16 ∧ WiAt w' bw 64 16 bl ba (apL kk 16) A ∧ Row w' w1.heap.size 37 17 MV.cs a11 n11 c11 ((List.range 16).map (apV kk)) ∧ Mod [] w w' ∧ mm = 16 - i) (16 - i)) (ydH (some ⟨bw, 0, none⟩) X Y a11 n11 c11 ((i + 1 : Nat) : Int)) w' := fun M =>
     yrV (16 - (i + 1)) (by omega) ⟨i + 1, rfl, by omega, h19.keep0 M, hR19.keep0 M, N19.go0 M (by simp), rfl⟩
    cases t with
    | true =>
     refine brT rfl (brF (by rw [et]; rfl) ⟨by omega, by omega, ?_⟩)
     intro w21 A21
     rw [ed (by omega), em]
     refine (yf1 (h19.keep0 A21.mod) ri.1 ri.2).mono ?_
     rintro _ w22 ⟨rfl, M22⟩
     exact ⟨_, rfl, yaH.of0 M22, brF (by rw [← ht]; rfl) (leaf (A21.mod.go0 M22 (by simp)))⟩
    | false =>
     refine brF rfl (brT rfl (brF (by rw [et]; rfl) ?_))
     have hx : ((List.range 16).map (apV kk))[i]? = some (apV kk i) := by rw [List.getElem?_map, List.getElem?_range hi16]; rfl
     refine (hR19.sl MV.cs_len).ixW hx fun q hq => ?_
     intro w21 A21
     have c := hq w21 A21.mod
     have c0 : w21.cell? q = some (.int .i64 (apV kk i).m.kind) := by have := c 0 _ rfl; rwa [add_zero] at this
     refine yaD c0 ?_
     refine yaD (c 1 _ rfl) ?_
     refine yaD (c 2 _ rfl) ?_
     refine yaD (c 3 _ rfl) ?_
     refine yaD (c 4 _ rfl) ?_
     refine yaD (c 5 _ rfl) ?_
     refine yaD (c 6 _ rfl) ?_
     refine yaD (c 7 _ rfl) ?_
     refine yaD (c 8 _ rfl) ?_
     refine yaD (c 9 _ rfl) ?_
     refine ybC (c 10 _ rfl) ?_
     refine yaD (c 11 _ rfl) ?_
     refine yaD (c 12 _ rfl) ?_
     refine yaD (c 13 _ rfl) ?_
     refine yaD (c 14 _ rfl) ?_
     refine ybC (c 15 _ rfl) ?_
     refine ybC (c 16 _ rfl) ?_
     refine (ykY (hO19.keep0 A21.mod).at (yf0 w21 (apM kk i) rfl rfl) (by rw [em' rfl]; simp [apM])).mono ?_
     rintro _ w22 ⟨rfl, M22⟩
     refine ⟨_, rfl, yaH.of0 M22, brF (by rw [em' rfl]; simp) ⟨by omega, by omega, ?_⟩⟩
     rw [ed (by omega), em]
     have K22 := A21.mod.go0 M22 (by simp)
     refine (yf1 (h19.keep0 K22) ri.1 ri.2).mono ?_
     rintro _ w23 ⟨rfl, M23⟩
     exact ⟨_, rfl, yaH.of0 M23, brF (by rw [← ht]; rfl) (leaf (K22.go0 M23 (by simp)))⟩
   have cutx : ∀ (t : Bool), t = yqJ A ((i / 4 : Nat) : Int) ((i % 4 : Nat) : Int) → ye8 ycH ((ydT 389 [1, 0, 0, 1, 0, 0, 1, 0, 1, 1, 1, 1, 1, 1, 1]) (yDQ [1, 1, 1, 1, 1, 1, 1, 0, 1, 0, 0, 1, 0, 0] [(ydJ (some ⟨bw, 0, none⟩) X Y a11 n11 c11 (fun mm x w' => ∃ i : Nat, x = i ∧ i ≤ 16 ∧ WiAt w' bw 64 16 bl ba (apL kk 16) A ∧ Row w' w1.heap.size 37 17 MV.cs a11 n11 c11 ((List.range 16).map (apV kk)) ∧ Mod [] w w' ∧ mm = 16 - i) (16 - i))] (ybJ pP Tryz.f5 [] (fun v w' => v = .bool true ∧ Mod [] w w')))) (ydI (some ⟨bw, 0, none⟩, X, Y, a11, n11, c11, (i : Int), t)) w18 := fun t ht => yx7 (C t ht)
   have ho := hoff ((i / 4 : Nat) : Int) ((i % 4 : Nat) : Int)
   refine yaB (fun g0 => ?_) fun g0 => ?_
   ·have g0 : X ≠ Y := by simpa using g0
    refine ⟨by omega, yaB (fun g1 => ?_) fun g1 => ?_⟩
    ·have g1 : ((i / 4 : Nat) : Int) = X := by simpa using g1
     refine ⟨by omega, yaB (fun g2 => ?_) fun g2 => ?_⟩
     ·have g2 : ((i % 4 : Nat) : Int) = Y := by simpa using g2
      exact cutx true (by rw [ho]; simp only [g1, g2]; simp [g0])
     ·have g2 : ((i % 4 : Nat) : Int) ≠ Y := by simpa using g2
      refine ⟨by omega, yaB (fun g3 => ?_) fun g3 => ?_⟩
      ·have g3 : ((i / 4 : Nat) : Int) = Y := by simpa using g3
       exact absurd (g1.symm.trans g3) g0
      ·have g3 : ((i / 4 : Nat) : Int) ≠ Y := by simpa using g3
       exact cutx false (by rw [ho]; exact (decide_eq_false (by rintro ⟨_, ⟨h1, h2⟩ | ⟨h1, h2⟩⟩; exact g2 h2; exact g3 h1)).symm)
    ·have g1 : ((i / 4 : Nat) : Int) ≠ X := by simpa using g1
     refine ⟨by omega, yaB (fun g3 => ?_) fun g3 => ?_⟩
     ·have g3 : ((i / 4 : Nat) : Int) = Y := by simpa using g3
      refine ⟨by omega, cutx _ ?_⟩
      rw [ho, Bool.eq_iff_iff, beq_iff_eq, decide_eq_true_iff]
      constructor
      ·intro h; exact ⟨g0, .inr ⟨g3, h⟩⟩
      ·rintro ⟨_, ⟨h, _⟩ | ⟨_, h⟩⟩
       ·exact absurd h g1
       ·exact h
     ·have g3 : ((i / 4 : Nat) : Int) ≠ Y := by simpa using g3
      exact cutx false (by rw [ho]; exact (decide_eq_false (by rintro ⟨_, ⟨h1, h2⟩ | ⟨h1, h2⟩⟩; exact g1 h1; exact g3 h1)).symm)
   ·have g0 : X = Y := by simpa using g0
    exact cutx false (by rw [ho]; simp [g0])
  ·have hi : i = 16 := by omega
   subst hi
   refine (yk5 h18 i64Y i64X false).mono ?_
   rintro _ w19 ⟨rfl, M19, h19⟩
   refine ⟨rfl, ?_⟩
   have hA2 : ye4 A Y X false = [] := by
    rw [ye4, if_neg (by simp), hA, ye4]
    by_cases hXY : X = Y
    ·rw [if_neg (by simp [hXY])]; rfl
    ·rw [if_pos ⟨rfl, hXY⟩, show prW Y X = prW X Y from yv4.2 (.inr ⟨rfl, rfl⟩)]; simp
   rw [hA2] at h19
   have N19 := N18.go0 M19 sA
   refine (ymQ h19).mono ?_
   rintro _ w20 ⟨a20, n20, c20, rfl, hR20, M20⟩
   have hn20 : n20 = 16 := by rw [hR20.1, yAL, yoW]
   refine ⟨_, _, _, rfl, brT (by rw [hn20]; rfl) ?_⟩
   refine (yoV (h19.keep0 M20)).mono ?_
   rintro _ w21 ⟨_, rfl, a21, n21, c21, rfl, hR21, M21⟩
   have hn21 : n21 = 16 := by rw [hR21.1, List.length_map, yoW]
   exact ⟨_, _, _, rfl, brT (by rw [hn21]; rfl) (yDR ((N19.go0 M20 (by simp)).go0 M21 (by simp)))⟩
end Go.Proofs.YtjellhflalbbmaaGreat
namespace Go.Proofs.YtjellhflalbbmaaGreat.wiresApart
open Go.ChangeShapes Go.WideShapes Go.ChangeAt Go.RowKit
open Go.ChangeMaps (open_string shut_string)
set_option linter.unusedVariables false
theorem own : ownKnob Tryz.prog.godebug = none := by kernel_rfl
theorem laidOut : laidOutB Tryz.prog = true := by kernel_rfl
set_option maxRecDepth 100000 in
theorem lifted (os : Os) (started : os.Started) (H : Type) (enc : TypeId × Value → H) :
    ReturnsInHanded {} Tryz.checked os 5 .any (Rows.wiresApartSpec.pre6 enc Tryz.prog Tryz.f5 Rows.wiresApartRow.domain false) (Rows.wiresApartSpec.post enc Tryz.prog Tryz.f5 false true false false) := by
  refine returnsInHanded_of_change (C := Tryz.checked) own started (by kernel_rfl) Tryz.func5
    (ChangeSpec.witness6 (enc := enc) (C := Tryz.checked) false ⟨#[], #[.int .i64 0, .int .i64 0, .int .i64 0], []⟩ 8 (by kernel_rfl) (by kernel_rfl) (by kernel_rfl) (by kernel_rfl)) ?_
  intro W base args ds gs before hval0 hW hcnd _
  have hval : ∀ (j : Nat) t v, Tryz.f5.params[j]? = some t → args[j]? = some v → Value.okWide Tryz.prog W .any base t v := hval0
  have hW' := hW
  obtain ⟨p, q, hA0, hV, rfl, hfz, hnd⟩ := hW
  have hA : DataW.TrodAll enc Tryz.prog W 0 (fun _ => true) true Tryz.f5.params.toList args.toList ds p := hA0
  rw [Tryz.params5] at hA hval
  obtain ⟨v0, vs0, d0, ds0, p0, q0, hargs, rfl, rfl, h0, r0⟩ := trodAll_cons hA
  obtain ⟨v1, vs1, d1, ds1, p1, q1, rfl, rfl, rfl, h1, r1⟩ := trodAll_cons r0
  obtain ⟨v2, vs2, d2, ds2, p2, q2, rfl, rfl, rfl, h2, r2⟩ := trodAll_cons r1
  obtain ⟨rfl, rfl, rfl⟩ := trodAll_nil r2
  obtain rfl : args = #[v0, v1, v2] := by cases args; simp_all
  obtain ⟨rfl, rfl⟩ := trodVars_none hV
  have k0 := h0
  have lt0 : ∀ x ∈ p0, x.block < W.heap.size := by obtain ⟨m, hm⟩ := k0; exact DataW.trod_lt m _ _ _ hm
  have k1 := h1
  have lt1 : ∀ x ∈ p1, x.block < W.heap.size := by obtain ⟨m, hm⟩ := k1; exact DataW.trod_lt m _ _ _ hm
  have k2 := h2
  have lt2 : ∀ x ∈ p2, x.block < W.heap.size := by obtain ⟨m, hm⟩ := k2; exact DataW.trod_lt m _ _ _ hm
  obtain ⟨a0, rfl, _, _, w0⟩ := open_int Tryz.underlying3 (hval 0 3 v0 rfl rfl) h0
  obtain ⟨a1, rfl, _, _, w1⟩ := open_int Tryz.underlying3 (hval 1 3 v1 rfl rfl) h1
  obtain ⟨a2, rfl, _, _, w2⟩ := open_int Tryz.underlying3 (hval 2 3 v2 rfl rfl) h2
  clear hA0 hval0
  refine (yrY (a := a0) (b := a1) (k := a2) W).mono fun e W' ⟨he, hM⟩ => ?_
  have bel : Below W.heap.size W W' := hM.below (by simp)
  subst he
  exact ⟨_, rfl, _, _, _, [], _, [], hW', trodAll_mk1 (shut_bool Tryz.underlying4 _), (trodAll_cons_mk (Below.trod laidOut (by kernel_rfl) (of_decide_eq_true (by kernel_rfl)) k0 bel lt0) (trodAll_cons_mk (Below.trod laidOut (by kernel_rfl) (of_decide_eq_true (by kernel_rfl)) k1 bel lt1) (trodAll_cons_mk (Below.trod laidOut (by kernel_rfl) (of_decide_eq_true (by kernel_rfl)) k2 bel lt2) trodAll_mk0))), rfl, bel.frame _, fun h => by cases h⟩
theorem over : Rows.wiresApartRow.holds Tryz.pinned (OpenSpec.ofChange Rows.wiresApartSpec) :=
  OpenClaim.holds_of_wide 5 Tryz.f5 rfl rfl rfl rfl rfl rfl rfl ⟨rfl, rfl, rfl, rfl, rfl⟩ rfl rfl rfl rfl rfl (by kernel_rfl) Tryz.func5 (by kernel_rfl)
    (of_decide_eq_true (by kernel_rfl)) (by unfold Func.isWrapper; first | (rw [if_pos (by decide +kernel)]; kernel_rfl) | (rw [if_neg (by decide +kernel)]; exact ⟨rfl, rfl⟩))
    (fun os started H enc _ => lifted os started H enc)
theorem proved : Rows.WiresApartSaid := over
#print axioms proved
end Go.Proofs.YtjellhflalbbmaaGreat.wiresApart
