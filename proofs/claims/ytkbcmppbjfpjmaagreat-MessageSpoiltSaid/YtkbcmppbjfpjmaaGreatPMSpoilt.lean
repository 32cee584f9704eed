/- MessageSpoilt, for every input. No conditions. -/
import Derived.Test.YtkbcmppbjfpjmaaGreatPMSpoiltK4
namespace Go.Proofs.YtkbcmppbjfpjmaaGreat
open Go Go.RowKit
set_option linter.all false
def yIb (o : Option (PRec × Nat)) (v : Value) : Prop := ∃ (x : PRec) (b : Nat) (e : Int), v = .tuple #[x.v, .int .i64 (b : Nat), .int .i64 e] ∧ ((e = 0 ∧ o = some (x, b)) ∨ (e ≠ 0 ∧ b = 0 ∧ o = none))
theorem ylH (s : ByteArray) (a : Nat) (hs : s.size ≤ 1000000000000) (ha : a ≤ s.size) (w : World) :
  Calls pP 113 #[.string s, .int .i64 (a : Nat)] w fun e w' => ∃ v, e = .returned v ∧ yIb (yoX s.data.toList a) v ∧ Mod [] w w' := by
 refine yGN ?_
 intro b1 f1 b2 f2 w3 A3 h3
 have s3 := A3.mod.size
 have l1 := A3.lt b1 (by simp)
 have hne : b1 ≠ b2 := by have := A3.nd; simp at this; exact fun h => this h.symm
 refine (yk6 (st := some a) hs ⟨a, 0, h3, ha, rfl⟩).mono ?_
 rintro _ w4 ⟨_, rfl, x, rfl, M4, st, ⟨a4, e4, h4, ha4, he4⟩, q4⟩
 have s4 := M4.size
 refine ⟨_, _, _, _, rfl, yaI.ofE M4 fun k hk hl he => by simp at hk he ⊢; omega, _, _, _, h4, ?_⟩
 have q4 : yoX s.data.toList a = st.map fun a => (x, a) := q4
 intro b12 f12
 have N : ∀ {w'}, Adv [b1] [b12] w4 w' → Mod [] w w' := fun A => (A3.mod.go0 M4 (by simpa using f2)).go0 A.mod (by simpa using f1)
 refine yaB (fun g => ⟨rfl, fun w5 A5 _ => ⟨?_, N A5⟩⟩) fun g => ⟨rfl, fun w5 A5 _ => ⟨?_, N A5⟩⟩
 ·have g : e4 ≠ 0 := by simpa using g
  rw [if_neg g] at he4
  refine ⟨⟨false, ⟨#[]⟩, false, ⟨#[]⟩⟩, 0, e4, rfl, .inr ⟨g, rfl, ?_⟩⟩
  rw [q4, he4]; rfl
 ·have g : e4 = 0 := by simpa using g
  rw [if_pos g] at he4
  refine ⟨x, a4, 0, rfl, .inl ⟨rfl, ?_⟩⟩
  rw [q4, he4]; rfl
theorem yBs {s : ByteArray} {br bp : Nat} {st : Option Nat} {w : World} (hs : s.size ≤ 1000000000000) (h : Rd QT s br st w) (hb : w.heap[bp]? = some (.cells #[.string ⟨#[]⟩, .int .i64 0] 43)) (hne : bp ≠ br) :
  Calls pP 60 #[.iface 149 (.pointer (some ⟨br, 0, none⟩)), .pointer (some ⟨bp, 0, none⟩)] w fun e w' => e = .returned (.tuple #[]) ∧ Rd QT s br (ycN s.data.toList st).1 w' ∧ w'.heap[bp]? = some (.cells (yiS (ycN s.data.toList st).2).toArray 43) ∧ Mod [br, bp] w w' := by
 refine yaQ (yCi ?_)
 intro w1 A1
 refine (ymJ hs (h.keep0 A1.mod) (off := 0) (x := ⟨#[]⟩) (A1.mod.keep0 hb) rfl hne).mono ?_
 rintro _ w2 ⟨rfl, h2, hb2, M2⟩
 refine ⟨rfl, ?_⟩
 intro w3 A3
 refine (ybN hs (h2.keep0 A3.mod) (off := 1) (x := 0) (A3.mod.keep0 hb2) rfl hne).mono ?_
 rintro _ w4 ⟨rfl, h4, hb4, M4⟩
 refine ⟨rfl, rfl, h4, ?_, ?_⟩
 ·rw [hb4]; rfl
 ·refine (((A1.mod.trans M2).trans A3.mod).trans M4).less fun k hk hl => ?_
  simp at hk ⊢; omega
theorem ynQ {w : World} {B : Nat} {f : Sl} {l : List PFound} {y : PFound} {bs : List Nat} {F : Option Addr → Nat → Nat → World → Prop} (hR : Row w B 55 5 yhL f.a f.n f.c l) (hl : l.length ≤ 1000000) (hB : B ≤ w.heap.size) (hbs : ∀ b ∈ bs, b ∉ yjQ f.a)
  (hF : ∀ a' c' w', Row w' B 55 5 yhL a' (f.n + 1) c' (l ++ [y]) → Mod (yjQ f.a) w w' → F a' (f.n + 1) c' w') :
  al w (.cells (yhL y).toArray 55) fun b w1 => ycP pP (Builtin.append_ #[24, 24] 24 #[.slice f.a f.n f.c, .slice (some ⟨b, 0, none⟩) 1 1]) w1 fun a n c w2 => yaI bs w1 w2 ∧ F a n c w2 := by
 refine ycT fun b w1 c1 M1 f1 => ?_
 have s1 := M1.size
 obtain ⟨i0, hi0, hz0, hz1, hz2⟩ := info_parts yCZ
 refine ybR (x := y) (hR.keep0 M1) Tryz.underlying24 hi0 hz0 hz1 hz2 rfl (by decide) c1 rfl (ymA _) (by omega) (by unfold maxLen; omega) (by omega) fun a' c' w8 hR8 hM8 => ?_
 have M8 := hM8 _ (ycU f.a)
 refine ⟨yaI.of M8 fun b hb _ => hbs b hb, hF a' c' w8 hR8 ?_⟩
 exact (M1.trans M8).less fun k hk _ => by simpa using hk
theorem yD6 {w : World} {B : Nat} {f : Sl} {l : List PPart} {y : PPart} {bs : List Nat} {F : Option Addr → Nat → Nat → World → Prop} (hR : Row w B 43 2 yiS f.a f.n f.c l) (hl : l.length ≤ 1000000) (hB : B ≤ w.heap.size) (hbs : ∀ b ∈ bs, b ∉ yjQ f.a)
  (hF : ∀ a' c' w', Row w' B 43 2 yiS a' (f.n + 1) c' (l ++ [y]) → Mod (yjQ f.a) w w' → F a' (f.n + 1) c' w') :
  al w (.cells (yiS y).toArray 43) fun b w1 => ycP pP (Builtin.append_ #[25, 25] 25 #[.slice f.a f.n f.c, .slice (some ⟨b, 0, none⟩) 1 1]) w1 fun a n c w2 => yaI bs w1 w2 ∧ F a n c w2 := by
 refine ycT fun b w1 c1 M1 f1 => ?_
 have s1 := M1.size
 obtain ⟨i0, hi0, hz0, hz1, hz2⟩ := info_parts yAT
 refine ybR (x := y) (hR.keep0 M1) Tryz.underlying25 hi0 hz0 hz1 hz2 rfl (by decide) c1 rfl (yhY _) (by omega) (by unfold maxLen; omega) (by omega) fun a' c' w8 hR8 hM8 => ?_
 have M8 := hM8 _ (ycU f.a)
 refine ⟨yaI.of M8 fun b hb _ => hbs b hb, hF a' c' w8 hR8 ?_⟩
 exact (M1.trans M8).less fun k hk _ => by simpa using hk
theorem yBt {l : List UInt8} {st : Option Nat} {b : Nat} {n : Int} (h : ybC l st 0 = (some b, n)) (x : Int) : ybC l st x = (some b, n) := by
 unfold ybC at *
 split at h
 ·rename_i p hp; simpa [hp] using h
 ·simp at h
theorem yAg {l : List UInt8} {a b : Nat} {x : Int} (h : (ybC l (some a) x).1 = some b) : a < b ∧ b ≤ l.length := by
 unfold ybC at h
 split at h
 ·rename_i p hp
  have := yfS (n := p.1) (b := p.2) hp
  simp at h; omega
 ·simp at h
structure RPS (w0 w : World) (b0 b1 b2 b3 b4 b5 : Nat) (s : ByteArray) (a e : Int) (x : PRep) (f p : Sl) (ev fv : Int) : Prop where
 hr : w.heap[b1]? = some (.cells #[.string s, .int .i64 a, .int .i64 e] QT)
 hx : w.heap[b2]? = some (.cells #[.int .i64 x.e, .int .i64 x.off, .int .i64 x.n, .int .i64 x.gen, .slice f.a f.n f.c, .slice p.a p.n p.c] 27)
 he : w.heap[b3]? = some (.cells #[.int .i64 ev] 3)
 hn : w.heap[b4]? = some (.cells #[.int .i64 fv] 3)
 fr : Row w w0.heap.size 55 5 yhL f.a f.n f.c x.found
 pr : Row w w0.heap.size 43 2 yiS p.a p.n p.c x.parts
 m : Mod [b1, b2, b3, b4, b5] w0 w
 lt : b0 < w0.heap.size ∧ b1 < w0.heap.size ∧ b2 < w0.heap.size ∧ b3 < w0.heap.size ∧ b4 < w0.heap.size ∧ b5 < w0.heap.size
 nd : [b5, b4, b3, b2, b1, b0].Nodup
 pos : ∃ n : Nat, a = n ∧ n ≤ s.size
def ycH (a e : Int) : Option Nat := if e = 0 then some a.toNat else none
theorem RPS.rd {w0 w : World} {b0 b1 b2 b3 b4 b5 : Nat} {s : ByteArray} {a e : Int} {x : PRep} {f p : Sl} {ev fv : Int} (H : RPS w0 w b0 b1 b2 b3 b4 b5 s a e x f p ev fv) : Rd QT s b1 (ycH a e) w := by
 obtain ⟨n, h1, h2⟩ := H.pos
 have h3 := H.hr
 rw [h1] at h3
 refine ⟨n, e, h3, h2, ?_⟩
 unfold ycH; rw [h1, Int.toNat_natCast]
theorem RPS.go {w0 w w' : World} {b0 b1 b2 b3 b4 b5 : Nat} {s : ByteArray} {a e : Int} {x : PRep} {f p : Sl} {ev fv : Int} {st : Option Nat} (H : RPS w0 w b0 b1 b2 b3 b4 b5 s a e x f p ev fv) (M : Mod [b1] w w') (hr : Rd QT s b1 st w') :
  ∃ a' e', RPS w0 w' b0 b1 b2 b3 b4 b5 s a' e' x f p ev fv ∧ st = ycH a' e' := by
 obtain ⟨n, e', h1, h2, h3⟩ := hr
 have nd := H.nd
 have lt := H.lt
 simp at nd
 refine ⟨n, e', ⟨h1, M.keep H.hx (by simp; omega), M.keep H.he (by simp; omega), M.keep H.hn (by simp; omega), H.fr.keep M fun ad ha hk => ?_, H.pr.keep M fun ad ha hk => ?_, H.m.via M (by simp), H.lt, H.nd, n, rfl, h2⟩, ?_⟩
 ·have := H.fr.base ad ha; simp at hk; omega
 ·have := H.pr.base ad ha; simp at hk; omega
 ·rw [h3]; unfold ycH; rw [Int.toNat_natCast]
theorem RPS.keep0 {w0 w w' : World} {b0 b1 b2 b3 b4 b5 : Nat} {s : ByteArray} {a e : Int} {x : PRep} {f p : Sl} {ev fv : Int} (H : RPS w0 w b0 b1 b2 b3 b4 b5 s a e x f p ev fv) (M : Mod [] w w') : RPS w0 w' b0 b1 b2 b3 b4 b5 s a e x f p ev fv :=
 ⟨M.keep0 H.hr, M.keep0 H.hx, M.keep0 H.he, M.keep0 H.hn, H.fr.keep0 M, H.pr.keep0 M, H.m.via M (by simp), H.lt, H.nd, H.pos⟩
def yD7 (w0 w : World) (s : ByteArray) (v : Value) : Prop :=
 (∃ (x : PRep) (f p : Sl), ye6 s x ∧ v = .tuple #[x.v f p, .int .i64 0] ∧ RepOwn w w0.heap.size x f p) ∨ ((∀ x, ¬ ye6 s x) ∧ v = .tuple #[yeI.v ybM ybM, .int .i64 40])
set_option maxHeartbeats 4000000 in
theorem yHx {wS w0 wX : World} {b0 b1 b2 b3 b4 b5 : Nat} {s : ByteArray} {a e : Int} {x : PRep} {f p : Sl} {ev fv pv : Int} (H : RPS w0 wX b0 b1 b2 b3 b4 b5 s a e x f p ev fv) (h5 : wX.heap[b5]? = some (.cells #[.int .i64 pv] 3))
  (N : Mod [] wS wX) (hb : wS.heap.size ≤ b0) (hl : x.found.length ≤ 1000000 ∧ x.parts.length ≤ 1000000) (hB : wS.heap.size ≤ w0.heap.size) (hsp : ∀ y, ye6 s y → e = 0 ∧ x = y) :
  Calls pP 26 #[(.agg #[.int .i64 x.e, .int .i64 x.off, .int .i64 x.n, .int .i64 x.gen, .slice f.a f.n f.c, .slice p.a p.n p.c])] wX fun e w254 => ∃ (s255 : ByteArray) (x256 : Int), e = .returned (.tuple #[.string s255, .int .i64 x256]) ∧ ya0 [b1, b2, b3, b4, b5] [(b0, 27)] [b0] wX w254 ∧ ∃ (s257 : ByteArray) (x258 x259 : Int), w254.heap[b1]? = some (.cells #[.string s257, .int .i64 x258, .int .i64 x259] 151) ∧ ∃ (x260 x261 x262 x263 : Int) (a264 : Option Addr) (n265 c266 : Nat) (a267 : Option Addr) (n268 c269 : Nat), w254.heap[b2]? = some (.cells #[.int .i64 x260, .int .i64 x261, .int .i64 x262, .int .i64 x263, .slice a264 n265 c266, .slice a267 n268 c269] 27) ∧ ∃ x270 : Int, w254.heap[b3]? = some (.cells #[.int .i64 x270] 3) ∧ ∃ x271 : Int, w254.heap[b4]? = some (.cells #[.int .i64 x271] 3) ∧ ∃ x272 : Int, w254.heap[b5]? = some (.cells #[.int .i64 x272] 3) ∧ brB (x259 != 0) ( ∀ w273, Adv [b0] [] w254 w273 → w273.heap[b1]? = some (.cells #[.string s257, .int .i64 x258, .int .i64 x259] 151) → w273.heap[b2]? = some (.cells #[.int .i64 x260, .int .i64 x261, .int .i64 x262, .int .i64 x263, .slice a264 n265 c266, .slice a267 n268 c269] 27) → w273.heap[b3]? = some (.cells #[.int .i64 x270] 3) → w273.heap[b4]? = some (.cells #[.int .i64 x271] 3) → w273.heap[b5]? = some (.cells #[.int .i64 x272] 3) → (fun v w' => yD7 wS w' s v ∧ Mod [] wS w') (.tuple #[(.agg #[.int .i64 0, .int .i64 0, .int .i64 0, .int .i64 0, .slice none 0 0, .slice none 0 0]), .int .i64 40]) w273) ( brB (x256 != 0) ( ∀ w274, Adv [b0] [] w254 w274 → w274.heap[b1]? = some (.cells #[.string s257, .int .i64 x258, .int .i64 x259] 151) → w274.heap[b2]? = some (.cells #[.int .i64 x260, .int .i64 x261, .int .i64 x262, .int .i64 x263, .slice a264 n265 c266, .slice a267 n268 c269] 27) → w274.heap[b3]? = some (.cells #[.int .i64 x270] 3) → w274.heap[b4]? = some (.cells #[.int .i64 x271] 3) → w274.heap[b5]? = some (.cells #[.int .i64 x272] 3) → (fun v w' => yD7 wS w' s v ∧ Mod [] wS w') (.tuple #[(.agg #[.int .i64 0, .int .i64 0, .int .i64 0, .int .i64 0, .slice none 0 0, .slice none 0 0]), .int .i64 40]) w274) ( brB (!(s255.toList == s.toList)) ( ∀ w275, Adv [b0] [] w254 w275 → w275.heap[b1]? = some (.cells #[.string s257, .int .i64 x258, .int .i64 x259] 151) → w275.heap[b2]? = some (.cells #[.int .i64 x260, .int .i64 x261, .int .i64 x262, .int .i64 x263, .slice a264 n265 c266, .slice a267 n268 c269] 27) → w275.heap[b3]? = some (.cells #[.int .i64 x270] 3) → w275.heap[b4]? = some (.cells #[.int .i64 x271] 3) → w275.heap[b5]? = some (.cells #[.int .i64 x272] 3) → (fun v w' => yD7 wS w' s v ∧ Mod [] wS w') (.tuple #[(.agg #[.int .i64 0, .int .i64 0, .int .i64 0, .int .i64 0, .slice none 0 0, .slice none 0 0]), .int .i64 40]) w275) ( ∀ w276, Adv [b0] [] w254 w276 → w276.heap[b1]? = some (.cells #[.string s257, .int .i64 x258, .int .i64 x259] 151) → w276.heap[b2]? = some (.cells #[.int .i64 x260, .int .i64 x261, .int .i64 x262, .int .i64 x263, .slice a264 n265 c266, .slice a267 n268 c269] 27) → w276.heap[b3]? = some (.cells #[.int .i64 x270] 3) → w276.heap[b4]? = some (.cells #[.int .i64 x271] 3) → w276.heap[b5]? = some (.cells #[.int .i64 x272] 3) → (fun v w' => yD7 wS w' s v ∧ Mod [] wS w') (.tuple #[(.agg #[.int .i64 x260, .int .i64 x261, .int .i64 x262, .int .i64 x263, .slice a264 n265 c266, .slice a267 n268 c269]), .int .i64 0]) w276))) := by
 have hA : RepOwn wX w0.heap.size x f p := ⟨H.fr, H.pr, hl.1, hl.2⟩
 refine (ysM hA.at).mono ?_
 rintro _ w1 ⟨rfl, M1⟩
 have H1 := H.keep0 M1
 have lt := H.lt
 refine ⟨_, _, rfl, yaI.of0 M1, _, _, _, H1.hr, _, _, _, _, _, _, _, _, _, _, H1.hx, _, H1.he, _, H1.hn, _, M1.keep0 h5, ?_⟩
 have no : ∀ {w'}, Adv [b0] [] w1 w' → (∀ y, ¬ ye6 s y) → yD7 wS w' s (.tuple #[yeI.v ybM ybM, .int .i64 40]) ∧ Mod [] wS w' := fun {w'} A h => ⟨.inr ⟨h, rfl⟩, (N.go0 M1 (by simp)).go0 A.mod (by simpa using hb)⟩
 refine yaB (fun g => fun w2 A2 _ _ _ _ _ => no A2 fun y hy => ?_) fun g => ?_
 ·have := (hsp y hy).1; simp [this] at g
 refine yaB (fun g2 => fun w2 A2 _ _ _ _ _ => no A2 fun y hy => ?_) fun g2 => ?_
 ·have := (hsp y hy).2; subst this; simp [hy.1] at g2
 have g2 : yfA x = 0 := by simpa using g2
 rw [if_pos g2, yf6]
 refine yaB (fun g3 => fun w2 A2 _ _ _ _ _ => no A2 fun y hy => ?_) fun g3 => fun w2 A2 _ _ _ _ _ => ?_
 ·have := (hsp y hy).2; subst this; simp [hy.eq] at g3
 ·have g3 : bs (ydB x) = s := by simpa using g3
  exact ⟨.inl ⟨x, f, p, ye6.of g2 g3.symm, rfl, ((hA.keep0 M1).keepB A2.mod (by simpa using lt.1)).rebase hB⟩, (N.go0 M1 (by simp)).go0 A2.mod (by simpa using hb)⟩
set_option maxHeartbeats 4000000 in
theorem yHy {wS w0 wX : World} {b0 b1 b2 b3 b4 b5 : Nat} {s : ByteArray} {a e : Int} {x : PRep} {f : Sl} {ev fv : Int} (H : RPS w0 wX b0 b1 b2 b3 b4 b5 s a e x f ybM ev fv) (h5 : wX.heap[b5]? = some (.cells #[.int .i64 0] 3)) (hp0 : x.parts = [])
  (N : Mod [] wS w0) (hb : wS.heap.size ≤ b0 ∧ wS.heap.size ≤ b1 ∧ wS.heap.size ≤ b2 ∧ wS.heap.size ≤ b3 ∧ wS.heap.size ≤ b4 ∧ wS.heap.size ≤ b5) (hs : s.size ≤ 900000) (hl : x.found.length ≤ 1000000)
  (hsp : ∀ y, ye6 s y → e = 0 ∧ a = (ycV y y.found.length).length ∧ x = ⟨y.e, y.off, y.n, y.gen, y.found, []⟩) :
  Calls pP 112 #[(.pointer (some ⟨b1, 0, none⟩)), (.pointer (some ⟨b5, 0, none⟩))] wX fun e w278 => e = .returned (.tuple #[]) ∧ ya0 [b1, b2, b3, b4, b5] [(b0, 27)] [b0] wX w278 ∧ ∃ (s279 : ByteArray) (x280 x281 : Int), w278.heap[b1]? = some (.cells #[.string s279, .int .i64 x280, .int .i64 x281] 151) ∧ ∃ (x282 x283 x284 x285 : Int) (a286 : Option Addr) (n287 c288 : Nat) (a289 : Option Addr) (n290 c291 : Nat), w278.heap[b2]? = some (.cells #[.int .i64 x282, .int .i64 x283, .int .i64 x284, .int .i64 x285, .slice a286 n287 c288, .slice a289 n290 c291] 27) ∧ ∃ x292 : Int, w278.heap[b3]? = some (.cells #[.int .i64 x292] 3) ∧ ∃ x293 : Int, w278.heap[b4]? = some (.cells #[.int .i64 x293] 3) ∧ ∃ x294 : Int, w278.heap[b5]? = some (.cells #[.int .i64 x294] 3) ∧ yaL ygJ (yhJ 390 [0, 0, 1, 0, 1, 1, 1, 1, 1, 1, 1, 1]) (yHw [1, 1, 1, 1, 1, 1, 1, 1, 0, 1, 0] [] (ya4 pP Tryz.f81 [] (fun v w' => yD7 wS w' s v ∧ Mod [] wS w'))) (yeY s b0 b1 b2 b3 b4 b5 (0, s279, x280, x281, x282, x283, x284, x285, a286, n287, c288, a289, n290, c291, x292, x293, x294)) w278 := by
 have sB := N.size
 have nd := H.nd
 simp at nd
 have lt := H.lt
 have hss : s.data.toList.length = s.size := by simp
 refine (ybN (by omega) H.rd (off := 0) (x := 0) h5 rfl (by omega)).mono ?_
 rintro _ w1 ⟨rfl, hr1, hb1, M1⟩
 obtain ⟨pv, hpv⟩ : ∃ pv, pv = (ybC s.data.toList (ycH a e) 0).2 := ⟨_, rfl⟩
 have hb1 : w1.heap[b5]? = some (.cells #[.int .i64 pv] 3) := by rw [hb1, hpv]; rfl
 obtain ⟨a1, e1, H1, hst1⟩ : ∃ a1 e1, RPS w0 w1 b0 b1 b2 b3 b4 b5 s a1 e1 x f ybM ev fv ∧ (ybC s.data.toList (ycH a e) 0).1 = ycH a1 e1 := by
  obtain ⟨n, e', h1, h2, h3⟩ := hr1
  refine ⟨n, e', ⟨h1, M1.keep H.hx (by simp; omega), M1.keep H.he (by simp; omega), M1.keep H.hn (by simp; omega), H.fr.keep M1 fun ad ha hk => ?_, by rw [hp0]; exact Row.nil .., H.m.via M1 (by simp), H.lt, H.nd, n, rfl, h2⟩, ?_⟩
  ·have := H.fr.base ad ha; simp at hk; omega
  ·rw [h3]; unfold ycH; rw [Int.toNat_natCast]
 refine ⟨rfl, yaI.ofE M1 fun k hk hl he => by simp at hk he ⊢; omega, _, _, _, H1.hr, _, _, _, _, _, _, _, _, _, _, H1.hx, _, H1.he, _, H1.hn, _, hb1, ?_⟩
 have hsp1 : ∀ y, ye6 s y → e1 = 0 ∧ a1 = (yeN y 0).length ∧ x = ⟨y.e, y.off, y.n, y.gen, y.found, []⟩ ∧ pv = y.parts.length := fun y hy => by
  obtain ⟨h1, h2, h3⟩ := hsp y hy
  have h4 := hy.np
  have h5 : ycH a e = some (ycV y y.found.length).length := by unfold ycH; rw [if_pos h1, h2, Int.toNat_natCast]
  rw [h5, h4] at hst1 hpv
  obtain ⟨n, hn1, hn2⟩ := H1.pos
  unfold ycH at hst1
  by_cases he : e1 = 0
  ·rw [if_pos he] at hst1
   simp only [Option.some.injEq] at hst1
   exact ⟨he, by omega, h3, hpv⟩
  ·rw [if_neg he] at hst1; cases hst1
 obtain ⟨ve, voff, vn, vgen, lf, lp⟩ := x
 have hp0 : lp = [] := hp0
 subst hp0
 refine yu6 (fun mm x16 s1 a e y0 y1 y2 y3 fa fn fc pa pn pc ev' fv' pv' w' => ∃ (i : Nat) (l : List PPart), x16 = i ∧ l.length = i ∧ i ≤ s.size + 1 ∧ (e = 0 → (i : Int) ≤ a) ∧ s1 = s ∧ y0 = ve ∧ y1 = voff ∧ y2 = vn ∧ y3 = vgen ∧ fa = f.a ∧ fn = f.n ∧ fc = f.c ∧ ev' = ev ∧ fv' = fv ∧ pv' = pv ∧ RPS w0 w' b0 b1 b2 b3 b4 b5 s a e ⟨ve, voff, vn, vgen, lf, l⟩ f ⟨pa, pn, pc⟩ ev fv ∧
  (∀ y, ye6 s y → e = 0 ∧ a = (yeN y i).length ∧ l = y.parts.take i) ∧ mm = pv.toNat - i) pv.toNat
  ⟨0, [], rfl, rfl, by omega, fun h => by obtain ⟨n, h1, _⟩ := H1.pos; omega, rfl, rfl, rfl, rfl, rfl, rfl, rfl, rfl, rfl, rfl, rfl, H1, fun y hy => ⟨(hsp1 y hy).1, (hsp1 y hy).2.1, by simp⟩, by omega⟩ ?_
 rintro mm x16 s1 a2 e2 y0 y1 y2 y3 fa fn fc pa pn pc ev' fv' pv' w2 ⟨i, l, rfl, hli, his, hia, rfl, rfl, rfl, rfl, rfl, rfl, rfl, rfl, rfl, rfl, rfl, H2, hsp2, rfl⟩ _ _ _ _ h52
 have N2 : Mod [] wS w2 := (N.go0 H2.m (by simp; omega))
 have s2 := H2.m.size
 have ek : IntKind.wrap .i64 ((i : Int) + 1) = ((i + 1 : Nat) : Int) := by rw [yaG (by omega) (by omega)]; omega
 have fin : (∀ y, ye6 s1 y → l = y.parts) → _ := fun hd => yHx (a := a2) (pv := pv') H2 h52 N2 hb.1 ⟨hl, by show l.length ≤ _; omega⟩ sB fun y hy => ⟨(hsp2 y hy).1, by rw [hd y hy]; obtain ⟨h1, h2, h3, h4⟩ := hsp1 y hy; cases h3; rfl⟩
 refine yaC (fun hlt => ?_) fun hge => fin fun y hy => ?_
 rotate_left
 ·have h1 := (hsp1 y hy).2.2.2
  have h2 := (hsp2 y hy).2.2
  rw [h2, List.take_of_length_le (by omega)]
 refine yaB (fun g => ?_) fun g => fin fun y hy => ?_
 rotate_left
 ·have := (hsp2 y hy).1; simp [this] at g
 have g : e2 = 0 := by simpa using g
 intro b6 f6 w3 A3 _ _ _ _ _ hp3
 have l6 := A3.lt b6 (by simp)
 have s3 := A3.mod.size
 refine (yBs (by omega) (H2.rd.keep0 A3.mod) hp3 (by omega)).mono ?_
 rintro _ w4 ⟨rfl, hr4, hp4, M4⟩
 have K4 : Mod [b1] w2 w4 := (A3.mod.trans M4).less fun k hk hl => by simp at hk ⊢; omega
 obtain ⟨a4, e4, H4, hst4⟩ := H2.go K4 hr4
 have s4 := M4.size
 generalize hyp : (ycN s1.data.toList (ycH a2 e2)).2 = yp at hp4
 refine ⟨rfl, yaI.ofE M4 fun k hk hl he => by simp at hk he ⊢; omega, _, _, _, H4.hr, _, _, _, _, _, _, _, _, _, _, H4.hx, _, H4.he, _, H4.hn, _, K4.keep h52 (by simp; omega), _, _, hp4, ?_⟩
 have hrow : ∀ k ∈ yjQ pa, w0.heap.size ≤ k ∧ k < w2.heap.size := fun k hk => by
  have := ybD H2.pr k hk; exact ⟨this.1, this.2.1⟩
 refine yD6 (f := ⟨pa, pn, pc⟩) (y := yp) H4.pr (by show l.length ≤ _; omega) (by have := H4.m.size; exact this) (fun b hb' hk => by have := hrow b hk; simp at hb'; omega) fun a' c' w5 hR5 M5 => ?_
 intro w6 A6 hr6 hx6 he6 hn6 h56 _
 have H6 : RPS w0 w6 b0 b1 b2 b3 b4 b5 s1 a4 e4 ⟨y0, y1, y2, y3, lf, l ++ [yp]⟩ f ⟨a', pn + 1, c'⟩ ev' fv' := by
  refine ⟨hr6, hx6, he6, hn6, ?_, hR5.keep A6.mod fun ad ha hk => ?_, (H4.m.via (M5.trans A6.mod) fun k hk hl => ?_), H4.lt, H4.nd, H4.pos⟩
  ·refine (H4.fr.keep M5 fun ad ha hk => ?_).keep A6.mod fun ad ha hk => ?_
   ·obtain ⟨_, cur, hc⟩ := H4.fr.block ad ha
    obtain ⟨_, _, cur2, hc2⟩ := ybD H4.pr _ hk
    rw [hc2] at hc; cases hc
   ·have := H4.fr.base ad ha; simp at hk; omega
  ·have := hR5.base ad ha; simp at hk; omega
  ·rcases List.mem_append.1 hk with hk | hk
   ·have := hrow k hk; omega
   ·simp at hk ⊢; omega
 refine yu5 (pv'.toNat - (i + 1)) (by omega) ⟨i + 1, l ++ [yp], ek, by simp [hli], ?_, fun he => ?_, rfl, rfl, rfl, rfl, rfl, rfl, rfl, rfl, rfl, rfl, rfl, H6, fun y hy => ?_, by omega⟩
 ·have := hia g
  obtain ⟨n, hn1, hn2⟩ := H2.pos
  omega
 ·
  have hst : ycH a4 e4 = some a4.toNat := by unfold ycH; rw [if_pos he]
  obtain ⟨n, hn1, hn2⟩ := H2.pos
  have h2 : ycH a2 e2 = some n := by unfold ycH; rw [if_pos g, hn1, Int.toNat_natCast]
  rw [hst, h2] at hst4
  unfold ycN at hst4
  simp only at hst4
  have := hia g
  cases hq : (yeP s1.data.toList (some n) ⟨#[]⟩).1 with
  | none => rw [hq] at hst4; simp [ybC] at hst4
  | some q =>
   have h5 := yyW hq
   rw [hq] at hst4
   have h6 := yAg hst4
   obtain ⟨n4, hn4, _⟩ := H4.pos
   omega
 ·obtain ⟨h1, h2, h3⟩ := hsp2 y hy
  have h4 := (hsp1 y hy).2.2.2
  obtain ⟨y0', hy0⟩ : ∃ z, y.parts[i]? = some z := ⟨_, List.getElem?_eq_getElem (by omega)⟩
  have h5 := hy.p hy0
  have h6 : ycH a2 e2 = some (yeN y i).length := by unfold ycH; rw [if_pos h1, h2, Int.toNat_natCast]
  rw [h6, h5] at hst4 hyp
  obtain ⟨n4, hn4, _⟩ := H4.pos
  unfold ycH at hst4
  by_cases he : e4 = 0
  ·rw [if_pos he] at hst4
   simp only [Option.some.injEq] at hst4
   refine ⟨he, by omega, ?_⟩
   have hyp : y0' = yp := hyp
   rw [List.take_add_one, hy0, h3, hyp]; rfl
  ·rw [if_neg he] at hst4; cases hst4
theorem RPS.app {w0 w w1 w2 : World} {b0 b1 b2 b3 b4 b5 : Nat} {s : ByteArray} {a e : Int} {x : PRep} {f p : Sl} {ev fv : Int} {y : PFound} {a' : Option Addr} {n' c' : Nat} (H : RPS w0 w b0 b1 b2 b3 b4 b5 s a e x f p ev fv) (hp : p = ybM) (hx0 : x.parts = []) (hR : Row w1 w0.heap.size 55 5 yhL a' n' c' (x.found ++ [y])) (M : Mod (yjQ f.a) w w1) (A : Mod [b2] w1 w2)
  (hr : w2.heap[b1]? = some (.cells #[.string s, .int .i64 a, .int .i64 e] QT)) (hx : w2.heap[b2]? = some (.cells #[.int .i64 x.e, .int .i64 x.off, .int .i64 x.n, .int .i64 x.gen, .slice a' n' c', .slice p.a p.n p.c] 27))
  (he : w2.heap[b3]? = some (.cells #[.int .i64 ev] 3)) (hn : w2.heap[b4]? = some (.cells #[.int .i64 fv] 3)) :
  RPS w0 w2 b0 b1 b2 b3 b4 b5 s a e ⟨x.e, x.off, x.n, x.gen, x.found ++ [y], x.parts⟩ ⟨a', n', c'⟩ p ev fv := by
 have lt := H.lt
 have hrow : ∀ k ∈ yjQ f.a, w0.heap.size ≤ k := fun k hk => (ybD H.fr k hk).1
 refine ⟨hr, hx, he, hn, hR.keep A fun ad ha hk => ?_, by subst hp; rw [hx0]; exact Row.nil .., (H.m.via (M.trans A) fun k hk hl => ?_), H.lt, H.nd, H.pos⟩
 ·have := hR.base ad ha; simp at hk; omega
 ·rcases List.mem_append.1 hk with hk | hk
  ·have := hrow k hk; omega
  ·simp at hk ⊢; omega
set_option maxHeartbeats 8000000 in
theorem yrF {s : ByteArray} (hs : s.size ≤ 900000) (w : World) :
  Calls pP 81 #[.string s] w fun e w' => ∃ v, e = .returned v ∧ yD7 w w' s v ∧ Mod [] w w' := by
 refine yD2 ?_
 intro b0 g0 b1 g1 b2 g2 b3 g3 b4 g4 b5 g5 w7 A7 h2 h3 h4
 have s7 := A7.mod.size
 have nd := A7.nd
 have lt : b0 < w7.heap.size ∧ b1 < w7.heap.size ∧ b2 < w7.heap.size ∧ b3 < w7.heap.size ∧ b4 < w7.heap.size ∧ b5 < w7.heap.size := ⟨A7.lt b0 (by simp), A7.lt b1 (by simp), A7.lt b2 (by simp), A7.lt b3 (by simp), A7.lt b4 (by simp), A7.lt b5 (by simp)⟩
 refine ycT fun b8 w9 c9 M9 f9 => ?_
 intro w10 A10 hr10 hx10 he10 hn10
 have s9 := M9.size
 have s10 := A10.mod.size
 have l8 := yaV c9
 have c10 := A10.mod.keep0 c9
 have N10 : Mod [] w w10 := (A7.mod.go0 M9 (by simp)).go0 A10.mod (by simp)
 have H0 : RPS w10 w10 b0 b1 b2 b3 b4 b5 s 0 0 yeI ybM ybM 0 0 := ⟨hr10, hx10, he10, hn10, Row.nil .., Row.nil .., (Mod.refl _).less (by simp), by omega, nd, 0, rfl, by omega⟩
 refine yu3 (fun mm x28 s1 a e y0 y1 y2 y3 fa fn fc pa pn pc ev fv w' => ∃ k : Nat, x28 = k ∧ k ≤ 5 ∧ s1 = s ∧ y0 = 0 ∧ fa = none ∧ fn = 0 ∧ fc = 0 ∧ pa = none ∧ pn = 0 ∧ pc = 0 ∧ RPS w10 w' b0 b1 b2 b3 b4 b5 s a e ⟨y0, y1, y2, y3, [], []⟩ ybM ybM ev fv ∧
  (∀ x, ye6 s x → e = 0 ∧ a = (yhO x k).length ∧ [ev, y1, y2, y3, fv].take k = (hdI x).take k) ∧ mm = 5 - k) 5
  ⟨0, rfl, by omega, rfl, rfl, rfl, rfl, rfl, rfl, rfl, rfl, H0, fun x _ => ⟨rfl, by simp [yhO], rfl⟩, rfl⟩ ?_
 rintro mm x28 s1 a e y0 y1 y2 y3 fa fn fc pa pn pc ev fv w11 ⟨k, rfl, hk, rfl, rfl, rfl, rfl, rfl, rfl, rfl, rfl, H, hsp, rfl⟩ _ _ _ _
 have nd' := nd
 simp at nd'
 have hss : s1.data.toList.length = s1.size := by simp
 refine yaC (fun hlt => ?_) fun hge => ?_
 ·have hk5 : k < 5 := by omega
  have c11 := H.m.keep c10 (show b8 ∉ [b1, b2, b3, b4, b5] by simp; omega)
  have ek : IntKind.wrap .i64 ((k : Int) + 1) = ((k + 1 : Nat) : Int) := by rw [yaG (by omega) (by omega)]; omega
  have step : ∀ (x0 : Int) (x : PRep), ye6 s1 x → ∃ n, (hdI x)[k]? = some n ∧ ybC s1.data.toList (ycH a e) x0 = (some (yhO x (k + 1)).length, n) := fun x0 x hx => by
   obtain ⟨h1, h2, h3⟩ := hsp x hx
   obtain ⟨n, hn⟩ : ∃ n, (hdI x)[k]? = some n := ⟨_, List.getElem?_eq_getElem (by simpa [hdI] using hk5)⟩
   refine ⟨n, hn, ?_⟩
   have := hx.hd hn
   unfold ycH
   rw [if_pos h1, h2, Int.toNat_natCast]
   exact yBt this x0
  have done : ∀ {st : Option Nat} {v x0 : Int} {n : Nat} {e' z1 z2 z3 ev' fv' : Int}, ybC s1.data.toList (ycH a e) x0 = (st, v) → st = (if e' = 0 then some n else none) → ([ev', z1, z2, z3, fv'].take (k + 1) = [ev, y1, y2, y3, fv].take k ++ [v]) →
    ∀ x, ye6 s1 x → e' = 0 ∧ ((n : Nat) : Int) = (yhO x (k + 1)).length ∧ [ev', z1, z2, z3, fv'].take (k + 1) = (hdI x).take (k + 1) := fun {st v x0 n e' z1 z2 z3 ev' fv'} hv hst ht x hx => by
   obtain ⟨m, hm, hm2⟩ := step x0 x hx
   obtain ⟨_, _, hm3⟩ := hsp x hx
   rw [hv] at hm2
   simp only [Prod.mk.injEq] at hm2
   obtain ⟨e1, e2⟩ := hm2
   rw [e1] at hst
   have he : e' = 0 := by
    by_cases he : e' = 0
    ·exact he
    ·rw [if_neg he] at hst; cases hst
   rw [if_pos he] at hst
   refine ⟨he, by simp only [Option.some.injEq] at hst; omega, ?_⟩
   rw [ht, hm3, e2, List.take_add_one, hm]; rfl
  rcases (by omega : k = 0 ∨ k = 1 ∨ k = 2 ∨ k = 3 ∨ k = 4) with rfl | rfl | rfl | rfl | rfl
  ·refine ⟨_, rfl, by omega, by omega, yeA (x := some ⟨b3, 0, none⟩) (by rw [ya1, yaY c11]; rfl) ?_⟩
   refine (ybN (by omega) H.rd (off := 0) (x := ev) H.he rfl (by omega)).mono ?_
   rintro _ w12 ⟨rfl, hr, hb, M12⟩
   obtain ⟨n, e', h1, h2', h3'⟩ := hr
   have hb : w12.heap[b3]? = some (.cells #[.int .i64 (ybC s1.data.toList (ycH a e) ev).2] 3) := by rw [hb]; rfl
   have H' : RPS w10 w12 b0 b1 b2 b3 b4 b5 s1 n e' ⟨0, y1, y2, y3, [], []⟩ ybM ybM (ybC s1.data.toList (ycH a e) ev).2 fv := ⟨h1, M12.keep H.hx (by simp; omega), hb, M12.keep H.hn (by simp; omega), Row.nil .., Row.nil .., H.m.via M12 (by simp), H.lt, H.nd, n, rfl, h2'⟩
   exact ⟨rfl, yaI.ofE M12 fun k hk hl he => by simp at hk he ⊢; omega, _, _, _, h1, _, _, _, _, _, _, _, _, _, _, H'.hx, _, H'.he, _, H'.hn, yd6 (5 - (0 + 1)) (by omega) ⟨0 + 1, ek, by omega, rfl, rfl, rfl, rfl, rfl, rfl, rfl, rfl, H', done rfl h3' rfl, rfl⟩⟩
  ·refine ⟨_, rfl, by omega, by omega, yeA (x := some ⟨b2, 1, none⟩) (by rw [ya1, yaY c11]; rfl) ?_⟩
   refine (ybN (by omega) H.rd (off := 1) (x := y1) H.hx rfl (by omega)).mono ?_
   rintro _ w12 ⟨rfl, hr, hb, M12⟩
   obtain ⟨n, e', h1, h2', h3'⟩ := hr
   have H' : RPS w10 w12 b0 b1 b2 b3 b4 b5 s1 n e' ⟨0, (ybC s1.data.toList (ycH a e) y1).2, y2, y3, [], []⟩ ybM ybM ev fv := ⟨h1, by rw [hb]; rfl, M12.keep H.he (by simp; omega), M12.keep H.hn (by simp; omega), Row.nil .., Row.nil .., H.m.via M12 (by simp), H.lt, H.nd, n, rfl, h2'⟩
   exact ⟨rfl, yaI.ofE M12 fun k hk hl he => by simp at hk he ⊢; omega, _, _, _, h1, _, _, _, _, _, _, _, _, _, _, H'.hx, _, H'.he, _, H'.hn, yd6 (5 - (1 + 1)) (by omega) ⟨1 + 1, ek, by omega, rfl, rfl, rfl, rfl, rfl, rfl, rfl, rfl, H', done rfl h3' rfl, rfl⟩⟩
  ·refine ⟨_, rfl, by omega, by omega, yeA (x := some ⟨b2, 2, none⟩) (by rw [ya1, yaY c11]; rfl) ?_⟩
   refine (ybN (by omega) H.rd (off := 2) (x := y2) H.hx rfl (by omega)).mono ?_
   rintro _ w12 ⟨rfl, hr, hb, M12⟩
   obtain ⟨n, e', h1, h2', h3'⟩ := hr
   have H' : RPS w10 w12 b0 b1 b2 b3 b4 b5 s1 n e' ⟨0, y1, (ybC s1.data.toList (ycH a e) y2).2, y3, [], []⟩ ybM ybM ev fv := ⟨h1, by rw [hb]; rfl, M12.keep H.he (by simp; omega), M12.keep H.hn (by simp; omega), Row.nil .., Row.nil .., H.m.via M12 (by simp), H.lt, H.nd, n, rfl, h2'⟩
   exact ⟨rfl, yaI.ofE M12 fun k hk hl he => by simp at hk he ⊢; omega, _, _, _, h1, _, _, _, _, _, _, _, _, _, _, H'.hx, _, H'.he, _, H'.hn, yd6 (5 - (2 + 1)) (by omega) ⟨2 + 1, ek, by omega, rfl, rfl, rfl, rfl, rfl, rfl, rfl, rfl, H', done rfl h3' rfl, rfl⟩⟩
  ·refine ⟨_, rfl, by omega, by omega, yeA (x := some ⟨b2, 3, none⟩) (by rw [ya1, yaY c11]; rfl) ?_⟩
   refine (ybN (by omega) H.rd (off := 3) (x := y3) H.hx rfl (by omega)).mono ?_
   rintro _ w12 ⟨rfl, hr, hb, M12⟩
   obtain ⟨n, e', h1, h2', h3'⟩ := hr
   have H' : RPS w10 w12 b0 b1 b2 b3 b4 b5 s1 n e' ⟨0, y1, y2, (ybC s1.data.toList (ycH a e) y3).2, [], []⟩ ybM ybM ev fv := ⟨h1, by rw [hb]; rfl, M12.keep H.he (by simp; omega), M12.keep H.hn (by simp; omega), Row.nil .., Row.nil .., H.m.via M12 (by simp), H.lt, H.nd, n, rfl, h2'⟩
   exact ⟨rfl, yaI.ofE M12 fun k hk hl he => by simp at hk he ⊢; omega, _, _, _, h1, _, _, _, _, _, _, _, _, _, _, H'.hx, _, H'.he, _, H'.hn, yd6 (5 - (3 + 1)) (by omega) ⟨3 + 1, ek, by omega, rfl, rfl, rfl, rfl, rfl, rfl, rfl, rfl, H', done rfl h3' rfl, rfl⟩⟩
  ·refine ⟨_, rfl, by omega, by omega, yeA (x := some ⟨b4, 0, none⟩) (by rw [ya1, yaY c11]; rfl) ?_⟩
   refine (ybN (by omega) H.rd (off := 0) (x := fv) H.hn rfl (by omega)).mono ?_
   rintro _ w12 ⟨rfl, hr, hb, M12⟩
   obtain ⟨n, e', h1, h2', h3'⟩ := hr
   have hb : w12.heap[b4]? = some (.cells #[.int .i64 (ybC s1.data.toList (ycH a e) fv).2] 3) := by rw [hb]; rfl
   have H' : RPS w10 w12 b0 b1 b2 b3 b4 b5 s1 n e' ⟨0, y1, y2, y3, [], []⟩ ybM ybM ev (ybC s1.data.toList (ycH a e) fv).2 := ⟨h1, M12.keep H.hx (by simp; omega), M12.keep H.he (by simp; omega), hb, Row.nil .., Row.nil .., H.m.via M12 (by simp), H.lt, H.nd, n, rfl, h2'⟩
   exact ⟨rfl, yaI.ofE M12 fun k hk hl he => by simp at hk he ⊢; omega, _, _, _, h1, _, _, _, _, _, _, _, _, _, _, H'.hx, _, H'.he, _, H'.hn, yd6 (5 - (4 + 1)) (by omega) ⟨4 + 1, ek, by omega, rfl, rfl, rfl, rfl, rfl, rfl, rfl, rfl, H', done rfl h3' rfl, rfl⟩⟩
 have hk5 : k = 5 := by omega
 subst hk5
 intro w13 A13 hr13 hx13 he13 hn13
 have hb0 : w.heap.size ≤ b0 ∧ w.heap.size ≤ b1 ∧ w.heap.size ≤ b2 ∧ w.heap.size ≤ b3 ∧ w.heap.size ≤ b4 ∧ w.heap.size ≤ b5 := ⟨g0, g1, g2, g3, g4, g5⟩
 have H13 : RPS w10 w13 b0 b1 b2 b3 b4 b5 s1 a e ⟨ev, y1, y2, y3, [], []⟩ ybM ybM ev fv := ⟨hr13, hx13, he13, hn13, Row.nil .., Row.nil .., H.m.via A13.mod (by simp), H.lt, H.nd, H.pos⟩
 have hsp13 : ∀ x, ye6 s1 x → e = 0 ∧ a = (ycV x 0).length ∧ [ev, y1, y2, y3, fv] = hdI x := fun x hx => by
  obtain ⟨h1, h2, h3⟩ := hsp x hx
  rw [yz9] at h2
  exact ⟨h1, h2, by simpa [hdI] using h3⟩
 clear hsp H
 refine yu4 (fun mm x11 s2 a e z0 z1 z2 z3 fa fn fc pa pn pc ev' fv' w' => ∃ (i : Nat) (l : List PFound), x11 = i ∧ l.length = i ∧ i ≤ s1.size + 1 ∧ (e = 0 → (i : Int) ≤ a) ∧ s2 = s1 ∧ z0 = ev ∧ z1 = y1 ∧ z2 = y2 ∧ z3 = y3 ∧ pa = none ∧ pn = 0 ∧ pc = 0 ∧ ev' = ev ∧ fv' = fv ∧ RPS w10 w' b0 b1 b2 b3 b4 b5 s1 a e ⟨ev, y1, y2, y3, l, []⟩ ⟨fa, fn, fc⟩ ybM ev fv ∧
  (∀ x, ye6 s1 x → e = 0 ∧ a = (ycV x i).length ∧ l = x.found.take i) ∧ mm = fv.toNat - i) fv.toNat
  ⟨0, [], rfl, rfl, by omega, fun h => by obtain ⟨n, h1, _⟩ := H13.pos; omega, rfl, rfl, rfl, rfl, rfl, rfl, rfl, rfl, rfl, rfl, H13, fun x hx => ⟨(hsp13 x hx).1, (hsp13 x hx).2.1, by simp⟩, by omega⟩ ?_
 rintro mm x11 s2 a2 e2 z0 z1 z2 z3 fa fn fc pa pn pc ev' fv' w14 ⟨i, l, rfl, hli, his, hia, rfl, rfl, rfl, rfl, rfl, rfl, rfl, rfl, rfl, rfl, H, hsp, rfl⟩ _ _ _ _
 have s14 := H.m.size
 have hd13 : ∀ x, ye6 s2 x → ev' = x.e ∧ z1 = x.off ∧ z2 = x.n ∧ z3 = x.gen ∧ fv' = x.found.length := fun x hx => by
  have := (hsp13 x hx).2.2
  simpa [hdI] using this
 have ek : IntKind.wrap .i64 ((i : Int) + 1) = ((i + 1 : Nat) : Int) := by rw [yaG (by omega) (by omega)]; omega
 have out : ∀ {w15}, Adv [] [] w14 w15 → w15.heap[b5]? = some (.cells #[.int .i64 0] 3) → (∀ x, ye6 s2 x → i = x.found.length) → _ := fun {w15} A15 h5 hd => yHy (wS := w) (wX := w15) (H.keep0 A15.mod) h5 rfl N10 hb0 hs (show l.length ≤ _ by omega) fun x hx => by
  obtain ⟨h1, h2, h3⟩ := hsp x hx
  obtain ⟨q1, q2, q3, q4, q5⟩ := hd13 x hx
  have h4 := hd x hx
  refine ⟨h1, by rw [h2, h4], ?_⟩
  rw [h3, h4, List.take_length, q1, q2, q3, q4]
 refine yaC (fun hlt => ?_) fun hge => ?_
 rotate_left
 ·intro w15 A15 _ _ _ _ h5
  refine out A15 h5 fun x hx => ?_
  obtain ⟨_, _, h3⟩ := hsp x hx
  have := congrArg List.length h3
  have h4 := (hd13 x hx).2.2.2.2
  rw [List.length_take] at this; omega
 refine yaB (fun g => ?_) fun g => ?_
 rotate_left
 ·intro w15 A15 _ _ _ _ h5
  refine out A15 h5 fun x hx => ?_
  have := (hsp x hx).1; simp [this] at g
 have g : e2 = 0 := by simpa using g
 intro b6 f6 w15 A15 _ _ _ _ hf15
 have l6 := A15.lt b6 (by simp)
 have s15 := A15.mod.size
 refine (ybN (by omega) (H.rd.keep0 A15.mod) (off := 0) (x := 0) hf15 rfl (by omega)).mono ?_
 rintro _ w16 ⟨rfl, hr16, hf16, M16⟩
 have s16 := M16.size
 have K16 : Mod [b1] w14 w16 := (A15.mod.trans M16).less fun k hk hl => by simp at hk ⊢; omega
 obtain ⟨a16, e16, H16, hst16⟩ := H.go K16 hr16
 obtain ⟨n16, rfl, hn16⟩ := H16.pos
 obtain ⟨off, hoff⟩ : ∃ off, off = (ybC s2.data.toList (ycH a2 e2) 0).2 := ⟨_, rfl⟩
 have hf16 : w16.heap[b6]? = some (.cells #[.int .i64 off, .bool false, .string ByteArray.empty, .bool false, .string ByteArray.empty] 55) := by rw [hf16, hoff]; rfl
 have hsp16 : ∀ x, ye6 s2 x → ∃ y, x.found[i]? = some y ∧ e16 = 0 ∧ off = y.off ∧ yoX s2.data.toList n16 = some (y.r, (ycV x (i + 1)).length) := fun x hx => by
  obtain ⟨h1, h2, h3⟩ := hsp x hx
  have h4 := (hd13 x hx).2.2.2.2
  obtain ⟨y, hy⟩ : ∃ y, x.found[i]? = some y := ⟨_, List.getElem?_eq_getElem (by omega)⟩
  obtain ⟨h5, h6⟩ := hx.f hy
  have h7 : ycH a2 e2 = some (ycV x i).length := by unfold ycH; rw [if_pos h1, h2, Int.toNat_natCast]
  rw [h7, h5] at hst16 hoff
  unfold ycH at hst16
  by_cases he : e16 = 0
  ·rw [if_pos he, Int.toNat_natCast] at hst16
   simp only [Option.some.injEq] at hst16
   exact ⟨y, hy, he, hoff, by rw [← hst16]; exact h6⟩
  ·rw [if_neg he] at hst16; cases hst16
 have hup16 : e16 = 0 → (i : Int) + 1 ≤ n16 := fun he => by
  have h1 : ycH ((n16 : Nat) : Int) e16 = some n16 := by unfold ycH; rw [if_pos he, Int.toNat_natCast]
  obtain ⟨n2, hn2, hn3⟩ := H.pos
  have h2 : ycH a2 e2 = some n2 := by unfold ycH; rw [if_pos g, hn2, Int.toNat_natCast]
  rw [h1, h2] at hst16
  have h3 := yAg hst16
  have := hia g
  omega
 have hrow : ∀ k ∈ yjQ fa, w10.heap.size ≤ k ∧ k < w14.heap.size := fun k hk => by
  have := ybD H.fr k hk; exact ⟨this.1, this.2.1⟩
 refine ⟨rfl, yaI.ofE M16 fun k hk hl he => by simp at hk he ⊢; omega, _, _, _, H16.hr, _, _, _, _, _, _, _, _, _, _, H16.hx, _, H16.he, _, H16.hn, _, _, _, _, _, hf16, ?_, ?_⟩
 ·intro b9 f9 w17 A17 _ _ _ _ _
  have l9 := A17.lt b9 (by simp)
  have s17 := A17.mod.size
  refine (ylH s2 n16 (by omega) hn16 w17).mono ?_
  rintro _ w18 ⟨_, rfl, ⟨r, to, e18, rfl, hrec⟩, M18⟩
  have s18 := M18.size
  have K18 : Mod [b1] w14 w18 := ((K16.trans A17.mod).trans M18).less (by simp)
  have H18 := (H16.keep0 A17.mod).keep0 M18
  have hf18 := M18.keep0 (A17.mod.keep0 hf16)
  refine ⟨_, _, _, _, _, _, rfl, yaI.of0 M18, _, _, _, H18.hr, _, _, _, _, _, _, _, _, _, _, H18.hx, _, H18.he, _, H18.hn, _, _, _, _, _, hf18, ?_⟩
  intro w19 A19 _ _ _ _ _
  have s19 := A19.mod.size
  have K19 : Mod [b1] w14 w19 := (K18.trans A19.mod).less fun k hk hl => by simp at hk ⊢; omega
  have hf19 := A19.mod.keep hf18 (show b6 ∉ [b9] by simp; omega)
  have hr19 : Rd QT s2 b1 (ycH ((n16 : Nat) : Int) e16) w19 := H18.rd.keep A19.mod (by simp; omega)
  refine (ydD hr19 (to := to) (e1 := e18) (by
   rcases hrec with ⟨_, h⟩ | ⟨_, h, _⟩
   ·have := yi9 h; omega
   ·omega)).mono ?_
  rintro _ w20 ⟨rfl, M20, hr20⟩
  have s20 := M20.size
  have K20 : Mod [b1] w14 w20 := (K19.trans M20).less (by simp)
  have hf20 := M20.keep hf19 (show b6 ∉ [b1] by simp; omega)
  obtain ⟨a20, e20, H20, hst20⟩ := H.go K20 hr20
  refine ⟨_, rfl, yaI.ofE M20 fun k hk hl he => by simp at hk he ⊢; omega, _, _, _, H20.hr, _, _, _, _, _, _, _, _, _, _, H20.hx, _, H20.he, _, H20.hn, _, _, _, _, _, hf20, ?_⟩
  have hc20 : e20 = 0 → e16 = 0 ∧ e18 = 0 ∧ a20 = to ∧ (i : Int) + 1 ≤ a20 := fun he => by
   obtain ⟨n20, hn20, _⟩ := H20.pos
   have h1 : ycH a20 e20 = some n20 := by unfold ycH; rw [if_pos he, hn20, Int.toNat_natCast]
   rw [h1] at hst20
   by_cases hc : (ycH ((n16 : Nat) : Int) e16).isSome = true ∧ e18 = 0
   ·rw [if_pos hc] at hst20
    have h16 : e16 = 0 := by
     by_cases h : e16 = 0
     ·exact h
     ·have := hc.1; unfold ycH at this; rw [if_neg h] at this; cases this
    rcases hrec with ⟨_, h⟩ | ⟨h, _, _⟩
    ·have h2 := yi9 h
     have h3 := hup16 h16
     simp only [Option.some.injEq] at hst20
     exact ⟨h16, hc.2, by omega, by omega⟩
    ·exact absurd hc.2 h
   ·rw [if_neg hc] at hst20; cases hst20
  have hsp20 : ∀ x, ye6 s2 x → e20 = 0 ∧ a20 = (ycV x (i + 1)).length ∧ e16 = 0 ∧ e18 = 0 ∧ l ++ [⟨off, r⟩] = x.found.take (i + 1) := fun x hx => by
   obtain ⟨y, hy, h16, h1, h2⟩ := hsp16 x hx
   rcases hrec with ⟨h3, h4⟩ | ⟨_, _, h4⟩
   ·rw [h2] at h4
    simp only [Option.some.injEq, Prod.mk.injEq] at h4
    have h5 : (ycH ((n16 : Nat) : Int) e16).isSome = true := by unfold ycH; rw [if_pos h16]; rfl
    rw [if_pos ⟨h5, h3⟩] at hst20
    obtain ⟨n20, hn20, _⟩ := H20.pos
    unfold ycH at hst20
    by_cases he : e20 = 0
    ·rw [if_pos he] at hst20
     simp only [Option.some.injEq] at hst20
     refine ⟨he, by omega, h16, h3, ?_⟩
     rw [List.take_add_one, hy, (hsp x hx).2.2, h1, ← h4.1]; rfl
    ·rw [if_neg he] at hst20; cases hst20
   ·rw [h2] at h4; cases h4
  refine yaB (fun gm => ?_) fun gm => ?_
  rotate_left
  ·
   refine ynQ (f := ⟨fa, fn, fc⟩) (y := ⟨off, ⟨false, ByteArray.empty, false, ByteArray.empty⟩⟩) H20.fr (show l.length ≤ _ by omega) H20.m.size (fun b hb' hk => by have := hrow b hk; simp at hb'; omega) fun a' c' w22 hR M22 => ?_
   intro w23 A23 hr hx he hn _
   have H23 := H20.app rfl rfl hR M22 A23.mod hr hx he hn
   refine ye7 (fv'.toNat - (i + 1)) (by omega) ⟨i + 1, l ++ [⟨off, ⟨false, ByteArray.empty, false, ByteArray.empty⟩⟩], ek, by simp [hli], ?_, fun he => (hc20 he).2.2.2, rfl, rfl, rfl, rfl, rfl, rfl, rfl, rfl, rfl, rfl, H23, fun x hx => ?_, by omega⟩
   ·have := hia g
    obtain ⟨n, hn1, hn2⟩ := H.pos
    omega
   ·obtain ⟨_, _, h16, h18, _⟩ := hsp20 x hx
    have : (ycH ((n16 : Nat) : Int) e16).isSome = true := by unfold ycH; rw [if_pos h16]; rfl
    rw [this, h18] at gm; cases gm
  ·intro w21 A21 hr21 hx21 he21 hn21 hf21
   have K21 : Mod [b1] w14 w21 := (K20.trans A21.mod).less fun k hk hl => by simp at hk ⊢; omega
   have s21 := A21.mod.size
   refine ynQ (f := ⟨fa, fn, fc⟩) (y := ⟨off, r⟩) (H.fr.keep K21 fun ad ha hk => by have := H.fr.base ad ha; simp at hk; omega) (show l.length ≤ _ by omega) (by have := H.m.size; omega) (fun b hb' hk => by have := hrow b hk; simp at hb'; omega) fun a' c' w22 hR M22 => ?_
   intro w23 A23 hr hx he hn _
   have H21 : RPS w10 w21 b0 b1 b2 b3 b4 b5 s2 a20 e20 ⟨ev', z1, z2, z3, l, []⟩ ⟨fa, fn, fc⟩ ybM ev' fv' := ⟨hr21, hx21, he21, hn21, H.fr.keep K21 fun ad ha hk => by have := H.fr.base ad ha; simp at hk; omega, Row.nil .., H.m.via K21 (by simp), H.lt, H.nd, H20.pos⟩
   have H23 := H21.app rfl rfl hR M22 A23.mod hr hx he hn
   refine ye7 (fv'.toNat - (i + 1)) (by omega) ⟨i + 1, l ++ [⟨off, r⟩], ek, by simp [hli], ?_, fun he => (hc20 he).2.2.2, rfl, rfl, rfl, rfl, rfl, rfl, rfl, rfl, rfl, rfl, H23, fun x hx => ⟨(hsp20 x hx).1, (hsp20 x hx).2.1, (hsp20 x hx).2.2.2.2⟩, by omega⟩
   have := hia g
   obtain ⟨n, hn1, hn2⟩ := H.pos
   omega
 ·intro w17 A17 _ _ _ _ _
  have s17 := A17.mod.size
  refine (ylH s2 n16 (by omega) hn16 w17).mono ?_
  rintro _ w18 ⟨_, rfl, ⟨r, to, e18, rfl, hrec⟩, M18⟩
  have s18 := M18.size
  have K18 : Mod [b1] w14 w18 := ((K16.trans A17.mod).trans M18).less (by simp)
  have H18 := (H16.keep0 A17.mod).keep0 M18
  have hf18 := M18.keep0 (A17.mod.keep0 hf16)
  refine ⟨_, _, _, _, _, _, rfl, yaI.of0 M18, _, _, _, H18.hr, _, _, _, _, _, _, _, _, _, _, H18.hx, _, H18.he, _, H18.hn, _, _, _, _, _, hf18, ?_⟩
  intro b9 f9 w19 A19 _ _ _ _ _
  have l9 := A19.lt b9 (by simp)
  have s19 := A19.mod.size
  have K19 : Mod [b1] w14 w19 := (K18.trans A19.mod).less fun k hk hl => by simp at hk ⊢; omega
  have hf19 := A19.mod.keep0 hf18
  have hr19 : Rd QT s2 b1 (ycH ((n16 : Nat) : Int) e16) w19 := H18.rd.keep0 A19.mod
  refine (ydD hr19 (to := to) (e1 := e18) (by
   rcases hrec with ⟨_, h⟩ | ⟨_, h, _⟩
   ·have := yi9 h; omega
   ·omega)).mono ?_
  rintro _ w20 ⟨rfl, M20, hr20⟩
  have s20 := M20.size
  have K20 : Mod [b1] w14 w20 := (K19.trans M20).less (by simp)
  have hf20 := M20.keep hf19 (show b6 ∉ [b1] by simp; omega)
  obtain ⟨a20, e20, H20, hst20⟩ := H.go K20 hr20
  refine ⟨_, rfl, yaI.ofE M20 fun k hk hl he => by simp at hk he ⊢; omega, _, _, _, H20.hr, _, _, _, _, _, _, _, _, _, _, H20.hx, _, H20.he, _, H20.hn, _, _, _, _, _, hf20, ?_⟩
  have hc20 : e20 = 0 → e16 = 0 ∧ e18 = 0 ∧ a20 = to ∧ (i : Int) + 1 ≤ a20 := fun he => by
   obtain ⟨n20, hn20, _⟩ := H20.pos
   have h1 : ycH a20 e20 = some n20 := by unfold ycH; rw [if_pos he, hn20, Int.toNat_natCast]
   rw [h1] at hst20
   by_cases hc : (ycH ((n16 : Nat) : Int) e16).isSome = true ∧ e18 = 0
   ·rw [if_pos hc] at hst20
    have h16 : e16 = 0 := by
     by_cases h : e16 = 0
     ·exact h
     ·have := hc.1; unfold ycH at this; rw [if_neg h] at this; cases this
    rcases hrec with ⟨_, h⟩ | ⟨h, _, _⟩
    ·have h2 := yi9 h
     have h3 := hup16 h16
     simp only [Option.some.injEq] at hst20
     exact ⟨h16, hc.2, by omega, by omega⟩
    ·exact absurd hc.2 h
   ·rw [if_neg hc] at hst20; cases hst20
  have hsp20 : ∀ x, ye6 s2 x → e20 = 0 ∧ a20 = (ycV x (i + 1)).length ∧ e16 = 0 ∧ e18 = 0 ∧ l ++ [⟨off, r⟩] = x.found.take (i + 1) := fun x hx => by
   obtain ⟨y, hy, h16, h1, h2⟩ := hsp16 x hx
   rcases hrec with ⟨h3, h4⟩ | ⟨_, _, h4⟩
   ·rw [h2] at h4
    simp only [Option.some.injEq, Prod.mk.injEq] at h4
    have h5 : (ycH ((n16 : Nat) : Int) e16).isSome = true := by unfold ycH; rw [if_pos h16]; rfl
    rw [if_pos ⟨h5, h3⟩] at hst20
    obtain ⟨n20, hn20, _⟩ := H20.pos
    unfold ycH at hst20
    by_cases he : e20 = 0
    ·rw [if_pos he] at hst20
     simp only [Option.some.injEq] at hst20
     refine ⟨he, by omega, h16, h3, ?_⟩
     rw [List.take_add_one, hy, (hsp x hx).2.2, h1, ← h4.1]; rfl
    ·rw [if_neg he] at hst20; cases hst20
   ·rw [h2] at h4; cases h4
  refine yaB (fun gm => ?_) fun gm => ?_
  rotate_left
  ·
   refine ynQ (f := ⟨fa, fn, fc⟩) (y := ⟨off, ⟨false, ByteArray.empty, false, ByteArray.empty⟩⟩) H20.fr (show l.length ≤ _ by omega) H20.m.size (fun b hb' hk => by have := hrow b hk; simp at hb'; omega) fun a' c' w22 hR M22 => ?_
   intro w23 A23 hr hx he hn _
   have H23 := H20.app rfl rfl hR M22 A23.mod hr hx he hn
   refine ye7 (fv'.toNat - (i + 1)) (by omega) ⟨i + 1, l ++ [⟨off, ⟨false, ByteArray.empty, false, ByteArray.empty⟩⟩], ek, by simp [hli], ?_, fun he => (hc20 he).2.2.2, rfl, rfl, rfl, rfl, rfl, rfl, rfl, rfl, rfl, rfl, H23, fun x hx => ?_, by omega⟩
   ·have := hia g
    obtain ⟨n, hn1, hn2⟩ := H.pos
    omega
   ·obtain ⟨_, _, h16, h18, _⟩ := hsp20 x hx
    have : (ycH ((n16 : Nat) : Int) e16).isSome = true := by unfold ycH; rw [if_pos h16]; rfl
    rw [this, h18] at gm; cases gm
  ·intro w21 A21 hr21 hx21 he21 hn21 hf21
   have K21 : Mod [b1] w14 w21 := (K20.trans A21.mod).less fun k hk hl => by simp at hk ⊢; omega
   have s21 := A21.mod.size
   refine ynQ (f := ⟨fa, fn, fc⟩) (y := ⟨off, r⟩) (H.fr.keep K21 fun ad ha hk => by have := H.fr.base ad ha; simp at hk; omega) (show l.length ≤ _ by omega) (by have := H.m.size; omega) (fun b hb' hk => by have := hrow b hk; simp at hb'; omega) fun a' c' w22 hR M22 => ?_
   intro w23 A23 hr hx he hn _
   have H21 : RPS w10 w21 b0 b1 b2 b3 b4 b5 s2 a20 e20 ⟨ev', z1, z2, z3, l, []⟩ ⟨fa, fn, fc⟩ ybM ev' fv' := ⟨hr21, hx21, he21, hn21, H.fr.keep K21 fun ad ha hk => by have := H.fr.base ad ha; simp at hk; omega, Row.nil .., H.m.via K21 (by simp), H.lt, H.nd, H20.pos⟩
   have H23 := H21.app rfl rfl hR M22 A23.mod hr hx he hn
   refine ye7 (fv'.toNat - (i + 1)) (by omega) ⟨i + 1, l ++ [⟨off, r⟩], ek, by simp [hli], ?_, fun he => (hc20 he).2.2.2, rfl, rfl, rfl, rfl, rfl, rfl, rfl, rfl, rfl, rfl, H23, fun x hx => ⟨(hsp20 x hx).1, (hsp20 x hx).2.1, (hsp20 x hx).2.2.2.2⟩, by omega⟩
   have := hia g
   obtain ⟨n, hn1, hn2⟩ := H.pos
   omega
theorem yHz {n : Int} (h : num n = true) : IntKind.wrap .u64 n = ((n.toNat : Nat) : Int) := by
 have := yeV h
 obtain ⟨k, rfl⟩ := Int.eq_ofNat_of_zero_le this.1
 rw [ygC (by omega), Int.toNat_natCast]
theorem yo7 {l : List Int} {k : Nat} {n : Int} (h : l[k]? = some n) : (l.take (k + 1)).flatMap yjK = (l.take k).flatMap yjK ++ yaK n.toNat := ybF h
set_option maxHeartbeats 4000000 in
theorem ynR {w : World} {m : PMail} {s f p : Sl} (h : MailAt w m s f p) (hlc : m.calls.length ≤ 100000) :
  Calls pP 10 #[m.v s f p] w fun e w' => e = .returned (.tuple #[.string (if ybS m = 0 then yb8 m else bs []), .int .i64 (ybS m)]) ∧ Mod [] w w' := by
 refine yaQ (yDW ?_)
 intro b1 f1 w2 A2
 have l1 := A2.lt b1 (by simp)
 refine (yjI ((h.keep0 A2.mod).w hlc)).mono ?_
 rintro _ w3 ⟨rfl, M3⟩
 have s3 := M3.size
 have N3 := A2.mod.go0 M3 (by simp)
 refine ⟨_, rfl, yaI.of0 M3, yaB (fun g => ?_) fun g => ?_⟩
 ·have g : ycG m ≠ 0 := by simpa using g
  have e : ybS m = ycG m := by rw [ybS, if_pos g]
  rw [e, if_neg g]; exact ⟨rfl, N3⟩
 have g : ycG m = 0 := by simpa using g
 obtain ⟨_, hn, ht, hr⟩ := yb7 g
 have hE : ybS m = if (ya9 m).length > 1048576 then 2 else 0 := by rw [ybS, if_neg (by simpa using g)]
 intro b5 f5 w6 A6 h6
 have l5 := A6.lt b5 (by simp)
 refine (yoV b1 w6).mono ?_
 rintro _ w7 ⟨rfl, M7⟩
 refine ⟨_, _, _, _, _, _, _, _, _, _, rfl, yaI.of0 M7, _, _, _, _, _, _, _, _, _, _, _, _, _, _, _, _, _, _, _, _, _, _, _, M7.keep0 h6, ?_⟩
 intro w8 A8 h8 hb8
 have s6 := A6.mod.size
 have s7 := M7.size
 have s8 := A8.mod.size
 have N8 : Mod [] w w8 := ((N3.go0 A6.mod (by simp)).go0 M7 (by simp)).go0 A8.mod (by simp)
 have hB0 : Sb w3.heap.size b5 [] w8 := Sb.fresh f5 hb8
 have hsb : ybW w8 1 (fun x : Int => [.int .i64 x]) (some ⟨b1, 0, none⟩) 10 (yaR m) := ⟨rfl, fun i x hx => ⟨_, rfl, fun j v hv => by
  have hj : j = 0 := by have := (List.getElem?_eq_some_iff.1 hv).1; simp at this; omega
  subst hj
  simp at hv; subst hv
  have := yd0 (s := s) (f := f) (p := p) h8 hx
  simpa [ya1, add_zero] using this⟩⟩
 refine yu0 (fun mm x19 k0 k1 k2 k3 k4 k5 k6 k7 k8 k9 sa sn sc r0 r1 r2 r3 fa fn fc pa pn pc p1 a1 n1 c1 w' => ∃ k : Nat, x19 = k ∧ k ≤ 10 ∧ k0 = m.kind ∧ k1 = m.fr ∧ k2 = m.to ∧ k3 = m.view ∧ k4 = m.normal ∧ k5 = m.last ∧ k6 = m.commit ∧ k7 = m.nonce ∧ k8 = m.base ∧ k9 = m.n ∧ sa = s.a ∧ sn = s.n ∧ sc = s.c ∧ r0 = m.r.e ∧ r1 = m.r.off ∧ r2 = m.r.n ∧ r3 = m.r.gen ∧ fa = f.a ∧ fn = f.n ∧ fc = f.c ∧ pa = p.a ∧ pn = p.n ∧ pc = p.c ∧ Sb w3.heap.size b5 (((yaR m).take k).flatMap yjK) w' ∧ Wr w3.heap.size b5 w8 w' ∧ mm = 10 - k) 10
  ⟨0, rfl, by omega, rfl, rfl, rfl, rfl, rfl, rfl, rfl, rfl, rfl, rfl, rfl, rfl, rfl, rfl, rfl, rfl, rfl, rfl, rfl, rfl, rfl, rfl, rfl, by simpa using hB0, Wr.of0 (Mod.refl _) (by omega), rfl⟩ ?_
 rintro mm x19 k0 k1 k2 k3 k4 k5 k6 k7 k8 k9 sa sn sc r0 r1 r2 r3 fa fn fc pa pn pc p1 a1 n1 c1 w9 ⟨k, rfl, hk, rfl, rfl, rfl, rfl, rfl, rfl, rfl, rfl, rfl, rfl, rfl, rfl, rfl, rfl, rfl, rfl, rfl, rfl, rfl, rfl, rfl, rfl, rfl, hB9, W9, rfl⟩ h9 hb9
 have lk := yd5 hn k
 have lk1 := yd5 hn (k + 1)
 have s9 := W9.bel.size
 have N9 : Mod [] w w9 := W9.mod N8 (by have := N3.size; omega)
 have sz3 : w3.heap.size ≤ w9.heap.size := by omega
 have ne : b1 ≠ b5 := by omega
 have M0 : ∀ {w'}, Wr w3.heap.size b5 w8 w' → Mod [] w w' := fun W => W.mod N8 (by have := N3.size; omega)
 refine yaC (fun hlt => ?_) fun hge => ?_
 ·have hk' : k < 10 := by omega
  obtain ⟨x, hx⟩ : ∃ x, (yaR m)[k]? = some x := ⟨_, List.getElem?_eq_getElem (by simpa [yaR] using hk')⟩
  have hc := yd0 (s := s) (f := f) (p := p) h9 hx
  have hx1 := ygI hn hx
  refine ⟨_, yDo b1 hk', yh0 (yaE hc ?_)⟩
  rw [yHz hx1]
  refine (yiR x.toNat (yd4 hx1).1 w9).mono ?_
  rintro _ w10 ⟨rfl, M10⟩
  obtain ⟨q1, q2, q3, q4, hq⟩ := (hB9.keep0 M10).cells
  refine ⟨_, rfl, _, _, _, _, _, _, _, _, _, _, _, _, _, _, _, _, _, _, _, _, _, _, _, M10.keep0 h9, _, _, _, _, hq, ?_⟩
  have ls := yd4 hx1
  have lv := (yaN x.toNat ls.1).2
  have s10 := M10.size
  refine (yyJ (hB9.keep0 M10) (l2 := yaK x.toNat) (by omega) (by omega)).mono ?_
  rintro _ w11 ⟨rfl, hB11, W11⟩
  obtain ⟨t1, t2, t3, t4, ht1⟩ := hB11.cells
  have W9' : Wr w3.heap.size b5 w8 w11 := (W9.trans (Wr.of0 M10 (by omega))).trans W11
  refine ⟨_, _, rfl, _, _, _, _, _, _, _, _, _, _, _, _, _, _, _, _, _, _, _, _, _, _, _, W11.keep (M10.keep0 h9) ne (by decide), _, _, _, _, ht1, ?_⟩
  refine yuZ (10 - (k + 1)) (by omega) ⟨k + 1, by rw [yaG (by omega) (by omega)]; omega, by omega, rfl, rfl, rfl, rfl, rfl, rfl, rfl, rfl, rfl, rfl, rfl, rfl, rfl, rfl, rfl, rfl, rfl, rfl, rfl, rfl, rfl, rfl, rfl, ?_, W9', rfl⟩
  rw [yo7 hx]; exact hB11
 ·have hk' : k = 10 := by omega
  subst hk'
  have e10 : (yaR m).take 10 = yaR m := List.take_of_length_le (by simp [yaR])
  rw [e10] at hB9 lk
  obtain ⟨ll, hll, hop, hcs⟩ := h.calls
  have hl : ll.length ≤ 1000000 := by have := congrArg List.length hcs; simp at *; omega
  refine (yq7 (s := s) (ll := ll) ⟨hll.keep0 N9, fun q hq => (hop q hq).keep0 N9⟩ hl).mono ?_
  rw [hcs, ht, if_pos rfl]
  rintro _ w10 ⟨rfl, M10⟩
  obtain ⟨q1, q2, q3, q4, hq⟩ := (hB9.keep0 M10).cells
  refine ⟨_, _, rfl, _, _, _, _, _, _, _, _, _, _, _, _, _, _, _, _, _, _, _, _, _, _, _, M10.keep0 h9, _, _, _, _, hq, ?_⟩
  have N10 := N9.go0 M10 (by simp)
  refine (ysM (h.rep.keep0 N10)).mono ?_
  rw [hr, if_pos rfl]
  rintro _ w11 ⟨rfl, M11⟩
  obtain ⟨t1, t2, t3, t4, ht1⟩ := ((hB9.keep0 M10).keep0 M11).cells
  refine ⟨_, _, rfl, _, _, _, _, _, _, _, _, _, _, _, _, _, _, _, _, _, _, _, _, _, _, _, M11.keep0 (M10.keep0 h9), _, _, _, _, ht1, ?_⟩
  have hne : (yaR m).flatMap yjK ≠ [] := fun e => by
   have := (yaN m.kind.toNat (by have := yeV (ygI hn (k := 0) (n := m.kind) rfl); omega)).1
   have e2 := congrArg List.length e
   simp only [yaR, List.flatMap_cons, List.length_append, List.length_nil] at e2
   unfold yjK at e2
   omega
  have s10 := M10.size
  have s11 := M11.size
  refine (yDd ((hB9.keep0 M10).keep0 M11) hne).mono ?_
  rintro _ w12 ⟨rfl, hB12, W12⟩
  have s12 := W12.bel.size
  obtain ⟨u1, u2, u3, u4, hu1⟩ := hB12.cells
  have h12 := W12.keep (M11.keep0 (M10.keep0 h9)) ne (by decide)
  refine ⟨_, rfl, _, _, _, _, _, _, _, _, _, _, _, _, _, _, _, _, _, _, _, _, _, _, _, h12, _, _, _, _, hu1, ?_⟩
  have lt := yjL ht
  have lr : (ydB m.r).length ≤ 60000 := (RepGood.of hr).len3 m.r.parts.length
  have W8 : Wr w3.heap.size b5 w8 w12 := ((W9.trans (Wr.of0 M10 (by omega))).trans (Wr.of0 M11 (by omega))).trans W12
  refine (yb9 (bs (ybI m.calls)) (by rw [yaD]; omega) w12).mono ?_
  rintro _ w13 ⟨rfl, M13⟩
  obtain ⟨v1, v2, v3, v4, hv1⟩ := (hB12.keep0 M13).cells
  have p1 := (yaZ (bs (ybI m.calls)) (by rw [yaD]; omega)).2
  have p2 := (yaZ (bs (ydB m.r)) (by rw [yaD]; omega)).2
  rw [yaD] at p1 p2
  refine ⟨_, rfl, _, _, _, _, _, _, _, _, _, _, _, _, _, _, _, _, _, _, _, _, _, _, _, M13.keep0 h12, _, _, _, _, hv1, by rw [yaD, yaD]; omega, ?_⟩
  rw [ybB]
  refine (yb9 (bs (ydB m.r)) (by rw [yaD]; omega) w13).mono ?_
  rintro _ w14 ⟨rfl, M14⟩
  obtain ⟨y1, y2, y3, y4, hy1⟩ := ((hB12.keep0 M13).keep0 M14).cells
  refine ⟨_, rfl, _, _, _, _, _, _, _, _, _, _, _, _, _, _, _, _, _, _, _, _, _, _, _, M14.keep0 (M13.keep0 h12), _, _, _, _, hy1, by rw [yaD, yaD, List.length_append]; omega, ?_⟩
  rw [ybB]
  have eB : (yaR m).flatMap yjK ++ ya7 (bs (ybI m.calls)) ++ ya7 (bs (ydB m.r)) = ya9 m := rfl
  rw [eB]
  have lB := yo6 g
  have N14 : Mod [] w w14 := ((M0 W8).go0 M13 (by simp)).go0 M14 (by simp)
  refine yaC (fun hbig => ?_) fun hbig => ?_
  ·rw [yaD] at hbig
   have e : ybS m = 2 := by rw [hE, if_pos (by omega)]
   rw [e]; exact ⟨rfl, N14⟩
  ·rw [yaD] at hbig
   have e : ybS m = 0 := by rw [hE, if_neg (by omega)]
   refine (yr3 (bs (ya9 m)) (by rw [yaD]; omega) w14).mono ?_
   rintro _ w15 ⟨rfl, M15⟩
   obtain ⟨z1, z2, z3, z4, hz1⟩ := (((hB12.keep0 M13).keep0 M14).keep0 M15).cells
   refine ⟨_, rfl, _, _, _, _, _, _, _, _, _, _, _, _, _, _, _, _, _, _, _, _, _, _, _, M15.keep0 (M14.keep0 (M13.keep0 h12)), _, _, _, _, hz1, ?_⟩
   rw [e, if_pos rfl]; exact ⟨rfl, N14.go0 M15 (by simp)⟩
theorem yHF.out {a : Nat} {o : Option (Nat × Nat)} {v : Value} (h : yHF a o v) : ∃ (n : Nat) (b e : Int), v = .tuple #[.int .u64 (n : Nat), .int .i64 b, .int .i64 e] ∧ ((e = 0 ∧ ∃ m : Nat, b = ((a + m : Nat) : Int) ∧ o = some (n, m)) ∨ (e ≠ 0 ∧ o = none)) := by
 cases o with
 | none => obtain ⟨e, he, rfl⟩ := h; exact ⟨0, _, _, rfl, .inr ⟨he, rfl⟩⟩
 | some p => obtain ⟨x, b⟩ := p; exact ⟨_, _, _, h, .inl ⟨rfl, b, rfl, rfl⟩⟩
theorem yAV.out {a : Nat} {o : Option (ByteArray × Nat)} {v : Value} (h : yAV a o v) : ∃ (n : ByteArray) (b e : Int), v = .tuple #[.string n, .int .i64 b, .int .i64 e] ∧ ((e = 0 ∧ ∃ m : Nat, b = ((a + m : Nat) : Int) ∧ o = some (n, m)) ∨ (e ≠ 0 ∧ o = none ∧ n = ⟨#[]⟩ ∧ b = 0)) := by
 cases o with
 | none => obtain ⟨e, he, rfl⟩ := h; exact ⟨_, _, _, rfl, .inr ⟨he, rfl, rfl, rfl⟩⟩
 | some p => obtain ⟨x, b⟩ := p; exact ⟨_, _, _, h, .inl ⟨rfl, b, rfl, rfl⟩⟩
def yeQ (s : ByteArray) (x : PMail) : Prop := ybS x = 0 ∧ s.data.toList = ya9 x
theorem yeQ.num {s : ByteArray} {x : PMail} (h : yeQ s x) {k : Nat} {n : Int} (hn : (yaR x)[k]? = some n) : vg 0 (s.data.toList.drop (yhQ x k)) = some (n.toNat, yhQ x (k + 1) - yhQ x k) ∧ yhQ x k ≤ yhQ x (k + 1) ∧ num n = true := by
 obtain ⟨h1, _⟩ := ybJ h.1
 obtain ⟨_, h2, _, _⟩ := yb7 h1
 have h3 := yBq h2 hn
 rw [← h.2] at h3
 unfold yeO at h3
 obtain ⟨p, hp, h4⟩ := Option.map_eq_some_iff.1 h3
 simp only [Prod.mk.injEq] at h4
 refine ⟨?_, by omega, ygI h2 hn⟩
 rw [hp]
 congr 1
 exact Prod.ext h4.1 (by omega)
theorem yeQ.txt {s : ByteArray} {x : PMail} (h : yeQ s x) : ∃ m1 m2, tg 1048576 (s.data.toList.drop (yhQ x 10)) = some (bs (ybI x.calls), m1) ∧ tg 1048576 (s.data.toList.drop (yhQ x 10 + m1)) = some (bs (ydB x.r), m2) := by
 obtain ⟨h1, h2⟩ := yBr h.1
 rw [← h.2] at h1 h2
 unfold yk5 at h1 h2
 obtain ⟨p, hp, h3⟩ := Option.map_eq_some_iff.1 h1
 obtain ⟨q, hq, h4⟩ := Option.map_eq_some_iff.1 h2
 simp only [Prod.mk.injEq] at h3 h4
 refine ⟨p.2, q.2, ?_, ?_⟩
 ·rw [hp]; congr 1; exact Prod.ext h3.1 rfl
 ·rw [h3.2, hq]; congr 1; exact Prod.ext h4.1 rfl
theorem yu9 {s : ByteArray} {x y : PMail} (hx : yeQ s x) (hy : yeQ s y) : x = y := by
 have hd : ∀ k, k ≤ 10 → yhQ x k = yhQ y k ∧ (yaR x).take k = (yaR y).take k := by
  intro k
  induction k with
  | zero => intro _; exact ⟨rfl, rfl⟩
  | succ k ih =>
   intro hk
   obtain ⟨i1, i2⟩ := ih (by omega)
   obtain ⟨a, ha⟩ : ∃ a, (yaR x)[k]? = some a := ⟨_, List.getElem?_eq_getElem (by simp [yaR]; omega)⟩
   obtain ⟨b, hb⟩ : ∃ b, (yaR y)[k]? = some b := ⟨_, List.getElem?_eq_getElem (by simp [yaR]; omega)⟩
   obtain ⟨h1, h2, h3⟩ := hx.num ha
   obtain ⟨h4, h5, h6⟩ := hy.num hb
   rw [i1, h4] at h1
   simp only [Option.some.injEq, Prod.mk.injEq] at h1
   have h3 := yeV h3
   have h6 := yeV h6
   have e : a = b := by omega
   exact ⟨by omega, by rw [List.take_add_one, List.take_add_one, ha, hb, i2, e]⟩
 obtain ⟨h1, h2⟩ := hd 10 (Nat.le_refl _)
 rw [List.take_of_length_le (by simp [yaR]), List.take_of_length_le (by simp [yaR])] at h2
 obtain ⟨m1, m2, h3, h4⟩ := hx.txt
 obtain ⟨n1, n2, h5, h6⟩ := hy.txt
 rw [h1, h5] at h3
 simp only [Option.some.injEq, Prod.mk.injEq] at h3
 rw [h1, ← h3.2, h6] at h4
 simp only [Option.some.injEq, Prod.mk.injEq] at h4
 obtain ⟨_, _, tx, rx⟩ := yb7 (ybJ hx.1).1
 obtain ⟨_, _, ty, ry⟩ := yb7 (ybJ hy.1).1
 have e1 : y.calls = x.calls := by
  have p1 := yd1 ty
  rw [h3.1, yd1 tx] at p1
  exact (Option.some.inj p1).symm
 have e2 := ytI ry rx (yiW h4.1)
 obtain ⟨a1, a2, a3, a4, a5, a6, a7, a8, a9, a10, a11, a12⟩ := x
 obtain ⟨b1, b2, b3, b4, b5, b6, b7, b8, b9, b10, b11, b12⟩ := y
 simp [yaR] at h2
 simp only [PMail.mk.injEq]
 refine ⟨?_, ?_, ?_, ?_, ?_, ?_, ?_, ?_, ?_, ?_, e1.symm, e2.symm⟩ <;> omega
set_option maxHeartbeats 8000000 in
theorem yBu {s : ByteArray} (hs : s.size ≤ 900000) (w : World) :
  Calls pP 42 #[.string s] w fun e w' => ∃ v, e = .returned v ∧ ∃ (m : PMail) (s1 f1 p1 : Sl), v = m.v s1 f1 p1 ∧ MailOwn w' w.heap.size m s1 f1 p1 ∧ m.calls.length ≤ 100000 ∧ (∀ x, yeQ s x → m = x) ∧ Mod [] w w' := by
 have hss : s.data.toList.length = s.size := by simp
 refine yD3 ?_
 intro b1 f1 b2 f2 w3 A3 h3
 have l1 := A3.lt b1 (by simp)
 have l2 := A3.lt b2 (by simp)
 have nd : b1 ≠ b2 := by have := A3.nd; simp at this; exact fun h => this h.symm
 have s3 := A3.mod.size
 refine (yoV b2 w3).mono ?_
 rintro _ w4 ⟨rfl, M4⟩
 have s4 := M4.size
 have h4 := M4.keep0 h3
 refine ⟨_, _, _, _, _, _, _, _, _, _, rfl, yaI.of0 M4, _, _, _, _, _, _, _, _, _, _, _, _, _, _, _, _, _, _, _, _, _, _, _, h4, ?_⟩
 have N4 : Mod [] w w4 := A3.mod.go0 M4 (by simp)
 have z0 : ∀ {w' : World}, Mod [] w w' → (∀ x, ¬ yeQ s x) → ∃ (m : PMail) (s1 f1 p1 : Sl), Value.agg #[.int .i64 0, .int .i64 0, .int .i64 0, .int .i64 0, .int .i64 0, .int .i64 0, .int .i64 0, .int .i64 0, .int .i64 0, .int .i64 0, .slice none 0 0, .int .i64 0, .int .i64 0, .int .i64 0, .int .i64 0, .slice none 0 0, .slice none 0 0] = m.v s1 f1 p1 ∧ MailOwn w' w.heap.size m s1 f1 p1 ∧ m.calls.length ≤ 100000 ∧ (∀ x, yeQ s x → m = x) ∧ Mod [] w w' := fun {w'} N hn =>
  ⟨ygS, ybM, ybM, ybM, rfl, ⟨⟨[], Row.nil .., by simp, rfl⟩, ⟨Row.nil .., Row.nil .., by simp [ygS, yeI], by simp [ygS, yeI]⟩⟩, by simp [ygS], fun x hx => absurd hx (hn x), N⟩
 refine yu8 (fun mm x4 x16 k0 k1 k2 k3 k4 k5 k6 k7 k8 k9 sa sn sc r0 r1 r2 r3 fa fn fc pa pn pc w' => ∃ a k : Nat, x4 = a ∧ x16 = k ∧ k ≤ 10 ∧ a ≤ s.size ∧ sa = none ∧ sn = 0 ∧ sc = 0 ∧ r0 = 0 ∧ r1 = 0 ∧ r2 = 0 ∧ r3 = 0 ∧ fa = none ∧ fn = 0 ∧ fc = 0 ∧ pa = none ∧ pn = 0 ∧ pc = 0 ∧ Mod [b2] w4 w' ∧ (∀ x, yeQ s x → a = yhQ x k ∧ ([k0, k1, k2, k3, k4, k5, k6, k7, k8, k9] : List Int).take k = (yaR x).take k) ∧ mm = 10 - k) 10
  ⟨0, 0, rfl, rfl, by omega, by omega, rfl, rfl, rfl, rfl, rfl, rfl, rfl, rfl, rfl, rfl, rfl, rfl, rfl, (Mod.refl _).less (by simp), fun x _ => ⟨by simp [yhQ], rfl⟩, rfl⟩ ?_
 rintro mm x4 x16 k0 k1 k2 k3 k4 k5 k6 k7 k8 k9 sa sn sc r0 r1 r2 r3 fa fn fc pa pn pc w5 ⟨a, k, rfl, rfl, hk, ha, rfl, rfl, rfl, rfl, rfl, rfl, rfl, rfl, rfl, rfl, rfl, rfl, rfl, M5, hsp, rfl⟩ h5
 have s5 := M5.size
 have N5 : Mod [] w w5 := N4.go0 M5 (by simpa using f2)
 refine yaC (fun hlt => ?_) fun hge => ?_
 ·have hk' : k < 10 := by omega
  refine ⟨_, yDo b2 hk', ?_⟩
  refine (yfR s a (by omega) ha w5).mono ?_
  rintro _ w6 ⟨v, rfl, hv, rfl⟩
  obtain ⟨n, b, e, rfl, hg⟩ := hv.out
  refine ⟨_, _, _, rfl, yaI.of0 (Mod.refl _), _, _, _, _, _, _, _, _, _, _, _, _, _, _, _, _, _, _, _, _, _, _, _, h5, ?_⟩
  have hnum : ∀ x, yeQ s x → ∃ y : Int, (yaR x)[k]? = some y ∧ n = y.toNat ∧ e = 0 ∧ b = ((yhQ x (k + 1) : Nat) : Int) ∧ num y = true := fun x hx => by
   obtain ⟨h1, h2⟩ := hsp x hx
   obtain ⟨y, hy⟩ : ∃ y, (yaR x)[k]? = some y := ⟨_, List.getElem?_eq_getElem (by simpa [yaR] using hk')⟩
   obtain ⟨h6, h7, h8⟩ := hx.num hy
   rw [← h1] at h6
   rcases hg with ⟨g1, m, g2, g3⟩ | ⟨_, g3⟩
   ·rw [h6] at g3
    simp only [Option.some.injEq, Prod.mk.injEq] at g3
    exact ⟨y, hy, g3.1.symm, g1, by omega, h8⟩
   ·rw [h6] at g3; cases g3
  refine yaB (fun g => fun w7 A7 _ => z0 (N5.go0 A7.mod (by simpa using f1)) fun x hx => ?_) fun g => ?_
  ·obtain ⟨y, _, _, he, _⟩ := hnum x hx
   simp [he] at g
  have g : e = 0 := by simpa using g
  refine yaC (fun gb => fun w7 A7 _ => z0 (N5.go0 A7.mod (by simpa using f1)) fun x hx => ?_) fun gb => ?_
  ·obtain ⟨y, _, h6, _, _, h7⟩ := hnum x hx
   have := yeV h7
   omega
  rcases hg with ⟨_, m, hb, hvg⟩ | ⟨g3, _⟩
  rotate_left
  ·exact absurd g g3
  have hml := yoI _ hvg
  rw [List.length_drop, hss] at hml
  obtain ⟨v, hv⟩ : ∃ v, v = IntKind.wrap .i64 (n : Int) := ⟨_, rfl⟩
  have hvn : v = n := by rw [hv, yaG (by omega) (by omega)]
  rw [← hv]
  refine yh0 (yc6 h5 rfl (by simp; omega) fun w7 h7 M7 => ?_)
  have h7' : w7.heap[b2]? = some (.cells #[.int .i64 (if k = 0 then v else k0), .int .i64 (if k = 1 then v else k1), .int .i64 (if k = 2 then v else k2), .int .i64 (if k = 3 then v else k3), .int .i64 (if k = 4 then v else k4), .int .i64 (if k = 5 then v else k5), .int .i64 (if k = 6 then v else k6), .int .i64 (if k = 7 then v else k7), .int .i64 (if k = 8 then v else k8), .int .i64 (if k = 9 then v else k9), .slice none 0 0, .int .i64 0, .int .i64 0, .int .i64 0, .int .i64 0, .slice none 0 0, .slice none 0 0] 29) := by
   rw [h7]
   rcases (by omega : k = 0 ∨ k = 1 ∨ k = 2 ∨ k = 3 ∨ k = 4 ∨ k = 5 ∨ k = 6 ∨ k = 7 ∨ k = 8 ∨ k = 9) with rfl | rfl | rfl | rfl | rfl | rfl | rfl | rfl | rfl | rfl <;> rfl
  refine ⟨yaI.ofE M7 fun k hk hl he => by simp at hk he ⊢; omega, _, _, _, _, _, _, _, _, _, _, _, _, _, _, _, _, _, _, _, _, _, _, _, h7', ?_⟩
  rw [hb]
  refine yu7 (10 - (k + 1)) (by omega) ⟨a + m, k + 1, rfl, by rw [yaG (by omega) (by omega)]; omega, by omega, by omega, rfl, rfl, rfl, rfl, rfl, rfl, rfl, rfl, rfl, rfl, rfl, rfl, rfl, M5.via M7 (by simp), fun x hx => ?_, rfl⟩
  obtain ⟨y, hy, h6, _, h8, h9⟩ := hnum x hx
  have := yeV h9
  refine ⟨by omega, ?_⟩
  rw [List.take_add_one (l := yaR x), hy, ← (hsp x hx).2, show y = v by omega]
  rcases (by omega : k = 0 ∨ k = 1 ∨ k = 2 ∨ k = 3 ∨ k = 4 ∨ k = 5 ∨ k = 6 ∨ k = 7 ∨ k = 8 ∨ k = 9) with rfl | rfl | rfl | rfl | rfl | rfl | rfl | rfl | rfl | rfl <;> rfl
 ·have hk' : k = 10 := by omega
  subst hk'
  refine (yc1 s a 1048576 (by omega) ha (by omega) w5).mono ?_
  rintro _ w6 ⟨v, rfl, hv, rfl⟩
  obtain ⟨t, b, e, rfl, hg⟩ := hv.out
  refine ⟨_, _, _, rfl, yaI.of0 (Mod.refl _), _, _, _, _, _, _, _, _, _, _, _, _, _, _, _, _, _, _, _, _, _, _, _, h5, ?_⟩
  have ht1 : ∀ x, yeQ s x → e = 0 ∧ t = bs (ybI x.calls) ∧ ∃ m2, tg 1048576 (s.data.toList.drop b.toNat) = some (bs (ydB x.r), m2) := fun x hx => by
   obtain ⟨m1, m2, h1, h2⟩ := hx.txt
   rw [← (hsp x hx).1] at h1 h2
   rcases hg with ⟨g1, m, g2, g3⟩ | ⟨_, g3, _⟩
   ·rw [h1] at g3
    simp only [Option.some.injEq, Prod.mk.injEq] at g3
    refine ⟨g1, g3.1.symm, m2, ?_⟩
    rw [g2, ← g3.2, Int.toNat_natCast]; exact h2
   ·rw [h1] at g3; cases g3
  refine yaB (fun g => fun w7 A7 _ => z0 (N5.go0 A7.mod (by simpa using f1)) fun x hx => by simp [(ht1 x hx).1] at g) fun g => ?_
  have g : e = 0 := by simpa using g
  rcases hg with ⟨_, m, hb, htg⟩ | ⟨g3, _⟩
  rotate_left
  ·exact absurd g g3
  have hml := ykK htg
  rw [List.length_drop, hss] at hml
  subst hb
  refine (yc1 s (a + m) 1048576 (by omega) (by omega) (by omega) w6).mono ?_
  rintro _ w7 ⟨v, rfl, hv, rfl⟩
  obtain ⟨t2, b', e2, rfl, hg2⟩ := hv.out
  refine ⟨_, _, _, rfl, yaI.of0 (Mod.refl _), _, _, _, _, _, _, _, _, _, _, _, _, _, _, _, _, _, _, _, _, _, _, _, h5, ?_⟩
  have ht2 : ∀ x, yeQ s x → e2 = 0 ∧ t2 = bs (ydB x.r) := fun x hx => by
   obtain ⟨_, _, m2, h2⟩ := ht1 x hx
   rw [Int.toNat_natCast] at h2
   rcases hg2 with ⟨g1, m', g2, g3⟩ | ⟨_, g3, _⟩
   ·rw [h2] at g3
    simp only [Option.some.injEq, Prod.mk.injEq] at g3
    exact ⟨g1, g3.1.symm⟩
   ·rw [h2] at g3; cases g3
  refine yaB (fun g => fun w8 A8 _ => z0 (N5.go0 A8.mod (by simpa using f1)) fun x hx => by simp [(ht2 x hx).1] at g) fun g2 => ?_
  have g2 : e2 = 0 := by simpa using g2
  rcases hg2 with ⟨_, m', _, htg2⟩ | ⟨g3, _⟩
  rotate_left
  ·exact absurd g2 g3
  have hml2 := ykK htg2
  rw [List.length_drop, hss] at hml2
  refine (yy9 (s := t) (by omega) w7).mono ?_
  rintro _ w8 ⟨v, rfl, hv, M8⟩
  have s8 := M8.size
  have hpc : ∃ (xs : List PCall) (sl : Sl) (e8 : Int), v = .tuple #[.slice sl.a sl.n sl.c, .int .i64 e8] ∧ ybA w8 w7.heap.size sl xs ∧ xs.length ≤ 100000 ∧ ∀ x, yeQ s x → xs = x.calls := by
   cases hp : ydO t with
   | none =>
    rw [hp] at hv
    refine ⟨[], ybM, 162, hv, ⟨[], Row.nil .., by simp, rfl⟩, by simp, fun x hx => ?_⟩
    obtain ⟨h1, _⟩ := ybJ hx.1
    obtain ⟨_, _, h2, _⟩ := yb7 h1
    rw [(ht1 x hx).2.1, yd1 h2] at hp; cases hp
   | some xs =>
    rw [hp] at hv
    obtain ⟨sl, rfl, hc⟩ := hv
    have h6 := (yuD.1 hp).1
    refine ⟨xs, sl, 0, rfl, hc, by have := (ygG h6).1; omega, fun x hx => ?_⟩
    obtain ⟨h1, _⟩ := ybJ hx.1
    obtain ⟨_, _, h2, _⟩ := yb7 h1
    rw [(ht1 x hx).2.1, yd1 h2] at hp
    exact (Option.some.inj hp).symm
  obtain ⟨xs, sl, e8, rfl, hC, hxl, hxs⟩ := hpc
  have h8 := M8.keep0 h5
  refine ⟨_, _, _, _, rfl, yaI.of0 M8, _, _, _, _, _, _, _, _, _, _, _, _, _, _, _, _, _, _, _, _, _, _, _, h8, ?_⟩
  intro w9 A9 h9
  have s9 := A9.mod.size
  refine (yrF (s := t2) (by omega) w9).mono ?_
  rintro _ w10 ⟨v, rfl, hv, M10⟩
  have s10 := M10.size
  have hpr : ∃ (r : PRep) (fl pl : Sl) (e10 : Int), v = .tuple #[r.v fl pl, .int .i64 e10] ∧ RepOwn w10 w9.heap.size r fl pl ∧ ∀ x, yeQ s x → r = x.r := by
   rcases hv with ⟨r, fl, pl, h1, rfl, h2⟩ | ⟨h1, rfl⟩
   ·refine ⟨r, fl, pl, 0, rfl, h2, fun x hx => ?_⟩
    obtain ⟨h3, _⟩ := ybJ hx.1
    obtain ⟨_, _, _, h4⟩ := yb7 h3
    have h5 := h1.eq
    rw [(ht2 x hx).2] at h5
    exact (ytI h4 h1.1 (yiW h5)).symm
   ·refine ⟨yeI, ybM, ybM, 40, rfl, ⟨Row.nil .., Row.nil .., by simp [yeI], by simp [yeI]⟩, fun x hx => ?_⟩
    obtain ⟨h3, _⟩ := ybJ hx.1
    obtain ⟨_, _, _, h4⟩ := yb7 h3
    exact absurd (ye6.of h4 (ht2 x hx).2) (h1 _)
  obtain ⟨r, fl, pl, e10, rfl, hR, hrx⟩ := hpr
  have h10 := M10.keep0 h9
  refine ⟨_, _, _, _, _, _, _, _, _, _, _, rfl, yaI.of0 M10, _, _, _, _, _, _, _, _, _, _, _, _, _, _, _, _, _, _, _, _, _, _, _, h10, ?_⟩
  intro w11 A11 h11
  have lb : b1 < w7.heap.size ∧ b2 < w7.heap.size := by omega
  refine ⟨⟨k0, k1, k2, k3, k4, k5, k6, k7, k8, k9, xs, r⟩, sl, fl, pl, rfl, ⟨?_, ?_⟩, hxl, fun x hx => ?_, ?_⟩
  ·exact (((hC.keepB A9.mod (by simp; omega)).keep0 M10).keepB A11.mod (by simp; omega)).rebase (by omega)
  ·exact (hR.keepB A11.mod (by simp; omega)).rebase (by omega)
  ·have h6 := (hsp x hx).2
   have h7 := hxs x hx
   have h8 := hrx x hx
   obtain ⟨x1, x2, x3, x4, x5, x6, x7, x8, x9, x10, xc, xr⟩ := x
   simp [yaR] at h6
   simp only [PMail.mk.injEq]
   refine ⟨?_, ?_, ?_, ?_, ?_, ?_, ?_, ?_, ?_, ?_, h7, h8⟩ <;> omega
  ·exact (((N5.go0 M8 (by simp)).go0 A9.mod (by simpa using f2)).go0 M10 (by simp)).go0 A11.mod (by simp; omega)
def yHA (w0 w : World) (base : Nat) (s : ByteArray) (v : Value) : Prop :=
 (∃ (m : PMail) (s1 f1 p1 : Sl), ybS m = 0 ∧ s = yb8 m ∧ v = .tuple #[m.v s1 f1 p1, .int .i64 0] ∧ MailOwn w base m s1 f1 p1 ∧ m.calls.length ≤ 100000) ∨ ((∀ m, ybS m = 0 → s ≠ yb8 m) ∧ v = .tuple #[ygS.v ybM ybM ybM, .int .i64 180])
theorem yrG {s : ByteArray} (hs : s.size ≤ 900000) (w : World) :
  Calls pP 17 #[.string s] w fun e w' => ∃ v, e = .returned v ∧ yHA w w' w.heap.size s v ∧ Mod [] w w' := by
 have hss : s.data.toList.length = s.size := by simp
 refine yD4 ?_
 intro b1 f1 w2 A2
 have s2 := A2.mod.size
 refine (yoM s 0 1048576 (by omega) (by omega) (by omega) w2).mono ?_
 rintro _ w3 ⟨v, rfl, hv, M3⟩
 have s3 := M3.size
 rw [List.drop_zero] at hv
 obtain ⟨t, b, e, rfl, hg⟩ := hv.out
 refine ⟨_, _, _, rfl, yaI.of0 M3, ?_⟩
 have htl : t.size ≤ 900000 := by
  rcases hg with ⟨_, m, _, g3⟩ | ⟨_, _, g4, _⟩
  ·have := yBY g3; omega
  ·rw [g4]; show 0 ≤ _; omega
 have hx : ∀ x, ybS x = 0 → s = yb8 x → e = 0 ∧ yeQ t x := fun x h1 h2 => by
  have h3 := yz8 h1
  rw [← h2] at h3
  rcases hg with ⟨g1, m, _, g3⟩ | ⟨_, g3, _⟩
  ·rw [h3] at g3
   simp only [Option.some.injEq, Prod.mk.injEq] at g3
   exact ⟨g1, h1, by rw [← g3.1, ycE]⟩
  ·rw [h3] at g3; cases g3
 refine (yBu htl w3).mono ?_
 rintro _ w4 ⟨_, rfl, m, s1, f1', p1, rfl, hO, hlc, hm, M4⟩
 have s4 := M4.size
 refine ⟨_, _, _, _, _, _, _, _, _, _, _, _, _, _, _, _, _, _, _, _, _, _, _, rfl, yaI.of0 M4, ?_⟩
 intro b5 f5 w6 A6
 have s6 := A6.mod.size
 refine (ynR ((hO.keep0 A6.mod).at) hlc).mono ?_
 rintro _ w7 ⟨rfl, M7⟩
 have s7 := M7.size
 refine ⟨_, _, rfl, yaI.of0 M7, ?_⟩
 have N7 : Mod [] w w7 := (((A2.mod.go0 M3 (by simp)).go0 M4 (by simp)).go0 A6.mod (by simp)).go0 M7 (by simp)
 have no : ∀ {w'}, Adv [b1] [] w7 w' → (∀ x, ybS x = 0 → s ≠ yb8 x) → yHA w w' w.heap.size s (.tuple #[ygS.v ybM ybM ybM, .int .i64 180]) ∧ Mod [] w w' := fun {w'} A h => ⟨.inr ⟨h, rfl⟩, N7.go0 A.mod (by simpa using f1)⟩
 refine yaB (fun g => fun w8 A8 => no A8 fun x h1 h2 => ?_) fun g => ?_
 ·have := (hx x h1 h2).1; simp [this] at g
 refine yaB (fun g2 => fun w8 A8 => no A8 fun x h1 h2 => ?_) fun g2 => ?_
 ·have := hm x (hx x h1 h2).2; subst this; simp [h1] at g2
 have g2 : ybS m = 0 := by simpa using g2
 rw [if_pos g2, yf6]
 refine yaB (fun g3 => fun w8 A8 => no A8 fun x h1 h2 => ?_) fun g3 => fun w8 A8 => ?_
 ·have := hm x (hx x h1 h2).2; subst this; simp [h2] at g3
 ·have g3 : yb8 m = s := by simpa using g3
  have l1 : b1 < w2.heap.size := A2.lt b1 (by simp)
  exact ⟨.inl ⟨m, s1, f1', p1, g2, g3.symm, rfl, ((((hO.keep0 A6.mod).keep0 M7).keepB A8.mod (by simp; omega)).rebase (by omega)), hlc⟩, N7.go0 A8.mod (by simpa using f1)⟩
section
set_option maxRecDepth 100000
variable {R : VWP} {w w0 : World} {m : Nat} {i0 i1 i2 i3 i4 i5 i6 i7 i8 i9 j0 j1 j2 j3 j4 j5 j6 j7 j8 j9 k0 k1 k2 k3 k4 k5 k6 k7 k8 k9 l0 l1 l2 l3 l4 l5 l6 l7 l8 l9 : Int} {s0 s1 s2 s3 s4 s5 s6 s7 s8 s9 t0 t1 t2 t3 t4 t5 t6 t7 t8 t9 : BA} {n0 n1 n2 n3 n4 n5 n6 n7 n8 n9 o0 o1 o2 o3 o4 o5 o6 o7 o8 o9 p0 p1 p2 p3 p4 p5 p6 p7 p8 p9 : Nat} {q0 q1 q2 q3 q4 q5 q6 q7 q8 q9 r0 r1 r2 r3 r4 r5 r6 r7 r8 r9 : OA} {B0 B1 B2 B3 B4 B5 B6 B7 B8 B9 : Bool} {M0 M1 M2 M3 : Option Nat} {V0 V1 V2 V3 V4 V5 : Value} {A0 A1 A2 : Addr}
def ynS : LA := ⟨[0, 0, 1, 0, 1, 1, 1, 1], [1, 2, 3, 4], [(1, 0, 0), (2, 1, 0), (3, 2, 0)], 3, []⟩
def yh1 : LA := ⟨[0, 0, 1, 0, 1, 1, 1, 1, 1], [1, 2, 3, 6], [(1, 0, 0), (2, 1, 0), (3, 2, 0)], 3, []⟩
def ynT : List LA := [ynS, yh1]
abbrev yo8 := dnF pP ynT (code Tryz.f21)
abbrev yID := yaP pP ynT (code Tryz.f21)
abbrev yo9 (p : List Nat) (K : List Kh) (R : VWP) := yaP pP ynT (code Tryz.f21) p K (ya4 pP Tryz.f21 [] R)
def yhA (bm0 : Nat) (a9 b0 b1 b2 : Int) (a0 : OA) (a6 a3 : Nat) (a1 : OA) (a7 a4 bm1 bm2 : Nat) (b3 b4 b5 b6 : Int) : Int × (Option Addr) × Nat × Nat → List Value × List TB := fun (b7, a2, a8, a5) => ([(.pointer (some ⟨bm0, 0, none⟩)), (.pointer (some ⟨bm1, 0, none⟩)), (.pointer (some ⟨bm2, 0, none⟩)), .int .i64 b7], [⟨bm0, 27, [.int .i64 a9, .int .i64 b0, .int .i64 b1, .int .i64 b2, .slice a0 a6 a3, .slice a1 a7 a4], false⟩, ⟨bm1, 27, [.int .i64 0, .int .i64 0, .int .i64 0, .int .i64 0, .slice none 0 0, .slice none 0 0], false⟩, ⟨bm2, 27, [.int .i64 b3, .int .i64 b4, .int .i64 b5, .int .i64 b6, .slice a2 a8 a5, .slice none 0 0], false⟩])
def yfV (bm0 : Nat) (b2 b3 b4 b5 : Int) (a0 : OA) (a8 a4 : Nat) (a1 : OA) (a9 a5 bm1 bm2 : Nat) (b6 b7 b8 b9 : Int) (a2 : OA) (b0 a6 : Nat) : Int × (Option Addr) × Nat × Nat → List Value × List TB := fun (c0, a3, b1, a7) => ([(.pointer (some ⟨bm0, 0, none⟩)), (.pointer (some ⟨bm1, 0, none⟩)), (.pointer (some ⟨bm2, 0, none⟩)), .int .i64 c0], [⟨bm0, 27, [.int .i64 b2, .int .i64 b3, .int .i64 b4, .int .i64 b5, .slice a0 a8 a4, .slice a1 a9 a5], false⟩, ⟨bm1, 27, [.int .i64 0, .int .i64 0, .int .i64 0, .int .i64 0, .slice none 0 0, .slice none 0 0], false⟩, ⟨bm2, 27, [.int .i64 b6, .int .i64 b7, .int .i64 b8, .int .i64 b9, .slice a2 b0 a6, .slice a3 b1 a7], false⟩])
abbrev yAh (bm0 : Nat) (a6 a7 a8 a9 : Int) (a0 : OA) (a4 a2 : Nat) (a1 : OA) (a5 a3 bm1 bm2 : Nat) (b0 b1 b2 b3 : Int) (I : Nat → Int → Option Addr → Nat → Nat → World → Prop) (m : Nat) : Kh := KG (yhA bm0 a6 a7 a8 a9 a0 a4 a2 a1 a5 a3 bm1 bm2 b0 b1 b2 b3) (U4 I) m
theorem yvA {I : Nat → Int → Option Addr → Nat → Nat → World → Prop} (m' : Nat) (h1 : m' < m) (h2 : I m' i8 q2 n7 n8 w) : KS (yAh n0 i0 i1 i2 i3 q0 n1 n2 q1 n3 n4 n5 n6 i4 i5 i6 i7 I m) (yhA n0 i0 i1 i2 i3 q0 n1 n2 q1 n3 n4 n5 n6 i4 i5 i6 i7 (i8, q2, n7, n8)) w := ⟨m', h1, _, rfl, rfl, h2⟩
theorem yvB {a1 : OA} {a2 : OA} {b8 : OA} (I : Nat → Int → Option Addr → Nat → Nat → World → Prop) (m0 : Nat) (h0 : I m0 i8 b8 n7 n8 w0)
 (hr : ∀ m b7 a3 a8 a6 w, I m b7 a3 a8 a6 w →
 brB (decide (b7 < (n1 : Int))) (
 brB (decide (b7 < 70)) (
 ixA a1 n1 b7 5 fun q4 =>
 yaF .i64 w q4 fun x5 => yaT w (Addr.add q4 1) fun t6 => yaO w (Addr.add q4 2) fun s7 => yaT w (Addr.add q4 3) fun t8 => yaO w (Addr.add q4 4) fun s9 =>
 ∀ c1, w.heap.size ≤ c1 →
 slS s7 0 (if 80 < (s7.size : Int) then 80 else (s7.size : Int)) fun d1 =>
 slS s9 0 (if 600 < (s9.size : Int) then 600 else (s9.size : Int)) fun d2 =>
 ∀ c3, Adv [] [c1] w c3 →
 al c3 (.cells (Z6 x5 t6 d1 t8 d2) 55) fun c8 c4 =>
 ycP pP (Builtin.append_ #[24, 24] 24 #[.slice a3 a8 a6, (.slice (some ⟨c8, 0, none⟩) 1 1)]) c4 fun c7 d0 c9 c5 => yaI [n0, n5, n6, c1] c4 c5 ∧
 ∀ c6, Adv [n6] [] c5 c6 →
 KS (yAh n0 i0 i1 i2 i3 a1 n1 n2 a2 n3 n4 n5 n6 i4 i5 i6 i7 I m) (yhA n0 i0 i1 i2 i3 a1 n1 n2 a2 n3 n4 n5 n6 i4 i5 i6 i7 ((IntKind.wrap .i64 (b7 + 1)), c7, d0, c9)) c6)
 (
 yaL yh1 (yo8 393 [0, 0, 1, 0, 1, 1, 1, 1, 1]) (yo9 [1, 1, 1, 1, 1, 0, 1, 0] [] R) (yfV n0 i0 i1 i2 i3 a1 n1 n2 a2 n3 n4 n5 n6 i4 i5 i6 i7 a3 a8 a6 (0, none, 0, 0)) w))
 (
 yaL yh1 (yo8 393 [0, 0, 1, 0, 1, 1, 1, 1, 1]) (yo9 [1, 1, 1, 1, 1, 0, 1, 0] [] R) (yfV n0 i0 i1 i2 i3 a1 n1 n2 a2 n3 n4 n5 n6 i4 i5 i6 i7 a3 a8 a6 (0, none, 0, 0)) w)) :
 yaL ynS (yo8 394 [0, 0, 1, 0, 1, 1, 1, 1]) (yo9 [1, 1, 1, 1, 0, 1, 0] [] R) (yhA n0 i0 i1 i2 i3 a1 n1 n2 a2 n3 n4 n5 n6 i4 i5 i6 i7 (i8, b8, n7, n8)) w0 :=
 lrule (yhA n0 i0 i1 i2 i3 a1 n1 n2 a2 n3 n4 n5 n6 i4 i5 i6 i7) (U4 I) h0 (by rintro m ⟨b7, a3, a8, a6⟩ w h; exact ⟨by kernel_rfl, by kernel_rfl, fun js => Eq.mpr (by kernel_rfl) (hr m b7 a3 a8 a6 w h)⟩)
abbrev yAi (bm0 : Nat) (a9 b0 b1 b2 : Int) (a0 : OA) (a6 a3 : Nat) (a1 : OA) (a7 a4 bm1 bm2 : Nat) (b3 b4 b5 b6 : Int) (a2 : OA) (a8 a5 : Nat) (I : Nat → Int → Option Addr → Nat → Nat → World → Prop) (m : Nat) : Kh := KG (yfV bm0 a9 b0 b1 b2 a0 a6 a3 a1 a7 a4 bm1 bm2 b3 b4 b5 b6 a2 a8 a5) (U4 I) m
theorem ylI {I : Nat → Int → Option Addr → Nat → Nat → World → Prop} (m' : Nat) (h1 : m' < m) (h2 : I m' i8 q3 n9 o0 w) : KS (yAi n0 i0 i1 i2 i3 q0 n1 n2 q1 n3 n4 n5 n6 i4 i5 i6 i7 q2 n7 n8 I m) (yfV n0 i0 i1 i2 i3 q0 n1 n2 q1 n3 n4 n5 n6 i4 i5 i6 i7 q2 n7 n8 (i8, q3, n9, o0)) w := ⟨m', h1, _, rfl, rfl, h2⟩
theorem ylJ (I : Nat → Int → Option Addr → Nat → Nat → World → Prop) (m0 : Nat) (h0 : I m0 i8 q3 n9 o0 w0)
 (hr : ∀ m c0 a1 a6 a3 w, I m c0 a1 a6 a3 w →
 brB (decide (c0 < (n3 : Int))) (
 brB (decide (c0 < 70)) (
 ixA q1 n3 c0 2 fun c7 =>
 yaO w c7 fun c5 => yaF .i64 w (Addr.add c7 1) fun d9 =>
 ∀ c4, w.heap.size ≤ c4 →
 slS c5 0 (if 40 < (c5.size : Int) then 40 else (c5.size : Int)) fun d8 =>
 ∀ c8, Adv [] [c4] w c8 →
 al c8 (.cells #[.string d8, .int .i64 d9] 43) fun d5 c9 =>
 ycP pP (Builtin.append_ #[25, 25] 25 #[.slice a1 a6 a3, (.slice (some ⟨d5, 0, none⟩) 1 1)]) c9 fun d4 d7 d6 d0 => yaI [n0, n5, n6, c4] c9 d0 ∧
 ∀ d1, Adv [n6] [] d0 d1 →
 KS (yAi n0 i0 i1 i2 i3 q0 n1 n2 q1 n3 n4 n5 n6 i4 i5 i6 i7 q2 n7 n8 I m) (yfV n0 i0 i1 i2 i3 q0 n1 n2 q1 n3 n4 n5 n6 i4 i5 i6 i7 q2 n7 n8 ((IntKind.wrap .i64 (c0 + 1)), d4, d7, d6)) d1)
 (
 ∀ d2, Adv [n5] [] w d2 →
 R (.agg (Z3 i4 i5 i6 i7 q2 n7 n8 a1 a6 a3)) d2))
 (
 ∀ d3, Adv [n5] [] w d3 →
 R (.agg (Z3 i4 i5 i6 i7 q2 n7 n8 a1 a6 a3)) d3)) :
 yaL yh1 (yo8 393 [0, 0, 1, 0, 1, 1, 1, 1, 1]) (yo9 [1, 1, 1, 1, 1, 0, 1, 0] [] R) (yfV n0 i0 i1 i2 i3 q0 n1 n2 q1 n3 n4 n5 n6 i4 i5 i6 i7 q2 n7 n8 (i8, q3, n9, o0)) w0 :=
 lrule (yfV n0 i0 i1 i2 i3 q0 n1 n2 q1 n3 n4 n5 n6 i4 i5 i6 i7 q2 n7 n8) (U4 I) h0 (by rintro m ⟨c0, a1, a6, a3⟩ w h; exact ⟨by kernel_rfl, by kernel_rfl, fun js => Eq.mpr (by kernel_rfl) (hr m c0 a1 a6 a3 w h)⟩)
theorem yD8 (h :
 ∀ b1, w.heap.size ≤ b1 →
 ∀ b2, w.heap.size ≤ b2 →
 ∀ b3, w.heap.size ≤ b3 →
 ∀ b0, Adv [] [b3, b2, b1] w b0 →
 yaL ynS (yo8 394 [0, 0, 1, 0, 1, 1, 1, 1]) (yo9 [1, 1, 1, 1, 0, 1, 0] [] R) (yhA b1 i0 i1 i2 i3 q0 n0 n1 q1 n2 n3 b2 b3 i0 i1 i2 i3 (0, none, 0, 0)) b0) :
 CR pP 21 #[(.agg (Z3 i0 i1 i2 i3 q0 n0 n1 q1 n2 n3))] w R :=
 yaA Tryz.wide_mixed (an := ynT) Tryz.func21 rfl rfl (by kernel_rfl) rfl (Eq.mpr (by kernel_rfl) h)
end
def ypG (n : Nat) (s : ByteArray) : ByteArray := s.extract 0 (min s.size n)
theorem ydR {s : ByteArray} {m : Int} {n : Nat} {F : ByteArray → Prop} (hm : m = (n : Nat)) (hF : F (ypG n s)) : slS s 0 (if m < (s.size : Int) then m else (s.size : Int)) F := by
 subst hm
 refine ⟨by omega, by split <;> omega, by split <;> omega, ?_⟩
 have e : (if (n : Int) < (s.size : Int) then (n : Int) else (s.size : Int)).toNat = min s.size n := by split <;> omega
 rw [e]; exact hF
theorem yd7 {α β : Type} {f : α → β} {l : List α} {k : Nat} {x : α} (hx : l[k]? = some x) : (l.take (k + 1)).map f = (l.take k).map f ++ [f x] := by
 rw [List.take_add_one, hx]; simp
theorem ydF {α : Type} {l : List α} {k : Nat} (n : Nat) (hk : k ≤ n) (h : ¬ (k < l.length ∧ k < n)) (hk2 : k ≤ l.length) : l.take k = l.take n := by
 by_cases h1 : k = n
 ·rw [h1]
 ·rw [List.take_of_length_le (by omega), List.take_of_length_le (by omega)]
def yHB (r : PRec) : PRec := ⟨r.hk, ypG 80 r.key, r.tomb, ypG 600 r.val⟩
def yvK (b : PBatch) : PBatch := ⟨b.prod, b.epoch, b.seq, (b.recs.take 20).map yHB⟩
def yCI (o : POp) : POp := ⟨o.kind, ⟨ypG 40 o.part.t, o.part.n⟩, o.n, o.off, yvK o.b, ypG 40 o.g, ypG 40 o.m, o.gen, o.robin, (o.topics.take 12).map (ypG 40)⟩
def yIc (c : PCall) : PCall := ⟨c.c, c.n, yCI c.op⟩
def yBv (xs : List PCall) : List PCall := (xs.take 12).map yIc
def yHH (x : PFound) : PFound := ⟨x.off, ⟨x.r.hk, ypG 80 x.r.key, x.r.tomb, ypG 600 x.r.val⟩⟩
def yD9 (x : PPart) : PPart := ⟨ypG 40 x.t, x.n⟩
def ydG (r : PRep) : PRep := ⟨r.e, r.off, r.n, r.gen, (r.found.take 70).map yHH, (r.parts.take 70).map yD9⟩
theorem yBw (r : PRec) (w : World) : Calls pP 116 #[r.v] w fun e w' => e = .returned (yHB r).v ∧ Mod [] w w' := by
 refine yaQ (yDK ?_)
 intro b1 f1 b2 f2
 refine ydR (n := 80) rfl (ydR (n := 600) rfl ?_)
 intro w3 A3
 exact ⟨rfl, A3.mod⟩
theorem yAj {w : World} {b : PBatch} {rs : Sl} (h : ybW w 4 yeT rs.a rs.n b.recs) (hw : rs.n ≤ maxLen) :
  Calls pP 86 #[b.v rs] w fun e w' => ∃ v, e = .returned v ∧ ∃ rs' : Sl, v = (yvK b).v rs' ∧ Row w' w.heap.size 53 4 yeT rs'.a rs'.n rs'.c (yvK b).recs ∧ Mod [] w w' := by
 refine yDL ?_
 intro b1 f1 b2 f2 b3 f3 w1 A1
 have l1 := A1.lt b1 (by simp)
 have l2 := A1.lt b2 (by simp)
 have l3 := A1.lt b3 (by simp)
 have s1 := A1.mod.size
 have hn := h.1
 refine yuJ (fun mm x a n c w' => ∃ k : Nat, x = k ∧ k ≤ b.recs.length ∧ k ≤ 20 ∧ Row w' w1.heap.size 53 4 yeT a n c ((b.recs.take k).map yHB) ∧ Mod [] w w' ∧ w1.heap.size ≤ w'.heap.size ∧ mm = b.recs.length - k) b.recs.length
  ⟨0, rfl, by omega, by omega, Row.nil .., A1.mod, Nat.le_refl _, rfl⟩ ?_
 rintro mm x a n c w2 ⟨k, rfl, hk, hk2, hRow, N2, s2, rfl⟩
 have hlk : ((b.recs.take k).map yHB).length = k := by rw [List.length_map, List.length_take]; omega
 have fin : ∀ {w'}, ¬ (k < b.recs.length ∧ k < 20) → Adv [b2] [] w2 w' → ∃ rs' : Sl, Value.agg #[.int .i64 b.prod, .int .i64 b.epoch, .int .i64 b.seq, .slice a n c] = (yvK b).v rs' ∧ Row w' w.heap.size 53 4 yeT rs'.a rs'.n rs'.c (yvK b).recs ∧ Mod [] w w' := fun {w'} hne A => by
  rw [ydF 20 hk2 hne hk] at hRow
  exact ⟨⟨a, n, c⟩, rfl, (hRow.keep A.mod fun ad ha hk => by have := hRow.base ad ha; simp at hk; omega).rebase s1, N2.go0 A.mod (by simpa using f2)⟩
 refine yaC (fun hlt => ?_) fun hge => fun w3 A3 => fin (by omega) A3
 refine yaC (fun hlt2 => ?_) fun hge => fun w3 A3 => fin (by omega) A3
 obtain ⟨r, hr⟩ : ∃ r, b.recs[k]? = some r := ⟨_, List.getElem?_eq_getElem (by omega)⟩
 refine (h.keep0 N2).ixW hr fun q hq => ?_
 intro w3 A3
 have hq := hq w3 A3.mod
 refine yaM (x := r.hk) (by simpa [add_zero] using hq 0 _ rfl) (yaH (hq 1 _ rfl) (yaM (hq 2 _ rfl) (yaH (hq 3 _ rfl) ?_)))
 refine (yBw r w3).mono ?_
 rintro e w4 ⟨rfl, M4⟩
 refine ⟨_, _, _, _, rfl, yaI.of0 M4, rfl, ?_⟩
 refine ycT fun b5 w5 c5 M5 f5 => ?_
 have K5 : Mod [] w2 w5 := (A3.mod.go0 M4 (by simp)).go0 M5 (by simp)
 have s5 := K5.size
 obtain ⟨i0, hi, hz0, hz1, hz2⟩ := info_parts yC9
 refine ybR (x := yHB r) (hRow.keep0 K5) Tryz.underlying44 hi hz0 hz1 hz2 rfl (by decide) c5 rfl (ymD _) (by omega) (by unfold maxLen; omega) (by omega) fun a' c' w6 hR6 hM6 => ?_
 have M6 := hM6 _ (ycU a)
 have hrow := ybD hRow
 refine ⟨yaI.of M6 fun b hb _ hb' => ?_, ?_⟩
 ·have := hrow b hb'; simp at hb; omega
 intro w7 A7
 unfold maxLen at hw
 refine yuI (b.recs.length - (k + 1)) (by omega) ⟨k + 1, by rw [yaG (by omega) (by omega)]; omega, by omega, by omega, Row.keep (by rw [yd7 hr]; exact hR6) A7.mod fun ad ha hk => ?_, ?_, by have := M6.size; have := A7.mod.size; omega, rfl⟩
 ·have := hR6.base ad ha; simp at hk; omega
 ·refine ((N2.go0 K5 (by simp)).go0 M6 fun i hi => ?_).go0 A7.mod (by simpa using f3)
  have := hrow i hi; omega
theorem yEa {w : World} {o : POp} {rs ts : Sl} (h : OpRd w o rs ts) :
  Calls pP 52 #[o.v rs ts] w fun e w' => ∃ v, e = .returned v ∧ ∃ rs' ts' : Sl, v = (yCI o).v rs' ts' ∧ OpOwn w' w.heap.size (yCI o) rs' ts' ∧ Mod [] w w' := by
 refine yDM ?_
 intro b1 f1 b2 f2 b3 f3
 refine ydR (n := 40) rfl (ydR (n := 40) rfl (ydR (n := 40) rfl ?_))
 intro w1 A1
 have l1 := A1.lt b1 (by simp)
 have l2 := A1.lt b2 (by simp)
 have l3 := A1.lt b3 (by simp)
 have s1 := A1.mod.size
 have hn := h.topics.1
 have hw := h.wt
 unfold maxLen at hw
 refine (yAj (b := o.b) (rs := rs) (h.recs.keep0 A1.mod) h.wr).mono ?_
 rintro e w2 ⟨_, rfl, rs', rfl, hB, M2⟩
 have s2 := M2.size
 refine ⟨_, _, _, _, _, _, rfl, yaI.of0 M2, ?_⟩
 intro w3 A3
 have s3 := A3.mod.size
 have hB3 : Row w3 w1.heap.size 53 4 yeT rs'.a rs'.n rs'.c (yvK o.b).recs := hB.keep A3.mod fun ad ha hk => by have := hB.base ad ha; simp at hk; omega
 have N3 := (A1.mod.go0 M2 (by simp)).go0 A3.mod (by simpa using f3)
 refine yuL (fun mm x a n c w' => ∃ k : Nat, x = k ∧ k ≤ o.topics.length ∧ k ≤ 12 ∧ Row w' w1.heap.size 9 1 yiX a n c ((o.topics.take k).map (ypG 40)) ∧ Row w' w1.heap.size 53 4 yeT rs'.a rs'.n rs'.c (yvK o.b).recs ∧ Mod [] w w' ∧ w1.heap.size ≤ w'.heap.size ∧ mm = o.topics.length - k) o.topics.length
  ⟨0, rfl, by omega, by omega, Row.nil .., hB3, N3, by omega, rfl⟩ ?_
 rintro mm x a n c w4 ⟨k, rfl, hk, hk2, hRow, hB4, N4, s4, rfl⟩
 have hlk : ((o.topics.take k).map (ypG 40)).length = k := by rw [List.length_map, List.length_take]; omega
 have fin : ∀ {w'}, ¬ (k < o.topics.length ∧ k < 12) → Adv [b2] [] w4 w' → ∃ rs'' ts' : Sl, Value.agg #[.int .i64 o.kind, .string (ypG 40 o.part.t), .int .i64 o.part.n, .int .i64 o.n, .int .i64 o.off, .int .i64 (yvK o.b).prod, .int .i64 (yvK o.b).epoch, .int .i64 (yvK o.b).seq, .slice rs'.a rs'.n rs'.c, .string (ypG 40 o.g), .string (ypG 40 o.m), .int .i64 o.gen, .bool o.robin, .slice a n c] = (yCI o).v rs'' ts' ∧ OpOwn w' w.heap.size (yCI o) rs'' ts' ∧ Mod [] w w' := fun {w'} hne A => by
  rw [ydF 12 hk2 hne hk] at hRow
  exact ⟨rs', ⟨a, n, c⟩, rfl, ⟨(hB4.keep A.mod fun ad ha hk => by have := hB4.base ad ha; simp at hk; omega).rebase s1, (hRow.keep A.mod fun ad ha hk => by have := hRow.base ad ha; simp at hk; omega).rebase s1, by simp [yCI, yvK]; omega, by simp [yCI]; omega⟩, N4.go0 A.mod (by simpa using f2)⟩
 refine yaC (fun hlt => ?_) fun hge => fun w5 A5 => fin (by omega) A5
 refine yaC (fun hlt2 => ?_) fun hge => fun w5 A5 => fin (by omega) A5
 obtain ⟨t, ht⟩ : ∃ t, o.topics[k]? = some t := ⟨_, List.getElem?_eq_getElem (by omega)⟩
 refine (h.topics.keep0 N4).ixW ht fun q hq => ?_
 intro w5 A5
 refine yaH (x := t) (by simpa [add_zero] using hq w5 A5.mod 0 _ rfl) ?_
 refine (h.topics.keep0 N4).ixW ht fun q hq => ?_
 refine yaH (x := t) (by simpa [add_zero] using hq w5 A5.mod 0 _ rfl) ?_
 refine ydR (n := 40) rfl ?_
 refine ycT fun b6 w6 c6 M6 f6 => ?_
 have K6 : Mod [] w4 w6 := A5.mod.go0 M6 (by simp)
 have s6 := K6.size
 obtain ⟨i0, hi, hz0, hz1, hz2⟩ := info_parts yDa
 refine ybR (enc := yiX) (x := ypG 40 t) (hRow.keep0 K6) Tryz.underlying47 hi hz0 hz1 hz2 rfl (by decide) c6 rfl (ymE _) (by omega) (by unfold maxLen; omega) (by omega) fun a' c' w7 hR7 hM7 => ?_
 have M7 := hM7 _ (ycU a)
 have s7 := M7.size
 have hrow := ybD hRow
 refine ⟨yaI.of M7 fun b hb _ hb' => ?_, ?_⟩
 ·have := hrow b hb'; simp at hb; omega
 intro w8 A8
 have s8 := A8.mod.size
 have hB7 : Row w7 w1.heap.size 53 4 yeT rs'.a rs'.n rs'.c (yvK o.b).recs := (hB4.keep0 K6).keep M7 fun ad ha hk => by
  obtain ⟨_, cur, hc⟩ := hB4.block ad ha
  obtain ⟨_, _, cur2, hc2⟩ := hrow _ hk
  rw [hc2] at hc; cases hc
 refine yuK (o.topics.length - (k + 1)) (by omega) ⟨k + 1, by rw [yaG (by omega) (by omega)]; omega, by omega, by omega, Row.keep (by rw [yd7 ht]; exact hR7) A8.mod fun ad ha hk => ?_, hB7.keep A8.mod fun ad ha hk => ?_, ?_, by omega, rfl⟩
 ·have := hR7.base ad ha; simp at hk; omega
 ·have := hB7.base ad ha; simp at hk; omega
 ·refine ((N4.go0 K6 (by simp)).go0 M7 fun i hi => ?_).go0 A8.mod (by simpa using f3)
  have := hrow i hi; omega
theorem yBx {w : World} {a : Option Addr} {n c : Nat} {ll : List CV} (h : ybW w 16 CV.cs a n ll) (hO : ∀ q ∈ ll, OpRd w q.x.op q.rs q.ts) (hw : n ≤ maxLen) :
  Calls pP 20 #[.slice a n c] w fun e w' => ∃ v, e = .returned v ∧ ∃ s' : Sl, v = .slice s'.a s'.n s'.c ∧ ybA w' w.heap.size s' (yBv (ll.map (·.x))) ∧ Mod [] w w' := by
 have hn := h.1
 unfold maxLen at hw
 refine yDN ?_
 refine ycT fun b1 w1 c1 M1 f1 => ?_
 have s1 := M1.size
 refine yuN (fun mm a3 n3 c3 x w' => ∃ (k : Nat) (l : List CV), x = k ∧ k ≤ ll.length ∧ k ≤ 12 ∧ l.map (·.x) = ((ll.map (·.x)).take k).map yIc ∧ Row w' w.heap.size 51 16 CV.cs a3 n3 c3 l ∧ (∀ q ∈ l, OpOwn w' w.heap.size q.x.op q.rs q.ts) ∧ Mod [] w w' ∧ mm = ll.length - k) ll.length
  ⟨0, [], rfl, by omega, by omega, by simp, Row.fresh c1 f1, by simp, M1, rfl⟩ ?_
 rintro mm a3 n3 c3 x w2 ⟨k, l, rfl, hk, hk2, hlx, hRow, hOw, M2, rfl⟩
 have hlk : l.length = k := by have := congrArg List.length hlx; simp at this; omega
 have fin : ¬ (k < (ll.map (·.x)).length ∧ k < 12) → ∃ s' : Sl, Value.slice a3 n3 c3 = .slice s'.a s'.n s'.c ∧ ybA w2 w.heap.size s' (yBv (ll.map (·.x))) ∧ Mod [] w w2 := fun hne => ⟨⟨a3, n3, c3⟩, rfl, ⟨l, hRow, hOw, by rw [hlx, yBv, ydF 12 hk2 hne (by simpa using hk)]⟩, M2⟩
 have s2 := M2.size
 refine yaC (fun hlt => ?_) fun hge => fin (by simp; omega)
 refine yaC (fun hlt2 => ?_) fun hge => fin (by simp; omega)
 obtain ⟨q, hq⟩ : ∃ q, ll[k]? = some q := ⟨_, List.getElem?_eq_getElem (by omega)⟩
 refine (h.keep0 M2).ixW hq fun ad had => ?_
 intro w3 A3
 have s3 := A3.mod.size
 have N3 := M2.go0 A3.mod (by simp)
 refine yaE (x := q.x.c) (by simpa [add_zero] using had w3 A3.mod 0 _ rfl) ?_
 refine (h.keep0 N3).ixW hq fun ad2 had2 => yaE (x := q.x.n) (had2 w3 (Mod.refl _) 1 _ rfl) ?_
 refine (h.keep0 N3).ixW hq fun ad3 had3 => ?_
 have hc := had3 w3 (Mod.refl _)
 refine yrC (ymV hc) ?_
 refine (yEa ((hO q (List.mem_of_getElem? hq)).keep0 N3)).mono ?_
 rintro _ w4 ⟨_, rfl, rs', ts', rfl, hO', M4⟩
 have s4 := M4.size
 refine ⟨_, _, _, _, _, _, _, _, _, _, _, _, _, _, _, _, _, _, rfl, ?_, ?_, ?_⟩
 ·exact yaE (x := q.x.n) (had2 w4 M4 1 _ rfl) rfl
 ·exact yaE (x := q.x.c) (by simpa [add_zero] using had w4 (A3.mod.go0 M4 (by simp)) 0 _ rfl) rfl
 refine ycT fun b7 w7 c7 M7 f7 => ?_
 have s7 := M7.size
 have K7 : Mod [] w2 w7 := (A3.mod.go0 M4 (by simp)).go0 M7 (by simp)
 obtain ⟨i0, hi, hz0, hz1, hz2⟩ := info_parts ymG
 refine ybR (x := (⟨⟨q.x.c, q.x.n, yCI q.x.op⟩, rs', ts'⟩ : CV)) (hRow.keep0 K7) Tryz.underlying22 hi hz0 hz1 hz2 rfl (by decide) c7 rfl (CV.cs_one _) (by omega) (by unfold maxLen; omega) (by omega) fun a' c' w8 hR8 hM8 => ?_
 have M8 := hM8 _ (ycU a3)
 have hrow := ybD hRow
 have kp : ∀ {o rs ts}, OpOwn w7 w.heap.size o rs ts → OpOwn w8 w.heap.size o rs ts := fun hh => hh.keep M8 fun k hk cs T hc => by
  obtain ⟨_, _, cur, hcur⟩ := hrow k hk
  rw [K7.keep0 hcur] at hc; cases hc; decide
 refine yuM (ll.length - (k + 1)) (by omega) ⟨k + 1, _, by rw [yaG (by omega) (by omega)]; omega, by omega, by omega, by rw [yd7 (show (ll.map (·.x))[k]? = some q.x by rw [List.getElem?_map, hq]; rfl), List.map_append, hlx]; rfl, hR8, fun y hy => ?_, (M2.go0 K7 (by simp)).go0 M8 fun i hi => (hrow i hi).1, rfl⟩
 rcases List.mem_append.1 hy with hy | hy
 ·exact kp ((hOw y hy).keep0 K7)
 ·simp at hy; subst hy; exact kp ((hO'.keep0 M7).rebase (by omega))
set_option maxHeartbeats 1000000 in
theorem ypA {w : World} {r : PRep} {f p : Sl} (h : RepRd w r f p) :
  Calls pP 21 #[r.v f p] w fun e w' => ∃ v, e = .returned v ∧ ∃ f' p' : Sl, v = (ydG r).v f' p' ∧ RepOwn w' w.heap.size (ydG r) f' p' ∧ Mod [] w w' := by
 refine yD8 ?_
 intro b1 f1 b2 f2 b3 f3 w1 A1
 have l1 : ∀ b ∈ [b3, b2, b1], b < w1.heap.size := A1.lt
 have l3 := l1 b3 (by simp)
 have l2 := l1 b2 (by simp)
 have l1 := l1 b1 (by simp)
 have s1 := A1.mod.size
 refine yvB (fun mm x a n c w' => ∃ k : Nat, x = k ∧ k ≤ 70 ∧ k ≤ r.found.length ∧ Row w' w1.heap.size 55 5 yhL a n c ((r.found.take k).map yHH) ∧ Mod [] w w' ∧ w1.heap.size ≤ w'.heap.size ∧ mm = 70 - k) 70 ⟨0, rfl, by omega, by omega, Row.nil .., A1.mod, Nat.le_refl _, rfl⟩ ?_
 rintro mm x a1 n1 c1 w2 ⟨k, rfl, hk, hkf, hR, M2, hs2, rfl⟩
 have hl1 : ((r.found.take k).map yHH).length = k := by rw [List.length_map, List.length_take]; omega
 have e4 := h.found.1
 have e5 := h.parts.1
 refine yaC (fun hlt => ?_) fun hge => ?_
 ·refine yaC (fun hlt4 => ?_) fun hge => ?_
  ·obtain ⟨y, hy⟩ : ∃ y, r.found[k]? = some y := ⟨_, List.getElem?_eq_getElem (by have := h.found.1; omega)⟩
   have hym := h.sf y (List.mem_of_getElem? hy)
   unfold maxLen at hym
   refine (h.keep0 M2).found.ix hy fun q hq => yaE (x := y.off) (by simpa [add_zero] using hq 0 _ rfl) (yaM (hq 1 _ rfl) (yaH (hq 2 _ rfl) (yaM (hq 3 _ rfl) (yaH (hq 4 _ rfl) ?_))))
   intro b6 f6
   refine ydR (n := 80) rfl (ydR (n := 600) rfl ?_)
   intro w6 A6
   have l6 := A6.lt b6 (by simp)
   have s6 := A6.mod.size
   refine ycT fun b7 w7 c7 M7 f7 => ?_
   have s7 := M7.size
   obtain ⟨i0, hi0, hz0, hz1, hz2⟩ := info_parts yCZ
   refine ybR (x := yHH y) ((hR.keep0 A6.mod).keep0 M7) Tryz.underlying24 hi0 hz0 hz1 hz2 rfl (by decide) c7 rfl (ymA _) (by omega) (by unfold maxLen; omega) (by omega) fun a' c' w8 hR8 hM8 => ?_
   have M8 := hM8 _ (ycU a1)
   have hrow : ∀ k ∈ yjQ a1, w1.heap.size ≤ k ∧ k < w2.heap.size := by
    cases a1 with
    | none => simp [yjQ]
    | some ad => intro k hk; simp [yjQ] at hk; subst hk; obtain ⟨h1, cur, h2⟩ := hR.block ad rfl; exact ⟨h1, yaV h2⟩
   refine ⟨yaI.of M8 fun b hb _ hb' => ?_, ?_⟩
   ·have := hrow b hb'; simp at hb; omega
   intro w9 A9
   have N7 : Mod [] w2 w7 := A6.mod.go0 M7 (by simp)
   have N8 : Mod [] w w8 := (M2.go0 N7 (by simp)).go0 M8 fun i hi => by have := hrow i hi; omega
   have s8 := M8.size
   have s9 := A9.mod.size
   refine yvA (70 - (k + 1)) (by omega) ⟨k + 1, by rw [yaG (by omega) (by omega)]; omega, by omega, by have := (List.getElem?_eq_some_iff.1 hy).1; omega, Row.keep (by rw [yd7 hy]; exact hR8) A9.mod fun ad ha hk' => ?_, N8.go0 A9.mod (by simp; omega), by omega, rfl⟩
   have := hR8.base ad ha; simp at hk'; omega
  ·have hRf : Row w2 w1.heap.size 55 5 yhL a1 n1 c1 (ydG r).found := by
    have := ydF (l := r.found) 70 hk (by omega) hkf
    rw [this] at hR; exact hR
   clear hR
   refine ylJ (fun mm x a n c w' => ∃ k : Nat, x = k ∧ k ≤ 70 ∧ k ≤ r.parts.length ∧ Row w' w1.heap.size 43 2 yiS a n c ((r.parts.take k).map yD9) ∧ Row w' w1.heap.size 55 5 yhL a1 n1 c1 (ydG r).found ∧ Mod [] w w' ∧ w1.heap.size ≤ w'.heap.size ∧ mm = 70 - k) 70 ⟨0, rfl, by omega, by omega, Row.nil .., hRf, M2, hs2, rfl⟩ ?_
   rintro mm x a n c w3 ⟨k, rfl, hk, hkp, hP, hR, M3, hs3, rfl⟩
   have hl : ((r.parts.take k).map yD9).length = k := by rw [List.length_map, List.length_take]; omega
   have fin : ¬ (k < r.parts.length ∧ k < 70) → ∀ w4, Adv [b2] [] w3 w4 → ∃ f' p' : Sl, Value.agg #[.int .i64 r.e, .int .i64 r.off, .int .i64 r.n, .int .i64 r.gen, .slice a1 n1 c1, .slice a n c] = (ydG r).v f' p' ∧ RepOwn w4 w.heap.size (ydG r) f' p' ∧ Mod [] w w4 := fun hne w4 A4 => by
    rw [ydF 70 hk hne hkp] at hP
    refine ⟨⟨a1, n1, c1⟩, ⟨a, n, c⟩, rfl, ⟨?_, ?_, by simp [ydG]; omega, by simp [ydG]; omega⟩, M3.go0 A4.mod (by simp; omega)⟩
    ·refine (hR.keep A4.mod fun ad ha hk' => ?_).rebase (by omega)
     have := hR.base ad ha; simp at hk'; omega
    ·refine (hP.keep A4.mod fun ad ha hk' => ?_).rebase (by omega)
     have := hP.base ad ha; simp at hk'; omega
   refine yaC (fun hlt => ?_) fun hge => fin (by omega)
   refine yaC (fun hlt4 => ?_) fun hge => fin (by omega)
   obtain ⟨y, hy⟩ : ∃ y, r.parts[k]? = some y := ⟨_, List.getElem?_eq_getElem (by have := h.parts.1; omega)⟩
   have hym := h.sp y (List.mem_of_getElem? hy)
   unfold maxLen at hym
   refine (h.keep0 M3).parts.ix hy fun q hq => yaH (x := y.t) (by simpa [add_zero] using hq 0 _ rfl) (yaE (hq 1 _ rfl) ?_)
   intro b6 f6
   refine ydR (n := 40) rfl ?_
   intro w6 A6
   have l6 := A6.lt b6 (by simp)
   have s6 := A6.mod.size
   refine ycT fun b7 w7 c7 M7 f7 => ?_
   have s7 := M7.size
   obtain ⟨i0, hi0, hz0, hz1, hz2⟩ := info_parts yAT
   refine ybR (x := yD9 y) ((hP.keep0 A6.mod).keep0 M7) Tryz.underlying25 hi0 hz0 hz1 hz2 rfl (by decide) c7 rfl (yhY _) (by omega) (by unfold maxLen; omega) (by omega) fun a' c' w8 hR8 hM8 => ?_
   have M8 := hM8 _ (ycU a)
   have hrow : ∀ k ∈ yjQ a, w1.heap.size ≤ k ∧ k < w3.heap.size ∧ ∃ cur, w3.heap[k]? = some (.cells cur 43) := by
    cases a with
    | none => simp [yjQ]
    | some ad => intro k hk; simp [yjQ] at hk; subst hk; obtain ⟨h1, cur, h2⟩ := hP.block ad rfl; exact ⟨h1, yaV h2, cur, h2⟩
   refine ⟨yaI.of M8 fun b hb _ hb' => ?_, ?_⟩
   ·have := hrow b hb'; simp at hb; omega
   intro w9 A9
   have N7 : Mod [] w3 w7 := A6.mod.go0 M7 (by simp)
   have N8 : Mod [] w w8 := (M3.go0 N7 (by simp)).go0 M8 fun i hi => by have := hrow i hi; omega
   have s8 := M8.size
   have s9 := A9.mod.size
   refine ylI (70 - (k + 1)) (by omega) ⟨k + 1, by rw [yaG (by omega) (by omega)]; omega, by omega, by have := (List.getElem?_eq_some_iff.1 hy).1; omega, Row.keep (by rw [yd7 hy]; exact hR8) A9.mod fun ad ha hk' => ?_, ?_, N8.go0 A9.mod (by simp; omega), by omega, rfl⟩
   ·have := hR8.base ad ha; simp at hk'; omega
   ·have h7 := hR.keep0 N7
    refine (h7.keep M8 fun ad ha hk' => ?_).keep A9.mod fun ad ha hk' => ?_
    ·obtain ⟨_, _, cur, hc⟩ := hrow _ hk'
     obtain ⟨_, cur', hc'⟩ := hR.block ad ha
     rw [hc] at hc'; cases hc'
    ·have := hR.base ad ha; simp at hk'; omega
 ·have hRf : Row w2 w1.heap.size 55 5 yhL a1 n1 c1 (ydG r).found := by
   have := ydF (l := r.found) 70 hk (by omega) hkf
   rw [this] at hR; exact hR
  clear hR
  refine ylJ (fun mm x a n c w' => ∃ k : Nat, x = k ∧ k ≤ 70 ∧ k ≤ r.parts.length ∧ Row w' w1.heap.size 43 2 yiS a n c ((r.parts.take k).map yD9) ∧ Row w' w1.heap.size 55 5 yhL a1 n1 c1 (ydG r).found ∧ Mod [] w w' ∧ w1.heap.size ≤ w'.heap.size ∧ mm = 70 - k) 70 ⟨0, rfl, by omega, by omega, Row.nil .., hRf, M2, hs2, rfl⟩ ?_
  rintro mm x a n c w3 ⟨k, rfl, hk, hkp, hP, hR, M3, hs3, rfl⟩
  have hl : ((r.parts.take k).map yD9).length = k := by rw [List.length_map, List.length_take]; omega
  have fin : ¬ (k < r.parts.length ∧ k < 70) → ∀ w4, Adv [b2] [] w3 w4 → ∃ f' p' : Sl, Value.agg #[.int .i64 r.e, .int .i64 r.off, .int .i64 r.n, .int .i64 r.gen, .slice a1 n1 c1, .slice a n c] = (ydG r).v f' p' ∧ RepOwn w4 w.heap.size (ydG r) f' p' ∧ Mod [] w w4 := fun hne w4 A4 => by
   rw [ydF 70 hk hne hkp] at hP
   refine ⟨⟨a1, n1, c1⟩, ⟨a, n, c⟩, rfl, ⟨?_, ?_, by simp [ydG]; omega, by simp [ydG]; omega⟩, M3.go0 A4.mod (by simp; omega)⟩
   ·refine (hR.keep A4.mod fun ad ha hk' => ?_).rebase (by omega)
    have := hR.base ad ha; simp at hk'; omega
   ·refine (hP.keep A4.mod fun ad ha hk' => ?_).rebase (by omega)
    have := hP.base ad ha; simp at hk'; omega
  refine yaC (fun hlt => ?_) fun hge => fin (by omega)
  refine yaC (fun hlt4 => ?_) fun hge => fin (by omega)
  obtain ⟨y, hy⟩ : ∃ y, r.parts[k]? = some y := ⟨_, List.getElem?_eq_getElem (by have := h.parts.1; omega)⟩
  have hym := h.sp y (List.mem_of_getElem? hy)
  unfold maxLen at hym
  refine (h.keep0 M3).parts.ix hy fun q hq => yaH (x := y.t) (by simpa [add_zero] using hq 0 _ rfl) (yaE (hq 1 _ rfl) ?_)
  intro b6 f6
  refine ydR (n := 40) rfl ?_
  intro w6 A6
  have l6 := A6.lt b6 (by simp)
  have s6 := A6.mod.size
  refine ycT fun b7 w7 c7 M7 f7 => ?_
  have s7 := M7.size
  obtain ⟨i0, hi0, hz0, hz1, hz2⟩ := info_parts yAT
  refine ybR (x := yD9 y) ((hP.keep0 A6.mod).keep0 M7) Tryz.underlying25 hi0 hz0 hz1 hz2 rfl (by decide) c7 rfl (yhY _) (by omega) (by unfold maxLen; omega) (by omega) fun a' c' w8 hR8 hM8 => ?_
  have M8 := hM8 _ (ycU a)
  have hrow : ∀ k ∈ yjQ a, w1.heap.size ≤ k ∧ k < w3.heap.size ∧ ∃ cur, w3.heap[k]? = some (.cells cur 43) := by
   cases a with
   | none => simp [yjQ]
   | some ad => intro k hk; simp [yjQ] at hk; subst hk; obtain ⟨h1, cur, h2⟩ := hP.block ad rfl; exact ⟨h1, yaV h2, cur, h2⟩
  refine ⟨yaI.of M8 fun b hb _ hb' => ?_, ?_⟩
  ·have := hrow b hb'; simp at hb; omega
  intro w9 A9
  have N7 : Mod [] w3 w7 := A6.mod.go0 M7 (by simp)
  have N8 : Mod [] w w8 := (M3.go0 N7 (by simp)).go0 M8 fun i hi => by have := hrow i hi; omega
  have s8 := M8.size
  have s9 := A9.mod.size
  refine ylI (70 - (k + 1)) (by omega) ⟨k + 1, by rw [yaG (by omega) (by omega)]; omega, by omega, by have := (List.getElem?_eq_some_iff.1 hy).1; omega, Row.keep (by rw [yd7 hy]; exact hR8) A9.mod fun ad ha hk' => ?_, ?_, N8.go0 A9.mod (by simp; omega), by omega, rfl⟩
  ·have := hR8.base ad ha; simp at hk'; omega
  ·have h7 := hR.keep0 N7
   refine (h7.keep M8 fun ad ha hk' => ?_).keep A9.mod fun ad ha hk' => ?_
   ·obtain ⟨_, _, cur, hc⟩ := hrow _ hk'
    obtain ⟨_, cur', hc'⟩ := hR.block ad ha
    rw [hc] at hc'; cases hc'
   ·have := hR.base ad ha; simp at hk'; omega
def yjR (m : PMail) : PMail := ⟨m.kind, m.fr, m.to, m.view, m.normal, m.last, m.commit, m.nonce, m.base, m.n, yBv m.calls, ydG m.r⟩
theorem MailRd.keep0 {w w' : World} {m : PMail} {s f p : Sl} (h : MailRd w m s f p) (M : Mod [] w w') : MailRd w' m s f p := by
 obtain ⟨⟨ll, h1, h2, h3⟩, h4, h5⟩ := h
 exact ⟨⟨ll, h1.keep0 M, fun q hq => (h2 q hq).keep0 M, h3⟩, h4, h5.keep0 M⟩
theorem yEb {w : World} {m : PMail} {s f p : Sl} (h : MailRd w m s f p) :
  Calls pP 9 #[m.v s f p] w fun e w' => ∃ v, e = .returned v ∧ ∃ s' f' p' : Sl, v = (yjR m).v s' f' p' ∧ MailOwn w' w.heap.size (yjR m) s' f' p' ∧ Mod [] w w' := by
 refine yDY ?_
 intro b1 f1 b2 f2 b3 f3 w4 A4
 have l1 := A4.lt b1 (by simp)
 have l2 := A4.lt b2 (by simp)
 have l3 := A4.lt b3 (by simp)
 have s4 := A4.mod.size
 obtain ⟨ll, h1, h2, h3⟩ := (h.keep0 A4.mod).calls
 refine (yBx h1 h2 h.ws).mono ?_
 rintro _ w5 ⟨_, rfl, s', rfl, hC, M5⟩
 rw [h3] at hC
 have s5 := M5.size
 refine ⟨_, _, _, rfl, yaI.of0 M5, ?_⟩
 intro w9 A9
 have s9 := A9.mod.size
 have N9 : Mod [] w w9 := (A4.mod.go0 M5 (by simp)).go0 A9.mod (by simpa using f3)
 refine (ypA (h.keep0 N9).rep).mono ?_
 rintro _ w10 ⟨_, rfl, f', p', rfl, hR, M10⟩
 have s10 := M10.size
 refine ⟨_, _, _, _, _, _, _, _, _, _, rfl, yaI.of0 M10, ?_⟩
 intro w21 A21
 refine ⟨s', f', p', rfl, ⟨((hC.keepB A9.mod (by simp; omega)).keep0 M10).keepB A21.mod (by simp; omega) |>.rebase s4, (hR.keepB A21.mod (by simp; omega)).rebase (by omega)⟩, (N9.go0 M10 (by simp)).go0 A21.mod (by simp; omega)⟩
theorem yAk {w : World} {s : Sl} {xs : List PCall} (h : yeJ w s xs) (hc : xs = []) : s.n = 0 := by
 obtain ⟨ll, h1, _, h3⟩ := h
 rw [hc] at h3
 have : ll = [] := by simpa using h3
 rw [h1.1, this]; rfl
theorem yjO {s : Sl} (hn : s.n = 0) (w : World) :
  Calls pP 32 #[.slice s.a s.n s.c] w fun e w' => e = .returned (.tuple #[.string (bs (yaK 0)), .int .i64 0]) ∧ Mod [] w w' := by
 obtain ⟨a, n, c⟩ := s
 have hn : n = 0 := hn
 subst hn
 refine yaQ (yDS ?_)
 refine yaC (fun g => absurd g (by show ¬ ((0 : Nat) : Int) > 4096; omega)) fun _ => ?_
 have chk : Calls pP 63 #[.slice a 0 c] w fun e w' => e = .returned (.int .i64 0) ∧ w' = w := by
  refine yaQ (yDQ ?_)
  refine yuO (fun mm x w' => x = 0 ∧ w' = w) 0 ⟨rfl, rfl⟩ ?_
  rintro mm x w' ⟨rfl, rfl⟩
  refine yaC (fun g => absurd g (by decide)) fun _ => ?_
  refine yuP (fun mm x w2 => x = 0 ∧ w2 = w') 0 ⟨rfl, rfl⟩ ?_
  rintro mm x w2 ⟨rfl, rfl⟩
  exact yaC (fun g => absurd g (by decide)) fun _ => ⟨rfl, rfl⟩
 refine chk.mono ?_
 rintro _ w1 ⟨rfl, rfl⟩
 refine ⟨_, rfl, yaB (fun g => absurd g (by decide)) fun _ => ?_⟩
 refine (ygH (n := 0) (by omega) w1).mono ?_
 rintro _ w2 ⟨rfl, M2⟩
 refine ⟨_, rfl, ?_⟩
 refine yuQ (fun mm t x w' => x = 0 ∧ t = bs (yaK 0) ∧ w' = w2) 0 ⟨rfl, rfl, rfl⟩ ?_
 rintro mm t x w3 ⟨rfl, rfl, rfl⟩
 exact yaC (fun g => absurd g (by show ¬ ((0 : Int) < ((0 : Nat) : Int)); omega)) fun _ => ⟨rfl, M2⟩
theorem ypB {w : World} {m : PMail} {s f p : Sl} (h : MailAt w m s f p) (hc : m.calls = []) :
  Calls pP 13 #[m.v s f p] w fun e w' => e = .returned (.int .i64 (ycG m)) ∧ Mod [] w w' := by
 refine yaQ (yDU ?_)
 intro b1 f1
 refine yaC (fun g1 => fun w2 A2 => ⟨by rw [ycG, if_pos (.inl g1)], A2.mod⟩) fun g1 => ?_
 refine yaC (fun g2 => fun w2 A2 => ⟨by rw [ycG, if_pos (.inr (by omega))], A2.mod⟩) fun g2 => ?_
 have hE : ycG m = if ((yaR m).all num) = false then 1 else if ycQ m.calls ≠ 0 then ycQ m.calls else yfA m.r := by rw [ycG, if_neg (by omega)]
 intro w4 A4
 refine (ymW m s f p).mono ?_
 rintro e w5 ⟨_, rfl, c5, rfl, h5, M5⟩
 have N5 := A4.mod.go0 M5 (by simp)
 refine ⟨_, _, _, rfl, yaI.of0 M5, ?_⟩
 refine yuW (fun mm x w' => ∃ k : Nat, x = k ∧ k ≤ 10 ∧ ((yaR m).take k).all num = true ∧ mm = 10 - k ∧ Mod [] w5 w') 10 ⟨0, rfl, by omega, by simp, rfl, Mod.refl _⟩ ?_
 rintro mm x w6 ⟨k, rfl, hk, hal, rfl, M6⟩
 have N6 := N5.go0 M6 (by simp)
 refine yaC (fun hlt => ?_) fun hge => ?_
 ·have hk' : k < 10 := by omega
  obtain ⟨x, hx⟩ : ∃ x, (yaR m)[k]? = some x := ⟨_, List.getElem?_eq_getElem (by simpa [yaR] using hk')⟩
  refine (h5.keep0 M6).ix hx fun q hq => yaE (x := x) (by simpa [add_zero] using hq 0 _ rfl) ?_
  refine (yfN x w6).mono ?_
  rintro _ w7 ⟨rfl, rfl⟩
  refine ⟨_, rfl, yaI.of0 (Mod.refl _), yaB (fun g3 => ⟨?_, N6⟩) fun g3 => ?_⟩
  ·rw [hE, if_pos]
   apply Bool.eq_false_iff.2
   intro hh
   have := List.all_eq_true.1 hh x (List.mem_of_getElem? hx)
   rw [this] at g3; cases g3
  ·exact yuV (10 - (k + 1)) (by omega) ⟨k + 1, by rw [yaG (by omega) (by omega)]; omega, by omega, by rw [yb6 hx, hal, yAp g3]; rfl, rfl, M6⟩
 ·have hk' : k = 10 := by omega
  subst hk'
  rw [List.take_of_length_le (by simp [yaR])] at hal
  rw [hal, if_neg (by decide)] at hE
  have ht : ycQ m.calls = 0 := by rw [hc]; decide
  refine (yjO (s := s) (yAk h.calls hc) w6).mono ?_
  rintro e w7 ⟨rfl, M7⟩
  have N7 := N6.go0 M7 (by simp)
  refine ⟨_, _, rfl, yaI.of0 M7, yaB (fun g => ?_) fun g => ?_⟩
  ·simp at g
  rw [if_neg (by simpa using ht)] at hE
  refine (ylG (h.rep.keep0 N7)).mono ?_
  rintro e w8 ⟨rfl, M8⟩
  exact ⟨_, _, rfl, yaI.of0 M8, by rw [hE], N7.go0 M8 (by simp)⟩
set_option maxHeartbeats 4000000 in
theorem yvC {w : World} {m : PMail} {s f p : Sl} (h : MailAt w m s f p) (hc : m.calls = []) :
  Calls pP 11 #[m.v s f p] w fun e w' => e = .returned (.tuple #[.string (if ybS m = 0 then yb8 m else bs []), .int .i64 (ybS m)]) ∧ Mod [] w w' := by
 refine yaQ (yDV ?_)
 intro b1 f1 w2 A2
 refine (ypB (h.keep0 A2.mod) hc).mono ?_
 rintro _ w3 ⟨rfl, M3⟩
 have N3 := A2.mod.go0 M3 (by simp)
 refine ⟨_, rfl, yaI.of0 M3, yaB (fun g => ?_) fun g => ?_⟩
 ·have g : ycG m ≠ 0 := by simpa using g
  have e : ybS m = ycG m := by rw [ybS, if_pos g]
  rw [e, if_neg g]; exact ⟨rfl, N3⟩
 have g : ycG m = 0 := by simpa using g
 obtain ⟨_, hn, ht, hr⟩ := yb7 g
 have hE : ybS m = if (ya9 m).length > 1048576 then 2 else 0 := by rw [ybS, if_neg (by simpa using g)]
 refine (ymW m s f p).mono ?_
 rintro _ w4 ⟨_, rfl, c4, rfl, h4, M4⟩
 refine ⟨_, _, _, rfl, yaI.of0 M4, ?_⟩
 have N4 := N3.go0 M4 (by simp)
 refine yuY (fun mm s5 x7 w' => ∃ k : Nat, x7 = k ∧ k ≤ 10 ∧ s5 = bs (((yaR m).take k).flatMap yjK) ∧ Mod [] w4 w' ∧ mm = 10 - k) 10 ⟨0, rfl, by omega, by simp [yFu], Mod.refl _, rfl⟩ ?_
 rintro mm s5 x7 w5 ⟨k, rfl, hk, rfl, M5, rfl⟩
 have lk := yd5 hn k
 have N5 := N4.go0 M5 (by simp)
 refine yaC (fun hlt => ?_) fun hge => ?_
 ·have hk' : k < 10 := by omega
  obtain ⟨x, hx⟩ : ∃ x, (yaR m)[k]? = some x := ⟨_, List.getElem?_eq_getElem (by simpa [yaR] using hk')⟩
  have hx1 := ygI hn hx
  have ls := yd4 hx1
  have lv := (yaN x.toNat ls.1).2
  refine (h4.keep0 M5).ix hx fun q hq => yaE (x := x) (by simpa [add_zero] using hq 0 _ rfl) ?_
  rw [yHz hx1]
  refine (ygH ls.1 w5).mono ?_
  rintro _ w6 ⟨rfl, M6⟩
  refine ⟨_, rfl, yaI.of0 M6, by rw [yaD, yaD]; omega, ?_⟩
  rw [ybB]
  exact yuX (10 - (k + 1)) (by omega) ⟨k + 1, by rw [yaG (by omega) (by omega)]; omega, by omega, by rw [yo7 hx], M5.go0 M6 (by simp), rfl⟩
 ·have hk' : k = 10 := by omega
  subst hk'
  have e10 : (yaR m).take 10 = yaR m := List.take_of_length_le (by simp [yaR])
  rw [e10] at lk ⊢
  refine (yjO (s := s) (yAk h.calls hc) w5).mono ?_
  rw [show bs (yaK 0) = bs (ybI m.calls) by rw [hc]; simp [ybI]]
  rintro _ w6 ⟨rfl, M6⟩
  have N6 := N5.go0 M6 (by simp)
  refine ⟨_, _, rfl, yaI.of0 M6, ?_⟩
  refine (ylG (h.rep.keep0 N6)).mono ?_
  rw [hr, if_pos rfl]
  rintro _ w7 ⟨rfl, M7⟩
  refine ⟨_, _, rfl, yaI.of0 M7, ?_⟩
  have lt := yjL ht
  have lr : (ydB m.r).length ≤ 60000 := (RepGood.of hr).len3 m.r.parts.length
  refine (ycR (bs (ybI m.calls)) (by rw [yaD]; omega) w7).mono ?_
  rintro _ w8 ⟨rfl, M8⟩
  refine ⟨_, rfl, yaI.of0 M8, ?_⟩
  refine (ycR (bs (ydB m.r)) (by rw [yaD]; omega) w8).mono ?_
  rintro _ w9 ⟨rfl, M9⟩
  have p1 := (yaZ (bs (ybI m.calls)) (by rw [yaD]; omega)).2
  have p2 := (yaZ (bs (ydB m.r)) (by rw [yaD]; omega)).2
  rw [yaD] at p1 p2
  refine ⟨_, rfl, yaI.of0 M9, by rw [yaD, yaD]; omega, ?_⟩
  rw [ybB]
  refine ⟨by rw [yaD, yaD, List.length_append]; omega, ?_⟩
  rw [ybB]
  have eB : (yaR m).flatMap yjK ++ (ya7 (bs (ybI m.calls)) ++ ya7 (bs (ydB m.r))) = ya9 m := by rw [← List.append_assoc]; rfl
  rw [eB]
  have lB := yo6 g
  have N9 : Mod [] w w9 := ((N6.go0 M7 (by simp)).go0 M8 (by simp)).go0 M9 (by simp)
  refine yaC (fun hbig => ?_) fun hbig => ?_
  ·rw [yaD] at hbig
   have e : ybS m = 2 := by rw [hE, if_pos (by omega)]
   rw [e]; exact ⟨rfl, N9⟩
  ·rw [yaD] at hbig
   have e : ybS m = 0 := by rw [hE, if_neg (by omega)]
   refine (yzM (bs (ya9 m)) (by rw [yaD]; omega) w9).mono ?_
   rintro _ w10 ⟨rfl, M10⟩
   refine ⟨_, rfl, yaI.of0 M10, ?_⟩
   rw [e, if_pos rfl]; exact ⟨rfl, N9.go0 M10 (by simp)⟩
theorem yIE {w : World} {b bm k : Nat} (h : w.heap[bm]? = some (.cells #[.pointer (some ⟨b, 0, none⟩), .pointer (some ⟨b, 1, none⟩), .pointer (some ⟨b, 2, none⟩), .pointer (some ⟨b, 3, none⟩), .pointer (some ⟨b, 4, none⟩), .pointer (some ⟨b, 5, none⟩), .pointer (some ⟨b, 6, none⟩), .pointer (some ⟨b, 7, none⟩), .pointer (some ⟨b, 8, none⟩), .pointer (some ⟨b, 9, none⟩)] 63)) (hk : k < 10) : w.cell? (Addr.add ⟨bm, 0, none⟩ (Int.toNat (k : Nat) * 1)) = some (.pointer (some ⟨b, k, none⟩)) := by
 rw [ya1, yaY h]
 rcases (by omega : k = 0 ∨ k = 1 ∨ k = 2 ∨ k = 3 ∨ k = 4 ∨ k = 5 ∨ k = 6 ∨ k = 7 ∨ k = 8 ∨ k = 9) with rfl | rfl | rfl | rfl | rfl | rfl | rfl | rfl | rfl | rfl <;> rfl
theorem yEc {m m' : PMail} : m = m' ↔ yaR m = yaR m' ∧ m.calls = m'.calls ∧ m.r = m'.r := by
 obtain ⟨a1, a2, a3, a4, a5, a6, a7, a8, a9, a10, a11, a12⟩ := m
 obtain ⟨b1, b2, b3, b4, b5, b6, b7, b8, b9, b10, b11, b12⟩ := m'
 simp [yaR, and_assoc]
set_option maxHeartbeats 4000000 in
theorem ytJ {w : World} {m m' : PMail} {s f p s' f' p' : Sl} (h : MailAt w m s f p) (h' : MailAt w m' s' f' p') (hl : m.calls.length ≤ 1000000) :
  Calls pP 14 #[m.v s f p, m'.v s' f' p'] w fun e w' => e = .returned (.bool (decide (m = m'))) ∧ Mod [] w w' := by
 refine yaQ (yDX ?_)
 intro b1 f1 b2 f2 w3 A3 h31
 have nd : b1 ≠ b2 := by have := A3.nd; simp at this; exact fun h => this h.symm
 have s3 := A3.mod.size
 have l1 := A3.lt b1 (by simp)
 have l2 := A3.lt b2 (by simp)
 refine (yoV b1 w3).mono ?_
 rintro _ w4 ⟨rfl, M4⟩
 refine ⟨_, _, _, _, _, _, _, _, _, _, rfl, yaI.of0 M4, _, _, _, _, _, _, _, _, _, _, _, _, _, _, _, _, _, _, _, _, _, _, _, M4.keep0 h31, ?_⟩
 intro w5 A5 h51 h52
 refine (yoV b2 w5).mono ?_
 rintro _ w6 ⟨rfl, M6⟩
 refine ⟨_, _, _, _, _, _, _, _, _, _, rfl, _, _, _, _, _, _, _, _, _, _, _, _, _, _, _, _, _, _, _, _, _, _, _, M6.keep0 h51, _, _, _, _, _, _, _, _, _, _, _, _, _, _, _, _, _, _, _, _, _, _, _, M6.keep0 h52, ?_⟩
 intro b3 f3 b4 f4 w7 A7 h71 h72 h73 h74
 have N7 : Mod [] w w7 := (((A3.mod.go0 M4 (by simp)).go0 A5.mod (by simp)).go0 M6 (by simp)).go0 A7.mod (by simp)
 have no : ∀ {w'}, m ≠ m' → Mod [] w w' → (Value.bool false = Value.bool (decide (m = m')) ∧ Mod [] w w') := fun hn M => ⟨congrArg Value.bool (decide_eq_false hn).symm, M⟩
 refine yu2 (fun mm x w' => ∃ k : Nat, x = k ∧ k ≤ 10 ∧ (yaR m).take k = (yaR m').take k ∧ Mod [] w7 w' ∧ mm = 10 - k) 10 ⟨0, rfl, by omega, by simp, Mod.refl _, rfl⟩ ?_
 rintro mm x w8 ⟨k, rfl, hk, ht, M8, rfl⟩ h81 h82 h83 h84
 have N8 := N7.go0 M8 (by simp)
 refine yaC (fun hlt => ?_) fun hge => ?_
 ·have hk : k < 10 := by omega
  obtain ⟨x, hx⟩ : ∃ x, (yaR m)[k]? = some x := ⟨_, List.getElem?_eq_getElem (by simpa [yaR] using hk)⟩
  obtain ⟨y, hy⟩ : ∃ y, (yaR m')[k]? = some y := ⟨_, List.getElem?_eq_getElem (by simpa [yaR] using hk)⟩
  refine ⟨by omega, by omega, yeA (yIE h83 hk) (yh0 (yaE (yd0 (s := s) (f := f) (p := p) h81 hx) ⟨by omega, by omega, yeA (yIE h84 hk) (yh0 (yaE (yd0 (s := s') (f := f') (p := p') h82 hy) ?_))⟩))⟩
  refine yaB (fun g => fun w9 A9 _ _ _ _ => no (fun e => ?_) (N8.go0 A9.mod (by simp))) fun g => fun w9 A9 _ _ _ _ => ?_
  ·subst e
   rw [hx] at hy
   have := Option.some.inj hy
   simp [this] at g
  ·have g : x = y := by simpa using g
   subst g
   exact yu1 (10 - (k + 1)) (by omega) ⟨k + 1, by rw [yaG (by omega) (by omega)]; omega, by omega, yb5 ht hx hy, M8.go0 A9.mod (by simp), rfl⟩
 ·have hk : k = 10 := by omega
  subst hk
  rw [List.take_of_length_le (by simp [yaR]), List.take_of_length_le (by simp [yaR])] at ht
  obtain ⟨la, hA, gA, eA⟩ := h.calls
  obtain ⟨lb, hB, gB, eB⟩ := h'.calls
  have hll : la.length ≤ 1000000 := by have := congrArg List.length eA; simp at this; omega
  refine (yBf (s := s) (t := s') (la := la) (lb := lb) ⟨hA.keep0 N8, fun q hq => (gA q hq).keep0 N8⟩ ⟨hB.keep0 N8, fun q hq => (gB q hq).keep0 N8⟩ hll).mono ?_
  rw [eA, eB]
  rintro _ w9 ⟨rfl, M9⟩
  have N9 := N8.go0 M9 (by simp)
  refine ⟨_, rfl, _, _, _, _, _, _, _, _, _, _, _, _, _, _, _, _, _, _, _, _, _, _, _, M9.keep0 h81, _, _, _, _, _, _, _, _, _, _, _, _, _, _, _, _, _, _, _, _, _, _, _, M9.keep0 h82, _, _, _, _, _, _, _, _, _, _, M9.keep0 h83, _, _, _, _, _, _, _, _, _, _, M9.keep0 h84, ?_⟩
  refine yaB (fun g => ?_) fun g => no (fun e => by simp [e] at g) N9
  have g : m.calls = m'.calls := by simpa using g
  refine (yAS (h.rep.keep0 N9) (h'.rep.keep0 N9)).mono ?_
  rintro _ w10 ⟨rfl, M10⟩
  refine ⟨_, rfl, _, _, _, _, _, _, _, _, _, _, _, _, _, _, _, _, _, _, _, _, _, _, _, M10.keep0 (M9.keep0 h81), _, _, _, _, _, _, _, _, _, _, _, _, _, _, _, _, _, _, _, _, _, _, _, M10.keep0 (M9.keep0 h82), _, _, _, _, _, _, _, _, _, _, M10.keep0 (M9.keep0 h83), _, _, _, _, _, _, _, _, _, _, M10.keep0 (M9.keep0 h84), ?_, N9.go0 M10 (by simp)⟩
  congr 1
  apply Bool.eq_iff_iff.2
  simp [yEc, ht, g]
def yjP : PMail := ⟨4, 0, 1, 2, 0, 0, 5, 0, 0, 0, [], yeI⟩
theorem yvD {x y : PMail} (hx : ybS x = 0) (hy : ybS y = 0) {r : List UInt8} (hr : r ≠ []) : bs (ya5 (bs (ya9 x)) ++ r) ≠ yb8 y := fun h => by
 have h := yiW h
 obtain ⟨_, l1⟩ := ybJ hx
 obtain ⟨_, l2⟩ := ybJ hy
 have c1 := ykL (lim := 1048576) (bs (ya9 x)) r (by rw [yaD]; omega) (by rw [yaD]; omega)
 have c2 := ykL (lim := 1048576) (bs (ya9 y)) [] (by rw [yaD]; omega) (by rw [yaD]; omega)
 rw [List.append_nil] at c2
 rw [h, c2] at c1
 simp only [Option.some.injEq, Prod.mk.injEq] at c1
 have e := yiW c1.1
 rw [e] at h
 have := congrArg List.length h
 rw [List.length_append] at this
 exact hr (List.eq_nil_of_length_eq_zero (by omega))
theorem yvE {m : PMail} (hn : (yaR m).all num = true) (hk : 0 ≤ m.kind ∧ m.kind < 12) (hc : m.calls = []) (hr : m.r = yeI) : ybS m = 0 ∧ (ya9 m).length ≤ 100000 := by
 have ht : ycQ m.calls = 0 := by rw [hc]; decide
 have hre : yfA m.r = 0 := by rw [hr]; decide
 have hE : ycG m = 0 := by
  rw [ycG, if_neg (by omega), if_neg (by rw [hn]; decide), if_neg (by simpa using ht), hre]
 have l1 := yd5 hn 10
 rw [List.take_of_length_le (by rw [yd3]; omega)] at l1
 have l2 : (ybI m.calls).length ≤ 10 := by
  rw [hc]
  have := (yaN 0 (by omega)).2
  simpa [ybI] using this
 have l3 : (ydB m.r).length ≤ 60000 := (RepGood.of hre).len3 m.r.parts.length
 have p2 := (yaZ (bs (ybI m.calls)) (by rw [yaD]; omega)).2
 have p3 := (yaZ (bs (ydB m.r)) (by rw [yaD]; omega)).2
 rw [yaD] at p2 p3
 have hl : (ya9 m).length ≤ 100000 := by unfold ya9; rw [List.length_append, List.length_append]; omega
 exact ⟨by rw [ybS, if_neg (by simpa using hE), if_neg (by omega)], hl⟩
theorem ylK {m : PMail} (hl : (ya9 m).length ≤ 1048576) : (yb8 m).size ≤ (ya9 m).length + 14 := by
 unfold yb8
 rw [yaD, yc2]
 have := (yaZ (bs (ya9 m)) (by rw [yaD]; omega)).2
 rw [yaD] at this; omega
theorem ylL (w : World) (m : PMail) (hc : m.calls = []) (hr : m.r = yeI) : MailAt w m ybM ybM ybM :=
 ⟨by rw [hc]; exact ⟨[], (Row.nil w 0 51 16 CV.cs).sl CV.cs_len, by simp, rfl⟩, by rw [hr]; exact ⟨(Row.nil w 0 55 5 yhL).sl yl4, (Row.nil w 0 43 2 yiS).sl yl5, by simp [yeI], by simp [yeI]⟩⟩
set_option maxHeartbeats 4000000 in
theorem yvF (w : World) : Calls pP 16 #[] w fun e w' => e = .returned (.bool true) ∧ Mod [] w w' := by
 refine yaQ (yDZ ?_)
 obtain ⟨hE, hL⟩ := yvE (m := yjP) (by decide) (by decide) rfl rfl
 have hsz := ylK (m := yjP) (by omega)
 have cat : ∀ w', MailAt w' yjP ybM ybM ybM := fun w' => ylL w' yjP rfl rfl
 intro b1 f1 w2 A2
 refine (ynR (cat w2) (by simp [yjP])).mono ?_
 rintro _ w3 ⟨rfl, M3⟩
 refine ⟨_, _, rfl, yaI.of0 M3, ?_⟩
 rw [hE, if_pos rfl]
 have N3 := A2.mod.go0 M3 (by simp)
 refine (yrG (s := yb8 yjP) (by omega) w3).mono ?_
 rintro _ w4 ⟨v, rfl, hv, M4⟩
 have hv : ∃ s1 f1 p1 : Sl, v = .tuple #[yjP.v s1 f1 p1, .int .i64 0] ∧ MailOwn w4 w3.heap.size yjP s1 f1 p1 := by
  rcases hv with ⟨m, s1, f1, p1, h1, h2, rfl, h3, _⟩ | ⟨h, _⟩
  ·have he : yjP = m := by
    have hm := yz7 hE h1 h2
    have X : yeQ (bs (ya9 yjP)) yjP := ⟨hE, ycE _⟩
    have Y : yeQ (bs (ya9 yjP)) m := ⟨h1, by rw [ycE, hm]⟩
    exact yu9 X Y
   subst he
   exact ⟨s1, f1, p1, rfl, h3⟩
  ·exact absurd rfl (h yjP hE)
 obtain ⟨s4, f4, p4, rfl, O4⟩ := hv
 refine ⟨_, _, _, _, _, _, _, _, _, _, _, _, _, _, _, _, _, _, _, _, _, _, _, _, rfl, yaI.of0 M4, ?_⟩
 have N4 := N3.go0 M4 (by simp)
 intro b5 f5
 refine ⟨by show (yb8 yjP).size + 1 ≤ _; omega, ?_⟩
 intro w6 A6
 have ex : yb8 yjP ++ (⟨#[120]⟩ : ByteArray) = bs (ya5 (bs (ya9 yjP)) ++ [120]) := by
  rw [yb8, ← ybB]; rfl
 refine (yrG (s := yb8 yjP ++ (⟨#[120]⟩ : ByteArray)) (by rw [ByteArray.size_append]; show _ + 1 ≤ _; omega) w6).mono ?_
 rintro _ w7 ⟨v, rfl, hv, M7⟩
 have hv : v = .tuple #[ygS.v ybM ybM ybM, .int .i64 180] := by
  rcases hv with ⟨m, s1, f1, p1, h1, h2, _⟩ | ⟨_, h⟩
  ·rw [ex] at h2
   exact absurd h2 (yvD hE h1 (by simp))
  ·exact h
 subst hv
 refine ⟨_, _, _, _, _, _, _, _, _, _, _, _, _, _, _, _, _, _, _, _, _, _, _, _, rfl, yaI.of0 M7, ?_⟩
 have N7 := (N4.go0 A6.mod (by simp)).go0 M7 (by simp)
 intro b8 f8 w8 A8
 have hbad : ybS (⟨12, 0, 0, 0, 0, 0, 0, 0, 0, 0, [], yeI⟩ : PMail) = 180 := by
  have : ycG (⟨12, 0, 0, 0, 0, 0, 0, 0, 0, 0, [], yeI⟩ : PMail) = 180 := by rw [ycG, if_pos (.inr (by decide))]
  rw [ybS, if_pos (by rw [this]; decide), this]
 refine (ynR (ylL w8 ⟨12, 0, 0, 0, 0, 0, 0, 0, 0, 0, [], yeI⟩ rfl rfl) (by simp)).mono ?_
 rintro _ w9 ⟨rfl, M9⟩
 refine ⟨_, _, rfl, yaI.of0 M9, ?_⟩
 rw [hbad]
 have N9 := (N7.go0 A8.mod (by simp)).go0 M9 (by simp)
 refine (yvC (cat w9) rfl).mono ?_
 rintro _ w10 ⟨rfl, M10⟩
 refine ⟨_, _, rfl, yaI.of0 M10, ?_⟩
 rw [hE, if_pos rfl]
 refine (yGB (cat w10) (by simp [yjP])).mono ?_
 rintro _ w11 ⟨_, rfl, s11, f11, p11, rfl, O11, M11⟩
 refine ⟨_, _, _, _, _, _, _, _, _, _, _, _, _, _, _, _, _, _, _, _, _, _, _, rfl, yaI.of0 M11, ?_⟩
 have N11 := (N9.go0 M10 (by simp)).go0 M11 (by simp)
 intro b12 f12
 refine brT rfl (brT (by rw [yf6]; simp) (brT rfl (brT rfl ?_)))
 intro w12 A12
 have K12 : Mod [] w4 w12 := (((((((A6.mod.trans M7).trans A8.mod).trans M9).trans M10).trans M11).trans A12.mod).less (by simp))
 have O12 := O4.keep0 K12
 refine (ymX (cat w12) O12.at (by simp [yjP])).mono ?_
 rintro _ w13 ⟨rfl, M13⟩
 refine ⟨_, rfl, yaI.of0 M13, brT (by simp) (brT rfl (brT rfl ?_))⟩
 refine (ytJ (cat w13) (O12.keep0 M13).at (by simp [yjP])).mono ?_
 rintro _ w14 ⟨rfl, M14⟩
 refine ⟨_, rfl, yaI.of0 M14, brT (by simp) ?_⟩
 refine (ytJ (cat w14) (ylL w14 ygS rfl rfl) (by simp [yjP])).mono ?_
 rintro _ w15 ⟨rfl, M15⟩
 refine ⟨_, rfl, yaI.of0 M15, brT (by simp [yjP, ygS]) ?_⟩
 have O15 := (((O11.keep0 A12.mod).keep0 M13).keep0 M14).keep0 M15
 refine (ymX O15.at (cat w15) (by simp [yjP])).mono ?_
 rintro _ w16 ⟨rfl, M16⟩
 refine ⟨_, rfl, yaI.of0 M16, brT (by simp) ?_⟩
 have hneg : ycG (⟨0, 0, 0, -1, 0, 0, 0, 0, 0, 0, [], yeI⟩ : PMail) = 1 := by
  rw [ycG, if_neg (by decide), if_pos (by decide)]
 refine (yjI ((ylL w16 ⟨0, 0, 0, -1, 0, 0, 0, 0, 0, 0, [], yeI⟩ rfl rfl).w (by simp))).mono ?_
 rintro _ w17 ⟨rfl, M17⟩
 refine ⟨_, rfl, yaI.of0 M17, ?_, ?_⟩
 ·rw [hneg]; rfl
 ·exact (((((N11.go0 A12.mod (by simp)).go0 M13 (by simp)).go0 M14 (by simp)).go0 M15 (by simp)).go0 M16 (by simp)).go0 M17 (by simp)
theorem yHC {w0 w : World} (N : Mod [] w0 w) {bs : List Nat} : Calls pP 16 #[] w fun e w' => ∃ t : Bool, e = .returned (.bool t) ∧ yaI bs w w' ∧ (Value.bool t = .bool true ∧ Mod [] w0 w') := by
 refine (yvF w).mono ?_
 rintro _ w1 ⟨rfl, M1⟩
 exact ⟨_, rfl, yaI.of0 M1, rfl, N.go0 M1 (by simp)⟩
theorem yAl (m : PMail) : (yjR m).calls.length ≤ 12 := by
 show ((m.calls.take 12).map yIc).length ≤ 12
 rw [List.length_map, List.length_take]; omega
theorem yBy {m : PMail} (h : ybS (yjR m) = 0) : (yb8 (yjR m)).size ≤ 700000 := by
 obtain ⟨h0, hl0⟩ := ybJ h
 obtain ⟨_, h1, h2, h3⟩ := yb7 h0
 have l1 := yd5 h1 10
 rw [List.take_of_length_le (by rw [yd3]; omega)] at l1
 obtain ⟨q1, q2⟩ := ygG h2
 have l2 := ydC (f := yfB) (c := 40000) (l := (yjR m).calls) fun x hx => (ygF (q2 x hx).1 (q2 x hx).2).1
 have l3 := (yaN (yjR m).calls.length (by omega)).2
 have lc := yAl m
 have l4 : (ybI (yjR m).calls).length ≤ 490000 := by unfold ybI; rw [List.length_append]; omega
 have l5 : (ydB (yjR m).r).length ≤ 60000 := (RepGood.of h3).len3 (yjR m).r.parts.length
 have p2 := (yaZ (bs (ybI (yjR m).calls)) (by rw [yaD]; omega)).2
 have p3 := (yaZ (bs (ydB (yjR m).r)) (by rw [yaD]; omega)).2
 rw [yaD] at p2 p3
 have l6 : (ya9 (yjR m)).length ≤ 600000 := by unfold ya9; rw [List.length_append, List.length_append]; omega
 have := ylK hl0
 omega
theorem yvG : ∀ (c : Fin 256) (b : Fin 8), 0 ≤ ydH .u8 ((c.val : Nat) : Int) (IntKind.wrap .u8 (1 * 2 ^ (min b.val 8))) ∧ ydH .u8 ((c.val : Nat) : Int) (IntKind.wrap .u8 (1 * 2 ^ (min b.val 8))) < 256 ∧ ydH .u8 ((c.val : Nat) : Int) (IntKind.wrap .u8 (1 * 2 ^ (min b.val 8))) ≠ ((c.val : Nat) : Int) := by decide +kernel
theorem yBz (c : UInt8) {x : Int} (h0 : 0 ≤ x) (h1 : x ≤ 7) : ∃ d : UInt8, d ≠ c ∧ ydH .u8 ((c.toNat : Nat) : Int) (IntKind.wrap .u8 (1 * 2 ^ (min (Int.toNat x) 8))) = ((d.toNat : Nat) : Int) := by
 obtain ⟨h2, h3, h4⟩ := yvG ⟨c.toNat, c.toNat_lt⟩ ⟨x.toNat, by omega⟩
 simp only at h2 h3 h4
 generalize ydH .u8 ((c.toNat : Nat) : Int) (IntKind.wrap .u8 (1 * 2 ^ (min (Int.toNat x) 8))) = y at h2 h3 h4
 have e : (UInt8.ofNat y.toNat).toNat = y.toNat := by rw [UInt8.toNat_ofNat', Nat.mod_eq_of_lt (by omega)]
 refine ⟨UInt8.ofNat y.toNat, fun e2 => h4 ?_, by rw [e]; omega⟩
 have e3 := congrArg UInt8.toNat e2
 omega
theorem yEd {s : ByteArray} (h : cg 1048576 s.data.toList = none) : ∀ m, ybS m = 0 → s ≠ yb8 m := fun m hm e => by
 have := yz8 hm
 rw [← e, h] at this; cases this
theorem ylM {s : ByteArray} (hs : s.size ≤ 900000) (h : cg 1048576 s.data.toList = none) (w : World) :
  Calls pP 17 #[.string s] w fun e w' => e = .returned (.tuple #[ygS.v ybM ybM ybM, .int .i64 180]) ∧ Mod [] w w' := by
 refine (yrG hs w).mono ?_
 rintro _ w' ⟨_, rfl, hv, M⟩
 rcases hv with ⟨m2, _, _, _, g, he, _⟩ | ⟨_, rfl⟩
 ·exact absurd he (yEd h _ g)
 ·exact ⟨rfl, M⟩
theorem yBA {m : PMail} (h : ybS m = 0) : 14 ≤ (yb8 m).size := by
 obtain ⟨h0, _⟩ := ybJ h
 obtain ⟨_, h1, _, _⟩ := yb7 h0
 have e : ∀ n ∈ yaR m, 1 ≤ (yjK n).length := fun n hn => (yaN n.toNat (by have := yd4 (List.all_eq_true.1 h1 n hn); omega)).1
 have k : ∀ l : List Int, (∀ n ∈ l, 1 ≤ (yjK n).length) → l.length ≤ (l.flatMap yjK).length := fun l => by
  induction l with
  | nil => intro _; simp
  | cons a r ih =>
   intro hl
   have h1 := hl a (by simp)
   have h2 := ih fun n hn => hl n (by simp [hn])
   rw [List.flatMap_cons, List.length_append, List.length_cons]; omega
 have k := k _ e
 rw [yd3] at k
 have l6 : 10 ≤ (ya9 m).length := by unfold ya9; rw [List.length_append, List.length_append]; omega
 unfold yb8
 rw [yaD, yc2]
 unfold ya7
 rw [List.length_append, ycE]
 omega
set_option maxHeartbeats 4000000 in
theorem yrH {m : PMail} {s f p : Sl} {at_ bit : Int} (w : World) (h : MailRd w m s f p) :
  Calls pP 6 #[m.v s f p, .int .i64 at_, .int .i64 bit] w fun e w' => e = .returned (.bool true) ∧ Mod [] w w' := by
 refine yaQ (yD5 ?_)
 intro b1 f1 w2 A2
 have l1 := A2.lt b1 (by simp)
 refine (yEb (h.keep0 A2.mod)).mono ?_
 rintro _ w3 ⟨_, rfl, sa, fa, pa, rfl, hA, M3⟩
 refine ⟨_, _, _, _, _, _, _, _, _, _, _, _, _, _, _, _, _, _, _, _, _, _, _, rfl, yaI.of0 M3, ?_⟩
 intro w4 A4
 have hA4 := hA.keepB A4.mod (by simp; omega)
 have N4 : Mod [] w w4 := (A2.mod.go0 M3 (by simp)).go0 A4.mod (by simpa using f1)
 have la := yAl m
 refine (ynR hA4.at (by omega)).mono ?_
 rintro _ w5 ⟨rfl, M5⟩
 refine ⟨_, _, rfl, yaI.of0 M5, ?_⟩
 have N5 := N4.go0 M5 (by simp)
 refine yaB (fun g => brT g (yHC N5)) fun g => ?_
 have g : ybS (yjR m) = 0 := by simpa using g
 rw [if_pos g]
 have hsz := yBy g
 have hsl := yBA g
 refine yaC (fun hlt => by omega) fun _ => ?_
 obtain ⟨L, hL⟩ : ∃ L, L = (yb8 (yjR m)).size := ⟨_, rfl⟩
 rw [← hL] at hsz hsl ⊢
 obtain ⟨j, hj, hjl⟩ : ∃ j : Nat, Int.tmod (ye8 .i64 at_ 65535) ((L : Int) - 3) = (j : Int) ∧ j < L - 3 := by
  have h1 := ylF (x := at_) (m := 65535) (by decide) (by decide)
  have h2 := Int.tmod_nonneg ((L : Int) - 3) h1.1
  have h3 := Int.tmod_lt_of_pos (ye8 .i64 at_ 65535) (b := (L : Int) - 3) (by omega)
  exact ⟨(Int.tmod (ye8 .i64 at_ 65535) ((L : Int) - 3)).toNat, by omega, by omega⟩
 have e1 : IntKind.wrap .i64 ((L : Int) - 3) = (L : Int) - 3 := yaG (by omega) (by omega)
 rw [e1, hj]
 have e2 : IntKind.wrap .i64 (3 + (j : Int)) = ((3 + j : Nat) : Int) := by rw [yaG (by omega) (by omega)]; omega
 rw [e2]
 have e3 : IntKind.wrap .i64 (((3 + j : Nat) : Int) + 1) = ((3 + j + 1 : Nat) : Int) := by rw [yaG (by omega) (by omega)]; omega
 rw [e3]
 obtain ⟨k, hk⟩ : ∃ k, k = 3 + j := ⟨_, rfl⟩
 rw [← hk]
 have hkL : k < L := by omega
 have hk3 : 3 ≤ k := by omega
 obtain ⟨l, hl⟩ : ∃ l, l = ya5 (bs (ya9 (yjR m))) := ⟨_, rfl⟩
 have hd : (yb8 (yjR m)).data.toList = l := by rw [yb8, ycE, hl]
 have hlL : l.length = L := by rw [← hd, hL]; simp
 obtain ⟨hE0, hml⟩ := ybJ g
 have hb7 := ylF (x := bit) (m := 7) (by decide) (by decide)
 refine ⟨by omega, by omega, by omega, by omega, ?_⟩
 have ext0 : (yb8 (yjR m)).extract 0 k = bs (l.take k) := by
  have := yr4 (yb8 (yjR m)) 0 k (by omega)
  rw [hd] at this; simpa using this
 have ext1 : (yb8 (yjR m)).extract (k + 1) L = bs (l.drop (k + 1)) := by
  have := yr4 (yb8 (yjR m)) (k + 1) (L - (k + 1)) (by omega)
  rw [hd, show k + 1 + (L - (k + 1)) = L by omega, List.take_of_length_le (by rw [List.length_drop]; omega)] at this
  exact this
 rw [show Int.toNat 0 = 0 from rfl, Int.toNat_natCast, ext0]
 refine ⟨by omega, by omega, ?_⟩
 rw [Int.toNat_natCast]
 refine ⟨hb7.1, by omega, by omega, by omega, ?_⟩
 rw [Int.toNat_natCast, Int.toNat_natCast, ext1]
 have hkl : k < l.length := by omega
 have hby : yh2 (yb8 (yjR m)) k = ((l[k].toNat : Nat) : Int) := by
  unfold yh2; rw [hd, List.getD_eq_getElem?_getD, List.getElem?_eq_getElem hkl]; rfl
 rw [hby]
 obtain ⟨d, hdne, hdx⟩ := yBz l[k] hb7.1 hb7.2
 rw [hdx]
 intro w6 A6
 refine ycT fun b7 w7 c7 M7 f7 => ?_
 refine ⟨_, _, yd2 d w7 b7 c7, yaI.of0 (Mod.refl _), ?_⟩
 have eset : bs (l.take k) ++ bs [d] ++ bs (l.drop (k + 1)) = bs (l.set k d) := by
  rw [ybB, ybB, List.set_eq_take_append_cons_drop, if_pos hkl]; simp
 have N7 := (N5.go0 A6.mod (by simp)).go0 M7 (by simp)
 refine ⟨by rw [yaD, yaD, List.length_take]; simp; omega, by rw [ybB, yaD, yaD, List.length_append, List.length_take, List.length_drop]; simp; omega, ?_⟩
 rw [eset]
 refine (ylM (by rw [yaD, List.length_set]; omega) (by rw [ycE, hl]; exact yz6 (by rw [yaD]; omega) (by rw [yaD]; omega) hk3 (by rw [← hl]; exact hkl) (by simp only [← hl]; exact fun e => hdne e.symm)) w7).mono ?_
 rintro _ w8 ⟨rfl, M8⟩
 refine ⟨_, _, _, _, _, _, _, _, _, _, _, _, _, _, _, _, _, _, _, _, _, _, _, _, rfl, yaI.of0 M8, ?_⟩
 intro b9 f9
 refine ⟨by omega, by omega, by omega, ?_⟩
 rw [show Int.toNat 0 = 0 from rfl, Int.toNat_natCast, ext0]
 intro w10 A10
 have N10 := (N7.go0 M8 (by simp)).go0 A10.mod (by simp)
 refine (ylM (by rw [yaD, List.length_take]; omega) (by rw [ycE, hl]; exact yBp (by rw [yaD]; omega) hk3 (by rw [← hl]; exact hkl)) w10).mono ?_
 rintro _ w11 ⟨rfl, M11⟩
 refine ⟨_, _, _, _, _, _, _, _, _, _, _, _, _, _, _, _, _, _, _, _, _, _, _, _, rfl, yaI.of0 M11, ?_⟩
 intro b12 f12
 refine brT (by decide) ?_
 intro w13 A13
 refine (ymX (ylL w13 ygS rfl rfl) (ylL w13 ygS rfl rfl) (by simp [ygS])).mono ?_
 rintro _ w14 ⟨rfl, M14⟩
 exact ⟨_, rfl, yaI.of0 M14, brT (by simp) (brT (by decide) (yHC (((N10.go0 M11 (by simp)).go0 A13.mod (by simp)).go0 M14 (by simp))))⟩
end Go.Proofs.YtkbcmppbjfpjmaaGreat
namespace Go.Proofs.YtkbcmppbjfpjmaaGreat.messageSpoilt
open Go.ChangeShapes Go.WideShapes Go.ChangeAt Go.RowKit
open Go.ChangeMaps (open_string shut_string)
set_option linter.unusedVariables false
theorem own : ownKnob Tryz.prog.godebug = none := by kernel_rfl
theorem laidOut : laidOutB Tryz.prog = true := by kernel_rfl
set_option maxRecDepth 100000 in
theorem lifted (os : Os) (started : os.Started) (H : Type) (enc : TypeId × Value → H) :
    ReturnsInHanded {} Tryz.checked os 6 .any (Rows.messageSpoiltSpec.pre6 enc Tryz.prog Tryz.f6 Rows.messageSpoiltRow.domain false) (Rows.messageSpoiltSpec.post enc Tryz.prog Tryz.f6 false true false false) := by
  refine returnsInHanded_of_change (C := Tryz.checked) own started (by kernel_rfl) Tryz.func6
    (ChangeSpec.witness6 (enc := enc) (C := Tryz.checked) false ⟨#[], #[.agg #[.int .i64 0, .int .i64 0, .int .i64 0, .int .i64 0, .int .i64 0, .int .i64 0, .int .i64 0, .int .i64 0, .int .i64 0, .int .i64 0, .slice none 0 0, .int .i64 0, .int .i64 0, .int .i64 0, .int .i64 0, .slice none 0 0, .slice none 0 0], .int .i64 0, .int .i64 0], []⟩ 8 (by kernel_rfl) (by kernel_rfl) (by kernel_rfl) (by kernel_rfl)) ?_
  intro W base args ds gs before hval0 hW hcnd _
  have hval : ∀ (j : Nat) t v, Tryz.f6.params[j]? = some t → args[j]? = some v → Value.okWide Tryz.prog W .any base t v := hval0
  have hW' := hW
  obtain ⟨p, q, hA0, hV, rfl, hfz, hnd⟩ := hW
  have hA : DataW.TrodAll enc Tryz.prog W 0 (fun _ => true) true Tryz.f6.params.toList args.toList ds p := hA0
  rw [Tryz.params6] at hA hval
  obtain ⟨v0, vs0, d0, ds0, p0, q0, hargs, rfl, rfl, h0, r0⟩ := trodAll_cons hA
  obtain ⟨v1, vs1, d1, ds1, p1, q1, rfl, rfl, rfl, h1, r1⟩ := trodAll_cons r0
  obtain ⟨v2, vs2, d2, ds2, p2, q2, rfl, rfl, rfl, h2, r2⟩ := trodAll_cons r1
  obtain ⟨rfl, rfl, rfl⟩ := trodAll_nil r2
  obtain rfl : args = #[v0, v1, v2] := by cases args; simp_all
  obtain ⟨rfl, rfl⟩ := trodVars_none hV
  have k0 := h0
  have lt0 : ∀ x ∈ p0, x.block < W.heap.size := by obtain ⟨m, hm⟩ := k0; exact DataW.trod_lt m _ _ _ hm
  have k1 := h1
  have lt1 : ∀ x ∈ p1, x.block < W.heap.size := by obtain ⟨m, hm⟩ := k1; exact DataW.trod_lt m _ _ _ hm
  have k2 := h2
  have lt2 : ∀ x ∈ p2, x.block < W.heap.size := by obtain ⟨m, hm⟩ := k2; exact DataW.trod_lt m _ _ _ hm
  obtain ⟨cs0, rfl, sz0⟩ := okWide_struct Tryz.underlying29 (hval 0 29 v0 rfl rfl)
  obtain ⟨fuel0, hf0⟩ := h0
  obtain ⟨x0, ex0, g0⟩ := yBj W _ (yDH hf0) (by simpa [Value.cells] using sz0)
  simp only [Value.cells] at ex0
  have hx0 : cs0 = (MR.cs x0).toArray := by rw [← ex0]
  subst hx0
  obtain ⟨a1, rfl, _, _, w1⟩ := open_int Tryz.underlying3 (hval 1 3 v1 rfl rfl) h1
  obtain ⟨a2, rfl, _, _, w2⟩ := open_int Tryz.underlying3 (hval 2 3 v2 rfl rfl) h2
  clear hA0 hval0
  refine (yrH (m := x0.m) (s := x0.s) (f := x0.f) (p := x0.p) (at_ := a1) (bit := a2) W g0).mono fun e W' ⟨he, hM⟩ => ?_
  have bel : Below W.heap.size W W' := hM.below (by simp)
  subst he
  exact ⟨_, rfl, _, _, _, [], _, [], hW', trodAll_mk1 (shut_bool Tryz.underlying4 _), (trodAll_cons_mk (Below.trod laidOut (by kernel_rfl) (of_decide_eq_true (by kernel_rfl)) k0 bel lt0) (trodAll_cons_mk (Below.trod laidOut (by kernel_rfl) (of_decide_eq_true (by kernel_rfl)) k1 bel lt1) (trodAll_cons_mk (Below.trod laidOut (by kernel_rfl) (of_decide_eq_true (by kernel_rfl)) k2 bel lt2) trodAll_mk0))), rfl, bel.frame _, fun h => by cases h⟩
theorem over : Rows.messageSpoiltRow.holds Tryz.pinned (OpenSpec.ofChange Rows.messageSpoiltSpec) :=
  OpenClaim.holds_of_wide 6 Tryz.f6 rfl rfl rfl rfl rfl rfl rfl ⟨rfl, rfl, rfl, rfl, rfl⟩ rfl rfl rfl rfl rfl (by kernel_rfl) Tryz.func6 (by kernel_rfl)
    (of_decide_eq_true (by kernel_rfl)) (by unfold Func.isWrapper; first | (rw [if_pos (by decide +kernel)]; kernel_rfl) | (rw [if_neg (by decide +kernel)]; exact ⟨rfl, rfl⟩))
    (fun os started H enc _ => lifted os started H enc)
theorem proved : Rows.MessageSpoiltSaid := over
#print axioms proved
end Go.Proofs.YtkbcmppbjfpjmaaGreat.messageSpoilt
