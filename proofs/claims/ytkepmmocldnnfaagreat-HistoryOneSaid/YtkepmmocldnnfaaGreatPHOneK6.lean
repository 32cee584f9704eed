/- Part 6 of the proof of PHOne. -/
import Derived.Test.YtkepmmocldnnfaaGreatPHOneK5
namespace Go.Proofs.YtkepmmocldnnfaaGreat
open Go Go.RowKit Go.Maps Go.MapKept
open Go.ChangeMaps (setBlock)
set_option linter.unusedVariables false
set_option linter.unusedSimpArgs false
def eqS (s x:ByteArray):Bool:=decide (s = x)
def inS (l:List ByteArray) (s:ByteArray):Bool:=l.any (eqS s)
theorem yDe {l:List ByteArray} {s:ByteArray}:inS l s = true ↔ s ∈ l:=by
 simp only [inS,List.any_eq_true,eqS,decide_eq_true_eq]
 exact ⟨fun ⟨x,hx,e⟩ => e ▸ hx,fun h => ⟨s,h,rfl⟩⟩
theorem ym3 {w:World} {a:Option Addr} {n c:Nat} {l:List ByteArray} (h:ybD w 1 ydC a n l) (hl:l.length ≤ 1000000) (s:ByteArray) :
  Calls pP 131 #[.slice a n c,.string s] w fun e w' => ∃ v,e = .returned v ∧ ∃ r:Int,v = .int .i64 r ∧ Mod [] w w' ∧ ((r = -1 ∧ s ∉ l) ∨ ∃ k:Nat,r = k ∧ l[k]? = some s ∧ s ∉ l.take k):=by
 have hn:=h.1
 refine yKM ?_
 refine yCF (fun mm x w' => ∃ k:Nat,x = k ∧ k ≤ l.length ∧ s ∉ l.take k ∧ Mod [] w w' ∧ mm = l.length - k) l.length ⟨0,rfl,by omega,by simp,Mod.refl _,rfl⟩ ?_
 rintro mm x w1 ⟨k,rfl,hk,hb,M1,rfl⟩
 refine yaH (fun hlt => ?_) fun hge => ?_
 ·obtain ⟨y,hy⟩:∃ y,l[k]? = some y:=⟨_,List.getElem?_eq_getElem (by omega)⟩
  refine (h.keep0 M1).ix hy fun q hq => yaN (by simpa [add_zero] using hq 0 _ rfl) ?_
  rw [ynM]
  refine yaH (fun g => ?_) fun g => ?_
  ·exact ⟨_,rfl,M1,.inr ⟨k,rfl,by rw [hy,g],hb⟩⟩
  ·refine yCE (l.length - (k + 1)) (by omega) ⟨k + 1,by rw [yaJ (by omega) (by omega)]; omega,by omega,?_,M1,rfl⟩
   rw [yd2 hy,List.mem_append]
   rintro (h1 | h1)
   ·exact hb h1
   ·simp at h1; exact g h1
 ·have hk:k = l.length:=by omega
  subst hk
  rw [List.take_length] at hb
  exact ⟨_,rfl,M1,.inl ⟨rfl,hb⟩⟩
theorem yHE {w:World} {a:Option Addr} {n c:Nat} {l:List ByteArray} (h:ybD w 1 ydC a n l) (hl:l.length ≤ 1000000) (s:ByteArray) :
  Calls pP 169 #[.slice a n c,.string s] w fun e w' => e = .returned (.bool (inS l s)) ∧ Mod [] w w':=by
 refine ya2 (yKJ ?_)
 refine (ym3 h hl s).mono ?_
 rintro _ w3 ⟨_,rfl,r,rfl,M3,hr⟩
 refine ⟨_,rfl,congrArg Value.bool ?_,M3⟩
 rcases hr with ⟨rfl,hno⟩ | ⟨k,rfl,hk,_⟩
 ·have:inS l s = false:=by
   cases hh:inS l s with
   | false => rfl
   | true => exact absurd (yDe.1 hh) hno
  rw [this]; rfl
 ·rw [yDe.2 (List.mem_of_getElem? hk)]
  exact decide_eq_true (by omega)
structure PMem where
 name:ByteArray
 topics:List ByteArray
 deriving DecidableEq
structure MemV where
 x:PMem
 ts:Sl
def yAi (q:MemV):List Value:=[.string q.x.name,.slice q.ts.a q.ts.n q.ts.c]
theorem yEO (q:MemV):(yAi q).length = 2:=rfl
theorem yEP (q:MemV):∀ u ∈ yAi q,u.oneCell' = true:=by simp [yAi,Value.oneCell']
theorem yx9 {w:World} {q:MemV} (h:ybD w 1 ydC q.ts.a q.ts.n q.x.topics) (hl:q.x.topics.length ≤ 1000000) (t:ByteArray) :
  Calls pP 155 #[.agg #[.string q.x.name,.slice q.ts.a q.ts.n q.ts.c],.string t] w fun e w' => e = .returned (.bool (inS q.x.topics t)) ∧ Mod [] w w':=by
 refine ya2 (yHA ?_)
 intro b2 f2 w6 A6
 refine (yHE (h.keep0 A6.mod) hl t).mono ?_
 rintro _ w7 ⟨rfl,M7⟩
 exact ⟨_,rfl,yaG.of0 M7,rfl,A6.mod.go0 M7 (by simp)⟩
structure PTop where
 t:ByteArray
 n:Int
 deriving DecidableEq
def yq7 (x:PTop):List Value:=[.string x.t,.int .i64 x.n]
theorem yEQ (x:PTop):(yq7 x).length = 2:=rfl
theorem yER (x:PTop):∀ u ∈ yq7 x,u.oneCell' = true:=by simp [yq7,Value.oneCell']
def yk5 (x:PTop):Bool:=ye9 x.t x.n
def yeY (l:List PTop):Int:=if 8 < l.length then 2 else if (l.all yk5 && ybQ (l.map (·.t))) = true then 0 else 1
def yIi (l:List PTop):TL:=l.map fun x => (x.t,x.n)
theorem ytF (x:ByteArray):ygF x x = false:=by
 unfold ygF
 rw [bytesLess_eq]
 exact decide_eq_false (List.lt_irrefl _)
theorem yvV {x y z:ByteArray} (h1:ygF x y = true) (h2:ygF y z = true):ygF x z = true:=by
 unfold ygF at *
 rw [bytesLess_eq] at *
 simp only [decide_eq_true_eq] at *
 exact List.lt_trans h1 h2
theorem yDf:∀ {l:List ByteArray},ybQ l = true → l.Pairwise fun a b => ygF a b = true
 | [],_ => .nil
 | [a],_ => by simp
 | a :: b :: r,h => by
  simp only [ybQ,Bool.and_eq_true] at h
  have ih:=yDf h.2
  refine List.pairwise_cons.2 ⟨fun x hx => ?_,ih⟩
  rcases List.mem_cons.1 hx with rfl | hx
  ·exact h.1
  ·exact yvV h.1 ((List.pairwise_cons.1 ih).1 x hx)
theorem yAj {l:List ByteArray} (h:ybQ l = true):l.Nodup:=(yDf h).imp fun {a b} hab e => by subst e; rw [ytF] at hab; cases hab
set_option maxHeartbeats 1000000 in
theorem yAk {w:World} {a:Option Addr} {n c:Nat} {l:List PTop} (h:ybD w 2 yq7 a n l) :
  Calls pP 168 #[.slice a n c] w fun e w' => ∃ v,e = .returned v ∧ ∃ p:Option Addr,v = .tuple #[.pointer p,.int .i64 (yeY l)] ∧ Mod [] w w' ∧ (yeY l = 0 → ∃ b F,p = some ⟨b,0,none⟩ ∧ yf5 w' b (yIi l) F ∧ ∀ k ∈ F,w.heap.size ≤ k):=by
 have hn:=h.1
 refine yKG ?_
 refine yaH (fun g => ?_) fun g => ?_
 ·have e:yeY l = 2:=by rw [yeY,if_pos (by omega)]
  rw [e]
  exact ⟨_,rfl,Mod.refl _,fun h => by cases h⟩
 have bad:(l.all yk5 && ybQ (l.map (·.t))) = false → yeY l = 1:=fun hh => by rw [yeY,if_neg (by omega),hh]; rfl
 refine (ys8 w).mono ?_
 rintro _ w3 ⟨_,rfl,b,F,rfl,hT,hF,M3⟩
 have s3:=M3.size
 refine ⟨_,rfl,?_⟩
 refine yCD (fun mm x w' => ∃ k:Nat,x = k ∧ k ≤ l.length ∧ yf5 w' b (yIi (l.take k)) F ∧ (l.take k).all yk5 = true ∧ ybQ ((l.take k).map (·.t)) = true ∧ Mod [] w w' ∧ mm = l.length - k) l.length ⟨0,rfl,by omega,by simpa [yIi] using hT,by simp,by simp [ybQ],M3,rfl⟩ ?_
 rintro mm x w1 ⟨k,rfl,hk,hT1,hall,hris,M1,rfl⟩
 have s1:=M1.size
 refine yaH (fun hlt => ?_) fun hge => ?_
 ·obtain ⟨t,ht⟩:∃ t,l[k]? = some t:=⟨_,List.getElem?_eq_getElem (by omega)⟩
  refine (h.keep0 M1).ix ht fun q hq => yaN (by simpa [add_zero] using hq 0 _ rfl) (yaI (hq 1 _ rfl) ?_)
  intro b12 f12 w13 A13
  have l12:=A13.lt b12 (by simp)
  refine (ys9 t.t t.n w13).mono ?_
  rintro _ w14 ⟨rfl,M14⟩
  have N14:=(M1.go0 A13.mod (by simp)).go0 M14 (by simp)
  have s14:=M14.size
  have e1:l.take (k + 1) = l.take k ++ [t]:=yd2 ht
  have ltm:(l.map (·.t))[k]? = some t.t:=by simp [ht]
  have em:∀ j,(l.take j).map (·.t) = (l.map (·.t)).take j:=fun j => List.map_take ..
  refine ⟨_,rfl,yaG.of0 M14,yaD (fun g1 => ?_) fun g1 => ?_⟩
  ·have g1:ye9 t.t t.n = false:=by simpa using g1
   have:(l.all yk5 && ybQ (l.map (·.t))) = false:=by
    have:l.all yk5 = false:=by
     rw [List.all_eq_false]
     exact ⟨t,List.mem_of_getElem? ht,by simp [yk5,g1]⟩
    rw [this]; rfl
   rw [bad this]
   exact ⟨_,rfl,N14,fun h => by cases h⟩
  have g1:ye9 t.t t.n = true:=by simpa using g1
  have hall':(l.take (k + 1)).all yk5 = true:=by rw [e1,List.all_append,hall]; simp [yk5,g1]
  have hsz:t.t.size ≤ maxLen:=by
   have:ycW t.t = true:=by simp only [ye9,Bool.and_eq_true] at g1; exact g1.1
   have:=yeM this
   unfold maxLen; omega
  obtain ⟨m,hc,hm,rfl⟩:=hT1
  have hmb:m ≠ b:=by rintro rfl; exact hm.notCells hc
  have hbw:b < w1.heap.size:=yaL hc
  have ek:IntKind.wrap .i64 ((k:Int) + 1) = ((k + 1:Nat):Int):=by rw [yaJ (by omega) (by omega)]; omega
  rw [ek]
  have go:∀ {w19:World},Adv [] [] w14 w19 → ybQ ((l.take (k + 1)).map (·.t)) = true → w19.cell? ⟨b,0,none⟩ = some (.map (some m)) ∧
    yc7 pP (Instr.mapUpdate 117 (.map (some m)) (.string t.t) (.int .i64 t.n)) w19 fun w21 => yaG [b12] w19 w21 ∧ ∃ k':Nat,((k + 1:Nat):Int) = k' ∧ k' ≤ l.length ∧ yf5 w21 b (yIi (l.take k')) [b,m] ∧ (l.take k').all yk5 = true ∧ ybQ ((l.take k').map (·.t)) = true ∧ Mod [] w w21 ∧ l.length - (k + 1) = l.length - k':=by
   intro w19 A19 hr'
   have N19:=N14.go0 A19.mod (by simp)
   have K19:Mod [] w1 w19:=(A13.mod.go0 M14 (by simp)).go0 A19.mod (by simp)
   have hc19:=K19.keep0 hc
   refine ⟨by rw [yaY hc19]; rfl,?_⟩
   have hf:=hF
   refine (hm.keepM0 K19).setU (k:=t.t) ye0 ybW Tryz.underlying117 (v:=t.n) (yb1 hsz) (by have:=hm.lt; simp; omega) fun w21 hm21 M21 => ?_
   refine ⟨k + 1,rfl,by omega,⟨m,M21.keep hc19 (by simp; exact fun e => hmb e.symm),?_,rfl⟩,hall',hr',(N19.trans M21).less fun z hz hz' => ?_,rfl⟩
   ·have hnone:lkp (yIi (l.take k)) t.t = none:=by
     refine yfW.2 fun p hp hpk => ?_
     obtain ⟨y,hy,rfl⟩:=List.mem_map.1 hp
     have hnd:=yAj hr'
     rw [e1,List.map_append,List.nodup_append] at hnd
     exact hnd.2.2 _ (List.mem_map.2 ⟨y,hy,rfl⟩) t.t (by simp) hpk
    rw [yfX hnone] at hm21
    rw [e1]
    simpa [yIi] using hm21
   ·simp at hz
    have:=hf m (by simp); omega
  refine yaH (fun g2 => ?_) fun g2 => ?_
  ·have ek2:IntKind.wrap .i64 ((k:Int) - 1) = ((k - 1:Nat):Int):=by rw [yaJ (by omega) (by omega)]; omega
   rw [ek2]
   obtain ⟨p,hp⟩:∃ p,l[k - 1]? = some p:=⟨_,List.getElem?_eq_getElem (by omega)⟩
   refine (h.keep0 N14).ix hp fun q hq => yaN (by simpa [add_zero] using hq 0 _ rfl) ?_
   have hrt:=ygM (l:=l.map (·.t)) (k:=k - 1) (x:=p.t) (y:=t.t) (by simp [hp]) (by rw [show k - 1 + 1 = k by omega]; exact ltm)
   rw [show k - 1 + 2 = k + 1 by omega,show k - 1 + 1 = k by omega,← em,← em,hris,Bool.true_and] at hrt
   rw [ygQ]
   refine yaD (fun g3 => ?_) fun g3 => ?_
   ·have g3:ygF p.t t.t = false:=by simpa using g3
    have:(l.all yk5 && ybQ (l.map (·.t))) = false:=by
     have:ybQ (l.map (·.t)) = false:=by
      cases hr:ybQ (l.map (·.t)) with
      | false => rfl
      | true =>
       have:=ylK (k:=k + 1) hr
       rw [← em,hrt,g3] at this; cases this
     rw [this,Bool.and_false]
    rw [bad this]
    exact ⟨_,rfl,N14,fun h => by cases h⟩
   ·have g3:ygF p.t t.t = true:=by simpa using g3
    refine ydW ?_
    intro w19 A19
    obtain ⟨h1,w21,h2,h3,h4⟩:=go A19 (by rw [hrt,g3])
    refine yg0 (x:=some m) h1 ?_
    exact ⟨w21,h2,h3,ys7 (l.length - (k + 1)) (by omega) h4⟩
  ·have hk0:k = 0:=by omega
   subst hk0
   refine ydW ?_
   intro w23 A23
   obtain ⟨h1,w21,h2,h3,h4⟩:=go A23 (by rw [e1]; simp [ybQ])
   refine yg0 (x:=some m) h1 ?_
   exact ⟨w21,h2,h3,ys7 (l.length - (0 + 1)) (by omega) h4⟩
 ·have hk:k = l.length:=by omega
  subst hk
  rw [List.take_length] at hT1 hall hris
  have e:yeY l = 0:=by rw [yeY,if_neg (by omega),hall,hris]; rfl
  rw [e]
  exact ⟨_,rfl,M1,fun _ => ⟨b,F,rfl,hT1,hF⟩⟩
end Go.Proofs.YtkepmmocldnnfaaGreat
namespace Go.Proofs.YtkepmmocldnnfaaGreat
open Go Go.RowKit Go.Maps Go.MapKept
open Go.ChangeMaps (setBlock)
set_option linter.unusedVariables false
set_option linter.unusedSimpArgs false
def ym4 (w:World) (a:Option Addr) (n:Nat) (ms:List MemV):Prop:=ybD w 2 yAi a n ms ∧ ∀ q ∈ ms,ybD w 1 ydC q.ts.a q.ts.n q.x.topics ∧ q.x.topics.length ≤ 1000000
theorem ym4.keep0 {w w':World} {a:Option Addr} {n:Nat} {ms:List MemV} (h:ym4 w a n ms) (M:Mod [] w w'):ym4 w' a n ms:=⟨h.1.keep0 M,fun q hq => ⟨(h.2 q hq).1.keep0 M,(h.2 q hq).2⟩⟩
def ycM (l:List PTop) (ms:List PMem):Int:=if yeY l ≠ 0 then yeY l else if 8 < ms.length then 2 else if ybQ (ms.map (·.name)) = true then 0 else 100
theorem ytG {w:World} {a a':Option Addr} {n c n' c':Nat} {l:List PTop} {ms:List MemV} (h:ybD w 2 yq7 a n l) (hm:ybD w 2 yAi a' n' ms) :
  Calls pP 154 #[.slice a n c,.slice a' n' c'] w fun e w' => e = .returned (.int .i64 (ycM l (ms.map (·.x)))) ∧ Mod [] w w':=by
 have hn:=hm.1
 refine ya2 (yHz ?_)
 refine (yAk h).mono ?_
 rintro _ w4 ⟨_,rfl,p,rfl,M4,_⟩
 refine ⟨_,_,rfl,yaD (fun g => ?_) fun g => ?_⟩
 ·have g:yeY l ≠ 0:=by simpa using g
  exact ⟨by rw [ycM,if_pos g],M4⟩
 have g:¬ yeY l ≠ 0:=by simpa using g
 refine yaH (fun g2 => ?_) fun g2 => ?_
 ·exact ⟨by rw [ycM,if_neg g,List.length_map,if_pos (by omega)],M4⟩
 have e:∀ b,ybQ ((ms.map (·.x)).map (·.name)) = b → ycM l (ms.map (·.x)) = if b = true then 0 else 100:=fun b hb => by rw [ycM,if_neg g,List.length_map,if_neg (by omega),hb]
 refine yz8 (fun mm x w' => ∃ k:Nat,x = ((k + 1:Nat):Int) ∧ k ≤ ms.length ∧ ybQ (((ms.map (·.x)).map (·.name)).take (k + 1)) = true ∧ Mod [] w w' ∧ mm = ms.length - k) ms.length ⟨0,rfl,by omega,by cases ms <;> simp [ybQ],M4,rfl⟩ ?_
 rintro mm x w1 ⟨k,rfl,hk,hr,M1,rfl⟩
 refine yaH (fun hlt => ?_) fun hge => ?_
 ·obtain ⟨y,hy⟩:∃ y,ms[k + 1]? = some y:=⟨_,List.getElem?_eq_getElem (by omega)⟩
  obtain ⟨z,hz⟩:∃ z,ms[k]? = some z:=⟨_,List.getElem?_eq_getElem (by omega)⟩
  refine (hm.keep0 M1).ix hy fun q hq => yaN (by simpa [add_zero] using hq 0 _ rfl) ?_
  have ek:IntKind.wrap .i64 (((k + 1:Nat):Int) - 1) = (k:Int):=by rw [yaJ (by omega) (by omega)]; omega
  rw [ek]
  refine (hm.keep0 M1).ix hz fun q hq => yaN (by simpa [add_zero] using hq 0 _ rfl) ?_
  have hrt:=ygM (l:=(ms.map (·.x)).map (·.name)) (k:=k) (x:=z.x.name) (y:=y.x.name) (by simp [hz]) (by simp [hy])
  rw [hr,Bool.true_and] at hrt
  rw [ygQ]
  refine yaD (fun g3 => ?_) fun g3 => ?_
  ·have g3:ygF z.x.name y.x.name = false:=by simpa using g3
   intro w11 A11
   have hf:ybQ ((ms.map (·.x)).map (·.name)) = false:=by
    cases hh:ybQ ((ms.map (·.x)).map (·.name)) with
    | false => rfl
    | true => rw [ylK hh,g3] at hrt; cases hrt
   exact ⟨by rw [e _ hf]; rfl,M1.go0 A11.mod (by simp)⟩
  ·have g3:ygF z.x.name y.x.name = true:=by simpa using g3
   intro w12 A12
   exact yz7 (ms.length - (k + 1)) (by omega) ⟨k + 1,by rw [yaJ (by omega) (by omega)]; omega,by omega,by rw [hrt,g3],M1.go0 A12.mod (by simp),rfl⟩
 ·have hf:ybQ ((ms.map (·.x)).map (·.name)) = true:=by
   rw [List.take_of_length_le (by simp; omega)] at hr; exact hr
  exact ⟨by rw [e _ hf]; rfl,M1⟩
structure PsV where
 s:Sl
 l:List PPart
def yf8 (q:PsV):List Value:=[.slice q.s.a q.s.n q.s.c]
theorem yd7 (q:PsV):(yf8 q).length = 1:=rfl
theorem yK9:(Tryz.prog.info? 26).map (fun i => (i.zero,i.size,i.bytes)) = some (some (.agg #[.string ByteArray.empty,.int .i64 0]),2,24):=by kernel_rfl
theorem yGe:(Tryz.prog.info? 42).map (fun i => (i.zero,i.size,i.bytes)) = some (some (.slice none 0 0),1,24):=by kernel_rfl
theorem yq8 {w:World} {B:Nat} {f:Sl} {l:List PPart} {y:PPart} {bs:List Nat} {F:Option Addr → Nat → Nat → World → Prop} (hR:Row w B 26 2 ylG f.a f.n f.c l) (hl:l.length ≤ 1000000) (hB:B ≤ w.heap.size) (hbs:∀ b ∈ bs,b ∉ yaP f.a)
  (hF:∀ a' c' w',Row w' B 26 2 ylG a' (f.n + 1) c' (l ++ [y]) → Mod (yaP f.a) w w' → (∀ k ∈ yaP a',k ∈ yaP f.a ∨ w.heap.size ≤ k) → F a' (f.n + 1) c' w') :
  al w (.cells (ylG y).toArray 26) fun b w1 => ybN pP (Builtin.append_ #[42,42] 42 #[.slice f.a f.n f.c,.slice (some ⟨b,0,none⟩) 1 1]) w1 fun a n c w2 => yaG bs w1 w2 ∧ F a n c w2:=by
 refine ybH fun b w1 c1 M1 f1 => ?_
 have s1:=M1.size
 obtain ⟨i0,hi0,hz0,hz1,hz2⟩:=info_parts yK9
 refine ydQ (x:=y) (hR.keep0 M1) Tryz.underlying42 hi0 hz0 hz1 hz2 rfl (by decide) c1 rfl (yEf _) (by omega) (by unfold maxLen; omega) (by omega) fun a' c' w8 hR8 hM8 hk8 => ?_
 have M8:=hM8 _ (yb0 f.a)
 refine ⟨yaG.of M8 fun b hb _ => hbs b hb,hF a' c' w8 hR8 ?_ fun k hk => ?_⟩
 ·exact (M1.trans M8).less fun k hk _ => by simpa using hk
 ·rcases hk8 k hk with h | h
  ·exact .inl h
  ·exact .inr (by omega)
structure OutAt (w:World) (B:Nat) (a:Option Addr) (n c:Nat) (qs:List PsV):Prop where
 row:Row w B 42 1 yf8 a n c qs
 parts:∀ q ∈ qs,Row w B 26 2 ylG q.s.a q.s.n q.s.c q.l
 apart:qs.Pairwise fun x y => ye1 (yaP x.s.a) (yaP y.s.a)
theorem OutAt.keep0 {w w':World} {B:Nat} {a:Option Addr} {n c:Nat} {qs:List PsV} (h:OutAt w B a n c qs) (M:Mod [] w w'):OutAt w' B a n c qs:=⟨h.row.keep0 M,fun q hq => (h.parts q hq).keep0 M,h.apart⟩
theorem OutAt.keep {w w':World} {B:Nat} {a:Option Addr} {n c:Nat} {qs:List PsV} {S:List Nat} (h:OutAt w B a n c qs) (M:Mod S w w') (h1:∀ z ∈ S,z ∉ yaP a) (h2:∀ q ∈ qs,∀ z ∈ S,z ∉ yaP q.s.a):OutAt w' B a n c qs:=⟨yaE h.row M h1,fun q hq => yaE (h.parts q hq) M (h2 q hq),h.apart⟩
theorem OutAt.give {w w1 w2:World} {B:Nat} {a a':Option Addr} {n c n' c' i:Nat} {qs:List PsV} {q:PsV} {p:PPart} {ad:Addr} (h:OutAt w B a n c qs) (hq:qs[i]? = some q)
  (M1:Mod (yaP q.s.a) w w1) (hR1:Row w1 B 26 2 ylG a' n' c' (q.l ++ [p])) (hk1:∀ k ∈ yaP a',k ∈ yaP q.s.a ∨ w.heap.size ≤ k)
  (had:a = some ad) (hR2:Row w2 B 42 1 yf8 a n c (qs.set i ⟨⟨a',n',c'⟩,q.l ++ [p]⟩)) (M2:Mod [ad.block] w1 w2):OutAt w2 B a n c (qs.set i ⟨⟨a',n',c'⟩,q.l ++ [p]⟩):=by
 have hqm:=List.mem_of_getElem? hq
 have hblk:∀ z ∈ [ad.block],z ∈ yaP a:=fun z hz => by simp at hz; subst hz; exact yb0 a ad had
 refine ⟨hR2,fun x hx => ?_,yi2 (w:=w) (fp:=fun x:PsV => yaP x.s.a) h.apart hq (fun x hx z hz => (yaQ (h.parts x hx) z hz).2) hk1⟩
 have disj:∀ {w'} {a2:Option Addr} {n2 c2:Nat} {l2:List PPart},Row w' B 26 2 ylG a2 n2 c2 l2 → (∀ z ∈ yaP a,∀ cs T,w'.heap[z]? = some (.cells cs T) → T = 42) → ∀ z ∈ [ad.block],z ∉ yaP a2:=fun hR hT z hz hz' => by
  obtain ⟨_,_,cur,hcur⟩:=yaS hR z hz'
  have:=hT z (hblk z hz) _ _ hcur
  exact absurd this (by decide)
 have hT1:∀ z ∈ yaP a,∀ cs T,w1.heap[z]? = some (.cells cs T) → T = 42:=fun z hz cs T hcs => by
  obtain ⟨_,_,cur,hcur⟩:=yaS h.row z hz
  have:z ∉ yaP q.s.a:=fun hz' => by
   obtain ⟨_,_,cur',hcur'⟩:=yaS (h.parts q hqm) z hz'
   rw [hcur] at hcur'; cases hcur'
  have h1:=M1.keep hcur this
  rw [h1] at hcs; cases hcs; rfl
 rcases yeC hx with rfl | ⟨j,hj,hxj⟩
 ·exact yaE hR1 M2 (disj hR1 hT1)
 ·have hxm:=List.mem_of_getElem? hxj
  have k1:=yaE (h.parts x hxm) M1 fun z hz => yi1 (fp:=fun x:PsV => yaP x.s.a) h.apart (fun e => hj e.symm) hq hxj z hz
  exact yaE k1 M2 (disj k1 hT1)
theorem OutAt.row1 {w w1:World} {B:Nat} {a:Option Addr} {n c:Nat} {qs:List PsV} {q:PsV} (h:OutAt w B a n c qs) (hq:q ∈ qs) (M1:Mod (yaP q.s.a) w w1):Row w1 B 42 1 yf8 a n c qs:=yaE h.row M1 (ybA (h.parts q hq) h.row (by decide))
theorem yGf (n:Nat) (h:n ≤ 8):(madeCells #[Value.slice none 0 0] (n * 1)).toList = (List.replicate n (⟨ybM,[]⟩:PsV)).flatMap yf8:=by
 have h0:(madeCells #[Value.slice none 0 0] (0 * 1)).toList = (List.replicate 0 (⟨ybM,[]⟩:PsV)).flatMap yf8:=by kernel_rfl
 have h1:(madeCells #[Value.slice none 0 0] (1 * 1)).toList = (List.replicate 1 (⟨ybM,[]⟩:PsV)).flatMap yf8:=by kernel_rfl
 have h2:(madeCells #[Value.slice none 0 0] (2 * 1)).toList = (List.replicate 2 (⟨ybM,[]⟩:PsV)).flatMap yf8:=by kernel_rfl
 have h3:(madeCells #[Value.slice none 0 0] (3 * 1)).toList = (List.replicate 3 (⟨ybM,[]⟩:PsV)).flatMap yf8:=by kernel_rfl
 have h4:(madeCells #[Value.slice none 0 0] (4 * 1)).toList = (List.replicate 4 (⟨ybM,[]⟩:PsV)).flatMap yf8:=by kernel_rfl
 have h5:(madeCells #[Value.slice none 0 0] (5 * 1)).toList = (List.replicate 5 (⟨ybM,[]⟩:PsV)).flatMap yf8:=by kernel_rfl
 have h6:(madeCells #[Value.slice none 0 0] (6 * 1)).toList = (List.replicate 6 (⟨ybM,[]⟩:PsV)).flatMap yf8:=by kernel_rfl
 have h7:(madeCells #[Value.slice none 0 0] (7 * 1)).toList = (List.replicate 7 (⟨ybM,[]⟩:PsV)).flatMap yf8:=by kernel_rfl
 have h8:(madeCells #[Value.slice none 0 0] (8 * 1)).toList = (List.replicate 8 (⟨ybM,[]⟩:PsV)).flatMap yf8:=by kernel_rfl
 have:n = 0 ∨ n = 1 ∨ n = 2 ∨ n = 3 ∨ n = 4 ∨ n = 5 ∨ n = 6 ∨ n = 7 ∨ n = 8:=by omega
 rcases this with rfl | rfl | rfl | rfl | rfl | rfl | rfl | rfl | rfl <;> assumption
end Go.Proofs.YtkepmmocldnnfaaGreat
namespace Go.Proofs.YtkepmmocldnnfaaGreat
open Go Go.RowKit Go.Maps Go.MapKept
open Go.ChangeMaps (setBlock)
set_option linter.unusedVariables false
set_option linter.unusedSimpArgs false
set_option maxHeartbeats 2000000
theorem yDg {α:Type} {l:List α} {i:Nat} {x:α} (h:l[i]? = some x):l.drop i = x :: l.drop (i + 1):=by
 obtain ⟨hi,rfl⟩:=List.getElem?_eq_some_iff.1 h
 exact List.drop_eq_getElem_cons hi
theorem ytH (p:Nat → Bool) (k:Nat):(List.range (k + 1)).filter p = (List.range k).filter p ++ (if p k = true then [k] else []):=by
 rw [List.range_succ,List.filter_append]
 cases h:p k <;> simp [h]
def ynW (L:List (List PPart)) (i:Nat) (p:PPart):List (List PPart):=L.set i (L.getD i [] ++ [p])
def yq9 (t:ByteArray) (i:Nat):Nat → Nat → List (List PPart) → List (List PPart)
 | _,0,L => L
 | k,n + 1,L => yq9 t i (k + 1) n (ynW L i ⟨t,(k:Int)⟩)
def ytI (N tot k:Nat):Nat:=N / tot + if k < N % tot then 1 else 0
def ygR (t:ByteArray) (N tot:Nat):List Nat → Nat → Nat → List (List PPart) → List (List PPart)
 | [],_,_,L => L
 | i :: r,k,c,L => ygR t N tot r (k + 1) (c + ytI N tot k) (yq9 t i c (ytI N tot k) L)
def yhS (ms:List PMem) (t:ByteArray) (i:Nat):Bool:=match ms[i]? with
 | some m => inS m.topics t
 | none => false
def ynX (ms:List PMem) (t:ByteArray):List Nat:=(List.range ms.length).filter (yhS ms t)
def ygE (ms:List PMem):List PTop → List (List PPart) → List (List PPart)
 | [],L => L
 | x :: r,L => ygE ms r (ygR x.t x.n.toNat (ynX ms x.t).length (ynX ms x.t) 0 0 L)
def yi8 (l:List PTop) (ms:List PMem):List (List PPart):=ygE ms l (List.replicate ms.length [])
theorem yrA {qs:List PsV} {i:Nat} {q:PsV} {p:PPart} {s:Sl} (hq:qs[i]? = some q):(qs.set i ⟨s,q.l ++ [p]⟩).map (·.l) = ynW (qs.map (·.l)) i p:=by
 have:(qs.map (·.l)).getD i [] = q.l:=by simp [List.getD,hq]
 rw [ynW,List.map_set,this]
theorem yGg {N tot k:Nat} (h:N ≤ 8):ytI N tot k ≤ 9:=by
 have:N / tot ≤ N:=Nat.div_le_self N tot
 rw [ytI]; split <;> omega
theorem yj7 {l:List PTop} {ms:List PMem} (h:ycM l ms = 0):l.length ≤ 8 ∧ ms.length ≤ 8 ∧ ∀ x ∈ l,1 ≤ x.n ∧ x.n ≤ 8:=by
 by_cases g1:8 < l.length
 ·simp [ycM,yeY,g1] at h
 by_cases g2:(l.all yk5 && ybQ (l.map (·.t))) = true
 ·by_cases g3:8 < ms.length
  ·simp [ycM,yeY,g1,g2,g3] at h
  ·refine ⟨by omega,by omega,fun x hx => ?_⟩
   rw [Bool.and_eq_true] at g2
   have:=List.all_eq_true.1 g2.1 x hx
   simp only [yk5,ye9,Bool.and_eq_true,decide_eq_true_eq] at this
   exact this.2
 ·simp [ycM,yeY,g1,g2] at h
def yGh (w w':World) (e:Int) (L:List (List PPart)) (v:Value):Prop :=
 (e ≠ 0 ∧ v = .tuple #[.slice none 0 0,.int .i64 e]) ∨ (e = 0 ∧ ∃ a n c qs,v = .tuple #[.slice a n c,.int .i64 0] ∧ OutAt w' w.heap.size a n c qs ∧ qs.map (·.l) = L)
theorem yES {w:World} {a a':Option Addr} {n c n' c':Nat} {l:List PTop} {ms:List MemV} (h:ybD w 2 yq7 a n l) (hm:ym4 w a' n' ms) :
  Calls pP 129 #[.slice a n c,.slice a' n' c'] w fun e w' => ∃ v,e = .returned v ∧ Mod [] w w' ∧ yGh w w' (ycM l (ms.map (·.x))) (yi8 l (ms.map (·.x))) v:=by
 have hn:=h.1
 have hn':=hm.1.1
 refine yHB ?_
 refine (ytG h hm.1).mono ?_
 rintro _ w3 ⟨rfl,M3⟩
 refine ⟨_,rfl,yaD (fun g => ?_) fun g => ?_⟩
 ·have g:ycM l (ms.map (·.x)) ≠ 0:=by simpa using g
  exact ⟨M3,.inl ⟨g,rfl⟩⟩
 have g:ycM l (ms.map (·.x)) = 0:=by simpa using g
 obtain ⟨hl8,hm8,hx8⟩:=yj7 g
 rw [List.length_map] at hm8
 have s3:=M3.size
 obtain ⟨i0,hi0,hz0,hz1,hz2⟩:=info_parts yGe
 obtain ⟨w5,hw5,ho5,hg5⟩:=run_makeSlice_full (P:=pP) (w:=w3) w.heap.size 233 42 i0 (.slice none 0 0) 1 Tryz.underlying233 hi0 hz0 hz1 .i64 .i64 n' (by omega) (by rw [hz2]; omega) (by unfold maxLen; omega) (by omega)
 refine ⟨_,_,_,w5,hw5,?_⟩
 have M5:Mod [] w3 w5:=⟨hg5.os,hg5.tape,hg5.output,hg5.size,fun j hj _ => hg5.block j hj (by simp)⟩
 have hO5:OutAt w5 w.heap.size (some ⟨w3.heap.size,0,none⟩) n' n' (List.replicate n' ⟨ybM,[]⟩):=by
  refine ⟨⟨by simp,by rw [← yGf n' (by omega)]; exact ho5⟩,fun q hq => ?_,?_⟩
  ·rw [List.eq_of_mem_replicate hq]; exact Row.nil _ _ _ _ _
  ·refine List.pairwise_replicate.2 (.inr ?_)
   intro z hz
   simp [ybM,yaP] at hz
 have N5:=M3.go0 M5 (by simp)
 generalize (some ⟨w3.heap.size,0,none⟩:Option Addr) = a7 at hO5 ⊢
 have hmE:∀ i:Nat,i < ms.length → ∃ q,ms[i]? = some q:=fun i hi => ⟨_,List.getElem?_eq_getElem hi⟩
 refine yAa (fun m x w' => ∃ (i:Nat) (qs:List PsV),x = i ∧ i ≤ l.length ∧ OutAt w' w.heap.size a7 n' n' qs ∧ ygE (ms.map (·.x)) (l.drop i) (qs.map (·.l)) = yi8 l (ms.map (·.x)) ∧ qs.length = ms.length ∧ (∀ q ∈ qs,q.l.length ≤ 1000 * i) ∧ Mod [] w w' ∧ m = l.length - i) l.length
  ⟨0,_,rfl,by omega,hO5,by rw [yi8,List.length_map,← hn',List.map_replicate]; rfl,by simp [hn'],fun q hq => by rw [List.eq_of_mem_replicate hq]; simp,N5,rfl⟩ ?_
 rintro m x w6 ⟨i,qs,rfl,hi,hO,hr,hql,hqn,N,rfl⟩
 refine yaH (fun hlt => ?_) fun hge => ?_
 ·obtain ⟨t,ht⟩:∃ t,l[i]? = some t:=⟨_,List.getElem?_eq_getElem (by omega)⟩
  obtain ⟨N',hN'⟩:∃ N':Nat,t.n = N':=⟨t.n.toNat,by have:=(hx8 t (List.mem_of_getElem? ht)).1; omega⟩
  have hN8:N' ≤ 8:=by have:=(hx8 t (List.mem_of_getElem? ht)).2; omega
  refine (h.keep0 N).ix ht fun q hq => yaN (by simpa [add_zero,yq7] using hq 0 _ rfl) (yaI (x:=t.n) (by simpa [yq7] using hq 1 _ rfl) ?_)
  intro bm hbm w7 A7
  have hb7:bm < w7.heap.size:=A7.lt bm (by simp)
  have N7:=N.go0 A7.mod (by simp)
  have hO7:=hO.keep0 A7.mod
  have hba:bm ∉ yaP a7:=fun hz => by have:=(yaQ hO.row bm hz).2; omega
  have hbq:∀ q ∈ qs,bm ∉ yaP q.s.a:=fun q hq hz => by have:=(yaQ (hO.parts q hq) bm hz).2; omega
  have hdrop:l.drop i = t :: l.drop (i + 1):=yDg ht
  rw [hdrop] at hr
  change ygE _ _ (ygR t.t t.n.toNat _ _ 0 0 _) = _ at hr
  rw [hN'] at hr ⊢
  rw [Int.toNat_natCast] at hr
  have s6:=N.size
  have s7:=N7.size
  refine yAb (fun m a10 n10 c10 x w' => ∃ k:Nat,x = k ∧ k ≤ ms.length ∧ Row w' w7.heap.size 3 1 yd4 a10 n10 c10 (((List.range k).filter (yhS (ms.map (·.x)) t.t)).map fun j:Nat => (j:Int)) ∧ OutAt w' w.heap.size a7 n' n' qs ∧ Mod [] w w' ∧ w7.heap.size ≤ w'.heap.size ∧ m = ms.length - k) ms.length
   ⟨0,rfl,by omega,Row.nil _ _ _ _ _,hO7,N7,Nat.le_refl _,rfl⟩ ?_
  rintro m a10 n10 c10 x w8 ⟨k,rfl,hk,hI,hO8,N8,s8,rfl⟩
  have hbI:∀ b ∈ [bm],b ∉ yaP a10:=fun b hb hz => by have:=(yaQ hI b hz).1; simp at hb; omega
  refine yaH (fun hlt2 => ?_) fun hge2 => ?_
  ·obtain ⟨y,hy⟩:=hmE k (by omega)
   refine (hm.1.keep0 N8).ixW hy fun q1 g1 => ?_
   intro w9 A9
   have N9:=N8.go0 A9.mod (by simp)
   have hg:=g1 _ A9.mod
   refine yaN (x:=y.x.name) (by simpa [add_zero,yAi] using hg 0 _ rfl) (yaT (x:=y.ts.a) (n:=y.ts.n) (c:=y.ts.c) (by simpa [yAi] using hg 1 _ rfl) ?_)
   obtain ⟨hys,hyl⟩:=hm.2 y (List.mem_of_getElem? hy)
   refine (yx9 (hys.keep0 N9) hyl t.t).mono ?_
   rintro _ w10 ⟨rfl,M10⟩
   have N10:=N9.go0 M10 (by simp)
   have s9:=A9.mod.size
   have s10:=M10.size
   have hI10:=(hI.keep0 A9.mod).keep0 M10
   have hO10:=(hO8.keep0 A9.mod).keep0 M10
   refine ⟨_,rfl,yaG.of0 M10,?_⟩
   have ew:yhS (ms.map (·.x)) t.t k = inS y.x.topics t.t:=by simp [yhS,hy]
   have ex:IntKind.wrap .i64 ((k:Int) + 1) = ((k + 1:Nat):Int):=by rw [yaJ (by omega) (by omega)]; omega
   rw [ex]
   refine yaD (fun g3 => ?_) fun g3 => ?_
   ·have hlen:(((List.range k).filter (yhS (ms.map (·.x)) t.t)).map fun j:Nat => (j:Int)).length ≤ k:=by
     rw [List.length_map]; exact Nat.le_trans (List.length_filter_le _ _) (by simp)
    refine yjU (f:=⟨a10,n10,c10⟩) (y:=(k:Int)) hI10 (by omega) (by omega) hbI fun a3 c3 w11 hI11 M11 _ => ?_
    have hO11:=hO10.keep M11 (ybA hI10 hO10.row (by decide)) fun q hq => ybA hI10 (hO10.parts q hq) (by decide)
    have s11:=M11.size
    refine yo9 (ms.length - (k + 1)) (by omega) ⟨k + 1,rfl,by omega,?_,hO11,N10.go0 M11 fun z hz => by have:=(yaQ hI10 z hz).1; omega,by omega,rfl⟩
    rw [ytH,ew,if_pos g3,List.map_append]
    exact hI11
   ·refine yo9 (ms.length - (k + 1)) (by omega) ⟨k + 1,rfl,by omega,?_,hO10,N10,by omega,rfl⟩
    rw [ytH,ew,if_neg (by rw [g3]; decide),List.append_nil]
    exact hI10
  ·have hk:k = ms.length:=by omega
   subst hk
   have eW:(List.range ms.length).filter (yhS (ms.map (·.x)) t.t) = ynX (ms.map (·.x)) t.t:=by rw [ynX,List.length_map]
   rw [eW] at hI
   have hWm:∀ j ∈ ynX (ms.map (·.x)) t.t,j < ms.length:=fun j hj => by
    rw [← eW] at hj; have:=(List.mem_filter.1 hj).1; simpa using this
   have hWl:(ynX (ms.map (·.x)) t.t).length ≤ 8:=by
    rw [← eW]; exact Nat.le_trans (List.length_filter_le _ _) (by simp; omega)
   generalize ynX (ms.map (·.x)) t.t = W at hI hr hWm hWl
   have hn10:n10 = W.length:=by simpa using hI.1
   refine yAc (fun m x12 x50 w' => ∃ (k c:Nat) (qs:List PsV),x50 = k ∧ x12 = c ∧ k ≤ W.length ∧ c ≤ 9 * k ∧ OutAt w' w.heap.size a7 n' n' qs ∧ Row w' w7.heap.size 3 1 yd4 a10 n10 c10 (W.map fun j:Nat => (j:Int)) ∧ ygE (ms.map (·.x)) (l.drop (i + 1)) (ygR t.t N' W.length (W.drop k) k c (qs.map (·.l))) = yi8 l (ms.map (·.x)) ∧ qs.length = ms.length ∧ (∀ q ∈ qs,bm ∉ yaP q.s.a) ∧ (∀ q ∈ qs,q.l.length ≤ 1000 * i + 10 * k) ∧ Mod [] w w' ∧ w7.heap.size ≤ w'.heap.size ∧ m = W.length - k) W.length
    ⟨0,0,qs,rfl,rfl,by omega,by omega,hO8,hI,by simpa using hr,hql,hbq,by simpa using hqn,N8,s8,rfl⟩ ?_
   clear hr hO hO7 hO8 hbq hqn hql hI
   rintro m x12 x50 w9 ⟨k,c1,qs,rfl,rfl,hk,hc,hO9,hI,hr,hql,hbq,hqn,N9,s9,rfl⟩
   have s9':=N9.size
   rw [hn10] at hI ⊢
   refine yaH (fun hlt3 => ?_) fun hge3 => ?_
   ·obtain ⟨j,hj⟩:∃ j,W[k]? = some j:=⟨_,List.getElem?_eq_getElem (by omega)⟩
    have hjm:=hWm j (List.mem_of_getElem? hj)
    refine (hI.sl (fun _ => rfl)).ix (i:=k) (x:=(j:Int)) (by simp [hj]) fun q hq => yaI (x:=(j:Int)) (by simpa [add_zero,yd4] using hq 0 _ rfl) ?_
    refine ⟨by omega,⟨by omega,?_⟩⟩
    rw [yDg hj] at hr
    change ygE _ _ (ygR t.t N' W.length _ (k + 1) (c1 + ytI N' W.length k) (yq9 t.t j c1 (ytI N' W.length k) _)) = _ at hr
    have hcn:ytI N' W.length k ≤ 9:=yGg hN8
    have eq:IntKind.wrap .i64 (Int.tdiv (N':Int) (W.length:Int)) = ((N' / W.length:Nat):Int):=by
     rw [← Int.ofNat_tdiv]
     have:N' / W.length ≤ N':=Nat.div_le_self _ _
     generalize N' / W.length = dv at this ⊢
     exact yaJ (by omega) (by omega)
    have etm:Int.tmod (N':Int) (W.length:Int) = ((N' % W.length:Nat):Int):=(Int.ofNat_tmod _ _).symm
    rw [etm,eq]
    have hd8:N' / W.length ≤ 8:=Nat.le_trans (Nat.div_le_self _ _) hN8
    have e1:IntKind.wrap .i64 (((N' / W.length:Nat):Int) + 1) = ((N' / W.length + 1:Nat):Int):=by
     generalize N' / W.length = dv at hd8 ⊢
     rw [yaJ (by omega) (by omega)]; omega
    rw [e1]
    refine yaH (fun g5 => ?_) fun g5 => ?_
    ·have e2:N' / W.length + 1 = ytI N' W.length k:=by rw [ytI,if_pos (by omega)]
     rw [e2]
     generalize ytI N' W.length k = cnt at hr hcn ⊢
     refine ypC (fun m x12 x70 w' => ∃ (p:Nat) (qs:List PsV),x70 = p ∧ x12 = ((c1 + p:Nat):Int) ∧ p ≤ cnt ∧ OutAt w' w.heap.size a7 n' n' qs ∧ Row w' w7.heap.size 3 1 yd4 a10 W.length c10 (W.map fun j:Nat => (j:Int)) ∧ ygE (ms.map (·.x)) (l.drop (i + 1)) (ygR t.t N' W.length (W.drop (k + 1)) (k + 1) (c1 + cnt) (yq9 t.t j (c1 + p) (cnt - p) (qs.map (·.l)))) = yi8 l (ms.map (·.x)) ∧ qs.length = ms.length ∧ (∀ q ∈ qs,bm ∉ yaP q.s.a) ∧ (∀ q ∈ qs,q.l.length ≤ 1000 * i + 10 * k + p) ∧ Mod [] w w' ∧ w7.heap.size ≤ w'.heap.size ∧ m = cnt - p) cnt
      ⟨0,qs,rfl,by simp,by omega,hO9,hI,hr,hql,hbq,by simpa using hqn,N9,s9,rfl⟩ ?_
     clear hr hO9 hI hbq hqn hql
     rintro m x12 x70 w10 ⟨p,qs,rfl,rfl,hp,hO,hI,hr,hql,hbq,hqn,N10,s10,rfl⟩
     refine yaH (fun hlt4 => ?_) fun hge4 => ?_
     ·obtain ⟨q,hq⟩:∃ q,qs[j]? = some q:=⟨_,List.getElem?_eq_getElem (by omega)⟩
      have hqm:=List.mem_of_getElem? hq
      refine (hO.row.sl yd7).ixW hq fun q1 g1 => ?_
      intro w11 A11
      have N11:=N10.go0 A11.mod (by simp)
      have hO11:=hO.keep0 A11.mod
      have hI11:=hI.keep0 A11.mod
      have s11:=A11.mod.size
      have s11':=N11.size
      refine yaT (x:=q.s.a) (n:=q.s.n) (c:=q.s.c) (by simpa [add_zero,yf8] using g1 _ A11.mod 0 _ rfl) ?_
      refine yq8 (f:=q.s) (y:=⟨t.t,((c1 + p:Nat):Int)⟩) (hO11.parts q hqm) (by have:=hqn q hqm; omega) (by omega) (fun b hb => by simp at hb; subst hb; exact hbq q hqm) fun a3 c3 w12 hR12 M12 hk12 => ?_
      have s12:=M12.size
      have N12:=N11.go0 M12 fun z hz => (yaQ (hO11.parts q hqm) z hz).1
      have hI12:=yaE hI11 M12 (ybA (hO11.parts q hqm) hI11 (by decide))
      have hb3:bm ∉ yaP a3:=fun hz => by
       rcases hk12 bm hz with hz | hz
       ·exact hbq q hqm hz
       ·omega
      refine (hO11.row1 hqm M12).store yd7 (y:=⟨⟨a3,q.s.n + 1,c3⟩,q.l ++ [⟨t.t,((c1 + p:Nat):Int)⟩]⟩) rfl hq fun ad w13 had hR13 M13 => ?_
      have hsb:∀ z ∈ [ad.block],z ∈ yaP a7:=fun z hz => by simp at hz; subst hz; exact yb0 _ ad had
      have hO13:=hO11.give hq M12 hR12 hk12 had hR13 M13
      refine ⟨yaG.of M13 fun b hb _ hz => hba (by simp at hb; subst hb; exact hsb _ hz),?_⟩
      have s13:=M13.size
      have ex:IntKind.wrap .i64 ((p:Int) + 1) = ((p + 1:Nat):Int):=by rw [yaJ (by omega) (by omega)]; omega
      have ec:IntKind.wrap .i64 (((c1 + p:Nat):Int) + 1) = ((c1 + (p + 1):Nat):Int):=by rw [yaJ (by omega) (by omega)]; omega
      rw [ex,ec]
      have hI13:=yaE hI12 M13 fun z hz => ybA (hO11.row1 hqm M12) hI12 (by decide) z (hsb z hz)
      refine ypB (cnt - (p + 1)) (by omega) ⟨p + 1,_,rfl,rfl,by omega,hO13,hI13,?_,by simpa using hql,fun x hx => ?_,fun x hx => ?_,N12.go0 M13 fun z hz => (yaQ hO11.row z (hsb z hz)).1,by omega,rfl⟩
      ·rw [show cnt - p = (cnt - (p + 1)) + 1 by omega] at hr
       rw [yrA hq]
       exact hr
      ·rcases yeC hx with rfl | ⟨jj,_,hxj⟩
       ·exact hb3
       ·exact hbq x (List.mem_of_getElem? hxj)
      ·rcases yeC hx with rfl | ⟨jj,_,hxj⟩
       ·have:=hqn q hqm
        simp; omega
       ·have:=hqn x (List.mem_of_getElem? hxj)
        omega
     ·have hp':p = cnt:=by omega
      subst hp'
      rw [Nat.sub_self] at hr
      have ex:IntKind.wrap .i64 ((k:Int) + 1) = ((k + 1:Nat):Int):=by rw [yaJ (by omega) (by omega)]; omega
      rw [ex]
      exact ypA (W.length - (k + 1)) (by omega) ⟨k + 1,c1 + p,qs,rfl,rfl,by omega,by omega,hO,hI,hr,hql,hbq,fun q hq => by have:=hqn q hq; omega,N10,s10,rfl⟩
    ·have e2:N' / W.length = ytI N' W.length k:=by rw [ytI,if_neg (by omega)]; omega
     rw [e2]
     generalize ytI N' W.length k = cnt at hr hcn ⊢
     refine ypC (fun m x12 x70 w' => ∃ (p:Nat) (qs:List PsV),x70 = p ∧ x12 = ((c1 + p:Nat):Int) ∧ p ≤ cnt ∧ OutAt w' w.heap.size a7 n' n' qs ∧ Row w' w7.heap.size 3 1 yd4 a10 W.length c10 (W.map fun j:Nat => (j:Int)) ∧ ygE (ms.map (·.x)) (l.drop (i + 1)) (ygR t.t N' W.length (W.drop (k + 1)) (k + 1) (c1 + cnt) (yq9 t.t j (c1 + p) (cnt - p) (qs.map (·.l)))) = yi8 l (ms.map (·.x)) ∧ qs.length = ms.length ∧ (∀ q ∈ qs,bm ∉ yaP q.s.a) ∧ (∀ q ∈ qs,q.l.length ≤ 1000 * i + 10 * k + p) ∧ Mod [] w w' ∧ w7.heap.size ≤ w'.heap.size ∧ m = cnt - p) cnt
      ⟨0,qs,rfl,by simp,by omega,hO9,hI,hr,hql,hbq,by simpa using hqn,N9,s9,rfl⟩ ?_
     clear hr hO9 hI hbq hqn hql
     rintro m x12 x70 w10 ⟨p,qs,rfl,rfl,hp,hO,hI,hr,hql,hbq,hqn,N10,s10,rfl⟩
     refine yaH (fun hlt4 => ?_) fun hge4 => ?_
     ·obtain ⟨q,hq⟩:∃ q,qs[j]? = some q:=⟨_,List.getElem?_eq_getElem (by omega)⟩
      have hqm:=List.mem_of_getElem? hq
      refine (hO.row.sl yd7).ixW hq fun q1 g1 => ?_
      intro w11 A11
      have N11:=N10.go0 A11.mod (by simp)
      have hO11:=hO.keep0 A11.mod
      have hI11:=hI.keep0 A11.mod
      have s11:=A11.mod.size
      have s11':=N11.size
      refine yaT (x:=q.s.a) (n:=q.s.n) (c:=q.s.c) (by simpa [add_zero,yf8] using g1 _ A11.mod 0 _ rfl) ?_
      refine yq8 (f:=q.s) (y:=⟨t.t,((c1 + p:Nat):Int)⟩) (hO11.parts q hqm) (by have:=hqn q hqm; omega) (by omega) (fun b hb => by simp at hb; subst hb; exact hbq q hqm) fun a3 c3 w12 hR12 M12 hk12 => ?_
      have s12:=M12.size
      have N12:=N11.go0 M12 fun z hz => (yaQ (hO11.parts q hqm) z hz).1
      have hI12:=yaE hI11 M12 (ybA (hO11.parts q hqm) hI11 (by decide))
      have hb3:bm ∉ yaP a3:=fun hz => by
       rcases hk12 bm hz with hz | hz
       ·exact hbq q hqm hz
       ·omega
      refine (hO11.row1 hqm M12).store yd7 (y:=⟨⟨a3,q.s.n + 1,c3⟩,q.l ++ [⟨t.t,((c1 + p:Nat):Int)⟩]⟩) rfl hq fun ad w13 had hR13 M13 => ?_
      have hsb:∀ z ∈ [ad.block],z ∈ yaP a7:=fun z hz => by simp at hz; subst hz; exact yb0 _ ad had
      have hO13:=hO11.give hq M12 hR12 hk12 had hR13 M13
      refine ⟨yaG.of M13 fun b hb _ hz => hba (by simp at hb; subst hb; exact hsb _ hz),?_⟩
      have s13:=M13.size
      have ex:IntKind.wrap .i64 ((p:Int) + 1) = ((p + 1:Nat):Int):=by rw [yaJ (by omega) (by omega)]; omega
      have ec:IntKind.wrap .i64 (((c1 + p:Nat):Int) + 1) = ((c1 + (p + 1):Nat):Int):=by rw [yaJ (by omega) (by omega)]; omega
      rw [ex,ec]
      have hI13:=yaE hI12 M13 fun z hz => ybA (hO11.row1 hqm M12) hI12 (by decide) z (hsb z hz)
      refine ypB (cnt - (p + 1)) (by omega) ⟨p + 1,_,rfl,rfl,by omega,hO13,hI13,?_,by simpa using hql,fun x hx => ?_,fun x hx => ?_,N12.go0 M13 fun z hz => (yaQ hO11.row z (hsb z hz)).1,by omega,rfl⟩
      ·rw [show cnt - p = (cnt - (p + 1)) + 1 by omega] at hr
       rw [yrA hq]
       exact hr
      ·rcases yeC hx with rfl | ⟨jj,_,hxj⟩
       ·exact hb3
       ·exact hbq x (List.mem_of_getElem? hxj)
      ·rcases yeC hx with rfl | ⟨jj,_,hxj⟩
       ·have:=hqn q hqm
        simp; omega
       ·have:=hqn x (List.mem_of_getElem? hxj)
        omega
     ·have hp':p = cnt:=by omega
      subst hp'
      rw [Nat.sub_self] at hr
      have ex:IntKind.wrap .i64 ((k:Int) + 1) = ((k + 1:Nat):Int):=by rw [yaJ (by omega) (by omega)]; omega
      rw [ex]
      exact ypA (W.length - (k + 1)) (by omega) ⟨k + 1,c1 + p,qs,rfl,rfl,by omega,by omega,hO,hI,hr,hql,hbq,fun q hq => by have:=hqn q hq; omega,N10,s10,rfl⟩
   ·have hk':k = W.length:=by omega
    subst hk'
    rw [List.drop_length] at hr
    have ex:IntKind.wrap .i64 ((i:Int) + 1) = ((i + 1:Nat):Int):=by rw [yaJ (by omega) (by omega)]; omega
    rw [ex]
    exact yz9 (l.length - (i + 1)) (by omega) ⟨i + 1,qs,rfl,by omega,hO9,hr,hql,fun q hq => by have:=hqn q hq; omega,N9,rfl⟩
 ·have hi':i = l.length:=by omega
  subst hi'
  rw [List.drop_length] at hr
  exact ⟨N,.inr ⟨g,_,_,_,qs,rfl,hO,hr⟩⟩
end Go.Proofs.YtkepmmocldnnfaaGreat
namespace Go.Proofs.YtkepmmocldnnfaaGreat
open Go Go.RowKit Go.Maps Go.MapKept
open Go.ChangeMaps (setBlock)
set_option linter.unusedVariables false
set_option linter.unusedSimpArgs false
set_option maxHeartbeats 2000000
def yAl (ms:List PMem) (t:ByteArray) (place:Nat):Option Nat:=(List.range ms.length).find? fun k => yhS ms t ((place + k) % ms.length)
def yrB (ms:List PMem) (t:ByteArray) (place:Nat):Option Nat:=(yAl ms t place).map fun k => (place + k) % ms.length
def yLa (o:Option Nat):Int:=match o with
 | some i => (i:Int)
 | none => -1
theorem yDh {w:World} {a':Option Addr} {n' c' b0 b1 place:Nat} {z0 z1:Nat × Nat} {ms:List MemV} (hm:ym4 w a' n' ms) (h0:w.heap[b0]? = some (.cells #[.slice a' n' c'] 229 z0)) (h1:w.heap[b1]? = some (.cells #[.int .i64 (place:Int)] 3 z1)) (hp:place ≤ 8) (hm8:ms.length ≤ 8) (t:ByteArray) :
  Calls pP 156 #[.string t,.pointer (some ⟨b0,0,none⟩),.pointer (some ⟨b1,0,none⟩)] w fun e w' => e = .returned (.int .i64 (yLa (yrB (ms.map (·.x)) t place))) ∧ Mod [] w w':=by
 obtain rfl:n' = ms.length:=hm.1.1
 refine ya2 (yHD ?_)
 refine yaT (x:=a') (n:=ms.length) (c:=c') (by rw [yaY h0]; rfl) ?_
 refine yAh (fun m x w' => ∃ k:Nat,x = k ∧ k ≤ ms.length ∧ (∀ j,j < k → yhS (ms.map (·.x)) t ((place + j) % ms.length) = false) ∧ Mod [] w w' ∧ m = ms.length - k) ms.length ⟨0,rfl,by omega,fun j hj => by omega,Mod.refl _,rfl⟩ ?_
 rintro m x w1 ⟨k,rfl,hk,hno,M1,rfl⟩
 refine yaH (fun hlt => ?_) fun hge => ?_
 ·refine yaI (x:=(place:Int)) (by rw [yaY (M1.keep0 h1)]; rfl) ?_
  refine yaT (x:=a') (n:=ms.length) (c:=c') (by rw [yaY (M1.keep0 h0)]; rfl) ⟨by omega,?_⟩
  refine yaT (x:=a') (n:=ms.length) (c:=c') (by rw [yaY (M1.keep0 h0)]; rfl) ?_
  have ei:Int.tmod (IntKind.wrap .i64 ((place:Int) + k)) (ms.length:Int) = (((place + k) % ms.length:Nat):Int):=by
   rw [yaJ (by omega) (by omega),show (place:Int) + k = ((place + k:Nat):Int) by omega]
   exact (Int.ofNat_tmod _ _).symm
  rw [ei]
  have hi:(place + k) % ms.length < ms.length:=Nat.mod_lt _ (by omega)
  obtain ⟨y,hy⟩:∃ y,ms[(place + k) % ms.length]? = some y:=⟨_,List.getElem?_eq_getElem hi⟩
  refine (hm.1.keep0 M1).ix hy fun q hq => yaN (x:=y.x.name) (by simpa [add_zero,yAi] using hq 0 _ rfl) (yaT (x:=y.ts.a) (n:=y.ts.n) (c:=y.ts.c) (by simpa [yAi] using hq 1 _ rfl) ?_)
  obtain ⟨hys,hyl⟩:=hm.2 y (List.mem_of_getElem? hy)
  refine (yx9 (hys.keep0 M1) hyl t).mono ?_
  rintro _ w10 ⟨rfl,M10⟩
  have ew:yhS (ms.map (·.x)) t ((place + k) % ms.length) = inS y.x.topics t:=by simp [yhS,hy]
  refine ⟨_,rfl,yaD (fun g => ?_) fun g => ?_⟩
  ·have:yAl (ms.map (·.x)) t place = some k:=by
    rw [yAl,List.length_map,List.find?_range_eq_some]
    exact ⟨by rw [ew,g],by simp; omega,fun j hj => by rw [hno j hj]; rfl⟩
   refine ⟨?_,M1.go0 M10 (by simp)⟩
   rw [yrB,this,Option.map_some,List.length_map]
   rfl
  ·refine yAg (ms.length - (k + 1)) (by omega) ⟨k + 1,by rw [yaJ (by omega) (by omega)]; omega,by omega,fun j hj => ?_,M1.go0 M10 (by simp),rfl⟩
   by_cases e:j = k
   ·subst e; rw [ew,g]
   ·exact hno j (by omega)
 ·have:yAl (ms.map (·.x)) t place = none:=by
   rw [yAl,List.length_map,List.find?_range_eq_none]
   exact fun j hj => by rw [hno j (by omega)]; rfl
  refine ⟨?_,M1⟩
  rw [yrB,this]; rfl
theorem yET {ms:List PMem} {t:ByteArray} {place i:Nat} (h:yrB ms t place = some i):i < ms.length:=by
 obtain ⟨k,hk,rfl⟩:=Option.map_eq_some_iff.1 h
 rw [yAl,List.find?_range_eq_some] at hk
 have:=hk.2.1
 exact Nat.mod_lt _ (by simp at this; omega)
def ygS (ms:List PMem) (t:ByteArray):Nat → Nat → Nat → List (List PPart) → List (List PPart) × Nat
 | _,0,place,L => (L,place)
 | p,r + 1,place,L => match yrB ms t place with
  | none => (L,place)
  | some i => ygS ms t (p + 1) r (i + 1) (ynW L i ⟨t,(p:Int)⟩)
def yhT (ms:List PMem):List PTop → Nat → List (List PPart) → List (List PPart)
 | [],_,L => L
 | x :: r,place,L => yhT ms r (ygS ms x.t 0 x.n.toNat place L).2 (ygS ms x.t 0 x.n.toNat place L).1
def ym5 (l:List PTop) (ms:List PMem):List (List PPart):=yhT ms l 0 (List.replicate ms.length [])
theorem yEU {w:World} {a a':Option Addr} {n c n' c':Nat} {l:List PTop} {ms:List MemV} (h:ybD w 2 yq7 a n l) (hm:ym4 w a' n' ms) :
  Calls pP 130 #[.slice a n c,.slice a' n' c'] w fun e w' => ∃ v,e = .returned v ∧ Mod [] w w' ∧ yGh w w' (ycM l (ms.map (·.x))) (ym5 l (ms.map (·.x))) v:=by
 have hn:=h.1
 have hn':=hm.1.1
 refine yHC ?_
 intro b0 hb0 w1 A1
 have M1:=A1.mod
 have s1:=M1.size
 refine (ytG (h.keep0 M1) (hm.1.keep0 M1)).mono ?_
 rintro _ w3 ⟨rfl,M3'⟩
 have M3:=M1.go0 M3' (by simp)
 refine ⟨_,rfl,yaG.of0 M3',yaD (fun g => ?_) fun g => ?_⟩
 ·have g:ycM l (ms.map (·.x)) ≠ 0:=by simpa using g
  exact ⟨M3,.inl ⟨g,rfl⟩⟩
 have g:ycM l (ms.map (·.x)) = 0:=by simpa using g
 obtain ⟨hl8,hm8,hx8⟩:=yj7 g
 rw [List.length_map] at hm8
 have s3:=M3.size
 have s3':=M3'.size
 have hb03:b0 < w1.heap.size:=A1.lt b0 (by simp)
 obtain ⟨i0,hi0,hz0,hz1,hz2⟩:=info_parts yGe
 obtain ⟨w5,hw5,ho5,hg5⟩:=run_makeSlice_full (P:=pP) (w:=w3) w3.heap.size 233 42 i0 (.slice none 0 0) 1 Tryz.underlying233 hi0 hz0 hz1 .i64 .i64 n' (by omega) (by rw [hz2]; omega) (by unfold maxLen; omega) (by omega)
 refine ⟨_,_,_,w5,hw5,?_⟩
 have M5:Mod [] w3 w5:=⟨hg5.os,hg5.tape,hg5.output,hg5.size,fun j hj _ => hg5.block j hj (by simp)⟩
 have hO5:OutAt w5 w3.heap.size (some ⟨w3.heap.size,0,none⟩) n' n' (List.replicate n' ⟨ybM,[]⟩):=by
  refine ⟨⟨by simp,by rw [← yGf n' (by omega)]; exact ho5⟩,fun q hq => ?_,?_⟩
  ·rw [List.eq_of_mem_replicate hq]; exact Row.nil _ _ _ _ _
  ·refine List.pairwise_replicate.2 (.inr ?_)
   intro z hz
   simp [ybM,yaP] at hz
 have N5:=M3.go0 M5 (by simp)
 generalize (some ⟨w3.heap.size,0,none⟩:Option Addr) = a7 at hO5 ⊢
 refine ⟨yaG.of0 M5,?_⟩
 intro b1 hb1 w6 A6 h06 h16
 have s5:=M5.size
 have N6:=N5.go0 A6.mod (by simp)
 have hb16:b1 < w6.heap.size:=A6.lt b1 (by simp)
 have s6:=A6.mod.size
 have hO6:=hO5.keep0 A6.mod
 have hba0:b0 ∉ yaP a7:=fun hz => by have:=(yaQ hO5.row b0 hz).1; omega
 have hba1:b1 ∉ yaP a7:=fun hz => by have:=(yaQ hO5.row b1 hz).2; omega
 have hab:∀ z ∈ yaP a7,z < w5.heap.size:=fun z hz => (yaQ hO5.row z hz).2
 have hR0:∀ {w'},OutAt w' w3.heap.size a7 n' n' (List.replicate n' ⟨ybM,[]⟩) → OutAt w' w.heap.size a7 n' n' (List.replicate n' ⟨ybM,[]⟩):=fun h => ⟨h.row.rebase (by omega),fun q hq => (h.parts q hq).rebase (by omega),h.apart⟩
 have hO6:=hR0 hO6
 refine yAd (fun m x a0 n0 c0 xp w' => ∃ (i place:Nat) (qs:List PsV),x = i ∧ a' = a0 ∧ n' = n0 ∧ c' = c0 ∧ xp = (place:Int) ∧ place ≤ 8 ∧ i ≤ l.length ∧ OutAt w' w.heap.size a7 n' n' qs ∧ yhT (ms.map (·.x)) (l.drop i) place (qs.map (·.l)) = ym5 l (ms.map (·.x)) ∧ qs.length = ms.length ∧ (∀ q ∈ qs,b0 ∉ yaP q.s.a ∧ b1 ∉ yaP q.s.a) ∧ (∀ q ∈ qs,q.l.length ≤ 100 * i) ∧ Mod [] w w' ∧ w6.heap.size ≤ w'.heap.size ∧ m = l.length - i) l.length
  ⟨0,0,_,rfl,rfl,rfl,rfl,rfl,by omega,by omega,hO6,by rw [ym5,List.length_map,← hn',List.map_replicate]; rfl,by simp [hn'],fun q hq => by rw [List.eq_of_mem_replicate hq]; simp [ybM,yaP],fun q hq => by rw [List.eq_of_mem_replicate hq]; simp,N6,Nat.le_refl _,rfl⟩ ?_
 clear hO6 hO5 hR0 h06 h16
 rintro m x _ _ _ _ w7 ⟨i,place,qs,rfl,rfl,rfl,rfl,rfl,hpl,hi,hO,hr,hql,hbq,hqn,N,s7,rfl⟩ h0 h1
 refine yaH (fun hlt => ?_) fun hge => ?_
 ·obtain ⟨t,ht⟩:∃ t,l[i]? = some t:=⟨_,List.getElem?_eq_getElem (by omega)⟩
  obtain ⟨N',hN'⟩:∃ N':Nat,t.n = N':=⟨t.n.toNat,by have:=(hx8 t (List.mem_of_getElem? ht)).1; omega⟩
  have hN8:N' ≤ 8:=by have:=(hx8 t (List.mem_of_getElem? ht)).2; omega
  refine (h.keep0 N).ix ht fun q hq => yaN (by simpa [add_zero,yq7] using hq 0 _ rfl) (yaI (x:=t.n) (by simpa [yq7] using hq 1 _ rfl) ?_)
  intro b2 hb2 w8 A8 h08 h18
  have hb28:b2 < w8.heap.size:=A8.lt b2 (by simp)
  have N8:=N.go0 A8.mod (by simp)
  have s8:=A8.mod.size
  have sw:=N.size
  have hO8:=hO.keep0 A8.mod
  have hba2:b2 ∉ yaP a7:=fun hz => by have:=hab b2 hz; omega
  have hbq':∀ q ∈ qs,b0 ∉ yaP q.s.a ∧ b1 ∉ yaP q.s.a ∧ b2 ∉ yaP q.s.a:=fun q hq => ⟨(hbq q hq).1,(hbq q hq).2,fun hz => by have:=(yaQ (hO.parts q hq) b2 hz).2; omega⟩
  rw [yDg ht] at hr
  rw [hN']
  change yhT _ _ (ygS _ t.t 0 t.n.toNat _ _).2 (ygS _ t.t 0 t.n.toNat _ _).1 = _ at hr
  rw [hN',Int.toNat_natCast] at hr
  refine yAf (fun m x32 a0 n0 c0 xp w' => ∃ (p place:Nat) (qs:List PsV),x32 = p ∧ a' = a0 ∧ n' = n0 ∧ c' = c0 ∧ xp = (place:Int) ∧ place ≤ 8 ∧ p ≤ N' ∧ OutAt w' w.heap.size a7 n' n' qs ∧ yhT (ms.map (·.x)) (l.drop (i + 1)) (ygS (ms.map (·.x)) t.t p (N' - p) place (qs.map (·.l))).2 (ygS (ms.map (·.x)) t.t p (N' - p) place (qs.map (·.l))).1 = ym5 l (ms.map (·.x)) ∧ qs.length = ms.length ∧ (∀ q ∈ qs,b0 ∉ yaP q.s.a ∧ b1 ∉ yaP q.s.a ∧ b2 ∉ yaP q.s.a) ∧ (∀ q ∈ qs,q.l.length ≤ 100 * i + p) ∧ Mod [] w w' ∧ w8.heap.size ≤ w'.heap.size ∧ m = N' - p) N'
   ⟨0,place,qs,rfl,rfl,rfl,rfl,rfl,hpl,by omega,hO8,hr,hql,hbq',by simpa using hqn,N8,Nat.le_refl _,rfl⟩ ?_
  clear hr hO hO8 hbq hbq' hqn hql h08 h18 h0 h1 hpl
  rintro m x32 _ _ _ _ w9 ⟨p,place,qs,rfl,rfl,rfl,rfl,rfl,hpl,hp,hO,hr,hql,hbq,hqn,N9,s9,rfl⟩ h0 h1
  have ei:IntKind.wrap .i64 ((i:Int) + 1) = ((i + 1:Nat):Int):=by rw [yaJ (by omega) (by omega)]; omega
  rw [ei]
  refine yaH (fun hlt2 => ?_) fun hge2 => ?_
  ·refine (yDh (hm.keep0 N9) h0 h1 hpl hm8 t.t).mono ?_
   rintro _ w10 ⟨rfl,M10⟩
   have N10:=N9.go0 M10 (by simp)
   have h010:=M10.keep0 h0
   have h110:=M10.keep0 h1
   have hO10:=hO.keep0 M10
   have s10:=M10.size
   refine ⟨_,rfl,yaG.of0 M10,_,_,_,h010,_,h110,?_⟩
   rw [show N' - p = (N' - (p + 1)) + 1 by omega] at hr
   rw [ygS] at hr
   cases hnx:yrB (ms.map (·.x)) t.t place with
   | none =>
    rw [hnx] at hr
    refine yaD (fun _ => ?_) fun g => by simp [yLa] at g
    exact ypD (l.length - (i + 1)) (by omega) ⟨i + 1,place,qs,rfl,rfl,rfl,rfl,rfl,hpl,by omega,hO10,hr,hql,fun q hq => ⟨(hbq q hq).1,(hbq q hq).2.1⟩,fun q hq => by have:=hqn q hq; omega,N10,by omega,rfl⟩
   | some j =>
    rw [hnx] at hr
    change yhT _ _ (ygS _ t.t (p + 1) (N' - (p + 1)) (j + 1) (ynW _ j ⟨t.t,(p:Int)⟩)).2 (ygS _ t.t (p + 1) (N' - (p + 1)) (j + 1) (ynW _ j ⟨t.t,(p:Int)⟩)).1 = _ at hr
    have hj:=yET hnx
    rw [List.length_map] at hj
    change brB ((j:Int) == -1) _ _
    refine yaD (fun g => by simp at g) fun _ => ?_
    obtain ⟨q,hq⟩:∃ q,qs[j]? = some q:=⟨_,List.getElem?_eq_getElem (by omega)⟩
    have hqm:=List.mem_of_getElem? hq
    refine (hO10.row.sl yd7).ixW hq fun q1 g1 => ?_
    intro w11 A11 h011 h111
    have N11:=N10.go0 A11.mod (by simp)
    have hO11:=hO10.keep0 A11.mod
    have s11:=A11.mod.size
    refine yaT (x:=q.s.a) (n:=q.s.n) (c:=q.s.c) (by simpa [add_zero,yf8] using g1 _ A11.mod 0 _ rfl) ?_
    obtain ⟨hq0,hq1,hq2⟩:=hbq q hqm
    refine yq8 (f:=q.s) (y:=⟨t.t,(p:Int)⟩) (hO11.parts q hqm) (by have:=hqn q hqm; omega) (by omega) (fun b hb => by simp at hb; rcases hb with rfl | rfl | rfl <;> assumption) fun a3 c3 w12 hR12 M12 hk12 => ?_
    have s12:=M12.size
    have N12:=N11.go0 M12 fun z hz => (yaQ (hO11.parts q hqm) z hz).1
    have hb3:b0 ∉ yaP a3 ∧ b1 ∉ yaP a3 ∧ b2 ∉ yaP a3:=by
     refine ⟨fun hz => ?_,fun hz => ?_,fun hz => ?_⟩ <;> rcases hk12 _ hz with hz | hz
     ·exact hq0 hz
     ·omega
     ·exact hq1 hz
     ·omega
     ·exact hq2 hz
     ·omega
    refine (hO11.row1 hqm M12).store yd7 (y:=⟨⟨a3,q.s.n + 1,c3⟩,q.l ++ [⟨t.t,(p:Int)⟩]⟩) rfl hq fun ad w13 had hR13 M13 => ?_
    have hsb:∀ z ∈ [ad.block],z ∈ yaP a7:=fun z hz => by simp at hz; subst hz; exact yb0 _ ad had
    have hO13:=hO11.give hq M12 hR12 hk12 had hR13 M13
    refine ⟨yaG.of M13 fun b hb _ hz => ?_,?_⟩
    ·simp at hb; subst hb; exact hba2 (hsb _ hz)
    have s13:=M13.size
    have h012:=M12.keep h011 hq0
    have h112:=M12.keep h111 hq1
    refine ⟨_,_,_,M13.keep h012 fun hz => hba0 (hsb _ hz),_,M13.keep h112 fun hz => hba1 (hsb _ hz),?_⟩
    intro w14 A14 h014 h114
    have ex:IntKind.wrap .i64 ((p:Int) + 1) = ((p + 1:Nat):Int):=by rw [yaJ (by omega) (by omega)]; omega
    have ec:IntKind.wrap .i64 ((j:Int) + 1) = ((j + 1:Nat):Int):=by rw [yaJ (by omega) (by omega)]; omega
    change KS _ (yiC _ _ _ _ _ _ _ _ _ _ _ _ _ _ _ _ (IntKind.wrap .i64 ((p:Int) + 1),_,_,_,IntKind.wrap .i64 ((j:Int) + 1))) _
    rw [ex,ec]
    have N13:=N12.go0 M13 fun z hz => (yaQ hO11.row z (hsb z hz)).1
    have s14:=A14.mod.size
    have hbn:∀ x ∈ qs.set j ⟨⟨a3,q.s.n + 1,c3⟩,q.l ++ [⟨t.t,(p:Int)⟩]⟩,b0 ∉ yaP x.s.a ∧ b1 ∉ yaP x.s.a ∧ b2 ∉ yaP x.s.a:=fun x hx => by
     rcases yeC hx with rfl | ⟨jj,_,hxj⟩
     ·exact hb3
     ·exact hbq x (List.mem_of_getElem? hxj)
    have hO14:=hO13.keep A14.mod (fun z hz => by simp at hz; subst hz; exact hba1) fun x hx z hz => by simp at hz; subst hz; exact (hbn x hx).2.1
    refine yAe (N' - (p + 1)) (by omega) ⟨p + 1,j + 1,_,rfl,rfl,rfl,rfl,rfl,by omega,by omega,hO14,?_,by simpa using hql,hbn,fun x hx => ?_,N13.go0 A14.mod fun z hz => by simp at hz; omega,by omega,rfl⟩
    ·rw [yrA hq]
     exact hr
    ·rcases yeC hx with rfl | ⟨jj,_,hxj⟩
     ·have:=hqn q hqm
      simp; omega
     ·have:=hqn x (List.mem_of_getElem? hxj)
      omega
  ·have hp':p = N':=by omega
   subst hp'
   rw [Nat.sub_self] at hr
   exact ypD (l.length - (i + 1)) (by omega) ⟨i + 1,place,qs,rfl,rfl,rfl,rfl,rfl,hpl,by omega,hO,hr,hql,fun q hq => ⟨(hbq q hq).1,(hbq q hq).2.1⟩,fun q hq => by have:=hqn q hq; omega,N9,by omega,rfl⟩
 ·have hi':i = l.length:=by omega
  subst hi'
  rw [List.drop_length] at hr
  exact ⟨N,.inr ⟨g,_,_,_,qs,rfl,hO,hr⟩⟩
end Go.Proofs.YtkepmmocldnnfaaGreat
namespace Go.Proofs.YtkepmmocldnnfaaGreat
open Go Go.RowKit Go.Maps Go.MapKept
open Go.ChangeMaps (setBlock)
set_option linter.unusedVariables false
set_option linter.unusedSimpArgs false
set_option maxHeartbeats 2000000
def yeZ (q:SeatV):List Value:=[.string q.x.name,.slice q.ts.a q.ts.n q.ts.c,.int .i64 q.x.tmo,.int .i64 q.x.seen]
theorem yvW (q:SeatV):(yeZ q).length = 4:=rfl
theorem yvX (q:SeatV):∀ u ∈ yeZ q,u.oneCell' = true:=by simp [yeZ,Value.oneCell']
theorem yEV:(Tryz.prog.info? 153).map (fun i => (i.zero,i.size,i.bytes)) = some (some (.agg #[.string ByteArray.empty,.slice none 0 0,.int .i64 0,.int .i64 0]),4,56):=by kernel_rfl
theorem yHF:(Tryz.prog.info? 151).map (fun i => (i.zero,i.size,i.bytes)) = some (some (.agg #[.string ByteArray.empty,.slice none 0 0]),2,40):=by kernel_rfl
theorem yAm {w:World} {B:Nat} {f:Sl} {l:List SeatV} {y:SeatV} {bs:List Nat} {F:Option Addr → Nat → Nat → World → Prop} (hR:Row w B 153 4 yeZ f.a f.n f.c l) (hl:l.length ≤ 1000000) (hB:B ≤ w.heap.size) (hbs:∀ b ∈ bs,b ∉ yaP f.a)
  (hF:∀ a' c' w',Row w' B 153 4 yeZ a' (f.n + 1) c' (l ++ [y]) → Mod (yaP f.a) w w' → F a' (f.n + 1) c' w') :
  al w (.cells (yeZ y).toArray 153) fun b w1 => ybN pP (Builtin.append_ #[230,230] 230 #[.slice f.a f.n f.c,.slice (some ⟨b,0,none⟩) 1 1]) w1 fun a n c w2 => yaG bs w1 w2 ∧ F a n c w2:=by
 refine ybH fun b w1 c1 M1 f1 => ?_
 have s1:=M1.size
 obtain ⟨i0,hi0,hz0,hz1,hz2⟩:=info_parts yEV
 refine ydZ (x:=y) (hR.keep0 M1) Tryz.underlying230 hi0 hz0 hz1 hz2 rfl (by decide) c1 rfl (yvX _) (by omega) (by unfold maxLen; omega) (by omega) fun a' c' w8 hR8 hM8 => ?_
 have M8:=hM8 _ (yb0 f.a)
 refine ⟨yaG.of M8 fun b hb _ => hbs b hb,hF a' c' w8 hR8 ?_⟩
 exact (M1.trans M8).less fun k hk _ => by simpa using hk
theorem yDi {w:World} {B:Nat} {f:Sl} {l:List MemV} {y:MemV} {bs:List Nat} {F:Option Addr → Nat → Nat → World → Prop} (hR:Row w B 151 2 yAi f.a f.n f.c l) (hl:l.length ≤ 1000000) (hB:B ≤ w.heap.size) (hbs:∀ b ∈ bs,b ∉ yaP f.a)
  (hF:∀ a' c' w',Row w' B 151 2 yAi a' (f.n + 1) c' (l ++ [y]) → Mod (yaP f.a) w w' → F a' (f.n + 1) c' w') :
  al w (.cells (yAi y).toArray 151) fun b w1 => ybN pP (Builtin.append_ #[229,229] 229 #[.slice f.a f.n f.c,.slice (some ⟨b,0,none⟩) 1 1]) w1 fun a n c w2 => yaG bs w1 w2 ∧ F a n c w2:=by
 refine ybH fun b w1 c1 M1 f1 => ?_
 have s1:=M1.size
 obtain ⟨i0,hi0,hz0,hz1,hz2⟩:=info_parts yHF
 refine ydZ (x:=y) (hR.keep0 M1) Tryz.underlying229 hi0 hz0 hz1 hz2 rfl (by decide) c1 rfl (yEP _) (by omega) (by unfold maxLen; omega) (by omega) fun a' c' w8 hR8 hM8 => ?_
 have M8:=hM8 _ (yb0 f.a)
 refine ⟨yaG.of M8 fun b hb _ => hbs b hb,hF a' c' w8 hR8 ?_⟩
 exact (M1.trans M8).less fun k hk _ => by simpa using hk
def yd8 (G:GL):List PSeat:=(ydK (G.map (·.1))).map fun k => (lkp G k).getD yfD
structure SeatsAt (w:World) (B:Nat) (a:Option Addr) (n c:Nat) (qs:List SeatV):Prop where
 row:Row w B 153 4 yeZ a n c qs
 ts:∀ q ∈ qs,Row w B 9 1 ydC q.ts.a q.ts.n q.ts.c q.x.topics
theorem SeatsAt.keep0 {w w':World} {B:Nat} {a:Option Addr} {n c:Nat} {qs:List SeatV} (h:SeatsAt w B a n c qs) (M:Mod [] w w'):SeatsAt w' B a n c qs:=⟨h.row.keep0 M,fun q hq => (h.ts q hq).keep0 M⟩
theorem yDj {w:World} {b:Nat} {gen:Int} {robin:Bool} {G:GL} {F:List Nat} (h:yc0 w b gen robin G F) (hl:G.length ≤ 1000000) (hG:∀ q ∈ G,q.2.topics.length ≤ 1000000) :
  Calls pP 128 #[.pointer (some ⟨b,0,none⟩)] w fun e w' => ∃ v,e = .returned v ∧ ∃ (s:Sl) (qs:List SeatV),v = .slice s.a s.n s.c ∧ SeatsAt w' w.heap.size s.a s.n s.c qs ∧ qs.map (·.x) = yd8 G ∧ Mod [] w w':=by
 have hA:=h
 obtain ⟨m,L,hc,hm,hT,rfl,rfl⟩:=h
 have lb:=yaL hc
 refine yHr hc ?_
 intro w9 A9 hc9
 have s9:=A9.mod.size
 refine (yi5 (hA.keep0 A9.mod) hl).mono ?_
 rintro _ w10 ⟨_,rfl,s,rfl,hN,M10⟩
 have N10:=A9.mod.go0 M10 (by simp)
 have s10:=M10.size
 refine ⟨_,_,_,rfl,_,_,_,M10.keep0 hc9,?_⟩
 have hlen:(ydK ((yaZ L).map (·.1))).length ≤ 1000000:=by rw [yfO,List.length_map]; exact hl
 have hmemS:∀ k ∈ ydK ((yaZ L).map (·.1)),k.size ≤ maxLen:=fun k hk => by
  have:=(yd5 _).mem_iff.1 hk
  obtain ⟨p,hp,rfl⟩:=List.mem_map.1 this
  obtain ⟨p',hp',rfl⟩:=List.mem_map.1 hp
  exact hm.nameSize p' hp'
 unfold yd8
 generalize ydK ((yaZ L).map (·.1)) = K at hN hlen hmemS ⊢
 have hn:=hN.1
 refine yzU (fun mm a3 n3 c3 x9 x0 t1 m2 w' => ∃ (k:Nat) (qs:List SeatV),x9 = k ∧ k ≤ K.length ∧ x0 = gen ∧ t1 = robin ∧ m2 = some m ∧ SeatsAt w' w.heap.size a3 n3 c3 qs ∧ qs.map (·.x) = (K.take k).map (fun k => (lkp (yaZ L) k).getD yfD) ∧ Mod [] w w' ∧ Row w' w9.heap.size 9 1 ydC s.a s.n s.c K ∧ mm = K.length - k) K.length
  ⟨0,[],rfl,by omega,rfl,rfl,rfl,⟨Row.nil _ _ _ _ _,by simp⟩,rfl,N10,hN,rfl⟩ ?_
 clear hN
 rintro mm a3 n3 c3 _ _ _ _ w1 ⟨k,qs,rfl,hk,rfl,rfl,rfl,hS,hqs,N,hN,rfl⟩ hcb
 refine yaH (fun hlt => ?_) fun hge => ?_
 ·obtain ⟨nm,hnm⟩:∃ nm,K[k]? = some nm:=⟨_,List.getElem?_eq_getElem (by omega)⟩
  refine (hN.sl (fun _ => rfl)).ix hnm fun q hq => yaN (x:=nm) (by simpa [add_zero,ydC] using hq 0 _ rfl) ?_
  have hlk:=(hm.keepM0 N).lkF (k:=nm) ye0 ybW Tryz.underlying198 yg9 (yb1 (hmemS nm (List.mem_of_getElem? hnm)))
  refine ⟨_,_,_,_,_,_,hlk,?_⟩
  have eq:(lkp (yaZ L) nm).getD yfD = ((lkp L nm).getD ⟨yfD,ybM⟩:SeatV).x:=by rw [yd6]; cases lkp L nm <;> rfl
  have hq:Row w1 0 9 1 ydC ((lkp L nm).getD ⟨yfD,ybM⟩:SeatV).ts.a ((lkp L nm).getD ⟨yfD,ybM⟩:SeatV).ts.n ((lkp L nm).getD ⟨yfD,ybM⟩:SeatV).ts.c ((lkp L nm).getD ⟨yfD,ybM⟩:SeatV).x.topics ∧ ((lkp L nm).getD ⟨yfD,ybM⟩:SeatV).x.topics.length ≤ 1000000:=by
   cases e:lkp L nm with
   | none => exact ⟨Row.nil _ _ _ _ _,by simp [yfD]⟩
   | some q =>
    have hqm:=yaW e
    exact ⟨(hT _ hqm).keep0 N,hG (nm,q.x) (List.mem_map.2 ⟨_,hqm,rfl⟩)⟩
  generalize (lkp L nm).getD ⟨yfD,ybM⟩ = q at hq eq ⊢
  obtain ⟨hq,hql⟩:=hq
  refine (yC3 q.x (ts:=q.ts) (hq.sl (fun _ => rfl)) hql).mono ?_
  rintro _ w2 ⟨_,rfl,t',rfl,hR2,M2⟩
  refine ⟨_,_,_,_,_,_,rfl,_,_,_,M2.keep0 hcb,?_⟩
  have s2:=M2.size
  have sN:=N.size
  have hS2:=hS.keep0 M2
  have hN2:=hN.keep0 M2
  have N2:=N.go0 M2 (by simp)
  have hql':qs.length ≤ 1000000:=by
   have:=congrArg List.length hqs
   simp at this; omega
  refine yAm (f:=⟨a3,n3,c3⟩) (y:=⟨q.x,t'⟩) hS2.row hql' (by omega) (fun z hz hz' => by simp at hz; subst hz; have:=(yaQ hS2.row _ hz').1; omega) fun a4 c4 w4 hR4 M4 => ?_
  have ex:IntKind.wrap .i64 ((k:Int) + 1) = ((k + 1:Nat):Int):=by rw [yaJ (by omega) (by omega)]; omega
  rw [ex]
  have hd:∀ z ∈ yaP a3,w.heap.size ≤ z:=fun z hz => (yaQ hS2.row z hz).1
  refine yzT (K.length - (k + 1)) (by omega) ⟨k + 1,qs ++ [⟨q.x,t'⟩],rfl,by omega,rfl,rfl,rfl,⟨hR4,fun x hx => ?_⟩,?_,N2.go0 M4 hd,yaE hN2 M4 (ybA hS2.row hN2 (by decide)),rfl⟩
  ·rcases List.mem_append.1 hx with hx | hx
   ·exact yaE (hS2.ts x hx) M4 (ybA hS2.row (hS2.ts x hx) (by decide))
   ·simp at hx; subst hx
    exact (yaE hR2 M4 (ybA hS2.row hR2 (by decide))).rebase (by omega)
  ·rw [List.map_append,hqs,yd2 hnm,List.map_append]
   simp [eq]
 ·have hk:k = K.length:=by omega
  subst hk
  rw [List.take_length] at hqs
  exact ⟨⟨a3,n3,c3⟩,qs,rfl,hS,hqs,N⟩
def yk6 (x:PSeat):PMem:=⟨x.name,x.topics⟩
def yLs (q:SeatV):MemV:=⟨yk6 q.x,q.ts⟩
def yrC (robin:Bool) (l:List PTop) (ms:List PMem):List (List PPart):=if robin = true then ym5 l ms else yi8 l ms
def ycN (gen:Int) (robin:Bool) (G:GL) (l:List PTop) (name:ByteArray) (g:Int):Int × List PPart :=
 if ycM l ((yd8 G).map yk6) ≠ 0 then (ycM l ((yd8 G).map yk6),[]) else if yb8 gen G name g ≠ 0 then (yb8 gen G name g,[])
 else (0,(yrC robin l ((yd8 G).map yk6)).getD ((ydK (G.map (·.1))).findIdx (eqS name)) [])
theorem yGi {l:List ByteArray} {s:ByteArray} {k:Nat} (h:l[k]? = some s) (h2:s ∉ l.take k):l.findIdx (eqS s) = k:=by
 obtain ⟨hk,e⟩:=List.getElem?_eq_some_iff.1 h
 rw [List.findIdx_eq hk]
 refine ⟨by rw [e]; simp [eqS],fun j hj => ?_⟩
 have:s ≠ l[j]:=fun e2 => h2 (by rw [e2]; exact List.mem_take_iff_getElem.2 ⟨j,by omega,rfl⟩)
 simp [eqS,this]
theorem yyA {i:Nat} {p:PPart} {L:List (List PPart)}:(ynW L i p).length = L.length:=by simp [ynW]
theorem yyB {t:ByteArray} {i:Nat}:∀ (n k:Nat) (L:List (List PPart)),(yq9 t i k n L).length = L.length
 | 0,_,_ => rfl
 | n + 1,k,L => by rw [yq9,yyB n,yyA]
theorem ytJ {t:ByteArray} {N tot:Nat}:∀ (W:List Nat) (k c:Nat) (L:List (List PPart)),(ygR t N tot W k c L).length = L.length
 | [],_,_,_ => rfl
 | i :: r,k,c,L => by rw [ygR,ytJ r,yyB]
theorem ytK {ms:List PMem}:∀ (l:List PTop) (L:List (List PPart)),(ygE ms l L).length = L.length
 | [],_ => rfl
 | x :: r,L => by rw [ygE,ytK r,ytJ]
theorem yAn (l:List PTop) (ms:List PMem):(yi8 l ms).length = ms.length:=by rw [yi8,ytK,List.length_replicate]
theorem yyC {ms:List PMem} {t:ByteArray}:∀ (r p place:Nat) (L:List (List PPart)),(ygS ms t p r place L).1.length = L.length
 | 0,_,_,_ => rfl
 | r + 1,p,place,L => by
  rw [ygS]
  cases yrB ms t place with
  | none => rfl
  | some i => exact (yyC r _ _ _).trans yyA
theorem ytL {ms:List PMem}:∀ (l:List PTop) (place:Nat) (L:List (List PPart)),(yhT ms l place L).length = L.length
 | [],_,_ => rfl
 | x :: r,place,L => by rw [yhT,ytL r,yyC]
theorem yAo (l:List PTop) (ms:List PMem):(ym5 l ms).length = ms.length:=by rw [ym5,ytL,List.length_replicate]
theorem ytM {w:World} {b:Nat} {gen:Int} {robin:Bool} {G:GL} {F:List Nat} (h:yc0 w b gen robin G F) (hl:G.length ≤ 1000000) (hG:∀ q ∈ G,q.2.topics.length ≤ 1000000) {a:Option Addr} {n c:Nat} {l:List PTop} (hT:ybD w 2 yq7 a n l) {name:ByteArray} (hs:name.size ≤ maxLen) (g:Int) :
  Calls pP 79 #[.pointer (some ⟨b,0,none⟩),.string name,.int .i64 g,.slice a n c] w fun e w' => ∃ v,e = .returned v ∧ Mod [] w w' ∧ ∃ s:Sl,v = .tuple #[.slice s.a s.n s.c,.int .i64 (ycN gen robin G l name g).1] ∧ Row w' w.heap.size 26 2 ylG s.a s.n s.c (ycN gen robin G l name g).2:=by
 have hA:=h
 obtain ⟨m,L,hc,hm,hT',rfl,rfl⟩:=h
 have lb:=yaL hc
 refine yHs hc ?_
 intro w9 A9 hc9
 have s9:=A9.mod.size
 refine (yDj (hA.keep0 A9.mod) hl hG).mono ?_
 rintro _ w10 ⟨_,rfl,s,qs,rfl,hS,hqs,M10⟩
 have N10:=A9.mod.go0 M10 (by simp)
 have hc10:=M10.keep0 hc9
 refine ⟨_,_,_,rfl,_,_,_,hc10,?_⟩
 have hn:=hS.row.1
 have hlq:qs.length ≤ 1000000:=by
  have:=congrArg List.length hqs
  rw [yd8,List.length_map,List.length_map,yfO,List.length_map] at this
  omega
 have hqt:∀ q ∈ qs,q.x.topics.length ≤ 1000000:=fun q hq => by
  have:q.x ∈ yd8 (yaZ L):=by rw [← hqs]; exact List.mem_map.2 ⟨q,hq,rfl⟩
  obtain ⟨k,hk,e⟩:=List.mem_map.1 this
  rw [← e]
  cases e2:lkp (yaZ L) k with
  | none => simp [yfD]
  | some y => exact hG (k,y) (yaW e2)
 refine yzW (fun mm a10 n10 c10 x20 w' => ∃ k:Nat,x20 = k ∧ k ≤ qs.length ∧ Row w' w.heap.size 151 2 yAi a10 n10 c10 ((qs.take k).map yLs) ∧ SeatsAt w' w9.heap.size s.a s.n s.c qs ∧ Mod [] w w' ∧ mm = qs.length - k) qs.length
  ⟨0,rfl,by omega,Row.nil _ _ _ _ _,hS,N10,rfl⟩ ?_
 clear hS
 rintro mm a10 n10 c10 _ w1 ⟨k,rfl,hk,hR,hS,N,rfl⟩ hcb
 have sN:=N.size
 refine yaH (fun hlt => ?_) fun hge => ?_
 ·obtain ⟨q,hq⟩:∃ q,qs[k]? = some q:=⟨_,List.getElem?_eq_getElem (by omega)⟩
  refine (hS.row.sl yvW).ix hq fun p hp => yaN (x:=q.x.name) (by simpa [add_zero,yeZ] using hp 0 _ rfl) (yaT (x:=q.ts.a) (n:=q.ts.n) (c:=q.ts.c) (by simpa [yeZ] using hp 1 _ rfl) (yaI (x:=q.x.tmo) (by simpa [yeZ] using hp 2 _ rfl) (yaI (x:=q.x.seen) (by simpa [yeZ] using hp 3 _ rfl) ?_)))
  intro b2 hb2 w2 A2 hc2
  have hR2:=hR.keep0 A2.mod
  have hS2:=hS.keep0 A2.mod
  have N2:=N.go0 A2.mod (by simp)
  have s2:=A2.mod.size
  refine yDi (f:=⟨a10,n10,c10⟩) (y:=yLs q) hR2 (by simp; omega) (by omega) (fun z hz hz' => by
   have:=yaQ hR _ hz'
   simp at hz; omega) fun a4 c4 w4 hR4 M4 => ?_
  have ex:IntKind.wrap .i64 ((k:Int) + 1) = ((k + 1:Nat):Int):=by rw [yaJ (by omega) (by omega)]; omega
  rw [ex]
  refine yzV (qs.length - (k + 1)) (by omega) ⟨k + 1,rfl,by omega,by rw [yd2 hq,List.map_append]; exact hR4,⟨yaE hS2.row M4 (ybA hR2 hS2.row (by decide)),fun x hx => yaE (hS2.ts x hx) M4 (ybA hR2 (hS2.ts x hx) (by decide))⟩,N2.go0 M4 fun z hz => (yaQ hR2 z hz).1,rfl⟩
 ·have hk:k = qs.length:=by omega
  subst hk
  rw [List.take_length] at hR
  have hMs:ym4 w1 a10 n10 (qs.map yLs):=⟨hR.sl yEO,fun x hx => by
   obtain ⟨q,hq,rfl⟩:=List.mem_map.1 hx
   exact ⟨(hS.ts q hq).sl (fun _ => rfl),hqt q hq⟩⟩
  have eM:(qs.map yLs).map (·.x) = (yd8 (yaZ L)).map yk6:=by rw [← hqs,List.map_map,List.map_map]; rfl
  have hT1:=hT.keep0 N
  have hA1:=hA.keep0 N
  refine yaD (fun hrb => ?_) fun hrb => ?_
  ·refine (yEU hT1 hMs).mono ?_
   rintro _ w2 ⟨_,rfl,M2,hg⟩
   rw [eM] at hg
   have N2:=N.go0 M2 (by simp)
   have hA2:=hA1.keep0 M2
   rcases hg with ⟨he,rfl⟩ | ⟨he,a5,n5,c5,xs,rfl,hO,hxs⟩
   ·refine ⟨_,_,_,_,rfl,_,_,_,M2.keep0 hcb,yaD (fun _ => ?_) fun g3 => absurd (by simpa using g3) he⟩
    refine ⟨N2,ybM,?_,?_⟩
    ·rw [ycN,if_pos he]; rfl
    ·rw [ycN,if_pos he]; exact Row.nil _ _ _ _ _
   ·refine ⟨_,_,_,_,rfl,_,_,_,M2.keep0 hcb,yaD (fun g3 => by simp at g3) fun _ => ?_⟩
    refine (yi4 hA2 hs g).mono ?_
    rintro _ w3 ⟨rfl,M3⟩
    have N3:=N2.go0 M3 (by simp)
    have hA3:=hA2.keep0 M3
    refine ⟨_,rfl,_,_,_,M3.keep0 (M2.keep0 hcb),yaD (fun g4 => ?_) fun g4 => ?_⟩
    ·have g4:yb8 gen (yaZ L) name g ≠ 0:=by simpa using g4
     refine ⟨N3,ybM,?_,?_⟩
     ·rw [ycN,if_neg (by simpa using he),if_pos g4]; rfl
     ·rw [ycN,if_neg (by simpa using he),if_pos g4]; exact Row.nil _ _ _ _ _
    have g4:yb8 gen (yaZ L) name g = 0:=by simpa using g4
    refine (yi5 hA3 hl).mono ?_
    rintro _ w4 ⟨_,rfl,s4,rfl,hN4,M4⟩
    have N4:=N3.go0 M4 (by simp)
    refine ⟨_,_,_,rfl,_,_,_,M4.keep0 (M3.keep0 (M2.keep0 hcb)),?_⟩
    refine (ym3 (hN4.sl (fun _ => rfl)) (by rw [yfO,List.length_map]; exact hl) name).mono ?_
    rintro _ w5 ⟨_,rfl,r,rfl,M5,hr⟩
    have N5:=N4.go0 M5 (by simp)
    refine ⟨_,rfl,_,_,_,M5.keep0 (M4.keep0 (M3.keep0 (M2.keep0 hcb))),?_⟩
    rcases hr with ⟨_,hno⟩ | ⟨k,rfl,hk,hk2⟩
    ·exfalso
     refine hno ((yd5 _).mem_iff.2 ?_)
     cases e:lkp (yaZ L) name with
     | none => simp [yb8,e] at g4
     | some y => exact List.mem_map.2 ⟨_,yaW e,rfl⟩
    ·have hxl:xs.length = (ydK ((yaZ L).map (·.1))).length:=by
      have:=congrArg List.length hxs
      rw [List.length_map,yAo,List.length_map,yd8,List.length_map] at this
      exact this
     have hkl:=(List.getElem?_eq_some_iff.1 hk).1
     obtain ⟨q,hq⟩:∃ q,xs[k]? = some q:=⟨_,List.getElem?_eq_getElem (by omega)⟩
     have hO5:=((hO.keep0 M3).keep0 M4).keep0 M5
     refine (hO5.row.sl yd7).ix hq fun p hp => yaT (x:=q.s.a) (n:=q.s.n) (c:=q.s.c) (by simpa [add_zero,yf8] using hp 0 _ rfl) ?_
     have hE:ycN gen robin (yaZ L) l name g = (0,q.l):=by
      rw [ycN,if_neg (by simpa using he),if_neg (by simpa using g4),yGi hk hk2,yrC,hrb,if_pos rfl,← hxs]
      simp [List.getD,hq]
     rw [hE]
     exact ⟨N5,q.s,rfl,(hO5.parts q (List.mem_of_getElem? hq)).rebase sN⟩
  ·refine (yES hT1 hMs).mono ?_
   rintro _ w2 ⟨_,rfl,M2,hg⟩
   rw [eM] at hg
   have N2:=N.go0 M2 (by simp)
   have hA2:=hA1.keep0 M2
   rcases hg with ⟨he,rfl⟩ | ⟨he,a5,n5,c5,xs,rfl,hO,hxs⟩
   ·refine ⟨_,_,_,_,rfl,_,_,_,M2.keep0 hcb,yaD (fun _ => ?_) fun g3 => absurd (by simpa using g3) he⟩
    refine ⟨N2,ybM,?_,?_⟩
    ·rw [ycN,if_pos he]; rfl
    ·rw [ycN,if_pos he]; exact Row.nil _ _ _ _ _
   ·refine ⟨_,_,_,_,rfl,_,_,_,M2.keep0 hcb,yaD (fun g3 => by simp at g3) fun _ => ?_⟩
    refine (yi4 hA2 hs g).mono ?_
    rintro _ w3 ⟨rfl,M3⟩
    have N3:=N2.go0 M3 (by simp)
    have hA3:=hA2.keep0 M3
    refine ⟨_,rfl,_,_,_,M3.keep0 (M2.keep0 hcb),yaD (fun g4 => ?_) fun g4 => ?_⟩
    ·have g4:yb8 gen (yaZ L) name g ≠ 0:=by simpa using g4
     refine ⟨N3,ybM,?_,?_⟩
     ·rw [ycN,if_neg (by simpa using he),if_pos g4]; rfl
     ·rw [ycN,if_neg (by simpa using he),if_pos g4]; exact Row.nil _ _ _ _ _
    have g4:yb8 gen (yaZ L) name g = 0:=by simpa using g4
    refine (yi5 hA3 hl).mono ?_
    rintro _ w4 ⟨_,rfl,s4,rfl,hN4,M4⟩
    have N4:=N3.go0 M4 (by simp)
    refine ⟨_,_,_,rfl,_,_,_,M4.keep0 (M3.keep0 (M2.keep0 hcb)),?_⟩
    refine (ym3 (hN4.sl (fun _ => rfl)) (by rw [yfO,List.length_map]; exact hl) name).mono ?_
    rintro _ w5 ⟨_,rfl,r,rfl,M5,hr⟩
    have N5:=N4.go0 M5 (by simp)
    refine ⟨_,rfl,_,_,_,M5.keep0 (M4.keep0 (M3.keep0 (M2.keep0 hcb))),?_⟩
    rcases hr with ⟨_,hno⟩ | ⟨k,rfl,hk,hk2⟩
    ·exfalso
     refine hno ((yd5 _).mem_iff.2 ?_)
     cases e:lkp (yaZ L) name with
     | none => simp [yb8,e] at g4
     | some y => exact List.mem_map.2 ⟨_,yaW e,rfl⟩
    ·have hxl:xs.length = (ydK ((yaZ L).map (·.1))).length:=by
      have:=congrArg List.length hxs
      rw [List.length_map,yAn,List.length_map,yd8,List.length_map] at this
      exact this
     have hkl:=(List.getElem?_eq_some_iff.1 hk).1
     obtain ⟨q,hq⟩:∃ q,xs[k]? = some q:=⟨_,List.getElem?_eq_getElem (by omega)⟩
     have hO5:=((hO.keep0 M3).keep0 M4).keep0 M5
     refine (hO5.row.sl yd7).ix hq fun p hp => yaT (x:=q.s.a) (n:=q.s.n) (c:=q.s.c) (by simpa [add_zero,yf8] using hp 0 _ rfl) ?_
     have hE:ycN gen robin (yaZ L) l name g = (0,q.l):=by
      rw [ycN,if_neg (by simpa using he),if_neg (by simpa using g4),yGi hk hk2,yrC,hrb,if_neg (by decide),← hxs]
      simp [List.getD,hq]
     rw [hE]
     exact ⟨N5,q.s,rfl,(hO5.parts q (List.mem_of_getElem? hq)).rebase sN⟩
end Go.Proofs.YtkepmmocldnnfaaGreat
namespace Go.Proofs.YtkepmmocldnnfaaGreat
open Go Go.RowKit
set_option linter.all false
theorem yAp {f:FA} {d1 d2 q b1 b2:Nat} {T1 T2:TypeId} {cs1 cs2:List Value} {x:Value} {w:World} {js:Nat → Value} (h1:w.heap[b1]? = some (.cells cs1.toArray T1)) (h2:w.heap[b2]? = some (.cells cs2.toArray T2)) (hne:b1 ≠ b2)
  (hf:f = ⟨[(d1,.pointer (some ⟨b1,0,none⟩),some (0,0)),(d2,.pointer (some ⟨b2,0,none⟩),some (1,0)),(q,x,none)],js⟩):Inv f ⟨[⟨b1,T1,cs1,false⟩,⟨b2,T2,cs2,false⟩],w,[],[],true⟩ w:=by
 subst hf
 have get:∀ (k:Nat) (tb:TB),[(⟨b1,T1,cs1,false⟩:TB),⟨b2,T2,cs2,false⟩][k]? = some tb → (k = 0 ∧ tb = ⟨b1,T1,cs1,false⟩) ∨ (k = 1 ∧ tb = ⟨b2,T2,cs2,false⟩):=fun k tb h => by
  match k,h with
  | 0,h => simp at h; exact .inl ⟨rfl,h.symm⟩
  | 1,h => simp at h; exact .inr ⟨rfl,h.symm⟩
  | k + 2,h => simp at h
 refine ⟨fun k tb hk => by rcases get k tb hk with ⟨_,rfl⟩ | ⟨_,rfl⟩ <;> assumption,fun i j x y hx hy hb => ?_,fun i k off ht => ?_,(Mod.refl w).less (by simp [yv8]),by simp,⟨by simp,by simp⟩,fun _ => rfl⟩
 ·rcases get i x hx with ⟨rfl,rfl⟩ | ⟨rfl,rfl⟩ <;> rcases get j y hy with ⟨rfl,rfl⟩ | ⟨rfl,rfl⟩
  ·rfl
  ·exact absurd hb hne
  ·exact absurd hb.symm hne
  ·rfl
 ·simp only [FA.tag,lkT] at ht
  split at ht
  ·rename_i hi
   have hi:d1 = i:=Nat.eq_of_beq_eq_true hi
   subst hi; cases ht
   exact ⟨_,rfl,by simp [FA.get,lkV]⟩
  ·rename_i hi
   split at ht
   ·rename_i hi2
    have hi2:d2 = i:=Nat.eq_of_beq_eq_true hi2
    subst hi2; cases ht
    exact ⟨_,rfl,by simp [FA.get,lkV,hi]⟩
   ·split at ht <;> cases ht
theorem yAq {n d1 d2 q:Nat} {p1 p2 x:Value} {t1 t2:Tag} {a:Act} (h1:a.tmps.getD d1 undef = p1) (h2:a.tmps.getD d2 undef = p2) (h3:a.tmps.getD q undef = x) (hd:a.defers = []) (hn:a.tmps.size = n):Rel n ⟨[(d1,p1,t1),(d2,p2,t2),(q,x,none)],fun i => a.tmps.getD i undef⟩ a :=
 ⟨fun i => by
  simp only [FA.get,lkV]
  split
  ·rename_i hi
   rw [← Nat.eq_of_beq_eq_true hi,h1]
  ·split
   ·rename_i hi
    rw [← Nat.eq_of_beq_eq_true hi,h2]
   ·split
    ·rename_i hi
     rw [← Nat.eq_of_beq_eq_true hi,h3]
    ·rfl,hd,hn⟩
theorem yHG {P:Program} {o:Oper} {a:Act} {l:Nat} {next:Act → World → Prop} {Q:Exit → Act → World → Prop} (hQ:¬ LetsOut Q):∀ {r:Result Next},o.upon P a next Q r → o.uponIn (Fence.wide.inRound l) 0 P a next Q r:=fun {r} h => by
 unfold Oper.upon at h
 unfold Oper.uponIn
 split at h
 ·exact h
 ·exact h
 ·exact h
 ·refine ⟨fun hh => by simp [Fence.wide] at hh,(CallsIn.inRound l (callsIn_wide.2 h)).mono fun e w'' hv => ?_⟩
  cases e <;> exact hv
 ·refine ⟨fun hh => by simp [Fence.wide] at hh,?_⟩
  exact fun c cs _ => let ⟨v,w',r,s⟩:=h c cs; ⟨v,w',r,stepsIn_wide.2 s⟩
 ·exact h
 ·exact h.elim
theorem yyD {P:Program} {ops:Array Oper} {md:Region.Mode} {l:Nat} {Q:Exit → Act → World → Prop} (hnd:∀ (i:Nat) o,ops[i]? = some o → ∀ c,o.op ≠ .defer c) (hQ:¬ LetsOut Q):∀ (n:Nat) (ls:Array Bool) (a:Act) (w:World),wpAny P md ops Q n ls a w → wpAnyIn (Fence.wide.inRound l) 0 P md ops Q n ls a w
 | 0,ls,a,w,h => h
 | n + 1,ls,a,w,h => by
  refine ⟨h.1,fun i hi => ?_⟩
  have h2:=h.2 i hi
  unfold wpOp at h2
  unfold wpOpIn
  cases ho:ops[i]? with
  | none =>
   simp only [ho] at h2 ⊢
   exact yyD hnd hQ n _ _ _ h2
  | some o =>
   simp only [ho] at h2 ⊢
   split at h2
   ·rename_i hw
    rw [if_pos hw]
    rcases h2 with h2 | ⟨_,h2⟩
    ·have h3:=Oper.wp_mono (K':=wpAnyIn (Fence.wide.inRound l) 0 P md ops Q n (ls.setIfInBounds i true)) (fun a w => yyD hnd hQ n _ a w) h2
     refine ⟨fun _ _ => trivial,?_⟩
     rw [Oper.semAt_eq _ _ _ (hnd i o ho)]
     exact yHG hQ h3
    ·exact absurd h2 hQ
   ·rename_i hw
    rw [if_neg hw]
    exact ⟨fun _ _ => trivial,yyD hnd hQ n _ _ _ h2⟩
def ym6 (Q:Act → World → Prop):Exit → Act → World → Prop:=fun e a w => e = .normal ∧ Q a w
theorem yAr {Q:Act → World → Prop}:¬ LetsOut (ym6 Q):=by rintro ⟨_,_,h,_⟩; cases h
theorem yDk {P:Program} (hm:P.follows .mixedOrders = true) {id l:Nat} {ops:Array Oper} {Q:Act → World → Prop} {a:Act} {w:World} (hnd:∀ (i:Nat) o,ops[i]? = some o → ∀ c,o.op ≠ .defer c)
 (h:wpAny P .any ops (ym6 Q) ops.size (Array.replicate ops.size false) a { w with drawn:=w.drawn + 1 }):(Code.region id ops true).wpIn (Fence.wide.inRound l) 0 P (ym6 Q) a w:=wpIn_region_any hm (yyD hnd yAr _ _ _ _ h)
theorem yDl {P:Program} {ops:Array Oper} {Q:Exit → Act → World → Prop} {a:Act} {w:World} {L:List Nat} (hL:yIc P ops L = true)
  (h:∀ w1,Mod [] w w1 → ycV P ops (clo ops) (Q .normal) L [] a w1):wpAny P .any ops Q ops.size (Array.replicate ops.size false) a { w with drawn:=w.drawn + 1 }:=by
 simp only [yIc,yyW,Bool.and_eq_true,List.all_eq_true,decide_eq_true_eq,beq_iff_eq] at hL
 obtain ⟨⟨⟨⟨⟨h1,h2⟩,h3⟩,h6⟩,h4⟩,h5⟩:=hL
 have hmem:∀ i,i < ops.size → i ∈ L:=fun i hi => by simpa using h6 i (by simpa using hi)
 refine yhX ops.size h1 (by simp) h3 ?_ h2 h4 h5 ?_ (h _ (Mod.drewN w 1))
 ·intro i hi
  simp [hi,hmem i hi]
 ·intro x o hx ho
  exact absurd (hmem x (Array.getElem?_eq_some_iff.1 ho).1) hx
theorem yDm {P:Program} {ops:Array Oper} {C:World → Prop} {Q:Exit → Act → World → Prop} {a:Act} {w:World} (hB:Region.lexB .any ops = true) (hC:C { w with drawn:=w.drawn + 1 })
  (h:wpQuiet P ops C (fun a' => ∀ w',C w' → Q .normal a' w') ops.toList a):wpAny P .any ops Q ops.size (Array.replicate ops.size false) a { w with drawn:=w.drawn + 1 }:=by
 simp only [Region.lexB,Bool.and_eq_true] at hB
 refine wpAny_of_quiet (Q:=fun a' => ∀ w',C w' → Q .normal a' w') (fun _ w' hw' h => h w' hw') _ _ _ _ hC ?_
 have:=wpAnyQ_lex (C:=C) (md:=.any) hB.1 ops.toList 0 (Array.replicate ops.size false) a (by simp) (by simpa using hB.2) h
 simpa using this
def yHH (P:Program) (ops:Array Oper) (K:FA → St → Prop) (f:FA) (s:St):Prop:=match ywA (fun o => ycA P o && Nat.beq (yrP P o) 0) ops.toList && ypL P ops with
 | true => ybT P ops ops.toList (fun f s => K f (dirty s)) f s
 | false => match yD0 P ops (yAT P ops) with
  | true => ygK P ops (clo ops) (yAT P ops) [] [] K f (dirty s)
  | false => False
def yk7 (P:Program):Code → (FA → St → Prop) → FA → St → Prop
 | .skip,K,f,s => K f s
 | .region _ ops draw,K,f,s => match draw with
  | false => ybT P ops ops.toList K f s
  | true => yHH P ops K f s
 | .seq a b,K,f,s => yk7 P a (yk7 P b K) f s
 | .cond c a b,K,f,s => match evA f c with
  | .bool t => brB t (yk7 P a K f s) (yk7 P b K f s)
  | _ => False
 | .block _ c,K,f,s => yk7 P c K f s
 | _,_,_,_ => False
def ytN:List Oper → Bool
 | [] => true
 | o :: r => match o.op with
  | .defer _ => false
  | _ => ytN r
theorem ypE:∀ {l:List Oper},ytN l = true → ∀ o ∈ l,∀ c,o.op ≠ .defer c
 | [],_,o,ho => by cases ho
 | x :: r,h,o,ho => by
  unfold ytN at h
  split at h
  ·cases h
  ·rename_i hn
   rcases List.mem_cons.1 ho with rfl | ho
   ·exact hn
   ·exact ypE h o ho
def yyE (n:Nat):Code → Bool
 | .skip => true
 | .region _ ops draw => match draw with
  | false => yj2 ops.toList && yD3 n ops.toList
  | true => ytN ops.toList && yD3 n ops.toList
 | .seq a b => yyE n a && yyE n b
 | .cond _ a b => yyE n a && yyE n b
 | .block _ c => yyE n c
 | _ => false
theorem yvY {P:Program} (hm:P.follows .mixedOrders = true) {n l id:Nat} {ops:Array Oper} {Q:Act → World → Prop} {K:FA → St → Prop} (hK:∀ f s wa a,K f s → Inv f s wa → Rel n f a → Q a wa) {f:FA} {s:St} {w:World} {a:Act}
  (hd:ytN ops.toList = true) (hn:yD3 n ops.toList = true) (h:yHH P ops K f s) (hI:Inv f s w) (hR:Rel n f a):(Code.region id ops true).wpIn (Fence.wide.inRound l) 0 P (ym6 Q) a w:=by
 have hdm:=yiV hn
 have dirt:∀ {f:FA} {s:St} {w w1:World},Inv f s w → Mod [] w w1 → Inv f (dirty s) w1:=fun {f s w w1} hI hM => by
  obtain ⟨mem,ws,S,N,cl⟩:=s
  exact ⟨fun k tb hk => hM.keep0 (hI.at_ k tb hk),hI.nd,hI.tags,by simpa [dirty] using hI.mod.trans hM,hI.new,hI.nn,by simp [dirty]⟩
 refine yDk hm (fun i o ho => ypE hd o (by rw [← Array.getElem?_toList] at ho; exact List.mem_of_getElem? ho)) ?_
 unfold yHH at h
 split at h
 ·rename_i hq
  simp only [Bool.and_eq_true] at hq
  obtain ⟨hq2,hq1⟩:=hq
  have hq2:∀ o ∈ ops.toList,ycA P o = true ∧ Nat.beq (yrP P o) 0 = true:=fun o ho => by simpa only [Bool.and_eq_true] using yd9 hq2 o ho
  unfold ypL at hq1
  simp only [Bool.and_eq_true] at hq1
  refine yDm (C:=fun w' => Mod [] w w') hq1.2 (Mod.drewN w 1) ?_
  exact ydV (fun f s a h hI hR w' hw' => ⟨rfl,hK _ _ _ _ h (dirt hI hw') hR⟩) hdm (fun o ho => Nat.eq_of_beq_eq_true (hq2 o ho).2) h hI hR
 ·split at h
  ·rename_i hL
   have hL:=yr8 hL
   exact yDl hL fun w1 h1 => ybL (fun i o ho => hdm o (by rw [← Array.getElem?_toList] at ho; exact List.mem_of_getElem? ho)) (fun f s w a h hI hR => ⟨rfl,hK _ _ _ _ h hI hR⟩) h (dirt hI h1) hR ⟨by simp,by simp,by simp⟩
  ·exact h.elim
theorem ycU {P:Program} (hm:P.follows .mixedOrders = true) {n l:Nat}:∀ {c:Code} {Q:Act → World → Prop} {K:FA → St → Prop} {f:FA} {s:St} {wa:World} {a:Act},(∀ f s wa a,K f s → Inv f s wa → Rel n f a → Q a wa) → yyE n c = true → yk7 P c K f s → Inv f s wa → Rel n f a → c.wpIn (Fence.wide.inRound l) 0 P (ym6 Q) a wa
 | .skip,Q,K,f,s,wa,a,hK,_,h,hI,hR => wpIn_skip ⟨rfl,hK f s wa a h hI hR⟩
 | .region id ops draw,Q,K,f,s,wa,a,hK,hc,h,hI,hR => by
  cases draw with
  | false =>
   simp only [yyE,Bool.and_eq_true] at hc
   exact wpIn_region_list (ykT (fun f s wa a h hI hR => ⟨rfl,hK f s wa a h hI hR⟩) hc.1 (yiV hc.2) h hI hR)
  | true =>
   simp only [yyE,Bool.and_eq_true] at hc
   exact yvY hm hK hc.1 hc.2 h hI hR
 | .seq x y,Q,K,f,s,wa,a,hK,hc,h,hI,hR => by
  simp only [yyE,Bool.and_eq_true] at hc
  have h1:=ycU hm (c:=x) (l:=l) (Q:=fun a w => y.wpIn (Fence.wide.inRound l) 0 P (ym6 Q) a w) (K:=yk7 P y K) (fun f s wa a h1 hI1 hR1 => ycU hm (c:=y) hK hc.2 h1 hI1 hR1) hc.1 h hI hR
  refine wpIn_seq (wpIn_mono h1 ?_)
  rintro e a w ⟨rfl,h2⟩
  exact h2
 | .cond c x y,Q,K,f,s,wa,a,hK,hc,h,hI,hR => by
  simp only [yyE,Bool.and_eq_true] at hc
  unfold yk7 at h
  split at h
  ·rename_i t ht
   have hev:a.eval c = .bool t:=by rw [hR.eval]; exact ht
   refine wpIn_cond_split hev (fun e => ?_) fun e => ?_
   ·subst e; exact ycU hm (c:=x) hK hc.1 h hI hR
   ·subst e; exact ycU hm (c:=y) hK hc.2 h hI hR
  ·exact h.elim
 | .block id c,Q,K,f,s,wa,a,hK,hc,h,hI,hR => by
  have h1:=ycU hm (c:=c) (l:=l) (fun f s wa a h1 hI1 hR1 => hK f s wa a h1 hI1 hR1) hc h hI hR
  refine wpIn_block (wpIn_mono h1 ?_)
  rintro e a w ⟨rfl,h2⟩
  exact ⟨rfl,h2⟩
def yDn (P:Program) (c:Code) (l:Nat) (lp:Loop) (R:World → List TB → World → Prop) (ids:List Nat) (f:FA) (s:St):Prop:=match c with
 | .rangeFunc _ _ A body => yk7 P A (fun f s => ygB s fun s => s.w.heap[l]? = some (.loop lp) ∧ ∀ w2,Mod [l] s.w w2 → yk7 P body (fun _ s => ygB (ycI ids s) fun s => R w2 s.mem s.w) f ⟨s.mem,w2,[],[],true⟩) f s
 | _ => False
def ylM (n:Nat) (c:Code):Bool:=match c with
 | .rangeFunc _ _ A body => yyE n A && yyE n body
 | _ => false
theorem ym7 {P:Program} (hm:P.follows .mixedOrders = true) {n l:Nat} {g:Operand} {ps:Array Tmp} {assign body:Code} (hc:ylM n (.rangeFunc g ps assign body) = true) {R:World → List TB → World → Prop} {ids:List Nat} {f:FA} {s:St} {a:Act} {w:World} {lp:Loop}
  (h:yDn P (.rangeFunc g ps assign body) l lp R ids f s) (hI:Inv f s w) (hR:Rel n f a) :
  assign.wpIn (Fence.wide.inRound l) 0 P (Exit.then (fun a1 w1 => w1.heap[l]? = some (.loop lp) ∧ ∀ lp':Loop,body.wpIn (Fence.wide.inRound l) 0 P (fun e _ w' => e = .normal ∧ ∃ mem,R (w1.putObj l (.loop lp')) mem w') a1 (w1.putObj l (.loop lp'))) fun _ _ _ => False) a w:=by
 simp only [ylM,Bool.and_eq_true] at hc
 obtain ⟨c1,c2⟩:=hc
 have h1:=ycU hm (c:=assign) (l:=l) (n:=n) (Q:=fun a1 w1 => w1.heap[l]? = some (.loop lp) ∧ ∀ lp':Loop,body.wpIn (Fence.wide.inRound l) 0 P (fun e _ w' => e = .normal ∧ ∃ mem,R (w1.putObj l (.loop lp')) mem w') a1 (w1.putObj l (.loop lp'))) (fun f1 s1 w1 a1 h1 hI1 hR1 => ?_) c1 h hI hR
 ·refine wpIn_mono h1 ?_
  rintro e a w ⟨rfl,h2⟩
  exact h2
 ·obtain ⟨s2,⟨hl,h2⟩,hI2,hw2,hm2,_⟩:=yc1 h1 hI1
  rw [hw2] at hl h2
  refine ⟨hl,fun lp' => ?_⟩
  have hne:∀ (k:Nat) tb,s2.mem[k]? = some tb → tb.b ≠ l:=fun k tb hk e => by
   have:=hI2.at_ k tb hk
   rw [e,hl] at this; cases this
  have hI3:Inv f1 ⟨s2.mem,w1.putObj l (.loop lp'),[],[],true⟩ (w1.putObj l (.loop lp')) :=
   ⟨fun k tb hk => by rw [World.putObj_heap_other (hne k tb hk)]; exact hI2.at_ k tb hk,hI2.nd,hI2.tags,(Mod.refl _).less (by simp [yv8]),by simp,⟨by simp,by simp⟩,fun _ => rfl⟩
  have h3:=ycU hm (c:=body) (l:=l) (n:=n) (Q:=fun _ w' => ∃ mem,R (w1.putObj l (.loop lp')) mem w') (fun f4 s4 w4 a4 h4 hI4 hR4 => by
   obtain ⟨s5,h5,hI5,hw5,hm5,_⟩:=yc1 h4 (ybK hI4)
   rw [hw5] at h5; exact ⟨_,h5⟩) c2 (h2 _ (ydS w1 l _)) hI3 hR1
  exact h3
theorem yDo {P:Program} (hm:P.follows .mixedOrders = true) {n l:Nat} {c:Code} (hc:yyE n c = true) {R:List TB → World → Prop} {ids:List Nat} {f:FA} {s:St} {a:Act} {w:World}
  (h:yk7 P c (fun _ s => ygB (ycI ids s) fun s => R s.mem s.w) f s) (hI:Inv f s w) (hR:Rel n f a):c.wpIn (Fence.wide.inRound l) 0 P (ym6 fun _ w' => ∃ mem,R mem w') a w :=
 ycU hm (fun f4 s4 w4 a4 h4 hI4 hR4 => by
  obtain ⟨s5,h5,hI5,hw5,hm5,_⟩:=yc1 h4 (ybK hI4)
  rw [hw5] at h5; exact ⟨_,h5⟩) hc h hI hR
def ykU:Code → Code
 | .rangeFunc _ _ _ b => b
 | c => c
def yL0:Code → Code
 | .rangeFunc _ _ a _ => a
 | c => c
theorem ym8 {α:Type} {P:Program} {g:Operand} {ps:Array Tmp} {assign body:Code} {Q:Exit → Act → World → Prop} {a:Act} {w:World} {l0:Nat} {r0:Loop} (hl0:w.heap[l0]? = some (.loop r0))
  {gf:Nat} {lb:Array Value} (hg:a.eval g = .func (.func gf) #[] lb) (eg:∀ args w,(callFunc gf args).run P w = .ok (.enter gf args) w)
  {encs:α → Array Value} {S:List Nat} {X:Nat → α → World → Prop} {N:Nat} (hseq:yK8 P gf lb encs w S X N (w.heap.size + 1)) (hps:∀ x,(encs x).size = ps.size) (hS:∀ i ∈ S,i < w.heap.size)
  (I:List α → World → Prop) (hIm:∀ s W W',I s W → Mod [] W W' → I s W') (hIp:∀ s W l (o:Loop),l = w.heap.size → I s W → I s (W.putObj l (.loop o))) (hIS:∀ s W,I s W → Mod S w W) (h0:I [] w)
  (hround:∀ (pre:List α) (x:α) (W:World) (lp:Loop),I pre W → pre.length < N → X pre.length x W → W.heap[w.heap.size]? = some (.loop lp) →
   assign.wpIn (Fence.wide.inRound w.heap.size) 0 P (Exit.then (fun a1 W1 => W1.heap[w.heap.size]? = some (.loop lp) ∧ ∀ lp':Loop,body.wpIn (Fence.wide.inRound w.heap.size) 0 P
    (fun e _ W' => e = .normal ∧ W'.heap[w.heap.size]? = some (.loop lp') ∧ I (pre ++ [x]) W') a1 (W1.putObj w.heap.size (.loop lp'))) fun _ _ _ => False)
    { tmps:=(ps.zip (encs x)).foldl (fun t (p,v) => t.setIfInBounds p v) a.tmps,defers:=[] } W)
  (hdone:∀ (W:World) xs,xs.length = N → I xs W → Q .normal a W) :
  (Code.rangeFunc g ps assign body).wpIn (Fence.wide.inRound l0) 0 P Q a w:=by
 refine wpIn_rangeFunc ?_
 intro fn hfn
 have hro:(Fence.wide.inRound l0).round = some l0:=rfl
 rw [hro]
 obtain ⟨rec,hrec⟩:∃ rec:LoopState → Option Code → Loop,rec = fun st pe => { state:=st,pending:=pe,fn,tmps:=a.tmps,params:=ps,assign,body,defers:=r0.defers }:=⟨_,rfl⟩
 obtain ⟨W1,hW1⟩:∃ W1,w.alloc (.loop (rec .ready none)) = W1:=⟨_,rfl⟩
 have hL1:W1.heap[w.heap.size]? = some (.loop (rec .ready none)):=by rw [← hW1]; exact World.alloc_heap_new w _
 have M:∀ (x:World) (o:Obj),Mod [] x (x.alloc o):=fun x o => Mod.of_below ((Below.refl _ _).alloc (Nat.le_refl _) _)
 have hI1:I [] W1:=by rw [← hW1]; exact hIm _ _ _ h0 (M _ _)
 refine ⟨w.heap.size,[],W1,{ target:=.fn (.func gf) lb,args:=#[.func (.yield w.heap.size) #[] #[]] },W1,gf,
  #[.func (.yield w.heap.size) #[] #[]] ++ lb,W1,?_,?_,fun _ _ => trivial,?_,fun h => (by simp [Fence.wide] at h),?_⟩
 ·rw [← hW1,hrec]; exact run_enterLoop_inner hl0 _ _ _ _ _
 ·simp only [resolve,hg]
  simp [go_sem]
 ·simp [invoke,go_sem,eg]
 ·have h1:=hseq w.heap.size
   (fun pre W => I pre W ∧ W.heap[w.heap.size]? = some (.loop (rec .ready none)))
   ?_ ?_ ?_ W1 ⟨hI1,hL1⟩
  ·refine (CallsIn.inRound l0 (callsIn_wide.2 (callsIn_wide.1 h1))).mono ?_
   rintro e W2 ⟨⟨v,rfl⟩,xs,hxs,hi,hl⟩
   refine ⟨none,_,by have:=run_endLoop (P:=P) hl (by rw [hrec]; simp); rw [hrec] at this; exact this,?_⟩
   exact hdone _ xs hxs (hIp _ _ _ _ rfl hi)
  ·rintro pre W W' ⟨hi,hl⟩ hM
   exact ⟨hIm _ _ _ hi hM,(hM.block _ (ya3 hl) (by simp)).trans hl⟩
  ·rintro pre W ⟨hi,hl⟩
   exact ⟨hIS _ _ hi,ya3 hl⟩
  ·rintro pre x W ⟨hi,hl⟩ hx hlen
   have hlt:=ya3 hl
   have hy:=run_yield (P:=P) (args:=encs x) hl (by rw [hrec]; exact hps x)
   rw [hrec] at hy
   refine ⟨fn,_,assign,body,hy,roundIn_of_wpIn trivial ?_⟩
   refine wpIn_mono (hround pre x W (rec .ready none) hi hlen hx hl) ?_
   intro e a1 W2 hq
   cases e with
   | normal =>
    obtain ⟨hl2,hb⟩:=hq
    refine ⟨_,run_beginRound hl2 (by rw [hrec]),?_⟩
    refine wpIn_mono (hb { rec .ready none with state:=.busy }) ?_
    rintro e a3 W3 ⟨rfl,hr1,hi3⟩
    have hr:=run_endRound (P:=P) none hr1
    have hlt3:=ya3 hr1
    refine ⟨_,_,hr,rfl,⟨hIp _ _ _ _ rfl hi3,?_⟩⟩
    rw [World.putObj_heap_same hlt3,hrec]; rfl
   | _ => exact hq.elim
theorem yGj {f:FA} {mem:List TB} {w:World} (hat:∀ (k:Nat) tb,mem[k]? = some tb → w.heap[tb.b]? = some (.cells tb.cs.toArray tb.T)) (hnd:(mem.map (·.b)).Nodup) (htg:∀ i k off,f.tag i = some (k,off) → ∃ tb,mem[k]? = some tb ∧ f.get i = .pointer (some ⟨tb.b,off,none⟩)):Inv f ⟨mem,w,[],[],true⟩ w:=by
 refine ⟨hat,fun i j x y hx hy hb => ?_,htg,(Mod.refl w).less (by simp [yv8]),by simp,⟨by simp,by simp⟩,fun _ => rfl⟩
 obtain ⟨h1,rfl⟩:=List.getElem?_eq_some_iff.1 hx
 obtain ⟨h2,rfl⟩:=List.getElem?_eq_some_iff.1 hy
 have:=List.pairwise_iff_getElem.1 hnd
 rcases Nat.lt_trichotomy i j with h | h | h
 ·exact absurd (show (mem.map (·.b))[i]'(by simpa using h1) = (mem.map (·.b))[j]'(by simpa using h2) by rw [List.getElem_map,List.getElem_map]; exact hb) (this i j _ _ h)
 ·exact h
 ·exact absurd (show (mem.map (·.b))[j]'(by simpa using h2) = (mem.map (·.b))[i]'(by simpa using h1) by rw [List.getElem_map,List.getElem_map]; exact hb.symm) (this j i _ _ h)
theorem yGk {n:Nat} {u:List (Nat × Value × Tag)} {a:Act} (h:∀ p ∈ u,a.tmps.getD p.1 undef = p.2.1) (hd:a.defers = []) (hn:a.tmps.size = n):Rel n ⟨u,fun i => a.tmps.getD i undef⟩ a:=by
 refine ⟨fun i => ?_,hd,hn⟩
 change _ = lkV u _ i
 induction u with
 | nil => rfl
 | cons p r ih =>
  obtain ⟨j,v,t⟩:=p
  unfold lkV
  split
  ·rename_i hi
   rw [← Nat.eq_of_beq_eq_true hi]
   exact h (j,v,t) (by simp)
  ·exact ih fun p hp => h p (by simp [hp])
theorem yDp {u:List (Nat × Value × Tag)} {js:Nat → Value} {mem:List TB} (h:∀ p ∈ u,∀ k off,p.2.2 = some (k,off) → ∃ tb,mem[k]? = some tb ∧ p.2.1 = .pointer (some ⟨tb.b,off,none⟩)):∀ i k off,FA.tag ⟨u,js⟩ i = some (k,off) → ∃ tb,mem[k]? = some tb ∧ FA.get ⟨u,js⟩ i = .pointer (some ⟨tb.b,off,none⟩):=by
 intro i k off
 change lkT u i = _ → ∃ tb,_ ∧ lkV u js i = _
 induction u with
 | nil => intro h; cases h
 | cons p r ih =>
  obtain ⟨j,v,t⟩:=p
  unfold lkT lkV
  cases Nat.beq j i with
  | true => exact fun e => h (j,v,t) (by simp) k off e
  | false => exact ih fun p hp => h p (by simp [hp])
theorem yGl {ts:Array Value} {q1 q2:Tmp} {v1 v2:Value}:((#[q1,q2]:Array Tmp).zip #[v1,v2]).foldl (fun t (x:Tmp × Value) => match x with | (p,v) => t.setIfInBounds p v) ts = (ts.setIfInBounds q1 v1).setIfInBounds q2 v2:=by simp
theorem ydG {ts:Array Value} {i j:Nat} {v:Value}:(ts.setIfInBounds i v).getD j undef = if i = j ∧ i < ts.size then v else ts.getD j undef:=by
 simp only [Array.getD_eq_getD_getElem?,Array.getElem?_setIfInBounds]
 by_cases h:i = j
 ·subst h
  by_cases h2:i < ts.size
  ·simp [h2]
  ·simp [h2]
 ·simp [h]
section
set_option maxRecDepth 100000
variable {R:VWP} {w w0:World} {m:Nat} {i0 i1 i2 i3 i4 i5 i6 i7 i8 i9 j0 j1 j2 j3 j4 j5 j6 j7 j8 j9 k0 k1 k2 k3 k4 k5 k6 k7 k8 k9 l0 l1 l2 l3 l4 l5 l6 l7 l8 l9:Int} {s0 s1 s2 s3 s4 s5 s6 s7 s8 s9 t0 t1 t2 t3 t4 t5 t6 t7 t8 t9:BA} {n0 n1 n2 n3 n4 n5 n6 n7 n8 n9 o0 o1 o2 o3 o4 o5 o6 o7 o8 o9 p0 p1 p2 p3 p4 p5 p6 p7 p8 p9:Nat} {q0 q1 q2 q3 q4 q5 q6 q7 q8 q9 r0 r1 r2 r3 r4 r5 r6 r7 r8 r9:OA} {B0 B1 B2 B3 B4 B5 B6 B7 B8 B9:Bool} {M0 M1 M2 M3:Option Nat} {V0 V1 V2 V3 V4 V5:Value} {A0 A1 A2:Addr}
theorem yHI (h :
 ∀ b2,w.heap.size ≤ b2 →
 ∀ w3,Adv [] [b2] w w3 → w3.heap[b2]? = some (.cells #[.slice q0 n0 n1] 30) →
 R (.func (.func 160) #[] #[(.pointer (some ⟨b2,0,none⟩))]) w3) :
 CR pP 135 #[.slice q0 n0 n1] w R :=
 yaB Tryz.wide_mixed (an:=[]) Tryz.func135 rfl rfl (by kernel_rfl) rfl (Eq.mpr (by kernel_rfl) h)
end
section
set_option maxRecDepth 100000
variable {R:VWP} {w w0:World} {m:Nat} {i0 i1 i2 i3 i4 i5 i6 i7 i8 i9 j0 j1 j2 j3 j4 j5 j6 j7 j8 j9 k0 k1 k2 k3 k4 k5 k6 k7 k8 k9 l0 l1 l2 l3 l4 l5 l6 l7 l8 l9:Int} {s0 s1 s2 s3 s4 s5 s6 s7 s8 s9 t0 t1 t2 t3 t4 t5 t6 t7 t8 t9:BA} {n0 n1 n2 n3 n4 n5 n6 n7 n8 n9 o0 o1 o2 o3 o4 o5 o6 o7 o8 o9 p0 p1 p2 p3 p4 p5 p6 p7 p8 p9:Nat} {q0 q1 q2 q3 q4 q5 q6 q7 q8 q9 r0 r1 r2 r3 r4 r5 r6 r7 r8 r9:OA} {B0 B1 B2 B3 B4 B5 B6 B7 B8 B9:Bool} {M0 M1 M2 M3:Option Nat} {V0 V1 V2 V3 V4 V5:Value} {A0 A1 A2:Addr}
def yf9 (l:Nat) (lp:Loop) (B0:Nat) (o0_0:OA) (B1:Nat) (o1_0_a:OA) (o1_0_n o1_0_c:Nat) (y16_0:BA) (R:World → List TB → World → Prop) (w:World):Prop :=
 w.heap[l]? = some (.loop lp) ∧
 ∀ w1,Mod [l] w w1 →
 yjF o0_0 fun q2 =>
 ∀ w3,Adv [] [] w1 w3 →
 ylQ w3 q2 fun m4 =>
 ∃ x5,(∀ w',Mod [] w3 w' → (Instr.lookup 117 (.map m4) (.string y16_0) false).run pP w' = .ok (.int .i64 x5) w') ∧
 al w3 (.cells #[.string y16_0,.int .i64 x5] 243) fun b6 w7 =>
 ybN pP (Builtin.append_ #[157,157] 157 #[.slice o1_0_a o1_0_n o1_0_c,(.slice (some ⟨b6,0,none⟩) 1 1)]) w7 fun a9 a2 a1 w8 => yaG [B0,B1] w7 w8 ∧
 ∀ a0,Adv [B1] [] w8 a0 → a0.heap[B0]? = some (.cells #[.pointer o0_0] 87) →
 a0.heap[B1]? = some (.cells #[.slice a9 a2 a1] 157) →
 R w1 [⟨B0,87,[.pointer o0_0],true⟩,⟨B1,157,[.slice a9 a2 a1],true⟩] a0
theorem ye2 (l:Nat) (lp:Loop) (B0:Nat) (o0_0:OA) (B1:Nat) (o1_0_a:OA) (o1_0_n o1_0_c:Nat) (y16_0:BA) (js:Nat → Value) (R:World → List TB → World → Prop) (w:World) :
 yDn pP (yiT (code Tryz.f80) [0,1,0,1,1,1,1]) l lp R [0,1] ⟨[(1,.pointer (some ⟨B0,0,none⟩),some (0,0)),(4,.pointer (some ⟨B1,0,none⟩),some (1,0)),(16,.string y16_0,none)],js⟩ ⟨[⟨B0,87,[.pointer o0_0],false⟩,⟨B1,157,[.slice o1_0_a o1_0_n o1_0_c],false⟩],w,[],[],true⟩ = yf9 l lp B0 o0_0 B1 o1_0_a o1_0_n o1_0_c y16_0 R w:=by kernel_rfl
end
end Go.Proofs.YtkepmmocldnnfaaGreat
namespace Go.Proofs.YtkepmmocldnnfaaGreat
open Go Go.RowKit Go.Maps Go.Sort Go.Shelf Go.MapKept Go.WideElems Go.WideShapes
set_option linter.unusedVariables false
set_option linter.unusedSimpArgs false
theorem yAs (s:Sl) (w:World):Calls pP 135 #[.slice s.a s.n s.c] w fun e w' => ∃ b,e = .returned (.func (.func 160) #[] #[.pointer (some ⟨b,0,none⟩)]) ∧ w.heap.size ≤ b ∧ b < w'.heap.size ∧ w'.heap[b]? = some (.cells #[.slice s.a s.n s.c] 30) ∧ Mod [] w w':=by
 refine (yHI (R:=fun v w' => ∃ b,v = .func (.func 160) #[] #[.pointer (some ⟨b,0,none⟩)] ∧ w.heap.size ≤ b ∧ b < w'.heap.size ∧ w'.heap[b]? = some (.cells #[.slice s.a s.n s.c] 30) ∧ Mod [] w w') ?_).mono (fun e w' ⟨v,he,b,hv,h⟩ => ⟨b,by rw [he,hv],h⟩)
 intro b1 f1 w2 A2 h2
 exact ⟨b1,rfl,f1,A2.lt b1 (by simp),h2,A2.mod⟩
section
attribute [local go_sem] Oper.semAt_some
set_option maxRecDepth 100000 in
set_option maxHeartbeats 2000000 in
theorem ytO {w0:World} {S:List Nat} {b1 B:Nat} {s:Sl} {l:List ByteArray} (hl:l.length ≤ 1000000) (hw:∀ W,Mod S w0 W → W.heap[b1]? = some (.cells #[.slice s.a s.n s.c] 30) ∧ ybD W 1 ydC s.a s.n l) :
  yK8 pP 160 #[.pointer (some ⟨b1,0,none⟩)] (fun x:ByteArray => #[.string x]) w0 S (fun k x W => l[k]? = some x) l.length B:=fun lp J hJm hJw hY W h0 => by
 obtain ⟨sa,sn,sc⟩:=s
 have hro:Fence.wide.round = none:=rfl
 refine callsIn_of_wp Tryz.func160 rfl trivial ?_ hro
 simp only [Tryz.ntmps160,List.size_toArray,List.length_cons,List.length_nil,Nat.reduceAdd,Nat.reduceSub,Array.replicate_succ,Array.replicate_zero,List.push_toArray,List.append_toArray,List.nil_append,List.cons_append]
 obtain ⟨hb0,hs0⟩:=hw W (hJw _ _ h0).1
 have hc1:W.cell? ⟨b1,0,none⟩ = some (.slice sa sn sc):=by rw [yaY hb0]; rfl
 have hn:sn = l.length:=hs0.1
 gi_wp2
 gi_loopg [7] l.length (fun k i wr => ∃ (j:Nat) (pre:List ByteArray),i = .int .i64 j ∧ j ≤ l.length ∧ k = l.length - j ∧ pre.length = j ∧ J pre wr)
 case atStart => exact ⟨0,[],rfl,by omega,rfl,rfl,h0⟩
 case round =>
  obtain ⟨j,pre,rfl,hj,hk,hpl,hJ⟩:=hrel
  obtain ⟨hMw,hBw⟩:=hJw _ _ hJ
  by_cases hlt:j < l.length
  ·obtain ⟨x,hx⟩:∃ x,l[j]? = some x:=⟨_,List.getElem?_eq_getElem hlt⟩
   obtain ⟨ad,ha,hcx⟩:=(hw _ hMw).2.2 j x hx
   have hcx:wr.cell? (ad.add j) = some (.string x):=by have:=hcx 0 _ rfl; rwa [add_zero,Nat.mul_one] at this
   obtain ⟨fn,tmps,assign,body,hy,hR⟩:=hY pre x wr hJ (by rw [hpl]; exact hx) (by omega)
   have ha:sa = some ad:=ha
   subst ha
   gi_wp2
   refine hR.mono ?_
   rintro e W3 ⟨rfl,hJ3⟩
   gi_wp2
   gi_roundg (gk - 1)
   case rel => exact ⟨j + 1,_,by simp,by omega,by omega,by simp [hpl],hJ3⟩
   case measure => omega
  ·gi_wp2
   go_end0
   exact ⟨⟨_,rfl⟩,pre,by omega,hJ⟩
end
def yj8 (L:TL):List PTop:=(ydK (L.map (·.1))).map fun k => ⟨k,(lkp L k).getD 0⟩
theorem yHJ:(Tryz.prog.info? 243).map (fun i => (i.zero,i.size,i.bytes)) = some (some (.agg #[.string ByteArray.empty,.int .i64 0]),2,24):=by kernel_rfl
theorem yDq {w:World} {B:Nat} {f:Sl} {l:List PTop} {y:PTop} {bs:List Nat} {F:Option Addr → Nat → Nat → World → Prop} (hR:Row w B 243 2 yq7 f.a f.n f.c l) (hl:l.length ≤ 1000000) (hB:B ≤ w.heap.size) (hbs:∀ b ∈ bs,b ∉ yaP f.a)
  (hF:∀ a' c' w',Row w' B 243 2 yq7 a' (f.n + 1) c' (l ++ [y]) → Mod (yaP f.a) w w' → F a' (f.n + 1) c' w') :
  al w (.cells (yq7 y).toArray 243) fun b w1 => ybN pP (Builtin.append_ #[157,157] 157 #[.slice f.a f.n f.c,.slice (some ⟨b,0,none⟩) 1 1]) w1 fun a n c w2 => yaG bs w1 w2 ∧ F a n c w2:=by
 refine ybH fun b w1 c1 M1 f1 => ?_
 have s1:=M1.size
 obtain ⟨i0,hi0,hz0,hz1,hz2⟩:=info_parts yHJ
 refine ydZ (x:=y) (hR.keep0 M1) Tryz.underlying157 hi0 hz0 hz1 hz2 rfl (by decide) c1 rfl (yER _) (by omega) (by unfold maxLen; omega) (by omega) fun a' c' w8 hR8 hM8 => ?_
 have M8:=hM8 _ (yb0 f.a)
 refine ⟨yaG.of M8 fun b hb _ => hbs b hb,hF a' c' w8 hR8 ?_⟩
 exact (M1.trans M8).less fun k hk _ => by simpa using hk
theorem ytP:ylM 29 (yiT (code Tryz.f80) [0,1,0,1,1,1,1]) = true:=by kernel_rfl
section
attribute [local go_sem] Oper.semAt_some
set_option maxRecDepth 100000 in
set_option maxHeartbeats 2000000 in
theorem yHK {w:World} {b:Nat} {L:TL} {F:List Nat} (h:yf5 w b L F) (hL:L.length ≤ 1000000) :
  CallsIn Fence.wide 2 pP 80 #[.pointer (some ⟨b,0,none⟩)] w fun e w' => ∃ s:Sl,e = .returned (.slice s.a s.n s.c) ∧ Row w' w.heap.size 243 2 yq7 s.a s.n s.c (yj8 L) ∧ Mod [] w w':=by
 obtain ⟨m,hc,hm,rfl⟩:=h
 have lb:=yaL hc
 have hro:Fence.wide.round = none:=rfl
 refine callsIn_of_wp_marks Tryz.func80 rfl trivial ?_ hro
 simp only [Tryz.ntmps80,List.size_toArray,List.length_cons,List.length_nil,Nat.reduceAdd,Nat.reduceSub,Array.replicate_succ,Array.replicate_zero,List.push_toArray,List.append_toArray,List.nil_append,List.cons_append]
 have hM0:Mod [] w (w.alloc (Obj.cells #[Value.pointer (some ⟨b,0,none⟩)] 87)):=Mod.of_below ((Below.refl _ _).alloc (Nat.le_refl _) _)
 have hc0:(w.alloc (Obj.cells #[Value.pointer (some ⟨b,0,none⟩)] 87)).cell? ⟨b,0,none⟩ = some (.map (some m)):=by rw [yaY (hM0.keep0 hc)]; rfl
 have hP0:(w.alloc (Obj.cells #[Value.pointer (some ⟨b,0,none⟩)] 87)).heap[w.heap.size]? = some (.cells #[.pointer (some ⟨b,0,none⟩)] 87):=World.alloc_heap_new w _
 have z0:(w.alloc (Obj.cells #[Value.pointer (some ⟨b,0,none⟩)] 87)).heap.size = w.heap.size + 1:=by simp
 gi_wp2
 generalize w.alloc (Obj.cells #[Value.pointer (some ⟨b,0,none⟩)] 87) = W0 at hM0 hc0 hP0 z0 ⊢
 refine ⟨trivial,(callsIn_wide.2 (yEL (some m) W0)).mono ?_⟩
 rintro _ w1 ⟨rfl,rfl⟩
 have M1:Mod [] W0 (W0.alloc (.cells #[.map (some m)] 117)):=Mod.of_below ((Below.refl _ _).alloc (Nat.le_refl _) _)
 have h1:(W0.alloc (.cells #[.map (some m)] 117)).cell? ⟨W0.heap.size,0,none⟩ = some (.map (some m)):=by rw [yaY (World.alloc_heap_new W0 _)]; rfl
 have z1:(W0.alloc (.cells #[.map (some m)] 117)).heap.size = W0.heap.size + 1:=by simp
 generalize W0.alloc (.cells #[.map (some m)] 117) = W1 at M1 h1 z1 ⊢
 rw [z0] at h1
 gi_wp2
 have hm1:=(hm.keepM0 hM0).keepM0 M1
 refine ⟨trivial,(callsIn_wide.2 (yvP hm1 hL (by omega) h1)).mono ?_⟩
 rintro _ w3 ⟨_,rfl,s,l,rfl,hR3,hperm,M3⟩
 gi_wp2
 have hll:l.length = L.length:=by rw [hperm.length_eq,List.length_map]
 refine ⟨trivial,(callsIn_wide.2 (yEM hR3 (by omega))).mono ?_⟩
 rintro _ w4 ⟨rfl,hR4,M4⟩
 gi_wp2
 have M5:Mod [] w4 (w4.alloc (Obj.cells #[Value.slice none 0 0] 157)):=Mod.of_below ((Below.refl _ _).alloc (Nat.le_refl _) _)
 have hO5:(w4.alloc (Obj.cells #[Value.slice none 0 0] 157)).heap[w4.heap.size]? = some (.cells #[.slice none 0 0] 157):=World.alloc_heap_new w4 _
 have z5:(w4.alloc (Obj.cells #[Value.slice none 0 0] 157)).heap.size = w4.heap.size + 1:=by simp
 generalize w4.alloc (Obj.cells #[Value.slice none 0 0] 157) = W5 at M5 hO5 z5 ⊢
 refine ⟨trivial,(callsIn_wide.2 (yAs s W5)).mono ?_⟩
 rintro _ w6 ⟨b6,rfl,f6,l6,h6,M6⟩
 gi_wp2
 have s1:=M1.size
 have s3:=M3.size
 have s4:=M4.size
 have s5:=M5.size
 have s6:=M6.size
 have lR3:=yaQ hR3
 have N3:Mod [] w w3:=(hM0.go0 M1 (by simp)).go0 M3 (by simp)
 have N6:Mod [] w w6:=((N3.go0 M4 fun z hz => by have:=(lR3 z hz).1; omega).go0 M5 (by simp)).go0 M6 (by simp)
 have hP6:w6.heap[w.heap.size]? = some (.cells #[.pointer (some ⟨b,0,none⟩)] 87):=M6.keep0 (M5.keep0 (M4.keep (M3.keep0 (M1.keep0 hP0)) fun hz => by have:=(lR3 _ hz).1; omega))
 have hO6:=M6.keep0 hO5
 have hR6:=(hR4.keep0 M5).keep0 M6
 have lR4:=yaQ hR4
 rw [yzO hperm] at hR6
 have hKl:(ydK (L.map (·.1))).length = L.length:=by rw [yfO,List.length_map]
 have hmemS:∀ k ∈ ydK (L.map (·.1)),k.size ≤ maxLen:=fun k hk => by
  obtain ⟨p,hp,rfl⟩:=List.mem_map.1 ((yd5 _).mem_iff.1 hk)
  exact hm.nameSize p hp
 obtain ⟨K,hKe⟩:∃ K,ydK (L.map (·.1)) = K:=⟨_,rfl⟩
 have eL:yj8 L = K.map fun k => ⟨k,(lkp L k).getD 0⟩:=by rw [yj8,hKe]
 rw [hKe] at hR6 hKl hmemS
 have k1:∀ k ∈ [w4.heap.size],w.heap.size ≤ k:=by simp; omega
 have hout:w4.heap.size ∉ yaP s.a:=fun hz => by have:=(lR4 _ hz).2; omega
 refine yhR (S:=[w4.heap.size]) (N:=K.length) (encs:=fun x:ByteArray => #[.string x]) (X:=fun k x W => K[k]? = some x) rfl (enters_of Tryz.func160 (by kernel_rfl) rfl)
  (ytO (s:=s) (l:=K) (by omega) fun W M => ⟨M.keep h6 (by simp; omega),(yaE hR6 M fun k hk => by simp at hk; subst hk; exact hout).sl (fun _ => rfl)⟩) (fun _ => rfl) (by simp; omega)
  (fun pre W => ∃ s:Sl,W.heap[w4.heap.size]? = some (.cells #[.slice s.a s.n s.c] 157) ∧ Row W (w6.heap.size + 2) 243 2 yq7 s.a s.n s.c (pre.map fun k => ⟨k,(lkp L k).getD 0⟩) ∧ (∀ (i:Nat) y,pre[i]? = some y → K[i]? = some y) ∧ Mod [w4.heap.size] w6 W)
  ?im ?ip ?is ⟨ybM,hO6,Row.nil ..,by simp,(Mod.refl _).less (by simp)⟩ ?round ?done
 case im =>
  rintro pre W W' ⟨s,hb,hr,hx,hm⟩ M
  exact ⟨s,M.keep0 hb,hr.keep0 M,hx,(hm.trans M).less (by simp)⟩
 case ip =>
  rintro pre W l o rfl ⟨s,hb,hr,hx,hm⟩
  have M:=ydS W (w6.heap.size + 1) (.loop o)
  refine ⟨s,M.keep hb (by simp; omega),hr.keep M fun ad ha hk => ?_,hx,(hm.trans M).less fun i hi hlt => ?_⟩
  ·have:=hr.base ad ha; simp at hk; omega
  ·simp at hi ⊢; omega
 case is =>
  rintro pre W ⟨s,hb,hr,hx,hm⟩
  exact hm
 case round =>
  rintro pre x W lp ⟨s,hb,hr,hx,hmW⟩ hlen2 hx1 hl hD
  simp only [yLZ]
  have hPW:W.heap[w.heap.size]? = some (.cells #[.pointer (some ⟨b,0,none⟩)] 87):=hmW.keep hP6 (by simp; omega)
  refine wpIn_mono (ym7 Tryz.wide_mixed (n:=29) (lp:=lp) ytP (ids:=[0,1]) (f:=⟨[(1,.pointer (some ⟨w.heap.size,0,none⟩),some (0,0)),(4,.pointer (some ⟨w4.heap.size,0,none⟩),some (1,0)),(16,.string x,none)],_⟩) (s:=⟨[⟨w.heap.size,87,[.pointer (some ⟨b,0,none⟩)],false⟩,⟨w4.heap.size,157,[.slice s.a s.n s.c],false⟩],W,[],[],true⟩)
   (R:=fun W2 _ W' => W'.heap[w6.heap.size + 1]? = W2.heap[w6.heap.size + 1]? ∧ W'.heap[w6.heap.size]? = W.heap[w6.heap.size]? ∧ ∃ s:Sl,W'.heap[w4.heap.size]? = some (.cells #[.slice s.a s.n s.c] 157) ∧ Row W' (w6.heap.size + 2) 243 2 yq7 s.a s.n s.c ((pre ++ [x]).map fun k => ⟨k,(lkp L k).getD 0⟩) ∧ (∀ (i:Nat) y,(pre ++ [x])[i]? = some y → K[i]? = some y) ∧ Mod [w4.heap.size] w6 W')
   (Eq.mpr (ye2 ..) ?cond) (yAp hPW hb (by omega) rfl) (yAq rfl rfl rfl rfl rfl)) ?post
  case cond =>
   refine ⟨hl,?_⟩
   intro w2 M2
   refine ydW ?_
   intro w3' A3'
   have ll:=ya3 hl
   have s2:=M2.size
   have sW:=hmW.size
   have s3':=A3'.mod.size
   have NW:Mod [] w W:=N6.go0 hmW k1
   have N2:Mod [] w w2:=NW.go0 M2 (by simp; omega)
   have N3':Mod [] w w3':=N2.go0 A3'.mod (by simp)
   refine yg0 (x:=some m) (by rw [yaY (N3'.keep0 hc)]; rfl) ?_
   have hxK:x ∈ K:=List.mem_of_getElem? hx1
   refine ⟨_,(hm.keepM0 N3').lkF (k:=x) ye0 ybW Tryz.underlying117 ymY (yb1 (hmemS x hxK)),?_⟩
   have hr3:=((hr.keep M2 fun ad ha hk => by have:=hr.base ad ha; simp at hk; omega).keep0 A3'.mod:Row w3' _ _ _ _ _ _ _ _)
   have hrow:=yaS hr3
   have hx':∀ (i:Nat) y,(pre ++ [x])[i]? = some y → K[i]? = some y:=fun i y hy => by
    by_cases hi:i < pre.length
    ·rw [List.getElem?_append_left hi] at hy; exact hx i y hy
    ·rw [List.getElem?_append_right (by omega)] at hy
     have hie:i - pre.length = 0:=by
      have:=(List.getElem?_eq_some_iff.1 hy).1; simp at this; omega
     rw [hie] at hy
     simp at hy; subst hy
     rw [show i = pre.length by omega]; exact hx1
   refine yDq (f:=s) (y:=⟨x,(lkp L x).getD 0⟩) hr3 (by rw [List.length_map]; omega) (by omega) (fun k hk hk' => by have:=(hrow k hk').1; simp at hk; omega) fun a' c' w31 hR31 M31 => ?_
   have s31:=M31.size
   intro w35 A35 _ hb35
   have s35:=A35.mod.size
   have kk:∀ k,k ≤ w6.heap.size + 1 → k ≠ w4.heap.size → k < W.heap.size → w35.heap[k]? = w2.heap[k]?:=fun k h1 h2 h3 =>
    (A35.mod.block _ (by omega) (by simp; omega)).trans ((M31.block _ (by omega) (fun hh => by have:=(hrow _ hh).1; omega)).trans (A3'.mod.block _ (by omega) (by simp)))
   refine ⟨kk _ (by omega) (by omega) ll,(kk _ (by omega) (by omega) (by omega)).trans (M2.block _ (by omega) (by simp)),⟨a',_,c'⟩,hb35,?_,hx',?_⟩
   ·rw [List.map_append]
    exact hR31.keep A35.mod fun ad ha hk => by have:=hR31.base ad ha; simp at hk; omega
   ·refine ((((hmW.trans M2).trans A3'.mod).trans M31).trans A35.mod).less fun i hi hlt => ?_
    have:i ∈ yaP s.a → w6.heap.size + 2 ≤ i:=fun hh => (hrow i hh).1
    simp at hi ⊢
    rcases hi with hi | hi | hi | hi
    all_goals first | exact hi | omega | (have:=this hi; omega)
  case post =>
   intro e a1 W1 hq
   cases e with
   | normal =>
    obtain ⟨q1,q2⟩:=hq
    refine ⟨q1,fun lp' => wpIn_mono (q2 lp') ?_⟩
    rintro e a' W' ⟨rfl,mem,h3,h4,h5⟩
    exact ⟨rfl,by rw [h3]; exact World.putObj_heap_same (ya3 q1),h4,h5⟩
   | _ => exact hq.elim
 case done =>
  rintro W xs hxs ⟨s,hb,hr,hx,hmW⟩ hK
  have hcs:W.cell? ⟨w4.heap.size,0,none⟩ = some (.slice s.a s.n s.c):=by rw [yaY hb]; rfl
  gi_wp2
  refine ⟨by simp,.inl ⟨_,_,rfl,run_takeDeferred hK,?_⟩⟩
  refine ⟨_,results_tmp rfl _ _ _,s,rfl,?_⟩
  have M:=ydS W w6.heap.size (.deferred none)
  have exs:xs = K:=by
   apply List.ext_getElem?
   intro i
   by_cases hi:i < xs.length
   ·obtain ⟨y,hy⟩:∃ y,xs[i]? = some y:=⟨_,List.getElem?_eq_getElem hi⟩
    rw [hy,hx i y hy]
   ·rw [List.getElem?_eq_none (by omega),List.getElem?_eq_none (by omega)]
  rw [exs] at hr
  rw [eL]
  exact ⟨(hr.keep M fun ad ha hk => by have:=hr.base ad ha; simp at hk; omega).rebase (by omega),(N6.go0 hmW k1).go0 M (by simp; omega)⟩
end
theorem yAt {w:World} {b:Nat} {L:TL} {F:List Nat} (h:yf5 w b L F) (hL:L.length ≤ 1000000) :
 Calls pP 80 #[.pointer (some ⟨b,0,none⟩)] w fun e w' => ∃ s:Sl,e = .returned (.slice s.a s.n s.c) ∧ Row w' w.heap.size 243 2 yq7 s.a s.n s.c (yj8 L) ∧ Mod [] w w':=(callsIn_wide (n:=2)).1 (yHK h hL)
end Go.Proofs.YtkepmmocldnnfaaGreat
namespace Go.Proofs.YtkepmmocldnnfaaGreat
open Go Go.RowKit Go.Maps Go.Sort Go.Shelf Go.MapKept Go.WideElems Go.WideShapes
set_option linter.unusedVariables false
set_option linter.unusedSimpArgs false
theorem yEW (s:Sl) (w:World):Calls pP 120 #[.slice s.a s.n s.c] w fun e w' => ∃ b,e = .returned (.func (.func 152) #[] #[.pointer (some ⟨b,0,none⟩)]) ∧ w.heap.size ≤ b ∧ b < w'.heap.size ∧ w'.heap[b]? = some (.cells #[.slice s.a s.n s.c] 114) ∧ Mod [] w w':=by
 refine (yKB (R:=fun v w' => ∃ b,v = .func (.func 152) #[] #[.pointer (some ⟨b,0,none⟩)] ∧ w.heap.size ≤ b ∧ b < w'.heap.size ∧ w'.heap[b]? = some (.cells #[.slice s.a s.n s.c] 114) ∧ Mod [] w w') ?_).mono (fun e w' ⟨v,he,b,hv,h⟩ => ⟨b,by rw [he,hv],h⟩)
 intro b1 f1 w2 A2 h2
 exact ⟨b1,rfl,f1,A2.lt b1 (by simp),h2,A2.mod⟩
section
attribute [local go_sem] Oper.semAt_some
set_option maxRecDepth 100000 in
set_option maxHeartbeats 2000000 in
theorem yDr {w0:World} {S:List Nat} {b1 B:Nat} {s:Sl} {l:List SegV} (hl:l.length ≤ 1000000) (hw:∀ W,Mod S w0 W → W.heap[b1]? = some (.cells #[.slice s.a s.n s.c] 114) ∧ ybD W 1 yh4 s.a s.n l) :
  yK8 pP 152 #[.pointer (some ⟨b1,0,none⟩)] (fun x:Int × SegV => #[.int .i64 x.1,.pointer (some ⟨x.2.p,0,none⟩)]) w0 S (fun k x W => x.1 = ((l.length - 1 - k:Nat):Int) ∧ l[l.length - 1 - k]? = some x.2) l.length B:=fun lp J hJm hJw hY W h0 => by
 obtain ⟨sa,sn,sc⟩:=s
 have hro:Fence.wide.round = none:=rfl
 refine callsIn_of_wp Tryz.func152 rfl trivial ?_ hro
 simp only [Tryz.ntmps152,List.size_toArray,List.length_cons,List.length_nil,Nat.reduceAdd,Nat.reduceSub,Array.replicate_succ,Array.replicate_zero,List.push_toArray,List.append_toArray,List.nil_append,List.cons_append]
 obtain ⟨hb0,hs0⟩:=hw W (hJw _ _ h0).1
 have hc1:W.cell? ⟨b1,0,none⟩ = some (.slice sa sn sc):=by rw [yaY hb0]; rfl
 have hn:sn = l.length:=hs0.1
 have ew:IntKind.wrap .i64 ((sn:Int) - 1) = (sn:Int) - 1:=yaJ (by omega) (by omega)
 gi_wp2
 gi_loopg [3] l.length (fun k i wr => ∃ (pre:List (Int × SegV)),i = .int .i64 ((k:Int) - 1) ∧ k ≤ l.length ∧ pre.length = l.length - k ∧ J pre wr)
 case atStart => exact ⟨[],by first | rfl | rw [ew,hn],by omega,by simp,h0⟩
 case round =>
  obtain ⟨pre,rfl,hk,hpl,hJ⟩:=hrel
  obtain ⟨hMw,hBw⟩:=hJw _ _ hJ
  by_cases hlt:gk = 0
  ·subst hlt
   gi_wp2
   go_end0
   exact ⟨⟨_,rfl⟩,pre,by omega,hJ⟩
  ·obtain ⟨j,rfl⟩:∃ j,gk = j + 1:=⟨gk - 1,by omega⟩
   obtain ⟨x,hx⟩:∃ x,l[j]? = some x:=⟨_,List.getElem?_eq_getElem (by omega)⟩
   obtain ⟨hb1,hs1⟩:=hw _ hMw
   have hc2:wr.cell? ⟨b1,0,none⟩ = some (.slice sa sn sc):=by rw [yaY hb1]; rfl
   obtain ⟨ad,ha,hcx⟩:=hs1.2 j x hx
   have hcx:wr.cell? (ad.add j) = some (.pointer (some ⟨x.p,0,none⟩)):=by have:=hcx 0 _ rfl; rwa [add_zero,Nat.mul_one] at this
   obtain ⟨fn,tmps,assign,body,hy,hR⟩:=hY pre (((j:Nat):Int),x) wr hJ ⟨by rw [hpl]; congr 1; omega,by rw [hpl,show l.length - 1 - (l.length - (j + 1)) = j by omega]; exact hx⟩ (by omega)
   have ha:sa = some ad:=ha
   subst ha
   have ej:(((j + 1:Nat):Int) - 1) = (j:Int):=by omega
   have ew2:IntKind.wrap .i64 ((j:Int) - 1) = (j:Int) - 1:=yaJ (by omega) (by omega)
   rw [ej]
   gi_wp2
   refine hR.mono ?_
   rintro e W3 ⟨rfl,hJ3⟩
   gi_wp2
   gi_roundg j
   case rel => exact ⟨_,by first | rfl | rw [ew2],by omega,by simp; omega,hJ3⟩
   case measure => omega
end
theorem yEX (s:Sl) (w:World):Calls pP 121 #[.slice s.a s.n s.c] w fun e w' => ∃ b,e = .returned (.func (.func 153) #[] #[.pointer (some ⟨b,0,none⟩)]) ∧ w.heap.size ≤ b ∧ b < w'.heap.size ∧ w'.heap[b]? = some (.cells #[.slice s.a s.n s.c] 41) ∧ Mod [] w w':=by
 refine (yKC (R:=fun v w' => ∃ b,v = .func (.func 153) #[] #[.pointer (some ⟨b,0,none⟩)] ∧ w.heap.size ≤ b ∧ b < w'.heap.size ∧ w'.heap[b]? = some (.cells #[.slice s.a s.n s.c] 41) ∧ Mod [] w w') ?_).mono (fun e w' ⟨v,he,b,hv,h⟩ => ⟨b,by rw [he,hv],h⟩)
 intro b1 f1 w2 A2 h2
 exact ⟨b1,rfl,f1,A2.lt b1 (by simp),h2,A2.mod⟩
section
attribute [local go_sem] Oper.semAt_some
set_option maxRecDepth 100000 in
set_option maxHeartbeats 2000000 in
theorem yDs {w0:World} {S:List Nat} {b1 B:Nat} {s:Sl} {l:List PFound} (hl:l.length ≤ 1000000) (hw:∀ W,Mod S w0 W → W.heap[b1]? = some (.cells #[.slice s.a s.n s.c] 41) ∧ ybD W 5 yk0 s.a s.n l) :
  yK8 pP 153 #[.pointer (some ⟨b1,0,none⟩)] (fun x:Int × PFound => #[.int .i64 x.1,.agg #[.int .i64 x.2.off,.bool x.2.r.hk,.string x.2.r.key,.bool x.2.r.tomb,.string x.2.r.val]]) w0 S (fun k x W => x.1 = ((l.length - 1 - k:Nat):Int) ∧ l[l.length - 1 - k]? = some x.2) l.length B:=fun lp J hJm hJw hY W h0 => by
 obtain ⟨sa,sn,sc⟩:=s
 have hro:Fence.wide.round = none:=rfl
 refine callsIn_of_wp Tryz.func153 rfl trivial ?_ hro
 simp only [Tryz.ntmps153,List.size_toArray,List.length_cons,List.length_nil,Nat.reduceAdd,Nat.reduceSub,Array.replicate_succ,Array.replicate_zero,List.push_toArray,List.append_toArray,List.nil_append,List.cons_append]
 obtain ⟨hb0,hs0⟩:=hw W (hJw _ _ h0).1
 have hc1:W.cell? ⟨b1,0,none⟩ = some (.slice sa sn sc):=by rw [yaY hb0]; rfl
 have hn:sn = l.length:=hs0.1
 have ew:IntKind.wrap .i64 ((sn:Int) - 1) = (sn:Int) - 1:=yaJ (by omega) (by omega)
 gi_wp2
 gi_loopg [3] l.length (fun k i wr => ∃ (pre:List (Int × PFound)),i = .int .i64 ((k:Int) - 1) ∧ k ≤ l.length ∧ pre.length = l.length - k ∧ J pre wr)
 case atStart => exact ⟨[],by first | rfl | rw [ew,hn],by omega,by simp,h0⟩
 case round =>
  obtain ⟨pre,rfl,hk,hpl,hJ⟩:=hrel
  obtain ⟨hMw,hBw⟩:=hJw _ _ hJ
  by_cases hlt:gk = 0
  ·subst hlt
   gi_wp2
   go_end0
   exact ⟨⟨_,rfl⟩,pre,by omega,hJ⟩
  ·obtain ⟨j,rfl⟩:∃ j,gk = j + 1:=⟨gk - 1,by omega⟩
   obtain ⟨x,hx⟩:∃ x,l[j]? = some x:=⟨_,List.getElem?_eq_getElem (by omega)⟩
   obtain ⟨hb1,hs1⟩:=hw _ hMw
   have hc2:wr.cell? ⟨b1,0,none⟩ = some (.slice sa sn sc):=by rw [yaY hb1]; rfl
   obtain ⟨ad,ha,hcx⟩:=hs1.2 j x hx
   have hcx0:wr.cell? (ad.add (j * 5)) = some (.int .i64 x.off):=by have:=hcx 0 _ rfl; rwa [add_zero] at this
   have hcx1:wr.cell? { block:=(ad.add (j * 5)).block,off:=(ad.add (j * 5)).off + 1 } = some (.bool x.r.hk):=hcx 1 _ rfl
   have hcx2:wr.cell? { block:=(ad.add (j * 5)).block,off:=(ad.add (j * 5)).off + 2 } = some (.string x.r.key):=hcx 2 _ rfl
   have hcx3:wr.cell? { block:=(ad.add (j * 5)).block,off:=(ad.add (j * 5)).off + 3 } = some (.bool x.r.tomb):=hcx 3 _ rfl
   have hcx4:wr.cell? { block:=(ad.add (j * 5)).block,off:=(ad.add (j * 5)).off + 4 } = some (.string x.r.val):=hcx 4 _ rfl
   obtain ⟨fn,tmps,assign,body,hy,hR⟩:=hY pre (((j:Nat):Int),x) wr hJ ⟨by rw [hpl]; congr 1; omega,by rw [hpl,show l.length - 1 - (l.length - (j + 1)) = j by omega]; exact hx⟩ (by omega)
   have ha:sa = some ad:=ha
   subst ha
   have ej:(((j + 1:Nat):Int) - 1) = (j:Int):=by omega
   have ew2:IntKind.wrap .i64 ((j:Int) - 1) = (j:Int) - 1:=yaJ (by omega) (by omega)
   rw [ej]
   gi_wp2
   refine hR.mono ?_
   rintro e W3 ⟨rfl,hJ3⟩
   gi_wp2
   gi_roundg j
   case rel => exact ⟨_,by first | rfl | rw [ew2],by omega,by simp; omega,hJ3⟩
   case measure => omega
end
end Go.Proofs.YtkepmmocldnnfaaGreat
namespace Go.Proofs.YtkepmmocldnnfaaGreat
open Go Go.RowKit
set_option linter.all false
section
set_option maxRecDepth 100000
variable {R:VWP} {w w0:World} {m:Nat} {i0 i1 i2 i3 i4 i5 i6 i7 i8 i9 j0 j1 j2 j3 j4 j5 j6 j7 j8 j9 k0 k1 k2 k3 k4 k5 k6 k7 k8 k9 l0 l1 l2 l3 l4 l5 l6 l7 l8 l9:Int} {s0 s1 s2 s3 s4 s5 s6 s7 s8 s9 t0 t1 t2 t3 t4 t5 t6 t7 t8 t9:BA} {n0 n1 n2 n3 n4 n5 n6 n7 n8 n9 o0 o1 o2 o3 o4 o5 o6 o7 o8 o9 p0 p1 p2 p3 p4 p5 p6 p7 p8 p9:Nat} {q0 q1 q2 q3 q4 q5 q6 q7 q8 q9 r0 r1 r2 r3 r4 r5 r6 r7 r8 r9:OA} {B0 B1 B2 B3 B4 B5 B6 B7 B8 B9:Bool} {M0 M1 M2 M3:Option Nat} {V0 V1 V2 V3 V4 V5:Value} {A0 A1 A2:Addr}
def ydL (l:Nat) (lp:Loop) (B0:Nat) (o0_0:OA) (B1:Nat) (o1_0:Option Nat) (B2:Nat) (o2_0:Int) (B3:Nat) (o3_0_a:OA) (o3_0_n o3_0_c:Nat) (y21_0 y22_0:Int) (y22_1:Bool) (y22_2:BA) (y22_3:Bool) (y22_4:BA) (R:World → List TB → World → Prop) (w:World):Prop :=
 ∀ b1,w.heap.size ≤ b1 →
 ∀ w2,Adv [] [b1] w w2 →
 w2.heap[l]? = some (.loop lp) ∧
 ∀ w3,Mod [l] w2 w3 →
 brB (!y22_1) (
 brB true (
 ∀ w4,Adv [] [] w3 w4 →
 al w4 (.cells #[.int .i64 y22_0] 3) fun b5 w6 =>
 ybN pP (Builtin.append_ #[24,24] 24 #[.slice o3_0_a o3_0_n o3_0_c,(.slice (some ⟨b5,0,none⟩) 1 1)]) w6 fun a8 n9 b7 w7 => yaG [B0,B1,B2,B3,b1] w6 w7 ∧
 brB y22_1 (
 ∀ c2,Adv [B3] [] w7 c2 →
 yc7 pP (Instr.mapUpdate 217 (.map o1_0) (.string y22_2) (.bool true)) c2 fun d1 => yaG [B0,B1,B2,B3,b1] c2 d1 ∧
 ∀ a0,Adv [] [] d1 a0 → a0.heap[B0]? = some (.cells #[.pointer o0_0] 84) →
 a0.heap[B1]? = some (.cells #[(.map o1_0)] 217) →
 a0.heap[B2]? = some (.cells #[.int .i64 o2_0] 3) →
 a0.heap[B3]? = some (.cells #[.slice a8 n9 b7] 24) →
 R w3 [⟨B0,84,[.pointer o0_0],true⟩,⟨B1,217,[(.map o1_0)],true⟩,⟨B2,3,[.int .i64 o2_0],true⟩,⟨B3,24,[.slice a8 n9 b7],true⟩,⟨b1,165,[.int .i64 y22_0,.bool y22_1,.string y22_2,.bool y22_3,.string y22_4],false⟩] a0)
 (
 ∀ a1,Adv [B3] [] w7 a1 → a1.heap[B0]? = some (.cells #[.pointer o0_0] 84) →
 a1.heap[B1]? = some (.cells #[(.map o1_0)] 217) →
 a1.heap[B2]? = some (.cells #[.int .i64 o2_0] 3) →
 a1.heap[B3]? = some (.cells #[.slice a8 n9 b7] 24) →
 R w3 [⟨B0,84,[.pointer o0_0],true⟩,⟨B1,217,[(.map o1_0)],true⟩,⟨B2,3,[.int .i64 o2_0],true⟩,⟨B3,24,[.slice a8 n9 b7],true⟩,⟨b1,165,[.int .i64 y22_0,.bool y22_1,.string y22_2,.bool y22_3,.string y22_4],false⟩] a1))
 (
 brB y22_1 (
 ∀ c3,Adv [] [] w3 c3 →
 yc7 pP (Instr.mapUpdate 217 (.map o1_0) (.string y22_2) (.bool true)) c3 fun d2 => yaG [B0,B1,B2,B3,b1] c3 d2 ∧
 ∀ a2,Adv [] [] d2 a2 → a2.heap[B0]? = some (.cells #[.pointer o0_0] 84) →
 a2.heap[B1]? = some (.cells #[(.map o1_0)] 217) →
 a2.heap[B2]? = some (.cells #[.int .i64 o2_0] 3) →
 a2.heap[B3]? = some (.cells #[.slice o3_0_a o3_0_n o3_0_c] 24) →
 R w3 [⟨B0,84,[.pointer o0_0],true⟩,⟨B1,217,[(.map o1_0)],true⟩,⟨B2,3,[.int .i64 o2_0],true⟩,⟨B3,24,[.slice o3_0_a o3_0_n o3_0_c],true⟩,⟨b1,165,[.int .i64 y22_0,.bool y22_1,.string y22_2,.bool y22_3,.string y22_4],false⟩] a2)
 (
 ∀ a3,Adv [] [] w3 a3 → a3.heap[B0]? = some (.cells #[.pointer o0_0] 84) →
 a3.heap[B1]? = some (.cells #[(.map o1_0)] 217) →
 a3.heap[B2]? = some (.cells #[.int .i64 o2_0] 3) →
 a3.heap[B3]? = some (.cells #[.slice o3_0_a o3_0_n o3_0_c] 24) →
 R w3 [⟨B0,84,[.pointer o0_0],true⟩,⟨B1,217,[(.map o1_0)],true⟩,⟨B2,3,[.int .i64 o2_0],true⟩,⟨B3,24,[.slice o3_0_a o3_0_n o3_0_c],true⟩,⟨b1,165,[.int .i64 y22_0,.bool y22_1,.string y22_2,.bool y22_3,.string y22_4],false⟩] a3)))
 (
 ∃ d0,(∀ w',Mod [] w3 w' → (Instr.lookup 217 (.map o1_0) (.string y22_2) false).run pP w' = .ok (.bool d0) w') ∧
 brB (!d0) (
 brB true (
 ∀ d3,Adv [] [] w3 d3 →
 al d3 (.cells #[.int .i64 y22_0] 3) fun e1 d4 =>
 ybN pP (Builtin.append_ #[24,24] 24 #[.slice o3_0_a o3_0_n o3_0_c,(.slice (some ⟨e1,0,none⟩) 1 1)]) d4 fun b4 c0 b8 c4 => yaG [B0,B1,B2,B3,b1] d4 c4 ∧
 brB y22_1 (
 ∀ c5,Adv [B3] [] c4 c5 →
 yc7 pP (Instr.mapUpdate 217 (.map o1_0) (.string y22_2) (.bool true)) c5 fun d5 => yaG [B0,B1,B2,B3,b1] c5 d5 ∧
 ∀ a4,Adv [] [] d5 a4 → a4.heap[B0]? = some (.cells #[.pointer o0_0] 84) →
 a4.heap[B1]? = some (.cells #[(.map o1_0)] 217) →
 a4.heap[B2]? = some (.cells #[.int .i64 o2_0] 3) →
 a4.heap[B3]? = some (.cells #[.slice b4 c0 b8] 24) →
 R w3 [⟨B0,84,[.pointer o0_0],true⟩,⟨B1,217,[(.map o1_0)],true⟩,⟨B2,3,[.int .i64 o2_0],true⟩,⟨B3,24,[.slice b4 c0 b8],true⟩,⟨b1,165,[.int .i64 y22_0,.bool y22_1,.string y22_2,.bool y22_3,.string y22_4],false⟩] a4)
 (
 ∀ a5,Adv [B3] [] c4 a5 → a5.heap[B0]? = some (.cells #[.pointer o0_0] 84) →
 a5.heap[B1]? = some (.cells #[(.map o1_0)] 217) →
 a5.heap[B2]? = some (.cells #[.int .i64 o2_0] 3) →
 a5.heap[B3]? = some (.cells #[.slice b4 c0 b8] 24) →
 R w3 [⟨B0,84,[.pointer o0_0],true⟩,⟨B1,217,[(.map o1_0)],true⟩,⟨B2,3,[.int .i64 o2_0],true⟩,⟨B3,24,[.slice b4 c0 b8],true⟩,⟨b1,165,[.int .i64 y22_0,.bool y22_1,.string y22_2,.bool y22_3,.string y22_4],false⟩] a5))
 (
 brB y22_1 (
 ∀ c6,Adv [] [] w3 c6 →
 yc7 pP (Instr.mapUpdate 217 (.map o1_0) (.string y22_2) (.bool true)) c6 fun d6 => yaG [B0,B1,B2,B3,b1] c6 d6 ∧
 ∀ a6,Adv [] [] d6 a6 → a6.heap[B0]? = some (.cells #[.pointer o0_0] 84) →
 a6.heap[B1]? = some (.cells #[(.map o1_0)] 217) →
 a6.heap[B2]? = some (.cells #[.int .i64 o2_0] 3) →
 a6.heap[B3]? = some (.cells #[.slice o3_0_a o3_0_n o3_0_c] 24) →
 R w3 [⟨B0,84,[.pointer o0_0],true⟩,⟨B1,217,[(.map o1_0)],true⟩,⟨B2,3,[.int .i64 o2_0],true⟩,⟨B3,24,[.slice o3_0_a o3_0_n o3_0_c],true⟩,⟨b1,165,[.int .i64 y22_0,.bool y22_1,.string y22_2,.bool y22_3,.string y22_4],false⟩] a6)
 (
 ∀ a7,Adv [] [] w3 a7 → a7.heap[B0]? = some (.cells #[.pointer o0_0] 84) →
 a7.heap[B1]? = some (.cells #[(.map o1_0)] 217) →
 a7.heap[B2]? = some (.cells #[.int .i64 o2_0] 3) →
 a7.heap[B3]? = some (.cells #[.slice o3_0_a o3_0_n o3_0_c] 24) →
 R w3 [⟨B0,84,[.pointer o0_0],true⟩,⟨B1,217,[(.map o1_0)],true⟩,⟨B2,3,[.int .i64 o2_0],true⟩,⟨B3,24,[.slice o3_0_a o3_0_n o3_0_c],true⟩,⟨b1,165,[.int .i64 y22_0,.bool y22_1,.string y22_2,.bool y22_3,.string y22_4],false⟩] a7)))
 (
 yjF o0_0 fun e4 =>
 yaC w3 (Addr.add e4 1) fun e5 e3 e6 =>
 brB (o2_0 == (IntKind.wrap .i64 ((e3:Int) - 1))) (
 ∀ d7,Adv [] [] w3 d7 →
 al d7 (.cells #[.int .i64 y22_0] 3) fun e2 d8 =>
 ybN pP (Builtin.append_ #[24,24] 24 #[.slice o3_0_a o3_0_n o3_0_c,(.slice (some ⟨e2,0,none⟩) 1 1)]) d8 fun b6 c1 b9 c7 => yaG [B0,B1,B2,B3,b1] d8 c7 ∧
 brB y22_1 (
 ∀ c8,Adv [B3] [] c7 c8 →
 yc7 pP (Instr.mapUpdate 217 (.map o1_0) (.string y22_2) (.bool true)) c8 fun d9 => yaG [B0,B1,B2,B3,b1] c8 d9 ∧
 ∀ a9,Adv [] [] d9 a9 → a9.heap[B0]? = some (.cells #[.pointer o0_0] 84) →
 a9.heap[B1]? = some (.cells #[(.map o1_0)] 217) →
 a9.heap[B2]? = some (.cells #[.int .i64 o2_0] 3) →
 a9.heap[B3]? = some (.cells #[.slice b6 c1 b9] 24) →
 R w3 [⟨B0,84,[.pointer o0_0],true⟩,⟨B1,217,[(.map o1_0)],true⟩,⟨B2,3,[.int .i64 o2_0],true⟩,⟨B3,24,[.slice b6 c1 b9],true⟩,⟨b1,165,[.int .i64 y22_0,.bool y22_1,.string y22_2,.bool y22_3,.string y22_4],false⟩] a9)
 (
 ∀ b0,Adv [B3] [] c7 b0 → b0.heap[B0]? = some (.cells #[.pointer o0_0] 84) →
 b0.heap[B1]? = some (.cells #[(.map o1_0)] 217) →
 b0.heap[B2]? = some (.cells #[.int .i64 o2_0] 3) →
 b0.heap[B3]? = some (.cells #[.slice b6 c1 b9] 24) →
 R w3 [⟨B0,84,[.pointer o0_0],true⟩,⟨B1,217,[(.map o1_0)],true⟩,⟨B2,3,[.int .i64 o2_0],true⟩,⟨B3,24,[.slice b6 c1 b9],true⟩,⟨b1,165,[.int .i64 y22_0,.bool y22_1,.string y22_2,.bool y22_3,.string y22_4],false⟩] b0))
 (
 brB y22_1 (
 ∀ c9,Adv [] [] w3 c9 →
 yc7 pP (Instr.mapUpdate 217 (.map o1_0) (.string y22_2) (.bool true)) c9 fun e0 => yaG [B0,B1,B2,B3,b1] c9 e0 ∧
 ∀ b2,Adv [] [] e0 b2 → b2.heap[B0]? = some (.cells #[.pointer o0_0] 84) →
 b2.heap[B1]? = some (.cells #[(.map o1_0)] 217) →
 b2.heap[B2]? = some (.cells #[.int .i64 o2_0] 3) →
 b2.heap[B3]? = some (.cells #[.slice o3_0_a o3_0_n o3_0_c] 24) →
 R w3 [⟨B0,84,[.pointer o0_0],true⟩,⟨B1,217,[(.map o1_0)],true⟩,⟨B2,3,[.int .i64 o2_0],true⟩,⟨B3,24,[.slice o3_0_a o3_0_n o3_0_c],true⟩,⟨b1,165,[.int .i64 y22_0,.bool y22_1,.string y22_2,.bool y22_3,.string y22_4],false⟩] b2)
 (
 ∀ b3,Adv [] [] w3 b3 → b3.heap[B0]? = some (.cells #[.pointer o0_0] 84) →
 b3.heap[B1]? = some (.cells #[(.map o1_0)] 217) →
 b3.heap[B2]? = some (.cells #[.int .i64 o2_0] 3) →
 b3.heap[B3]? = some (.cells #[.slice o3_0_a o3_0_n o3_0_c] 24) →
 R w3 [⟨B0,84,[.pointer o0_0],true⟩,⟨B1,217,[(.map o1_0)],true⟩,⟨B2,3,[.int .i64 o2_0],true⟩,⟨B3,24,[.slice o3_0_a o3_0_n o3_0_c],true⟩,⟨b1,165,[.int .i64 y22_0,.bool y22_1,.string y22_2,.bool y22_3,.string y22_4],false⟩] b3))))
theorem yfE (l:Nat) (lp:Loop) (B0:Nat) (o0_0:OA) (B1:Nat) (o1_0:Option Nat) (B2:Nat) (o2_0:Int) (B3:Nat) (o3_0_a:OA) (o3_0_n o3_0_c:Nat) (y21_0 y22_0:Int) (y22_1:Bool) (y22_2:BA) (y22_3:Bool) (y22_4:BA) (js:Nat → Value) (R:World → List TB → World → Prop) (w:World) :
 yDn pP (yiT (ykU (yiT (code Tryz.f73) [0,1,0,1,1,1])) [0,1,0,1,0]) l lp R [0,1,2,3] ⟨[(1,.pointer (some ⟨B0,0,none⟩),some (0,0)),(3,.pointer (some ⟨B1,0,none⟩),some (1,0)),(5,.pointer (some ⟨B2,0,none⟩),some (2,0)),(7,.pointer (some ⟨B3,0,none⟩),some (3,0)),(21,.int .i64 y21_0,none),(22,(.agg (Z13 y22_0 y22_1 y22_2 y22_3 y22_4)),none)],js⟩ ⟨[⟨B0,84,[.pointer o0_0],false⟩,⟨B1,217,[(.map o1_0)],false⟩,⟨B2,3,[.int .i64 o2_0],false⟩,⟨B3,24,[.slice o3_0_a o3_0_n o3_0_c],false⟩],w,[],[],true⟩ = ydL l lp B0 o0_0 B1 o1_0 B2 o2_0 B3 o3_0_a o3_0_n o3_0_c y21_0 y22_0 y22_1 y22_2 y22_3 y22_4 R w:=by kernel_rfl
end
end Go.Proofs.YtkepmmocldnnfaaGreat
namespace Go.Proofs.YtkepmmocldnnfaaGreat
open Go Go.RowKit Go.Maps Go.Sort Go.Shelf Go.MapKept Go.WideElems Go.WideShapes
set_option linter.unusedVariables false
set_option linter.unusedSimpArgs false
abbrev LtL:=List (ByteArray × Bool)
def yk8 (last:Bool) (lt:LtL) (f:PFound):Bool:=!f.r.hk || (!((lkp lt f.r.key).getD false) || last)
def yeD (last:Bool) (a:LtL × List Int) (f:PFound):LtL × List Int :=
 (if f.r.hk = true then put a.1 f.r.key true else a.1,if yk8 last a.1 f = true then a.2 ++ [f.off] else a.2)
theorem yeO {last:Bool} {lt:LtL} {kp:List Int} {f:PFound} (h:yk8 last lt f = true):(yeD last (lt,kp) f).2 = kp ++ [f.off]:=if_pos h
theorem ypF {last:Bool} {lt:LtL} {kp:List Int} {f:PFound} (h:yk8 last lt f = false):(yeD last (lt,kp) f).2 = kp:=if_neg (by rw [h]; decide)
theorem ylN {last:Bool} {lt:LtL} {kp:List Int} {f:PFound} (h:f.r.hk = true):(yeD last (lt,kp) f).1 = put lt f.r.key true:=if_pos h
theorem ylO {last:Bool} {lt:LtL} {kp:List Int} {f:PFound} (h:f.r.hk = false):(yeD last (lt,kp) f).1 = lt:=if_neg (by rw [h]; decide)
set_option maxHeartbeats 4000000 in
theorem yLb {W:World} {l b mb B0 B1 B2 B3 base:Nat} {lp:Loop} {room i y:Int} {sl:Sl} {lt:LtL} {kp:List Int} {ka:Option Addr} {kn kc:Nat} {f:PFound} {last:Bool} {R:World → List TB → World → Prop}
  (hl:W.heap[l]? = some (.loop lp)) (hc:W.heap[b]? = some (.cells #[.int .i64 room,.slice sl.a sl.n sl.c] 116)) (hm:yaX pP 9 hks hkb W mb lt)
  (hR:Row W base 3 1 yd4 ka kn kc kp) (hbase:base ≤ W.heap.size) (hkl:kp.length ≤ 1000000) (hB:∀ z ∈ [B0,B1,B2,B3],z < W.heap.size ∧ z ∉ yaP ka ∧ z ≠ mb ∧ z ≠ l) (hmk:mb ∉ yaP ka) (hlk:l ∉ yaP ka) (hsz:f.r.key.size ≤ maxLen) (hlast:last = (i == IntKind.wrap .i64 ((sl.n:Int) - 1)))
  (hfin:∀ w2 w3 W' (s':Sl) mem,Mod [] W w2 → Mod [l] w2 w3 → Mod (B3 :: mb :: yaP ka) w3 W' → W'.heap[B3]? = some (.cells #[.slice s'.a s'.n s'.c] 24) → Row W' base 3 1 yd4 s'.a s'.n s'.c (yeD last (lt,kp) f).2 → yaX pP 9 hks hkb W' mb (yeD last (lt,kp) f).1 → R w3 mem W') :
  ydL l lp B0 (some ⟨b,0,none⟩) B1 (some mb) B2 i B3 ka kn kc y f.off f.r.hk f.r.key f.r.tomb f.r.val R W:=by
 have ll:=ya3 hl
 have lm:=hm.lt
 have hbk:B3 ∉ yaP ka:=(hB B3 (by simp)).2.1
 have hmB:mb ≠ B3:=fun e => (hB B3 (by simp)).2.2.1 e.symm
 have lB3:=(hB B3 (by simp)).1
 intro b1 f1 w2 A2
 have s2:=A2.mod.size
 refine ⟨A2.mod.keep0 hl,?_⟩
 intro w3 M3
 have s3:=M3.size
 have hlm:mb ≠ l:=by
  rintro rfl
  obtain ⟨es,clock,hb,_⟩:=hm
  rw [hl] at hb; cases hb
 have hlb:b ≠ l:=by rintro rfl; rw [hl] at hc; cases hc
 have hm3:=(hm.keepM0 A2.mod).keepM M3 (by simpa using hlm)
 have hR3:=yaE (hR.keep0 A2.mod) M3 (by simpa using hlk)
 have hc3:=M3.keep (A2.mod.keep0 hc) (by simpa using hlb)
 have hbx:∀ z ∈ [B0,B1,B2,B3,b1],z ∉ yaP ka:=fun z hz hz' => by
  have h5:=(yaQ hR z hz').2
  simp only [List.mem_cons,List.not_mem_nil,or_false] at hz
  rcases hz with rfl | rfl | rfl | rfl | rfl
  ·exact (hB _ (by simp)).2.1 hz'
  ·exact (hB _ (by simp)).2.1 hz'
  ·exact (hB _ (by simp)).2.1 hz'
  ·exact (hB _ (by simp)).2.1 hz'
  ·omega
 have hmx:mb ∉ [B0,B1,B2,B3,b1]:=fun hz => by
  simp only [List.mem_cons,List.not_mem_nil,or_false] at hz
  rcases hz with e | e | e | e | e
  ·exact (hB B0 (by simp)).2.2.1 e.symm
  ·exact (hB B1 (by simp)).2.2.1 e.symm
  ·exact (hB B2 (by simp)).2.2.1 e.symm
  ·exact (hB B3 (by simp)).2.2.1 e.symm
  ·omega
 refine yaD (fun g1 => ?_) fun g1 => ?_
 ·refine yaD (fun _ => ?_) fun g => absurd g (by decide)
  intro w4 A4
  have hR4:=hR3.keep0 A4.mod
  have s4:=A4.mod.size
  refine yjU (f:=⟨ka,kn,kc⟩) (y:=f.off) hR4 (by omega) (by omega) hbx fun a4 c4 w7 hR7 M7 hk7 => ?_
  have s7:=M7.size
  have B7:B3 ∉ yaP a4:=fun hz => by rcases hk7 _ hz with hz | hz; exact hbk hz; omega
  have m7:mb ∉ yaP a4:=fun hz => by rcases hk7 _ hz with hz | hz; exact hmk hz; omega
  refine yaD (fun g9 => ?_) fun g9 => ?_
  ·intro w11 A11
   have hm11:=((hm3.keepM0 A4.mod).keepM M7 hmk).keepM A11.mod (by simpa using hmB)
   have hR11:=yaE hR7 A11.mod (by simpa using B7)
   refine hm11.setU (k:=f.r.key) ye0 ybW Tryz.underlying217 (v:=true) (yb1 hsz) hmx fun w12 hm12 M12 => ?_
   intro w13 A13 _ _ _ hc13
   exact hfin w2 w3 w13 ⟨a4,_,c4⟩ _ A2.mod M3 (((((A4.mod.trans M7).trans A11.mod).trans M12).trans A13.mod).less fun z hz _ => by simp at hz ⊢; rcases hz with h | h | h <;> simp [h]) hc13 (by rw [yeO (by simp [yk8,show f.r.hk = false by simpa using g1])]; exact (yaE hR11 M12 (by simpa using m7)).keep0 A13.mod) (by rw [ylN g9]; exact hm12.keepM0 A13.mod)
  ·intro w14 A14 _ _ _ hc14
   exact hfin w2 w3 w14 ⟨a4,_,c4⟩ _ A2.mod M3 (((A4.mod.trans M7).trans A14.mod).less fun z hz _ => by simp at hz ⊢; rcases hz with h | h <;> simp [h]) hc14 (by rw [yeO (by simp [yk8,show f.r.hk = false by simpa using g1])]; exact yaE hR7 A14.mod (by simpa using B7)) (by rw [ylO g9]; exact ((hm3.keepM0 A4.mod).keepM M7 hmk).keepM A14.mod (by simpa using hmB))
 have g1:f.r.hk = true:=by simpa using g1
 refine ⟨_,hm3.lkF (k:=f.r.key) ye0 ybW Tryz.underlying217 yxR (yb1 hsz),?_⟩
 refine yaD (fun g2 => ?_) fun g2 => ?_
 ·refine yaD (fun _ => ?_) fun g => absurd g (by decide)
  have g2:(lkp lt f.r.key).getD false = false:=by simpa using g2
  intro w4 A4
  have hR4:=hR3.keep0 A4.mod
  have s4:=A4.mod.size
  refine yjU (f:=⟨ka,kn,kc⟩) (y:=f.off) hR4 (by omega) (by omega) hbx fun a4 c4 w7 hR7 M7 hk7 => ?_
  have s7:=M7.size
  have B7:B3 ∉ yaP a4:=fun hz => by rcases hk7 _ hz with hz | hz; exact hbk hz; omega
  have m7:mb ∉ yaP a4:=fun hz => by rcases hk7 _ hz with hz | hz; exact hmk hz; omega
  refine yaD (fun g9 => ?_) fun g9 => ?_
  ·intro w11 A11
   have hm11:=((hm3.keepM0 A4.mod).keepM M7 hmk).keepM A11.mod (by simpa using hmB)
   have hR11:=yaE hR7 A11.mod (by simpa using B7)
   refine hm11.setU (k:=f.r.key) ye0 ybW Tryz.underlying217 (v:=true) (yb1 hsz) hmx fun w12 hm12 M12 => ?_
   intro w13 A13 _ _ _ hc13
   exact hfin w2 w3 w13 ⟨a4,_,c4⟩ _ A2.mod M3 (((((A4.mod.trans M7).trans A11.mod).trans M12).trans A13.mod).less fun z hz _ => by simp at hz ⊢; rcases hz with h | h | h <;> simp [h]) hc13 (by rw [yeO (by simp [yk8,g2])]; exact (yaE hR11 M12 (by simpa using m7)).keep0 A13.mod) (by rw [ylN g9]; exact hm12.keepM0 A13.mod)
  ·intro w14 A14 _ _ _ hc14
   exact hfin w2 w3 w14 ⟨a4,_,c4⟩ _ A2.mod M3 (((A4.mod.trans M7).trans A14.mod).less fun z hz _ => by simp at hz ⊢; rcases hz with h | h <;> simp [h]) hc14 (by rw [yeO (by simp [yk8,g2])]; exact yaE hR7 A14.mod (by simpa using B7)) (by rw [ylO g9]; exact ((hm3.keepM0 A4.mod).keepM M7 hmk).keepM A14.mod (by simpa using hmB))
 have g2:(lkp lt f.r.key).getD false = true:=by simpa using g2
 refine ydW (yaT (x:=sl.a) (n:=sl.n) (c:=sl.c) (by rw [ycE,yaY hc3]; rfl) ?_)
 refine yaD (fun g3 => ?_) fun g3 => ?_
 ·intro w4 A4
  have hR4:=hR3.keep0 A4.mod
  have s4:=A4.mod.size
  refine yjU (f:=⟨ka,kn,kc⟩) (y:=f.off) hR4 (by omega) (by omega) hbx fun a4 c4 w7 hR7 M7 hk7 => ?_
  have s7:=M7.size
  have B7:B3 ∉ yaP a4:=fun hz => by rcases hk7 _ hz with hz | hz; exact hbk hz; omega
  have m7:mb ∉ yaP a4:=fun hz => by rcases hk7 _ hz with hz | hz; exact hmk hz; omega
  refine yaD (fun g9 => ?_) fun g9 => ?_
  ·intro w11 A11
   have hm11:=((hm3.keepM0 A4.mod).keepM M7 hmk).keepM A11.mod (by simpa using hmB)
   have hR11:=yaE hR7 A11.mod (by simpa using B7)
   refine hm11.setU (k:=f.r.key) ye0 ybW Tryz.underlying217 (v:=true) (yb1 hsz) hmx fun w12 hm12 M12 => ?_
   intro w13 A13 _ _ _ hc13
   exact hfin w2 w3 w13 ⟨a4,_,c4⟩ _ A2.mod M3 (((((A4.mod.trans M7).trans A11.mod).trans M12).trans A13.mod).less fun z hz _ => by simp at hz ⊢; rcases hz with h | h | h <;> simp [h]) hc13 (by rw [yeO (by rw [hlast,g3]; simp [yk8])]; exact (yaE hR11 M12 (by simpa using m7)).keep0 A13.mod) (by rw [ylN g9]; exact hm12.keepM0 A13.mod)
  ·intro w14 A14 _ _ _ hc14
   exact hfin w2 w3 w14 ⟨a4,_,c4⟩ _ A2.mod M3 (((A4.mod.trans M7).trans A14.mod).less fun z hz _ => by simp at hz ⊢; rcases hz with h | h <;> simp [h]) hc14 (by rw [yeO (by rw [hlast,g3]; simp [yk8])]; exact yaE hR7 A14.mod (by simpa using B7)) (by rw [ylO g9]; exact ((hm3.keepM0 A4.mod).keepM M7 hmk).keepM A14.mod (by simpa using hmB))
 ·refine yaD (fun g9 => ?_) fun g9 => ?_
  ·intro w11 A11
   have hm11:=hm3.keepM0 A11.mod
   have s11:=A11.mod.size
   refine hm11.setU (k:=f.r.key) ye0 ybW Tryz.underlying217 (v:=true) (yb1 hsz) hmx fun w12 hm12 M12 => ?_
   intro w13 A13 _ _ _ hc13
   exact hfin w2 w3 w13 ⟨ka,kn,kc⟩ _ A2.mod M3 (((A11.mod.trans M12).trans A13.mod).less fun z hz _ => by simp at hz ⊢; simp [hz]) hc13 (by rw [ypF (by rw [hlast,g3]; simp [yk8,g1,g2])]; exact (yaE (hR3.keep0 A11.mod) M12 (by simpa using hmk)).keep0 A13.mod) (by rw [ylN g9]; exact hm12.keepM0 A13.mod)
  ·intro w14 A14 _ _ _ hc14
   exact hfin w2 w3 w14 ⟨ka,kn,kc⟩ _ A2.mod M3 (A14.mod.less fun z hz _ => by simp at hz) hc14 (by rw [ypF (by rw [hlast,g3]; simp [yk8,g1,g2])]; exact hR3.keep0 A14.mod) (by rw [ylO g9]; exact hm3.keepM0 A14.mod)
end Go.Proofs.YtkepmmocldnnfaaGreat
namespace Go.Proofs.YtkepmmocldnnfaaGreat
open Go Go.RowKit Go.Maps Go.Sort Go.Shelf Go.MapKept Go.WideElems Go.WideShapes
set_option linter.unusedVariables false
set_option linter.unusedSimpArgs false
theorem ytQ:ylM 63 (yiT (ykU (yiT (code Tryz.f73) [0,1,0,1,1,1])) [0,1,0,1,0]) = true:=by kernel_rfl
theorem yrD {last:Bool}:∀ (l:List PFound) (a:LtL × List Int),((l.foldl (yeD last) a).2).length ≤ a.2.length + l.length
 | [],a => by simp
 | f :: r,a => by
  have:=yrD (last:=last) r (yeD last a f)
  rw [List.foldl_cons,List.length_cons]
  have h2:(yeD last a f).2.length ≤ a.2.length + 1:=by unfold yeD; dsimp only; split <;> simp
  omega
set_option maxHeartbeats 4000000 in
set_option maxRecDepth 100000 in
theorem yLc {W:World} {l0:Nat} {r0:Loop} (hl0:W.heap[l0]? = some (.loop r0)) {a:Act} {b mb B0 B1 B2 B3 b9:Nat} {room i:Int} {sl s:Sl} {lt:LtL} {fs:List PFound} {last:Bool} {Q:Exit → Act → World → Prop}
  (t1:a.tmps.getD 1 undef = .pointer (some ⟨B0,0,none⟩)) (t3:a.tmps.getD 3 undef = .pointer (some ⟨B1,0,none⟩)) (t5:a.tmps.getD 5 undef = .pointer (some ⟨B2,0,none⟩)) (t7:a.tmps.getD 7 undef = .pointer (some ⟨B3,0,none⟩))
  (t20:a.tmps.getD 20 undef = .func (.func 153) #[] #[.pointer (some ⟨b9,0,none⟩)]) (hsz:a.tmps.size = 63)
  (c0:W.heap[B0]? = some (.cells #[.pointer (some ⟨b,0,none⟩)] 84)) (c1:W.heap[B1]? = some (.cells #[.map (some mb)] 217)) (c2:W.heap[B2]? = some (.cells #[.int .i64 i] 3)) (c3:W.heap[B3]? = some (.cells #[.slice none 0 0] 24))
  (c9:W.heap[b9]? = some (.cells #[.slice s.a s.n s.c] 41)) (hF:Row W 0 165 5 yk0 s.a s.n s.c fs) (hfl:fs.length ≤ 100000) (hky:∀ f ∈ fs,f.r.key.size ≤ maxLen)
  (hc:W.heap[b]? = some (.cells #[.int .i64 room,.slice sl.a sl.n sl.c] 116)) (hm:yaX pP 9 hks hkb W mb lt) (hnd:[B0,B1,B2,B3].Nodup) (hb3:b9 ≠ B3) (hlast:last = (i == IntKind.wrap .i64 ((sl.n:Int) - 1)))
  (hQ:∀ W' (s':Sl),W'.heap[B3]? = some (.cells #[.slice s'.a s'.n s'.c] 24) → Row W' W.heap.size 3 1 yd4 s'.a s'.n s'.c (fs.reverse.foldl (yeD last) (lt,[])).2 → yaX pP 9 hks hkb W' mb (fs.reverse.foldl (yeD last) (lt,[])).1 → Mod [B3,mb] W W' → Q .normal a W') :
  (yiT (ykU (yiT (code Tryz.f73) [0,1,0,1,1,1])) [0,1,0,1,0]).wpIn (Fence.wide.inRound l0) 0 pP Q a W:=by
 have k0:=yaL c0
 have k1:=yaL c1
 have k2:=yaL c2
 have k3:=yaL c3
 have km:=hm.lt
 have nm:∀ {k:Nat} {cs:Array Value} {T:TypeId},W.heap[k]? = some (.cells cs T) → k ≠ mb:=fun {k cs T} h e => hm.notCells (e ▸ h)
 have n0:B0 ≠ B3:=fun e => by subst e; simp at hnd
 have n1:B1 ≠ B3:=fun e => by subst e; simp at hnd
 have n2:B2 ≠ B3:=fun e => by subst e; simp at hnd
 have nb:b ≠ B3:=fun e => by subst e; rw [c3] at hc; cases hc
 have hlF:mb ∉ yaP s.a:=fun hz => by obtain ⟨_,_,cur,hcur⟩:=yaS hF mb hz; exact hm.notCells hcur
 have h3F:B3 ∉ yaP s.a:=ycT hF c3 (by decide)
 have hlF':∀ k ∈ [B3,mb],k ∉ yaP s.a:=fun k hk => by simp at hk; rcases hk with rfl | rfl <;> assumption
 change (Code.rangeFunc (Operand.tmp 20) #[21,22] (yL0 (yiT (ykU (yiT (code Tryz.f73) [0,1,0,1,1,1])) [0,1,0,1,0])) (ykU (yiT (ykU (yiT (code Tryz.f73) [0,1,0,1,1,1])) [0,1,0,1,0]))).wpIn _ _ _ _ _ _
 refine ym8 (S:=[B3,mb]) (N:=fs.length) hl0 (encs:=fun x:Int × PFound => #[.int .i64 x.1,.agg #[.int .i64 x.2.off,.bool x.2.r.hk,.string x.2.r.key,.bool x.2.r.tomb,.string x.2.r.val]]) (X:=fun k x W => x.1 = ((fs.length - 1 - k:Nat):Int) ∧ fs[fs.length - 1 - k]? = some x.2) t20 (enters_of Tryz.func153 (by kernel_rfl) rfl)
  (yDs (s:=s) (l:=fs) (by omega) fun W' M => ⟨M.keep c9 (by simp; exact ⟨hb3,nm c9⟩),(yaE hF M hlF').sl yeI⟩) (fun _ => rfl) (by simp; omega)
  (fun pre W' => ∃ s':Sl,W'.heap[B3]? = some (.cells #[.slice s'.a s'.n s'.c] 24) ∧ Row W' (W.heap.size + 1) 3 1 yd4 s'.a s'.n s'.c ((pre.map (·.2)).foldl (yeD last) (lt,[])).2 ∧ yaX pP 9 hks hkb W' mb ((pre.map (·.2)).foldl (yeD last) (lt,[])).1 ∧ (∀ (j:Nat) y,pre[j]? = some y → fs[fs.length - 1 - j]? = some y.2) ∧ pre.length ≤ fs.length ∧ Mod [B3,mb] W W')
  ?im ?ip ?is ⟨ybM,c3,Row.nil ..,hm,by simp,by simp,(Mod.refl _).less (by simp)⟩ ?round ?done
 case im =>
  rintro pre W1 W2 ⟨s',hb,hr,hmm,hx,hpl,hM⟩ M
  exact ⟨s',M.keep0 hb,hr.keep0 M,hmm.keepM0 M,hx,hpl,(hM.trans M).less (by simp)⟩
 case ip =>
  rintro pre W1 l o rfl ⟨s',hb,hr,hmm,hx,hpl,hM⟩
  have M:=ydS W1 W.heap.size (.loop o)
  refine ⟨s',M.keep hb (by simp; omega),yaE hr M fun k hk hk' => ?_,hmm.keepM M (by simp; omega),hx,hpl,(hM.trans M).less fun z hz hlt => ?_⟩
  ·have:=(yaQ hr k hk').1; simp at hk; omega
  ·simp at hz ⊢
   rcases hz with h | h | h
   ·exact .inl h
   ·exact .inr h
   ·omega
 case is =>
  rintro pre W1 ⟨s',hb,hr,hmm,hx,hpl,hM⟩
  exact hM
 case round =>
  rintro pre ⟨xi,f⟩ W1 lp ⟨s',hb,hr,hmm,hx,hpl,hM⟩ hlen ⟨hxi,hxf⟩ hl
  simp only [yGl]
  have hMk:∀ {k:Nat} {o:Obj},W.heap[k]? = some o → k ≠ B3 → k ≠ mb → W1.heap[k]? = some o:=fun {k o} h h1 h2 => (hM.block k (ya3 h) (by simp; exact ⟨h1,h2⟩)).trans h
  have d0:=hMk c0 n0 (nm c0)
  have d1:=hMk c1 n1 (nm c1)
  have d2:=hMk c2 n2 (nm c2)
  have dc:=hMk hc nb (nm hc)
  have lW1:=hM.size
  have ll:=ya3 hl
  have hfm:f ∈ fs:=List.mem_of_getElem? hxf
  have hkl:=yrD (last:=last) (pre.map (·.2)) (lt,[])
  simp only [List.length_nil,List.length_map,Nat.zero_add] at hkl
  have hrs:∀ z,z < W.heap.size + 1 → z ∉ yaP s'.a:=fun z hz hz' => by have:=(yaQ hr z hz').1; omega
  have hsnoc:((pre ++ [(xi,f)]).map (·.2)).foldl (yeD last) (lt,[]) = yeD last ((pre.map (·.2)).foldl (yeD last) (lt,[])) f:=by rw [List.map_append,List.foldl_append]; rfl
  refine wpIn_mono (ym7 Tryz.wide_mixed (n:=63) (lp:=lp) ytQ (ids:=[0,1,2,3]) (f:=⟨[(1,.pointer (some ⟨B0,0,none⟩),some (0,0)),(3,.pointer (some ⟨B1,0,none⟩),some (1,0)),(5,.pointer (some ⟨B2,0,none⟩),some (2,0)),(7,.pointer (some ⟨B3,0,none⟩),some (3,0)),(21,.int .i64 xi,none),(22,.agg #[.int .i64 f.off,.bool f.r.hk,.string f.r.key,.bool f.r.tomb,.string f.r.val],none)],_⟩)
   (s:=⟨[⟨B0,84,[.pointer (some ⟨b,0,none⟩)],false⟩,⟨B1,217,[.map (some mb)],false⟩,⟨B2,3,[.int .i64 i],false⟩,⟨B3,24,[.slice s'.a s'.n s'.c],false⟩],W1,[],[],true⟩)
   (R:=fun W2 _ W' => W'.heap[W.heap.size]? = W2.heap[W.heap.size]? ∧ ∃ s':Sl,W'.heap[B3]? = some (.cells #[.slice s'.a s'.n s'.c] 24) ∧ Row W' (W.heap.size + 1) 3 1 yd4 s'.a s'.n s'.c (((pre ++ [(xi,f)]).map (·.2)).foldl (yeD last) (lt,[])).2 ∧ yaX pP 9 hks hkb W' mb (((pre ++ [(xi,f)]).map (·.2)).foldl (yeD last) (lt,[])).1 ∧ (∀ (j:Nat) y,(pre ++ [(xi,f)])[j]? = some y → fs[fs.length - 1 - j]? = some y.2) ∧ (pre ++ [(xi,f)]).length ≤ fs.length ∧ Mod [B3,mb] W W')
   (Eq.mpr (yfE ..) ?cond) (yGj ?hat (by simpa using hnd) (yDp ?htg)) (yGk ?hrel rfl (by simp [hsz]))) ?post
  case hat =>
   intro k tb hk
   match k,hk with
   | 0,hk => simp at hk; subst hk; exact d0
   | 1,hk => simp at hk; subst hk; exact d1
   | 2,hk => simp at hk; subst hk; exact d2
   | 3,hk => simp at hk; subst hk; exact hb
   | k + 4,hk => simp at hk
  case htg =>
   intro p hp k off e
   simp only [List.mem_cons,List.not_mem_nil,or_false] at hp
   rcases hp with rfl | rfl | rfl | rfl | rfl | rfl <;> simp at e
   all_goals (obtain ⟨rfl,rfl⟩:=e; exact ⟨_,rfl,rfl⟩)
  case hrel =>
   intro p hp
   simp only [List.mem_cons,List.not_mem_nil,or_false] at hp
   rcases hp with rfl | rfl | rfl | rfl | rfl | rfl
   ·rw [ydG,if_neg (by simp),ydG,if_neg (by simp)]; exact t1
   ·rw [ydG,if_neg (by simp),ydG,if_neg (by simp)]; exact t3
   ·rw [ydG,if_neg (by simp),ydG,if_neg (by simp)]; exact t5
   ·rw [ydG,if_neg (by simp),ydG,if_neg (by simp)]; exact t7
   ·rw [ydG,if_neg (by simp),ydG,if_pos ⟨rfl,by omega⟩]
   ·rw [ydG,if_pos ⟨rfl,by simp; omega⟩]
  case cond =>
   refine yLb hl dc hmm hr (by omega) (by omega) (fun z hz => ?_) (hrs mb (by omega)) (hrs _ (by omega)) (hky f hfm) hlast ?_
   ·have hz:z < W.heap.size ∧ z ≠ mb:=by
     simp only [List.mem_cons,List.not_mem_nil,or_false] at hz
     rcases hz with rfl | rfl | rfl | rfl
     ·exact ⟨k0,nm c0⟩
     ·exact ⟨k1,nm c1⟩
     ·exact ⟨k2,nm c2⟩
     ·exact ⟨k3,nm c3⟩
    exact ⟨by omega,hrs z (by omega),hz.2,by omega⟩
   ·intro w2 w3 W' s2 mem M2 M3 M' hb' hr' hm'
    have z2:=M2.size
    have z3:=M3.size
    refine ⟨M'.block _ (by omega) ?_,s2,hb',by rw [hsnoc]; exact hr',by rw [hsnoc]; exact hm',?_,by simp; omega,?_⟩
    ·simp only [List.mem_cons,not_or]
     exact ⟨by omega,by omega,hrs _ (by omega)⟩
    ·intro j y hy
     by_cases hj:j < pre.length
     ·rw [List.getElem?_append_left hj] at hy; exact hx j y hy
     ·rw [List.getElem?_append_right (by omega)] at hy
      have hje:j - pre.length = 0:=by
       have:=(List.getElem?_eq_some_iff.1 hy).1; simp at this; omega
      rw [hje] at hy
      simp at hy; subst hy
      rw [show j = pre.length by omega]; exact hxf
    ·refine ((((hM.trans M2).trans M3).trans M')).less fun z hz hlt => ?_
     have hzr:=hrs z (by omega)
     simp only [List.mem_cons,List.not_mem_nil,or_false]
     by_cases e1:z = B3
     ·exact .inl e1
     ·by_cases e2:z = mb
      ·exact .inr e2
      ·exfalso
       have e3:z ≠ W.heap.size:=by omega
       simp [e1,e2,e3,hzr] at hz
  case post =>
   intro e a1 W2 hq
   cases e with
   | normal =>
    obtain ⟨q1,q2⟩:=hq
    refine ⟨q1,fun lp' => wpIn_mono (q2 lp') ?_⟩
    rintro e a' W' ⟨rfl,mem,h3,h4⟩
    exact ⟨rfl,by rw [h3]; exact World.putObj_heap_same (ya3 q1),h4⟩
   | _ => exact hq.elim
 case done =>
  rintro W1 xs hxs ⟨s',hb,hr,hmm,hx,hpl,hM⟩
  have exs:xs.map (·.2) = fs.reverse:=by
   apply List.ext_getElem?
   intro j
   rw [List.getElem?_map]
   by_cases hj:j < xs.length
   ·obtain ⟨y,hy⟩:∃ y,xs[j]? = some y:=⟨_,List.getElem?_eq_getElem hj⟩
    rw [hy,List.getElem?_reverse (by omega),hx j y hy]; rfl
   ·rw [List.getElem?_eq_none (by omega),List.getElem?_eq_none (by simp; omega)]; rfl
  rw [exs] at hr hmm
  exact hQ W1 s' hb (hr.rebase (by omega)) hmm hM
end Go.Proofs.YtkepmmocldnnfaaGreat
namespace Go.Proofs.YtkepmmocldnnfaaGreat
open Go Go.RowKit
set_option linter.all false
section
set_option maxRecDepth 100000
variable {R:VWP} {w w0:World} {m:Nat} {i0 i1 i2 i3 i4 i5 i6 i7 i8 i9 j0 j1 j2 j3 j4 j5 j6 j7 j8 j9 k0 k1 k2 k3 k4 k5 k6 k7 k8 k9 l0 l1 l2 l3 l4 l5 l6 l7 l8 l9:Int} {s0 s1 s2 s3 s4 s5 s6 s7 s8 s9 t0 t1 t2 t3 t4 t5 t6 t7 t8 t9:BA} {n0 n1 n2 n3 n4 n5 n6 n7 n8 n9 o0 o1 o2 o3 o4 o5 o6 o7 o8 o9 p0 p1 p2 p3 p4 p5 p6 p7 p8 p9:Nat} {q0 q1 q2 q3 q4 q5 q6 q7 q8 q9 r0 r1 r2 r3 r4 r5 r6 r7 r8 r9:OA} {B0 B1 B2 B3 B4 B5 B6 B7 B8 B9:Bool} {M0 M1 M2 M3:Option Nat} {V0 V1 V2 V3 V4 V5:Value} {A0 A1 A2:Addr}
def ygT (B0:Nat) (o0_0:Int) (B1:Nat) (o1_0_a:OA) (o1_0_n o1_0_c:Nat) (y6_0:OA) (R:List TB → World → Prop) (w:World):Prop :=
 ∀ w1,Adv [] [] w w1 →
 Calls pP 123 #[.pointer y6_0,.slice o1_0_a o1_0_n o1_0_c] w1 fun e w2 => ∃ x3,e = .returned (.int .i64 x3) ∧ yaG [B0,B1] w1 w2 ∧ (((.int .i64 o0_0):Value) = (.int .i64 o0_0)) ∧
 ∀ w4,Adv [B0] [] w2 w4 → w4.heap[B0]? = some (.cells #[(.int .i64 (IntKind.wrap .i64 (o0_0 + x3)))] 3) →
 w4.heap[B1]? = some (.cells #[.slice o1_0_a o1_0_n o1_0_c] 24) →
 R [⟨B0,3,[(.int .i64 (IntKind.wrap .i64 (o0_0 + x3)))],true⟩,⟨B1,24,[.slice o1_0_a o1_0_n o1_0_c],true⟩] w4
theorem yHL (B0:Nat) (o0_0:Int) (B1:Nat) (o1_0_a:OA) (o1_0_n o1_0_c:Nat) (y6_0:OA) (js:Nat → Value) (R:List TB → World → Prop) (w:World) :
 yk7 pP (yiT (ykU (yiT (code Tryz.f73) [0,1,0,1,1,1])) [1,1,0]) (fun _ s => ygB (ycI [0,1] s) fun s => R s.mem s.w) ⟨[(4,.pointer (some ⟨B0,0,none⟩),some (0,0)),(7,.pointer (some ⟨B1,0,none⟩),some (1,0)),(6,.pointer y6_0,none)],js⟩ ⟨[⟨B0,3,[.int .i64 o0_0],false⟩,⟨B1,24,[.slice o1_0_a o1_0_n o1_0_c],false⟩],w,[],[],true⟩ = ygT B0 o0_0 B1 o1_0_a o1_0_n o1_0_c y6_0 R w:=by kernel_rfl
end
end Go.Proofs.YtkepmmocldnnfaaGreat
namespace Go.Proofs.YtkepmmocldnnfaaGreat
open Go Go.RowKit Go.Maps Go.Sort Go.Shelf Go.MapKept Go.WideElems Go.WideShapes
set_option linter.unusedVariables false
set_option linter.unusedSimpArgs false
theorem yGm (w:World) (b:Nat):Mod [] w ((((w.alloc (Obj.cells #[Value.pointer (some ⟨b,0,none⟩)] 84)).alloc (Obj.map #[] 0)).alloc (Obj.cells #[Value.map (some (w.heap.size + 1))] 217)).alloc (Obj.cells #[Value.int IntKind.i64 0] 3)) ∧ ((((w.alloc (Obj.cells #[Value.pointer (some ⟨b,0,none⟩)] 84)).alloc (Obj.map #[] 0)).alloc (Obj.cells #[Value.map (some (w.heap.size + 1))] 217)).alloc (Obj.cells #[Value.int IntKind.i64 0] 3)).heap.size = w.heap.size + 4 ∧ ((((w.alloc (Obj.cells #[Value.pointer (some ⟨b,0,none⟩)] 84)).alloc (Obj.map #[] 0)).alloc (Obj.cells #[Value.map (some (w.heap.size + 1))] 217)).alloc (Obj.cells #[Value.int IntKind.i64 0] 3)).heap[w.heap.size]? = some (.cells #[.pointer (some ⟨b,0,none⟩)] 84) ∧ ((((w.alloc (Obj.cells #[Value.pointer (some ⟨b,0,none⟩)] 84)).alloc (Obj.map #[] 0)).alloc (Obj.cells #[Value.map (some (w.heap.size + 1))] 217)).alloc (Obj.cells #[Value.int IntKind.i64 0] 3)).heap[w.heap.size + 1]? = some (.map #[] 0) ∧ ((((w.alloc (Obj.cells #[Value.pointer (some ⟨b,0,none⟩)] 84)).alloc (Obj.map #[] 0)).alloc (Obj.cells #[Value.map (some (w.heap.size + 1))] 217)).alloc (Obj.cells #[Value.int IntKind.i64 0] 3)).heap[w.heap.size + 1 + 1]? = some (.cells #[.map (some (w.heap.size + 1))] 217) ∧ ((((w.alloc (Obj.cells #[Value.pointer (some ⟨b,0,none⟩)] 84)).alloc (Obj.map #[] 0)).alloc (Obj.cells #[Value.map (some (w.heap.size + 1))] 217)).alloc (Obj.cells #[Value.int IntKind.i64 0] 3)).heap[w.heap.size + 1 + 1 + 1]? = some (.cells #[.int .i64 0] 3):=by
 have MA:∀ (x:World) (o:Obj),Mod [] x (x.alloc o):=fun x o => Mod.of_below ((Below.refl _ _).alloc (Nat.le_refl _) _)
 refine ⟨(((MA _ _).go0 (MA _ _) (by simp)).go0 (MA _ _) (by simp)).go0 (MA _ _) (by simp),by simp,?_,?_,?_,?_⟩
 ·exact (MA _ _).keep0 ((MA _ _).keep0 ((MA _ _).keep0 (World.alloc_heap_new w _)))
 ·refine (MA _ _).keep0 ((MA _ _).keep0 ?_)
  have:=World.alloc_heap_new (w.alloc (Obj.cells #[Value.pointer (some ⟨b,0,none⟩)] 84)) (Obj.map #[] 0)
  rwa [World.size_alloc] at this
 ·refine (MA _ _).keep0 ?_
  have:=World.alloc_heap_new ((w.alloc (Obj.cells #[Value.pointer (some ⟨b,0,none⟩)] 84)).alloc (Obj.map #[] 0)) (Obj.cells #[Value.map (some (w.heap.size + 1))] 217)
  rwa [World.size_alloc,World.size_alloc] at this
 ·have:=World.alloc_heap_new (((w.alloc (Obj.cells #[Value.pointer (some ⟨b,0,none⟩)] 84)).alloc (Obj.map #[] 0)).alloc (Obj.cells #[Value.map (some (w.heap.size + 1))] 217)) (Obj.cells #[Value.int IntKind.i64 0] 3)
  rwa [World.size_alloc,World.size_alloc,World.size_alloc] at this
theorem Mod.keep' {S:List Nat} {w w':World} {k:Nat} {o:Obj} (M:Mod S w w') (h:w.heap[k]? = some o) (hk:k ∉ S):w'.heap[k]? = some o:=(M.block k (ya3 h) hk).trans h
theorem Mod.keep0' {w w':World} {k:Nat} {o:Obj} (M:Mod [] w w') (h:w.heap[k]? = some o):w'.heap[k]? = some o:=(M.block k (ya3 h) (by simp)).trans h
theorem yLd (W:World) (x:Int) (k:Nat) (lp:Loop) (hk:k < W.heap.size):Mod [k] W ((W.alloc (Obj.cells #[Value.int IntKind.i64 x] 3)).putObj k (Obj.loop lp)) ∧ ((W.alloc (Obj.cells #[Value.int IntKind.i64 x] 3)).putObj k (Obj.loop lp)).heap.size = W.heap.size + 1 ∧ ((W.alloc (Obj.cells #[Value.int IntKind.i64 x] 3)).putObj k (Obj.loop lp)).heap[W.heap.size]? = some (.cells #[.int .i64 x] 3) ∧ ((W.alloc (Obj.cells #[Value.int IntKind.i64 x] 3)).putObj k (Obj.loop lp)).heap[k]? = some (.loop lp):=by
 have M1:Mod [] W (W.alloc (Obj.cells #[Value.int IntKind.i64 x] 3)):=Mod.of_below ((Below.refl _ _).alloc (Nat.le_refl _) _)
 have z1:(W.alloc (Obj.cells #[Value.int IntKind.i64 x] 3)).heap.size = W.heap.size + 1:=by simp
 have M2:=ydS (W.alloc (Obj.cells #[Value.int IntKind.i64 x] 3)) k (Obj.loop lp)
 refine ⟨(M1.trans M2).less fun z hz _ => by simpa using hz,by simp [World.putObj],M2.keep (World.alloc_heap_new W _) (by simp; omega),World.putObj_heap_same (by omega)⟩
theorem yLe (W:World):Mod [] W (W.alloc (Obj.cells #[Value.slice none 0 0] 24)) ∧ (W.alloc (Obj.cells #[Value.slice none 0 0] 24)).heap.size = W.heap.size + 1 ∧ (W.alloc (Obj.cells #[Value.slice none 0 0] 24)).heap[W.heap.size]? = some (.cells #[.slice none 0 0] 24) :=
 ⟨Mod.of_below ((Below.refl _ _).alloc (Nat.le_refl _) _),by simp,World.alloc_heap_new W _⟩
theorem yyF {last:Bool}:∀ (l:List PFound) (a:LtL × List Int) (x:Int),x ∈ (l.foldl (yeD last) a).2 → x ∈ a.2 ∨ ∃ f ∈ l,x = f.off
 | [],a,x,h => .inl h
 | f :: r,a,x,h => by
  rcases yyF r (yeD last a f) x h with h | ⟨g,hg,e⟩
  ·have h:x ∈ (if yk8 last a.1 f = true then a.2 ++ [f.off] else a.2):=h
   split at h
   ·rcases List.mem_append.1 h with h | h
    ·exact .inl h
    ·simp at h; exact .inr ⟨f,by simp,h⟩
   ·exact .inl h
  ·exact .inr ⟨g,by simp [hg],e⟩
theorem ytR:yyE 63 (yiT (ykU (yiT (code Tryz.f73) [0,1,0,1,1,1])) [1,1,0]) = true:=by kernel_rfl
theorem yLf (w:World):(Instr.makeMap 217 none).run pP w = .ok (.map (some w.heap.size)) (w.alloc (.map #[] 0)):=rfl
def ym9 (N:Nat) (a:LtL × Int × List SegS) (x:Int × SegS):LtL × Int × List SegS :=
 ((x.2.l.reverse.foldl (yeD (x.1 == IntKind.wrap .i64 ((N:Int) - 1))) (a.1,[])).1,
  IntKind.wrap .i64 (a.2.1 + ((x.2.l.length:Int) - ((yi0 (x.2.l.reverse.foldl (yeD (x.1 == IntKind.wrap .i64 ((N:Int) - 1))) (a.1,[])).2 x.2.l).length:Int))),
  a.2.2.set x.1.toNat ⟨x.2.base,x.2.next,yi0 (x.2.l.reverse.foldl (yeD (x.1 == IntKind.wrap .i64 ((N:Int) - 1))) (a.1,[])).2 x.2.l⟩)
def yAu {α:Type} (L:List α):List (Int × α):=(L.zipIdx.map fun p => ((p.2:Int),p.1)).reverse
theorem yDt {α:Type} {L:List α} {j:Nat} {x:α} (hj:j < L.length) (h:L[L.length - 1 - j]? = some x):(yAu L)[j]? = some (((L.length - 1 - j:Nat):Int),x):=by
 unfold yAu
 rw [List.getElem?_reverse (by simpa using hj),List.getElem?_map,List.length_map,List.length_zipIdx,List.getElem?_zipIdx,h]
 simp
def ynY (L:List SegS):LtL × Int × List SegS:=(yAu L).foldl (ym9 L.length) ([],0,L)
structure CompI (w6:World) (nb mb:Nat) (qs:List SegV) (pre:List (Int × SegV)) (qs':List SegV) (W:World):Prop where
 n:W.heap[nb]? = some (.cells #[.int .i64 ((pre.map fun x => (x.1,x.2.s)).foldl (ym9 qs.length) ([],0,qs.map (·.s))).2.1] 3)
 lt:yaX pP 9 hks hkb W mb ((pre.map fun x => (x.1,x.2.s)).foldl (ym9 qs.length) ([],0,qs.map (·.s))).1
 seg:∀ q ∈ qs',ycX W q.p q.s.base q.s.next q.s.l q.F
 ap:qs'.Pairwise fun a b => ye1 a.F b.F
 ps:qs'.map (·.p) = qs.map (·.p)
 ss:qs'.map (·.s) = ((pre.map fun x => (x.1,x.2.s)).foldl (ym9 qs.length) ([],0,qs.map (·.s))).2.2
 rest:∀ j,j < qs.length - pre.length → qs'[j]? = qs[j]?
 fp:∀ q ∈ qs',∀ z ∈ q.F,z ∈ qs.flatMap (·.F) ∨ w6.heap.size + 2 ≤ z
 done:∀ (j:Nat) y,pre[j]? = some y → y.1 = ((qs.length - 1 - j:Nat):Int) ∧ qs[qs.length - 1 - j]? = some y.2
 len:pre.length ≤ qs.length
 mod:Mod (nb :: mb :: qs.flatMap (·.F)) w6 W
theorem CompI.keep0 {w6:World} {nb mb:Nat} {qs:List SegV} {pre:List (Int × SegV)} {qs':List SegV} {W W':World} (h:CompI w6 nb mb qs pre qs' W) (M:Mod [] W W'):CompI w6 nb mb qs pre qs' W' :=
 ⟨M.keep0 h.n,h.lt.keepM0 M,fun q hq => (h.seg q hq).keep0 M,h.ap,h.ps,h.ss,h.rest,h.fp,h.done,h.len,(h.mod.trans M).less fun z hz _ => by simpa only [List.append_nil] using hz⟩
section
attribute [local go_sem] Oper.semAt_some yLf
set_option maxRecDepth 100000 in
set_option maxHeartbeats 4000000 in
theorem yAv {w:World} {b:Nat} {room:Int} {L:List SegS} {F:List Nat} (h:ydR w b room L F) (ok:LogOk room L) (hl:L.length ≤ 100000) (hky:∀ s ∈ L,∀ f ∈ s.l,f.r.key.size ≤ maxLen) :
  CallsIn Fence.wide 2 pP 73 #[.pointer (some ⟨b,0,none⟩)] w fun e w' => e = .returned (.int .i64 (ynY L).2.1) ∧ ∃ F',ydR w' b room (ynY L).2.2 F' ∧ Mod F w w' ∧ ybJ w F F':=by
 obtain ⟨sl,qs,hc,hR,hS,hP,rfl,rfl⟩:=h
 have lb:=yaL hc
 have hro:Fence.wide.round = none:=rfl
 refine callsIn_of_wp_marks Tryz.func73 rfl trivial ?_ hro
 simp only [Tryz.ntmps73,List.size_toArray,List.length_cons,List.length_nil,Nat.reduceAdd,Nat.reduceSub,Array.replicate_succ,Array.replicate_zero,List.push_toArray,List.append_toArray,List.nil_append,List.cons_append]
 have hcell:((((w.alloc (Obj.cells #[Value.pointer (some ⟨b,0,none⟩)] 84)).alloc (Obj.map #[] 0)).alloc (Obj.cells #[Value.map (some (w.heap.size + 1))] 217)).alloc (Obj.cells #[Value.int IntKind.i64 0] 3)).cell? ⟨b,1,none⟩ = some (.slice sl.a sl.n sl.c):=by rw [yaY ((yGm w b).1.keep0 hc)]; rfl
 gi_wp2
 have hW:=yGm w b
 clear hcell
 generalize ((((w.alloc (Obj.cells #[Value.pointer (some ⟨b,0,none⟩)] 84)).alloc (Obj.map #[] 0)).alloc (Obj.cells #[Value.map (some (w.heap.size + 1))] 217)).alloc (Obj.cells #[Value.int IntKind.i64 0] 3)) = W0 at hW ⊢
 obtain ⟨hM0,z0,c0,cm,c1,cn⟩:=hW
 refine ⟨trivial,(callsIn_wide.2 (yEW sl W0)).mono ?_⟩
 rintro _ w6 ⟨b6,rfl,f6,l6,h6,M6⟩
 gi_wp2
 have s6:=M6.size
 have N6:=hM0.go0 M6 (by simp)
 have hn:=hR.1
 have hqF:∀ z ∈ qs.flatMap (·.F),z < w.heap.size:=fun z hz => by
  obtain ⟨q,hq,hz⟩:=List.mem_flatMap.1 hz
  exact (hS q hq).lt z hz
 have hSl:∀ z ∈ (w.heap.size + 1 + 1 + 1) :: (w.heap.size + 1) :: qs.flatMap (·.F),z ∉ yaP sl.a:=fun z hz hz' => by
  have hzw:=(yaQ hR z hz').2
  rcases List.mem_cons.1 hz with rfl | hz
  ·omega
  rcases List.mem_cons.1 hz with rfl | hz
  ·omega
  obtain ⟨q,hq,hz⟩:=List.mem_flatMap.1 hz
  obtain ⟨_,_,cur,hcur⟩:=yaS hR z hz'
  rcases (hS q hq).types z hz _ _ hcur with e | e | e <;> exact absurd e (by decide)
 refine yhR (S:=(w.heap.size + 1 + 1 + 1) :: (w.heap.size + 1) :: qs.flatMap (·.F)) (N:=qs.length) (encs:=fun x:Int × SegV => #[.int .i64 x.1,.pointer (some ⟨x.2.p,0,none⟩)]) (X:=fun k x W => x.1 = ((qs.length - 1 - k:Nat):Int) ∧ qs[qs.length - 1 - k]? = some x.2) rfl (enters_of Tryz.func152 (by kernel_rfl) rfl)
  (yDr (s:=sl) (l:=qs) (by simp at hl; omega) fun W' M => ⟨M.keep h6 (fun hz => by
   rcases List.mem_cons.1 hz with h | hz
   ·omega
   rcases List.mem_cons.1 hz with h | hz
   ·omega
   have:=hqF _ hz; omega),(yaE ((hR.keep0 N6)) M hSl).sl yeW⟩) (fun _ => rfl) (fun z hz => by
   rcases List.mem_cons.1 hz with rfl | hz
   ·omega
   rcases List.mem_cons.1 hz with rfl | hz
   ·omega
   have:=hqF _ hz; omega)
  (fun pre W => ∃ qs',CompI w6 (w.heap.size + 1 + 1 + 1) (w.heap.size + 1) qs pre qs' W)
  ?im ?ip ?is ⟨qs,M6.keep0 cn,yaX.of_new (M6.keep0 cm),fun q hq => (hS q hq).keep0 N6,hP,rfl,rfl,fun _ _ => rfl,fun q hq z hz => .inl (List.mem_flatMap.2 ⟨q,hq,hz⟩),by simp,by simp,(Mod.refl _).less (by simp)⟩ ?round ?done
 case im =>
  rintro pre W W' ⟨qs',h⟩ M
  exact ⟨qs',h.keep0 M⟩
 case ip =>
  rintro pre W l o rfl ⟨qs',h⟩
  have M:=ydS W (w6.heap.size + 1) (.loop o)
  refine ⟨qs',M.keep h.n (by simp; omega),h.lt.keepM M (by simp; omega),fun q hq => (h.seg q hq).keep M fun z hz hz' => ?_,h.ap,h.ps,h.ss,h.rest,h.fp,h.done,h.len,(h.mod.trans M).less fun z hz hlt => ?_⟩
  ·simp at hz
   rcases h.fp q hq z hz' with hf | hf
   ·have:=hqF z hf; omega
   ·omega
  ·rcases List.mem_append.1 hz with hz | hz
   ·exact hz
   ·simp at hz; omega
 case is =>
  rintro pre W ⟨qs',h⟩
  exact h.mod
 case round =>
  rintro pre ⟨xi,q0⟩ W lp ⟨qs',h⟩ hlen ⟨hxi,hx⟩ hlo hD
  simp only [yGl,List.setIfInBounds_toArray,List.set_cons_succ,List.set_cons_zero]
  subst hxi
  gi_wp2
  have hkW:w6.heap.size + 1 < W.heap.size:=ya3 hlo
  refine ⟨(Array.getElem?_eq_some_iff.1 ((Mod.of_below ((Below.refl _ _).alloc (Nat.le_refl _) _):Mod [] W (W.alloc _)).keep0' hlo)).2,fun lp' => ?_⟩
  have hW1:=yLd W ((qs.length - 1 - pre.length:Nat):Int) (w6.heap.size + 1) lp' hkW
  generalize ((W.alloc (Obj.cells #[Value.int IntKind.i64 ((qs.length - 1 - pre.length:Nat):Int)] 3)).putObj (w6.heap.size + 1) (Obj.loop lp')) = W1 at hW1 ⊢
  obtain ⟨M1,z1,ci,hl1⟩:=hW1
  gi_wp2
  have hW2:=yLe W1
  generalize W1.alloc (Obj.cells #[Value.slice none 0 0] 24) = W2 at hW2 ⊢
  obtain ⟨M2,z2,ck⟩:=hW2
  rw [z1] at ck
  have hmS:=h.mod
  have sW:=hmS.size
  have hq0:qs'[qs.length - 1 - pre.length]? = some q0:=by rw [h.rest _ (by omega)]; exact hx
  have hq0m:=List.mem_of_getElem? hq0
  have hq0q:=List.mem_of_getElem? hx
  have hpl:=h.len
  have hfpk:∀ q ∈ qs',∀ z ∈ q.F,z ≠ w6.heap.size + 1:=fun q hq z hz e => by
   rcases h.fp q hq z hz with hf | hf
   ·have:=hqF z hf; omega
   ·omega
  have ok0:SegOk room q0.s:=ok.segs q0.s (List.mem_map.2 ⟨q0,hq0q,rfl⟩)
  have hr64:=ok.r2
  have hl64:=ok0.len
  have hseg2:=((h.seg q0 hq0m).keep M1 (fun z hz hz' => by simp at hz; exact hfpk q0 hq0m z hz' hz)).keep0 M2
  refine ⟨trivial,rfl,(CallsIn.inRound _ (callsIn_wide.2 (yCu hseg2 (by omega)))).mono ?_⟩
  rintro _ w7 ⟨_,rfl,sA,rfl,hA7,M7⟩
  gi_wp2
  refine ⟨trivial,rfl,(CallsIn.inRound _ (callsIn_wide.2 (yEX sA w7))).mono ?_⟩
  rintro _ w8 ⟨b9,rfl,f9,l9,h9,M8⟩
  gi_wp2
  have z7:=M7.size
  have z8:=M8.size
  have M18:Mod [] W1 w8:=(M2.go0 M7 (by simp)).go0 M8 (by simp)
  have hnS:∀ z,z < w.heap.size → (∀ q ∈ qs,z ∉ q.F) → z ∉ (w.heap.size + 1 + 1 + 1) :: (w.heap.size + 1) :: qs.flatMap (·.F):=fun z hz hq hz' => by
   rcases List.mem_cons.1 hz' with e | hz'
   ·omega
   rcases List.mem_cons.1 hz' with e | hz'
   ·omega
   obtain ⟨q,hqm,hzq⟩:=List.mem_flatMap.1 hz'
   exact hq q hqm hzq
  have hbq:∀ q ∈ qs,b ∉ q.F:=fun q hq hz => by
   rcases (hS q hq).types b hz _ _ hc with e | e | e <;> exact absurd e (by decide)
  have up:∀ {k:Nat} {o:Obj},w6.heap[k]? = some o → k ∉ (w.heap.size + 1 + 1 + 1) :: (w.heap.size + 1) :: qs.flatMap (·.F) → k < w6.heap.size → w8.heap[k]? = some o:=fun {k o} hk hkS hkl =>
   M18.keep0' ((M1.block k (by omega) (by simp; omega)).trans ((hmS.block k (by omega) hkS).trans hk))
  have hge:∀ z,w.heap.size ≤ z → z ≠ w.heap.size + 1 + 1 + 1 → z ≠ w.heap.size + 1 → z ∉ (w.heap.size + 1 + 1 + 1) :: (w.heap.size + 1) :: qs.flatMap (·.F):=fun z h1 h2 h3 hz => by
   rcases List.mem_cons.1 hz with e | hz
   ·exact h2 e
   rcases List.mem_cons.1 hz with e | hz
   ·exact h3 e
   have:=hqF z hz; omega
  have e0:=up (M6.keep0 c0) (hge _ (by omega) (by omega) (by omega)) (by omega)
  have e1:=up (M6.keep0 c1) (hge _ (by omega) (by omega) (by omega)) (by omega)
  have eb:=up (N6.keep0 hc) (hnS b lb hbq) (by omega)
  have en:w8.heap[w.heap.size + 1 + 1 + 1]? = _:=M18.keep0' ((M1.block _ (by omega) (by simp; omega)).trans h.n)
  have em:=(h.lt.keepM M1 (by simp; omega)).keepM0 M18
  refine yLc (b:=b) (mb:=w.heap.size + 1) (B0:=w.heap.size) (B1:=w.heap.size + 1 + 1) (B2:=W.heap.size) (B3:=W.heap.size + 1) (b9:=b9) (s:=sA) (sl:=sl) (fs:=q0.s.l) (last:=(((qs.length - 1 - pre.length:Nat):Int) == IntKind.wrap .i64 ((qs.length:Int) - 1))) (M18.keep0' hl1) rfl rfl rfl rfl rfl rfl e0 e1 (M18.keep0 ci) ((M7.go0 M8 (by simp)).keep0 ck) h9 ((hA7.keep0 M8).rebase (Nat.zero_le _)) (by omega) (fun f hf => hky q0.s (List.mem_map.2 ⟨q0,hq0q,rfl⟩) f hf) eb em (by simp; omega) (by omega) (by rw [hn]) ?_
  intro W' s' hb' hr' hm' hM'
  have z':=hM'.size
  have en':=hM'.keep en (by simp; omega)
  gi_wp2
  have hsnoc:((pre ++ [(((qs.length - 1 - pre.length:Nat):Int),q0)]).map fun x => (x.1,x.2.s)).foldl (ym9 qs.length) ([],0,qs.map (·.s)) = ym9 qs.length ((pre.map fun x => (x.1,x.2.s)).foldl (ym9 qs.length) ([],0,qs.map (·.s))) (((qs.length - 1 - pre.length:Nat):Int),q0.s):=by rw [List.map_append,List.foldl_append]; rfl
  have hss:=h.ss
  generalize (pre.map fun x => (x.1,x.2.s)).foldl (ym9 qs.length) ([],0,qs.map (·.s)) = st at en' hr' hm' hsnoc hss
  have hFl:∀ q ∈ qs',∀ z ∈ q.F,z < W.heap.size:=fun q hq => (h.seg q hq).lt
  have hFm:∀ q ∈ qs',∀ z ∈ q.F,z ≠ w.heap.size + 1 ∧ z ≠ w.heap.size + 1 + 1 + 1 ∧ z ≠ w6.heap.size:=fun q hq z hz => by
   rcases h.fp q hq z hz with hf | hf
   ·have:=hqF z hf; omega
   ·omega
  obtain ⟨RR,hRR⟩:∃ RR:List TB → World → Prop,RR = fun _ W2 => W2.heap[w6.heap.size + 1]? = some (.loop lp') ∧ W2.heap[w6.heap.size]? = W.heap[w6.heap.size]? ∧ ∃ qs2,CompI w6 (w.heap.size + 1 + 1 + 1) (w.heap.size + 1) qs (pre ++ [(((qs.length - 1 - pre.length:Nat):Int),q0)]) qs2 W2:=⟨_,rfl⟩
  refine wpIn_mono (yDo Tryz.wide_mixed (n:=63) (ids:=[0,1]) ytR (f:=⟨[(4,.pointer (some ⟨w.heap.size + 1 + 1 + 1,0,none⟩),some (0,0)),(7,.pointer (some ⟨W.heap.size + 1,0,none⟩),some (1,0)),(6,.pointer (some ⟨q0.p,0,none⟩),none)],_⟩)
   (s:=⟨[⟨w.heap.size + 1 + 1 + 1,3,[.int .i64 st.2.1],false⟩,⟨W.heap.size + 1,24,[.slice s'.a s'.n s'.c],false⟩],W',[],[],true⟩)
   (R:=RR)
   (Eq.mpr (yHL ..) ?cond) (yGj ?hat (by simp; omega) (yDp ?htg)) (yGk ?hrel rfl rfl)) ?post
  case hat =>
   intro k tb hk
   match k,hk with
   | 0,hk => simp at hk; subst hk; exact en'
   | 1,hk => simp at hk; subst hk; exact hb'
   | k + 2,hk => simp at hk
  case htg =>
   intro p hp k off e
   simp only [List.mem_cons,List.not_mem_nil,or_false] at hp
   rcases hp with rfl | rfl | rfl <;> simp at e
   all_goals (obtain ⟨rfl,rfl⟩:=e; exact ⟨_,rfl,rfl⟩)
  case hrel =>
   intro p hp
   simp only [List.mem_cons,List.not_mem_nil,or_false] at hp
   rcases hp with rfl | rfl | rfl <;> rfl
  case cond =>
   intro wa Aa
   have za:=Aa.mod.size
   have segUp:∀ q ∈ qs',ycX wa q.p q.s.base q.s.next q.s.l q.F:=fun q hq =>
    (((((h.seg q hq).keep M1 (fun z hz hz' => by simp at hz; exact hfpk q hq z hz' hz)).keep0 M18).keep hM' (fun z hz hz' => by
     have h1:=hFl q hq z hz'
     have h2:=hFm q hq z hz'
     simp at hz; omega)).keep0 Aa.mod)
   have hkl:=yrD (last:=(((qs.length - 1 - pre.length:Nat):Int) == IntKind.wrap .i64 ((qs.length:Int) - 1))) q0.s.l.reverse (st.1,[])
   have hs64:∀ y ∈ q0.s.l,s64 y.off:=fun y hy => by
    have h1:=ok0.off y hy
    have h2:=ok0.lo
    have h3:=ok0.hi
    unfold s64; omega
   refine (yzG (segUp q0 hq0m) (by omega) ((hr'.keep0 Aa.mod).sl yeV) (by simp only [List.length_reverse,List.length_nil,Nat.zero_add] at hkl; omega) (fun x hx => by
    rcases yyF _ _ x hx with hx | ⟨f,hf,rfl⟩
    ·cases hx
    ·exact hs64 f (List.mem_reverse.1 hf)) hs64).mono ?_
   rintro _ wb ⟨rfl,F',hsb,Mb,Gb⟩
   have zb:=Mb.size
   have hF':∀ z ∈ F',z ∈ q0.F ∨ wa.heap.size ≤ z:=Gb
   refine ⟨_,rfl,yaG.of Mb fun z hz _ hz' => ?_,rfl,?_⟩
   ·have h1:=hFl q0 hq0m z hz'
    have h2:=hFm q0 hq0m z hz'
    simp at hz; omega
   intro wc Ac hnc _
   rw [hRR]
   have fwd:∀ {k:Nat} {o:Obj},W'.heap[k]? = some o → (k ∉ q0.F) → k ≠ w.heap.size + 1 + 1 + 1 → wc.heap[k]? = some o:=fun {k o} hk h1 h2 => (Ac.mod.keep' (Mb.keep' (Aa.mod.keep0' hk) h1) (by simpa using h2))
   have hloop:W'.heap[w6.heap.size + 1]? = some (.loop lp'):=hM'.keep' (M18.keep0' hl1) (by simp; omega)
   have hD':W'.heap[w6.heap.size]? = W.heap[w6.heap.size]?:=(hM'.block _ (by omega) (by simp; omega)).trans ((M18.block _ (by omega) (by simp)).trans (M1.block _ hD (by simp)))
   refine ⟨fwd hloop (fun hz => hfpk q0 hq0m _ hz rfl) (by omega),?_,qs'.set (qs.length - 1 - pre.length) ⟨q0.p,⟨q0.s.base,q0.s.next,yi0 (q0.s.l.reverse.foldl (yeD (((qs.length - 1 - pre.length:Nat):Int) == IntKind.wrap .i64 ((qs.length:Int) - 1))) (st.1,[])).2 q0.s.l⟩,F'⟩,?_⟩
   ·rw [← hD']
    refine (Ac.mod.block _ (by omega) (by simp; omega)).trans ((Mb.block _ (by omega) fun hz => ?_).trans (Aa.mod.block _ (by omega) (by simp)))
    exact (hFm q0 hq0m _ hz).2.2 rfl
   ·have hiq:qs.length - 1 - pre.length < qs'.length:=(List.getElem?_eq_some_iff.1 hq0).1
    refine ⟨by rw [hsnoc]; exact hnc,by rw [hsnoc]; exact ((hm'.keepM0 Aa.mod).keepM Mb fun hz => (hFm q0 hq0m _ hz).1 rfl).keepM Ac.mod (by simp),fun x hx => ?_,yi2 (w:=wa) (fp:=fun x:SegV => x.F) h.ap hq0 (fun x hx => (segUp x hx).lt) hF',by refine (ykQ (f:=fun x:SegV => x.p) hq0 ?_).trans h.ps; rfl,by rw [hsnoc,List.map_set,hss]; rfl,fun j hj => ?_,fun x hx => ?_,fun j y hy => ?_,by simp; omega,?_⟩
    ·rcases yeC hx with rfl | ⟨j,hj,hxj⟩
     ·exact hsb.keep Ac.mod fun z hz hz' => by
       simp at hz; subst hz
       rcases hF' _ hz' with hz' | hz'
       ·exact (hFm q0 hq0m _ hz').2.1 rfl
       ·omega
     ·have hxm:=List.mem_of_getElem? hxj
      exact ((segUp x hxm).keep Mb fun z hz => yi1 (fp:=fun x:SegV => x.F) h.ap (fun e => hj e.symm) hq0 hxj z hz).keep Ac.mod fun z hz hz' => by
       simp at hz; subst hz
       exact (hFm x hxm _ hz').2.1 rfl
    ·rw [List.length_append,List.length_singleton] at hj
     rw [List.getElem?_set_ne (by omega)]
     exact h.rest j (by omega)
    ·rcases yeC hx with rfl | ⟨j,hj,hxj⟩
     ·intro z hz
      rcases hF' z hz with hz | hz
      ·exact h.fp q0 hq0m z hz
      ·exact .inr (by omega)
     ·exact h.fp x (List.mem_of_getElem? hxj)
    ·by_cases hj:j < pre.length
     ·rw [List.getElem?_append_left hj] at hy; exact h.done j y hy
     ·rw [List.getElem?_append_right (by omega)] at hy
      have hje:j - pre.length = 0:=by
       have:=(List.getElem?_eq_some_iff.1 hy).1; simp at this; omega
      rw [hje] at hy
      simp at hy; subst hy
      rw [show j = pre.length by omega]; exact ⟨rfl,hx⟩
    ·refine ((((((hmS.trans M1).trans M18).trans hM').trans Aa.mod).trans Mb).trans Ac.mod).less fun z hz hlt => ?_
     by_cases e3:z = w.heap.size + 1 + 1 + 1
     ·simp [e3]
     by_cases e1:z = w.heap.size + 1
     ·simp [e1]
     by_cases e2:z ∈ q0.F
     ·rcases h.fp q0 hq0m z e2 with hf | hf
      ·exact List.mem_cons_of_mem _ (List.mem_cons_of_mem _ hf)
      ·omega
     have e4:z ≠ w6.heap.size + 1:=by omega
     have e5:z ≠ W.heap.size + 1:=by omega
     simp only [List.mem_append,List.mem_cons,List.not_mem_nil,or_false,e3,e1,e2,e4,e5,false_or] at hz
     exact List.mem_cons_of_mem _ (List.mem_cons_of_mem _ hz)
  case post =>
   rintro e a' W2 ⟨rfl,mem,hr2⟩
   rw [hRR] at hr2
   obtain ⟨h1,h2,h3⟩:=hr2
   exact ⟨rfl,h1,by rw [h2]; exact Array.getElem?_eq_getElem _,h3⟩
 case done =>
  rintro W xs hxs ⟨qs',h⟩ hK
  have hxm:(xs.map fun x => (x.1,x.2.s)) = yAu (qs.map (·.s)):=by
   apply List.ext_getElem?
   intro j
   rw [List.getElem?_map]
   by_cases hj:j < xs.length
   ·obtain ⟨y,hy⟩:∃ y,xs[j]? = some y:=⟨_,List.getElem?_eq_getElem hj⟩
    obtain ⟨e1,e2⟩:=h.done j y hy
    rw [hy,yDt (L:=qs.map (·.s)) (x:=y.2.s) (by simp; omega) (by simp [e2])]
    simp [e1]
   ·rw [List.getElem?_eq_none (by omega),List.getElem?_eq_none (by simp [yAu]; omega)]; rfl
  have hcn:W.cell? ⟨w.heap.size + 1 + 1 + 1,0,none⟩ = some (.int .i64 (ynY (qs.map (·.s))).2.1):=by
   rw [yaY h.n,hxm]; simp [ynY]
  gi_wp2
  refine ⟨by simp,.inl ⟨_,_,rfl,run_takeDeferred hK,?_⟩⟩
  refine ⟨_,results_tmp rfl _ _ _,rfl,?_⟩
  have M:=ydS W w6.heap.size (.deferred none)
  have hss:=h.ss
  rw [hxm,show qs.length = (qs.map (·.s)).length by simp] at hss
  have sW:=h.mod.size
  have hFm:∀ q ∈ qs',∀ z ∈ q.F,z ≠ w6.heap.size:=fun q hq z hz => by
   rcases h.fp q hq z hz with hf | hf
   ·have:=hqF z hf; omega
   ·omega
  have hbS:b ∉ (w.heap.size + 1 + 1 + 1) :: (w.heap.size + 1) :: qs.flatMap (·.F):=fun hz => by
   rcases List.mem_cons.1 hz with e | hz
   ·omega
   rcases List.mem_cons.1 hz with e | hz
   ·omega
   obtain ⟨q,hq,hz⟩:=List.mem_flatMap.1 hz
   rcases (hS q hq).types b hz _ _ hc with e | e | e <;> exact absurd e (by decide)
  refine ⟨_,⟨sl,qs',M.keep' (h.mod.keep' (N6.keep0' hc) hbS) (by simp; omega),?_,fun q hq => (h.seg q hq).keep M fun z hz hz' => by simp at hz; exact hFm q hq z hz' hz,h.ap,hss.symm,rfl⟩,?_,?_⟩
  ·have hR':=yaE (yaE (hR.keep0 N6) h.mod hSl) M fun z hz hz' => by
    have:=(yaQ hR z hz').2
    simp at hz; omega
   refine hR'.same ?_
   have e:∀ l:List SegV,l.map yh4 = (l.map (·.p)).map fun p => [Value.pointer (some ⟨p,0,none⟩)]:=fun l => by rw [List.map_map]; rfl
   rw [e,e,h.ps]
  ·refine ((N6.trans h.mod).trans M).less fun z hz hlt => ?_
   simp only [List.nil_append,List.mem_append,List.mem_cons,List.not_mem_nil,or_false] at hz ⊢
   rcases hz with (e | e | hz) | e
   ·omega
   ·omega
   ·exact .inr (.inr hz)
   ·omega
  ·intro z hz
   rcases List.mem_cons.1 hz with rfl | hz
   ·exact .inl (by simp)
   rcases List.mem_append.1 hz with hz | hz
   ·exact .inl (by simp [hz])
   obtain ⟨q,hq,hz⟩:=List.mem_flatMap.1 hz
   rcases h.fp q hq z hz with hf | hf
   ·exact .inl (List.mem_cons_of_mem _ (List.mem_append_right _ hf))
   ·exact .inr (by omega)
end
theorem yrE {w:World} {b:Nat} {room:Int} {L:List SegS} {F:List Nat} (h:ydR w b room L F) (ok:LogOk room L) (hl:L.length ≤ 100000) (hky:∀ s ∈ L,∀ f ∈ s.l,f.r.key.size ≤ maxLen) :
 Calls pP 73 #[.pointer (some ⟨b,0,none⟩)] w fun e w' => e = .returned (.int .i64 (ynY L).2.1) ∧ ∃ F',ydR w' b room (ynY L).2.2 F' ∧ Mod F w w' ∧ ybJ w F F':=(callsIn_wide (n:=2)).1 (yAv h ok hl hky)
theorem yEY (offs:List Int) (l:List PFound):(yi0 offs l).Sublist l:=List.filter_sublist
theorem SegOk.less {room:Int} {s:SegS} (h:SegOk room s) {l:List PFound} (hs:l.Sublist s.l):SegOk room ⟨s.base,s.next,l⟩:=⟨h.lo,h.mid,h.hi,by have:=h.len; have:=hs.length_le; show (l.length:Int) ≤ room; omega,fun f hf => h.off f (hs.subset hf),h.inc.sublist hs⟩
def yLg (L L':List SegS):Prop:=L'.length = L.length ∧ ∀ (i:Nat) s',L'[i]? = some s' → ∃ s,L[i]? = some s ∧ s'.base = s.base ∧ s'.next = s.next ∧ s'.l.Sublist s.l
theorem yDu {L:List SegS} {N:Nat} {a:LtL × Int × List SegS} {x:Int × SegS} (ha:yLg L a.2.2) (hx:∃ i:Nat,x.1 = (i:Int) ∧ L[i]? = some x.2):yLg L (ym9 N a x).2.2:=by
 obtain ⟨i,e,hi⟩:=hx
 unfold ym9
 refine ⟨by simp only [List.length_set]; exact ha.1,fun j s' hj => ?_⟩
 dsimp only at hj
 rw [e,Int.toNat_natCast] at hj
 by_cases hij:i = j
 ·subst hij
  rw [List.getElem?_set_self (by have:=(List.getElem?_eq_some_iff.1 hi).1; have:=ha.1; omega)] at hj
  cases hj
  exact ⟨x.2,hi,rfl,rfl,yEY _ _⟩
 ·rw [List.getElem?_set_ne hij] at hj
  exact ha.2 j s' hj
theorem ytS (L:List SegS):yLg L (ynY L).2.2:=by
 have key:∀ (xs:List (Int × SegS)) (a:LtL × Int × List SegS),yLg L a.2.2 → (∀ x ∈ xs,∃ i:Nat,x.1 = (i:Int) ∧ L[i]? = some x.2) → yLg L (xs.foldl (ym9 L.length) a).2.2:=fun xs => by
  induction xs with
  | nil => exact fun a h _ => h
  | cons x r ih => exact fun a h hx => ih _ (yDu h (hx x (by simp))) fun y hy => hx y (by simp [hy])
 refine key _ _ ⟨rfl,fun i s' h => ⟨s',h,rfl,rfl,List.Sublist.refl _⟩⟩ fun x hx => ?_
 simp only [yAu,List.mem_reverse,List.mem_map] at hx
 obtain ⟨⟨s,i⟩,hp,rfl⟩:=hx
 exact ⟨i,rfl,by have:=List.mem_zipIdx_iff_getElem?.1 hp; simpa using this⟩
theorem LogOk.comp {room:Int} {L:List SegS} (h:LogOk room L):LogOk room (ynY L).2.2:=by
 have hs:=ytS L
 refine ⟨fun e => h.ne (List.eq_nil_of_length_eq_zero (by rw [← hs.1,e]; rfl)),h.r1,h.r2,fun s hm => ?_,fun i s t h1 h2 => ?_⟩
 ·obtain ⟨i,hi⟩:=List.getElem?_of_mem hm
  obtain ⟨s0,h0,e1,e2,e3⟩:=hs.2 i s hi
  have:=(h.segs s0 (List.mem_of_getElem? h0)).less e3
  rw [← e1,← e2] at this
  exact this
 ·obtain ⟨s0,h0,e1,e2,_⟩:=hs.2 i s h1
  obtain ⟨t0,h0',f1,f2,_⟩:=hs.2 (i + 1) t h2
  rw [f1,e2]
  exact h.chain i s0 t0 h0 h0'
end Go.Proofs.YtkepmmocldnnfaaGreat
namespace Go.Proofs.YtkepmmocldnnfaaGreat
open Go Go.RowKit
set_option linter.all false
section
set_option maxRecDepth 100000
variable {R:VWP} {w w0:World} {m:Nat} {i0 i1 i2 i3 i4 i5 i6 i7 i8 i9 j0 j1 j2 j3 j4 j5 j6 j7 j8 j9 k0 k1 k2 k3 k4 k5 k6 k7 k8 k9 l0 l1 l2 l3 l4 l5 l6 l7 l8 l9:Int} {s0 s1 s2 s3 s4 s5 s6 s7 s8 s9 t0 t1 t2 t3 t4 t5 t6 t7 t8 t9:BA} {n0 n1 n2 n3 n4 n5 n6 n7 n8 n9 o0 o1 o2 o3 o4 o5 o6 o7 o8 o9 p0 p1 p2 p3 p4 p5 p6 p7 p8 p9:Nat} {q0 q1 q2 q3 q4 q5 q6 q7 q8 q9 r0 r1 r2 r3 r4 r5 r6 r7 r8 r9:OA} {B0 B1 B2 B3 B4 B5 B6 B7 B8 B9:Bool} {M0 M1 M2 M3:Option Nat} {V0 V1 V2 V3 V4 V5:Value} {A0 A1 A2:Addr}
def yrF:LA:=⟨[0,0,1,0,1,1],[0,3,4,24,25],[(0,0,0),(3,1,0),(4,2,0)],3,[]⟩
def yrG:List LA:=[yrF]
abbrev yGn:=dnF pP yrG (code Tryz.f39)
abbrev yMi:=ya0 pP yrG (code Tryz.f39)
abbrev yGo (p:List Nat) (K:List Kh) (R:VWP):=ya0 pP yrG (code Tryz.f39) p K (ybO pP Tryz.f39 [0] R)
def yj9 (c5:Int) (bm0:Nat) (b6 b7:Int) (b1:OA) (a8:Option Nat) (b2:OA) (a9:Option Nat) (b3:OA) (bm1:Nat) (b8:Int) (b4:BA) (b9 c0 c1 c2 c3 c4:Int) (a6:OA) (b0 a7:Nat) (b5 a3:BA) (a5:Int) (a4:Bool) (a0:OA) (a2 a1 bm2:Nat):Int → List Value × List TB:=fun c6 => ([(.pointer (some ⟨bm0,0,none⟩)),(.pointer (some ⟨bm1,0,none⟩)),(.pointer (some ⟨bm2,0,none⟩)),.int .i64 c5,.int .i64 c6],[⟨bm0,96,[.int .i64 b6,.int .i64 b7,.pointer b1,(.map a8),.pointer b2,(.map a9),.pointer b3],false⟩,⟨bm1,32,[.int .i64 b8,.string b4,.int .i64 b9,.int .i64 c0,.int .i64 c1,.int .i64 c2,.int .i64 c3,.int .i64 c4,.slice a6 b0 a7,.string b5,.string a3,.int .i64 a5,.bool a4,.slice a0 a2 a1],false⟩,⟨bm2,44,[.int .i64 0,.int .i64 0,.int .i64 0,.int .i64 0,.slice none 0 0,.slice none 0 0],false⟩])
abbrev yDv (c5:Int) (bm0:Nat) (b6 b7:Int) (b1:OA) (a8:Option Nat) (b2:OA) (a9:Option Nat) (b3:OA) (bm1:Nat) (b8:Int) (b4:BA) (b9 c0 c1 c2 c3 c4:Int) (a6:OA) (b0 a7:Nat) (b5 a3:BA) (a5:Int) (a4:Bool) (a0:OA) (a2 a1 bm2:Nat) (I:Nat → Int → World → Prop) (m:Nat):Kh:=KG (yj9 c5 bm0 b6 b7 b1 a8 b2 a9 b3 bm1 b8 b4 b9 c0 c1 c2 c3 c4 a6 b0 a7 b5 a3 a5 a4 a0 a2 a1 bm2) (U1 I) m
theorem yAw {I:Nat → Int → World → Prop} (m':Nat) (h1:m' < m) (h2:I m' j1 w):KS (yDv i0 n0 i1 i2 q0 M0 q1 M1 q2 n1 i3 s0 i4 i5 i6 i7 i8 i9 q3 n2 n3 s1 s2 j0 B0 q4 n4 n5 n6 I m) (yj9 i0 n0 i1 i2 q0 M0 q1 M1 q2 n1 i3 s0 i4 i5 i6 i7 i8 i9 q3 n2 n3 s1 s2 j0 B0 q4 n4 n5 n6 j1) w:=⟨m',h1,_,rfl,rfl,h2⟩
theorem yAx (I:Nat → Int → World → Prop) (m0:Nat) (h0:I m0 j1 w0)
 (hr:∀ m c5 w,I m c5 w →
 brB (decide (c5 < i0)) (
 Calls pP 33 #[.int .i64 i1] w fun e d1 => ∃ d0 d3,e = .returned (.tuple #[.pointer d0,.int .i64 d3]) ∧ yaG [n0,n1,n6] w d1 ∧
 ∀ c8,Adv [] [] d1 c8 →
 yc7 pP (Instr.mapUpdate 89 (.map M0) (.agg #[.string s0,.int .i64 c5]) (.pointer d0)) c8 fun d2 => yaG [n0,n1,n6] c8 d2 ∧
 KS (yDv i0 n0 i1 i2 q0 M0 q1 M1 q2 n1 i3 s0 i4 i5 i6 i7 i8 i9 q3 n2 n3 s1 s2 j0 B0 q4 n4 n5 n6 I m) (yj9 i0 n0 i1 i2 q0 M0 q1 M1 q2 n1 i3 s0 i4 i5 i6 i7 i8 i9 q3 n2 n3 s1 s2 j0 B0 q4 n4 n5 n6 (IntKind.wrap .i64 (c5 + 1))) d2)
 (
 ∀ c9,Adv [n6] [] w c9 → c9.heap[n0]? = some (.cells #[.int .i64 i1,.int .i64 i2,.pointer q0,(.map M0),.pointer q1,(.map M1),.pointer q2] 96) →
 R (.agg (Z3 0 0 0 0 none 0 0 none 0 0)) c9)) :
 yaU yrF (yGn 396 [0,0,1,0,1,1]) (yGo [1,1,0,1,0] [] R) (yj9 i0 n0 i1 i2 q0 M0 q1 M1 q2 n1 i3 s0 i4 i5 i6 i7 i8 i9 q3 n2 n3 s1 s2 j0 B0 q4 n4 n5 n6 j1) w0 :=
 lrule (yj9 i0 n0 i1 i2 q0 M0 q1 M1 q2 n1 i3 s0 i4 i5 i6 i7 i8 i9 q3 n2 n3 s1 s2 j0 B0 q4 n4 n5 n6) (U1 I) h0 (by rintro m c5 w h; exact ⟨by kernel_rfl,by kernel_rfl,fun js => Eq.mpr (by kernel_rfl) (hr m c5 w h)⟩)
theorem yHM {b0:Nat} {a7 a6:Nat} {a3 a2:Nat} (hb:w.heap[b0]? = some (.cells #[.int .i64 i0,.int .i64 i1,.pointer q0,(.map M0),.pointer q1,(.map M1),.pointer q2] 96)) (h :
 ∀ b3,w.heap.size ≤ b3 →
 ∀ b4,w.heap.size ≤ b4 →
 ∀ w5,Adv [] [b4,b3] w w5 →
 Calls pP 63 (Z16 q0 s0 i4) w5 fun e w6 => ∃ x7,e = .returned (.int .i64 x7) ∧ yaG [b0,b3,b4] w5 w6 ∧
 brB (x7 != 0) (
 Calls pP 38 #[.int .i64 x7] w6 fun e c8 => ∃ c9 d0 d1 d2 c2 c6 c4 c3 c7 c5,e = .returned (.agg (Z3 c9 d0 d1 d2 c2 c6 c4 c3 c7 c5)) ∧ yaG [b0,b3,b4] w6 c8 ∧
 ∀ c1,Adv [b4] [] c8 c1 → c1.heap[b0]? = some (.cells #[.int .i64 i0,.int .i64 i1,.pointer q0,(.map M0),.pointer q1,(.map M1),.pointer q2] 96) →
 R (.agg (Z3 c9 d0 d1 d2 c2 c6 c4 c3 c7 c5)) c1)
 (
 yaU yrF (yGn 396 [0,0,1,0,1,1]) (yGo [1,1,0,1,0] [] R) (yj9 i4 b0 i0 i1 q0 M0 q1 M1 q2 b3 i2 s0 i3 i4 i5 i6 i7 i8 q3 a7 a6 s1 s2 i9 B0 q4 a3 a2 b4 0) w6)) :
 CR pP 39 #[(.pointer (some ⟨b0,0,none⟩)),(.agg (Z2 i2 s0 i3 i4 i5 i6 i7 i8 q3 a7 a6 s1 s2 i9 B0 q4 a3 a2))] w R :=
 yaO Tryz.wide_mixed (an:=yrG) Tryz.func39 rfl rfl (by kernel_rfl) rfl hb (Eq.mpr (by kernel_rfl) h)
theorem yHN {b0:Nat} {a6 a5:Nat} {a2 a1:Nat} (hb:w.heap[b0]? = some (.cells #[.int .i64 i0,.int .i64 i1,.pointer q0,(.map M0),.pointer q1,(.map M1),.pointer q2] 96)) (h :
 ∀ b3,w.heap.size ≤ b3 →
 ∀ b4,w.heap.size ≤ b4 →
 ∀ w5,Adv [] [b4,b3] w w5 →
 Calls pP 64 #[.pointer q1,.int .i64 i4] w5 fun e w6 => ∃ x7 x8 x9,e = .returned (.tuple (Z14 x7 x8 x9)) ∧ yaG [b0,b3,b4] w5 w6 ∧
 brB (x9 != 0) (
 Calls pP 38 #[.int .i64 x9] w6 fun e c9 => ∃ d0 d1 d2 d3 c3 c7 c5 c4 c8 c6,e = .returned (.agg (Z3 d0 d1 d2 d3 c3 c7 c5 c4 c8 c6)) ∧ yaG [b0,b3,b4] w6 c9 ∧
 ∀ c1,Adv [b4] [] c9 c1 → c1.heap[b0]? = some (.cells #[.int .i64 i0,.int .i64 i1,.pointer q0,(.map M0),.pointer q1,(.map M1),.pointer q2] 96) →
 R (.agg (Z3 d0 d1 d2 d3 c3 c7 c5 c4 c8 c6)) c1)
 (
 ∀ c2,Adv [b4] [] w6 c2 → c2.heap[b0]? = some (.cells #[.int .i64 i0,.int .i64 i1,.pointer q0,(.map M0),.pointer q1,(.map M1),.pointer q2] 96) →
 R (.agg (Z3 0 0 x7 x8 none 0 0 none 0 0)) c2)) :
 CR pP 40 #[(.pointer (some ⟨b0,0,none⟩)),(.agg (Z2 i2 s0 i3 i4 i5 i6 i7 i8 q3 a6 a5 s1 s2 i9 B0 q4 a2 a1))] w R :=
 yaO Tryz.wide_mixed (an:=[]) Tryz.func40 rfl rfl (by kernel_rfl) rfl hb (Eq.mpr (by kernel_rfl) h)
theorem yHO {b0:Nat} {a3:BA} {a2 a1:Nat} {c2 b6:BA} {b1 a9:Nat} (hb:w.heap[b0]? = some (.cells #[.int .i64 i0,.int .i64 i1,.pointer q0,(.map M0),.pointer q1,(.map M1),.pointer q2] 96)) (h :
 ∀ b3,w.heap.size ≤ b3 →
 ∀ b4,w.heap.size ≤ b4 →
 ∀ w5,Adv [] [b4,b3] w w5 →
 Calls pP 66 #[.pointer q1,(.agg #[.string a3,.int .i64 i3]),(.agg (Z9 i6 i7 i8 q3 a2 a1))] w5 fun e w6 => ∃ x7 t8 x9,e = .returned (.tuple (Z15 x7 t8 x9)) ∧ yaG [b0,b3,b4] w5 w6 ∧
 brB (x9 != 0) (
 Calls pP 38 #[.int .i64 x9] w6 fun e e3 => ∃ e6 e7 e8 e9 d0 d8 d4 d1 d9 d5,e = .returned (.agg (Z3 e6 e7 e8 e9 d0 d8 d4 d1 d9 d5)) ∧ yaG [b0,b3,b4] w6 e3 ∧
 ∀ c3,Adv [b4] [] e3 c3 → c3.heap[b0]? = some (.cells #[.int .i64 i0,.int .i64 i1,.pointer q0,(.map M0),.pointer q1,(.map M1),.pointer q2] 96) →
 R (.agg (Z3 e6 e7 e8 e9 d0 d8 d4 d1 d9 d5)) c3)
 (
 brB t8 (
 ∀ c4,Adv [b4] [] w6 c4 → c4.heap[b0]? = some (.cells #[.int .i64 i0,.int .i64 i1,.pointer q0,(.map M0),.pointer q1,(.map M1),.pointer q2] 96) →
 R (.agg (Z3 0 x7 1 0 none 0 0 none 0 0)) c4)
 (
 ∀ b2,Adv [] [] w6 b2 →
 ∃ e2,(∀ w',Mod [] b2 w' → (Instr.lookup 89 (.map M0) (.agg #[.string a3,.int .i64 i3]) false).run pP w' = .ok (.pointer e2) w') ∧
 Calls pP 67 #[.pointer e2,.slice q3 a2 a1] b2 fun e b5 => ∃ c8 c9,e = .returned (.tuple #[.int .i64 c8,.int .i64 c9]) ∧ yaG [b0,b3,b4] b2 b5 ∧
 brB (c9 != 0) (
 Calls pP 38 #[.int .i64 c9] b5 fun e e4 => ∃ f0 f1 f2 f3 d2 e0 d6 d3 e1 d7,e = .returned (.agg (Z3 f0 f1 f2 f3 d2 e0 d6 d3 e1 d7)) ∧ yaG [b0,b3,b4] b5 e4 ∧
 ∀ c5,Adv [b4] [] e4 c5 → c5.heap[b0]? = some (.cells #[.int .i64 i0,.int .i64 i1,.pointer q0,(.map M0),.pointer q1,(.map M1),.pointer q2] 96) →
 R (.agg (Z3 f0 f1 f2 f3 d2 e0 d6 d3 e1 d7)) c5)
 (
 ∀ c6,Adv [] [] b5 c6 →
 Calls pP 68 #[.pointer q1,(.agg #[.string a3,.int .i64 i3]),(.agg (Z9 i6 i7 i8 q3 a2 a1)),.int .i64 c8] c6 fun e e5 => ∃ f4,e = .returned (.int .i64 f4) ∧ yaG [b0,b3,b4] c6 e5 ∧
 ∀ c7,Adv [b4] [] e5 c7 → c7.heap[b0]? = some (.cells #[.int .i64 i0,.int .i64 i1,.pointer q0,(.map M0),.pointer q1,(.map M1),.pointer q2] 96) →
 R (.agg (Z3 0 c8 0 0 none 0 0 none 0 0)) c7)))) :
 CR pP 42 #[(.pointer (some ⟨b0,0,none⟩)),(.agg (Z2 i2 a3 i3 i4 i5 i6 i7 i8 q3 a2 a1 c2 b6 i9 B0 q4 b1 a9))] w R :=
 yaO Tryz.wide_mixed (an:=[]) Tryz.func42 rfl rfl (by kernel_rfl) rfl hb (Eq.mpr (by kernel_rfl) h)
theorem yHP {b0:Nat} {b1 a9:Nat} {a4 a3:Nat} (hb:w.heap[b0]? = some (.cells #[.int .i64 i0,.int .i64 i1,.pointer q0,(.map M0),.pointer q1,(.map M1),.pointer q2] 96)) (h :
 ∀ b3,w.heap.size ≤ b3 →
 ∀ b4,w.heap.size ≤ b4 →
 ∀ w5,Adv [] [b4,b3] w w5 →
 ∃ p6,(∀ w',Mod [] w5 w' → (Instr.lookup 89 (.map M0) (.agg #[.string s0,.int .i64 i3]) false).run pP w' = .ok (.pointer p6) w') ∧
 ∀ c2,Adv [] [] w5 c2 →
 Calls pP 69 #[.pointer p6,.int .i64 i5,(.int .i64 (if 64 < i4 then 64 else i4))] c2 fun e a7 => ∃ c6 d2 c9 c5,e = .returned (.tuple #[.slice c6 d2 c9,.int .i64 c5]) ∧ yaG [b0,b3,b4] c2 a7 ∧
 brB (c5 != 0) (
 Calls pP 38 #[.int .i64 c5] a7 fun e d5 => ∃ d7 d8 d9 e0 c7 d3 d0 c8 d4 d1,e = .returned (.agg (Z3 d7 d8 d9 e0 c7 d3 d0 c8 d4 d1)) ∧ yaG [b0,b3,b4] a7 d5 ∧
 ∀ c3,Adv [b4] [] d5 c3 → c3.heap[b0]? = some (.cells #[.int .i64 i0,.int .i64 i1,.pointer q0,(.map M0),.pointer q1,(.map M1),.pointer q2] 96) →
 R (.agg (Z3 d7 d8 d9 e0 c7 d3 d0 c8 d4 d1)) c3)
 (
 Calls pP 70 #[.pointer p6] a7 fun e d6 => ∃ e1 e2,e = .returned (.tuple #[.int .i64 e1,.int .i64 e2]) ∧ yaG [b0,b3,b4] a7 d6 ∧
 ∀ c4,Adv [b4] [] d6 c4 → c4.heap[b0]? = some (.cells #[.int .i64 i0,.int .i64 i1,.pointer q0,(.map M0),.pointer q1,(.map M1),.pointer q2] 96) →
 R (.agg (Z3 0 e2 e1 0 c6 d2 c9 none 0 0)) c4)) :
 CR pP 43 #[(.pointer (some ⟨b0,0,none⟩)),(.agg (Z2 i2 s0 i3 i4 i5 i6 i7 i8 q3 b1 a9 s1 s2 i9 B0 q4 a4 a3))] w R :=
 yaO Tryz.wide_mixed (an:=[]) Tryz.func43 rfl rfl (by kernel_rfl) rfl hb (Eq.mpr (by kernel_rfl) h)
theorem yHQ {b0:Nat} {a8 a7:Nat} {a4 a3:Nat} (hb:w.heap[b0]? = some (.cells #[.int .i64 i0,.int .i64 i1,.pointer q0,(.map M0),.pointer q1,(.map M1),.pointer q2] 96)) (h :
 ∀ b3,w.heap.size ≤ b3 →
 ∀ b4,w.heap.size ≤ b4 →
 ∀ w5,Adv [] [b4,b3] w w5 →
 ∃ p6,(∀ w',Mod [] w5 w' → (Instr.lookup 89 (.map M0) (.agg #[.string s0,.int .i64 i3]) false).run pP w' = .ok (.pointer p6) w') ∧
 ∀ c1,Adv [] [] w5 c1 →
 Calls pP 71 #[.pointer p6,.int .i64 i5] c1 fun e c2 => ∃ c8,e = .returned (.int .i64 c8) ∧ yaG [b0,b3,b4] c1 c2 ∧
 Calls pP 70 #[.pointer p6] c2 fun e c6 => ∃ c5 c9,e = .returned (.tuple #[.int .i64 c5,.int .i64 c9]) ∧ yaG [b0,b3,b4] c2 c6 ∧
 ∀ c3,Adv [] [] c6 c3 →
 Calls pP 72 #[.pointer q2,(.agg #[.string s0,.int .i64 i3]),.int .i64 c5] c3 fun e c7 => ∃ d0,e = .returned (.int .i64 d0) ∧ yaG [b0,b3,b4] c3 c7 ∧
 ∀ c4,Adv [b4] [] c7 c4 → c4.heap[b0]? = some (.cells #[.int .i64 i0,.int .i64 i1,.pointer q0,(.map M0),.pointer q1,(.map M1),.pointer q2] 96) →
 R (.agg (Z3 0 c5 c8 0 none 0 0 none 0 0)) c4) :
 CR pP 44 #[(.pointer (some ⟨b0,0,none⟩)),(.agg (Z2 i2 s0 i3 i4 i5 i6 i7 i8 q3 a8 a7 s1 s2 i9 B0 q4 a4 a3))] w R :=
 yaO Tryz.wide_mixed (an:=[]) Tryz.func44 rfl rfl (by kernel_rfl) rfl hb (Eq.mpr (by kernel_rfl) h)
theorem yHR {b0:Nat} {a7 a6:Nat} {a3 a2:Nat} (hb:w.heap[b0]? = some (.cells #[.int .i64 i0,.int .i64 i1,.pointer q0,(.map M0),.pointer q1,(.map M1),.pointer q2] 96)) (h :
 ∀ b3,w.heap.size ≤ b3 →
 ∀ b4,w.heap.size ≤ b4 →
 ∀ w5,Adv [] [b4,b3] w w5 →
 ∃ p6,(∀ w',Mod [] w5 w' → (Instr.lookup 89 (.map M0) (.agg #[.string s0,.int .i64 i3]) false).run pP w' = .ok (.pointer p6) w') ∧
 Calls pP 73 #[.pointer p6] w5 fun e w7 => ∃ x8,e = .returned (.int .i64 x8) ∧ yaG [b0,b3,b4] w5 w7 ∧
 ∀ w9,Adv [b4] [] w7 w9 → w9.heap[b0]? = some (.cells #[.int .i64 i0,.int .i64 i1,.pointer q0,(.map M0),.pointer q1,(.map M1),.pointer q2] 96) →
 R (.agg (Z3 0 0 x8 0 none 0 0 none 0 0)) w9) :
 CR pP 45 #[(.pointer (some ⟨b0,0,none⟩)),(.agg (Z2 i2 s0 i3 i4 i5 i6 i7 i8 q3 a7 a6 s1 s2 i9 B0 q4 a3 a2))] w R :=
 yaO Tryz.wide_mixed (an:=[]) Tryz.func45 rfl rfl (by kernel_rfl) rfl hb (Eq.mpr (by kernel_rfl) h)
theorem yHS {b0:Nat} {a0:BA} {a8 a7:Nat} {a5 a9:BA} {a3 a2:Nat} (hb:w.heap[b0]? = some (.cells #[.int .i64 i0,.int .i64 i1,.pointer q0,(.map M0),.pointer q1,(.map M1),.pointer q2] 96)) (h :
 ∀ b3,w.heap.size ≤ b3 →
 ∀ b4,w.heap.size ≤ b4 →
 ∀ w5,Adv [] [b4,b3] w w5 →
 Calls pP 74 #[.pointer q2,.string a5,(.agg #[.string a0,.int .i64 i3])] w5 fun e w6 => ∃ x7 t8,e = .returned (.tuple #[.int .i64 x7,.bool t8]) ∧ yaG [b0,b3,b4] w5 w6 ∧
 brB (!t8) (
 ∀ w9,Adv [b4] [] w6 w9 → w9.heap[b0]? = some (.cells #[.int .i64 i0,.int .i64 i1,.pointer q0,(.map M0),.pointer q1,(.map M1),.pointer q2] 96) →
 R (.agg (Z3 0 0 0 0 none 0 0 none 0 0)) w9)
 (
 ∀ c1,Adv [b4] [] w6 c1 → c1.heap[b0]? = some (.cells #[.int .i64 i0,.int .i64 i1,.pointer q0,(.map M0),.pointer q1,(.map M1),.pointer q2] 96) →
 R (.agg (Z3 0 x7 1 0 none 0 0 none 0 0)) c1)) :
 CR pP 46 #[(.pointer (some ⟨b0,0,none⟩)),(.agg (Z2 i2 a0 i3 i4 i5 i6 i7 i8 q3 a8 a7 a5 a9 i9 B0 q4 a3 a2))] w R :=
 yaO Tryz.wide_mixed (an:=[]) Tryz.func46 rfl rfl (by kernel_rfl) rfl hb (Eq.mpr (by kernel_rfl) h)
theorem yHT {b0:Nat} {a9 a8:Nat} {a2 a1:Nat} (hb:w.heap[b0]? = some (.cells #[.int .i64 i0,.int .i64 i1,.pointer q0,(.map M0),.pointer q1,(.map M1),.pointer q2] 96)) (h :
 ∀ b3,w.heap.size ≤ b3 →
 ∀ b4,w.heap.size ≤ b4 →
 ∀ w5,Adv [] [b4,b3] w w5 →
 ∃ p6,(∀ w',Mod [] w5 w' → (Instr.lookup 92 (.map M1) (.string s1) false).run pP w' = .ok (.pointer p6) w') ∧
 brB (Option.isNone p6) (
 ∀ w9,Adv [] [] w5 w9 →
 ∃ f9,(∀ w',Mod [] w9 w' → (Builtin.len_ #[92] 3 #[(.map M1)]).run pP w' = .ok (.int .i64 f9) w') ∧
 brB (decide (f9 ≥ 8)) (
 Calls pP 38 #[.int .i64 2] w9 fun e f3 => ∃ g0 g1 g2 g3 d5 e7 e1 d6 e8 e2,e = .returned (.agg (Z3 g0 g1 g2 g3 d5 e7 e1 d6 e8 e2)) ∧ yaG [b0,b3,b4] w9 f3 ∧
 ∀ c4,Adv [b4] [] f3 c4 → c4.heap[b0]? = some (.cells #[.int .i64 i0,.int .i64 i1,.pointer q0,(.map M0),.pointer q1,(.map M1),.pointer q2] 96) →
 R (.agg (Z3 g0 g1 g2 g3 d5 e7 e1 d6 e8 e2)) c4)
 (
 Calls pP 75 #[] w9 fun e f4 => ∃ c3,e = .returned (.pointer c3) ∧ yaG [b0,b3,b4] w9 f4 ∧
 ∀ c5,Adv [] [] f4 c5 →
 Calls pP 76 #[.pointer c3,(.agg (Z8 s2 q4 a2 a1 i4 i1)),.bool B0] c5 fun e b1 => ∃ g4 d3,e = .returned (.tuple #[.int .i64 g4,.int .i64 d3]) ∧ yaG [b0,b3,b4] c5 b1 ∧
 brB (d3 != 0) (
 Calls pP 38 #[.int .i64 d3] b1 fun e f5 => ∃ g5 g6 g7 g8 d7 e9 e3 d8 f0 e4,e = .returned (.agg (Z3 g5 g6 g7 g8 d7 e9 e3 d8 f0 e4)) ∧ yaG [b0,b3,b4] b1 f5 ∧
 ∀ c6,Adv [b4] [] f5 c6 → c6.heap[b0]? = some (.cells #[.int .i64 i0,.int .i64 i1,.pointer q0,(.map M0),.pointer q1,(.map M1),.pointer q2] 96) →
 R (.agg (Z3 g5 g6 g7 g8 d7 e9 e3 d8 f0 e4)) c6)
 (
 ∀ c7,Adv [] [] b1 c7 →
 yc7 pP (Instr.mapUpdate 92 (.map M1) (.string s1) (.pointer c3)) c7 fun f6 => yaG [b0,b3,b4] c7 f6 ∧
 ∀ c8,Adv [b4] [] f6 c8 → c8.heap[b0]? = some (.cells #[.int .i64 i0,.int .i64 i1,.pointer q0,(.map M0),.pointer q1,(.map M1),.pointer q2] 96) →
 R (.agg (Z3 0 0 0 g4 none 0 0 none 0 0)) c8)))
 (
 ∀ c9,Adv [] [] w5 c9 →
 Calls pP 76 #[.pointer p6,(.agg (Z8 s2 q4 a2 a1 i4 i1)),.bool B0] c9 fun e b2 => ∃ g9 d4,e = .returned (.tuple #[.int .i64 g9,.int .i64 d4]) ∧ yaG [b0,b3,b4] c9 b2 ∧
 brB (d4 != 0) (
 Calls pP 38 #[.int .i64 d4] b2 fun e f7 => ∃ h0 h1 h2 h3 d9 f1 e5 e0 f2 e6,e = .returned (.agg (Z3 h0 h1 h2 h3 d9 f1 e5 e0 f2 e6)) ∧ yaG [b0,b3,b4] b2 f7 ∧
 ∀ d0,Adv [b4] [] f7 d0 → d0.heap[b0]? = some (.cells #[.int .i64 i0,.int .i64 i1,.pointer q0,(.map M0),.pointer q1,(.map M1),.pointer q2] 96) →
 R (.agg (Z3 h0 h1 h2 h3 d9 f1 e5 e0 f2 e6)) d0)
 (
 ∀ d1,Adv [] [] b2 d1 →
 yc7 pP (Instr.mapUpdate 92 (.map M1) (.string s1) (.pointer p6)) d1 fun f8 => yaG [b0,b3,b4] d1 f8 ∧
 ∀ d2,Adv [b4] [] f8 d2 → d2.heap[b0]? = some (.cells #[.int .i64 i0,.int .i64 i1,.pointer q0,(.map M0),.pointer q1,(.map M1),.pointer q2] 96) →
 R (.agg (Z3 0 0 0 g9 none 0 0 none 0 0)) d2))) :
 CR pP 47 #[(.pointer (some ⟨b0,0,none⟩)),(.agg (Z2 i2 s0 i3 i4 i5 i6 i7 i8 q3 a9 a8 s1 s2 i9 B0 q4 a2 a1))] w R :=
 yaO Tryz.wide_mixed (an:=[]) Tryz.func47 rfl rfl (by kernel_rfl) rfl hb (Eq.mpr (by kernel_rfl) h)
theorem yHU {b0:Nat} {a8 a7:Nat} {a4 a3:Nat} (hb:w.heap[b0]? = some (.cells #[.int .i64 i0,.int .i64 i1,.pointer q0,(.map M0),.pointer q1,(.map M1),.pointer q2] 96)) (h :
 ∀ b3,w.heap.size ≤ b3 →
 ∀ b4,w.heap.size ≤ b4 →
 ∀ w5,Adv [] [b4,b3] w w5 →
 ∃ p6,(∀ w',Mod [] w5 w' → (Instr.lookup 92 (.map M1) (.string s1) false).run pP w' = .ok (.pointer p6) w') ∧
 Calls pP 77 #[.pointer p6,.string s2,.int .i64 i9,.int .i64 i1] w5 fun e w7 => ∃ x8,e = .returned (.int .i64 x8) ∧ yaG [b0,b3,b4] w5 w7 ∧
 Calls pP 38 #[.int .i64 x8] w7 fun e w9 => ∃ c8 c9 d0 d1 c2 c6 c4 c3 c7 c5,e = .returned (.agg (Z3 c8 c9 d0 d1 c2 c6 c4 c3 c7 c5)) ∧ yaG [b0,b3,b4] w7 w9 ∧
 ∀ c1,Adv [b4] [] w9 c1 → c1.heap[b0]? = some (.cells #[.int .i64 i0,.int .i64 i1,.pointer q0,(.map M0),.pointer q1,(.map M1),.pointer q2] 96) →
 R (.agg (Z3 c8 c9 d0 d1 c2 c6 c4 c3 c7 c5)) c1) :
 CR pP 48 #[(.pointer (some ⟨b0,0,none⟩)),(.agg (Z2 i2 s0 i3 i4 i5 i6 i7 i8 q3 a8 a7 s1 s2 i9 B0 q4 a4 a3))] w R :=
 yaO Tryz.wide_mixed (an:=[]) Tryz.func48 rfl rfl (by kernel_rfl) rfl hb (Eq.mpr (by kernel_rfl) h)
theorem yHV {b0:Nat} {a8 a7:Nat} {a4 a3:Nat} (hb:w.heap[b0]? = some (.cells #[.int .i64 i0,.int .i64 i1,.pointer q0,(.map M0),.pointer q1,(.map M1),.pointer q2] 96)) (h :
 ∀ b3,w.heap.size ≤ b3 →
 ∀ b4,w.heap.size ≤ b4 →
 ∀ w5,Adv [] [b4,b3] w w5 →
 ∃ p6,(∀ w',Mod [] w5 w' → (Instr.lookup 92 (.map M1) (.string s1) false).run pP w' = .ok (.pointer p6) w') ∧
 Calls pP 78 (Z16 p6 s2 i9) w5 fun e w7 => ∃ x8,e = .returned (.int .i64 x8) ∧ yaG [b0,b3,b4] w5 w7 ∧
 Calls pP 38 #[.int .i64 x8] w7 fun e w9 => ∃ c8 c9 d0 d1 c2 c6 c4 c3 c7 c5,e = .returned (.agg (Z3 c8 c9 d0 d1 c2 c6 c4 c3 c7 c5)) ∧ yaG [b0,b3,b4] w7 w9 ∧
 ∀ c1,Adv [b4] [] w9 c1 → c1.heap[b0]? = some (.cells #[.int .i64 i0,.int .i64 i1,.pointer q0,(.map M0),.pointer q1,(.map M1),.pointer q2] 96) →
 R (.agg (Z3 c8 c9 d0 d1 c2 c6 c4 c3 c7 c5)) c1) :
 CR pP 49 #[(.pointer (some ⟨b0,0,none⟩)),(.agg (Z2 i2 s0 i3 i4 i5 i6 i7 i8 q3 a8 a7 s1 s2 i9 B0 q4 a4 a3))] w R :=
 yaO Tryz.wide_mixed (an:=[]) Tryz.func49 rfl rfl (by kernel_rfl) rfl hb (Eq.mpr (by kernel_rfl) h)
theorem yHW {b0:Nat} {a9 a7:Nat} {a5 a4:Nat} (hb:w.heap[b0]? = some (.cells #[.int .i64 i0,.int .i64 i1,.pointer q0,(.map M0),.pointer q1,(.map M1),.pointer q2] 96)) (h :
 ∀ b3,w.heap.size ≤ b3 →
 ∀ b4,w.heap.size ≤ b4 →
 ∀ w5,Adv [] [b4,b3] w w5 →
 ∃ p6,(∀ w',Mod [] w5 w' → (Instr.lookup 92 (.map M1) (.string s1) false).run pP w' = .ok (.pointer p6) w') ∧
 Calls pP 80 #[.pointer q0] w5 fun e w7 => ∃ a8 n9 c9,e = .returned (.slice a8 n9 c9) ∧ yaG [b0,b3,b4] w5 w7 ∧ (((.int .i64 i9):Value) = (.int .i64 i9)) ∧ (((.string s2):Value) = (.string s2)) ∧ (∀ w',Mod [] w7 w' → (Instr.lookup 92 (.map M1) (.string s1) false).run pP w' = .ok (.pointer p6) w') ∧ (((.string s1):Value) = (.string s1)) ∧ (((.map M1):Value) = (.map M1)) ∧
 Calls pP 79 #[.pointer p6,.string s2,.int .i64 i9,.slice a8 n9 c9] w7 fun e b1 => ∃ c6 d3 d0 c5,e = .returned (.tuple #[.slice c6 d3 d0,.int .i64 c5]) ∧ yaG [b0,b3,b4] w7 b1 ∧
 brB (c5 != 0) (
 Calls pP 38 #[.int .i64 c5] b1 fun e d6 => ∃ d7 d8 d9 e0 c7 d4 d1 c8 d5 d2,e = .returned (.agg (Z3 d7 d8 d9 e0 c7 d4 d1 c8 d5 d2)) ∧ yaG [b0,b3,b4] b1 d6 ∧
 ∀ c3,Adv [b4] [] d6 c3 → c3.heap[b0]? = some (.cells #[.int .i64 i0,.int .i64 i1,.pointer q0,(.map M0),.pointer q1,(.map M1),.pointer q2] 96) →
 R (.agg (Z3 d7 d8 d9 e0 c7 d4 d1 c8 d5 d2)) c3)
 (
 ∀ c4,Adv [b4] [] b1 c4 → c4.heap[b0]? = some (.cells #[.int .i64 i0,.int .i64 i1,.pointer q0,(.map M0),.pointer q1,(.map M1),.pointer q2] 96) →
 R (.agg (Z3 0 0 0 0 none 0 0 c6 d3 d0)) c4)) :
 CR pP 50 #[(.pointer (some ⟨b0,0,none⟩)),(.agg (Z2 i2 s0 i3 i4 i5 i6 i7 i8 q3 a9 a7 s1 s2 i9 B0 q4 a5 a4))] w R :=
 yaO Tryz.wide_mixed (an:=[]) Tryz.func50 rfl rfl (by kernel_rfl) rfl hb (Eq.mpr (by kernel_rfl) h)
theorem yHX {b0:Nat} {a9 a8:Nat} {a6 a5:Nat} (hb:w.heap[b0]? = some (.cells #[.int .i64 i0,.int .i64 i1,.pointer q0,(.map M0),.pointer q1,(.map M1),.pointer q2] 96)) (h :
 ∀ b3,w.heap.size ≤ b3 →
 ∀ b4,w.heap.size ≤ b4 →
 ∀ d4,Adv [] [b4,b3] w d4 → d4.heap[b0]? = some (.cells #[.int .i64 i0,.int .i64 i1,.pointer q0,(.map M0),.pointer q1,(.map M1),.pointer q2] 96) →
 Calls pP 50 #[(.pointer (some ⟨b0,0,none⟩)),(.agg (Z2 i2 s0 i3 i4 i5 i6 i7 i8 q3 a9 a8 s1 s2 i9 B0 q4 a6 a5))] d4 fun e c6 => ∃ u2 w1 w2 w3 u5 v2 u9 e0 f0 e5,e = .returned (.agg (Z3 u2 w1 w2 w3 u5 v2 u9 e0 f0 e5)) ∧ yb9 [b0] [(b3,32),(b4,44)] [b3,b4] d4 c6 ∧ ∃ u3 u4 g1,∃ m40:Option Nat,∃ g2,∃ m42:Option Nat,∃ g3,c6.heap[b0]? = some (.cells #[.int .i64 u3,.int .i64 u4,.pointer g1,(.map m40),.pointer g2,(.map m42),.pointer g3] 96) ∧
 ∀ a0,c6.heap.size ≤ a0 →
 brB (u2 != 0) (
 ∀ g4,Adv [b4] [a0] c6 g4 → g4.heap[b0]? = some (.cells #[.int .i64 u3,.int .i64 u4,.pointer g1,(.map m40),.pointer g2,(.map m42),.pointer g3] 96) →
 R (.agg (Z3 u2 w1 w2 w3 u5 v2 u9 e0 f0 e5)) g4)
 (
 ∀ d5,Adv [] [a0] c6 d5 → d5.heap[b0]? = some (.cells #[.int .i64 u3,.int .i64 u4,.pointer g1,(.map m40),.pointer g2,(.map m42),.pointer g3] 96) →
 Calls pP 81 #[.slice e0 f0 e5,(.agg #[.string s0,.int .i64 i3])] d5 fun e c7 => ∃ w0,e = .returned (.bool w0) ∧ yb9 [b0] [(b3,32),(b4,44),(a0,44)] [b3,b4,a0] d5 c7 ∧ ∃ w4 w5 v5,∃ m62:Option Nat,∃ v6,∃ m64:Option Nat,∃ v7,c7.heap[b0]? = some (.cells #[.int .i64 w4,.int .i64 w5,.pointer v5,(.map m62),.pointer v6,(.map m64),.pointer v7] 96) ∧
 brB (!w0) (
 Calls pP 38 #[.int .i64 130] c7 fun e g5 => ∃ w6 w7 w8 w9 u6 v3 v0 u7 v4 v1,e = .returned (.agg (Z3 w6 w7 w8 w9 u6 v3 v0 u7 v4 v1)) ∧ yb9 [b0] [(b3,32),(b4,44),(a0,44)] [b3,b4,a0] c7 g5 ∧ ∃ x0 x1 v8,∃ m98:Option Nat,∃ v9,∃ m100:Option Nat,∃ f1,g5.heap[b0]? = some (.cells #[.int .i64 x0,.int .i64 x1,.pointer v8,(.map m98),.pointer v9,(.map m100),.pointer f1] 96) ∧
 ∀ c9,Adv [b4] [] g5 c9 → c9.heap[b0]? = some (.cells #[.int .i64 x0,.int .i64 x1,.pointer v8,(.map m98),.pointer v9,(.map m100),.pointer f1] 96) →
 R (.agg (Z3 w6 w7 w8 w9 u6 v3 v0 u7 v4 v1)) c9)
 (
 ∀ b2,Adv [] [] c7 b2 → b2.heap[b0]? = some (.cells #[.int .i64 w4,.int .i64 w5,.pointer v5,(.map m62),.pointer v6,(.map m64),.pointer v7] 96) →
 ∃ f2,(∀ w',Mod [] b2 w' → (Instr.lookup 89 (.map m62) (.agg #[.string s0,.int .i64 i3]) false).run pP w' = .ok (.pointer f2) w') ∧
 Calls pP 70 #[.pointer f2] b2 fun e b5 => ∃ x5 g6,e = .returned (.tuple #[.int .i64 x5,.int .i64 g6]) ∧ yb9 [b0] [(b3,32),(b4,44),(a0,44)] [b3,b4,a0] b2 b5 ∧ ∃ g7 g8 f3,∃ m111:Option Nat,∃ f4,∃ m113:Option Nat,∃ c8,b5.heap[b0]? = some (.cells #[.int .i64 g7,.int .i64 g8,.pointer f3,(.map m111),.pointer f4,(.map m113),.pointer c8] 96) ∧
 brB (decide (i5 > g6)) (
 Calls pP 38 #[.int .i64 61] b5 fun e d0 => ∃ g9 h0 h1 h2 d6 e6 e1 d7 e7 e2,e = .returned (.agg (Z3 g9 h0 h1 h2 d6 e6 e1 d7 e7 e2)) ∧ yb9 [b0] [(b3,32),(b4,44),(a0,44)] [b3,b4,a0] b5 d0 ∧ ∃ h3 h4 f5,∃ m147:Option Nat,∃ f6,∃ m149:Option Nat,∃ f7,d0.heap[b0]? = some (.cells #[.int .i64 h3,.int .i64 h4,.pointer f5,(.map m147),.pointer f6,(.map m149),.pointer f7] 96) ∧
 ∀ d1,Adv [b4] [] d0 d1 → d1.heap[b0]? = some (.cells #[.int .i64 h3,.int .i64 h4,.pointer f5,(.map m147),.pointer f6,(.map m149),.pointer f7] 96) →
 R (.agg (Z3 g9 h0 h1 h2 d6 e6 e1 d7 e7 e2)) d1)
 (
 ∀ b9,Adv [] [] b5 b9 → b9.heap[b0]? = some (.cells #[.int .i64 g7,.int .i64 g8,.pointer f3,(.map m111),.pointer f4,(.map m113),.pointer c8] 96) →
 Calls pP 82 #[.pointer c8,(.agg #[.string s1,.string s0,.int .i64 i3,.int .i64 i5])] b9 fun e c0 => ∃ h5,e = .returned (.int .i64 h5) ∧ yb9 [b0] [(b3,32),(b4,44),(a0,44)] [b3,b4,a0] b9 c0 ∧ ∃ x6 x7 x2,∃ m158:Option Nat,∃ x3,∃ m160:Option Nat,∃ x4,c0.heap[b0]? = some (.cells #[.int .i64 x6,.int .i64 x7,.pointer x2,(.map m158),.pointer x3,(.map m160),.pointer x4] 96) ∧
 Calls pP 38 #[.int .i64 h5] c0 fun e d2 => ∃ h6 h7 h8 h9 d8 e8 e3 d9 e9 e4,e = .returned (.agg (Z3 h6 h7 h8 h9 d8 e8 e3 d9 e9 e4)) ∧ yb9 [b0] [(b3,32),(b4,44),(a0,44)] [b3,b4,a0] c0 d2 ∧ ∃ u0 u1 f8,∃ m176:Option Nat,∃ f9,∃ m178:Option Nat,∃ g0,d2.heap[b0]? = some (.cells #[.int .i64 u0,.int .i64 u1,.pointer f8,(.map m176),.pointer f9,(.map m178),.pointer g0] 96) ∧
 ∀ d3,Adv [b4] [] d2 d3 → d3.heap[b0]? = some (.cells #[.int .i64 u0,.int .i64 u1,.pointer f8,(.map m176),.pointer f9,(.map m178),.pointer g0] 96) →
 R (.agg (Z3 h6 h7 h8 h9 d8 e8 e3 d9 e9 e4)) d3)))) :
 CR pP 51 #[(.pointer (some ⟨b0,0,none⟩)),(.agg (Z2 i2 s0 i3 i4 i5 i6 i7 i8 q3 a9 a8 s1 s2 i9 B0 q4 a6 a5))] w R :=
 yaO Tryz.wide_mixed (an:=[]) Tryz.func51 rfl rfl (by kernel_rfl) rfl hb (Eq.mpr (by kernel_rfl) h)
end
end Go.Proofs.YtkepmmocldnnfaaGreat
namespace Go.Proofs.YtkepmmocldnnfaaGreat
open Go Go.RowKit Go.Maps Go.MapKept
set_option linter.unusedVariables false
set_option linter.unusedSimpArgs false
inductive BLab where
 | no | br | cat | lm | mk | gm | off
 | log (p:PPart)
 | grp (g:ByteArray)
structure LogV where
 p:Nat
 L:List SegS
 F:List Nat
structure GrpV where
 p:Nat
 gen:Int
 robin:Bool
 G:GL
 F:List Nat
def LogV.v (q:LogV):Value:=.pointer (some ⟨q.p,0,none⟩)
def GrpV.v (q:GrpV):Value:=.pointer (some ⟨q.p,0,none⟩)
structure PGrp where
 gen:Int
 robin:Bool
 G:GL
def GrpV.x (q:GrpV):PGrp:=⟨q.gen,q.robin,q.G⟩
structure PBr where
 room:Int
 now:Int
 cat:TL
 eps:List Int
 dd:List (ymZ × List PDid)
 logs:List (PPart × List SegS)
 groups:List (ByteArray × PGrp)
 marks:OL
structure BrV where
 room:Int
 now:Int
 cat:TL
 eps:List Int
 dd:List (ymZ × List PDid)
 marks:OL
 LP:List (PPart × LogV)
 GP:List (ByteArray × GrpV)
 pc:Nat
 ml:Nat
 pm:Nat
 mg:Nat
 po:Nat
 Fc:List Nat
 Fm:List Nat
 Fo:List Nat
 lab:Nat → BLab
def BrV.st (V:BrV):PBr:=⟨V.room,V.now,V.cat,V.eps,V.dd,V.LP.map fun q => (q.1,q.2.L),V.GP.map fun q => (q.1,q.2.x),V.marks⟩
def BrV.foot (V:BrV) (b:Nat):List Nat:=b :: V.ml :: V.mg :: (V.Fc ++ V.Fm ++ V.Fo ++ V.LP.flatMap (fun q => q.2.F) ++ V.GP.flatMap (fun q => q.2.F))
structure BrRest (w:World) (b:Nat) (V:BrV) (i:BLab) (lab:Nat → BLab):Prop where
 cell:i ≠ .br → w.heap[b]? = some (.cells #[.int .i64 V.room,.int .i64 V.now,.pointer (some ⟨V.pc,0,none⟩),.map (some V.ml),.pointer (some ⟨V.pm,0,none⟩),.map (some V.mg),.pointer (some ⟨V.po,0,none⟩)] 96)
 lb:lab b = .br
 cat:i ≠ .cat → yf5 w V.pc V.cat V.Fc
 lc:∀ k ∈ V.Fc,lab k = .cat
 logs:i ≠ .lm → yaX pP 26 hkp LogV.v w V.ml V.LP
 lm:lab V.ml = .lm
 log:∀ q ∈ V.LP,i ≠ .log q.1 → ydR w q.2.p V.room q.2.L q.2.F
 ll:∀ q ∈ V.LP,∀ k ∈ q.2.F,lab k = .log q.1
 ded:i ≠ .mk → yf6 w V.pm V.eps V.dd V.Fm
 lk:∀ k ∈ V.Fm,lab k = .mk
 gs:i ≠ .gm → yaX pP 9 hks GrpV.v w V.mg V.GP
 lg:lab V.mg = .gm
 grp:∀ q ∈ V.GP,i ≠ .grp q.1 → yc0 w q.2.p q.2.gen q.2.robin q.2.G q.2.F
 lgr:∀ q ∈ V.GP,∀ k ∈ q.2.F,lab k = .grp q.1
 off:i ≠ .off → yhJ w V.po V.marks V.Fo
 lo:∀ k ∈ V.Fo,lab k = .off
 low:b < w.heap.size ∧ V.ml < w.heap.size ∧ V.mg < w.heap.size ∧ (∀ k ∈ V.Fc,k < w.heap.size) ∧ (∀ k ∈ V.Fm,k < w.heap.size) ∧ (∀ k ∈ V.Fo,k < w.heap.size) ∧ (∀ q ∈ V.LP,∀ k ∈ q.2.F,k < w.heap.size) ∧ (∀ q ∈ V.GP,∀ k ∈ q.2.F,k < w.heap.size)
def ydH (w:World) (b:Nat) (V:BrV):Prop:=BrRest w b V .no V.lab
def relab (w:World) (lab:Nat → BLab) (i:BLab) (k:Nat):BLab:=if k < w.heap.size then lab k else i
theorem ycJ {w:World} {lab:Nat → BLab} {i:BLab} {k:Nat} (h:k < w.heap.size):relab w lab i k = lab k:=if_pos h
theorem yeP {w:World} {lab:Nat → BLab} {i:BLab} {F F':List Nat} (h:∀ k ∈ F,lab k = i) (G:ybJ w F F'):∀ k ∈ F',relab w lab i k = i:=fun k hk => by
 unfold relab
 split
 ·rename_i hl
  rcases G k hk with hk | hk
  ·exact h k hk
  ·omega
 ·rfl
theorem ytT {w:World} {lab:Nat → BLab} {i:BLab} {F:List Nat} (h:∀ k ∈ F,w.heap.size ≤ k):∀ k ∈ F,relab w lab i k = i:=fun k hk => by
 unfold relab; rw [if_neg (by have:=h k hk; omega)]
theorem ykV {lab:Nat → BLab} {i j:BLab} {S:List Nat} {k:Nat} (hS:∀ k ∈ S,lab k = i) (hk:lab k = j) (hij:i ≠ j):k ∉ S:=fun h => hij ((hS k h).symm.trans hk)
theorem BrRest.step {w w':World} {b:Nat} {V:BrV} (h:ydH w b V) {i:BLab} {S:List Nat} (M:Mod S w w') (hS:∀ k ∈ S,V.lab k = i):BrRest w' b V i (relab w V.lab i):=by
 have hs:=M.size
 obtain ⟨l1,l2,l3,l4,l5,l6,l7,l8⟩:=h.low
 exact {
  cell:=fun hi => M.keep (h.cell nofun) (ykV hS h.lb hi)
  lb:=(ycJ l1).trans h.lb
  cat:=fun hi => (h.cat nofun).keep M fun k hk hk' => ykV hS (h.lc k hk') hi hk
  lc:=fun k hk => (ycJ (l4 k hk)).trans (h.lc k hk)
  logs:=fun hi => (h.logs nofun).keepM M (ykV hS h.lm hi)
  lm:=(ycJ l2).trans h.lm
  log:=fun q hq hi => (h.log q hq nofun).keep M fun k hk hk' => ykV hS (h.ll q hq k hk') hi hk
  ll:=fun q hq k hk => (ycJ (l7 q hq k hk)).trans (h.ll q hq k hk)
  ded:=fun hi => (h.ded nofun).keep M fun k hk hk' => ykV hS (h.lk k hk') hi hk
  lk:=fun k hk => (ycJ (l5 k hk)).trans (h.lk k hk)
  gs:=fun hi => (h.gs nofun).keepM M (ykV hS h.lg hi)
  lg:=(ycJ l3).trans h.lg
  grp:=fun q hq hi => (h.grp q hq nofun).keep M fun k hk hk' => ykV hS (h.lgr q hq k hk') hi hk
  lgr:=fun q hq k hk => (ycJ (l8 q hq k hk)).trans (h.lgr q hq k hk)
  off:=fun hi => (h.off nofun).keep M fun k hk hk' => ykV hS (h.lo k hk') hi hk
  lo:=fun k hk => (ycJ (l6 k hk)).trans (h.lo k hk)
  low:=⟨by omega,by omega,by omega,fun k hk => by have:=l4 k hk; omega,fun k hk => by have:=l5 k hk; omega,fun k hk => by have:=l6 k hk; omega,fun q hq k hk => by have:=l7 q hq k hk; omega,fun q hq k hk => by have:=l8 q hq k hk; omega⟩ }
theorem ydH.keep0 {w w':World} {b:Nat} {V:BrV} (h:ydH w b V) (M:Mod [] w w'):ydH w' b V:=by
 have r:=BrRest.step (i:=.no) h M (by simp)
 exact { r with lb:=h.lb,lc:=h.lc,lm:=h.lm,ll:=h.ll,lk:=h.lk,lg:=h.lg,lgr:=h.lgr,lo:=h.lo }
theorem yaF {V:BrV} {b k:Nat}:k ∈ V.foot b ↔ k = b ∨ k = V.ml ∨ k = V.mg ∨ k ∈ V.Fc ∨ k ∈ V.Fm ∨ k ∈ V.Fo ∨ (∃ q ∈ V.LP,k ∈ q.2.F) ∨ ∃ q ∈ V.GP,k ∈ q.2.F:=by
 simp only [BrV.foot,List.mem_cons,List.mem_append,List.mem_flatMap]
 simp only [or_assoc]
theorem ydH.lt {w:World} {b:Nat} {V:BrV} (h:ydH w b V):∀ k ∈ V.foot b,k < w.heap.size:=fun k hk => by
 obtain ⟨l1,l2,l3,l4,l5,l6,l7,l8⟩:=h.low
 rcases yaF.1 hk with rfl | rfl | rfl | hk | hk | hk | ⟨q,hq,hk⟩ | ⟨q,hq,hk⟩
 ·exact l1
 ·exact l2
 ·exact l3
 ·exact l4 k hk
 ·exact l5 k hk
 ·exact l6 k hk
 ·exact l7 q hq k hk
 ·exact l8 q hq k hk
theorem ydH.keep {w w':World} {b:Nat} {V:BrV} {S:List Nat} (h:ydH w b V) (M:Mod S w w') (hS:∀ k ∈ S,k ∉ V.foot b):ydH w' b V:=by
 have hs:=M.size
 have nf:∀ {k},k ∈ V.foot b → k ∉ S:=fun hk hk' => hS _ hk' hk
 obtain ⟨l1,l2,l3,l4,l5,l6,l7,l8⟩:=h.low
 exact { h with
  cell:=fun hi => M.keep (h.cell hi) (nf (yaF.2 (.inl rfl)))
  cat:=fun hi => (h.cat hi).keep M fun k hk hk' => nf (yaF.2 (.inr (.inr (.inr (.inl hk'))))) hk
  logs:=fun hi => (h.logs hi).keepM M (nf (yaF.2 (.inr (.inl rfl))))
  log:=fun q hq hi => (h.log q hq hi).keep M fun k hk hk' => nf (yaF.2 (.inr (.inr (.inr (.inr (.inr (.inr (.inl ⟨q,hq,hk'⟩)))))))) hk
  ded:=fun hi => (h.ded hi).keep M fun k hk hk' => nf (yaF.2 (.inr (.inr (.inr (.inr (.inl hk')))))) hk
  gs:=fun hi => (h.gs hi).keepM M (nf (yaF.2 (.inr (.inr (.inl rfl)))))
  grp:=fun q hq hi => (h.grp q hq hi).keep M fun k hk hk' => nf (yaF.2 (.inr (.inr (.inr (.inr (.inr (.inr (.inr ⟨q,hq,hk'⟩)))))))) hk
  off:=fun hi => (h.off hi).keep M fun k hk hk' => nf (yaF.2 (.inr (.inr (.inr (.inr (.inr (.inl hk'))))))) hk
  low:=⟨by omega,by omega,by omega,fun k hk => by have:=l4 k hk; omega,fun k hk => by have:=l5 k hk; omega,fun k hk => by have:=l6 k hk; omega,fun q hq k hk => by have:=l7 q hq k hk; omega,fun q hq k hk => by have:=l8 q hq k hk; omega⟩ }
structure BrStep (w w':World) (b:Nat) (V V':BrV):Prop where
 ok:ydH w' b V'
 mod:Mod (V.foot b) w w'
 gr:ybJ w (V.foot b) (V'.foot b)
theorem BrStep.refl {w w':World} {b:Nat} {V:BrV} (h:ydH w b V) (M:Mod [] w w'):BrStep w w' b V V:=⟨h.keep0 M,M.less (by simp),ybJ.refl _ _⟩
theorem BrStep.trans {w w' w'':World} {b:Nat} {V V' V'':BrV} (h:BrStep w w' b V V') (h':BrStep w' w'' b V' V''):BrStep w w'' b V V'' :=
 ⟨h'.ok,(h.mod.trans h'.mod).less fun z hz hl => by
  rcases List.mem_append.1 hz with hz | hz
  ·exact hz
  ·rcases h.gr z hz with hz | hz
   ·exact hz
   ·omega,h.gr.trans h'.gr h.mod.size⟩
theorem BrStep.after0 {w w' w'':World} {b:Nat} {V V':BrV} (h:BrStep w w' b V V') (M:Mod [] w' w''):BrStep w w'' b V V':=h.trans (BrStep.refl h.ok M)
theorem ydH.setCat {w w':World} {b:Nat} {V:BrV} (h:ydH w b V) {cat':TL} {F':List Nat} (M:Mod V.Fc w w') (hT:yf5 w' V.pc cat' F') (G:ybJ w V.Fc F') :
  BrStep w w' b V { V with cat:=cat',Fc:=F',lab:=relab w V.lab .cat }:=by
 have r:=BrRest.step h M h.lc
 obtain ⟨l1,l2,l3,l4,l5,l6,l7,l8⟩:=r.low
 refine ⟨{ cell:=fun _ => r.cell nofun,lb:=r.lb,cat:=fun _ => hT,lc:=yeP h.lc G,logs:=fun _ => r.logs nofun,lm:=r.lm,log:=fun q hq _ => r.log q hq nofun,ll:=r.ll,ded:=fun _ => r.ded nofun,lk:=r.lk,gs:=fun _ => r.gs nofun,lg:=r.lg,grp:=fun q hq _ => r.grp q hq nofun,lgr:=r.lgr,off:=fun _ => r.off nofun,lo:=r.lo,low:=⟨l1,l2,l3,hT.lt,l5,l6,l7,l8⟩ },M.less fun z hz _ => yaF.2 (.inr (.inr (.inr (.inl hz)))),fun z hz => ?_⟩
 rcases yaF.1 hz with h1 | h1 | h1 | h1 | h1 | h1 | h1 | h1
 ·exact .inl (yaF.2 (.inl h1))
 ·exact .inl (yaF.2 (.inr (.inl h1)))
 ·exact .inl (yaF.2 (.inr (.inr (.inl h1))))
 ·exact (G z h1).imp_left fun h1 => yaF.2 (.inr (.inr (.inr (.inl h1))))
 ·exact .inl (yaF.2 (.inr (.inr (.inr (.inr (.inl h1))))))
 ·exact .inl (yaF.2 (.inr (.inr (.inr (.inr (.inr (.inl h1)))))))
 ·exact .inl (yaF.2 (.inr (.inr (.inr (.inr (.inr (.inr (.inl h1))))))))
 ·exact .inl (yaF.2 (.inr (.inr (.inr (.inr (.inr (.inr (.inr h1))))))))
theorem ydH.setMk {w w':World} {b:Nat} {V:BrV} (h:ydH w b V) {eps':List Int} {dd':List (ymZ × List PDid)} {F':List Nat} (M:Mod V.Fm w w') (hT:yf6 w' V.pm eps' dd' F') (G:ybJ w V.Fm F') :
  BrStep w w' b V { V with eps:=eps',dd:=dd',Fm:=F',lab:=relab w V.lab .mk }:=by
 have r:=BrRest.step h M h.lk
 obtain ⟨l1,l2,l3,l4,l5,l6,l7,l8⟩:=r.low
 refine ⟨{ cell:=fun _ => r.cell nofun,lb:=r.lb,cat:=fun _ => r.cat nofun,lc:=r.lc,logs:=fun _ => r.logs nofun,lm:=r.lm,log:=fun q hq _ => r.log q hq nofun,ll:=r.ll,ded:=fun _ => hT,lk:=yeP h.lk G,gs:=fun _ => r.gs nofun,lg:=r.lg,grp:=fun q hq _ => r.grp q hq nofun,lgr:=r.lgr,off:=fun _ => r.off nofun,lo:=r.lo,low:=⟨l1,l2,l3,l4,hT.lt,l6,l7,l8⟩ },M.less fun z hz _ => yaF.2 (.inr (.inr (.inr (.inr (.inl hz))))),fun z hz => ?_⟩
 rcases yaF.1 hz with h1 | h1 | h1 | h1 | h1 | h1 | h1 | h1
 ·exact .inl (yaF.2 (.inl h1))
 ·exact .inl (yaF.2 (.inr (.inl h1)))
 ·exact .inl (yaF.2 (.inr (.inr (.inl h1))))
 ·exact .inl (yaF.2 (.inr (.inr (.inr (.inl h1)))))
 ·exact (G z h1).imp_left fun h1 => yaF.2 (.inr (.inr (.inr (.inr (.inl h1)))))
 ·exact .inl (yaF.2 (.inr (.inr (.inr (.inr (.inr (.inl h1)))))))
 ·exact .inl (yaF.2 (.inr (.inr (.inr (.inr (.inr (.inr (.inl h1))))))))
 ·exact .inl (yaF.2 (.inr (.inr (.inr (.inr (.inr (.inr (.inr h1))))))))
theorem ydH.setOff {w w':World} {b:Nat} {V:BrV} (h:ydH w b V) {marks':OL} {F':List Nat} (M:Mod V.Fo w w') (hT:yhJ w' V.po marks' F') (G:ybJ w V.Fo F') :
  BrStep w w' b V { V with marks:=marks',Fo:=F',lab:=relab w V.lab .off }:=by
 have r:=BrRest.step h M h.lo
 obtain ⟨l1,l2,l3,l4,l5,l6,l7,l8⟩:=r.low
 refine ⟨{ cell:=fun _ => r.cell nofun,lb:=r.lb,cat:=fun _ => r.cat nofun,lc:=r.lc,logs:=fun _ => r.logs nofun,lm:=r.lm,log:=fun q hq _ => r.log q hq nofun,ll:=r.ll,ded:=fun _ => r.ded nofun,lk:=r.lk,gs:=fun _ => r.gs nofun,lg:=r.lg,grp:=fun q hq _ => r.grp q hq nofun,lgr:=r.lgr,off:=fun _ => hT,lo:=yeP h.lo G,low:=⟨l1,l2,l3,l4,l5,hT.lt,l7,l8⟩ },M.less fun z hz _ => yaF.2 (.inr (.inr (.inr (.inr (.inr (.inl hz)))))),fun z hz => ?_⟩
 rcases yaF.1 hz with h1 | h1 | h1 | h1 | h1 | h1 | h1 | h1
 ·exact .inl (yaF.2 (.inl h1))
 ·exact .inl (yaF.2 (.inr (.inl h1)))
 ·exact .inl (yaF.2 (.inr (.inr (.inl h1))))
 ·exact .inl (yaF.2 (.inr (.inr (.inr (.inl h1)))))
 ·exact .inl (yaF.2 (.inr (.inr (.inr (.inr (.inl h1))))))
 ·exact (G z h1).imp_left fun h1 => yaF.2 (.inr (.inr (.inr (.inr (.inr (.inl h1))))))
 ·exact .inl (yaF.2 (.inr (.inr (.inr (.inr (.inr (.inr (.inl h1))))))))
 ·exact .inl (yaF.2 (.inr (.inr (.inr (.inr (.inr (.inr (.inr h1))))))))
theorem yaX.sameV {κ β β':Type} [DecidableEq κ] {P:Program} {t:TypeId} {ek:κ → Value} {ev:β → Value} {ev':β' → Value} {w:World} {m:Nat} {L:List (κ × β)} {L':List (κ × β')} (h:yaX P t ek ev w m L) (e:L'.map (fun p => (p.1,ev' p.2)) = L.map (fun p => (p.1,ev p.2))):yaX P t ek ev' w m L':=by
 obtain ⟨es,clock,hb,he,hk,hs⟩:=h
 refine ⟨es,clock,hb,?_,fun p hp => ?_,hs⟩
 ·rw [he]
  have:=congrArg (List.map fun q:κ × Value => (ek q.1,q.2)) e
  simpa [List.map_map,Function.comp_def] using this.symm
 ·have:(p.1,ev' p.2) ∈ L.map (fun p => (p.1,ev p.2)):=by rw [← e]; exact List.mem_map.2 ⟨p,hp,rfl⟩
  obtain ⟨q,hq,e2⟩:=List.mem_map.1 this
  have e2:=congrArg Prod.fst e2
  rw [← show q.1 = p.1 from e2]; exact hk q hq
theorem ytU {κ β:Type} [DecidableEq κ] {ev:β → Value} {L:List (κ × β)} {k:κ} {x y:β} (hn:(L.map (·.1)).Nodup) (hx:lkp L k = some x) (e:ev y = ev x):(put L k y).map (fun p => (p.1,ev p.2)) = L.map (fun p => (p.1,ev p.2)):=by
 have hm:=yaW hx
 rw [yjW hn (List.mem_map.2 ⟨_,hm,rfl⟩),List.map_map]
 refine List.map_congr_left fun q hq => ?_
 simp only [Function.comp_apply]
 split
 ·rename_i e1
  have:q = (k,x):=yjX hn hq hm e1
  rw [this]; simp [e]
 ·rfl
theorem ydH.setLog {w w':World} {b:Nat} {V:BrV} (h:ydH w b V) {p:PPart} {v:LogV} (hp:lkp V.LP p = some v) {L':List SegS} {F':List Nat} (M:Mod v.F w w') (hT:ydR w' v.p V.room L' F') (G:ybJ w v.F F') :
  BrStep w w' b V { V with LP:=put V.LP p ⟨v.p,L',F'⟩,lab:=relab w V.lab (.log p) }:=by
 have hm:=yaW hp
 have hn:=(h.logs nofun).nodup
 have r:=BrRest.step h M (h.ll _ hm)
 obtain ⟨l1,l2,l3,l4,l5,l6,l7,l8⟩:=r.low
 have hq:∀ q ∈ put V.LP p ⟨v.p,L',F'⟩,q = (p,⟨v.p,L',F'⟩) ∨ q ∈ V.LP ∧ q.1 ≠ p:=fun q hq => yqI hn hq
 refine ⟨{ cell:=fun _ => r.cell nofun,lb:=r.lb,cat:=fun _ => r.cat nofun,lc:=r.lc,logs:=fun _ => (r.logs nofun).sameV (ytU hn hp rfl),lm:=r.lm,log:=fun q hq' _ => ?_,ll:=fun q hq' => ?_,ded:=fun _ => r.ded nofun,lk:=r.lk,gs:=fun _ => r.gs nofun,lg:=r.lg,grp:=fun q hq _ => r.grp q hq nofun,lgr:=r.lgr,off:=fun _ => r.off nofun,lo:=r.lo,low:=⟨l1,l2,l3,l4,l5,l6,fun q hq' => ?_,l8⟩ },M.less fun z hz _ => yaF.2 (.inr (.inr (.inr (.inr (.inr (.inr (.inl ⟨_,hm,hz⟩))))))),fun z hz => ?_⟩
 ·rcases hq q hq' with rfl | ⟨h1,h2⟩
  ·exact hT
  ·exact r.log q h1 fun e => h2 (by injection e with e; exact e.symm)
 ·rcases hq q hq' with rfl | ⟨h1,h2⟩
  ·exact yeP (h.ll _ hm) G
  ·exact r.ll q h1
 ·rcases hq q hq' with rfl | ⟨h1,h2⟩
  ·exact hT.lt
  ·exact l7 q h1
 rcases yaF.1 hz with h1 | h1 | h1 | h1 | h1 | h1 | ⟨q,hq',h1⟩ | h1
 ·exact .inl (yaF.2 (.inl h1))
 ·exact .inl (yaF.2 (.inr (.inl h1)))
 ·exact .inl (yaF.2 (.inr (.inr (.inl h1))))
 ·exact .inl (yaF.2 (.inr (.inr (.inr (.inl h1)))))
 ·exact .inl (yaF.2 (.inr (.inr (.inr (.inr (.inl h1))))))
 ·exact .inl (yaF.2 (.inr (.inr (.inr (.inr (.inr (.inl h1)))))))
 ·rcases hq q hq' with rfl | ⟨h2,_⟩
  ·exact (G z h1).imp_left fun h1 => yaF.2 (.inr (.inr (.inr (.inr (.inr (.inr (.inl ⟨_,hm,h1⟩)))))))
  ·exact .inl (yaF.2 (.inr (.inr (.inr (.inr (.inr (.inr (.inl ⟨_,h2,h1⟩))))))))
 ·exact .inl (yaF.2 (.inr (.inr (.inr (.inr (.inr (.inr (.inr h1))))))))
theorem ydH.setGrp {w w':World} {b:Nat} {V:BrV} (h:ydH w b V) {g:ByteArray} {v:GrpV} (hp:lkp V.GP g = some v) {gen':Int} {rb':Bool} {G':GL} {F':List Nat} (M:Mod v.F w w') (hT:yc0 w' v.p gen' rb' G' F') (G:ybJ w v.F F') :
  BrStep w w' b V { V with GP:=put V.GP g ⟨v.p,gen',rb',G',F'⟩,lab:=relab w V.lab (.grp g) }:=by
 have hm:=yaW hp
 have hn:=(h.gs nofun).nodup
 have r:=BrRest.step h M (h.lgr _ hm)
 obtain ⟨l1,l2,l3,l4,l5,l6,l7,l8⟩:=r.low
 have hq:∀ q ∈ put V.GP g ⟨v.p,gen',rb',G',F'⟩,q = (g,⟨v.p,gen',rb',G',F'⟩) ∨ q ∈ V.GP ∧ q.1 ≠ g:=fun q hq => yqI hn hq
 refine ⟨{ cell:=fun _ => r.cell nofun,lb:=r.lb,cat:=fun _ => r.cat nofun,lc:=r.lc,logs:=fun _ => r.logs nofun,lm:=r.lm,log:=fun q hq _ => r.log q hq nofun,ll:=r.ll,ded:=fun _ => r.ded nofun,lk:=r.lk,gs:=fun _ => (r.gs nofun).sameV (ytU hn hp rfl),lg:=r.lg,grp:=fun q hq' _ => ?_,lgr:=fun q hq' => ?_,off:=fun _ => r.off nofun,lo:=r.lo,low:=⟨l1,l2,l3,l4,l5,l6,l7,fun q hq' => ?_⟩ },M.less fun z hz _ => yaF.2 (.inr (.inr (.inr (.inr (.inr (.inr (.inr ⟨_,hm,hz⟩))))))),fun z hz => ?_⟩
 ·rcases hq q hq' with rfl | ⟨h1,h2⟩
  ·exact hT
  ·exact r.grp q h1 fun e => h2 (by injection e with e; exact e.symm)
 ·rcases hq q hq' with rfl | ⟨h1,h2⟩
  ·exact yeP (h.lgr _ hm) G
  ·exact r.lgr q h1
 ·rcases hq q hq' with rfl | ⟨h1,h2⟩
  ·exact hT.lt
  ·exact l8 q h1
 rcases yaF.1 hz with h1 | h1 | h1 | h1 | h1 | h1 | h1 | ⟨q,hq',h1⟩
 ·exact .inl (yaF.2 (.inl h1))
 ·exact .inl (yaF.2 (.inr (.inl h1)))
 ·exact .inl (yaF.2 (.inr (.inr (.inl h1))))
 ·exact .inl (yaF.2 (.inr (.inr (.inr (.inl h1)))))
 ·exact .inl (yaF.2 (.inr (.inr (.inr (.inr (.inl h1))))))
 ·exact .inl (yaF.2 (.inr (.inr (.inr (.inr (.inr (.inl h1)))))))
 ·exact .inl (yaF.2 (.inr (.inr (.inr (.inr (.inr (.inr (.inl h1))))))))
 ·rcases hq q hq' with rfl | ⟨h2,_⟩
  ·exact (G z h1).imp_left fun h1 => yaF.2 (.inr (.inr (.inr (.inr (.inr (.inr (.inr ⟨_,hm,h1⟩)))))))
  ·exact .inl (yaF.2 (.inr (.inr (.inr (.inr (.inr (.inr (.inr ⟨_,h2,h1⟩))))))))
theorem ydH.addLog {w w1 w':World} {b:Nat} {V:BrV} (h:ydH w b V) {p:PPart} (hp:lkp V.LP p = none) {v:LogV} (M1:Mod [] w w1) (hT:ydR w1 v.p V.room v.L v.F) (hF:∀ k ∈ v.F,w.heap.size ≤ k) (M2:Mod [V.ml] w1 w') (hM:yaX pP 26 hkp LogV.v w' V.ml (put V.LP p v)) :
  BrStep w w' b V { V with LP:=put V.LP p v,lab:=relab w V.lab (.log p) }:=by
 obtain ⟨l1,l2,l3,l4,l5,l6,l7,l8⟩:=h.low
 have s1:=M1.size
 have s2:=M2.size
 have hn:=(h.logs nofun).nodup
 have r:=BrRest.step (i:=.lm) h (S:=[V.ml]) ((M1.trans M2).less fun z hz _ => by simpa using hz) (by simp [h.lm])
 have hmem:∀ q ∈ put V.LP p v,q = (p,v) ∨ q ∈ V.LP:=fun q hq => ycG hq
 have hmF:V.ml ∉ v.F:=fun hk => by have:=hF _ hk; omega
 have old:∀ {k:Nat},k < w.heap.size → relab w V.lab (.log p) k = V.lab k:=fun hk => ycJ hk
 refine ⟨{ cell:=fun _ => r.cell nofun,lb:=(old l1).trans h.lb,cat:=fun _ => r.cat nofun,lc:=fun k hk => (old (l4 k hk)).trans (h.lc k hk),logs:=fun _ => hM,lm:=(old l2).trans h.lm,log:=fun q hq' _ => ?_,ll:=fun q hq' => ?_,ded:=fun _ => r.ded nofun,lk:=fun k hk => (old (l5 k hk)).trans (h.lk k hk),gs:=fun _ => r.gs nofun,lg:=(old l3).trans h.lg,grp:=fun q hq _ => r.grp q hq nofun,lgr:=fun q hq k hk => (old (l8 q hq k hk)).trans (h.lgr q hq k hk),off:=fun _ => r.off nofun,lo:=fun k hk => (old (l6 k hk)).trans (h.lo k hk),low:=⟨r.low.1,r.low.2.1,r.low.2.2.1,r.low.2.2.2.1,r.low.2.2.2.2.1,r.low.2.2.2.2.2.1,fun q hq' => ?_,r.low.2.2.2.2.2.2.2⟩ },(M1.trans M2).less fun z hz _ => yaF.2 (.inr (.inl (by simpa using hz))),fun z hz => ?_⟩
 ·rcases hmem q hq' with rfl | h1
  ·exact hT.keep M2 fun k hk hk' => by simp at hk; subst hk; exact hmF hk'
  ·exact r.log q h1 nofun
 ·rcases hmem q hq' with rfl | h1
  ·exact ytT hF
  ·exact fun k hk => (old (l7 q h1 k hk)).trans (h.ll q h1 k hk)
 ·rcases hmem q hq' with rfl | h1
  ·exact fun k hk => by have:=hT.lt k hk; omega
  ·exact r.low.2.2.2.2.2.2.1 q h1
 rcases yaF.1 hz with h1 | h1 | h1 | h1 | h1 | h1 | ⟨q,hq',h1⟩ | h1
 ·exact .inl (yaF.2 (.inl h1))
 ·exact .inl (yaF.2 (.inr (.inl h1)))
 ·exact .inl (yaF.2 (.inr (.inr (.inl h1))))
 ·exact .inl (yaF.2 (.inr (.inr (.inr (.inl h1)))))
 ·exact .inl (yaF.2 (.inr (.inr (.inr (.inr (.inl h1))))))
 ·exact .inl (yaF.2 (.inr (.inr (.inr (.inr (.inr (.inl h1)))))))
 ·rcases hmem q hq' with rfl | h2
  ·exact .inr (hF z h1)
  ·exact .inl (yaF.2 (.inr (.inr (.inr (.inr (.inr (.inr (.inl ⟨_,h2,h1⟩))))))))
 ·exact .inl (yaF.2 (.inr (.inr (.inr (.inr (.inr (.inr (.inr h1))))))))
theorem ydH.addGrp {w w1 w':World} {b:Nat} {V:BrV} (h:ydH w b V) {g:ByteArray} (hp:lkp V.GP g = none) {v:GrpV} (M1:Mod [] w w1) (hT:yc0 w1 v.p v.gen v.robin v.G v.F) (hF:∀ k ∈ v.F,w.heap.size ≤ k) (M2:Mod [V.mg] w1 w') (hM:yaX pP 9 hks GrpV.v w' V.mg (put V.GP g v)) :
  BrStep w w' b V { V with GP:=put V.GP g v,lab:=relab w V.lab (.grp g) }:=by
 obtain ⟨l1,l2,l3,l4,l5,l6,l7,l8⟩:=h.low
 have s1:=M1.size
 have s2:=M2.size
 have r:=BrRest.step (i:=.gm) h (S:=[V.mg]) ((M1.trans M2).less fun z hz _ => by simpa using hz) (by simp [h.lg])
 have hmem:∀ q ∈ put V.GP g v,q = (g,v) ∨ q ∈ V.GP:=fun q hq => ycG hq
 have hmF:V.mg ∉ v.F:=fun hk => by have:=hF _ hk; omega
 have old:∀ {k:Nat},k < w.heap.size → relab w V.lab (.grp g) k = V.lab k:=fun hk => ycJ hk
 refine ⟨{ cell:=fun _ => r.cell nofun,lb:=(old l1).trans h.lb,cat:=fun _ => r.cat nofun,lc:=fun k hk => (old (l4 k hk)).trans (h.lc k hk),logs:=fun _ => r.logs nofun,lm:=(old l2).trans h.lm,log:=fun q hq' _ => r.log q hq' nofun,ll:=fun q hq k hk => (old (l7 q hq k hk)).trans (h.ll q hq k hk),ded:=fun _ => r.ded nofun,lk:=fun k hk => (old (l5 k hk)).trans (h.lk k hk),gs:=fun _ => hM,lg:=(old l3).trans h.lg,grp:=fun q hq' _ => ?_,lgr:=fun q hq' => ?_,off:=fun _ => r.off nofun,lo:=fun k hk => (old (l6 k hk)).trans (h.lo k hk),low:=⟨r.low.1,r.low.2.1,r.low.2.2.1,r.low.2.2.2.1,r.low.2.2.2.2.1,r.low.2.2.2.2.2.1,r.low.2.2.2.2.2.2.1,fun q hq' => ?_⟩ },(M1.trans M2).less fun z hz _ => yaF.2 (.inr (.inr (.inl (by simpa using hz)))),fun z hz => ?_⟩
 ·rcases hmem q hq' with rfl | h1
  ·exact hT.keep M2 fun k hk hk' => by simp at hk; subst hk; exact hmF hk'
  ·exact r.grp q h1 nofun
 ·rcases hmem q hq' with rfl | h1
  ·exact ytT hF
  ·exact fun k hk => (old (l8 q h1 k hk)).trans (h.lgr q h1 k hk)
 ·rcases hmem q hq' with rfl | h1
  ·exact fun k hk => by have:=hT.lt k hk; omega
  ·exact r.low.2.2.2.2.2.2.2 q h1
 rcases yaF.1 hz with h1 | h1 | h1 | h1 | h1 | h1 | h1 | ⟨q,hq',h1⟩
 ·exact .inl (yaF.2 (.inl h1))
 ·exact .inl (yaF.2 (.inr (.inl h1)))
 ·exact .inl (yaF.2 (.inr (.inr (.inl h1))))
 ·exact .inl (yaF.2 (.inr (.inr (.inr (.inl h1)))))
 ·exact .inl (yaF.2 (.inr (.inr (.inr (.inr (.inl h1))))))
 ·exact .inl (yaF.2 (.inr (.inr (.inr (.inr (.inr (.inl h1)))))))
 ·exact .inl (yaF.2 (.inr (.inr (.inr (.inr (.inr (.inr (.inl h1))))))))
 ·rcases hmem q hq' with rfl | h2
  ·exact .inr (hF z h1)
  ·exact .inl (yaF.2 (.inr (.inr (.inr (.inr (.inr (.inr (.inr ⟨_,h2,h1⟩))))))))
end Go.Proofs.YtkepmmocldnnfaaGreat
