/- Part 3 of the proof of PHOne. -/
import Derived.Test.YtkepmmocldnnfaaGreatPHOneK2
namespace Go.Proofs.YtkepmmocldnnfaaGreat
open Go Go.RowKit
set_option linter.all false
theorem yBA {w:World} {a1 a2:Option Addr} {n1 c1 n2 c2:Nat} {l1 l2:List ByteArray} (h1:ybD w 1 ydC a1 n1 l1) (h2:ybD w 1 ydC a2 n2 l2) (hl:l1.length ≤ 1000000) :
  Calls pP 59 #[.slice a1 n1 c1,.slice a2 n2 c2] w fun e w' => e = .returned (.bool (decide (l1 = l2))) ∧ Mod [] w w':=by
 refine ya2 (yIP ?_)
 have e1:=h1.1
 have e2:=h2.1
 refine yaD (fun h => ⟨congrArg Value.bool (decide_eq_false fun e => ?_).symm,Mod.refl _⟩) fun h => ?_
 ·subst e
  rw [e1,e2] at h
  simp at h
 have hlen:l1.length = l2.length:=by
  simp at h
  omega
 refine yBm (fun mm x w' => ∃ k:Nat,x = k ∧ k ≤ l1.length ∧ l1.take k = l2.take k ∧ Mod [] w w' ∧ mm = l1.length - k) l1.length ⟨0,rfl,by omega,by simp,Mod.refl _,rfl⟩ ?_
 rintro mm x w1 ⟨k,rfl,hk,ht,M,rfl⟩
 refine yaH (fun hlt => ?_) fun hge => ?_
 ·have g1:k < l1.length:=by omega
  have g2:k < l2.length:=by omega
  obtain ⟨x,hx⟩:∃ x,l1[k]? = some x:=⟨_,List.getElem?_eq_getElem g1⟩
  obtain ⟨y,hy⟩:∃ y,l2[k]? = some y:=⟨_,List.getElem?_eq_getElem g2⟩
  refine (h1.keep0 M).ix hx fun q hq => yaN (by simpa [add_zero] using hq 0 _ rfl) ?_
  refine (h2.keep0 M).ix hy fun q hq => yaN (by simpa [add_zero] using hq 0 _ rfl) ?_
  rw [ynM x y]
  refine yaD (fun hne => ?_) fun heq => ?_
  rotate_left
  rotate_right
  ·intro w2 A2
   refine ⟨congrArg Value.bool (decide_eq_false fun e => (show ¬ x = y by simpa using hne) ?_).symm,M.go0 A2.mod (by simp)⟩
   subst e
   rw [hx] at hy
   exact Option.some.inj hy
  ·intro w2 A2
   have he:x = y:=by simpa using heq
   subst he
   exact yBl (l1.length - (k + 1)) (by omega) ⟨k + 1,by rw [yaJ (by omega) (by omega)]; omega,by omega,yfJ ht hx hy,M.go0 A2.mod (by simp),rfl⟩
 ·have hk:k = l1.length:=by omega
  subst hk
  rw [List.take_length,hlen,List.take_length] at ht
  exact ⟨congrArg Value.bool (decide_eq_true ht).symm,M⟩
theorem yuR {w:World} {a1 a2:Option Addr} {n1 c1 n2 c2:Nat} {l1 l2:List PRec} (h1:ybD w 4 yhI a1 n1 l1) (h2:ybD w 4 yhI a2 n2 l2) (hl:l1.length ≤ 1000000) :
  Calls pP 97 #[.slice a1 n1 c1,.slice a2 n2 c2] w fun e w' => e = .returned (.bool (decide (l1 = l2))) ∧ Mod [] w w':=by
 refine ya2 (yIL ?_)
 have e1:=h1.1
 have e2:=h2.1
 refine yaD (fun h => ⟨congrArg Value.bool (decide_eq_false fun e => ?_).symm,Mod.refl _⟩) fun h => ?_
 ·subst e
  rw [e1,e2] at h
  simp at h
 have hlen:l1.length = l2.length:=by
  simp at h
  omega
 refine yBk (fun mm x w' => ∃ k:Nat,x = k ∧ k ≤ l1.length ∧ l1.take k = l2.take k ∧ Mod [] w w' ∧ mm = l1.length - k) l1.length ⟨0,rfl,by omega,by simp,Mod.refl _,rfl⟩ ?_
 rintro mm x w1 ⟨k,rfl,hk,ht,M,rfl⟩
 refine yaH (fun hlt => ?_) fun hge => ?_
 ·have g1:k < l1.length:=by omega
  have g2:k < l2.length:=by omega
  obtain ⟨x,hx⟩:∃ x,l1[k]? = some x:=⟨_,List.getElem?_eq_getElem g1⟩
  obtain ⟨y,hy⟩:∃ y,l2[k]? = some y:=⟨_,List.getElem?_eq_getElem g2⟩
  refine (h1.keep0 M).ix hx fun q hq => ya1 (by simpa [add_zero] using hq 0 _ rfl) (yaN (hq 1 _ rfl) (ya1 (hq 2 _ rfl) (yaN (hq 3 _ rfl) ?_)))
  refine (h2.keep0 M).ix hy fun q hq => ya1 (by simpa [add_zero] using hq 0 _ rfl) (yaN (hq 1 _ rfl) (ya1 (hq 2 _ rfl) (yaN (hq 3 _ rfl) ?_)))
  refine ⟨_,fun w' _ => neR x y _ _ w',?_⟩
  refine yaH (fun hne => ?_) fun heq => ?_
  ·intro w2 A2
   refine ⟨congrArg Value.bool (decide_eq_false fun e => hne ?_).symm,M.go0 A2.mod (by simp)⟩
   subst e
   rw [hx] at hy
   exact Option.some.inj hy
  ·intro w2 A2
   have he:x = y:=Decidable.not_not.1 heq
   subst he
   exact yBj (l1.length - (k + 1)) (by omega) ⟨k + 1,by rw [yaJ (by omega) (by omega)]; omega,by omega,yfJ ht hx hy,M.go0 A2.mod (by simp),rfl⟩
 ·have hk:k = l1.length:=by omega
  subst hk
  rw [List.take_length,hlen,List.take_length] at ht
  exact ⟨congrArg Value.bool (decide_eq_true ht).symm,M⟩
theorem yBB {w:World} {x y:PBatch} {s t:Sl} (h1:ybD w 4 yhI s.a s.n x.recs) (h2:ybD w 4 yhI t.a t.n y.recs) (hl:x.recs.length ≤ 1000000) :
  Calls pP 58 #[x.v s,y.v t] w fun e w' => e = .returned (.bool (decide (x = y))) ∧ Mod [] w w':=by
 obtain ⟨a1,a2,a3,a4⟩:=x
 obtain ⟨b1,b2,b3,b4⟩:=y
 refine ya2 (yIM ?_)
 intro c1 f1 c2 f2
 simp only [PBatch.mk.injEq]
 refine yaD (fun g1 => ?_) fun g1 => ?_
 ·have g1:a1 = b1:=by simpa using g1
  refine yaD (fun g2 => ?_) fun g2 => ?_
  ·have g2:a2 = b2:=by simpa using g2
   refine yaD (fun g3 => ?_) fun g3 => ?_
   ·have g3:a3 = b3:=by simpa using g3
    intro w1 A1
    refine (yuR (h1.keep0 A1.mod) (h2.keep0 A1.mod) hl).mono ?_
    rintro e w2 ⟨rfl,M2⟩
    exact ⟨_,rfl,yaG.of0 M2,by simp [g1,g2,g3],A1.mod.go0 M2 (by simp)⟩
   ·intro w1 A1
    exact ⟨congrArg Value.bool (decide_eq_false (by simp at g3; rintro ⟨_,_,h,_⟩; exact g3 h)).symm,A1.mod⟩
  ·intro w1 A1
   exact ⟨congrArg Value.bool (decide_eq_false (by simp at g2; rintro ⟨_,h,_⟩; exact g2 h)).symm,A1.mod⟩
 ·intro w1 A1
  exact ⟨congrArg Value.bool (decide_eq_false (by simp at g1; rintro ⟨h,_⟩; exact g1 h)).symm,A1.mod⟩
theorem yp3 {w:World} {a:Addr} {o:POp} {rs ts:Sl} {F:Int → ByteArray → Int → Int → Int → Int → Int → Int → Option Addr → Nat → Nat → ByteArray → ByteArray → Int → Bool → Option Addr → Nat → Nat → Prop} (h:∀ j v,(o.cs rs ts)[j]? = some v → w.cell? (a.add j) = some v) (hF:F o.kind o.part.t o.part.n o.n o.off o.b.prod o.b.epoch o.b.seq rs.a rs.n rs.c o.g o.m o.gen o.robin ts.a ts.n ts.c) :
  yaA .i64 w a fun x0 => yaK w (a.add 1) fun x1 => yaA .i64 w (a.add 2) fun x2 => yaA .i64 w (a.add 3) fun x3 => yaA .i64 w (a.add 4) fun x4 => yaA .i64 w (a.add 5) fun x5 => yaA .i64 w (a.add 6) fun x6 => yaA .i64 w (a.add 7) fun x7 => yaC w (a.add 8) fun a8 n8 c8 => yaK w (a.add 9) fun x9 => yaK w (a.add 10) fun x10 => yaA .i64 w (a.add 11) fun x11 => yaR w (a.add 12) fun x12 => yaC w (a.add 13) fun a13 n13 c13 => F x0 x1 x2 x3 x4 x5 x6 x7 a8 n8 c8 x9 x10 x11 x12 a13 n13 c13 :=
 yaI (x:=o.kind) (by simpa [add_zero] using h 0 _ rfl) (yaN (h 1 _ rfl) (yaI (h 2 _ rfl) (yaI (h 3 _ rfl) (yaI (h 4 _ rfl) (yaI (h 5 _ rfl) (yaI (h 6 _ rfl) (yaI (h 7 _ rfl) (yaT (h 8 _ rfl) (yaN (h 9 _ rfl) (yaN (h 10 _ rfl) (yaI (h 11 _ rfl) (ya1 (h 12 _ rfl) (yaT (h 13 _ rfl) hF)))))))))))))
theorem yJp {w:World} {x y:POp} {rs ts rs' ts':Sl} (h1:OpAt w x rs ts) (h2:OpAt w y rs' ts') :
  Calls pP 31 #[x.v rs ts,y.v rs' ts'] w fun e w' => e = .returned (.bool (decide (x = y))) ∧ Mod [] w w':=by
 obtain ⟨k1,p1,n1,o1,b1,g1,m1,e1,r1,t1⟩:=x
 obtain ⟨k2,p2,n2,o2,b2,g2,m2,e2,r2,t2⟩:=y
 refine ya2 (yIQ ?_)
 intro c1 f1 c2 f2
 simp only [POp.mk.injEq]
 have no:∀ {P:Prop} [Decidable P] {w':World},¬ P → Mod [] w w' → (Value.bool false = Value.bool (decide P) ∧ Mod [] w w'):=fun hn M => ⟨congrArg Value.bool (decide_eq_false hn).symm,M⟩
 refine yaD (fun q1 => ?_) fun q1 => ?_
 rotate_left
 ·intro w1 A1
  exact no (by simp at q1; rintro ⟨h,_⟩; exact q1 h) A1.mod
 have q1:k1 = k2:=by simpa using q1
 intro w1 A1
 have M1:=A1.mod
 refine ⟨_,fun w' _ => yLr p1 p2 _ _ w',yaD (fun q2 => ?_) fun q2 => no (by simp at q2; rintro ⟨_,h,_⟩; exact q2 h) M1⟩
 have q2:p1 = p2:=by simpa using q2
 refine yaD (fun q3 => ?_) fun q3 => no (by simp at q3; rintro ⟨_,_,h,_⟩; exact q3 h) M1
 have q3:n1 = n2:=by simpa using q3
 refine yaD (fun q4 => ?_) fun q4 => no (by simp at q4; rintro ⟨_,_,_,h,_⟩; exact q4 h) M1
 have q4:o1 = o2:=by simpa using q4
 refine (yBB (x:=b1) (y:=b2) (s:=rs) (t:=rs') (h1.recs.keep0 M1) (h2.recs.keep0 M1) h1.lr).mono ?_
 rintro e w2 ⟨rfl,M2⟩
 have N2:=M1.go0 M2 (by simp)
 refine ⟨_,rfl,yaG.of0 M2,yaD (fun q9 => ?_) fun q9 => no (by simp at q9; rintro ⟨_,_,_,_,h,_⟩; exact q9 h) N2⟩
 have q9:b1 = b2:=by simpa using q9
 rw [ynM,ynM]
 refine yaD (fun q5 => ?_) fun q5 => no (by simp at q5; rintro ⟨_,_,_,_,_,h,_⟩; exact q5 h) N2
 have q5:g1 = g2:=by simpa using q5
 refine yaD (fun q6 => ?_) fun q6 => no (by simp at q6; rintro ⟨_,_,_,_,_,_,h,_⟩; exact q6 h) N2
 have q6:m1 = m2:=by simpa using q6
 refine yaD (fun q7 => ?_) fun q7 => no (by simp at q7; rintro ⟨_,_,_,_,_,_,_,h,_⟩; exact q7 h) N2
 have q7:e1 = e2:=by simpa using q7
 refine yaD (fun q8 => ?_) fun q8 => no (by simp at q8; rintro ⟨_,_,_,_,_,_,_,_,h,_⟩; exact q8 h) N2
 have q8:r1 = r2:=by simpa using q8
 refine (yBA (h1.topics.keep0 N2) (h2.topics.keep0 N2) h1.lt).mono ?_
 rintro e w3 ⟨rfl,M3⟩
 exact ⟨_,rfl,yaG.of0 M3,by simp [q1,q2,q3,q4,q5,q6,q7,q8,q9],N2.go0 M3 (by simp)⟩
theorem yp4 {w:World} {q:CV} {a:Addr} (h:∀ j v,q.cs[j]? = some v → w.cell? (a.add j) = some v):∀ j v,(q.x.op.cs q.rs q.ts)[j]? = some v → w.cell? ((a.add 2).add j) = some v:=fun j v hv => by
 rw [ypZ,Nat.add_comm 2 j]
 exact h (j + 2) v hv
theorem ymI {w:World} {s t:Sl} {xs ys:List PCall} (h:ybV w s xs) (h':ybV w t ys) (hl:xs.length ≤ 1000000) :
  Calls pP 18 #[.slice s.a s.n s.c,.slice t.a t.n t.c] w fun e w' => e = .returned (.bool (decide (xs = ys))) ∧ Mod [] w w':=by
 obtain ⟨la,hA,gA,rfl⟩:=h
 obtain ⟨lb,hB,gB,rfl⟩:=h'
 have hl:la.length ≤ 1000000:=by simpa using hl
 have e1:=hA.1
 have e2:=hB.1
 refine ya2 (yJm ?_)
 refine yaD (fun g => ⟨congrArg Value.bool (decide_eq_false fun e => ?_).symm,Mod.refl _⟩) fun g => ?_
 ·have:=congrArg List.length e
  simp at this g
  omega
 have g:la.length = lb.length:=by simp at g; omega
 refine yBy (fun mm x w' => ∃ k:Nat,x = k ∧ k ≤ la.length ∧ (la.take k).map (·.x) = (lb.take k).map (·.x) ∧ Mod [] w w' ∧ mm = la.length - k) la.length ⟨0,rfl,by omega,by simp,Mod.refl _,rfl⟩ ?_
 rintro mm x w1 ⟨k,rfl,hk,ht,M1,rfl⟩
 refine yaH (fun hlt => ?_) fun hge => ?_
 ·have g1:k < la.length:=by omega
  have g2:k < lb.length:=by omega
  obtain ⟨x,hx⟩:∃ x,la[k]? = some x:=⟨_,List.getElem?_eq_getElem g1⟩
  obtain ⟨y,hy⟩:∃ y,lb[k]? = some y:=⟨_,List.getElem?_eq_getElem g2⟩
  have bad:∀ {w'},x.x ≠ y.x → Mod [] w w' → (Value.bool false = Value.bool (decide (la.map (·.x) = lb.map (·.x))) ∧ Mod [] w w'):=fun {w'} hne M => by
   refine ⟨congrArg Value.bool (decide_eq_false fun e => hne ?_).symm,M⟩
   have:=congrArg (fun l:List PCall => l[k]?) e
   simpa [hx,hy] using this
  refine (hA.keep0 M1).ixW hx fun q hq => ?_
  intro w2 A2
  have hq:=hq w2 A2.mod
  have N2:=M1.go0 A2.mod (by simp)
  refine yaI (x:=x.x.c) (by simpa [add_zero] using hq 0 _ rfl) ?_
  refine (hB.keep0 N2).ix hy fun q' hq' => yaI (x:=y.x.c) (by simpa [add_zero] using hq' 0 _ rfl) ?_
  refine yaD (fun h1 => bad (fun e => by simp [e] at h1) N2) fun h1 => ?_
  have h1:x.x.c = y.x.c:=by simpa using h1
  refine (hA.keep0 N2).ix hx fun q hq => yaI (x:=x.x.n) (hq 1 _ rfl) ?_
  refine (hB.keep0 N2).ix hy fun q' hq' => yaI (x:=y.x.n) (hq' 1 _ rfl) ?_
  refine yaD (fun h2 => bad (fun e => by simp [e] at h2) N2) fun h2 => ?_
  have h2:x.x.n = y.x.n:=by simpa using h2
  refine (hA.keep0 N2).ix hx fun q hq => yp3 (yp4 hq) ?_
  refine (hB.keep0 N2).ix hy fun q' hq' => yp3 (yp4 hq') ?_
  refine (yJp ((gA x (List.mem_of_getElem? hx)).keep0 N2) ((gB y (List.mem_of_getElem? hy)).keep0 N2)).mono ?_
  rintro e w3 ⟨rfl,M3⟩
  have N3:=N2.go0 M3 (by simp)
  refine ⟨_,rfl,yaD (fun h3 => bad (fun e => by simp [e] at h3) N3) fun h3 => ?_⟩
  have h3:x.x.op = y.x.op:=by simpa using h3
  have he:x.x = y.x:=by
   obtain ⟨⟨a,b,c⟩,_,_⟩:=x
   obtain ⟨⟨a',b',c'⟩,_,_⟩:=y
   simp at h1 h2 h3 ⊢; exact ⟨h1,h2,h3⟩
  exact yBx (la.length - (k + 1)) (by omega) ⟨k + 1,by rw [yaJ (by omega) (by omega)]; omega,by omega,by rw [List.take_add_one,List.take_add_one,hx,hy,List.map_append,List.map_append,ht]; simp [he],N3,rfl⟩
 ·have hk:k = la.length:=by omega
  subst hk
  rw [List.take_length,g,List.take_length] at ht
  exact ⟨congrArg Value.bool (decide_eq_true ht).symm,M1⟩
end Go.Proofs.YtkepmmocldnnfaaGreat
namespace Go.Proofs.YtkepmmocldnnfaaGreat
open Go Go.RowKit Go.ChangeShapes Go.WideShapes Go.ChangeAt
set_option linter.unusedVariables false
set_option linter.unusedSimpArgs false
def yoL:Option TypeDesc → Bool
 | some (.int _) | some .bool | some .string | some (.slice _) | some (.struct _) => true
 | _ => false
inductive OkT (P:Program) (w:World):TypeId → List Value → Prop
 | int {t:TypeId} {k:IntKind} {x:Int} (h:P.underlying t = some (.int k)) (hw:(Lit.int k x).wf = true):OkT P w t [.int k x]
 | bool {t:TypeId} {b:Bool} (h:P.underlying t = some .bool):OkT P w t [.bool b]
 | string {t:TypeId} {s:ByteArray} (h:P.underlying t = some .string) (hs:s.size ≤ maxLen):OkT P w t [.string s]
 | nilSlice {t e:TypeId} (h:P.underlying t = some (.slice e)):OkT P w t [.slice none 0 0]
 | slice {t e:TypeId} {ad:Addr} {len cap:Nat} (rows:Nat → List Value) (h:P.underlying t = some (.slice e)) (hl:len ≤ cap) (hc:cap ≤ maxLen) (h1:∀ i,i < len → (rows i).length = P.cellsOf e)
  (h2:∀ i,i < len → ∀ j v,(rows i)[j]? = some v → w.cell? ((ad.add (i * P.cellsOf e)).add j) = some v) (h3:∀ i,i < len → OkT P w e (rows i)):OkT P w t [.slice (some ad) len cap]
 | struct {t:TypeId} {fs:Array Field} {cs:List Value} (h:P.underlying t = some (.struct fs)) (hn:cs.length = P.cellsOf t) (hf:∀ f ∈ fs.toList,OkT P w f.type ((cs.drop f.offset).take (P.cellsOf f.type))):OkT P w t cs
 | other {t:TypeId} {cs:List Value} (h:yoL (P.underlying t) = false):OkT P w t cs
theorem ymJ {α β:Type} {f:α → Option β}:∀ {l:List α} {r:List β},l.mapM f = some r → ∀ a ∈ l,∃ b,f a = some b
 | [],_,_,a,ha => by cases ha
 | x :: l,r,h,a,ha => by
  rw [List.mapM_cons] at h
  simp only [Option.pure_def,Option.bind_eq_bind,Option.bind_eq_some_iff] at h
  obtain ⟨b,hb,r',hr,_⟩:=h
  rcases List.mem_cons.1 ha with rfl | ha
  ·exact ⟨b,hb⟩
  ·exact ymJ hr a ha
theorem ywX {α β:Type} {f:α → Option β}:∀ {l:List α} {r:List β},l.mapM f = some r → ∀ (j:Nat) (b:β),r[j]? = some b → ∃ a,l[j]? = some a ∧ f a = some b
 | [],r,h,j,b,hb => by simp at h; subst h; simp at hb
 | x :: l,r,h,j,b,hb => by
  rw [List.mapM_cons] at h
  simp only [Option.pure_def,Option.bind_eq_bind,Option.bind_eq_some_iff,Option.some.injEq] at h
  obtain ⟨b',hb',r',hr,rfl⟩:=h
  cases j with
  | zero => simp at hb; subst hb; exact ⟨x,rfl,hb'⟩
  | succ j => obtain ⟨a,h1,h2⟩:=ywX hr j b (by simpa using hb); exact ⟨a,by simpa using h1,h2⟩
theorem ywY {α β:Type} {f:α → Option β}:∀ {l:List α} {r:List β},l.mapM f = some r → r.length = l.length
 | [],r,h => by simp at h; subst h; rfl
 | x :: l,r,h => by
  rw [List.mapM_cons] at h
  simp only [Option.pure_def,Option.bind_eq_bind,Option.bind_eq_some_iff,Option.some.injEq] at h
  obtain ⟨b',hb',r',hr,rfl⟩:=h
  simp [ywY hr]
theorem yBC {w:World} {base n:Nat} {a:Addr} {row:List Value} (h:w.cells? base a n = some row):row.length = n:=by
 unfold World.cells? at h
 split at h
 ·simpa using ywY h
 ·cases h
theorem yBD {w:World} {base n:Nat} {a:Addr} {row:List Value} (h:w.cells? base a n = some row):∀ j v,row[j]? = some v → w.cell? (a.add j) = some v:=by
 intro j v hv
 unfold World.cells? at h
 split at h
 ·obtain ⟨j',h1,h2⟩:=ywX h j v hv
  obtain ⟨hj,rfl⟩:j < n ∧ j = j':=by
   obtain ⟨x,y⟩:=List.getElem?_eq_some_iff.1 h1
   simp at x y; exact ⟨x,y⟩
  exact h2
 ·cases h
theorem yGM {H:Type} {enc:TypeId × Value → H} {P:Program} {w:World} {base:Nat} {sp:Nat → Bool} {held:Bool}:∀ {fuel:Nat} {t:TypeId} {cs:List Value} {x:DataW H × List MemPlace},DataW.trod enc P w base sp held fuel t cs = some x → OkT P w t cs:=by
 intro fuel
 induction fuel with
 | zero => intro t cs x h; cases h
 | succ n ih =>
  intro t cs x h
  cases hu:P.underlying t with
  | none => exact .other (by rw [hu]; rfl)
  | some d =>
   cases d with
   | bool =>
     unfold DataW.trod at h
     rw [hu] at h
     split at h <;> simp_all
     exact .bool hu
   | int k =>
     unfold DataW.trod at h
     rw [hu] at h
     split at h <;> simp_all
     obtain ⟨⟨rfl,hw⟩,_⟩:=h
     exact .int hu hw
   | string =>
     unfold DataW.trod at h
     rw [hu] at h
     split at h <;> simp_all
     exact .string hu h.1
   | slice e =>
     rcases Go.Deep.open_slice hu h with ⟨rfl,_⟩ | ⟨a,len,cap,m,n',D,Pl,rfl,hb,hl,hc,hm,_,hel⟩
     ·exact .nilSlice hu
     ·unfold DataW.trod at h
      rw [hu] at h
      simp only at h
      split at h
      case isFalse => cases h
      rename_i hcond
      simp only [Option.bind_eq_some_iff] at h
      obtain ⟨elems,h1,_⟩:=h
      have key:∀ i,i < len → ∃ row y,w.cells? base (a.add (i * P.cellsOf e)) (P.cellsOf e) = some row ∧ DataW.trod enc P w base sp held n e row = some y:=fun i hi => by
       obtain ⟨y,hy⟩:=ymJ h1 i (by simpa using hi)
       simp only [Option.bind_eq_some_iff] at hy
       obtain ⟨row,hr1,hr2⟩:=hy
       exact ⟨row,y,hr1,hr2⟩
      classical
      refine .slice (fun i => if hi:i < len then (key i hi).choose else []) hu hl hc (fun i hi => ?_) (fun i hi j v hv => ?_) (fun i hi => ?_)
      ·simp only [dif_pos hi]
       obtain ⟨y,hr1,hr2⟩:=(key i hi).choose_spec
       exact yBC hr1
      ·simp only [dif_pos hi] at hv
       obtain ⟨y,hr1,hr2⟩:=(key i hi).choose_spec
       exact yBD hr1 j v hv
      ·simp only [dif_pos hi]
       obtain ⟨y,hr1,hr2⟩:=(key i hi).choose_spec
       exact ih hr2
   | struct fs =>
    unfold DataW.trod at h
    rw [hu] at h
    simp only at h
    split at h
    ·rename_i hn
     simp only [Option.map_eq_some_iff] at h
     obtain ⟨xs,h1,_⟩:=h
     refine .struct hu hn fun f hf => ?_
     obtain ⟨y,hy⟩:=ymJ h1 f hf
     exact ih hy
    ·cases h
   | _ => exact .other (by rw [hu]; rfl)
theorem OkT.int_inv {P:Program} {w:World} {t:TypeId} {k:IntKind} {cs:List Value} (h:OkT P w t cs) (hu:P.underlying t = some (.int k)):∃ x,cs = [.int k x] ∧ (Lit.int k x).wf = true:=by
 cases h <;> simp_all [yoL]
theorem OkT.bool_inv {P:Program} {w:World} {t:TypeId} {cs:List Value} (h:OkT P w t cs) (hu:P.underlying t = some .bool):∃ b,cs = [.bool b]:=by
 cases h <;> simp_all [yoL]
theorem OkT.string_inv {P:Program} {w:World} {t:TypeId} {cs:List Value} (h:OkT P w t cs) (hu:P.underlying t = some .string):∃ s,cs = [.string s] ∧ s.size ≤ maxLen:=by
 cases h <;> simp_all [yoL]
theorem OkT.struct_inv {P:Program} {w:World} {t:TypeId} {fs:Array Field} {cs:List Value} (h:OkT P w t cs) (hu:P.underlying t = some (.struct fs)):cs.length = P.cellsOf t ∧ ∀ f ∈ fs.toList,OkT P w f.type ((cs.drop f.offset).take (P.cellsOf f.type)):=by
 cases h with
 | struct h hn hf => rw [hu] at h; cases h; exact ⟨hn,hf⟩
 | _ => simp_all [yoL]
theorem OkT.slice_inv {P:Program} {w:World} {t e:TypeId} {cs:List Value} {α:Type} {enc:α → List Value} {good:α → Prop} (h:OkT P w t cs) (hu:P.underlying t = some (.slice e))
  (he:∀ row,OkT P w e row → row.length = P.cellsOf e → ∃ x,row = enc x ∧ good x):∃ a len cap l,cs = [.slice a len cap] ∧ ybD w (P.cellsOf e) enc a len l ∧ (∀ x ∈ l,good x) ∧ len ≤ cap ∧ cap ≤ maxLen:=by
 cases h with
 | nilSlice h => exact ⟨none,0,0,[],rfl,⟨rfl,by simp⟩,by simp,Nat.le_refl _,by decide⟩
 | @slice _ _ ad len cap rows h hl hc h1 h2 h3 =>
  rw [hu] at h; cases h
  have key:∀ i,i < len → ∃ x,rows i = enc x ∧ good x:=fun i hi => he _ (h3 i hi) (h1 i hi)
  classical
  by_cases h0:len = 0
  ·subst h0
   exact ⟨_,_,_,[],rfl,⟨rfl,by simp⟩,by simp,hl,hc⟩
  have x0:α:=(key 0 (by omega)).choose
  refine ⟨some ad,len,cap,(List.range len).map (fun i => if hi:i < len then (key i hi).choose else x0),rfl,⟨by simp,fun i x hx => ⟨ad,rfl,fun j v hv => ?_⟩⟩,fun x hx => ?_,hl,hc⟩
  ·rw [List.getElem?_map] at hx
   simp only [Option.map_eq_some_iff] at hx
   obtain ⟨i',hi',rfl⟩:=hx
   obtain ⟨hil,rfl⟩:i < len ∧ i = i':=by
    obtain ⟨a,b⟩:=List.getElem?_eq_some_iff.1 hi'
    simp at a b; exact ⟨a,b⟩
   simp only [dif_pos hil] at hv
   rw [← (key i hil).choose_spec.1] at hv
   exact h2 i hil j v hv
  ·simp only [List.mem_map,List.mem_range] at hx
   obtain ⟨i,hi,rfl⟩:=hx
   simp only [dif_pos hi]
   exact (key i hi).choose_spec.2
 | _ => simp_all [yoL]
end Go.Proofs.YtkepmmocldnnfaaGreat
namespace Go.Proofs.YtkepmmocldnnfaaGreat
open Go Go.RowKit Go.Maps Go.MapKept
set_option linter.unusedVariables false
set_option linter.unusedSimpArgs false
theorem cI:Tryz.prog.cellsOf 3 = 1:=by kernel_rfl
theorem cB:Tryz.prog.cellsOf 4 = 1:=by kernel_rfl
theorem cS:Tryz.prog.cellsOf 9 = 1:=by kernel_rfl
theorem cE:Tryz.prog.cellsOf 37 = 1:=by kernel_rfl
theorem cSF:Tryz.prog.cellsOf 41 = 1:=by kernel_rfl
theorem cSP:Tryz.prog.cellsOf 42 = 1:=by kernel_rfl
theorem cSR:Tryz.prog.cellsOf 27 = 1:=by kernel_rfl
theorem cSS:Tryz.prog.cellsOf 30 = 1:=by kernel_rfl
theorem cSC:Tryz.prog.cellsOf 23 = 1:=by kernel_rfl
theorem cRc:Tryz.prog.cellsOf 74 = 4:=by kernel_rfl
theorem cFd:Tryz.prog.cellsOf 165 = 5:=by kernel_rfl
theorem cPt:Tryz.prog.cellsOf 26 = 2:=by kernel_rfl
theorem cRp:Tryz.prog.cellsOf 44 = 6:=by kernel_rfl
theorem cBt:Tryz.prog.cellsOf 29 = 4:=by kernel_rfl
theorem cOp:Tryz.prog.cellsOf 32 = 14:=by kernel_rfl
theorem cCl:Tryz.prog.cellsOf 35 = 16:=by kernel_rfl
theorem yGN (w:World) (row:List Value) (h:OkT pP w 74 row) (hl:row.length = Tryz.prog.cellsOf 74):∃ r:PRec,row = [.bool r.hk,.string r.key,.bool r.tomb,.string r.val] ∧ r.key.size ≤ maxLen ∧ r.val.size ≤ maxLen:=by
 rw [cRc] at hl
 match row,hl with
 | [a,b,c,d],_ =>
  obtain ⟨_,hf⟩:=h.struct_inv Tryz.underlying74
  simp [cI,cB,cS,cE] at hf
  obtain ⟨ha,hb,hc,hd⟩:=hf
  obtain ⟨x1,e1⟩:=ha.bool_inv Tryz.underlying4
  obtain ⟨x2,e2,g2⟩:=hb.string_inv Tryz.underlying9
  obtain ⟨x3,e3⟩:=hc.bool_inv Tryz.underlying4
  obtain ⟨x4,e4,g4⟩:=hd.string_inv Tryz.underlying9
  simp at e1 e2 e3 e4
  subst e1 e2 e3 e4
  exact ⟨⟨x1,x2,x3,x4⟩,rfl,g2,g4⟩
theorem yEm (w:World) (row:List Value) (h:OkT pP w 26 row) (hl:row.length = Tryz.prog.cellsOf 26):∃ x:PPart,row = ylG x ∧ x.t.size ≤ maxLen:=by
 rw [cPt] at hl
 match row,hl with
 | [a,b],_ =>
  obtain ⟨_,hf⟩:=h.struct_inv Tryz.underlying26
  simp [cI,cB,cS,cE,cSF,cSP,cSR,cSS,cSC,cPt,cRc,cFd,cRp] at hf
  obtain ⟨ha,hb⟩:=hf
  obtain ⟨x1,e1,g1⟩:=ha.string_inv Tryz.underlying9
  obtain ⟨x2,e2,_⟩:=hb.int_inv Tryz.underlying3
  simp at e1 e2
  subst e1 e2
  exact ⟨⟨x1,x2⟩,rfl,g1⟩
theorem yGO (w:World) (row:List Value) (h:OkT pP w 9 row) (hl:row.length = Tryz.prog.cellsOf 9):∃ s:ByteArray,row = ydC s ∧ s.size ≤ maxLen:=by
 obtain ⟨s,rfl,g⟩:=h.string_inv Tryz.underlying9
 exact ⟨s,rfl,g⟩
structure OpRd (w:World) (o:POp) (rs ts:Sl):Prop where
 recs:ybD w 4 yhI rs.a rs.n o.b.recs
 topics:ybD w 1 ydC ts.a ts.n o.topics
 wr:rs.n ≤ maxLen
 wt:ts.n ≤ maxLen
 sr:∀ r ∈ o.b.recs,r.key.size ≤ maxLen ∧ r.val.size ≤ maxLen
 st:∀ s ∈ o.topics,s.size ≤ maxLen
 sp:o.part.t.size ≤ maxLen
 sg:o.g.size ≤ maxLen
 sm:o.m.size ≤ maxLen
theorem OpRd.keep0 {w w':World} {o:POp} {rs ts:Sl} (h:OpRd w o rs ts) (M:Mod [] w w'):OpRd w' o rs ts:=⟨h.recs.keep0 M,h.topics.keep0 M,h.wr,h.wt,h.sr,h.st,h.sp,h.sg,h.sm⟩
structure OV where
 o:POp
 rs:Sl
 ts:Sl
def OV.cs (q:OV):List Value:=q.o.cs q.rs q.ts
theorem yBE (w:World) (row:List Value) (h:OkT pP w 29 row) (hl:row.length = Tryz.prog.cellsOf 29):∃ (b:PBatch) (rs:Sl),row = [.int .i64 b.prod,.int .i64 b.epoch,.int .i64 b.seq,.slice rs.a rs.n rs.c] ∧ ybD w 4 yhI rs.a rs.n b.recs ∧ rs.n ≤ maxLen ∧ ∀ r ∈ b.recs,r.key.size ≤ maxLen ∧ r.val.size ≤ maxLen:=by
 rw [cBt] at hl
 match row,hl with
 | [a,b,c,d],_ =>
  obtain ⟨_,hf⟩:=h.struct_inv Tryz.underlying29
  simp [cI,cB,cS,cE,cSF,cSP,cSR,cSS,cSC,cPt,cRc,cFd,cRp,cBt,cOp,cCl] at hf
  obtain ⟨ha,hb,hc,hd⟩:=hf
  obtain ⟨x1,e1,_⟩:=ha.int_inv Tryz.underlying3
  obtain ⟨x2,e2,_⟩:=hb.int_inv Tryz.underlying3
  obtain ⟨x3,e3,_⟩:=hc.int_inv Tryz.underlying3
  obtain ⟨ra,rn,rc,rl,e5,s5,g5,u5,c5⟩:=hd.slice_inv (enc:=yhI) Tryz.underlying27 (yGN w)
  simp at e1 e2 e3 e5
  subst e1 e2 e3 e5
  rw [cRc] at s5
  exact ⟨⟨x1,x2,x3,rl⟩,⟨ra,rn,rc⟩,rfl,s5,by show rn ≤ _; omega,g5⟩
theorem yJq (w:World) (row:List Value) (h:OkT pP w 32 row) (hl:row.length = Tryz.prog.cellsOf 32):∃ x:OV,row = OV.cs x ∧ OpRd w x.o x.rs x.ts:=by
 rw [cOp] at hl
 match row,hl with
 | [a,b,c,d,e,f,g,i,j,k,l,m,n,o],_ =>
  obtain ⟨_,hf⟩:=h.struct_inv Tryz.underlying32
  simp [cI,cB,cS,cE,cSF,cSP,cSR,cSS,cSC,cPt,cRc,cFd,cRp,cBt,cOp,cCl] at hf
  obtain ⟨h1,h2,h3,h4,h5,h6,h7,h8,h9,h10⟩:=hf
  obtain ⟨x1,e1,_⟩:=h1.int_inv Tryz.underlying3
  obtain ⟨x2,e2,g2⟩:=yEm w _ h2 cPt.symm
  obtain ⟨x3,e3,_⟩:=h3.int_inv Tryz.underlying3
  obtain ⟨x4,e4,_⟩:=h4.int_inv Tryz.underlying3
  obtain ⟨x5,rs,e5,s5,w5,g5⟩:=yBE w _ h5 cBt.symm
  obtain ⟨x6,e6,g6⟩:=h6.string_inv Tryz.underlying9
  obtain ⟨x7,e7,g7⟩:=h7.string_inv Tryz.underlying9
  obtain ⟨x8,e8,_⟩:=h8.int_inv Tryz.underlying3
  obtain ⟨x9,e9⟩:=h9.bool_inv Tryz.underlying4
  obtain ⟨ta,tn,tc,tl,e10,s10,g10,u10,c10⟩:=h10.slice_inv (enc:=ydC) Tryz.underlying30 (yGO w)
  simp [ylG] at e1 e2 e3 e4 e5 e6 e7 e8 e9 e10
  subst e1 e3 e4 e6 e7 e8 e9 e10
  obtain ⟨rfl,rfl⟩:=e2
  obtain ⟨rfl,rfl,rfl,rfl⟩:=e5
  rw [cS] at s10
  exact ⟨⟨⟨x1,x2,x3,x4,x5,x6,x7,x8,x9,tl⟩,rs,⟨ta,tn,tc⟩⟩,rfl,⟨s5,s10,w5,by show tn ≤ _; omega,g5,g10,g2,g6,g7⟩⟩
end Go.Proofs.YtkepmmocldnnfaaGreat
namespace Go.Proofs.YtkepmmocldnnfaaGreat
open Go Go.RowKit
set_option linter.all false
section
set_option maxRecDepth 100000
variable {R:VWP} {w w0:World} {m:Nat} {i0 i1 i2 i3 i4 i5 i6 i7 i8 i9 j0 j1 j2 j3 j4 j5 j6 j7 j8 j9 k0 k1 k2 k3 k4 k5 k6 k7 k8 k9 l0 l1 l2 l3 l4 l5 l6 l7 l8 l9:Int} {s0 s1 s2 s3 s4 s5 s6 s7 s8 s9 t0 t1 t2 t3 t4 t5 t6 t7 t8 t9:BA} {n0 n1 n2 n3 n4 n5 n6 n7 n8 n9 o0 o1 o2 o3 o4 o5 o6 o7 o8 o9 p0 p1 p2 p3 p4 p5 p6 p7 p8 p9:Nat} {q0 q1 q2 q3 q4 q5 q6 q7 q8 q9 r0 r1 r2 r3 r4 r5 r6 r7 r8 r9:OA} {B0 B1 B2 B3 B4 B5 B6 B7 B8 B9:Bool} {M0 M1 M2 M3:Option Nat} {V0 V1 V2 V3 V4 V5:Value} {A0 A1 A2:Addr}
theorem yJr {a0:BA} {a1:BA} (h :
 ∀ b3,w.heap.size ≤ b3 →
 ∀ b4,w.heap.size ≤ b4 →
 slS a0 0 (if 80 < (a0.size:Int) then 80 else (a0.size:Int)) fun s6 =>
 slS a1 0 (if 600 < (a1.size:Int) then 600 else (a1.size:Int)) fun s8 =>
 ∀ w9,Adv [] [b4,b3] w w9 →
 R (.agg (Z11 B0 s6 B1 s8)) w9) :
 CR pP 32 #[(.agg (Z11 B0 a0 B1 a1))] w R :=
 yaB Tryz.wide_mixed (an:=[]) Tryz.func32 rfl rfl (by kernel_rfl) rfl (Eq.mpr (by kernel_rfl) h)
def yuS:LA:=⟨[0,0,1,0,1,1],[1,2,3,4],[(1,0,0),(2,1,0),(3,2,0)],3,[]⟩
def ywZ:List LA:=[yuS]
abbrev yJs:=dnF pP ywZ (code Tryz.f19)
abbrev yMx:=ya0 pP ywZ (code Tryz.f19)
abbrev yJt (p:List Nat) (K:List Kh) (R:VWP):=ya0 pP ywZ (code Tryz.f19) p K (ybO pP Tryz.f19 [] R)
def yoM (bm0:Nat) (a6 a7 a8:Int) (a0:OA) (a4 a2 bm1 bm2:Nat) (a9 b0 b1:Int):Int × (Option Addr) × Nat × Nat → List Value × List TB:=fun (b2,a1,a5,a3) => ([(.pointer (some ⟨bm0,0,none⟩)),(.pointer (some ⟨bm1,0,none⟩)),(.pointer (some ⟨bm2,0,none⟩)),.int .i64 b2],[⟨bm0,29,[.int .i64 a6,.int .i64 a7,.int .i64 a8,.slice a0 a4 a2],false⟩,⟨bm1,29,[.int .i64 0,.int .i64 0,.int .i64 0,.slice none 0 0],false⟩,⟨bm2,29,[.int .i64 a9,.int .i64 b0,.int .i64 b1,.slice a1 a5 a3],false⟩])
abbrev yFp (bm0:Nat) (a3 a4 a5:Int) (a0:OA) (a2 a1 bm1 bm2:Nat) (a6 a7 a8:Int) (I:Nat → Int → Option Addr → Nat → Nat → World → Prop) (m:Nat):Kh:=KG (yoM bm0 a3 a4 a5 a0 a2 a1 bm1 bm2 a6 a7 a8) (U4 I) m
theorem yBF {I:Nat → Int → Option Addr → Nat → Nat → World → Prop} (m':Nat) (h1:m' < m) (h2:I m' i6 q1 n5 n6 w):KS (yFp n0 i0 i1 i2 q0 n1 n2 n3 n4 i3 i4 i5 I m) (yoM n0 i0 i1 i2 q0 n1 n2 n3 n4 i3 i4 i5 (i6,q1,n5,n6)) w:=⟨m',h1,_,rfl,rfl,h2⟩
theorem yBG {a7:OA} {b3:OA} (I:Nat → Int → Option Addr → Nat → Nat → World → Prop) (m0:Nat) (h0:I m0 i6 b3 n5 n6 w0)
 (hr:∀ m b2 a0 a2 a1 w,I m b2 a0 a2 a1 w →
 brB (decide (b2 < (n1:Int))) (
 brB (decide (b2 < 20)) (
 ixA a7 n1 b2 4 fun q7 =>
 ∀ w8,Adv [] [] w w8 →
 yaR w8 q7 fun t9 => yaK w8 (Addr.add q7 1) fun d1 => yaR w8 (Addr.add q7 2) fun d3 => yaK w8 (Addr.add q7 3) fun d2 =>
 Calls pP 32 #[(.agg (Z11 t9 d1 d3 d2))] w8 fun e c1 => ∃ b9 b7 c0 b8,e = .returned (.agg (Z11 b9 b7 c0 b8)) ∧ yaG [n0,n3,n4] w8 c1 ∧ (((.slice a0 a2 a1):Value) = (.slice a0 a2 a1)) ∧
 al c1 (.cells (Z11 b9 b7 c0 b8) 74) fun c8 c2 =>
 ybN pP (Builtin.append_ #[27,27] 27 #[.slice a0 a2 a1,(.slice (some ⟨c8,0,none⟩) 1 1)]) c2 fun c7 d0 c9 c3 => yaG [n0,n3,n4] c2 c3 ∧
 ∀ c4,Adv [n4] [] c3 c4 →
 KS (yFp n0 i0 i1 i2 a7 n1 n2 n3 n4 i3 i4 i5 I m) (yoM n0 i0 i1 i2 a7 n1 n2 n3 n4 i3 i4 i5 ((IntKind.wrap .i64 (b2 + 1)),c7,d0,c9)) c4)
 (
 ∀ c5,Adv [n3] [] w c5 →
 R (.agg (Z9 i3 i4 i5 a0 a2 a1)) c5))
 (
 ∀ c6,Adv [n3] [] w c6 →
 R (.agg (Z9 i3 i4 i5 a0 a2 a1)) c6)) :
 yaU yuS (yJs 396 [0,0,1,0,1,1]) (yJt [1,1,0,1,0] [] R) (yoM n0 i0 i1 i2 a7 n1 n2 n3 n4 i3 i4 i5 (i6,b3,n5,n6)) w0 :=
 lrule (yoM n0 i0 i1 i2 a7 n1 n2 n3 n4 i3 i4 i5) (U4 I) h0 (by rintro m ⟨b2,a0,a2,a1⟩ w h; exact ⟨by kernel_rfl,by kernel_rfl,fun js => Eq.mpr (by kernel_rfl) (hr m b2 a0 a2 a1 w h)⟩)
theorem yJu (h :
 ∀ b3,w.heap.size ≤ b3 →
 ∀ b4,w.heap.size ≤ b4 →
 ∀ b6,w.heap.size ≤ b6 →
 ∀ a6,Adv [] [b6,b4,b3] w a6 →
 yaU yuS (yJs 396 [0,0,1,0,1,1]) (yJt [1,1,0,1,0] [] R) (yoM b3 i0 i1 i2 q0 n0 n1 b4 b6 i0 i1 i2 (0,none,0,0)) a6) :
 CR pP 19 #[(.agg (Z9 i0 i1 i2 q0 n0 n1))] w R :=
 yaB Tryz.wide_mixed (an:=ywZ) Tryz.func19 rfl rfl (by kernel_rfl) rfl (Eq.mpr (by kernel_rfl) h)
def yuT:LA:=⟨[0,0,1,0,1,1,1,1,1,1,1],[1,2,3,4],[(1,0,0),(2,1,0),(3,2,0)],3,[]⟩
def yw0:List LA:=[yuT]
abbrev yJv:=dnF pP yw0 (code Tryz.f7)
abbrev yMy:=ya0 pP yw0 (code Tryz.f7)
abbrev yJw (p:List Nat) (K:List Kh) (R:VWP):=ya0 pP yw0 (code Tryz.f7) p K (ybO pP Tryz.f7 [] R)
def yoN (bm0:Nat) (c2:Int) (b8:BA) (c3 c4 c5 c6 c7 c8:Int) (b2:OA) (b6 b4:Nat) (b9 a6:BA) (b0:Int) (a8:Bool) (a0:OA) (a4 a2 bm1 bm2:Nat) (c9:Int) (c0:BA) (d0 d1 d2 d3 d4 d5:Int) (b3:OA) (b7 b5:Nat) (c1 a7:BA) (b1:Int) (a9:Bool):Int × (Option Addr) × Nat × Nat → List Value × List TB:=fun (d6,a1,a5,a3) => ([(.pointer (some ⟨bm0,0,none⟩)),(.pointer (some ⟨bm1,0,none⟩)),(.pointer (some ⟨bm2,0,none⟩)),.int .i64 d6],[⟨bm0,32,[.int .i64 c2,.string b8,.int .i64 c3,.int .i64 c4,.int .i64 c5,.int .i64 c6,.int .i64 c7,.int .i64 c8,.slice b2 b6 b4,.string b9,.string a6,.int .i64 b0,.bool a8,.slice a0 a4 a2],false⟩,⟨bm1,32,[.int .i64 0,.string ByteArray.empty,.int .i64 0,.int .i64 0,.int .i64 0,.int .i64 0,.int .i64 0,.int .i64 0,.slice none 0 0,.string ByteArray.empty,.string ByteArray.empty,.int .i64 0,.bool false,.slice none 0 0],false⟩,⟨bm2,32,[.int .i64 c9,.string c0,.int .i64 d0,.int .i64 d1,.int .i64 d2,.int .i64 d3,.int .i64 d4,.int .i64 d5,.slice b3 b7 b5,.string c1,.string a7,.int .i64 b1,.bool a9,.slice a1 a5 a3],false⟩])
abbrev yFq (bm0:Nat) (b9:Int) (b5:BA) (c0 c1 c2 c3 c4 c5:Int) (a9:OA) (b3 b1:Nat) (b6 a3:BA) (a7:Int) (a5:Bool) (a0:OA) (a2 a1 bm1 bm2:Nat) (c6:Int) (b7:BA) (c7 c8 c9 d0 d1 d2:Int) (b0:OA) (b4 b2:Nat) (b8 a4:BA) (a8:Int) (a6:Bool) (I:Nat → Int → Option Addr → Nat → Nat → World → Prop) (m:Nat):Kh:=KG (yoN bm0 b9 b5 c0 c1 c2 c3 c4 c5 a9 b3 b1 b6 a3 a7 a5 a0 a2 a1 bm1 bm2 c6 b7 c7 c8 c9 d0 d1 d2 b0 b4 b2 b8 a4 a8 a6) (U4 I) m
theorem yBH {I:Nat → Int → Option Addr → Nat → Nat → World → Prop} (m':Nat) (h1:m' < m) (h2:I m' j6 q3 n9 o0 w):KS (yFq n0 i0 s0 i1 i2 i3 i4 i5 i6 q0 n1 n2 s1 s2 i7 B0 q1 n3 n4 n5 n6 i8 s3 i9 j0 j1 j2 j3 j4 q2 n7 n8 s4 s5 j5 B1 I m) (yoN n0 i0 s0 i1 i2 i3 i4 i5 i6 q0 n1 n2 s1 s2 i7 B0 q1 n3 n4 n5 n6 i8 s3 i9 j0 j1 j2 j3 j4 q2 n7 n8 s4 s5 j5 B1 (j6,q3,n9,o0)) w:=⟨m',h1,_,rfl,rfl,h2⟩
theorem yBI (I:Nat → Int → Option Addr → Nat → Nat → World → Prop) (m0:Nat) (h0:I m0 j6 q3 n9 o0 w0)
 (hr:∀ m d6 a2 a4 a3 w,I m d6 a2 a4 a3 w →
 brB (decide (d6 < (n3:Int))) (
 brB (decide (d6 < 12)) (
 ixA q1 n3 d6 1 fun f2 =>
 ∀ e0,Adv [] [] w e0 →
 yaK e0 f2 fun f4 =>
 ixA q1 n3 d6 1 fun f3 =>
 yaK e0 f3 fun e2 =>
 slS f4 0 (if 40 < (e2.size:Int) then 40 else (e2.size:Int)) fun f5 =>
 al e0 (.cells #[.string f5] 9) fun e9 e3 =>
 ybN pP (Builtin.append_ #[30,30] 30 #[.slice a2 a4 a3,(.slice (some ⟨e9,0,none⟩) 1 1)]) e3 fun e8 f1 f0 e4 => yaG [n0,n5,n6] e3 e4 ∧
 ∀ e5,Adv [n6] [] e4 e5 →
 KS (yFq n0 i0 s0 i1 i2 i3 i4 i5 i6 q0 n1 n2 s1 s2 i7 B0 q1 n3 n4 n5 n6 i8 s3 i9 j0 j1 j2 j3 j4 q2 n7 n8 s4 s5 j5 B1 I m) (yoN n0 i0 s0 i1 i2 i3 i4 i5 i6 q0 n1 n2 s1 s2 i7 B0 q1 n3 n4 n5 n6 i8 s3 i9 j0 j1 j2 j3 j4 q2 n7 n8 s4 s5 j5 B1 ((IntKind.wrap .i64 (d6 + 1)),e8,f1,f0)) e5)
 (
 ∀ e6,Adv [n5] [] w e6 →
 R (.agg (Z2 i8 s3 i9 j0 j1 j2 j3 j4 q2 n7 n8 s4 s5 j5 B1 a2 a4 a3)) e6))
 (
 ∀ e7,Adv [n5] [] w e7 →
 R (.agg (Z2 i8 s3 i9 j0 j1 j2 j3 j4 q2 n7 n8 s4 s5 j5 B1 a2 a4 a3)) e7)) :
 yaU yuT (yJv 391 [0,0,1,0,1,1,1,1,1,1,1]) (yJw [1,1,1,1,1,1,1,0,1,0] [] R) (yoN n0 i0 s0 i1 i2 i3 i4 i5 i6 q0 n1 n2 s1 s2 i7 B0 q1 n3 n4 n5 n6 i8 s3 i9 j0 j1 j2 j3 j4 q2 n7 n8 s4 s5 j5 B1 (j6,q3,n9,o0)) w0 :=
 lrule (yoN n0 i0 s0 i1 i2 i3 i4 i5 i6 q0 n1 n2 s1 s2 i7 B0 q1 n3 n4 n5 n6 i8 s3 i9 j0 j1 j2 j3 j4 q2 n7 n8 s4 s5 j5 B1) (U4 I) h0 (by rintro m ⟨d6,a2,a4,a3⟩ w h; exact ⟨by kernel_rfl,by kernel_rfl,fun js => Eq.mpr (by kernel_rfl) (hr m d6 a2 a4 a3 w h)⟩)
theorem yJx {a1:BA} {a2 a0:BA} (h :
 ∀ b3,w.heap.size ≤ b3 →
 ∀ b4,w.heap.size ≤ b4 →
 ∀ b6,w.heap.size ≤ b6 →
 slS a1 0 (if 40 < (a1.size:Int) then 40 else (a1.size:Int)) fun s8 =>
 slS a2 0 (if 40 < (a2.size:Int) then 40 else (a2.size:Int)) fun d0 =>
 slS a0 0 (if 40 < (a0.size:Int) then 40 else (a0.size:Int)) fun d1 =>
 ∀ c1,Adv [] [b6,b4,b3] w c1 →
 Calls pP 19 #[(.agg (Z9 i4 i5 i6 q0 n0 n1))] c1 fun e c5 => ∃ c7 c8 c9 c2 c4 c3,e = .returned (.agg (Z9 c7 c8 c9 c2 c4 c3)) ∧ yaG [b3,b4,b6] c1 c5 ∧
 ∀ c6,Adv [b6] [] c5 c6 →
 yaU yuT (yJv 391 [0,0,1,0,1,1,1,1,1,1,1]) (yJw [1,1,1,1,1,1,1,0,1,0] [] R) (yoN b3 i0 a1 i1 i2 i3 i4 i5 i6 q0 n0 n1 a2 a0 i7 B0 q1 n2 n3 b4 b6 i0 s8 i1 i2 i3 c7 c8 c9 c2 c4 c3 d0 d1 i7 B0 (0,none,0,0)) c6) :
 CR pP 7 #[(.agg (Z2 i0 a1 i1 i2 i3 i4 i5 i6 q0 n0 n1 a2 a0 i7 B0 q1 n2 n3))] w R :=
 yaB Tryz.wide_mixed (an:=yw0) Tryz.func7 rfl rfl (by kernel_rfl) rfl (Eq.mpr (by kernel_rfl) h)
end
theorem ybD.flatB {α:Type} {w:World} {sz:Nat} {enc:α → List Value} {b:Nat} {T:TypeId} {l:List α} (hs:∀ x,(enc x).length = sz) (h:w.heap[b]? = some (.cells (l.flatMap enc).toArray T)):ybD w sz enc (some ⟨b,0,none⟩) l.length l :=
 ⟨rfl,fun i x hx => ⟨_,rfl,fun j v hv => by
  have hj:j < sz:=by rw [← hs x]; exact (List.getElem?_eq_some_iff.1 hv).1
  rw [ycE,ycE,yaY h]
  have:=ycQ hs l i j x hx hj
  simp only [Nat.zero_add]
  rw [List.getElem?_toArray,this]
  exact hv⟩⟩
def yzA (n:Nat) (s:ByteArray):ByteArray:=s.extract 0 (min s.size n)
theorem yjP {s:ByteArray} {m:Int} {n:Nat} {F:ByteArray → Prop} (hm:m = (n:Nat)) (hF:F (yzA n s)):slS s 0 (if m < (s.size:Int) then m else (s.size:Int)) F:=by
 subst hm
 refine ⟨by omega,by split <;> omega,by split <;> omega,?_⟩
 have e:(if (n:Int) < (s.size:Int) then (n:Int) else (s.size:Int)).toNat = min s.size n:=by split <;> omega
 rw [e]; exact hF
theorem ysH {α β:Type} {f:α → β} {l:List α} {k:Nat} {x:α} (hx:l[k]? = some x):(l.take (k + 1)).map f = (l.take k).map f ++ [f x]:=by
 rw [List.take_add_one,hx]; simp
theorem ysI {α:Type} {l:List α} {k:Nat} (n:Nat) (hk:k ≤ n) (h:¬ (k < l.length ∧ k < n)) (hk2:k ≤ l.length):l.take k = l.take n:=by
 by_cases h1:k = n
 ·rw [h1]
 ·rw [List.take_of_length_le (by omega),List.take_of_length_le (by omega)]
def yJy (r:PRec):PRec:=⟨r.hk,yzA 80 r.key,r.tomb,yzA 600 r.val⟩
def yAI (b:PBatch):PBatch:=⟨b.prod,b.epoch,b.seq,(b.recs.take 20).map yJy⟩
def yEn (o:POp):POp:=⟨o.kind,⟨yzA 40 o.part.t,o.part.n⟩,o.n,o.off,yAI o.b,yzA 40 o.g,yzA 40 o.m,o.gen,o.robin,(o.topics.take 12).map (yzA 40)⟩
theorem yEo (r:PRec) (w:World):Calls pP 32 #[r.v] w fun e w' => e = .returned (yJy r).v ∧ Mod [] w w':=by
 refine ya2 (yJr ?_)
 intro b1 f1 b2 f2
 refine yjP (n:=80) rfl (yjP (n:=600) rfl ?_)
 intro w3 A3
 exact ⟨rfl,A3.mod⟩
theorem yBJ {w:World} {b:PBatch} {rs:Sl} (h:ybD w 4 yhI rs.a rs.n b.recs) (hw:rs.n ≤ maxLen) :
  Calls pP 19 #[b.v rs] w fun e w' => ∃ v,e = .returned v ∧ ∃ rs':Sl,v = (yAI b).v rs' ∧ Row w' w.heap.size 74 4 yhI rs'.a rs'.n rs'.c (yAI b).recs ∧ Mod [] w w':=by
 refine yJu ?_
 intro b1 f1 b2 f2 b3 f3 w1 A1
 have l1:=A1.lt b1 (by simp)
 have l2:=A1.lt b2 (by simp)
 have l3:=A1.lt b3 (by simp)
 have s1:=A1.mod.size
 have hn:=h.1
 refine yBG (fun mm x a n c w' => ∃ k:Nat,x = k ∧ k ≤ b.recs.length ∧ k ≤ 20 ∧ Row w' w1.heap.size 74 4 yhI a n c ((b.recs.take k).map yJy) ∧ Mod [] w w' ∧ w1.heap.size ≤ w'.heap.size ∧ mm = b.recs.length - k) b.recs.length
  ⟨0,rfl,by omega,by omega,Row.nil ..,A1.mod,Nat.le_refl _,rfl⟩ ?_
 rintro mm x a n c w2 ⟨k,rfl,hk,hk2,hRow,N2,s2,rfl⟩
 have hlk:((b.recs.take k).map yJy).length = k:=by rw [List.length_map,List.length_take]; omega
 have fin:∀ {w'},¬ (k < b.recs.length ∧ k < 20) → Adv [b2] [] w2 w' → ∃ rs':Sl,Value.agg #[.int .i64 b.prod,.int .i64 b.epoch,.int .i64 b.seq,.slice a n c] = (yAI b).v rs' ∧ Row w' w.heap.size 74 4 yhI rs'.a rs'.n rs'.c (yAI b).recs ∧ Mod [] w w':=fun {w'} hne A => by
  rw [ysI 20 hk2 hne hk] at hRow
  exact ⟨⟨a,n,c⟩,rfl,(hRow.keep A.mod fun ad ha hk => by have:=hRow.base ad ha; simp at hk; omega).rebase s1,N2.go0 A.mod (by simpa using f2)⟩
 refine yaH (fun hlt => ?_) fun hge => fun w3 A3 => fin (by omega) A3
 refine yaH (fun hlt2 => ?_) fun hge => fun w3 A3 => fin (by omega) A3
 obtain ⟨r,hr⟩:∃ r,b.recs[k]? = some r:=⟨_,List.getElem?_eq_getElem (by omega)⟩
 refine (h.keep0 N2).ixW hr fun q hq => ?_
 intro w3 A3
 have hq:=hq w3 A3.mod
 refine ya1 (x:=r.hk) (by simpa [add_zero] using hq 0 _ rfl) (yaN (hq 1 _ rfl) (ya1 (hq 2 _ rfl) (yaN (hq 3 _ rfl) ?_)))
 refine (yEo r w3).mono ?_
 rintro e w4 ⟨rfl,M4⟩
 refine ⟨_,_,_,_,rfl,yaG.of0 M4,rfl,?_⟩
 refine ybH fun b5 w5 c5 M5 f5 => ?_
 have K5:Mod [] w2 w5:=(A3.mod.go0 M4 (by simp)).go0 M5 (by simp)
 have s5:=K5.size
 obtain ⟨i0,hi,hz0,hz1,hz2⟩:=info_parts yJn
 refine ydZ (x:=yJy r) (hRow.keep0 K5) Tryz.underlying27 hi hz0 hz1 hz2 rfl (by decide) c5 rfl (ywM _) (by omega) (by unfold maxLen; omega) (by omega) fun a' c' w6 hR6 hM6 => ?_
 have M6:=hM6 _ (yb0 a)
 have hrow:=yaS hRow
 refine ⟨yaG.of M6 fun b hb _ hb' => ?_,?_⟩
 ·have:=hrow b hb'; simp at hb; omega
 intro w7 A7
 unfold maxLen at hw
 refine yBF (b.recs.length - (k + 1)) (by omega) ⟨k + 1,by rw [yaJ (by omega) (by omega)]; omega,by omega,by omega,Row.keep (by rw [ysH hr]; exact hR6) A7.mod fun ad ha hk => ?_,?_,by have:=M6.size; have:=A7.mod.size; omega,rfl⟩
 ·have:=hR6.base ad ha; simp at hk; omega
 ·refine ((N2.go0 K5 (by simp)).go0 M6 fun i hi => ?_).go0 A7.mod (by simpa using f3)
  have:=hrow i hi; omega
theorem yGP {w:World} {o:POp} {rs ts:Sl} (h:OpRd w o rs ts) :
  Calls pP 7 #[o.v rs ts] w fun e w' => ∃ v,e = .returned v ∧ ∃ rs' ts':Sl,v = (yEn o).v rs' ts' ∧ OpOwn w' w.heap.size (yEn o) rs' ts' ∧ Mod [] w w':=by
 refine yJx ?_
 intro b1 f1 b2 f2 b3 f3
 refine yjP (n:=40) rfl (yjP (n:=40) rfl (yjP (n:=40) rfl ?_))
 intro w1 A1
 have l1:=A1.lt b1 (by simp)
 have l2:=A1.lt b2 (by simp)
 have l3:=A1.lt b3 (by simp)
 have s1:=A1.mod.size
 have hn:=h.topics.1
 have hw:=h.wt
 unfold maxLen at hw
 refine (yBJ (b:=o.b) (rs:=rs) (h.recs.keep0 A1.mod) h.wr).mono ?_
 rintro e w2 ⟨_,rfl,rs',rfl,hB,M2⟩
 have s2:=M2.size
 refine ⟨_,_,_,_,_,_,rfl,yaG.of0 M2,?_⟩
 intro w3 A3
 have s3:=A3.mod.size
 have hB3:Row w3 w1.heap.size 74 4 yhI rs'.a rs'.n rs'.c (yAI o.b).recs:=hB.keep A3.mod fun ad ha hk => by have:=hB.base ad ha; simp at hk; omega
 have N3:=(A1.mod.go0 M2 (by simp)).go0 A3.mod (by simpa using f3)
 refine yBI (fun mm x a n c w' => ∃ k:Nat,x = k ∧ k ≤ o.topics.length ∧ k ≤ 12 ∧ Row w' w1.heap.size 9 1 ydC a n c ((o.topics.take k).map (yzA 40)) ∧ Row w' w1.heap.size 74 4 yhI rs'.a rs'.n rs'.c (yAI o.b).recs ∧ Mod [] w w' ∧ w1.heap.size ≤ w'.heap.size ∧ mm = o.topics.length - k) o.topics.length
  ⟨0,rfl,by omega,by omega,Row.nil ..,hB3,N3,by omega,rfl⟩ ?_
 rintro mm x a n c w4 ⟨k,rfl,hk,hk2,hRow,hB4,N4,s4,rfl⟩
 have hlk:((o.topics.take k).map (yzA 40)).length = k:=by rw [List.length_map,List.length_take]; omega
 have fin:∀ {w'},¬ (k < o.topics.length ∧ k < 12) → Adv [b2] [] w4 w' → ∃ rs'' ts':Sl,Value.agg #[.int .i64 o.kind,.string (yzA 40 o.part.t),.int .i64 o.part.n,.int .i64 o.n,.int .i64 o.off,.int .i64 (yAI o.b).prod,.int .i64 (yAI o.b).epoch,.int .i64 (yAI o.b).seq,.slice rs'.a rs'.n rs'.c,.string (yzA 40 o.g),.string (yzA 40 o.m),.int .i64 o.gen,.bool o.robin,.slice a n c] = (yEn o).v rs'' ts' ∧ OpOwn w' w.heap.size (yEn o) rs'' ts' ∧ Mod [] w w':=fun {w'} hne A => by
  rw [ysI 12 hk2 hne hk] at hRow
  exact ⟨rs',⟨a,n,c⟩,rfl,⟨(hB4.keep A.mod fun ad ha hk => by have:=hB4.base ad ha; simp at hk; omega).rebase s1,(hRow.keep A.mod fun ad ha hk => by have:=hRow.base ad ha; simp at hk; omega).rebase s1,by simp [yEn,yAI]; omega,by simp [yEn]; omega⟩,N4.go0 A.mod (by simpa using f2)⟩
 refine yaH (fun hlt => ?_) fun hge => fun w5 A5 => fin (by omega) A5
 refine yaH (fun hlt2 => ?_) fun hge => fun w5 A5 => fin (by omega) A5
 obtain ⟨t,ht⟩:∃ t,o.topics[k]? = some t:=⟨_,List.getElem?_eq_getElem (by omega)⟩
 refine (h.topics.keep0 N4).ixW ht fun q hq => ?_
 intro w5 A5
 refine yaN (x:=t) (by simpa [add_zero] using hq w5 A5.mod 0 _ rfl) ?_
 refine (h.topics.keep0 N4).ixW ht fun q hq => ?_
 refine yaN (x:=t) (by simpa [add_zero] using hq w5 A5.mod 0 _ rfl) ?_
 refine yjP (n:=40) rfl ?_
 refine ybH fun b6 w6 c6 M6 f6 => ?_
 have K6:Mod [] w4 w6:=A5.mod.go0 M6 (by simp)
 have s6:=K6.size
 obtain ⟨i0,hi,hz0,hz1,hz2⟩:=info_parts yJo
 refine ydZ (enc:=ydC) (x:=yzA 40 t) (hRow.keep0 K6) Tryz.underlying30 hi hz0 hz1 hz2 rfl (by decide) c6 rfl (ywN _) (by omega) (by unfold maxLen; omega) (by omega) fun a' c' w7 hR7 hM7 => ?_
 have M7:=hM7 _ (yb0 a)
 have s7:=M7.size
 have hrow:=yaS hRow
 refine ⟨yaG.of M7 fun b hb _ hb' => ?_,?_⟩
 ·have:=hrow b hb'; simp at hb; omega
 intro w8 A8
 have s8:=A8.mod.size
 have hB7:Row w7 w1.heap.size 74 4 yhI rs'.a rs'.n rs'.c (yAI o.b).recs:=(hB4.keep0 K6).keep M7 fun ad ha hk => by
  obtain ⟨_,cur,hc⟩:=hB4.block ad ha
  obtain ⟨_,_,cur2,hc2⟩:=hrow _ hk
  rw [hc2] at hc; cases hc
 refine yBH (o.topics.length - (k + 1)) (by omega) ⟨k + 1,by rw [yaJ (by omega) (by omega)]; omega,by omega,by omega,Row.keep (by rw [ysH ht]; exact hR7) A8.mod fun ad ha hk => ?_,hB7.keep A8.mod fun ad ha hk => ?_,?_,by omega,rfl⟩
 ·have:=hR7.base ad ha; simp at hk; omega
 ·have:=hB7.base ad ha; simp at hk; omega
 ·refine ((N4.go0 K6 (by simp)).go0 M7 fun i hi => ?_).go0 A8.mod (by simpa using f3)
  have:=hrow i hi; omega
end Go.Proofs.YtkepmmocldnnfaaGreat
namespace Go.Proofs.YtkepmmocldnnfaaGreat
open Go Go.RowKit Go.Maps Go.MapKept
open Go.ChangeMaps (setBlock)
set_option linter.unusedVariables false
set_option linter.unusedSimpArgs false
set_option linter.unusedSectionVars false
section
variable {κ β:Type} [DecidableEq κ]
def yeE (L:List (κ × β)) (k:κ):List (κ × β):=L.filter fun p => decide (p.1 ≠ k)
theorem yFr {L:List (κ × β)} {k:κ} (hn:(L.map (·.1)).Nodup):del L k = yeE L k:=by
 induction L with
 | nil => rfl
 | cons p r ih =>
  simp only [List.map_cons,List.nodup_cons] at hn
  by_cases h:p.1 = k
  ·simp only [del,if_pos h,yeE]
   rw [List.filter_cons_of_neg (by simpa using h)]
   refine (List.filter_eq_self.2 fun q hq => ?_).symm
   have:q.1 ≠ k:=fun e => hn.1 (by rw [h,← e]; exact List.mem_map.2 ⟨q,hq,rfl⟩)
   simpa using this
  ·simp only [del,if_neg h,yeE]
   rw [List.filter_cons_of_pos (by simpa using h),ih hn.2]; rfl
theorem yg3 {α γ δ:Type} {f:α → δ} {g:γ → δ} {p:α → Bool} {q:γ → Bool}:∀ {A:List α} {B:List γ},A.map f = B.map g → (∀ a b,a ∈ A → b ∈ B → f a = g b → p a = q b) → (A.filter p).map f = (B.filter q).map g
 | [],[],_,_ => rfl
 | [],_ :: _,h,_ => by simp at h
 | _ :: _,[],h,_ => by simp at h
 | a :: A,b :: B,h,hp => by
  simp only [List.map_cons,List.cons.injEq] at h
  have ih:=yg3 h.2 (fun a b ha hb => hp a b (by simp [ha]) (by simp [hb]))
  have e:=hp a b (by simp) (by simp) h.1
  cases hb:q b with
  | true => rw [hb] at e; rw [List.filter_cons_of_pos e,List.filter_cons_of_pos hb]; simp [h.1,ih]
  | false => rw [hb] at e; rw [List.filter_cons_of_neg (by simp [e]),List.filter_cons_of_neg (by simp [hb])]; exact ih
theorem ysJ {l:List MapEntry} (hp:l.Pairwise (fun x y => x.key ≠ y.key)) {j:Nat} {e:MapEntry} {q:MapEntry → Bool} (hj:l[j]? = some e) (hq:∀ x ∈ l,q x = true ↔ x.key ≠ e.key):l.eraseIdx j = l.filter q:=by
 induction l generalizing j with
 | nil => simp at hj
 | cons x r ih =>
  obtain ⟨h1,h2⟩:=List.pairwise_cons.1 hp
  cases j with
  | zero =>
   simp at hj; subst hj
   rw [List.eraseIdx_cons_zero,List.filter_cons_of_neg (by rw [hq x (by simp)]; simp)]
   exact (List.filter_eq_self.2 fun y hy => (hq y (by simp [hy])).2 (h1 y hy).symm).symm
  | succ j =>
   have hj':r[j]? = some e:=by simpa using hj
   rw [List.eraseIdx_cons_succ,List.filter_cons_of_pos ((hq x (by simp)).2 (h1 e (List.mem_of_getElem? hj')))]
   rw [ih h2 hj' (fun y hy => hq y (by simp [hy]))]
def yb3 (P:Program) (t:TypeId) (ek:κ → Value) (ev:β → Value) (w:World) (r b:Nat) (L left:List (κ × β)):Prop :=
 ∃ es clock since seen c0,w.heap[r]? = some (.mapIter (some b) since seen c0) ∧ w.heap[b]? = some (.map es clock) ∧
  es.toList.map (fun e => (e.key,e.val)) = L.map (fun p => (ek p.1,ev p.2)) ∧ (∀ p ∈ L,∃ l,keyOf P t (ek p.1) = some l) ∧ Stamped es clock ∧
  (∀ x ∈ es.toList,x.born < since) ∧ since ≤ c0 ∧ since ≤ clock ∧ (es.toList.filter (fun e => !seen.contains e.born)).map (fun e => (e.key,e.val)) = left.map (fun p => (ek p.1,ev p.2))
variable {P:Program} {t:TypeId} {ek:κ → Value} {ev:β → Value} {w w':World} {r b:Nat} {L left:List (κ × β)}
theorem yb3.map (h:yb3 P t ek ev w r b L left):yaX P t ek ev w b L:=by
 obtain ⟨es,clock,since,seen,c0,h1,h2,h3,h4,h5,_⟩:=h
 exact ⟨es,clock,h2,h3,h4,h5⟩
theorem yb3.keep {S:List Nat} (h:yb3 P t ek ev w r b L left) (hm:Mod S w w') (h1:r ∉ S) (h2:b ∉ S):yb3 P t ek ev w' r b L left:=by
 obtain ⟨es,clock,since,seen,c0,e1,e2,h⟩:=h
 exact ⟨es,clock,since,seen,c0,hm.keep e1 h1,hm.keep e2 h2,h⟩
theorem yb3.ne (h:yb3 P t ek ev w r b L left):r ≠ b:=by
 rintro rfl
 obtain ⟨es,clock,since,seen,c0,h1,h2,_⟩:=h
 rw [h1] at h2; cases h2
theorem yb3.start {T e:TypeId} (h:yaX P t ek ev w b L) (ht:P.underlying T = some (.map t e)):∃ w',(Instr.range T (.map (some b))).run P w = .ok (.pointer (some ⟨w.heap.size,0,none⟩)) w' ∧ Mod [] w w' ∧ yb3 P t ek ev w' w.heap.size b L L:=by
 obtain ⟨es,clock,hb,he,hk,hs⟩:=h
 have hlt:=(Array.getElem?_eq_some_iff.1 hb).1
 refine ⟨w.alloc (.mapIter (some b) clock #[] clock),?_,Mod.of_below ((Below.refl _ _).alloc (Nat.le_refl _) _),es,clock,clock,#[],clock,(MapKept.heap_alloc w _).1,?_,he,hk,hs,?_,Nat.le_refl _,?_,?_⟩
 ·simp [Instr.range,run_underlying ht,MapKept.run_getObj_map hb,Result.andThen,newObj,Sem.run]
 ·rw [Below.heap_alloc w _ b hlt]; exact hb
 ·exact ((stamped_iff es clock).1 hs).1
 ·exact Nat.le_refl _
 ·have:(es.toList.filter fun e => !(#[]:Array Nat).contains e.born) = es.toList:=List.filter_eq_self.2 (by simp)
  rw [this]; exact he
theorem yb3.step {ty:TypeId} (hi:∀ a b,ek a = ek b → a = b) (h:yb3 P t ek ev w r b L left) :
  (left = [] ∧ (Instr.next (.pointer (some ⟨r,0,none⟩)) false ty).run P w = .ok (.tuple #[.bool false]) w) ∨
  ∃ p ∈ left,∃ w',(Instr.next (.pointer (some ⟨r,0,none⟩)) false ty).run P w = .ok (.tuple #[.bool true,ek p.1,ev p.2]) w' ∧ Mod [r] w w' ∧ yb3 P t ek ev w' r b L (yeE left p.1) ∧
   (∀ w'',Mod [] w' w'' → (Instr.entry (.pointer (some ⟨r,0,none⟩))).run P w'' = .ok (.tuple #[ek p.1,ev p.2]) w''):=by
 have hne:=h.ne
 obtain ⟨es,clock,since,seen,c0,h1,h2,he,hk,hs,hb,hc,hcl,hl⟩:=h
 classical
 obtain ⟨s1,s2,s3⟩:=(stamped_iff es clock).1 hs
 rcases run_next_at (P:=P) w ty r b since c0 seen es clock h1 h2 hb hc with ⟨h0,hrun⟩ | ⟨e,hmem,w1,hw1,hrun⟩
 ·refine .inl ⟨?_,hrun⟩
  have:(es.toList.filter fun e => !seen.contains e.born) = []:=by
   have:=congrArg Array.toList (Array.eq_empty_of_size_eq_zero h0)
   simpa [leftOf] using this
  rw [this] at hl
  simpa using hl.symm
 ·right
  have hm:e ∈ es.toList ∧ seen.contains e.born = false:=by
   have:e ∈ (leftOf es seen).toList:=hmem
   simp [leftOf] at this
   exact ⟨by simpa using this.1,by simpa using this.2⟩
  have hp:(e.key,e.val) ∈ left.map (fun p => (ek p.1,ev p.2)):=hl ▸ List.mem_map.2 ⟨e,List.mem_filter.2 ⟨hm.1,by rw [hm.2]; rfl⟩,rfl⟩
  obtain ⟨p,hpl,hpe⟩:=List.mem_map.1 hp
  simp only [Prod.mk.injEq] at hpe
  have W1:Mod [] w w1:=by
   rcases hw1 with rfl | rfl
   ·exact Mod.refl _
   ·exact Mod.drewN w 1
  have g1:=W1.keep0 h1
  have g2:=W1.keep0 h2
  have B1:(setBlock w1 r (.mapIter (some b) since (seen.push e.born) clock)).heap[r]? = some (.mapIter (some b) since (seen.push e.born) clock):=yb5 g1
  have B2:(setBlock w1 r (.mapIter (some b) since (seen.push e.born) clock)).heap[b]? = some (.map es clock):=by rw [yb6 (Ne.symm hne)]; exact g2
  refine ⟨p,hpl,_,by rw [hrun,hpe.1,hpe.2],?_,⟨es,clock,since,_,clock,B1,B2,he,hk,hs,hb,hcl,hcl,?_⟩,fun w'' hm'' => ?_⟩
  ·have M2:Mod [r] w1 (setBlock w1 r (.mapIter (some b) since (seen.push e.born) clock)):=⟨rfl,rfl,rfl,by simp [setBlock],fun k hk hS => yb6 (by simpa using hS)⟩
   simpa using W1.trans M2
  ·have e1:(es.toList.filter fun x => !(seen.push e.born).contains x.born) = (es.toList.filter fun x => !seen.contains x.born).filter fun x => decide (x.key ≠ e.key):=by
    rw [List.filter_filter]
    refine List.filter_congr fun x hx => ?_
    have:(x.born = e.born) ↔ (x.key = e.key):=by
     constructor
     ·intro hb'
      have:=find_born x es.toList s2 hx
      have h':=find_born e es.toList s2 hm.1
      rw [hb'] at this
      rw [this] at h'
      cases h'; rfl
     ·intro hk'
      by_cases hxe:x = e
      ·rw [hxe]
      ·exfalso
       obtain ⟨i,hi1,hi2⟩:=List.getElem_of_mem hx
       obtain ⟨j,hj1,hj2⟩:=List.getElem_of_mem hm.1
       rcases Nat.lt_trichotomy i j with hij | hij | hij
       ·have:=List.pairwise_iff_getElem.1 s3 i j hi1 hj1 hij
        rw [hi2,hj2] at this; exact this hk'
       ·subst hij; rw [hi2] at hj2; exact hxe hj2
       ·have:=List.pairwise_iff_getElem.1 s3 j i hj1 hi1 hij
        rw [hi2,hj2] at this; exact this hk'.symm
    by_cases hk':x.key = e.key
    ·simp [hk',this.2 hk']
    ·have hb':¬ x.born = e.born:=fun h => hk' (this.1 h)
     simp [hk',hb']
   rw [e1]
   refine yg3 hl fun a q ha hq haq => ?_
   simp only [Prod.mk.injEq] at haq
   have:(a.key = e.key) ↔ q.1 = p.1:=by
    rw [haq.1,← hpe.1]
    exact ⟨fun h => hi _ _ h,fun h => by rw [h]⟩
   by_cases hq':q.1 = p.1
   ·simp [hq',this.2 hq']
   ·have:¬ a.key = e.key:=fun h => hq' (this.1 h)
    simp [hq',this]
  ·rw [hpe.1,hpe.2]
   exact run_entry_at w'' r b since seen es clock e (hm''.keep0 B1) (hm''.keep0 B2) hm.1 s2
theorem yb3.delete {T e:TypeId} (h:yb3 P t ek ev w r b L left) (K:Keyed P t) (hi:∀ a b,ek a = ek b → a = b) (ht:P.underlying T = some (.map t e)) {k:κ} {l:Lit} (hk:keyOf P t (ek k) = some l) (ty:TypeId) :
  ∃ w',(Builtin.delete_ #[T,t] ty #[.map (some b),ek k]).run P w = .ok (.tuple #[]) w' ∧ Mod [b] w w' ∧ yb3 P t ek ev w' r b (yeE L k) (yeE left k):=by
 have hM:=h.map
 have hn:=hM.nodup
 have hne:=h.ne
 obtain ⟨es,clock,since,seen,c0,h1,hb,he,hkk,hs,hbn,hc,hcl,hl⟩:=h
 have MB:∀ o,Mod [b] w (setBlock w b o):=fun o => ⟨rfl,rfl,rfl,by simp [setBlock],fun k hk hS => yb6 (by simpa using hS)⟩
 rcases hM.find K hi hb hk w with ⟨f1,f2⟩ | ⟨j,x,f1,hj,f2⟩
 ·have e1:yeE L k = L:=by rw [← yFr hn,yhY f1]
  have e2:yeE left k = left:=by
   refine List.filter_eq_self.2 fun q hq => ?_
   have:(ek q.1,ev q.2) ∈ (es.toList.filter fun e => !seen.contains e.born).map (fun e => (e.key,e.val)):=hl ▸ List.mem_map.2 ⟨q,hq,rfl⟩
   obtain ⟨a,ha,hae⟩:=List.mem_map.1 this
   have:(a.key,a.val) ∈ L.map (fun p => (ek p.1,ev p.2)):=he ▸ List.mem_map.2 ⟨a,(List.mem_filter.1 ha).1,rfl⟩
   obtain ⟨p,hp,hpe⟩:=List.mem_map.1 this
   simp only [Prod.mk.injEq] at hae hpe
   have h3:=yfW.1 f1 p hp
   have h4:p.1 = q.1:=hi _ _ (by rw [hpe.1,hae.1])
   simpa using (h4 ▸ h3:q.1 ≠ k)
  rw [e1,e2]
  refine ⟨_,?_,MB (.map es clock),es,clock,since,seen,c0,by rw [yb6 hne]; exact h1,yb5 hb,he,hkk,hs,hbn,hc,hcl,hl⟩
  simp [Builtin.delete_,run_underlying ht,MapKept.run_getObj_map hb,K.check w _ hk,f2,Result.andThen,MapKept.run_setObj_map _ hb,setBlock]
 ·have hjl:j < es.size:=by
   have:=(List.getElem?_eq_some_iff.1 hj).1
   have e3:=congrArg List.length he
   simp at e3; omega
  have g:(es.toList.map (fun e => (e.key,e.val)))[j]? = some (ek k,ev x):=by rw [he,List.getElem?_map,hj]; rfl
  rw [List.getElem?_map,Option.map_eq_some_iff] at g
  obtain ⟨e0,he0,e2⟩:=g
  simp only [Prod.mk.injEq] at e2
  have s3:=((stamped_iff es clock).1 hs).2.2
  classical
  have er:(es.eraseIdxIfInBounds j).toList = es.toList.filter fun x => decide (x.key ≠ ek k):=by
   rw [← ysJ s3 he0 (fun x _ => by rw [e2.1]; simp)]
   simp [Array.eraseIdxIfInBounds,hjl]
  have pe:∀ (a:MapEntry) (q:κ × β),(a.key,a.val) = (ek q.1,ev q.2) → decide (a.key ≠ ek k) = decide (q.1 ≠ k):=fun a q haq => by
   simp only [Prod.mk.injEq] at haq
   rw [haq.1]
   by_cases hq:q.1 = k
   ·simp [hq]
   ·have:¬ ek q.1 = ek k:=fun h => hq (hi _ _ h)
    simp [hq,this]
  refine ⟨_,?_,MB (.map (es.eraseIdxIfInBounds j) clock),es.eraseIdxIfInBounds j,clock,since,seen,c0,by rw [yb6 hne]; exact h1,yb5 hb,?_,?_,stamped_erase hs j,?_,hc,hcl,?_⟩
  ·simp [Builtin.delete_,run_underlying ht,MapKept.run_getObj_map hb,K.check w _ hk,f2,Result.andThen,MapKept.run_setObj_map _ hb,setBlock]
  ·rw [er]; exact yg3 he fun a q _ _ haq => pe a q haq
  ·exact fun p hp => hkk p (List.mem_filter.1 hp).1
  ·rw [er]; exact fun x hx => hbn x (List.mem_filter.1 hx).1
  ·rw [er,List.filter_filter]
   have:(es.toList.filter fun a => !seen.contains a.born && decide (a.key ≠ ek k)) = (es.toList.filter fun e => !seen.contains e.born).filter fun x => decide (x.key ≠ ek k):=by
    rw [List.filter_filter]
    exact List.filter_congr fun x _ => by rw [Bool.and_comm]
   rw [this]
   exact yg3 hl fun a q _ _ haq => pe a q haq
end
end Go.Proofs.YtkepmmocldnnfaaGreat
namespace Go.Proofs.YtkepmmocldnnfaaGreat
open Go Go.RowKit
set_option linter.all false
section
set_option maxRecDepth 100000
variable {R:VWP} {w w0:World} {m:Nat} {i0 i1 i2 i3 i4 i5 i6 i7 i8 i9 j0 j1 j2 j3 j4 j5 j6 j7 j8 j9 k0 k1 k2 k3 k4 k5 k6 k7 k8 k9 l0 l1 l2 l3 l4 l5 l6 l7 l8 l9:Int} {s0 s1 s2 s3 s4 s5 s6 s7 s8 s9 t0 t1 t2 t3 t4 t5 t6 t7 t8 t9:BA} {n0 n1 n2 n3 n4 n5 n6 n7 n8 n9 o0 o1 o2 o3 o4 o5 o6 o7 o8 o9 p0 p1 p2 p3 p4 p5 p6 p7 p8 p9:Nat} {q0 q1 q2 q3 q4 q5 q6 q7 q8 q9 r0 r1 r2 r3 r4 r5 r6 r7 r8 r9:OA} {B0 B1 B2 B3 B4 B5 B6 B7 B8 B9:Bool} {M0 M1 M2 M3:Option Nat} {V0 V1 V2 V3 V4 V5:Value} {A0 A1 A2:Addr}
theorem yFs (h :
 brB (decide (i0 ≥ 0)) (
 R (.bool (decide (i0 ≤ 1099511627776))) w)
 (
 R (.bool false) w)) :
 CR pP 98 #[.int .i64 i0] w R :=
 yaB Tryz.wide_mixed (an:=[]) Tryz.func98 rfl rfl (by kernel_rfl) rfl (Eq.mpr (by kernel_rfl) h)
theorem yFt (h :
 Calls pP 98 #[.int .i64 i0] w fun e w3 => ∃ t4,e = .returned (.bool t4) ∧
 brB (!t4) (
 R (.tuple #[.pointer none,.int .i64 1]) w3)
 (
 ∀ b6,w3.heap.size ≤ b6 →
 ∀ w7,Adv [] [b6] w3 w7 → w7.heap[b6]? = some (.cells (Z7 i0 i0 none 0 0 none 0 0) 180) →
 R (.tuple #[(.pointer (some ⟨b6,0,none⟩)),.int .i64 0]) w7)) :
 CR pP 61 #[.int .i64 i0] w R :=
 yaB Tryz.wide_mixed (an:=[]) Tryz.func61 rfl rfl (by kernel_rfl) rfl (Eq.mpr (by kernel_rfl) h)
theorem yJz (h :
 brB (decide (i0 ≥ 1)) (
 R (.bool (decide (i0 ≤ 64))) w)
 (
 R (.bool false) w)) :
 CR pP 60 #[.int .i64 i0] w R :=
 yaB Tryz.wide_mixed (an:=[]) Tryz.func60 rfl rfl (by kernel_rfl) rfl (Eq.mpr (by kernel_rfl) h)
theorem yFu (h :
 Calls pP 60 #[.int .i64 i0] w fun e w3 => ∃ t4,e = .returned (.bool t4) ∧
 brB (!t4) (
 R (.tuple #[.pointer none,.int .i64 1]) w3)
 (
 Calls pP 61 #[.int .i64 0] w3 fun e w8 => ∃ p9 a5,e = .returned (.tuple #[.pointer p9,.int .i64 a5]) ∧
 al w8 (.cells #[.pointer p9] 111) fun a4 a3 =>
 ∀ a1,a3.heap.size ≤ a1 →
 ∀ a2,Adv [] [a1] a3 a2 → a2.heap[a1]? = some (.cells #[.int .i64 i0,(.slice (some ⟨a4,0,none⟩) 1 1)] 116) →
 R (.tuple #[(.pointer (some ⟨a1,0,none⟩)),.int .i64 0]) a2)) :
 CR pP 33 #[.int .i64 i0] w R :=
 yaB Tryz.wide_mixed (an:=[]) Tryz.func33 rfl rfl (by kernel_rfl) rfl (Eq.mpr (by kernel_rfl) h)
theorem yFv (h :
 al w (.map #[] 0) fun b4 w5 =>
 ∀ b6,w5.heap.size ≤ b6 →
 ∀ w7,Adv [] [b6] w5 w7 → w7.heap[b6]? = some (.cells #[(.map (some b4))] 119) →
 R (.pointer (some ⟨b6,0,none⟩)) w7) :
 CR pP 34 #[] w R :=
 yaB Tryz.wide_mixed (an:=[]) Tryz.func34 rfl rfl (by kernel_rfl) rfl (Eq.mpr (by kernel_rfl) h)
theorem yFw (h :
 al w (.map #[] 0) fun b4 w5 =>
 ∀ b6,w5.heap.size ≤ b6 →
 ∀ w7,Adv [] [b6] w5 w7 → w7.heap[b6]? = some (.cells #[.slice none 0 0,(.map (some b4))] 122) →
 R (.pointer (some ⟨b6,0,none⟩)) w7) :
 CR pP 35 #[] w R :=
 yaB Tryz.wide_mixed (an:=[]) Tryz.func35 rfl rfl (by kernel_rfl) rfl (Eq.mpr (by kernel_rfl) h)
theorem yFx (h :
 al w (.map #[] 0) fun b4 w5 =>
 ∀ b6,w5.heap.size ≤ b6 →
 ∀ w7,Adv [] [b6] w5 w7 → w7.heap[b6]? = some (.cells #[(.map (some b4))] 125) →
 R (.pointer (some ⟨b6,0,none⟩)) w7) :
 CR pP 36 #[] w R :=
 yaB Tryz.wide_mixed (an:=[]) Tryz.func36 rfl rfl (by kernel_rfl) rfl (Eq.mpr (by kernel_rfl) h)
theorem yFy (h :
 Calls pP 33 #[.int .i64 i0] w fun e w4 => ∃ p5 x6,e = .returned (.tuple #[.pointer p5,.int .i64 x6]) ∧
 brB (x6 != 0) (
 R (.tuple #[.pointer none,.int .i64 x6]) w4)
 (
 Calls pP 34 #[] w4 fun e a9 => ∃ a3,e = .returned (.pointer a3) ∧
 al a9 (.map #[] 0) fun a7 b0 =>
 Calls pP 35 #[] b0 fun e b1 => ∃ a4,e = .returned (.pointer a4) ∧
 al b1 (.map #[] 0) fun a8 b2 =>
 Calls pP 36 #[] b2 fun e a6 => ∃ a5,e = .returned (.pointer a5) ∧
 ∀ a1,a6.heap.size ≤ a1 →
 ∀ a2,Adv [] [a1] a6 a2 → a2.heap[a1]? = some (.cells #[.int .i64 i0,.int .i64 0,.pointer a3,(.map (some a7)),.pointer a4,(.map (some a8)),.pointer a5] 96) →
 R (.tuple #[(.pointer (some ⟨a1,0,none⟩)),.int .i64 0]) a2)) :
 CR pP 20 #[.int .i64 i0] w R :=
 yaB Tryz.wide_mixed (an:=[]) Tryz.func20 rfl rfl (by kernel_rfl) rfl (Eq.mpr (by kernel_rfl) h)
def yuU:LA:=⟨[0,0,1,0,1,1,1,1],[0,4,5,30],[(0,0,0),(4,2,0)],3,[]⟩
def yw1:List LA:=[yuU]
abbrev yJA:=dnF pP yw1 (code Tryz.f41)
abbrev yMz:=ya0 pP yw1 (code Tryz.f41)
abbrev yJB (p:List Nat) (K:List Kh) (R:VWP):=ya0 pP yw1 (code Tryz.f41) p K (ybO pP Tryz.f41 [0] R)
def yoO (c5:Addr) (bm0:Nat) (b6 b7:Int) (b1:OA) (a8:Option Nat) (b2:OA) (a9:Option Nat) (b3:OA) (bm1:Nat) (b8:Int) (b4:BA) (b9 c0 c1 c2 c3 c4:Int) (a6:OA) (b0 a7:Nat) (b5 a3:BA) (a5:Int) (a4:Bool) (a0:OA) (a2 a1 bm2:Nat):Int → List Value × List TB:=fun c6 => ([(.pointer (some ⟨bm0,0,none⟩)),(.pointer (some ⟨bm2,0,none⟩)),.int .i64 c6,(.pointer (some c5))],[⟨bm0,96,[.int .i64 b6,.int .i64 b7,.pointer b1,(.map a8),.pointer b2,(.map a9),.pointer b3],false⟩,⟨bm1,32,[.int .i64 b8,.string b4,.int .i64 b9,.int .i64 c0,.int .i64 c1,.int .i64 c2,.int .i64 c3,.int .i64 c4,.slice a6 b0 a7,.string b5,.string a3,.int .i64 a5,.bool a4,.slice a0 a2 a1],false⟩,⟨bm2,44,[.int .i64 0,.int .i64 0,.int .i64 0,.int .i64 0,.slice none 0 0,.slice none 0 0],false⟩])
abbrev yFz (c5:Addr) (bm0:Nat) (b6 b7:Int) (b1:OA) (a8:Option Nat) (b2:OA) (a9:Option Nat) (b3:OA) (bm1:Nat) (b8:Int) (b4:BA) (b9 c0 c1 c2 c3 c4:Int) (a6:OA) (b0 a7:Nat) (b5 a3:BA) (a5:Int) (a4:Bool) (a0:OA) (a2 a1 bm2:Nat) (I:Nat → Int → World → Prop) (m:Nat):Kh:=KG (yoO c5 bm0 b6 b7 b1 a8 b2 a9 b3 bm1 b8 b4 b9 c0 c1 c2 c3 c4 a6 b0 a7 b5 a3 a5 a4 a0 a2 a1 bm2) (U1 I) m
theorem yBK {I:Nat → Int → World → Prop} (m':Nat) (h1:m' < m) (h2:I m' j0 w):KS (yFz A0 n0 i0 i1 q0 M0 q1 M1 q2 n1 i2 s0 i3 i4 i5 i6 i7 i8 q3 n2 n3 s1 s2 i9 B0 q4 n4 n5 n6 I m) (yoO A0 n0 i0 i1 q0 M0 q1 M1 q2 n1 i2 s0 i3 i4 i5 i6 i7 i8 q3 n2 n3 s1 s2 i9 B0 q4 n4 n5 n6 j0) w:=⟨m',h1,_,rfl,rfl,h2⟩
theorem ysK (I:Nat → Int → World → Prop) (m0:Nat) (h0:I m0 j0 w0)
 (hr:∀ m c6 w,I m c6 w →
 yAP pP (.pointer (some A0)) 0 w (fun d3 => yaG [n0,n1,n6] w d3 ∧
 ∀ c9,Adv [n6] [] d3 c9 → c9.heap[n0]? = some (.cells #[.int .i64 i0,.int .i64 i1,.pointer q0,(.map M0),.pointer q1,(.map M1),.pointer q2] 96) →
 R (.agg (Z3 0 i1 c6 0 none 0 0 none 0 0)) c9)
 (fun d8 d9 c8 => yaG [n0,n1,n6] w c8 ∧
 ∃ d7 d2,∃ c7,(Instr.entry (.pointer (some A0))).run pP c8 = .ok (.tuple #[d7,.pointer d2]) c7 ∧ yaG [n0,n1,n6] c8 c7 ∧
 Calls pP 65 #[.pointer d2,.int .i64 i1] c7 fun e d4 => ∃ d5 d1 d6,e = .returned (.slice d5 d1 d6) ∧ yaG [n0,n1,n6] c7 d4 ∧
 KS (yFz A0 n0 i0 i1 q0 M0 q1 M1 q2 n1 i2 s0 i3 i4 i5 i6 i7 i8 q3 n2 n3 s1 s2 i9 B0 q4 n4 n5 n6 I m) (yoO A0 n0 i0 i1 q0 M0 q1 M1 q2 n1 i2 s0 i3 i4 i5 i6 i7 i8 q3 n2 n3 s1 s2 i9 B0 q4 n4 n5 n6 (IntKind.wrap .i64 (c6 + (d1:Int)))) d4)) :
 yaU yuU (yJA 394 [0,0,1,0,1,1,1,1]) (yJB [1,1,1,1,0,1,0] [] R) (yoO A0 n0 i0 i1 q0 M0 q1 M1 q2 n1 i2 s0 i3 i4 i5 i6 i7 i8 q3 n2 n3 s1 s2 i9 B0 q4 n4 n5 n6 j0) w0 :=
 lrule (yoO A0 n0 i0 i1 q0 M0 q1 M1 q2 n1 i2 s0 i3 i4 i5 i6 i7 i8 q3 n2 n3 s1 s2 i9 B0 q4 n4 n5 n6) (U1 I) h0 (by rintro m c6 w h; exact ⟨by kernel_rfl,by kernel_rfl,fun js => Eq.mpr (by kernel_rfl) (hr m c6 w h)⟩)
theorem yFA {b0:Nat} {a6 a5:Nat} {a3 a2:Nat} (hb:w.heap[b0]? = some (.cells #[.int .i64 i0,.int .i64 i1,.pointer q0,(.map M0),.pointer q1,(.map M1),.pointer q2] 96)) (h :
 ∀ b3,w.heap.size ≤ b3 →
 ∀ b4,w.heap.size ≤ b4 →
 brB (decide ((IntKind.wrap .i64 (i1 + i4)) > 1099511627776)) (
 ∀ c1,Adv [] [b4,b3] w c1 →
 Calls pP 38 #[.int .i64 2] c1 fun e d0 => ∃ d2 d3 d4 d5 c4 c8 c6 c5 c9 c7,e = .returned (.agg (Z3 d2 d3 d4 d5 c4 c8 c6 c5 c9 c7)) ∧ yaG [b0,b3,b4] c1 d0 ∧
 ∀ c2,Adv [b4] [] d0 c2 → c2.heap[b0]? = some (.cells #[.int .i64 i0,.int .i64 i1,.pointer q0,(.map M0),.pointer q1,(.map M1),.pointer q2] 96) →
 R (.agg (Z3 d2 d3 d4 d5 c4 c8 c6 c5 c9 c7)) c2)
 (
 ∀ c3,Adv [b0] [b4,b3] w c3 →
 yn0 pP (Instr.range 92 (.map M1)) c3 fun d6 d1 => yaG [b0,b3,b4] c3 d1 ∧
 yaU yuU (yJA 394 [0,0,1,0,1,1,1,1]) (yJB [1,1,1,1,0,1,0] [] R) (yoO d6 b0 i0 (IntKind.wrap .i64 (i1 + i4)) q0 M0 q1 M1 q2 b3 i2 s0 i3 i4 i5 i6 i7 i8 q3 a6 a5 s1 s2 i9 B0 q4 a3 a2 b4 0) d1)) :
 CR pP 41 #[(.pointer (some ⟨b0,0,none⟩)),(.agg (Z2 i2 s0 i3 i4 i5 i6 i7 i8 q3 a6 a5 s1 s2 i9 B0 q4 a3 a2))] w R :=
 yaO Tryz.wide_mixed (an:=yw1) Tryz.func41 rfl rfl (by kernel_rfl) rfl hb (Eq.mpr (by kernel_rfl) h)
theorem yJC (h :
 ∀ b2,w.heap.size ≤ b2 →
 ∀ w3,Adv [] [b2] w w3 →
 R (.agg (Z3 i0 0 0 0 none 0 0 none 0 0)) w3) :
 CR pP 38 #[.int .i64 i0] w R :=
 yaB Tryz.wide_mixed (an:=[]) Tryz.func38 rfl rfl (by kernel_rfl) rfl (Eq.mpr (by kernel_rfl) h)
end
section
set_option maxRecDepth 100000
variable {R:VWP} {w w0:World} {m:Nat} {i0 i1 i2 i3 i4 i5 i6 i7 i8 i9 j0 j1 j2 j3 j4 j5 j6 j7 j8 j9 k0 k1 k2 k3 k4 k5 k6 k7 k8 k9 l0 l1 l2 l3 l4 l5 l6 l7 l8 l9:Int} {s0 s1 s2 s3 s4 s5 s6 s7 s8 s9 t0 t1 t2 t3 t4 t5 t6 t7 t8 t9:BA} {n0 n1 n2 n3 n4 n5 n6 n7 n8 n9 o0 o1 o2 o3 o4 o5 o6 o7 o8 o9 p0 p1 p2 p3 p4 p5 p6 p7 p8 p9:Nat} {q0 q1 q2 q3 q4 q5 q6 q7 q8 q9 r0 r1 r2 r3 r4 r5 r6 r7 r8 r9:OA} {B0 B1 B2 B3 B4 B5 B6 B7 B8 B9:Bool} {M0 M1 M2 M3:Option Nat} {V0 V1 V2 V3 V4 V5:Value} {A0 A1 A2:Addr}
def ygN:LA:=⟨[1,0,1,0,1,1,1],[0,3,4,6,42,43],[(0,0,0),(3,1,0),(4,2,0)],3,[0]⟩
def yh3:LA:=⟨[1,1,1,0,1,0,1,1,1],[0,3,4,6,58],[(0,0,0),(3,1,0),(4,2,0)],3,[0]⟩
def yw2:List LA:=[ygN,yh3,⟨9 :: [0,1,1,1,1],[75,41],[],0,[]⟩]
abbrev yjQ:=dnF pP yw2 (code Tryz.f21)
abbrev yMA:=ya0 pP yw2 (code Tryz.f21)
abbrev yjR (p:List Nat) (K:List Kh) (R:VWP):=ya0 pP yw2 (code Tryz.f21) p K (ybO pP Tryz.f21 [0] R)
def ykK:(Option Nat) × Int × Bool × Nat × Int × Int × (Option Addr) × (Option Nat) × (Option Addr) × (Option Nat) × (Option Addr) × Nat × Int × ByteArray × Int × Int × Int × Int × Int × Int × (Option Addr) × Nat × Nat × ByteArray × ByteArray × Int × Bool × (Option Addr) × Nat × Nat × Nat → List Value × List TB:=fun (c7,c6,c5,bm0,b6,b7,b1,a8,b2,a9,b3,bm1,b8,b4,b9,c0,c1,c2,c3,c4,a6,b0,a7,b5,a3,a5,a4,a0,a2,a1,bm2) => ([(.pointer (some ⟨bm0,0,none⟩)),(.pointer (some ⟨bm1,0,none⟩)),(.pointer (some ⟨bm2,0,none⟩)),(.map c7),.int .i64 c6,.bool c5],[⟨bm0,96,[.int .i64 b6,.int .i64 b7,.pointer b1,(.map a8),.pointer b2,(.map a9),.pointer b3],true⟩,⟨bm1,32,[.int .i64 b8,.string b4,.int .i64 b9,.int .i64 c0,.int .i64 c1,.int .i64 c2,.int .i64 c3,.int .i64 c4,.slice a6 b0 a7,.string b5,.string a3,.int .i64 a5,.bool a4,.slice a0 a2 a1],false⟩,⟨bm2,44,[.int .i64 0,.int .i64 0,.int .i64 0,.int .i64 0,.slice none 0 0,.slice none 0 0],false⟩])
def ymK:(Option Nat) × Bool × Nat × Int × Int × (Option Addr) × (Option Nat) × (Option Addr) × (Option Nat) × (Option Addr) × Nat × Int × ByteArray × Int × Int × Int × Int × Int × Int × (Option Addr) × Nat × Nat × ByteArray × ByteArray × Int × Bool × (Option Addr) × Nat × Nat × Nat → List Value × List TB:=fun (c6,c5,bm0,b6,b7,b1,a8,b2,a9,b3,bm1,b8,b4,b9,c0,c1,c2,c3,c4,a6,b0,a7,b5,a3,a5,a4,a0,a2,a1,bm2) => ([(.pointer (some ⟨bm0,0,none⟩)),(.pointer (some ⟨bm1,0,none⟩)),(.pointer (some ⟨bm2,0,none⟩)),(.map c6),.bool c5],[⟨bm0,96,[.int .i64 b6,.int .i64 b7,.pointer b1,(.map a8),.pointer b2,(.map a9),.pointer b3],true⟩,⟨bm1,32,[.int .i64 b8,.string b4,.int .i64 b9,.int .i64 c0,.int .i64 c1,.int .i64 c2,.int .i64 c3,.int .i64 c4,.slice a6 b0 a7,.string b5,.string a3,.int .i64 a5,.bool a4,.slice a0 a2 a1],false⟩,⟨bm2,44,[.int .i64 0,.int .i64 0,.int .i64 0,.int .i64 0,.slice none 0 0,.slice none 0 0],false⟩])
def yFB (c7:Option Nat) (c5:Int) (g6:Bool) (bm0:Nat) (b1 b2:Int) (a0:OA) (a3:Option Nat) (a6:OA) (a4:Option Nat) (a7:OA) (bm1:Nat) (b3:Int) (a8:BA) (b5 c0 c1 c2 c3 c4:Int) (b6:OA) (b8 b7:Nat) (b9 a9:BA) (b4:Int) (b0:Bool) (a1:OA) (a5 a2 bm2:Nat) (R:VWP) (w:World):Prop :=
 w.heap[bm0]? = some (.cells #[.int .i64 b1,.int .i64 b2,.pointer a0,(.map a3),.pointer a6,(.map a4),.pointer a7] 96) →
 brB g6 (
 ∀ d1,Adv [] [] w d1 → d1.heap[bm0]? = some (.cells #[.int .i64 b1,.int .i64 b2,.pointer a0,(.map a3),.pointer a6,(.map a4),.pointer a7] 96) →
 Calls pP 52 #[.pointer a0,(.agg #[.string a8,.int .i64 b5])] d1 fun e c6 => ∃ g1,e = .returned (.bool g1) ∧ yb9 [bm0] [(bm1,32),(bm2,44)] [bm1,bm2] d1 c6 ∧ ∃ h0 h1 g7,∃ m72:Option Nat,∃ g8,∃ m74:Option Nat,∃ g9,c6.heap[bm0]? = some (.cells #[.int .i64 h0,.int .i64 h1,.pointer g7,(.map m72),.pointer g8,(.map m74),.pointer g9] 96) ∧
 brB (!g1) (
 Calls pP 38 #[.int .i64 91] c6 fun e f1 => ∃ g2 g3 g4 g5 g0 d9 d5 d2 e0 d6,e = .returned (.agg (Z3 g2 g3 g4 g5 g0 d9 d5 d2 e0 d6)) ∧ yb9 [bm0] [(bm1,32),(bm2,44)] [bm1,bm2] c6 f1 ∧ ∃ f2 f3 e3,∃ m108:Option Nat,∃ e4,∃ m110:Option Nat,∃ e5,f1.heap[bm0]? = some (.cells #[.int .i64 f2,.int .i64 f3,.pointer e3,(.map m108),.pointer e4,(.map m110),.pointer e5] 96) ∧
 ∀ c8,Adv [bm2] [] f1 c8 → c8.heap[bm0]? = some (.cells #[.int .i64 f2,.int .i64 f3,.pointer e3,(.map m108),.pointer e4,(.map m110),.pointer e5] 96) →
 R (.agg (Z3 g2 g3 g4 g5 g0 d9 d5 d2 e0 d6)) c8)
 (
 ∃ e6:Option Addr,
 ∃ f0,(∀ w',Mod [] c6 w' → (Instr.lookup 99 (.map c7) (.int .i64 b3) false).run pP w' = .ok f0 w') ∧ f0 = (.func (.func 41) #[.pointer e6] #[]) ∧
 Calls pP 41 #[.pointer e6,(.agg (Z2 b3 a8 b5 c0 c1 c2 c3 c4 b6 b8 b7 b9 a9 b4 b0 a1 a5 a2))] c6 fun e c9 => ∃ f4 f5 f6 f7 d3 e1 d7 d4 e2 d8,e = .returned (.agg (Z3 f4 f5 f6 f7 d3 e1 d7 d4 e2 d8)) ∧ yb9 [bm0] [(bm1,32),(bm2,44)] [bm1,bm2] c6 c9 ∧ ∃ f8 f9 e7,∃ m149:Option Nat,∃ e8,∃ m151:Option Nat,∃ e9,c9.heap[bm0]? = some (.cells #[.int .i64 f8,.int .i64 f9,.pointer e7,(.map m149),.pointer e8,(.map m151),.pointer e9] 96) ∧
 ∀ d0,Adv [bm2] [] c9 d0 → d0.heap[bm0]? = some (.cells #[.int .i64 f8,.int .i64 f9,.pointer e7,(.map m149),.pointer e8,(.map m151),.pointer e9] 96) →
 R (.agg (Z3 f4 f5 f6 f7 d3 e1 d7 d4 e2 d8)) d0))
 (
 brB (c5 == 7) (
 ybI yh3 ((yjQ 394 [1,1,1,0,1,0,1,1,1]) (yjR [1,1,1,0,1,0,1,1] [] R)) (ymK (c7,(c5 == 7),bm0,b1,b2,a0,a3,a6,a4,a7,bm1,b3,a8,b5,c0,c1,c2,c3,c4,b6,b8,b7,b9,a9,b4,b0,a1,a5,a2,bm2)) w)
 (
 brB (c5 == 8) (
 ybI yh3 ((yjQ 394 [1,1,1,0,1,0,1,1,1]) (yjR [1,1,1,0,1,0,1,1] [] R)) (ymK (c7,(c5 == 8),bm0,b1,b2,a0,a3,a6,a4,a7,bm1,b3,a8,b5,c0,c1,c2,c3,c4,b6,b8,b7,b9,a9,b4,b0,a1,a5,a2,bm2)) w)
 (
 brB (c5 == 9) (
 ybI yh3 ((yjQ 394 [1,1,1,0,1,0,1,1,1]) (yjR [1,1,1,0,1,0,1,1] [] R)) (ymK (c7,(c5 == 9),bm0,b1,b2,a0,a3,a6,a4,a7,bm1,b3,a8,b5,c0,c1,c2,c3,c4,b6,b8,b7,b9,a9,b4,b0,a1,a5,a2,bm2)) w)
 (
 ybI yh3 ((yjQ 394 [1,1,1,0,1,0,1,1,1]) (yjR [1,1,1,0,1,0,1,1] [] R)) (ymK (c7,(c5 == 10),bm0,b1,b2,a0,a3,a6,a4,a7,bm1,b3,a8,b5,c0,c1,c2,c3,c4,b6,b8,b7,b9,a9,b4,b0,a1,a5,a2,bm2)) w))))
theorem yEp (J:Option Nat → Int → Bool → Nat → Int → Int → Option Addr → Option Nat → Option Addr → Option Nat → Option Addr → Nat → Int → ByteArray → Int → Int → Int → Int → Int → Int → Option Addr → Nat → Nat → ByteArray → ByteArray → Int → Bool → Option Addr → Nat → Nat → Nat → World → Prop) (h0:J M0 i0 B0 n0 i1 i2 q0 M1 q1 M2 q2 n1 i3 s0 i4 i5 i6 i7 i8 i9 q3 n2 n3 s1 s2 j0 B1 q4 n4 n5 n6 w0)
 (hr:∀ (f1:Option Nat) (f0:Int) (e9:Bool) (bm0:Nat) (b6 b7:Int) (b1:OA) (a8:Option Nat) (b2:OA) (a9:Option Nat) (b3:OA) (bm1:Nat) (b8:Int) (b4:BA) (b9 c0 c1 c2 c3 c4:Int) (a6:OA) (b0 a7:Nat) (b5 s0:BA) (a5:Int) (a4:Bool) (a1:OA) (a3 a2 bm2:Nat) (w:World),J f1 f0 e9 bm0 b6 b7 b1 a8 b2 a9 b3 bm1 b8 b4 b9 c0 c1 c2 c3 c4 a6 b0 a7 b5 s0 a5 a4 a1 a3 a2 bm2 w → yFB f1 f0 e9 bm0 b6 b7 b1 a8 b2 a9 b3 bm1 b8 b4 b9 c0 c1 c2 c3 c4 a6 b0 a7 b5 s0 a5 a4 a1 a3 a2 bm2 R w) :
 ybI ygN ((yjQ 395 [1,0,1,0,1,1,1]) (yjR [1,1,1,0,1,0] [] R)) (ykK (M0,i0,B0,n0,i1,i2,q0,M1,q1,M2,q2,n1,i3,s0,i4,i5,i6,i7,i8,i9,q3,n2,n3,s1,s2,j0,B1,q4,n4,n5,n6)) w0 :=
 crule (ykK) (V31 J) h0 (by rintro ⟨f1,f0,e9,bm0,b6,b7,b1,a8,b2,a9,b3,bm1,b8,b4,b9,c0,c1,c2,c3,c4,a6,b0,a7,b5,s0,a5,a4,a1,a3,a2,bm2⟩ w h; exact ⟨by kernel_rfl,by kernel_rfl,fun js => Eq.mpr (by kernel_rfl) (hr f1 f0 e9 bm0 b6 b7 b1 a8 b2 a9 b3 bm1 b8 b4 b9 c0 c1 c2 c3 c4 a6 b0 a7 b5 s0 a5 a4 a1 a3 a2 bm2 w h)⟩)
theorem yGQ (h:yFB M0 i0 B0 n0 i1 i2 q0 M1 q1 M2 q2 n1 i3 s0 i4 i5 i6 i7 i8 i9 q3 n2 n3 s1 s2 j0 B1 q4 n4 n5 n6 R w) :
 ybI ygN ((yjQ 395 [1,0,1,0,1,1,1]) (yjR [1,1,1,0,1,0] [] R)) (ykK (M0,i0,B0,n0,i1,i2,q0,M1,q1,M2,q2,n1,i3,s0,i4,i5,i6,i7,i8,i9,q3,n2,n3,s1,s2,j0,B1,q4,n4,n5,n6)) w :=
 yEp (fun f5 f3 f2 bm0' e1 e2 d6 d3 d7 d4 d8 bm1' e3 d9 e4 e5 e6 e7 e8 e9 d1 d5 d2 e0 b8 c4 c0 a6 b2 a8 bm2' w' => f5 = M0 ∧ f3 = i0 ∧ f2 = B0 ∧ bm0' = n0 ∧ e1 = i1 ∧ e2 = i2 ∧ d6 = q0 ∧ d3 = M1 ∧ d7 = q1 ∧ d4 = M2 ∧ d8 = q2 ∧ bm1' = n1 ∧ e3 = i3 ∧ d9 = s0 ∧ e4 = i4 ∧ e5 = i5 ∧ e6 = i6 ∧ e7 = i7 ∧ e8 = i8 ∧ e9 = i9 ∧ d1 = q3 ∧ d5 = n2 ∧ d2 = n3 ∧ e0 = s1 ∧ b8 = s2 ∧ c4 = j0 ∧ c0 = B1 ∧ a6 = q4 ∧ b2 = n4 ∧ a8 = n5 ∧ bm2' = n6 ∧ w' = w) ⟨rfl,rfl,rfl,rfl,rfl,rfl,rfl,rfl,rfl,rfl,rfl,rfl,rfl,rfl,rfl,rfl,rfl,rfl,rfl,rfl,rfl,rfl,rfl,rfl,rfl,rfl,rfl,rfl,rfl,rfl,rfl,rfl⟩ (by rintro f5 f3 f2 bm0' e1 e2 d6 d3 d7 d4 d8 bm1' e3 d9 e4 e5 e6 e7 e8 e9 d1 d5 d2 e0 b8 c4 c0 a6 b2 a8 bm2' w' ⟨rfl,rfl,rfl,rfl,rfl,rfl,rfl,rfl,rfl,rfl,rfl,rfl,rfl,rfl,rfl,rfl,rfl,rfl,rfl,rfl,rfl,rfl,rfl,rfl,rfl,rfl,rfl,rfl,rfl,rfl,rfl,rfl⟩; exact h)
def yFC (u3:Option Nat) (u4:Bool) (bm0:Nat) (a8 a9:Int) (a3:OA) (a2:Option Nat) (a4:OA) (a0:Option Nat) (a5:OA) (bm1:Nat) (a1:Int) (c0:BA) (c1 c2 c3 c4 c5 c6:Int) (b7:OA) (b9 b8:Nat) (a6 b3:BA) (b5:Int) (b4:Bool) (b0:OA) (b2 b1 bm2:Nat) (R:VWP) (w:World):Prop :=
 w.heap[bm0]? = some (.cells #[.int .i64 a8,.int .i64 a9,.pointer a3,(.map a2),.pointer a4,(.map a0),.pointer a5] 96) →
 brB u4 (
 ∃ f1,(∀ w',Mod [] w w' → (Instr.lookup 92 (.map a0) (.string a6) false).run pP w' = .ok (.pointer f1) w') ∧
 brB (Option.isNone f1) (
 ∀ b6,Adv [] [] w b6 → b6.heap[bm0]? = some (.cells #[.int .i64 a8,.int .i64 a9,.pointer a3,(.map a2),.pointer a4,(.map a0),.pointer a5] 96) →
 Calls pP 38 #[.int .i64 110] b6 fun e c7 => ∃ g5 g6 g7 g8 d3 e5 d9 d4 e6 e0,e = .returned (.agg (Z3 g5 g6 g7 g8 d3 e5 d9 d4 e6 e0)) ∧ yb9 [bm0] [(bm1,32),(bm2,44)] [bm1,bm2] b6 c7 ∧ ∃ g9 h0 f2,∃ m189:Option Nat,∃ f3,∃ m191:Option Nat,∃ f4,c7.heap[bm0]? = some (.cells #[.int .i64 g9,.int .i64 h0,.pointer f2,(.map m189),.pointer f3,(.map m191),.pointer f4] 96) ∧
 ∀ c8,Adv [bm2] [] c7 c8 → c8.heap[bm0]? = some (.cells #[.int .i64 g9,.int .i64 h0,.pointer f2,(.map m189),.pointer f3,(.map m191),.pointer f4] 96) →
 R (.agg (Z3 g5 g6 g7 g8 d3 e5 d9 d4 e6 e0)) c8)
 (
 ∃ f5:Option Addr,
 ∀ a7,Adv [] [] w a7 → a7.heap[bm0]? = some (.cells #[.int .i64 a8,.int .i64 a9,.pointer a3,(.map a2),.pointer a4,(.map a0),.pointer a5] 96) →
 ∃ g3,(∀ w',Mod [] a7 w' → (Instr.lookup 99 (.map u3) (.int .i64 a1) false).run pP w' = .ok g3 w') ∧ g3 = (.func (.func 41) #[.pointer f5] #[]) ∧
 Calls pP 41 #[.pointer f5,(.agg (Z2 a1 c0 c1 c2 c3 c4 c5 c6 b7 b9 b8 a6 b3 b5 b4 b0 b2 b1))] a7 fun e c9 => ∃ h1 h2 h3 h4 d5 e7 e1 d6 e8 e2,e = .returned (.agg (Z3 h1 h2 h3 h4 d5 e7 e1 d6 e8 e2)) ∧ yb9 [bm0] [(bm1,32),(bm2,44)] [bm1,bm2] a7 c9 ∧ ∃ h5 h6 f6,∃ m232:Option Nat,∃ f7,∃ m234:Option Nat,∃ f8,c9.heap[bm0]? = some (.cells #[.int .i64 h5,.int .i64 h6,.pointer f6,(.map m232),.pointer f7,(.map m234),.pointer f8] 96) ∧
 ∀ d0,Adv [bm2] [] c9 d0 → d0.heap[bm0]? = some (.cells #[.int .i64 h5,.int .i64 h6,.pointer f6,(.map m232),.pointer f7,(.map m234),.pointer f8] 96) →
 R (.agg (Z3 h1 h2 h3 h4 d5 e7 e1 d6 e8 e2)) d0))
 (
 ∃ f9:Option Addr,
 ∃ g4,(∀ w',Mod [] w w' → (Instr.lookup 99 (.map u3) (.int .i64 a1) false).run pP w' = .ok g4 w') ∧ g4 = (.func (.func 41) #[.pointer f9] #[]) ∧
 Calls pP 41 #[.pointer f9,(.agg (Z2 a1 c0 c1 c2 c3 c4 c5 c6 b7 b9 b8 a6 b3 b5 b4 b0 b2 b1))] w fun e d1 => ∃ h7 h8 h9 u0 d7 e9 e3 d8 f0 e4,e = .returned (.agg (Z3 h7 h8 h9 u0 d7 e9 e3 d8 f0 e4)) ∧ yb9 [bm0] [(bm1,32),(bm2,44)] [bm1,bm2] w d1 ∧ ∃ u1 u2 g0,∃ m273:Option Nat,∃ g1,∃ m275:Option Nat,∃ g2,d1.heap[bm0]? = some (.cells #[.int .i64 u1,.int .i64 u2,.pointer g0,(.map m273),.pointer g1,(.map m275),.pointer g2] 96) ∧
 ∀ d2,Adv [bm2] [] d1 d2 → d2.heap[bm0]? = some (.cells #[.int .i64 u1,.int .i64 u2,.pointer g0,(.map m273),.pointer g1,(.map m275),.pointer g2] 96) →
 R (.agg (Z3 h7 h8 h9 u0 d7 e9 e3 d8 f0 e4)) d2)
theorem yEq (J:Option Nat → Bool → Nat → Int → Int → Option Addr → Option Nat → Option Addr → Option Nat → Option Addr → Nat → Int → ByteArray → Int → Int → Int → Int → Int → Int → Option Addr → Nat → Nat → ByteArray → ByteArray → Int → Bool → Option Addr → Nat → Nat → Nat → World → Prop) (h0:J M0 B0 n0 i0 i1 q0 M1 q1 M2 q2 n1 i2 s0 i3 i4 i5 i6 i7 i8 q3 n2 n3 s1 s2 i9 B1 q4 n4 n5 n6 w0)
 (hr:∀ (f0:Option Nat) (e9:Bool) (bm0:Nat) (b6 b7:Int) (b1:OA) (a8:Option Nat) (b2:OA) (a9:Option Nat) (b3:OA) (bm1:Nat) (b8:Int) (b4:BA) (b9 c0 c1 c2 c3 c4:Int) (a6:OA) (b0 a7:Nat) (b5 s0:BA) (a5:Int) (a4:Bool) (a1:OA) (a3 a2 bm2:Nat) (w:World),J f0 e9 bm0 b6 b7 b1 a8 b2 a9 b3 bm1 b8 b4 b9 c0 c1 c2 c3 c4 a6 b0 a7 b5 s0 a5 a4 a1 a3 a2 bm2 w → yFC f0 e9 bm0 b6 b7 b1 a8 b2 a9 b3 bm1 b8 b4 b9 c0 c1 c2 c3 c4 a6 b0 a7 b5 s0 a5 a4 a1 a3 a2 bm2 R w) :
 ybI yh3 ((yjQ 394 [1,1,1,0,1,0,1,1,1]) (yjR [1,1,1,0,1,0,1,1] [] R)) (ymK (M0,B0,n0,i0,i1,q0,M1,q1,M2,q2,n1,i2,s0,i3,i4,i5,i6,i7,i8,q3,n2,n3,s1,s2,i9,B1,q4,n4,n5,n6)) w0 :=
 crule (ymK) (V30 J) h0 (by rintro ⟨f0,e9,bm0,b6,b7,b1,a8,b2,a9,b3,bm1,b8,b4,b9,c0,c1,c2,c3,c4,a6,b0,a7,b5,s0,a5,a4,a1,a3,a2,bm2⟩ w h; exact ⟨by kernel_rfl,by kernel_rfl,fun js => Eq.mpr (by kernel_rfl) (hr f0 e9 bm0 b6 b7 b1 a8 b2 a9 b3 bm1 b8 b4 b9 c0 c1 c2 c3 c4 a6 b0 a7 b5 s0 a5 a4 a1 a3 a2 bm2 w h)⟩)
theorem yGR (h:yFC M0 B0 n0 i0 i1 q0 M1 q1 M2 q2 n1 i2 s0 i3 i4 i5 i6 i7 i8 q3 n2 n3 s1 s2 i9 B1 q4 n4 n5 n6 R w) :
 ybI yh3 ((yjQ 394 [1,1,1,0,1,0,1,1,1]) (yjR [1,1,1,0,1,0,1,1] [] R)) (ymK (M0,B0,n0,i0,i1,q0,M1,q1,M2,q2,n1,i2,s0,i3,i4,i5,i6,i7,i8,q3,n2,n3,s1,s2,i9,B1,q4,n4,n5,n6)) w :=
 yEq (fun f3 f1 bm0' e1 e2 d6 d3 d7 d4 d8 bm1' e3 d9 e4 e5 e6 e7 e8 e9 d1 d5 d2 e0 b8 c4 c0 a6 b2 a8 bm2' w' => f3 = M0 ∧ f1 = B0 ∧ bm0' = n0 ∧ e1 = i0 ∧ e2 = i1 ∧ d6 = q0 ∧ d3 = M1 ∧ d7 = q1 ∧ d4 = M2 ∧ d8 = q2 ∧ bm1' = n1 ∧ e3 = i2 ∧ d9 = s0 ∧ e4 = i3 ∧ e5 = i4 ∧ e6 = i5 ∧ e7 = i6 ∧ e8 = i7 ∧ e9 = i8 ∧ d1 = q3 ∧ d5 = n2 ∧ d2 = n3 ∧ e0 = s1 ∧ b8 = s2 ∧ c4 = i9 ∧ c0 = B1 ∧ a6 = q4 ∧ b2 = n4 ∧ a8 = n5 ∧ bm2' = n6 ∧ w' = w) ⟨rfl,rfl,rfl,rfl,rfl,rfl,rfl,rfl,rfl,rfl,rfl,rfl,rfl,rfl,rfl,rfl,rfl,rfl,rfl,rfl,rfl,rfl,rfl,rfl,rfl,rfl,rfl,rfl,rfl,rfl,rfl⟩ (by rintro f3 f1 bm0' e1 e2 d6 d3 d7 d4 d8 bm1' e3 d9 e4 e5 e6 e7 e8 e9 d1 d5 d2 e0 b8 c4 c0 a6 b2 a8 bm2' w' ⟨rfl,rfl,rfl,rfl,rfl,rfl,rfl,rfl,rfl,rfl,rfl,rfl,rfl,rfl,rfl,rfl,rfl,rfl,rfl,rfl,rfl,rfl,rfl,rfl,rfl,rfl,rfl,rfl,rfl,rfl,rfl⟩; exact h)
theorem yJD {b0:Nat} {a6 a5:Nat} {a3 a2:Nat} (hb:w.heap[b0]? = some (.cells #[.int .i64 i0,.int .i64 i1,.pointer q0,(.map M0),.pointer q1,(.map M1),.pointer q2] 96)) (h :
 ∀ b3,w.heap.size ≤ b3 →
 ∀ b4,w.heap.size ≤ b4 →
 ∀ w8,Adv [] [b4,b3] w w8 →
 Calls pP 37 #[(.agg (Z2 i2 s0 i3 i4 i5 i6 i7 i8 q3 a6 a5 s1 s2 i9 B0 q4 a3 a2))] w8 fun e w9 => ∃ d7,e = .returned (.int .i64 d7) ∧ yaG [b0,b3,b4] w8 w9 ∧
 brB (d7 != 0) (
 Calls pP 38 #[.int .i64 d7] w9 fun e e4 => ∃ e5 e6 e7 e8 d8 e2 e0 d9 e3 e1,e = .returned (.agg (Z3 e5 e6 e7 e8 d8 e2 e0 d9 e3 e1)) ∧ yaG [b0,b3,b4] w9 e4 ∧
 ∀ c4,Adv [b4] [] e4 c4 → c4.heap[b0]? = some (.cells #[.int .i64 i0,.int .i64 i1,.pointer q0,(.map M0),.pointer q1,(.map M1),.pointer q2] 96) →
 R (.agg (Z3 e5 e6 e7 e8 d8 e2 e0 d9 e3 e1)) c4)
 (
 al w9 (.map #[] 0) fun a7 e9 =>
 ∀ c3,Adv [] [] e9 c3 → c3.heap[b0]? = some (.cells #[.int .i64 i0,.int .i64 i1,.pointer q0,(.map M0),.pointer q1,(.map M1),.pointer q2] 96) →
 yc7 pP (Instr.mapUpdate 99 (.map (some a7)) (.int .i64 0) (.func (.func 39) #[(.pointer (some ⟨b0,0,none⟩))] #[])) c3 fun c5 => yaG [b0,b3,b4] c3 c5 ∧
 yc7 pP (Instr.mapUpdate 99 (.map (some a7)) (.int .i64 1) (.func (.func 40) #[(.pointer (some ⟨b0,0,none⟩))] #[])) c5 fun c6 => yaG [b0,b3,b4] c5 c6 ∧
 yc7 pP (Instr.mapUpdate 99 (.map (some a7)) (.int .i64 12) (.func (.func 41) #[(.pointer (some ⟨b0,0,none⟩))] #[])) c6 fun c7 => yaG [b0,b3,b4] c6 c7 ∧
 yc7 pP (Instr.mapUpdate 99 (.map (some a7)) (.int .i64 2) (.func (.func 42) #[(.pointer (some ⟨b0,0,none⟩))] #[])) c7 fun c8 => yaG [b0,b3,b4] c7 c8 ∧
 yc7 pP (Instr.mapUpdate 99 (.map (some a7)) (.int .i64 3) (.func (.func 43) #[(.pointer (some ⟨b0,0,none⟩))] #[])) c8 fun c9 => yaG [b0,b3,b4] c8 c9 ∧
 yc7 pP (Instr.mapUpdate 99 (.map (some a7)) (.int .i64 4) (.func (.func 44) #[(.pointer (some ⟨b0,0,none⟩))] #[])) c9 fun d0 => yaG [b0,b3,b4] c9 d0 ∧
 yc7 pP (Instr.mapUpdate 99 (.map (some a7)) (.int .i64 5) (.func (.func 45) #[(.pointer (some ⟨b0,0,none⟩))] #[])) d0 fun d1 => yaG [b0,b3,b4] d0 d1 ∧
 yc7 pP (Instr.mapUpdate 99 (.map (some a7)) (.int .i64 11) (.func (.func 46) #[(.pointer (some ⟨b0,0,none⟩))] #[])) d1 fun d2 => yaG [b0,b3,b4] d1 d2 ∧
 yc7 pP (Instr.mapUpdate 99 (.map (some a7)) (.int .i64 6) (.func (.func 47) #[(.pointer (some ⟨b0,0,none⟩))] #[])) d2 fun d3 => yaG [b0,b3,b4] d2 d3 ∧
 yc7 pP (Instr.mapUpdate 99 (.map (some a7)) (.int .i64 7) (.func (.func 48) #[(.pointer (some ⟨b0,0,none⟩))] #[])) d3 fun d4 => yaG [b0,b3,b4] d3 d4 ∧
 yc7 pP (Instr.mapUpdate 99 (.map (some a7)) (.int .i64 8) (.func (.func 49) #[(.pointer (some ⟨b0,0,none⟩))] #[])) d4 fun d5 => yaG [b0,b3,b4] d4 d5 ∧
 yc7 pP (Instr.mapUpdate 99 (.map (some a7)) (.int .i64 9) (.func (.func 50) #[(.pointer (some ⟨b0,0,none⟩))] #[])) d5 fun d6 => yaG [b0,b3,b4] d5 d6 ∧
 yc7 pP (Instr.mapUpdate 99 (.map (some a7)) (.int .i64 10) (.func (.func 51) #[(.pointer (some ⟨b0,0,none⟩))] #[])) d6 fun c2 => yaG [b0,b3,b4] d6 c2 ∧
 brB (i2 == 2) (
 ybI ygN ((yjQ 395 [1,0,1,0,1,1,1]) (yjR [1,1,1,0,1,0] [] R)) (ykK ((some a7),i2,(i2 == 2),b0,i0,i1,q0,M0,q1,M1,q2,b3,i2,s0,i3,i4,i5,i6,i7,i8,q3,a6,a5,s1,s2,i9,B0,q4,a3,a2,b4)) c2)
 (
 brB (i2 == 3) (
 ybI ygN ((yjQ 395 [1,0,1,0,1,1,1]) (yjR [1,1,1,0,1,0] [] R)) (ykK ((some a7),i2,(i2 == 3),b0,i0,i1,q0,M0,q1,M1,q2,b3,i2,s0,i3,i4,i5,i6,i7,i8,q3,a6,a5,s1,s2,i9,B0,q4,a3,a2,b4)) c2)
 (
 brB (i2 == 4) (
 ybI ygN ((yjQ 395 [1,0,1,0,1,1,1]) (yjR [1,1,1,0,1,0] [] R)) (ykK ((some a7),i2,(i2 == 4),b0,i0,i1,q0,M0,q1,M1,q2,b3,i2,s0,i3,i4,i5,i6,i7,i8,q3,a6,a5,s1,s2,i9,B0,q4,a3,a2,b4)) c2)
 (
 brB (i2 == 5) (
 ybI ygN ((yjQ 395 [1,0,1,0,1,1,1]) (yjR [1,1,1,0,1,0] [] R)) (ykK ((some a7),i2,(i2 == 5),b0,i0,i1,q0,M0,q1,M1,q2,b3,i2,s0,i3,i4,i5,i6,i7,i8,q3,a6,a5,s1,s2,i9,B0,q4,a3,a2,b4)) c2)
 (
 ybI ygN ((yjQ 395 [1,0,1,0,1,1,1]) (yjR [1,1,1,0,1,0] [] R)) (ykK ((some a7),i2,(i2 == 11),b0,i0,i1,q0,M0,q1,M1,q2,b3,i2,s0,i3,i4,i5,i6,i7,i8,q3,a6,a5,s1,s2,i9,B0,q4,a3,a2,b4)) c2)))))) :
 CR pP 21 #[(.pointer (some ⟨b0,0,none⟩)),(.agg (Z2 i2 s0 i3 i4 i5 i6 i7 i8 q3 a6 a5 s1 s2 i9 B0 q4 a3 a2))] w R :=
 yaO Tryz.wide_mixed (an:=yw2) Tryz.func21 rfl rfl (by kernel_rfl) rfl hb (Eq.mpr (by kernel_rfl) h)
end
end Go.Proofs.YtkepmmocldnnfaaGreat
namespace Go.Proofs.YtkepmmocldnnfaaGreat
open Go Go.RowKit Go.Maps Go.MapKept
set_option linter.unusedVariables false
set_option linter.unusedSimpArgs false
abbrev hki:Int → Value:=fun k => .int .i64 k
theorem yc4:∀ a b:Int,hki a = hki b → a = b:=by intro a b h; simpa [hki] using h
def s64 (n:Int):Prop:=-9223372036854775808 ≤ n ∧ n ≤ 9223372036854775807
theorem hfr {n:Int} (h:s64 n):(Lit.int .i64 n).wf = true:=by
 simp [Lit.wf,IntKind.min,IntKind.max,IntKind.signed,IntKind.bits]; exact h
theorem yiX:Keyed pP 3:=int_keyed Tryz.underlying3
theorem ydD {k:Int} (h:s64 k):keyOf pP 3 (hki k) = some (.int .i64 k):=keyOf_int_mk Tryz.underlying3 (hfr h)
theorem ycB {w:World} {b:Nat} {o:Obj}:Mod [b] w (Go.ChangeMaps.setBlock w b o) :=
 ⟨rfl,rfl,rfl,by simp [Go.ChangeMaps.setBlock],fun k hk hS => yb6 (by simpa using hS)⟩
structure BrT (w:World) (b:Nat) (room now:Int) (bg:Nat):Prop where
 cells:∃ p m q r,w.heap[b]? = some (.cells #[.int .i64 room,.int .i64 now,.pointer p,.map m,.pointer q,.map (some bg),.pointer r] 96)
 g:w.heap[bg]? = some (.map #[] 0)
theorem BrT.ne {w:World} {b bg:Nat} {room now:Int} (h:BrT w b room now bg):b ≠ bg:=by
 rintro rfl
 obtain ⟨p,m,q,r,hc⟩:=h.cells
 rw [h.g] at hc; cases hc
theorem BrT.lt {w:World} {b bg:Nat} {room now:Int} (h:BrT w b room now bg):b < w.heap.size ∧ bg < w.heap.size:=by
 obtain ⟨p,m,q,r,hc⟩:=h.cells
 exact ⟨yaL hc,yaL h.g⟩
theorem BrT.keep {w w':World} {b bg:Nat} {room now:Int} {S:List Nat} (h:BrT w b room now bg) (M:Mod S w w') (h1:b ∉ S) (h2:bg ∉ S):BrT w' b room now bg:=by
 obtain ⟨p,m,q,r,hc⟩:=h.cells
 exact ⟨⟨p,m,q,r,M.keep hc h1⟩,M.keep h.g h2⟩
theorem BrT.keep0 {w w':World} {b bg:Nat} {room now:Int} (h:BrT w b room now bg) (M:Mod [] w w'):BrT w' b room now bg:=h.keep M (by simp) (by simp)
theorem yBL (room:Int) (w:World):Calls pP 60 #[.int .i64 room] w fun e w' => e = .returned (.bool (decide (1 ≤ room ∧ room ≤ 64))) ∧ w' = w:=by
 refine ya2 (yJz ?_)
 refine yaH (fun g => ⟨congrArg Value.bool ?_,rfl⟩) fun g => ⟨congrArg Value.bool (decide_eq_false (by omega)).symm,rfl⟩
 exact decide_eq_decide.2 ⟨fun h => ⟨by omega,h⟩,fun h => h.2⟩
theorem yGS (w:World):Calls pP 61 #[.int .i64 0] w fun e w' => ∃ v,e = .returned v ∧ ∃ p,v = .tuple #[.pointer p,.int .i64 0] ∧ Mod [] w w':=by
 refine yFt ?_
 have ho:Calls pP 98 #[.int .i64 0] w fun e w' => e = .returned (.bool true) ∧ w' = w:=by
  refine ya2 (yFs ?_)
  exact brT (by decide) ⟨congrArg Value.bool (by decide),rfl⟩
 refine ho.mono ?_
 rintro _ w1 ⟨rfl,rfl⟩
 refine ⟨_,rfl,brF rfl ?_⟩
 intro b6 f6 w7 A7 h7
 exact ⟨_,rfl,A7.mod⟩
theorem yGT (room:Int) (w:World):Calls pP 33 #[.int .i64 room] w fun e w' => ∃ v,e = .returned v ∧ ∃ p,v = .tuple #[.pointer p,.int .i64 (if 1 ≤ room ∧ room ≤ 64 then 0 else 1)] ∧ Mod [] w w':=by
 refine yFu ?_
 refine (yBL room w).mono ?_
 rintro _ w1 ⟨rfl,rfl⟩
 refine ⟨_,rfl,?_⟩
 by_cases g:1 ≤ room ∧ room ≤ 64
 ·refine brF (by simp [g]) ?_
  refine (yGS w1).mono ?_
  rintro _ w2 ⟨_,rfl,p,rfl,M2⟩
  refine ⟨_,_,rfl,ybH fun b14 w15 c15 M15 f15 => ?_⟩
  intro b16 f16 w17 A17 h17
  exact ⟨_,by rw [if_pos g],(M2.go0 M15 (by simp)).go0 A17.mod (by simp)⟩
 ·exact brT (by simp [g]) ⟨_,by rw [if_neg g],Mod.refl _⟩
theorem yGU (w:World):Calls pP 34 #[] w fun e w' => ∃ v,e = .returned v ∧ ∃ p,v = .pointer p ∧ Mod [] w w':=by
 refine yFv ?_
 refine ybH fun b4 w5 c5 M5 f5 => ?_
 intro b6 f6 w7 A7 h7
 exact ⟨_,rfl,M5.go0 A7.mod (by simp)⟩
theorem yGV (w:World):Calls pP 35 #[] w fun e w' => ∃ v,e = .returned v ∧ ∃ p,v = .pointer p ∧ Mod [] w w':=by
 refine yFw ?_
 refine ybH fun b4 w5 c5 M5 f5 => ?_
 intro b6 f6 w7 A7 h7
 exact ⟨_,rfl,M5.go0 A7.mod (by simp)⟩
theorem yGW (w:World):Calls pP 36 #[] w fun e w' => ∃ v,e = .returned v ∧ ∃ p,v = .pointer p ∧ Mod [] w w':=by
 refine yFx ?_
 refine ybH fun b4 w5 c5 M5 f5 => ?_
 intro b6 f6 w7 A7 h7
 exact ⟨_,rfl,M5.go0 A7.mod (by simp)⟩
theorem yGX (room:Int) (w:World):Calls pP 20 #[.int .i64 room] w fun e w' => ∃ v,e = .returned v ∧ Mod [] w w' ∧
  if 1 ≤ room ∧ room ≤ 64 then ∃ b bg,v = .tuple #[.pointer (some ⟨b,0,none⟩),.int .i64 0] ∧ w.heap.size ≤ b ∧ w.heap.size ≤ bg ∧ BrT w' b room 0 bg else v = .tuple #[.pointer none,.int .i64 1]:=by
 refine yFy ?_
 refine (yGT room w).mono ?_
 rintro _ w4 ⟨_,rfl,p,rfl,M4⟩
 refine ⟨_,_,rfl,?_⟩
 by_cases g:1 ≤ room ∧ room ≤ 64
 ·rw [if_pos g]
  refine brF rfl ?_
  refine (yGU w4).mono ?_
  rintro _ w18 ⟨_,rfl,p19,rfl,M18⟩
  refine ⟨_,rfl,ybH fun b20 w21 c21 M21 f21 => ?_⟩
  refine (yGV w21).mono ?_
  rintro _ w22 ⟨_,rfl,p23,rfl,M22⟩
  refine ⟨_,rfl,ybH fun b24 w25 c25 M25 f25 => ?_⟩
  refine (yGW w25).mono ?_
  rintro _ w26 ⟨_,rfl,p27,rfl,M26⟩
  refine ⟨_,rfl,?_⟩
  intro b28 f28 w29 A29 h29
  have N:=((((M4.go0 M18 (by simp)).go0 M21 (by simp)).go0 M22 (by simp)).go0 M25 (by simp)).go0 M26 (by simp)
  have s4:=M4.size
  have s18:=M18.size
  have s21:=M21.size
  have s22:=M22.size
  have sN:=N.size
  refine ⟨N.go0 A29.mod (by simp),?_⟩
  rw [if_pos g]
  exact ⟨b28,b24,rfl,by omega,by omega,⟨_,_,_,_,h29⟩,(M26.go0 A29.mod (by simp)).keep0 c25⟩
 ·rw [if_neg g]
  refine brT rfl ⟨M4,?_⟩
  rw [if_neg g]
theorem yEr {w:World} {b bg:Nat} {room now:Int} (h:BrT w b room now bg) {o:POp} {rs ts:Sl} (h1:0 ≤ now) (h2:0 ≤ o.n) (h3:now + o.n ≤ 1099511627776) :
  Calls pP 41 #[.pointer (some ⟨b,0,none⟩),o.v rs ts] w fun e w' => e = .returned ((⟨0,now + o.n,0,0,[],[]⟩:PRep).v ybM ybM) ∧ Mod [b] w w' ∧ BrT w' b room (now + o.n) bg:=by
 obtain ⟨p,m,q,r,hc⟩:=h.cells
 have hne:=h.ne
 have hlt:=h.lt
 have e:IntKind.wrap .i64 (now + o.n) = now + o.n:=yaJ (by omega) (by omega)
 refine ya2 (yFA hc ?_)
 intro b3 f3 b4 f4
 rw [e]
 refine brF (by simp; omega) ?_
 intro w33 A33
 have M33:Mod [b] w w33:=A33.mod
 have g33:w33.heap[bg]? = some (.map #[] 0):=M33.keep h.g (by simp; exact fun e => hne e.symm)
 have hM:yaX pP 9 (fun s:ByteArray => Value.string s) (fun n:Nat => Value.pointer (some ⟨n,0,none⟩)) w33 bg []:=yaX.of_new g33
 obtain ⟨w35,h35,M35,I35⟩:=yb3.start (T:=92) hM Tryz.underlying92
 refine ⟨_,w35,h35,yaG.of0 M35,?_⟩
 have s33:=M33.size
 have N35:Mod [b] w w35:=(M33.trans M35).less (by simp)
 refine ysK (fun mm x w' => x = 0 ∧ w' = w35 ∧ mm = 0) 0 ⟨rfl,rfl,rfl⟩ ?_
 rintro mm x w' ⟨rfl,rfl,rfl⟩
 rcases I35.step (ty:=0) (fun a b h => by simpa using h) with ⟨_,hs⟩ | ⟨q,hq,_⟩
 ·refine .inl ⟨_,hs,fun _ _ _ _ _ => rfl,?_⟩
  intro w42 A42 h42
  have N42:Mod [b] w w42:=(N35.trans A42.mod).less fun k hk hl => by
   simp at hk ⊢
   rcases hk with hk | hk <;> omega
  refine ⟨rfl,N42,⟨_,_,_,_,h42⟩,N42.keep h.g (by simp; exact fun e => hne e.symm)⟩
 ·cases hq
theorem yd1 {w:World} {bm:Nat} {L:List (Int × Value)} {k:Int} {v:Value} {bs:List Nat} {F:World → Prop} (h:yaX pP 3 hki (fun v:Value => v) w bm L) (hk:s64 k) (hbs:∀ b ∈ bs,b ≠ bm)
  (hF:∀ w',yaX pP 3 hki (fun v:Value => v) w' bm (put L k v) → Mod [bm] w w' → F w'):yc7 pP (Instr.mapUpdate 99 (.map (some bm)) (.int .i64 k) v) w fun w' => yaG bs w w' ∧ F w':=by
 obtain ⟨o,ho1,ho2⟩:=h.update yiX yc4 Tryz.underlying99 v (ydD hk)
 exact ⟨_,ho1,yaG.of ycB (fun b hb _ hc => hbs b hb (by simpa using hc)),hF _ ho2 ycB⟩
theorem yFD (w:World):(zeroValue 64).run pP w = .ok (.nilFunc) w:=by kernel_rfl
set_option maxHeartbeats 1000000 in
theorem yJE {w:World} {b bg:Nat} {room now:Int} (h:BrT w b room now bg) {o:POp} {rs ts:Sl} (hO:OpAt w o rs ts) (hk:o.kind = 12) (hE:opE o = 0) (h1:0 ≤ now) (h2:0 ≤ o.n) (h3:now + o.n ≤ 1099511627776) :
  Calls pP 21 #[.pointer (some ⟨b,0,none⟩),o.v rs ts] w fun e w' => e = .returned ((⟨0,now + o.n,0,0,[],[]⟩:PRep).v ybM ybM) ∧ Mod [b] w w' ∧ BrT w' b room (now + o.n) bg:=by
 obtain ⟨p,m,q,r,hc⟩:=h.cells
 have hne:=h.ne
 have hlt:=h.lt
 refine ya2 (yJD hc ?_)
 intro b3 f3 b4 f4 w8 A8
 have l3:=A8.lt b3 (by simp)
 have l4:=A8.lt b4 (by simp)
 refine (ywU (hO.keep0 A8.mod)).mono ?_
 rintro _ w9 ⟨rfl,M9⟩
 have s9:=M9.size
 have N9:Mod [] w w9:=A8.mod.go0 M9 (by simp)
 have sN:=N9.size
 refine ⟨_,rfl,yaG.of0 M9,brF (by rw [hE]; rfl) ?_⟩
 refine ybH fun b50 w51 c51 M51 f51 => ?_
 intro w52 A52 h52
 have N52:Mod [] w w52:=(N9.go0 M51 (by simp)).go0 A52.mod (by simp)
 have hbs:∀ i ∈ [b,b3,b4],i ≠ b50:=fun i hi => by simp at hi; omega
 refine yd1 (yaX.of_new (A52.mod.keep0 c51)) (by unfold s64; omega) hbs fun w53 H53 M53 => ?_
 refine yd1 H53 (by unfold s64; omega) hbs fun w54 H54 M54 => ?_
 refine yd1 H54 (by unfold s64; omega) hbs fun w55 H55 M55 => ?_
 refine yd1 H55 (by unfold s64; omega) hbs fun w56 H56 M56 => ?_
 refine yd1 H56 (by unfold s64; omega) hbs fun w57 H57 M57 => ?_
 refine yd1 H57 (by unfold s64; omega) hbs fun w58 H58 M58 => ?_
 refine yd1 H58 (by unfold s64; omega) hbs fun w59 H59 M59 => ?_
 refine yd1 H59 (by unfold s64; omega) hbs fun w60 H60 M60 => ?_
 refine yd1 H60 (by unfold s64; omega) hbs fun w61 H61 M61 => ?_
 refine yd1 H61 (by unfold s64; omega) hbs fun w62 H62 M62 => ?_
 refine yd1 H62 (by unfold s64; omega) hbs fun w63 H63 M63 => ?_
 refine yd1 H63 (by unfold s64; omega) hbs fun w64 H64 M64 => ?_
 refine yd1 H64 (by unfold s64; omega) hbs fun w65 H65 M65 => ?_
 have K65:Mod [b50] w52 w65:=((((((((((((M53.trans M54).trans M55).trans M56).trans M57).trans M58).trans M59).trans M60).trans M61).trans M62).trans M63).trans M64).trans M65).less (by simp)
 have N65:Mod [] w w65:=N52.go0 K65 (by simp; omega)
 clear H53 H54 H55 H56 H57 H58 H59 H60 H61 H62 H63 H64
 refine brF (by rw [hk]; rfl) (brF (by rw [hk]; rfl) (brF (by rw [hk]; rfl) (brF (by rw [hk]; rfl) ?_)))
 refine yGQ ?_
 intro _
 refine brF (by rw [hk]; rfl) (brF (by rw [hk]; rfl) (brF (by rw [hk]; rfl) (brF (by rw [hk]; rfl) ?_)))
 refine yGR ?_
 intro _
 refine brF (by rw [hk]; rfl) ?_
 refine ⟨some ⟨b,0,none⟩,.func (.func 41) #[.pointer (some ⟨b,0,none⟩)] #[],fun w' M => ?_,rfl,?_⟩
 ·have:=(H65.of_block (M.block _ H65.lt (by simp))).look (T:=99) false yiX yc4 Tryz.underlying99 (yFD w') (ydD (k:=o.kind) (by rw [hk]; unfold s64; omega))
  refine this.trans ?_
  rw [hk]
  rfl
 have h65:=h.keep0 N65
 refine (yEr (o:=o) (rs:=rs) (ts:=ts) h65 h1 h2 h3).mono ?_
 rintro _ w259 ⟨rfl,M259,h259⟩
 refine ⟨_,_,_,_,_,_,_,_,_,_,rfl,yaG.of M259 (fun i hi _ hc => by simp at hi hc; omega),?_⟩
 obtain ⟨p',m',q',r',hc'⟩:=h259.cells
 refine ⟨_,_,_,_,_,_,_,hc',?_⟩
 intro w277 A277 h277
 have sK:=N65.size
 have N:Mod [b] w w277:=((N65.trans M259).trans A277.mod).less fun k hk hl => by
  simp at hk ⊢
  omega
 exact ⟨rfl,N,⟨_,_,_,_,h277⟩,N.keep h.g (by simp; exact fun e => hne e.symm)⟩
end Go.Proofs.YtkepmmocldnnfaaGreat
namespace Go.Proofs.YtkepmmocldnnfaaGreat
open Go Go.RowKit
set_option linter.all false
section
set_option maxRecDepth 100000
variable {R:VWP} {w w0:World} {m:Nat} {i0 i1 i2 i3 i4 i5 i6 i7 i8 i9 j0 j1 j2 j3 j4 j5 j6 j7 j8 j9 k0 k1 k2 k3 k4 k5 k6 k7 k8 k9 l0 l1 l2 l3 l4 l5 l6 l7 l8 l9:Int} {s0 s1 s2 s3 s4 s5 s6 s7 s8 s9 t0 t1 t2 t3 t4 t5 t6 t7 t8 t9:BA} {n0 n1 n2 n3 n4 n5 n6 n7 n8 n9 o0 o1 o2 o3 o4 o5 o6 o7 o8 o9 p0 p1 p2 p3 p4 p5 p6 p7 p8 p9:Nat} {q0 q1 q2 q3 q4 q5 q6 q7 q8 q9 r0 r1 r2 r3 r4 r5 r6 r7 r8 r9:OA} {B0 B1 B2 B3 B4 B5 B6 B7 B8 B9:Bool} {M0 M1 M2 M3:Option Nat} {V0 V1 V2 V3 V4 V5:Value} {A0 A1 A2:Addr}
def yuV:LA:=⟨[0,0,1,0,1,1,1,1],[6,8,18,19,20],[],0,[]⟩
def yw3:List LA:=[yuV]
abbrev yJF:=dnF pP yw3 (code Tryz.f8)
abbrev yMB:=ya0 pP yw3 (code Tryz.f8)
abbrev yJG (p:List Nat) (K:List Kh) (R:VWP):=ya0 pP yw3 (code Tryz.f8) p K (ybO pP Tryz.f8 [] R)
def yoP (a8 a0:OA) (a2 a1:Nat) (a3:Int):(Option Addr) × Nat × Nat × Int → List Value × List TB:=fun (a5,a7,a6,a4) => ([.pointer a8,.slice a5 a7 a6,.slice a0 a2 a1,.int .i64 a3,.int .i64 a4],[])
abbrev yFE (a4 a0:OA) (a2 a1:Nat) (a3:Int) (I:Nat → Option Addr → Nat → Nat → Int → World → Prop) (m:Nat):Kh:=KG (yoP a4 a0 a2 a1 a3) (U4 I) m
theorem ysL {I:Nat → Option Addr → Nat → Nat → Int → World → Prop} (m':Nat) (h1:m' < m) (h2:I m' q2 n2 n3 i1 w):KS (yFE q0 q1 n0 n1 i0 I m) (yoP q0 q1 n0 n1 i0 (q2,n2,n3,i1)) w:=⟨m',h1,_,rfl,rfl,h2⟩
theorem ysM (I:Nat → Option Addr → Nat → Nat → Int → World → Prop) (m0:Nat) (h0:I m0 q2 n2 n3 i1 w0)
 (hr:∀ m a6 a8 a7 a1 w,I m a6 a8 a7 a1 w →
 brB (decide (a1 < i0)) (
 ixA q1 n0 a1 16 fun a0 =>
 yaA .i64 w a0 fun f1 => yaA .i64 w (Addr.add a0 1) fun f2 => yaA .i64 w (Addr.add a0 2) fun e3 => yaK w (Addr.add a0 3) fun d9 => yaA .i64 w (Addr.add a0 4) fun e4 => yaA .i64 w (Addr.add a0 5) fun e5 => yaA .i64 w (Addr.add a0 6) fun e6 => yaA .i64 w (Addr.add a0 7) fun e7 => yaA .i64 w (Addr.add a0 8) fun e8 => yaA .i64 w (Addr.add a0 9) fun e9 => yaC w (Addr.add a0 10) fun c9 d6 d3 => yaK w (Addr.add a0 11) fun e0 => yaK w (Addr.add a0 12) fun e1 => yaA .i64 w (Addr.add a0 13) fun f0 => yaR w (Addr.add a0 14) fun e2 => yaC w (Addr.add a0 15) fun d0 d7 d4 =>
 ∀ b0,w.heap.size ≤ b0 →
 ∀ b5,Adv [] [b0] w b5 →
 Calls pP 21 #[.pointer q0,(.agg (Z2 e3 d9 e4 e5 e6 e7 e8 e9 c9 d6 d3 e0 e1 f0 e2 d0 d7 d4))] b5 fun e c2 => ∃ c5 c6 c7 c8 b6 c0 b8 b7 c1 b9,e = .returned (.agg (Z3 c5 c6 c7 c8 b6 c0 b8 b7 c1 b9)) ∧ yaG [b0] b5 c2 ∧
 al c2 (.cells (Z3 c5 c6 c7 c8 b6 c0 b8 b7 c1 b9) 44) fun d2 c3 =>
 ybN pP (Builtin.append_ #[36,36] 36 #[.slice a6 a8 a7,(.slice (some ⟨d2,0,none⟩) 1 1)]) c3 fun d1 d8 d5 c4 => yaG [b0] c3 c4 ∧
 KS (yFE q0 q1 n0 n1 i0 I m) (yoP q0 q1 n0 n1 i0 (d1,d8,d5,(IntKind.wrap .i64 (a1 + 1)))) c4)
 (
 R (.tuple #[.slice a6 a8 a7,.int .i64 0]) w)) :
 yaU yuV (yJF 394 [0,0,1,0,1,1,1,1]) (yJG [1,1,1,1,0,1,0] [] R) (yoP q0 q1 n0 n1 i0 (q2,n2,n3,i1)) w0 :=
 lrule (yoP q0 q1 n0 n1 i0) (U4 I) h0 (by rintro m ⟨a6,a8,a7,a1⟩ w h; exact ⟨by kernel_rfl,by kernel_rfl,fun js => Eq.mpr (by kernel_rfl) (hr m a6 a8 a7 a1 w h)⟩)
theorem yFF {a0 a2:Nat} (h :
 Calls pP 20 #[.int .i64 i0] w fun e w4 => ∃ p5 x6,e = .returned (.tuple #[.pointer p5,.int .i64 x6]) ∧
 brB (x6 != 0) (
 R (.tuple #[.slice none 0 0,.int .i64 1]) w4)
 (
 yaU yuV (yJF 394 [0,0,1,0,1,1,1,1]) (yJG [1,1,1,1,0,1,0] [] R) (yoP p5 q0 a0 a2 (a0:Int) (none,0,0,0)) w4)) :
 CR pP 8 #[.int .i64 i0,.slice q0 a0 a2] w R :=
 yaB Tryz.wide_mixed (an:=yw3) Tryz.func8 rfl rfl (by kernel_rfl) rfl (Eq.mpr (by kernel_rfl) h)
end
section
set_option maxRecDepth 100000
variable {R:VWP} {w w0:World} {m:Nat} {i0 i1 i2 i3 i4 i5 i6 i7 i8 i9 j0 j1 j2 j3 j4 j5 j6 j7 j8 j9 k0 k1 k2 k3 k4 k5 k6 k7 k8 k9 l0 l1 l2 l3 l4 l5 l6 l7 l8 l9:Int} {s0 s1 s2 s3 s4 s5 s6 s7 s8 s9 t0 t1 t2 t3 t4 t5 t6 t7 t8 t9:BA} {n0 n1 n2 n3 n4 n5 n6 n7 n8 n9 o0 o1 o2 o3 o4 o5 o6 o7 o8 o9 p0 p1 p2 p3 p4 p5 p6 p7 p8 p9:Nat} {q0 q1 q2 q3 q4 q5 q6 q7 q8 q9 r0 r1 r2 r3 r4 r5 r6 r7 r8 r9:OA} {B0 B1 B2 B3 B4 B5 B6 B7 B8 B9:Bool} {M0 M1 M2 M3:Option Nat} {V0 V1 V2 V3 V4 V5:Value} {A0 A1 A2:Addr}
def yuW:LA:=⟨[0,0,1,0,1,1],[3,9,10,11],[],0,[]⟩
def yw4:List LA:=[yuW]
abbrev yJH:=dnF pP yw4 (code Tryz.f13)
abbrev yMC:=ya0 pP yw4 (code Tryz.f13)
abbrev yJI (p:List Nat) (K:List Kh) (R:VWP):=ya0 pP yw4 (code Tryz.f13) p K (ybO pP Tryz.f13 [] R)
def ykL (a4:Option Nat) (a2:OA) (a5 a3:Nat) (a0:Int):Int → List Value × List TB:=fun a1 => ([(.map a4),.slice a2 a5 a3,.int .i64 a0,.int .i64 a1],[])
abbrev yw5 (a3:Option Nat) (a1:OA) (a4 a2:Nat) (a0:Int) (I:Nat → Int → World → Prop) (m:Nat):Kh:=KG (ykL a3 a1 a4 a2 a0) (U1 I) m
theorem yBM {I:Nat → Int → World → Prop} (m':Nat) (h1:m' < m) (h2:I m' i1 w):KS (yw5 M0 q0 n0 n1 i0 I m) (ykL M0 q0 n0 n1 i0 i1) w:=⟨m',h1,_,rfl,rfl,h2⟩
theorem yBN (I:Nat → Int → World → Prop) (m0:Nat) (h0:I m0 i1 w0)
 (hr:∀ m a2 w,I m a2 w →
 brB (decide (a2 < i0)) (
 ixA q0 n0 a2 16 fun a0 =>
 yaA .i64 w a0 fun b0 => yaA .i64 w (Addr.add a0 1) fun b1 => yaA .i64 w (Addr.add a0 2) fun c6 => yaK w (Addr.add a0 3) fun c2 => yaA .i64 w (Addr.add a0 4) fun c7 => yaA .i64 w (Addr.add a0 5) fun c8 => yaA .i64 w (Addr.add a0 6) fun c9 => yaA .i64 w (Addr.add a0 7) fun d0 => yaA .i64 w (Addr.add a0 8) fun d1 => yaA .i64 w (Addr.add a0 9) fun d2 => yaC w (Addr.add a0 10) fun b6 c0 b8 => yaK w (Addr.add a0 11) fun c3 => yaK w (Addr.add a0 12) fun c4 => yaA .i64 w (Addr.add a0 13) fun d3 => yaR w (Addr.add a0 14) fun c5 => yaC w (Addr.add a0 15) fun b7 c1 b9 =>
 ∀ a8,w.heap.size ≤ a8 →
 ∀ a6,Adv [] [a8] w a6 →
 ∃ b5 b2,(∀ w',Mod [] a6 w' → (Instr.lookup 78 (.map M0) (.int .i64 b0) true).run pP w' = .ok (.tuple #[.int .i64 b5,.bool b2]) w') ∧
 brB b2 (
 brB (decide (b1 ≤ b5)) (
 R (.bool false) a6)
 (
 yc7 pP (Instr.mapUpdate 78 (.map M0) (.int .i64 b0) (.int .i64 b1)) a6 fun b3 => yaG [a8] a6 b3 ∧
 KS (yw5 M0 q0 n0 n1 i0 I m) (ykL M0 q0 n0 n1 i0 (IntKind.wrap .i64 (a2 + 1))) b3))
 (
 yc7 pP (Instr.mapUpdate 78 (.map M0) (.int .i64 b0) (.int .i64 b1)) a6 fun b4 => yaG [a8] a6 b4 ∧
 KS (yw5 M0 q0 n0 n1 i0 I m) (ykL M0 q0 n0 n1 i0 (IntKind.wrap .i64 (a2 + 1))) b4))
 (
 R (.bool true) w)) :
 yaU yuW (yJH 396 [0,0,1,0,1,1]) (yJI [1,1,0,1,0] [] R) (ykL M0 q0 n0 n1 i0 i1) w0 :=
 lrule (ykL M0 q0 n0 n1 i0) (U1 I) h0 (by rintro m a2 w h; exact ⟨by kernel_rfl,by kernel_rfl,fun js => Eq.mpr (by kernel_rfl) (hr m a2 w h)⟩)
theorem yJJ (h :
 al w (.map #[] 0) fun b3 w4 =>
 yaU yuW (yJH 396 [0,0,1,0,1,1]) (yJI [1,1,0,1,0] [] R) (ykL (some b3) q0 n0 n1 (n0:Int) 0) w4) :
 CR pP 13 #[.slice q0 n0 n1] w R :=
 yaB Tryz.wide_mixed (an:=yw4) Tryz.func13 rfl rfl (by kernel_rfl) rfl (Eq.mpr (by kernel_rfl) h)
end
section
set_option maxRecDepth 100000
variable {R:VWP} {w w0:World} {m:Nat} {i0 i1 i2 i3 i4 i5 i6 i7 i8 i9 j0 j1 j2 j3 j4 j5 j6 j7 j8 j9 k0 k1 k2 k3 k4 k5 k6 k7 k8 k9 l0 l1 l2 l3 l4 l5 l6 l7 l8 l9:Int} {s0 s1 s2 s3 s4 s5 s6 s7 s8 s9 t0 t1 t2 t3 t4 t5 t6 t7 t8 t9:BA} {n0 n1 n2 n3 n4 n5 n6 n7 n8 n9 o0 o1 o2 o3 o4 o5 o6 o7 o8 o9 p0 p1 p2 p3 p4 p5 p6 p7 p8 p9:Nat} {q0 q1 q2 q3 q4 q5 q6 q7 q8 q9 r0 r1 r2 r3 r4 r5 r6 r7 r8 r9:OA} {B0 B1 B2 B3 B4 B5 B6 B7 B8 B9:Bool} {M0 M1 M2 M3:Option Nat} {V0 V1 V2 V3 V4 V5:Value} {A0 A1 A2:Addr}
theorem yJK (h :
 ∀ b3,w.heap.size ≤ b3 →
 ∀ b4,w.heap.size ≤ b4 →
 ∀ a4,Adv [] [b4,b3] w a4 → a4.heap[b3]? = some (.cells #[.int .i64 i0] 3) →
 a4.heap[b4]? = some (.cells #[.int .i64 i1] 3) →
 Calls pP 29 #[.slice q0 n0 n1,(.func (.func 30) #[] #[(.pointer (some ⟨b3,0,none⟩)),(.pointer (some ⟨b4,0,none⟩))])] a4 fun e a6 => ∃ a7,e = .returned (.int .i64 a7) ∧ ∃ a8,a6.heap[b3]? = some (.cells #[.int .i64 a8] 3) ∧ ∃ a9,a6.heap[b4]? = some (.cells #[.int .i64 a9] 3) ∧
 R (.int .i64 a7) a6) :
 CR pP 17 #[.slice q0 n0 n1,.int .i64 i0,.int .i64 i1] w R :=
 yaB Tryz.wide_mixed (an:=[]) Tryz.func17 rfl rfl (by kernel_rfl) rfl (Eq.mpr (by kernel_rfl) h)
theorem yJL (h :
 ∀ b2,w.heap.size ≤ b2 →
 ∀ w6,Adv [] [b2] w w6 →
 yaA .i64 w6 A0 fun x7 =>
 brB (i0 == x7) (
 yaA .i64 w6 A1 fun x8 =>
 R (.bool (i1 == x8)) w6)
 (
 R (.bool false) w6)) :
 CR pP 30 #[(.agg (Z0 i0 i1 i2 s0 i3 i4 i5 i6 i7 i8 q0 n0 n1 s1 s2 i9 B0 q1 n2 n3)),(.pointer (some A0)),(.pointer (some A1))] w R :=
 yaB Tryz.wide_mixed (an:=[]) Tryz.func30 rfl rfl (by kernel_rfl) rfl (Eq.mpr (by kernel_rfl) h)
end
section
set_option maxRecDepth 100000
variable {R:VWP} {w w0:World} {m:Nat} {i0 i1 i2 i3 i4 i5 i6 i7 i8 i9 j0 j1 j2 j3 j4 j5 j6 j7 j8 j9 k0 k1 k2 k3 k4 k5 k6 k7 k8 k9 l0 l1 l2 l3 l4 l5 l6 l7 l8 l9:Int} {s0 s1 s2 s3 s4 s5 s6 s7 s8 s9 t0 t1 t2 t3 t4 t5 t6 t7 t8 t9:BA} {n0 n1 n2 n3 n4 n5 n6 n7 n8 n9 o0 o1 o2 o3 o4 o5 o6 o7 o8 o9 p0 p1 p2 p3 p4 p5 p6 p7 p8 p9:Nat} {q0 q1 q2 q3 q4 q5 q6 q7 q8 q9 r0 r1 r2 r3 r4 r5 r6 r7 r8 r9:OA} {B0 B1 B2 B3 B4 B5 B6 B7 B8 B9:Bool} {M0 M1 M2 M3:Option Nat} {V0 V1 V2 V3 V4 V5:Value} {A0 A1 A2:Addr}
def yuX:LA:=⟨[0,0,1,0,1],[0,1,7,8],[],0,[]⟩
def yw6:List LA:=[yuX]
abbrev yJM:=dnF pP yw6 (code Tryz.f29)
abbrev yMD:=ya0 pP yw6 (code Tryz.f29)
abbrev yJN (p:List Nat) (K:List Kh) (R:VWP):=ya0 pP yw6 (code Tryz.f29) p K (ybO pP Tryz.f29 [] R)
def yoQ (a2:OA) (a4 a3:Nat) (a0:Addr) (a1:Addr) (a5:Int):Int → List Value × List TB:=fun a6 => ([.slice a2 a4 a3,(.func (.func 30) #[] #[(.pointer (some a0)),(.pointer (some a1))]),.int .i64 a5,.int .i64 a6],[])
abbrev yFG (a2:OA) (a4 a3:Nat) (a0:Addr) (a1:Addr) (a5:Int) (I:Nat → Int → World → Prop) (m:Nat):Kh:=KG (yoQ a2 a4 a3 a0 a1 a5) (U1 I) m
theorem yBO {I:Nat → Int → World → Prop} (m':Nat) (h1:m' < m) (h2:I m' i1 w):KS (yFG q0 n0 n1 A0 A1 i0 I m) (yoQ q0 n0 n1 A0 A1 i0 i1) w:=⟨m',h1,_,rfl,rfl,h2⟩
theorem yBP (I:Nat → Int → World → Prop) (m0:Nat) (h0:I m0 i1 w0)
 (hr:∀ m a3 w,I m a3 w →
 brB (decide (a3 < i0)) (
 ixA q0 n0 a3 16 fun a0 =>
 yaA .i64 w a0 fun c1 => yaA .i64 w (Addr.add a0 1) fun c2 => yaA .i64 w (Addr.add a0 2) fun c3 => yaK w (Addr.add a0 3) fun b7 => yaA .i64 w (Addr.add a0 4) fun c4 => yaA .i64 w (Addr.add a0 5) fun c5 => yaA .i64 w (Addr.add a0 6) fun c6 => yaA .i64 w (Addr.add a0 7) fun c7 => yaA .i64 w (Addr.add a0 8) fun c8 => yaA .i64 w (Addr.add a0 9) fun c9 => yaC w (Addr.add a0 10) fun b1 b5 b3 => yaK w (Addr.add a0 11) fun b8 => yaK w (Addr.add a0 12) fun b9 => yaA .i64 w (Addr.add a0 13) fun d0 => yaR w (Addr.add a0 14) fun c0 => yaC w (Addr.add a0 15) fun b2 b6 b4 =>
 Calls pP 30 #[(.agg (Z0 c1 c2 c3 b7 c4 c5 c6 c7 c8 c9 b1 b5 b3 b8 b9 d0 c0 b2 b6 b4)),(.pointer (some A0)),(.pointer (some A1))] w fun e b0 => ∃ a9,e = .returned (.bool a9) ∧
 brB a9 (
 R (.int .i64 a3) b0)
 (
 KS (yFG q0 n0 n1 A0 A1 i0 I m) (yoQ q0 n0 n1 A0 A1 i0 (IntKind.wrap .i64 (a3 + 1))) b0))
 (
 R (.int .i64 (-1)) w)) :
 yaU yuX (yJM 397 [0,0,1,0,1]) (yJN [1,0,1,0] [] R) (yoQ q0 n0 n1 A0 A1 i0 i1) w0 :=
 lrule (yoQ q0 n0 n1 A0 A1 i0) (U1 I) h0 (by rintro m a3 w h; exact ⟨by kernel_rfl,by kernel_rfl,fun js => Eq.mpr (by kernel_rfl) (hr m a3 w h)⟩)
theorem yJO (h :
 yaU yuX (yJM 397 [0,0,1,0,1]) (yJN [1,0,1,0] [] R) (yoQ q0 n0 n1 A0 A1 (n0:Int) 0) w) :
 CR pP 29 #[.slice q0 n0 n1,(.func (.func 30) #[] #[(.pointer (some A0)),(.pointer (some A1))])] w R :=
 yaB Tryz.wide_mixed (an:=yw6) Tryz.func29 rfl rfl (by kernel_rfl) rfl (Eq.mpr (by kernel_rfl) h)
end
end Go.Proofs.YtkepmmocldnnfaaGreat
namespace Go.Proofs.YtkepmmocldnnfaaGreat
open Go Go.RowKit Go.Maps Go.MapKept
set_option linter.unusedVariables false
set_option linter.unusedSimpArgs false
def isC (c n:Int) (q:PCall):Bool:=decide (q.c = c ∧ q.n = n)
def ycY (l:List PCall) (c n:Int):Int:=match l.findIdx? (isC c n) with
 | some i => i
 | none => -1
theorem yBQ {l:List PCall} {c n:Int} {k:Nat} {q:PCall} (hk:l[k]? = some q) (hq:isC c n q = true) (hb:∀ x ∈ l.take k,isC c n x = false):ycY l c n = k:=by
 have:l.findIdx? (isC c n) = some k:=by
  obtain ⟨hl,he⟩:=List.getElem?_eq_some_iff.1 hk
  refine List.findIdx?_eq_some_iff_getElem.2 ⟨hl,by rw [he]; exact hq,fun j hj => ?_⟩
  have hm:l[j]'(by omega) ∈ l.take k:=List.mem_iff_getElem?.2 ⟨j,by rw [List.getElem?_take,if_pos hj]; exact List.getElem?_eq_getElem _⟩
  simp [hb _ hm]
 simp [ycY,this]
theorem yuY {l:List PCall} {c n:Int} (hb:∀ x ∈ l,isC c n x = false):ycY l c n = -1:=by
 have:l.findIdx? (isC c n) = none:=List.findIdx?_eq_none_iff.2 hb
 simp [ycY,this]
theorem yzB {l:List PCall} {k:Nat} {q:PCall} (hk:l[k]? = some q):∃ j:Nat,∃ y,ycY l q.c q.n = j ∧ j ≤ k ∧ l[j]? = some y ∧ y.c = q.c ∧ y.n = q.n:=by
 have hi:∃ i,l.findIdx? (isC q.c q.n) = some i:=by
  cases h:l.findIdx? (isC q.c q.n) with
  | some i => exact ⟨i,rfl⟩
  | none =>
   have:=List.findIdx?_eq_none_iff.1 h q (List.mem_of_getElem? hk)
   simp [isC] at this
 obtain ⟨i,hi⟩:=hi
 obtain ⟨hl,h1,h2⟩:=List.findIdx?_eq_some_iff_getElem.1 hi
 simp [isC] at h1
 refine ⟨i,l[i],by simp [ycY,hi],?_,List.getElem?_eq_getElem hl,h1⟩
 rcases Nat.lt_or_ge k i with hlt | hge
 ·obtain ⟨hl',he⟩:=List.getElem?_eq_some_iff.1 hk
  have:=h2 k hlt
  rw [he] at this
  simp [isC] at this
 ·exact hge
theorem yLO {w:World} {q:CV} {c n:Int} {a0 a1:Addr} (h0:∀ w',Mod [] w w' → w'.cell? a0 = some (.int .i64 c)) (h1:∀ w',Mod [] w w' → w'.cell? a1 = some (.int .i64 n)) :
  Calls pP 30 #[q.v,.pointer (some a0),.pointer (some a1)] w fun e w' => e = .returned (.bool (isC c n q.x)) ∧ Mod [] w w':=by
 refine ya2 (yJL ?_)
 intro b2 f2 w6 A6
 refine yaI (h0 _ A6.mod) ?_
 refine yaD (fun g => ?_) fun g => ?_
 ·refine yaI (h1 _ A6.mod) ⟨congrArg Value.bool ?_,A6.mod⟩
  have g:q.x.c = c:=by simpa using g
  rw [Bool.eq_iff_iff]; simp [isC,g]
 ·have g:¬ q.x.c = c:=by simpa using g
  exact ⟨congrArg Value.bool (by simp [isC,g]),A6.mod⟩
theorem yd2 {α:Type} {l:List α} {k:Nat} {q:α} (h:l[k]? = some q):l.take (k + 1) = l.take k ++ [q]:=by rw [List.take_add_one,h]; rfl
theorem yGY {w:World} {s:Sl} {ll:List CV} {c n:Int} {a0 a1:Addr} (hS:ybD w 16 CV.cs s.a s.n ll) (hl:ll.length ≤ 1000000) (h0:∀ w',Mod [] w w' → w'.cell? a0 = some (.int .i64 c)) (h1:∀ w',Mod [] w w' → w'.cell? a1 = some (.int .i64 n)) :
  Calls pP 29 #[.slice s.a s.n s.c,.func (.func 30) #[] #[.pointer (some a0),.pointer (some a1)]] w fun e w' => e = .returned (.int .i64 (ycY (ll.map (·.x)) c n)) ∧ Mod [] w w':=by
 have hn:=hS.1
 refine ya2 (yJO ?_)
 refine yBP (fun mm x w' => ∃ k:Nat,x = k ∧ k ≤ ll.length ∧ (∀ y ∈ (ll.map (·.x)).take k,isC c n y = false) ∧ Mod [] w w' ∧ mm = ll.length - k) ll.length ⟨0,rfl,by omega,by simp,Mod.refl _,rfl⟩ ?_
 rintro mm x w1 ⟨k,rfl,hk,hb,M1,rfl⟩
 refine yaH (fun hlt => ?_) fun hge => ?_
 ·obtain ⟨q,hq⟩:∃ q,ll[k]? = some q:=⟨_,List.getElem?_eq_getElem (by omega)⟩
  have hq':(ll.map (·.x))[k]? = some q.x:=by simp [hq]
  refine (hS.keep0 M1).ix hq fun ad had => ybB had ?_
  refine (yLO (q:=q) (c:=c) (n:=n) (fun w' M => h0 w' (M1.go0 M (by simp))) (fun w' M => h1 w' (M1.go0 M (by simp)))).mono ?_
  rintro _ w2 ⟨rfl,M2⟩
  have N2:=M1.go0 M2 (by simp)
  refine ⟨_,rfl,yaD (fun g => ⟨?_,N2⟩) fun g => ?_⟩
  ·rw [yBQ hq' g hb]
  ·refine yBO (ll.length - (k + 1)) (by omega) ⟨k + 1,by rw [yaJ (by omega) (by omega)]; omega,by omega,?_,N2,rfl⟩
   rw [yd2 hq']
   intro y hy
   rcases List.mem_append.1 hy with hy | hy
   ·exact hb y hy
   ·simp at hy; rw [hy]; exact g
 ·have hk:k = ll.length:=by omega
  subst hk
  refine ⟨?_,M1⟩
  rw [yuY]
  intro y hy
  exact hb y (by rw [List.take_of_length_le (by simp)]; exact hy)
theorem yp5 {w:World} {s:Sl} {xs:List PCall} (h:ybV w s xs) (hl:xs.length ≤ 1000000) (c n:Int) :
  Calls pP 17 #[.slice s.a s.n s.c,.int .i64 c,.int .i64 n] w fun e w' => e = .returned (.int .i64 (ycY xs c n)) ∧ Mod [] w w':=by
 obtain ⟨ll,hS,hO,rfl⟩:=h
 have hl:ll.length ≤ 1000000:=by simpa using hl
 refine ya2 (yJK ?_)
 intro b3 f3 b4 f4 w10 A10 c3 c4
 have q3:∀ w',Mod [] w10 w' → w'.heap[b3]? = some (.cells #[.int .i64 c] 3):=fun w' M => M.keep0 c3
 have q4:∀ w',Mod [] w10 w' → w'.heap[b4]? = some (.cells #[.int .i64 n] 3):=fun w' M => M.keep0 c4
 refine (yGY (c:=c) (n:=n) (hS.keep0 A10.mod) hl (fun w' M => by rw [yaY (q3 w' M)]; rfl) (fun w' M => by rw [yaY (q4 w' M)]; rfl)).mono ?_
 rintro _ w11 ⟨rfl,M11⟩
 exact ⟨_,rfl,_,q3 _ M11,_,q4 _ M11,rfl,A10.mod.go0 M11 (by simp)⟩
theorem ycP {κ β:Type} [DecidableEq κ] (L:List (κ × β)) (k:κ) (v:β) (x:κ):lkp (put L k v) x = if x = k then some v else lkp L x:=by
 induction L with
 | nil => simp [put,lkp,eq_comm]
 | cons q r ih =>
  rw [put]
  by_cases h:q.1 = k
  ·rw [if_pos h,lkp,lkp]
   by_cases hx:x = k
   ·simp [hx,h]
   ·have:¬ k = x:=fun e => hx e.symm
    simp [hx,h,this]
  ·rw [if_neg h,lkp,lkp,ih]
   by_cases hx:x = k
   ·subst hx; simp [h]
   ·simp [hx]
def yoR:List (Int × Int) → List PCall → Bool
 | _,[] => true
 | L,q :: r => match lkp L q.c with
  | some n => if q.n ≤ n then false else yoR (put L q.c q.n) r
  | none => yoR (put L q.c q.n) r
theorem ysN:∀ (l:List PCall) (L:List (Int × Int)),yoR L l = true → (∀ q ∈ l,∀ n,lkp L q.c = some n → n < q.n) ∧ l.Pairwise fun a b => a.c = b.c → a.n < b.n
 | [],L,_ => by simp
 | y :: r,L,h => by
  rw [yoR] at h
  have h':yoR (put L y.c y.n) r = true ∧ ∀ n,lkp L y.c = some n → n < y.n:=by
   cases hx:lkp L y.c with
   | some n =>
    rw [hx] at h
    simp only at h
    split at h
    ·cases h
    ·exact ⟨h,fun n' e => by cases e; omega⟩
   | none => rw [hx] at h; exact ⟨h,by simp⟩
  obtain ⟨i1,i2⟩:=ysN r _ h'.1
  have i3:∀ q ∈ r,y.c = q.c → y.n < q.n:=fun q hq e => i1 q hq y.n (by rw [ycP,if_pos e.symm])
  refine ⟨fun q hq n hn => ?_,List.pairwise_cons.2 ⟨i3,i2⟩⟩
  rcases List.mem_cons.1 hq with rfl | hq
  ·exact h'.2 n hn
  ·by_cases e:q.c = y.c
   ·have:=h'.2 n (by rw [← e]; exact hn)
    have:=i3 q hq e.symm
    omega
   ·exact i1 q hq n (by rw [ycP,if_neg e]; exact hn)
theorem yBR {l:List PCall} {k:Nat} {q:PCall} (h:yoR [] l = true) (hk:l[k]? = some q):ycY l q.c q.n = k:=by
 obtain ⟨j,y,h1,h2,h3,h4,h5⟩:=yzB hk
 rw [h1]
 rcases Nat.lt_or_ge j k with hlt | hge
 ·obtain ⟨hl1,e1⟩:=List.getElem?_eq_some_iff.1 h3
  obtain ⟨hl2,e2⟩:=List.getElem?_eq_some_iff.1 hk
  have:=List.pairwise_iff_getElem.1 (ysN l [] h).2 j k hl1 hl2 hlt
  rw [e1,e2] at this
  have:=this h4
  omega
 ·have:j = k:=by omega
  rw [this]
theorem yLP (w:World):(zeroValue 3).run pP w = .ok (.int .i64 0) w:=by kernel_rfl
theorem yf3 {w:World} {s:Sl} {xs:List PCall} (h:ybV w s xs) (hl:xs.length ≤ 1000000) (hw:∀ q ∈ xs,s64 q.c) :
  Calls pP 13 #[.slice s.a s.n s.c] w fun e w' => e = .returned (.bool (yoR [] xs)) ∧ Mod [] w w':=by
 obtain ⟨ll,hS,hO,rfl⟩:=h
 have hl:ll.length ≤ 1000000:=by simpa using hl
 have hn:=hS.1
 refine ya2 (yJJ ?_)
 refine ybH fun b3 w4 c4 M4 f4 => ?_
 refine yBN (fun mm x w' => ∃ (k:Nat) (L:List (Int × Int)),x = k ∧ k ≤ ll.length ∧ yaX pP 3 hki hki w' b3 L ∧ yoR [] (ll.map (·.x)) = yoR L ((ll.map (·.x)).drop k) ∧ Mod [] w w' ∧ mm = ll.length - k) ll.length ⟨0,[],rfl,by omega,yaX.of_new c4,by simp,M4,rfl⟩ ?_
 rintro mm x w1 ⟨k,L,rfl,hk,hM,hf,M1,rfl⟩
 have hfr:∀ i ∈ [b3],w.heap.size ≤ i:=fun i hi => by simp at hi; omega
 refine yaH (fun hlt => ?_) fun hge => ?_
 ·obtain ⟨q,hq⟩:∃ q,ll[k]? = some q:=⟨_,List.getElem?_eq_getElem (by omega)⟩
  have hq':(ll.map (·.x))[k]? = some q.x:=by simp [hq]
  have hd:(ll.map (·.x)).drop k = q.x :: (ll.map (·.x)).drop (k + 1):=by
   obtain ⟨h1,h2⟩:=List.getElem?_eq_some_iff.1 hq'
   rw [List.drop_eq_getElem_cons h1,h2]
  have hqw:s64 q.x.c:=hw _ (List.mem_map.2 ⟨q,List.mem_of_getElem? hq,rfl⟩)
  rw [hd,yoR] at hf
  refine (hS.keep0 M1).ix hq fun ad had => ybB had ?_
  intro b48 f48 w52 A52
  have N52:=M1.go0 A52.mod (by simp)
  have hM52:=hM.of_block (A52.mod.block _ hM.lt (by simp))
  have hlk:=fun w' (M:Mod [] w52 w') => (hM52.of_block (M.block _ hM52.lt (by simp))).look (T:=78) true yiX yc4 Tryz.underlying78 (yLP w') (ydD hqw)
  obtain ⟨o,ho1,ho2⟩:=hM52.update yiX yc4 Tryz.underlying78 q.x.n (ydD hqw)
  have hlt3:=hM.lt
  have step:yoR [] (ll.map (·.x)) = yoR (put L q.x.c q.x.n) ((ll.map (·.x)).drop (k + 1)) → yc7 pP (Instr.mapUpdate 78 (.map (some b3)) (.int .i64 q.x.c) (.int .i64 q.x.n)) w52 fun w56 => yaG [b48] w52 w56 ∧ KS (yw5 (some b3) s.a s.n s.c (s.n:Int) (fun mm x w' => ∃ (k:Nat) (L:List (Int × Int)),x = k ∧ k ≤ ll.length ∧ yaX pP 3 hki hki w' b3 L ∧ yoR [] (ll.map (·.x)) = yoR L ((ll.map (·.x)).drop k) ∧ Mod [] w w' ∧ mm = ll.length - k) (ll.length - k)) (ykL (some b3) s.a s.n s.c (s.n:Int) (IntKind.wrap .i64 ((k:Int) + 1))) w56:=fun hf' =>
   ⟨_,ho1,yaG.of ycB (by simp; omega),yBM (ll.length - (k + 1)) (by omega) ⟨k + 1,_,by rw [yaJ (by omega) (by omega)]; omega,by omega,ho2,hf',N52.go0 ycB hfr,rfl⟩⟩
  cases hx:lkp L q.x.c with
  | some n =>
   rw [hx] at hf
   simp only at hf
   refine ⟨n,true,fun w' M => (hlk w' M).trans (by rw [hx]; rfl),brT rfl ?_⟩
   refine yaH (fun g => ?_) fun g => ?_
   ·rw [if_pos g] at hf
    exact ⟨by rw [hf],N52⟩
   ·rw [if_neg g] at hf
    exact step hf
  | none =>
   rw [hx] at hf
   exact ⟨0,false,fun w' M => (hlk w' M).trans (by rw [hx]; rfl),brF rfl (step hf)⟩
 ·have hk:k = ll.length:=by omega
  subst hk
  refine ⟨?_,M1⟩
  rw [hf,List.drop_of_length_le (by simp)]
  rfl
end Go.Proofs.YtkepmmocldnnfaaGreat
namespace Go.Proofs.YtkepmmocldnnfaaGreat
open Go Go.RowKit Go.Maps Go.MapKept
set_option linter.unusedVariables false
set_option linter.unusedSimpArgs false
structure HV where
 x:PRep
 f:Sl
 p:Sl
def HV.cs (q:HV):List Value:=[.int .i64 q.x.e,.int .i64 q.x.off,.int .i64 q.x.n,.int .i64 q.x.gen,.slice q.f.a q.f.n q.f.c,.slice q.p.a q.p.n q.p.c]
def HV.v (q:HV):Value:=q.x.v q.f q.p
theorem HV.cs_len (q:HV):q.cs.length = 6:=rfl
theorem HV.cs_one (q:HV):∀ u ∈ q.cs,u.oneCell' = true:=by simp [HV.cs,Value.oneCell']
theorem yFH:(Tryz.prog.info? 44).map (fun i => (i.zero,i.size,i.bytes)) = some (some (.agg #[.int .i64 0,.int .i64 0,.int .i64 0,.int .i64 0,.slice none 0 0,.slice none 0 0]),6,80):=by kernel_rfl
theorem yaQ {α:Type} {w:World} {base T sz:Nat} {enc:α → List Value} {a:Option Addr} {n c:Nat} {l:List α} (h:Row w base T sz enc a n c l):∀ i ∈ yaP a,base ≤ i ∧ i < w.heap.size:=fun i hi => ⟨(yaS h i hi).1,(yaS h i hi).2.1⟩
theorem ycT {α:Type} {w:World} {base T sz:Nat} {enc:α → List Value} {a:Option Addr} {n c:Nat} {l:List α} (h:Row w base T sz enc a n c l) {b:Nat} {cs:Array Value} {T':TypeId} (hb:w.heap[b]? = some (.cells cs T')) (hT:T' ≠ T):b ∉ yaP a:=fun hi => by
 obtain ⟨_,_,cur,hc⟩:=yaS h b hi
 rw [hb] at hc; cases hc; exact hT rfl
theorem yaE {α:Type} {w w':World} {base T sz:Nat} {enc:α → List Value} {a:Option Addr} {n c:Nat} {l:List α} {S:List Nat} (h:Row w base T sz enc a n c l) (M:Mod S w w') (hS:∀ k ∈ S,k ∉ yaP a):Row w' base T sz enc a n c l :=
 h.keep M fun ad ha hk => hS _ hk (by rw [ha]; simp [yaP])
theorem yGZ {w:World} {B:Nat} {f:Sl} {l:List HV} {y:HV} {bs:List Nat} {F:Option Addr → Nat → Nat → World → Prop} (hR:Row w B 44 6 HV.cs f.a f.n f.c l) (hl:l.length ≤ 1000000) (hB:B ≤ w.heap.size) (hbs:∀ b ∈ bs,b ∉ yaP f.a)
  (hF:∀ a' c' w',Row w' B 44 6 HV.cs a' (f.n + 1) c' (l ++ [y]) → Mod (yaP f.a) w w' → F a' (f.n + 1) c' w') :
  al w (.cells (HV.cs y).toArray 44) fun b w1 => ybN pP (Builtin.append_ #[36,36] 36 #[.slice f.a f.n f.c,.slice (some ⟨b,0,none⟩) 1 1]) w1 fun a n c w2 => yaG bs w1 w2 ∧ F a n c w2:=by
 refine ybH fun b w1 c1 M1 f1 => ?_
 have s1:=M1.size
 obtain ⟨i0,hi0,hz0,hz1,hz2⟩:=info_parts yFH
 refine ydZ (x:=y) (hR.keep0 M1) Tryz.underlying36 hi0 hz0 hz1 hz2 rfl (by decide) c1 rfl (HV.cs_one _) (by omega) (by unfold maxLen; omega) (by omega) fun a' c' w8 hR8 hM8 => ?_
 have M8:=hM8 _ (yb0 f.a)
 refine ⟨yaG.of M8 fun b hb _ => hbs b hb,hF a' c' w8 hR8 ?_⟩
 exact (M1.trans M8).less fun k hk _ => by simpa using hk
def yk1:POp:=⟨12,⟨⟨#[]⟩,0⟩,1,0,ygL,⟨#[]⟩,⟨#[]⟩,0,false,[]⟩
theorem yBS:opE yk1 = 0:=by decide
def yd3 (k:Nat):HV:=⟨⟨0,(k:Int) + 1,0,0,[],[]⟩,ybM,ybM⟩
def yfL (n:Nat):List HV:=(List.range n).map yd3
theorem yoS (n:Nat):(yfL n).length = n:=by simp [yfL]
theorem yuZ (n:Nat):yfL (n + 1) = yfL n ++ [yd3 n]:=by simp [yfL,List.range_succ]
theorem yjS {w:World} {s:Sl} {xs:List PCall} (h:ybV w s xs) (hl:xs.length ≤ 1000) (hT:∀ q ∈ xs,q.op = yk1) (room:Int) :
  Calls pP 8 #[.int .i64 room,.slice s.a s.n s.c] w fun e w' => ∃ v,e = .returned v ∧ ∃ s':Sl,v = .tuple #[.slice s'.a s'.n s'.c,.int .i64 (if 1 ≤ room ∧ room ≤ 64 then 0 else 1)] ∧ Mod [] w w' ∧ (1 ≤ room ∧ room ≤ 64 → Row w' w.heap.size 44 6 HV.cs s'.a s'.n s'.c (yfL xs.length)):=by
 obtain ⟨ll,hS,hO,rfl⟩:=h
 have hl:ll.length ≤ 1000:=by simpa using hl
 have hn:=hS.1
 refine yFF ?_
 refine (yGX room w).mono ?_
 rintro _ w4 ⟨_,rfl,M4,hv⟩
 by_cases g:1 ≤ room ∧ room ≤ 64
 ·rw [if_pos g] at hv
  obtain ⟨b,bg,rfl,fb,fg,h4⟩:=hv
  refine ⟨_,_,rfl,brF rfl ?_⟩
  rw [if_pos g]
  refine ysM (fun mm a n c x w' => ∃ k:Nat,x = k ∧ k ≤ ll.length ∧ Row w' w.heap.size 44 6 HV.cs a n c (yfL k) ∧ BrT w' b room k bg ∧ Mod [] w w' ∧ mm = ll.length - k) ll.length ⟨0,rfl,by omega,Row.nil ..,h4,M4,rfl⟩ ?_
  rintro mm a n c x w1 ⟨k,rfl,hk,hR,hB,M1,rfl⟩
  have s1:=M1.size
  refine yaH (fun hlt => ?_) fun hge => ?_
  ·obtain ⟨q,hq⟩:∃ q,ll[k]? = some q:=⟨_,List.getElem?_eq_getElem (by omega)⟩
   have hqm:=List.mem_of_getElem? hq
   have hqo:q.x.op = yk1:=hT _ (List.mem_map.2 ⟨q,hqm,rfl⟩)
   refine (hS.keep0 M1).ix hq fun ad had => ybB had ?_
   intro b50 f50 w69 A69
   have l50:=A69.lt b50 (by simp)
   have N69:=M1.go0 A69.mod (by simp)
   have hB69:=hB.keep0 A69.mod
   have hlt:=hB.lt
   refine (yJE hB69 ((hO q hqm).keep0 N69) (by rw [hqo]; rfl) (by rw [hqo]; exact yBS) (by omega) (by rw [hqo]; decide) (by rw [hqo]; simp [yk1]; omega)).mono ?_
   rintro _ w70 ⟨rfl,M70,hB70⟩
   refine ⟨_,_,_,_,_,_,_,_,_,_,rfl,yaG.of M70 (fun i hi _ hc => by simp at hi hc; omega),?_⟩
   have hR69:=hR.keep0 A69.mod
   obtain ⟨p1,p2,p3,p4,hc69⟩:=hB69.cells
   obtain ⟨p5,p6,p7,p8,hc70⟩:=hB70.cells
   have hR70:Row w70 w.heap.size 44 6 HV.cs a n c (yfL k):=yaE hR69 M70 (by simp; exact ycT hR69 hc69 (by decide))
   have K70:Mod [b] w1 w70:=(A69.mod.trans M70).less (by simp)
   have s70:=K70.size
   have lk:=yaQ hR
   have e1:(k:Int) + q.x.op.n = (k:Int) + 1:=by rw [hqo]; rfl
   rw [e1] at hB70
   rw [e1]
   refine yGZ (y:=yd3 k) (f:=⟨a,n,c⟩) hR70 (by rw [yoS]; omega) (by omega) (fun i hi hi' => ?_) fun a' c' w83 hR83 M83 => ?_
   ·have:=lk i hi'
    simp at hi; omega
   ·have hb:b ∉ yaP a:=ycT hR69 hc69 (by decide)
    have hbg:bg ∉ yaP a:=fun hi => by
     obtain ⟨_,_,cur,hc⟩:=yaS hR69 bg hi
     rw [hB69.g] at hc; cases hc
    refine ysL (ll.length - (k + 1)) (by omega) ⟨k + 1,by rw [yaJ (by omega) (by omega)]; omega,by omega,by rw [yuZ]; exact hR83,?_,?_,rfl⟩
    ·have e2:(((k + 1:Nat):Int)) = (k:Int) + 1:=by omega
     rw [e2]
     exact hB70.keep M83 hb hbg
    ·refine (M1.go0 K70 (by simp; omega)).go0 M83 fun i hi => (lk i hi).1
  ·have hk:k = ll.length:=by omega
   subst hk
   refine ⟨⟨a,n,c⟩,rfl,M1,fun _ => ?_⟩
   simpa using hR
 ·rw [if_neg g] at hv
  subst hv
  refine ⟨_,_,rfl,brT rfl ?_⟩
  rw [if_neg g]
  exact ⟨⟨none,0,0⟩,rfl,M4,fun h => absurd h g⟩
end Go.Proofs.YtkepmmocldnnfaaGreat
namespace Go.Proofs.YtkepmmocldnnfaaGreat
open Go Go.RowKit
set_option linter.all false
section
set_option maxRecDepth 100000
variable {R:VWP} {w w0:World} {m:Nat} {i0 i1 i2 i3 i4 i5 i6 i7 i8 i9 j0 j1 j2 j3 j4 j5 j6 j7 j8 j9 k0 k1 k2 k3 k4 k5 k6 k7 k8 k9 l0 l1 l2 l3 l4 l5 l6 l7 l8 l9:Int} {s0 s1 s2 s3 s4 s5 s6 s7 s8 s9 t0 t1 t2 t3 t4 t5 t6 t7 t8 t9:BA} {n0 n1 n2 n3 n4 n5 n6 n7 n8 n9 o0 o1 o2 o3 o4 o5 o6 o7 o8 o9 p0 p1 p2 p3 p4 p5 p6 p7 p8 p9:Nat} {q0 q1 q2 q3 q4 q5 q6 q7 q8 q9 r0 r1 r2 r3 r4 r5 r6 r7 r8 r9:OA} {B0 B1 B2 B3 B4 B5 B6 B7 B8 B9:Bool} {M0 M1 M2 M3:Option Nat} {V0 V1 V2 V3 V4 V5:Value} {A0 A1 A2:Addr}
theorem yJP {b0:Nat} {o0_n o0_c:Nat} {o1_n o1_c:Nat} {c2:BA} {a2 a1:Nat} {a9 b1:BA} {a5 a4:Nat} {b7 b6:Nat} {c0 b9:Nat} (hb:w.heap[b0]? = some (.cells #[.slice q0 o0_n o0_c,.slice q1 o1_n o1_c,(.map M0),.int .i64 i0] 68)) (h :
 ∀ b2,w.heap.size ≤ b2 →
 ∀ w3,Adv [] [b2] w w3 →
 ∃ t4 x5 x6 s7 x8 x9 e8 e9 f0 f1 d9 e3 e1 e5 e6 f2 e7 e0 e4 e2 f3,(∀ w',Mod [] w3 w' → (Instr.lookup 66 (.map M0) (.int .i64 i1) false).run pP w' = .ok (.agg (Z10 t4 x5 x6 s7 x8 x9 e8 e9 f0 f1 d9 e3 e1 e5 e6 f2 e7 e0 e4 e2 f3)) w') ∧
 ∀ c8,w3.heap.size ≤ c8 →
 brB t4 (
 ∀ d4,Adv [] [c8] w3 d4 → d4.heap[b0]? = some (.cells #[.slice q0 o0_n o0_c,.slice q1 o1_n o1_c,(.map M0),.int .i64 i0] 68) →
 R (.bool false) d4)
 (
 brB (i2 != (IntKind.wrap .i64 (x5 + 1))) (
 ∀ d5,Adv [] [c8] w3 d5 → d5.heap[b0]? = some (.cells #[.slice q0 o0_n o0_c,.slice q1 o1_n o1_c,(.map M0),.int .i64 i0] 68) →
 R (.bool false) d5)
 (
 ∀ d6,Adv [] [c8] w3 d6 →
 yc7 pP (Instr.mapUpdate 66 (.map M0) (.int .i64 i1) (.agg (Z10 true i2 i3 c2 i4 i5 i6 i7 i8 i9 q2 a2 a1 a9 b1 j0 B1 q3 a5 a4 i0))) d6 fun d8 => yaG [b0,b2,c8] d6 d8 ∧
 ∀ d7,Adv [] [] d8 d7 → d7.heap[b0]? = some (.cells #[.slice q0 o0_n o0_c,.slice q1 o1_n o1_c,(.map M0),.int .i64 i0] 68) →
 R (.bool true) d7))) :
 CR pP 22 #[(.pointer (some ⟨b0,0,none⟩)),(.agg (Z1 i1 i2 B0 i3 c2 i4 i5 i6 i7 i8 i9 q2 a2 a1 a9 b1 j0 B1 q3 a5 a4 j1 j2 j3 j4 q4 b7 b6 q5 c0 b9))] w R :=
 yaO Tryz.wide_mixed (an:=[]) Tryz.func22 rfl rfl (by kernel_rfl) rfl hb (Eq.mpr (by kernel_rfl) h)
theorem yJQ {b0:Nat} {o0_n o0_c:Nat} {o1_n o1_c:Nat} {d5:BA} {c2 c1:Nat} {c8 c9:BA} {c5 c4:Nat} {a6 a5:Nat} {a9 a8:Nat} (hb:w.heap[b0]? = some (.cells #[.slice q0 o0_n o0_c,.slice q1 o1_n o1_c,(.map M0),.int .i64 i0] 68)) (h :
 ∀ b2,w.heap.size ≤ b2 →
 ∀ w3,Adv [] [b2] w w3 →
 ∃ t4 x5 x6 s7 x8 x9 f8 f9 g0 g1 d2 e4 e2 e6 e7 g2 e8 e1 e5 e3 g3,(∀ w',Mod [] w3 w' → (Instr.lookup 66 (.map M0) (.int .i64 i1) false).run pP w' = .ok (.agg (Z10 t4 x5 x6 s7 x8 x9 f8 f9 g0 g1 d2 e4 e2 e6 e7 g2 e8 e1 e5 e3 g3)) w') ∧
 ∀ b3,w3.heap.size ≤ b3 →
 ∀ e9,Adv [] [b3] w3 e9 →
 Calls pP 17 #[.slice q0 o0_n o0_c,.int .i64 i1,.int .i64 i2] e9 fun e c6 => ∃ b9,e = .returned (.int .i64 b9) ∧ yaG [b0,b2,b3] e9 c6 ∧
 brB (!t4) (
 ∀ f0,Adv [] [] c6 f0 → f0.heap[b0]? = some (.cells #[.slice q0 o0_n o0_c,.slice q1 o1_n o1_c,(.map M0),.int .i64 i0] 68) →
 R (.bool false) f0)
 (
 brB (i2 != x5) (
 ∀ f1,Adv [] [] c6 f1 → f1.heap[b0]? = some (.cells #[.slice q0 o0_n o0_c,.slice q1 o1_n o1_c,(.map M0),.int .i64 i0] 68) →
 R (.bool false) f1)
 (
 brB (decide (b9 ≤ g3)) (
 ∀ f2,Adv [] [] c6 f2 → f2.heap[b0]? = some (.cells #[.slice q0 o0_n o0_c,.slice q1 o1_n o1_c,(.map M0),.int .i64 i0] 68) →
 R (.bool false) f2)
 (
 ixA q0 o0_n b9 16 fun a1 =>
 ∀ a0,Adv [] [] c6 a0 →
 yaA .i64 a0 (Addr.add a1 2) fun u3 => yaK a0 (Addr.add (Addr.add a1 2) 1) fun h9 => yaA .i64 a0 (Addr.add (Addr.add a1 2) 2) fun u4 => yaA .i64 a0 (Addr.add (Addr.add a1 2) 3) fun u5 => yaA .i64 a0 (Addr.add (Addr.add a1 2) 4) fun u6 => yaA .i64 a0 (Addr.add (Addr.add a1 2) 5) fun u7 => yaA .i64 a0 (Addr.add (Addr.add a1 2) 6) fun u9 => yaA .i64 a0 (Addr.add (Addr.add a1 2) 7) fun v0 => yaC a0 (Addr.add (Addr.add a1 2) 8) fun g7 h5 h1 => yaK a0 (Addr.add (Addr.add a1 2) 9) fun u0 => yaK a0 (Addr.add (Addr.add a1 2) 10) fun u1 => yaA .i64 a0 (Addr.add (Addr.add a1 2) 11) fun v1 => yaR a0 (Addr.add (Addr.add a1 2) 12) fun u2 => yaC a0 (Addr.add (Addr.add a1 2) 13) fun g8 h6 h2 =>
 Calls pP 53 #[(.agg (Z2 u3 h9 u4 u5 u6 u7 u9 v0 g7 h5 h1 u0 u1 v1 u2 g8 h6 h2)),(.agg (Z2 x6 s7 x8 x9 f8 f9 g0 g1 d2 e4 e2 e6 e7 g2 e8 e1 e5 e3))] a0 fun e a2 => ∃ g4,e = .returned (.bool g4) ∧ yaG [b0,b2,b3] a0 a2 ∧
 brB (!g4) (
 ∀ f3,Adv [] [] a2 f3 → f3.heap[b0]? = some (.cells #[.slice q0 o0_n o0_c,.slice q1 o1_n o1_c,(.map M0),.int .i64 i0] 68) →
 R (.bool false) f3)
 (
 ixA q1 o1_n b9 6 fun b8 =>
 yaA .i64 a2 b8 fun v2 => yaA .i64 a2 (Addr.add b8 1) fun v3 => yaA .i64 a2 (Addr.add b8 2) fun v4 => yaA .i64 a2 (Addr.add b8 3) fun v5 => yaC a2 (Addr.add b8 4) fun g9 h7 h3 => yaC a2 (Addr.add b8 5) fun h0 h8 h4 =>
 Calls pP 54 #[(.agg (Z3 j1 j2 j3 j4 q4 a6 a5 q5 a9 a8)),(.agg (Z3 v2 v3 v4 v5 g9 h7 h3 h0 h8 h4))] a2 fun e f4 => ∃ g5,e = .returned (.bool g5) ∧ yaG [b0,b2,b3] a2 f4 ∧
 brB (!g5) (
 ∀ f5,Adv [] [] f4 f5 → f5.heap[b0]? = some (.cells #[.slice q0 o0_n o0_c,.slice q1 o1_n o1_c,(.map M0),.int .i64 i0] 68) →
 R (.bool false) f5)
 (
 ∀ f6,Adv [b3] [] f4 f6 →
 yc7 pP (Instr.mapUpdate 66 (.map M0) (.int .i64 i1) (.agg (Z10 false x5 x6 s7 x8 x9 f8 f9 g0 g1 d2 e4 e2 e6 e7 g2 e8 e1 e5 e3 g3))) f6 fun g6 => yaG [b0,b2,b3] f6 g6 ∧
 ∀ f7,Adv [b0] [] g6 f7 → f7.heap[b0]? = some (.cells #[.slice q0 o0_n o0_c,.slice q1 o1_n o1_c,(.map M0),(.int .i64 (if b9 > i0 then b9 else i0))] 68) →
 R (.bool true) f7)))))) :
 CR pP 23 #[(.pointer (some ⟨b0,0,none⟩)),(.agg (Z1 i1 i2 B0 i3 d5 i4 i5 i6 i7 i8 i9 q2 c2 c1 c8 c9 j0 B1 q3 c5 c4 j1 j2 j3 j4 q4 a6 a5 q5 a9 a8))] w R :=
 yaO Tryz.wide_mixed (an:=[]) Tryz.func23 rfl rfl (by kernel_rfl) rfl hb (Eq.mpr (by kernel_rfl) h)
end
end Go.Proofs.YtkepmmocldnnfaaGreat
namespace Go.Proofs.YtkepmmocldnnfaaGreat
open Go Go.RowKit Go.Maps Go.MapKept
set_option linter.unusedVariables false
set_option linter.unusedSimpArgs false
structure PEv where
 c:Int
 n:Int
 a:Bool
 op:POp
 r:PRep
structure EV where
 x:PEv
 rs:Sl
 ts:Sl
 f:Sl
 p:Sl
def EV.cs (q:EV):List Value:=[.int .i64 q.x.c,.int .i64 q.x.n,.bool q.x.a,.int .i64 q.x.op.kind,.string q.x.op.part.t,.int .i64 q.x.op.part.n,.int .i64 q.x.op.n,.int .i64 q.x.op.off,.int .i64 q.x.op.b.prod,.int .i64 q.x.op.b.epoch,.int .i64 q.x.op.b.seq,.slice q.rs.a q.rs.n q.rs.c,.string q.x.op.g,.string q.x.op.m,.int .i64 q.x.op.gen,.bool q.x.op.robin,.slice q.ts.a q.ts.n q.ts.c,.int .i64 q.x.r.e,.int .i64 q.x.r.off,.int .i64 q.x.r.n,.int .i64 q.x.r.gen,.slice q.f.a q.f.n q.f.c,.slice q.p.a q.p.n q.p.c]
def EV.v (q:EV):Value:=.agg #[.int .i64 q.x.c,.int .i64 q.x.n,.bool q.x.a,.int .i64 q.x.op.kind,.string q.x.op.part.t,.int .i64 q.x.op.part.n,.int .i64 q.x.op.n,.int .i64 q.x.op.off,.int .i64 q.x.op.b.prod,.int .i64 q.x.op.b.epoch,.int .i64 q.x.op.b.seq,.slice q.rs.a q.rs.n q.rs.c,.string q.x.op.g,.string q.x.op.m,.int .i64 q.x.op.gen,.bool q.x.op.robin,.slice q.ts.a q.ts.n q.ts.c,.int .i64 q.x.r.e,.int .i64 q.x.r.off,.int .i64 q.x.r.n,.int .i64 q.x.r.gen,.slice q.f.a q.f.n q.f.c,.slice q.p.a q.p.n q.p.c]
theorem EV.cs_len (q:EV):q.cs.length = 23:=rfl
theorem EV.cs_one (q:EV):∀ u ∈ q.cs,u.oneCell' = true:=by simp [EV.cs,Value.oneCell']
structure EvAt (w:World) (q:EV):Prop where
 op:OpAt w q.x.op q.rs q.ts
 rep:RepAt w q.x.r q.f q.p
theorem EvAt.keep0 {w w':World} {q:EV} (h:EvAt w q) (M:Mod [] w w'):EvAt w' q:=⟨h.op.keep0 M,h.rep.keep0 M⟩
structure Kn where
 waits:Bool
 last:Int
 op:POp
 since:Int
structure KnV where
 k:Kn
 rs:Sl
 ts:Sl
def KnV.v (q:KnV):Value:=.agg #[.bool q.k.waits,.int .i64 q.k.last,.int .i64 q.k.op.kind,.string q.k.op.part.t,.int .i64 q.k.op.part.n,.int .i64 q.k.op.n,.int .i64 q.k.op.off,.int .i64 q.k.op.b.prod,.int .i64 q.k.op.b.epoch,.int .i64 q.k.op.b.seq,.slice q.rs.a q.rs.n q.rs.c,.string q.k.op.g,.string q.k.op.m,.int .i64 q.k.op.gen,.bool q.k.op.robin,.slice q.ts.a q.ts.n q.ts.c,.int .i64 q.k.since]
def kn0:Kn:=⟨false,0,op0,0⟩
def yEs:KnV:=⟨kn0,ybM,ybM⟩
theorem yFI (w:World):(zeroValue 103).run pP w = .ok yEs.v w:=by kernel_rfl
abbrev KL:=List (Int × Kn)
def yu0 (L:KL) (ans:Int) (e:PEv):Option KL :=
 if ((lkp L e.c).getD kn0).waits = true then none else if e.n ≠ IntKind.wrap .i64 (((lkp L e.c).getD kn0).last + 1) then none else some (put L e.c ⟨true,e.n,e.op,ans⟩)
def yu1 (calls:List PCall) (reps:List PRep) (L:KL) (ans:Int) (e:PEv):Option (KL × Int) :=
 if ((lkp L e.c).getD kn0).waits = false then none else if e.n ≠ ((lkp L e.c).getD kn0).last then none else
  if ycY calls e.c e.n ≤ ((lkp L e.c).getD kn0).since then none else
   match calls[(ycY calls e.c e.n).toNat]?,reps[(ycY calls e.c e.n).toNat]? with
   | some q,some r => if q.op ≠ ((lkp L e.c).getD kn0).op then none else if e.r ≠ r then none else
    some (put L e.c ⟨false,((lkp L e.c).getD kn0).last,((lkp L e.c).getD kn0).op,((lkp L e.c).getD kn0).since⟩,if ycY calls e.c e.n > ans then ycY calls e.c e.n else ans)
   | _,_ => none
def knL (L:List (Int × KnV)):KL:=L.map fun p => (p.1,p.2.k)
theorem ydX {κ β γ:Type} [DecidableEq κ] (f:β → γ) (L:List (κ × β)) (k:κ):lkp (L.map fun p => (p.1,f p.2)) k = (lkp L k).map f:=by
 induction L with
 | nil => rfl
 | cons q r ih => rw [List.map_cons,lkp,lkp,ih]; split <;> rfl
theorem yeJ {κ β γ:Type} [DecidableEq κ] (f:β → γ) (L:List (κ × β)) (k:κ) (v:β):put (L.map fun p => (p.1,f p.2)) k (f v) = (put L k v).map fun p => (p.1,f p.2):=by
 induction L with
 | nil => rfl
 | cons q r ih => rw [List.map_cons,put,put,ih]; split <;> simp_all
theorem ycG {κ β:Type} [DecidableEq κ] {L:List (κ × β)} {k:κ} {v:β} {p:κ × β} (h:p ∈ put L k v):p = (k,v) ∨ p ∈ L:=by
 induction L with
 | nil => simp [put] at h; exact .inl h
 | cons q r ih =>
  rw [put] at h
  split at h
  ·rcases List.mem_cons.1 h with h | h
   ·exact .inl h
   ·exact .inr (List.mem_cons_of_mem _ h)
  ·rcases List.mem_cons.1 h with h | h
   ·exact .inr (h ▸ List.mem_cons_self)
   ·rcases ih h with h | h
    ·exact .inl h
    ·exact .inr (List.mem_cons_of_mem _ h)
theorem yBT (L:List (Int × KnV)) (c:Int):((lkp (knL L) c).getD kn0) = ((lkp L c).getD yEs).k:=by
 unfold knL
 rw [ydX]
 cases lkp L c <;> rfl
theorem yBU (L:List (Int × KnV)) (c:Int) (v:KnV):put (knL L) c v.k = knL (put L c v):=yeJ _ L c v
theorem yFJ (o:Option KnV):o.elim yEs.v KnV.v = (o.getD yEs).v:=by cases o <;> rfl
structure WtAt (w0 w:World) (b:Nat) (sc sr:Sl) (bm:Nat) (ans:Int) (L:List (Int × KnV)):Prop where
 cells:w.heap[b]? = some (.cells #[.slice sc.a sc.n sc.c,.slice sr.a sr.n sr.c,.map (some bm),.int .i64 ans] 68)
 mp:yaX pP 3 hki KnV.v w bm L
 ops:∀ p ∈ L,OpAt w0 p.2.k.op p.2.rs p.2.ts
 base:Mod [] w0 w
 fb:w0.heap.size ≤ b
 fm:w0.heap.size ≤ bm
 since:∀ p ∈ L,-1 ≤ p.2.k.since
 lo:-1 ≤ ans
theorem WtAt.ne {w0 w:World} {b bm:Nat} {sc sr:Sl} {ans:Int} {L:List (Int × KnV)} (h:WtAt w0 w b sc sr bm ans L):b ≠ bm:=by
 rintro rfl
 obtain ⟨es,cl,hb,_⟩:=h.mp
 rw [h.cells] at hb; cases hb
theorem WtAt.keep0 {w0 w w':World} {b bm:Nat} {sc sr:Sl} {ans:Int} {L:List (Int × KnV)} (h:WtAt w0 w b sc sr bm ans L) (M:Mod [] w w'):WtAt w0 w' b sc sr bm ans L :=
 ⟨M.keep0 h.cells,h.mp.of_block (M.block _ h.mp.lt (by simp)),h.ops,h.base.go0 M (by simp),h.fb,h.fm,h.since,h.lo⟩
theorem WtAt.get {w0 w:World} {b bm:Nat} {sc sr:Sl} {ans:Int} {L:List (Int × KnV)} (h:WtAt w0 w b sc sr bm ans L) (c:Int):OpAt w0 ((lkp L c).getD yEs).k.op ((lkp L c).getD yEs).rs ((lkp L c).getD yEs).ts ∧ -1 ≤ ((lkp L c).getD yEs).k.since:=by
 cases hx:lkp L c with
 | none => exact ⟨(yp0 w0 0).at,by decide⟩
 | some v => have hm:=yaW hx; exact ⟨h.ops _ hm,h.since _ hm⟩
theorem ysO {w0 w:World} {b bm:Nat} {sc sr:Sl} {ans:Int} {L:List (Int × KnV)} (h:WtAt w0 w b sc sr bm ans L) (q:EV) (hO:OpAt w0 q.x.op q.rs q.ts) (hc:s64 q.x.c) :
  Calls pP 22 #[.pointer (some ⟨b,0,none⟩),q.v] w fun e w' => ∃ v,e = .returned v ∧ ∃ t,v = .bool t ∧ Mod [b,bm] w w' ∧ match yu0 (knL L) ans q.x with
   | none => t = false ∧ WtAt w0 w' b sc sr bm ans L
   | some L' => t = true ∧ ∃ L2,knL L2 = L' ∧ WtAt w0 w' b sc sr bm ans L2:=by
 have hne:=h.ne
 have lb:=yaL h.cells
 have lm:=h.mp.lt
 refine yJP h.cells ?_
 intro b2 f2 w3 A3
 have h3:=h.keep0 A3.mod
 have s3:=A3.mod.size
 have l2:=A3.lt b2 (by simp)
 have hlk:=fun w' (M:Mod [] w3 w') => (h3.keep0 M).mp.look (T:=66) false yiX yc4 Tryz.underlying66 (yFI w') (ydD hc)
 simp only [yFJ,Bool.false_eq_true,if_false] at hlk
 unfold yu0
 rw [yBT]
 refine ⟨_,_,_,_,_,_,_,_,_,_,_,_,_,_,_,_,_,_,_,_,_,fun w' M => hlk w' M,?_⟩
 intro b25 f25
 refine yaD (fun g => ?_) fun g => ?_
 ·intro w26 A26 _
  have N:=A3.mod.go0 A26.mod (by simp)
  rw [if_pos g]
  exact ⟨_,rfl,N.less (by simp),rfl,h.keep0 N⟩
 rw [if_neg (by rw [g]; simp)]
 refine yaD (fun g2 => ?_) fun g2 => ?_
 ·intro w26 A26 _
  have N:=A3.mod.go0 A26.mod (by simp)
  rw [if_pos (by simpa using g2)]
  exact ⟨_,rfl,N.less (by simp),rfl,h.keep0 N⟩
 rw [if_neg (by simpa using g2)]
 intro w28 A28
 have N28:=A3.mod.go0 A28.mod (by simp)
 have h28:=h.keep0 N28
 have l25:=A28.lt b25 (by simp)
 obtain ⟨o,ho1,ho2⟩:=h28.mp.update yiX yc4 Tryz.underlying66 (⟨⟨true,q.x.n,q.x.op,ans⟩,q.rs,q.ts⟩:KnV) (ydD hc)
 refine ⟨_,ho1,yaG.of ycB (by simp; omega),?_⟩
 intro w30 A30 _
 have N30:Mod [bm] w w30:=((N28.trans ycB).trans A30.mod).less (by simp)
 refine ⟨_,rfl,N30.less (by simp),rfl,put L q.x.c ⟨⟨true,q.x.n,q.x.op,ans⟩,q.rs,q.ts⟩,(yBU L q.x.c ⟨⟨true,q.x.n,q.x.op,ans⟩,q.rs,q.ts⟩).symm,?_⟩
 refine ⟨N30.keep h.cells (by simp; exact hne),ho2.of_block (A30.mod.block _ ho2.lt (by simp)),fun p hp => ?_,h.base.go0 N30 (by simp; exact h.fm),h.fb,h.fm,fun p hp => ?_,h.lo⟩
 ·rcases ycG hp with rfl | hp
  ·exact hO
  ·exact h.ops p hp
 ·rcases ycG hp with rfl | hp
  ·exact h.lo
  ·exact h.since p hp
set_option maxHeartbeats 1000000 in
theorem yBV {w0 w:World} {b bm:Nat} {sc sr:Sl} {ans:Int} {L:List (Int × KnV)} (h:WtAt w0 w b sc sr bm ans L) (q:EV) (hO:EvAt w0 q) (hc:s64 q.x.c) {calls:List PCall} {reps:List HV} (hC:ybV w0 sc calls) (hl:calls.length ≤ 1000000) (hR:ybD w0 6 HV.cs sr.a sr.n reps) (hRO:∀ r ∈ reps,RepAt w0 r.x r.f r.p) (hlen:reps.length = calls.length) :
  Calls pP 23 #[.pointer (some ⟨b,0,none⟩),q.v] w fun e w' => ∃ v,e = .returned v ∧ ∃ t,v = .bool t ∧ Mod [b,bm] w w' ∧ match yu1 calls (reps.map (·.x)) (knL L) ans q.x with
   | none => t = false ∧ WtAt w0 w' b sc sr bm ans L
   | some (L',ans') => t = true ∧ ∃ L2,knL L2 = L' ∧ WtAt w0 w' b sc sr bm ans' L2:=by
 have hne:=h.ne
 have lb:=yaL h.cells
 have lm:=h.mp.lt
 refine yJQ h.cells ?_
 intro b2 f2 w3 A3
 have h3:=h.keep0 A3.mod
 have s3:=A3.mod.size
 have l2:=A3.lt b2 (by simp)
 have hlk:=fun w' (M:Mod [] w3 w') => (h3.keep0 M).mp.look (T:=66) false yiX yc4 Tryz.underlying66 (yFI w') (ydD hc)
 simp only [yFJ,Bool.false_eq_true,if_false] at hlk
 obtain ⟨hkO,hks⟩:=h.get q.x.c
 unfold yu1
 rw [yBT]
 generalize (lkp L q.x.c).getD yEs = kv at hlk hkO hks ⊢
 refine ⟨_,_,_,_,_,_,_,_,_,_,_,_,_,_,_,_,_,_,_,_,_,fun w' M => hlk w' M,?_⟩
 intro b25 f25 w26 A26
 have l25:=A26.lt b25 (by simp)
 have N26:=A3.mod.go0 A26.mod (by simp)
 have B26:=h.base.go0 N26 (by simp)
 refine (yp5 (hC.keep0 B26) hl q.x.c q.x.n).mono ?_
 rintro _ w27 ⟨rfl,M27⟩
 have N27:=N26.go0 M27 (by simp)
 have B27:=h.base.go0 N27 (by simp)
 refine ⟨_,rfl,yaG.of0 M27,?_⟩
 have no:∀ {w' w''},Mod [] w w' → Adv [] [] w' w'' → ∃ t,Value.bool false = Value.bool t ∧ Mod [b,bm] w w'' ∧ (t = false ∧ WtAt w0 w'' b sc sr bm ans L):=fun N A => ⟨_,rfl,(N.go0 A.mod (by simp)).less (by simp),rfl,h.keep0 (N.go0 A.mod (by simp))⟩
 refine yaD (fun g => ?_) fun g => ?_
 ·intro w29 A29 _
  rw [if_pos (by simpa using g)]
  exact no N27 A29
 rw [if_neg (by rw [show kv.k.waits = true by simpa using g]; simp)]
 refine yaD (fun g2 => ?_) fun g2 => ?_
 ·intro w29 A29 _
  rw [if_pos (by simpa using g2)]
  exact no N27 A29
 rw [if_neg (by simpa using g2)]
 refine yaH (fun g3 => ?_) fun g3 => ?_
 ·intro w29 A29 _
  rw [if_pos g3]
  exact no N27 A29
 rw [if_neg g3]
 obtain ⟨k,hk⟩:∃ k:Nat,ycY calls q.x.c q.x.n = k:=⟨(ycY calls q.x.c q.x.n).toNat,by omega⟩
 have hkc:∃ y,calls[k]? = some y:=by
  unfold ycY at hk
  cases hf:calls.findIdx? (isC q.x.c q.x.n) with
  | none => rw [hf] at hk; simp only at hk; omega
  | some i =>
   rw [hf] at hk
   simp only at hk
   obtain ⟨hl,_⟩:=List.findIdx?_eq_some_iff_getElem.1 hf
   have:i = k:=by omega
   subst this
   exact ⟨_,List.getElem?_eq_getElem hl⟩
 obtain ⟨y,hy⟩:=hkc
 rw [hk]
 obtain ⟨ll,hS,hSO,hcl⟩:=hC
 rw [← hcl] at hy
 obtain ⟨cv,hcv,hyv⟩:∃ cv,ll[k]? = some cv ∧ cv.x = y:=by
  rw [List.getElem?_map] at hy
  simpa using hy
 have hkl:=(List.getElem?_eq_some_iff.1 hy).1
 obtain ⟨rv,hrv⟩:∃ rv,reps[k]? = some rv:=⟨_,List.getElem?_eq_getElem (by rw [hlen,← hcl]; exact hkl)⟩
 have e1:calls[((k:Nat):Int).toNat]? = some y:=by rw [← hcl]; exact hy
 have e2:(reps.map (·.x))[((k:Nat):Int).toNat]? = some rv.x:=by simp [hrv]
 rw [e1,e2]
 simp only
 refine (hS.keep0 B27).ixW hcv fun ad had => ?_
 intro w33 A33
 have N33:=N27.go0 A33.mod (by simp)
 have B33:=h.base.go0 N33 (by simp)
 refine yp3 (yp4 (had w33 A33.mod)) ?_
 refine (ysC ((hSO cv (List.mem_of_getElem? hcv)).keep0 B33) (hkO.keep0 B33)).mono ?_
 rintro _ w52 ⟨rfl,M52⟩
 have N52:=N33.go0 M52 (by simp)
 have B52:=h.base.go0 N52 (by simp)
 refine ⟨_,rfl,yaG.of0 M52,?_⟩
 subst hyv
 refine yaD (fun g4 => ?_) fun g4 => ?_
 ·intro w54 A54 _
  rw [if_pos (by simpa using g4)]
  exact no N52 A54
 rw [if_neg (by simpa using g4)]
 refine (hR.keep0 B52).ix hrv fun a2 ha2 => ?_
 refine yaI (x:=rv.x.e) (by simpa [add_zero] using ha2 0 _ rfl) (yaI (ha2 1 _ rfl) (yaI (ha2 2 _ rfl) (yaI (ha2 3 _ rfl) (yaT (ha2 4 _ rfl) (yaT (ha2 5 _ rfl) ?_)))))
 refine (yEe (hO.rep.keep0 B52) ((hRO rv (List.mem_of_getElem? hrv)).keep0 B52)).mono ?_
 rintro _ w66 ⟨rfl,M66⟩
 have N66:=N52.go0 M66 (by simp)
 refine ⟨_,rfl,yaG.of0 M66,?_⟩
 refine yaD (fun g5 => ?_) fun g5 => ?_
 ·intro w68 A68 _
  rw [if_pos (by simpa using g5)]
  exact no N66 A68
 rw [if_neg (show ¬ q.x.r ≠ rv.x by simpa using g5)]
 intro w69 A69
 have N69:=N66.go0 A69.mod (by simp; omega)
 have h69:=h.keep0 N69
 have s69:=N69.size
 have s26:=N26.size
 obtain ⟨o,ho1,ho2⟩:=h69.mp.update yiX yc4 Tryz.underlying66 (⟨⟨false,kv.k.last,kv.k.op,kv.k.since⟩,kv.rs,kv.ts⟩:KnV) (ydD hc)
 refine ⟨_,ho1,yaG.of ycB (by simp; omega),?_⟩
 intro w71 A71 h71
 have N71:Mod [b,bm] w w71:=((N69.trans ycB).trans A71.mod).less (by simp)
 refine ⟨_,rfl,N71,rfl,put L q.x.c ⟨⟨false,kv.k.last,kv.k.op,kv.k.since⟩,kv.rs,kv.ts⟩,(yBU L q.x.c ⟨⟨false,kv.k.last,kv.k.op,kv.k.since⟩,kv.rs,kv.ts⟩).symm,?_⟩
 refine ⟨h71,ho2.of_block (A71.mod.block _ ho2.lt (by simp; omega)),fun p hp => ?_,h.base.go0 N71 (by simp; exact ⟨h.fb,h.fm⟩),h.fb,h.fm,fun p hp => ?_,?_⟩
 ·rcases ycG hp with rfl | hp
  ·exact hkO
  ·exact h.ops p hp
 ·rcases ycG hp with rfl | hp
  ·exact hks
  ·exact h.since p hp
 ·have:=h.lo
  split <;> omega
end Go.Proofs.YtkepmmocldnnfaaGreat
namespace Go.Proofs.YtkepmmocldnnfaaGreat
open Go Go.RowKit
set_option linter.all false
section
set_option maxRecDepth 100000
variable {R:VWP} {w w0:World} {m:Nat} {i0 i1 i2 i3 i4 i5 i6 i7 i8 i9 j0 j1 j2 j3 j4 j5 j6 j7 j8 j9 k0 k1 k2 k3 k4 k5 k6 k7 k8 k9 l0 l1 l2 l3 l4 l5 l6 l7 l8 l9:Int} {s0 s1 s2 s3 s4 s5 s6 s7 s8 s9 t0 t1 t2 t3 t4 t5 t6 t7 t8 t9:BA} {n0 n1 n2 n3 n4 n5 n6 n7 n8 n9 o0 o1 o2 o3 o4 o5 o6 o7 o8 o9 p0 p1 p2 p3 p4 p5 p6 p7 p8 p9:Nat} {q0 q1 q2 q3 q4 q5 q6 q7 q8 q9 r0 r1 r2 r3 r4 r5 r6 r7 r8 r9:OA} {B0 B1 B2 B3 B4 B5 B6 B7 B8 B9:Bool} {M0 M1 M2 M3:Option Nat} {V0 V1 V2 V3 V4 V5:Value} {A0 A1 A2:Addr}
def yu2:LA:=⟨[0,0,1,0,1,1,1],[8,9,24,25,26],[(9,0,0)],1,[0]⟩
def yw7:List LA:=[yu2]
abbrev yJR:=dnF pP yw7 (code Tryz.f11)
abbrev yME:=ya0 pP yw7 (code Tryz.f11)
abbrev yJS (p:List Nat) (K:List Kh) (R:VWP):=ya0 pP yw7 (code Tryz.f11) p K (ybO pP Tryz.f11 [] R)
def ymL (b3:Int) (a8:OA) (b0 a9:Nat) (b1:Int) (bm0:Nat):Int × (Option Addr) × Nat × Nat × (Option Addr) × Nat × Nat × (Option Nat) × Int → List Value × List TB:=fun (b2,a0,a5,a2,a1,a6,a3,a4,a7) => ([.int .i64 b3,(.pointer (some ⟨bm0,0,none⟩)),.slice a8 b0 a9,.int .i64 b1,.int .i64 b2],[⟨bm0,68,[.slice a0 a5 a2,.slice a1 a6 a3,(.map a4),.int .i64 a7],true⟩])
abbrev yBW (a4:Int) (a0:OA) (a2 a1:Nat) (a3:Int) (bm0:Nat) (I:Nat → Int → Option Addr → Nat → Nat → Option Addr → Nat → Nat → Option Nat → Int → World → Prop) (m:Nat):Kh:=KG (ymL a4 a0 a2 a1 a3 bm0) (U9 I) m
theorem yiY {I:Nat → Int → Option Addr → Nat → Nat → Option Addr → Nat → Nat → Option Nat → Int → World → Prop} (m':Nat) (h1:m' < m) (h2:I m' i2 q1 n3 n4 q2 n5 n6 M0 i3 w):KS (yBW i0 q0 n0 n1 i1 n2 I m) (ymL i0 q0 n0 n1 i1 n2 (i2,q1,n3,n4,q2,n5,n6,M0,i3)) w:=⟨m',h1,_,rfl,rfl,h2⟩
theorem ysP (I:Nat → Int → Option Addr → Nat → Nat → Option Addr → Nat → Nat → Option Nat → Int → World → Prop) (m0:Nat) (h0:I m0 i2 q1 n3 n4 q2 n5 n6 M0 i3 w0)
 (hr:∀ (m:Nat) (a9:Int) (a1:OA) (a6 a3:Nat) (a2:OA) (a7 a4:Nat) (a5:Option Nat) (a8:Int) (w:World),I m a9 a1 a6 a3 a2 a7 a4 a5 a8 w →
 w.heap[n2]? = some (.cells #[.slice a1 a6 a3,.slice a2 a7 a4,(.map a5),.int .i64 a8] 68) →
 brB (decide (a9 < i1)) (
 ixA q0 n0 a9 23 fun a0 =>
 yaA .i64 w a0 fun g4 => yaA .i64 w (Addr.add a0 1) fun g5 => yaR w (Addr.add a0 2) fun e1 => yaA .i64 w (Addr.add a0 3) fun g6 => yaK w (Addr.add a0 4) fun f9 => yaA .i64 w (Addr.add a0 5) fun g7 => yaA .i64 w (Addr.add a0 6) fun g8 => yaA .i64 w (Addr.add a0 7) fun g9 => yaA .i64 w (Addr.add a0 8) fun h1 => yaA .i64 w (Addr.add a0 9) fun h2 => yaA .i64 w (Addr.add a0 10) fun h3 => yaC w (Addr.add a0 11) fun e5 f4 f0 => yaK w (Addr.add a0 12) fun g0 => yaK w (Addr.add a0 13) fun g1 => yaA .i64 w (Addr.add a0 14) fun h4 => yaR w (Addr.add a0 15) fun g2 => yaC w (Addr.add a0 16) fun e6 f5 f1 => yaA .i64 w (Addr.add a0 17) fun h5 => yaA .i64 w (Addr.add a0 18) fun h6 => yaA .i64 w (Addr.add a0 19) fun h7 => yaA .i64 w (Addr.add a0 20) fun h8 => yaC w (Addr.add a0 21) fun e7 f6 f2 => yaC w (Addr.add a0 22) fun e8 f7 f3 =>
 ∀ b3,w.heap.size ≤ b3 →
 brB e1 (
 brB (i0 != 0) (
 ∀ e2,Adv [] [b3] w e2 → e2.heap[n2]? = some (.cells #[.slice a1 a6 a3,.slice a2 a7 a4,(.map a5),.int .i64 a8] 68) →
 R (.int .i64 a9) e2)
 (
 ∀ c7,Adv [] [b3] w c7 → c7.heap[n2]? = some (.cells #[.slice a1 a6 a3,.slice a2 a7 a4,(.map a5),.int .i64 a8] 68) →
 Calls pP 23 #[(.pointer (some ⟨n2,0,none⟩)),(.agg (Z1 g4 g5 e1 g6 f9 g7 g8 g9 h1 h2 h3 e5 f4 f0 g0 g1 h4 g2 e6 f5 f1 h5 h6 h7 h8 e7 f6 f2 e8 f7 f3))] c7 fun e c8 => ∃ g3,e = .returned (.bool g3) ∧ yb9 [n2] [(b3,46)] [b3] c7 c8 ∧ ∃ e9 f8 d3 d0 d7 d4,∃ m104:Option Nat,∃ e3,c8.heap[n2]? = some (.cells #[.slice e9 f8 d3,.slice d0 d7 d4,(.map m104),.int .i64 e3] 68) ∧
 brB (!g3) (
 R (.int .i64 a9) c8)
 (
 KS (yBW i0 q0 n0 n1 i1 n2 I m) (ymL i0 q0 n0 n1 i1 n2 ((IntKind.wrap .i64 (a9 + 1)),e9,f8,d3,d0,d7,d4,m104,e3)) c8)))
 (
 brB (i0 != 0) (
 ∀ c6,Adv [] [b3] w c6 → c6.heap[n2]? = some (.cells #[.slice a1 a6 a3,.slice a2 a7 a4,(.map a5),.int .i64 a8] 68) →
 R (.int .i64 a9) c6)
 (
 ∀ c4,Adv [] [b3] w c4 → c4.heap[n2]? = some (.cells #[.slice a1 a6 a3,.slice a2 a7 a4,(.map a5),.int .i64 a8] 68) →
 Calls pP 22 #[(.pointer (some ⟨n2,0,none⟩)),(.agg (Z1 g4 g5 e1 g6 f9 g7 g8 g9 h1 h2 h3 e5 f4 f0 g0 g1 h4 g2 e6 f5 f1 h5 h6 h7 h8 e7 f6 f2 e8 f7 f3))] c4 fun e c5 => ∃ e0,e = .returned (.bool e0) ∧ yb9 [n2] [(b3,46)] [b3] c4 c5 ∧ ∃ d1 d8 d5 d2 d9 d6,∃ m127:Option Nat,∃ e4,c5.heap[n2]? = some (.cells #[.slice d1 d8 d5,.slice d2 d9 d6,(.map m127),.int .i64 e4] 68) ∧
 brB (!e0) (
 R (.int .i64 a9) c5)
 (
 KS (yBW i0 q0 n0 n1 i1 n2 I m) (ymL i0 q0 n0 n1 i1 n2 ((IntKind.wrap .i64 (a9 + 1)),d1,d8,d5,d2,d9,d6,m127,e4)) c5))))
 (
 R (.int .i64 (-1)) w)) :
 yaU yu2 (yJR 395 [0,0,1,0,1,1,1]) (yJS [1,1,1,0,1,0] [] R) (ymL i0 q0 n0 n1 i1 n2 (i2,q1,n3,n4,q2,n5,n6,M0,i3)) w0 :=
 lrule (ymL i0 q0 n0 n1 i1 n2) (U9 I) h0 (by rintro m ⟨a9,a1,a6,a3,a2,a7,a4,a5,a8⟩ w h; exact ⟨by kernel_rfl,by kernel_rfl,fun js => Eq.mpr (by kernel_rfl) (hr m a9 a1 a6 a3 a2 a7 a4 a5 a8 w h)⟩)
theorem yFK {a2 a1:Nat} {a3 a5:Nat} (h :
 Calls pP 8 #[.int .i64 i0,.slice q0 a2 a1] w fun e w6 => ∃ a7 n8 c9 b2,e = .returned (.tuple #[.slice a7 n8 c9,.int .i64 b2]) ∧
 al w6 (.map #[] 0) fun b0 b1 =>
 ∀ a9,b1.heap.size ≤ a9 →
 ∀ a8,Adv [] [a9] b1 a8 → a8.heap[a9]? = some (.cells #[.slice q0 a2 a1,.slice a7 n8 c9,(.map (some b0)),(.int .i64 (-1))] 68) →
 yaU yu2 (yJR 395 [0,0,1,0,1,1,1]) (yJS [1,1,1,0,1,0] [] R) (ymL b2 q1 a3 a5 (a3:Int) a9 (0,q0,a2,a1,a7,n8,c9,(some b0),(-1))) a8) :
 CR pP 11 (Z17 i0 q0 a2 a1 q1 a3 a5) w R :=
 yaB Tryz.wide_mixed (an:=yw7) Tryz.func11 rfl rfl (by kernel_rfl) rfl (Eq.mpr (by kernel_rfl) h)
end
end Go.Proofs.YtkepmmocldnnfaaGreat
namespace Go.Proofs.YtkepmmocldnnfaaGreat
open Go Go.RowKit Go.Maps Go.MapKept
set_option linter.unusedVariables false
set_option linter.unusedSimpArgs false
def goF (calls:List PCall) (reps:List PRep):Nat → KL → Int → List PEv → Int
 | _,_,_,[] => -1
 | i,L,ans,e :: r => if e.a = true then (match yu1 calls reps L ans e with
  | none => (i:Int)
  | some (L',ans') => goF calls reps (i + 1) L' ans' r) else (match yu0 L ans e with
  | none => (i:Int)
  | some L' => goF calls reps (i + 1) L' ans r)
def ycC (er:Int) (calls:List PCall) (reps:List PRep) (evs:List PEv):Int:=if er = 0 then goF calls reps 0 [] (-1) evs else if evs.length = 0 then -1 else 0
theorem yp6 {w:World} {a:Addr} {q:EV} {F:Int → Int → Bool → Int → ByteArray → Int → Int → Int → Int → Int → Int → Option Addr → Nat → Nat → ByteArray → ByteArray → Int → Bool → Option Addr → Nat → Nat → Int → Int → Int → Int → Option Addr → Nat → Nat → Option Addr → Nat → Nat → Prop} (h:∀ j v,q.cs[j]? = some v → w.cell? (a.add j) = some v)
  (hF:F q.x.c q.x.n q.x.a q.x.op.kind q.x.op.part.t q.x.op.part.n q.x.op.n q.x.op.off q.x.op.b.prod q.x.op.b.epoch q.x.op.b.seq q.rs.a q.rs.n q.rs.c q.x.op.g q.x.op.m q.x.op.gen q.x.op.robin q.ts.a q.ts.n q.ts.c q.x.r.e q.x.r.off q.x.r.n q.x.r.gen q.f.a q.f.n q.f.c q.p.a q.p.n q.p.c) :
  yaA .i64 w a fun x0 => yaA .i64 w (a.add 1) fun x1 => yaR w (a.add 2) fun x2 => yaA .i64 w (a.add 3) fun x3 => yaK w (a.add 4) fun x4 => yaA .i64 w (a.add 5) fun x5 => yaA .i64 w (a.add 6) fun x6 => yaA .i64 w (a.add 7) fun x7 => yaA .i64 w (a.add 8) fun x8 => yaA .i64 w (a.add 9) fun x9 => yaA .i64 w (a.add 10) fun x10 => yaC w (a.add 11) fun a11 n11 c11 => yaK w (a.add 12) fun x12 => yaK w (a.add 13) fun x13 => yaA .i64 w (a.add 14) fun x14 => yaR w (a.add 15) fun x15 => yaC w (a.add 16) fun a16 n16 c16 => yaA .i64 w (a.add 17) fun x17 => yaA .i64 w (a.add 18) fun x18 => yaA .i64 w (a.add 19) fun x19 => yaA .i64 w (a.add 20) fun x20 => yaC w (a.add 21) fun a21 n21 c21 => yaC w (a.add 22) fun a22 n22 c22 => F x0 x1 x2 x3 x4 x5 x6 x7 x8 x9 x10 a11 n11 c11 x12 x13 x14 x15 a16 n16 c16 x17 x18 x19 x20 a21 n21 c21 a22 n22 c22 :=
 yaI (x:=q.x.c) (by simpa [add_zero] using h 0 _ rfl) (yaI (h 1 _ rfl) (ya1 (h 2 _ rfl) (yaI (h 3 _ rfl) (yaN (h 4 _ rfl) (yaI (h 5 _ rfl) (yaI (h 6 _ rfl) (yaI (h 7 _ rfl) (yaI (h 8 _ rfl) (yaI (h 9 _ rfl) (yaI (h 10 _ rfl) (yaT (h 11 _ rfl) (yaN (h 12 _ rfl) (yaN (h 13 _ rfl) (yaI (h 14 _ rfl) (ya1 (h 15 _ rfl) (yaT (h 16 _ rfl) (yaI (h 17 _ rfl) (yaI (h 18 _ rfl) (yaI (h 19 _ rfl) (yaI (h 20 _ rfl) (yaT (h 21 _ rfl) (yaT (h 22 _ rfl) hF))))))))))))))))))))))
set_option maxHeartbeats 1000000 in
theorem yEt {w:World} {s t:Sl} {calls:List PCall} {evs:List EV} {room er:Int} {reps:List HV}
  (hRep:Calls pP 8 #[.int .i64 room,.slice s.a s.n s.c] w fun e w' => ∃ v,e = .returned v ∧ ∃ s':Sl,v = .tuple #[.slice s'.a s'.n s'.c,.int .i64 er] ∧ Mod [] w w' ∧ (er = 0 → ybD w' 6 HV.cs s'.a s'.n reps ∧ ∀ r ∈ reps,RepAt w' r.x r.f r.p))
  (hC:ybV w s calls) (hl:calls.length ≤ 1000000) (hlen:reps.length = calls.length) (hE:ybD w 23 EV.cs t.a t.n evs) (hEO:∀ q ∈ evs,EvAt w q ∧ s64 q.x.c) (hle:evs.length ≤ 1000000) :
  Calls pP 11 #[.int .i64 room,.slice s.a s.n s.c,.slice t.a t.n t.c] w fun e w' => e = .returned (.int .i64 (ycC er calls (reps.map (·.x)) (evs.map (·.x)))) ∧ Mod [] w w':=by
 refine ya2 (yFK ?_)
 refine hRep.mono ?_
 rintro _ w6 ⟨_,rfl,sr,rfl,M6,hr⟩
 refine ⟨_,_,_,_,rfl,ybH fun b14 w15 c15 M15 f15 => ?_⟩
 intro b16 f16 w129 A129 h129
 have s15:=M15.size
 have hn:=hE.1
 have B129:Mod [] w6 w129:=M15.go0 A129.mod (by simp)
 have hE6:=hE.keep0 M6
 have hEO6:∀ q ∈ evs,EvAt w6 q ∧ s64 q.x.c:=fun q hq => ⟨(hEO q hq).1.keep0 M6,(hEO q hq).2⟩
 have hC6:=hC.keep0 M6
 clear hE hEO hC
 have h0:WtAt w6 w129 b16 s sr b14 (-1) []:=⟨h129,yaX.of_new (A129.mod.keep0 c15),by simp,B129,by omega,f15,by simp,by omega⟩
 refine ysP (fun mm x a0 n0 c0 a1 n1 c1 m2 x3 w' => ∃ (k:Nat) (L:List (Int × KnV)),x = k ∧ k ≤ evs.length ∧ (a0 = s.a ∧ n0 = s.n ∧ c0 = s.c) ∧ (a1 = sr.a ∧ n1 = sr.n ∧ c1 = sr.c) ∧ m2 = some b14 ∧ WtAt w6 w' b16 s sr b14 x3 L ∧
   (er = 0 → goF calls (reps.map (·.x)) 0 [] (-1) (evs.map (·.x)) = goF calls (reps.map (·.x)) k (knL L) x3 ((evs.map (·.x)).drop k)) ∧ (er ≠ 0 → k = 0) ∧ mm = evs.length - k) evs.length
  ⟨0,[],rfl,by omega,⟨rfl,rfl,rfl⟩,⟨rfl,rfl,rfl⟩,rfl,h0,fun _ => rfl,fun _ => rfl,rfl⟩ ?_
 rintro mm x a0 n0 c0 a1 n1 c1 m2 x3 w1 ⟨k,L,rfl,hk,⟨rfl,rfl,rfl⟩,⟨rfl,rfl,rfl⟩,rfl,hW,hf,he,rfl⟩
 intro _
 have hne:=hW.ne
 have N1:Mod [] w w1:=M6.go0 hW.base (by simp)
 have lb:=yaL hW.cells
 have lm:=hW.mp.lt
 have s6:=M6.size
 have sb:=hW.fb
 have sm:=hW.fm
 refine yaH (fun hlt => ?_) fun hge => ?_
 ·obtain ⟨q,hq⟩:∃ q,evs[k]? = some q:=⟨_,List.getElem?_eq_getElem (by omega)⟩
  have hqm:=List.mem_of_getElem? hq
  have hq':(evs.map (·.x))[k]? = some q.x:=by simp [hq]
  have hd:(evs.map (·.x)).drop k = q.x :: (evs.map (·.x)).drop (k + 1):=by
   obtain ⟨h1,h2⟩:=List.getElem?_eq_some_iff.1 hq'
   rw [List.drop_eq_getElem_cons h1,h2]
  rw [hd] at hf
  simp only [goF] at hf
  obtain ⟨hqE,hqc⟩:=hEO6 q hqm
  have bad:∀ {w'},er ≠ 0 → Mod [] w1 w' → Value.int .i64 (k:Int) = .int .i64 (ycC er calls (reps.map (·.x)) (evs.map (·.x))) ∧ Mod [] w w':=fun hne M => by
   refine ⟨?_,N1.go0 M (by simp)⟩
   rw [ycC,if_neg hne,if_neg (by rw [List.length_map]; omega),he hne]
   rfl
  refine (hE6.keep0 hW.base).ix hq fun ad had => yp6 had ?_
  intro b82 f82
  refine yaD (fun ga => ?_) fun ga => ?_
  ·rw [if_pos ga] at hf
   refine yaD (fun g => ?_) fun g => ?_
   ·intro w94 A94 _
    exact bad (by simpa using g) A94.mod
   have g:er = 0:=by simpa using g
   have hf:=hf g
   obtain ⟨hr1,hr2⟩:=hr g
   intro w95 A95 _
   have l82:=A95.lt b82 (by simp)
   refine (yBV (hW.keep0 A95.mod) q hqE hqc hC6 hl hr1 hr2 hlen).mono ?_
   rintro _ w96 ⟨_,rfl,t,rfl,M96,hm⟩
   refine ⟨_,rfl,yaG.of M96 (fun i hi _ hc => by simp at hi hc; omega),?_⟩
   have N96:Mod [] w w96:=N1.go0 ((A95.mod.trans M96).less (T:=[b16,b14]) (by simp)) (by simp; omega)
   cases hx:yu1 calls (reps.map (·.x)) (knL L) x3 q.x with
   | none =>
    rw [hx] at hm hf
    obtain ⟨rfl,hW96⟩:=hm
    refine ⟨_,_,_,_,_,_,_,_,hW96.cells,brT rfl ⟨?_,N96⟩⟩
    rw [ycC,if_pos g,hf]
   | some p =>
    obtain ⟨L',ans'⟩:=p
    rw [hx] at hm hf
    obtain ⟨rfl,L2,rfl,hW96⟩:=hm
    refine ⟨_,_,_,_,_,_,_,_,hW96.cells,brF rfl ?_⟩
    exact yiY (evs.length - (k + 1)) (by omega) ⟨k + 1,L2,by rw [yaJ (by omega) (by omega)]; omega,by omega,⟨rfl,rfl,rfl⟩,⟨rfl,rfl,rfl⟩,rfl,hW96,fun _ => hf,fun h => absurd g h,rfl⟩
  ·rw [if_neg (by rw [ga]; simp)] at hf
   refine yaD (fun g => ?_) fun g => ?_
   ·intro w94 A94 _
    exact bad (by simpa using g) A94.mod
   have g:er = 0:=by simpa using g
   have hf:=hf g
   intro w95 A95 _
   have l82:=A95.lt b82 (by simp)
   refine (ysO (hW.keep0 A95.mod) q hqE.op hqc).mono ?_
   rintro _ w96 ⟨_,rfl,t,rfl,M96,hm⟩
   refine ⟨_,rfl,yaG.of M96 (fun i hi _ hc => by simp at hi hc; omega),?_⟩
   have N96:Mod [] w w96:=N1.go0 ((A95.mod.trans M96).less (T:=[b16,b14]) (by simp)) (by simp; omega)
   cases hx:yu0 (knL L) x3 q.x with
   | none =>
    rw [hx] at hm hf
    obtain ⟨rfl,hW96⟩:=hm
    refine ⟨_,_,_,_,_,_,_,_,hW96.cells,brT rfl ⟨?_,N96⟩⟩
    rw [ycC,if_pos g,hf]
   | some L' =>
    rw [hx] at hm hf
    obtain ⟨rfl,L2,rfl,hW96⟩:=hm
    refine ⟨_,_,_,_,_,_,_,_,hW96.cells,brF rfl ?_⟩
    exact yiY (evs.length - (k + 1)) (by omega) ⟨k + 1,L2,by rw [yaJ (by omega) (by omega)]; omega,by omega,⟨rfl,rfl,rfl⟩,⟨rfl,rfl,rfl⟩,rfl,hW96,fun _ => hf,fun h => absurd g h,rfl⟩
 ·have hk:k = evs.length:=by omega
  subst hk
  refine ⟨?_,N1⟩
  rw [ycC]
  by_cases g:er = 0
  ·rw [if_pos g,hf g,List.drop_of_length_le (by simp)]
   rfl
  ·rw [if_neg g,if_pos (by rw [List.length_map,he g])]
theorem yw8 {w:World} {s t:Sl} {calls:List PCall} {evs:List EV} (room:Int) (hC:ybV w s calls) (hl:calls.length ≤ 1000) (hT:∀ q ∈ calls,q.op = yk1) (hE:ybD w 23 EV.cs t.a t.n evs) (hEO:∀ q ∈ evs,EvAt w q ∧ s64 q.x.c) (hle:evs.length ≤ 1000000) :
  Calls pP 11 #[.int .i64 room,.slice s.a s.n s.c,.slice t.a t.n t.c] w fun e w' => e = .returned (.int .i64 (ycC (if 1 ≤ room ∧ room ≤ 64 then 0 else 1) calls ((yfL calls.length).map (·.x)) (evs.map (·.x)))) ∧ Mod [] w w':=by
 refine yEt (reps:=yfL calls.length) ((yjS hC hl hT room).mono ?_) hC (by omega) (yoS _) hE hEO hle
 rintro _ w' ⟨v,rfl,s',rfl,M,hr⟩
 refine ⟨_,rfl,s',rfl,M,fun h => ?_⟩
 have g:1 ≤ room ∧ room ≤ 64:=by
  by_cases g:1 ≤ room ∧ room ≤ 64
  ·exact g
  ·rw [if_neg g] at h; cases h
 refine ⟨(hr g).sl HV.cs_len,fun r hr' => ?_⟩
 simp only [yfL,List.mem_map] at hr'
 obtain ⟨k,_,rfl⟩:=hr'
 exact ⟨⟨rfl,by simp [yd3]⟩,⟨rfl,by simp [yd3]⟩,by simp [yd3],by simp [yd3]⟩
end Go.Proofs.YtkepmmocldnnfaaGreat
namespace Go.Proofs
open Go.Shelf
shelf_lay_g SlLaysF0.n6 Slsf 6 at Tryz 26 as Tryz.hsortL
shelf_lay_g SlLaysC2.n5 Slgc 5 at Tryz 28 as Tryz.hcmpL
end Go.Proofs
namespace Go.Proofs.YtkepmmocldnnfaaGreat
open Go Go.RowKit Go.Shelf Go.Lib Go.Sort
set_option linter.unusedVariables false
set_option linter.unusedSimpArgs false
instance:Inhabited CV:=⟨⟨⟨0,0,op0⟩,ybM,ybM⟩⟩
def yG0 (x y:CV):Int:=Lib.compareInt x.x.c y.x.c
theorem ltC (x y:CV):ltOf yG0 x y = decide (x.x.c < y.x.c):=by
 unfold ltOf yG0 Lib.compareInt
 by_cases h1:x.x.c < y.x.c
 ·simp [h1]
 ·by_cases h2:y.x.c < x.x.c <;> simp [h1,h2]
theorem yMF:SWO (ltOf yG0) where
 irrefl x:=by rw [ltC]; simp
 trans x y z h1 h2:=by rw [ltC] at *; simp at *; omega
 ntrans x y z h1 h2:=by rw [ltC] at *; simp at *; omega
set_option maxHeartbeats 4000000 in
theorem yEu (x y:CV) (W:World):Calls pP 27 #[.agg x.cs.toArray,.agg y.cs.toArray] W fun e w' => e = .returned (.int .i64 (yG0 x y)) ∧ ∃ q os',w' = grow (W.drewN q) os':=by
 have hcon:=fun W' => AnyG.cmp_Compare_int Tryz.hcmpL x.x.c y.x.c W'
 change ∀ W',Calls pP 28 _ _ _ at hcon
 unfold yG0 CV.cs
 generalize Lib.compareInt x.x.c y.x.c = r at hcon ⊢
 go_enter Tryz.func27,Tryz.ntmps27
 go_wp2_with (go_at_call 28; refine (hcon _).mono ?_; rintro e w' ⟨rfl,rfl⟩)
 go_ret
 exact ⟨rfl,0,_,by rw [alloc_eq_grow,alloc_eq_grow,grow_grow]; rfl⟩
theorem yEv (blk off size:Nat) (w:World):CmpLays pP 27 #[] CV.cs 16 yG0 blk off size w :=
 fun _ _ _ _ x y => yEu x y _
theorem yoT {α:Type} [Inhabited α] {enc:α → List Value} {k:Nat} (hk:∀ x,(enc x).length = k) (d:Array α) (t:Nat) (ht:t < d.size * k):(d.toList.flatMap enc)[t]? = some ((flatK enc k d)[t]!):=by
 have k0:0 < k:=Nat.pos_of_ne_zero fun h => by subst h; simp at ht
 have hi:t / k < d.size:=(Nat.div_lt_iff_lt_mul k0).2 ht
 have hj:t % k < k:=Nat.mod_lt _ k0
 rw [get_flatK _ _ _ _ ht]
 have hx:d.toList[t / k]? = some d[t / k]!:=by rw [getElem!_pos d (t / k) hi]; simp [hi]
 have:=ycQ hk d.toList (t / k) (t % k) _ hx hj
 have e:t / k * k + t % k = t:=by rw [Nat.mul_comm]; exact Nat.div_add_mod t k
 rw [e] at this
 rw [this]
 have hl:t % k < (enc d[t / k]!).length:=by rw [hk]; exact hj
 rw [List.getElem?_eq_getElem hl,getElem!_pos (enc d[t / k]!) (t % k) hl]
theorem yzC {α:Type} [Inhabited α] {w:World} {B T k g n c:Nat} {enc:α → List Value} {l:List α} (hk:∀ x,(enc x).length = k) (h:Row w B T k enc (some ⟨g,0,none⟩) n c l):HoldsK enc k w g 0 l.toArray:=by
 obtain ⟨hn,hlen,h⟩:=h
 rcases h with ⟨h,_⟩ | ⟨g',cap,cur,h1,h2,h3,h4,h5,h6,h7⟩
 ·cases h
 ·cases h1
  intro j hj
  have hj:j < l.length * k:=by simpa using hj
  have e:=yoT hk l.toArray j (by simpa using hj)
  have hcur:cur[j]? = some ((flatK enc k l.toArray)[j]!):=by
   rw [← e,← h7]
   simp only [← Array.getElem?_toList]
   rw [List.getElem?_take,if_pos (by rw [hn]; exact hj)]
  refine ⟨?_,?_⟩
  ·rw [yaY h3]; simpa using hcur
  ·simp [World.frozen?,h3]
theorem yzD {α:Type} [Inhabited α] {w:World} {B T k g n c m:Nat} {enc:α → List Value} {l:List α} {d:Array α} {os:Array Obj} (hk:∀ x,(enc x).length = k) (h:Row w B T k enc (some ⟨g,0,none⟩) n c l) (hd:d.size = l.length) :
  Row (sortWorldK enc k w g 0 m d os) B T k enc (some ⟨g,0,none⟩) n c d.toList ∧ Mod [g] w (sortWorldK enc k w g 0 m d os):=by
 obtain ⟨hn,hlen,h⟩:=h
 rcases h with ⟨h,_⟩ | ⟨g',cap,cur,h1,h2,h3,h4,h5,h6,h7⟩
 ·cases h
 ·cases h1
  have lg:g < w.heap.size:=yaL h3
  have hb:(sortWorldK enc k w g 0 m d os).heap[g]? = some (.cells (putCells id 0 (flatK enc k d) cur) T (0,0)):=by
   show ((w.heap.modify g (onCells (putCells id 0 (flatK enc k d)))) ++ os)[g]? = _
   rw [Array.getElem?_append_left (by simpa using lg),Array.getElem?_modify,if_pos rfl,h3]
   rfl
  have hsz:(w.heap.modify g (onCells (putCells id 0 (flatK enc k d)))).size = w.heap.size:=by simp
  refine ⟨⟨by simpa [hd] using hn,?_,.inr ⟨g,c,putCells id 0 (flatK enc k d) cur,rfl,h2,hb,h4,h5,by simp [putCells,h6],?_⟩⟩,rfl,rfl,rfl,?_,fun i hi hS => ?_⟩
  ·have:∀ (L:List α),(L.flatMap enc).length = L.length * k:=fun L => by
    induction L with
    | nil => simp
    | cons x r ih => rw [List.flatMap_cons,List.length_append,ih,hk,List.length_cons,Nat.add_mul]; omega
   rw [this]; simp [hd,hn]
  ·refine List.ext_getElem? fun t => ?_
   by_cases ht:t < n * k
   ·have htd:t < d.size * k:=by rw [hd,← hn]; exact ht
    rw [yoT hk d t htd,List.getElem?_take,if_pos ht]
    have hc:t < cur.size:=by
     rw [h6]; exact Nat.lt_of_lt_of_le ht (Nat.mul_le_mul_right k h4)
    have:(putCells id 0 (flatK enc k d) cur)[t]? = some ((flatK enc k d)[t]!):=by
     simp only [putCells,Array.getElem?_mapIdx]
     rw [Array.getElem?_eq_getElem hc]
     simp [htd]
    rw [Array.getElem?_toList,this]
   ·have h1:((putCells id 0 (flatK enc k d) cur).toList.take (n * k))[t]? = none:=by rw [List.getElem?_take,if_neg ht]
    have h2:(d.toList.flatMap enc)[t]? = none:=by
     rw [List.getElem?_eq_none_iff]
     have:∀ (L:List α),(L.flatMap enc).length = L.length * k:=fun L => by
      induction L with
      | nil => simp
      | cons x r ih => rw [List.flatMap_cons,List.length_append,ih,hk,List.length_cons,Nat.add_mul]; omega
     rw [this]
     have:d.toList.length = n:=by simp [hd,hn]
     rw [this]; omega
    rw [h1,h2]
  ·show w.heap.size ≤ ((w.heap.modify g (onCells (putCells id 0 (flatK enc k d)))) ++ os).size
   simp
  ·show ((w.heap.modify g (onCells (putCells id 0 (flatK enc k d)))) ++ os)[i]? = _
   rw [Array.getElem?_append_left (by simpa using hi),Array.getElem?_modify,if_neg (by intro e; exact hS (by simp [e]))]
theorem yEw {w:World} {B:Nat} {s:Sl} {ll:List CV} (hR:Row w B 35 16 CV.cs s.a s.n s.c ll) (hl:ll.length ≤ 1000000) :
  Calls pP 26 #[.slice s.a s.n s.c,.func (.func 27) #[] #[]] w fun e w' => e = .returned (.tuple #[]) ∧ ∃ ll':List CV,ll'.Perm ll ∧ ll'.Pairwise (fun a b => a.x.c ≤ b.x.c) ∧ Row w' B 35 16 CV.cs s.a s.n s.c ll' ∧ Mod (yaP s.a) w w':=by
 obtain ⟨sa,sn,sc⟩:=s
 have hn:sn = ll.length:=hR.1
 subst hn
 cases sa with
 | none =>
  have h0:ll = []:=by
   obtain ⟨_,_,h⟩:=hR
   rcases h with ⟨h,h2⟩ | ⟨g',cap,cur,h1,_⟩
   ·exact List.eq_nil_of_length_eq_zero h2
   ·cases h1
  subst h0
  refine (AnyF.slices_SortFunc_none Tryz.hsortL none sc (.func (.func 27) #[] #[]) w).mono ?_
  rintro _ w' ⟨rfl,rfl⟩
  exact ⟨rfl,[],List.Perm.refl _,List.Pairwise.nil,hR,(Mod.refl _).less (by simp)⟩
 | some ad =>
  obtain ⟨g,rfl⟩:∃ g,ad = ⟨g,0,none⟩:=by
   obtain ⟨_,_,h⟩:=hR
   rcases h with ⟨h,h2⟩ | ⟨g',cap,cur,h1,_⟩
   ·cases h
   ·cases h1; exact ⟨g',rfl⟩
  have hH:=yzC CV.cs_len hR
  have lg:g < w.heap.size:=by
   obtain ⟨_,cur,hc⟩:=hR.block _ rfl
   exact yaL hc
  have eg:∀ args w,(callFunc 27 args).run pP w = .ok (.enter 27 args) w:=enters_of Tryz.func27 (by kernel_rfl) rfl
  have hcon:=AnyQ.slices_SortFunc Tryz.hsortL 16 (by intro w; kernel_rfl) (by intro w; kernel_rfl) CV.cs CV.cs_len CV.cs_one yG0 yMF 27 #[] g 0 sc ll.toArray w eg (yEv g 0 _ w) hH lg (by simp; omega)
  change Calls pP 26 _ _ _ at hcon
  refine hcon.mono ?_
  rintro _ w' ⟨rfl,d',m,os,hP,hSd,rfl⟩
  obtain ⟨p1,p2,p3⟩:=hP
  have hsz:d'.size = ll.length:=by simpa using p1
  obtain ⟨hR',hM⟩:=yzD (m:=m) (os:=os) CV.cs_len hR hsz
  refine ⟨rfl,d'.toList,?_,?_,hR',hM⟩
  ·have et:d'.toList.take ll.length = d'.toList:=List.take_of_length_le (by simp [hsz])
   simpa [hsz,et] using p3
  ·refine List.pairwise_iff_getElem.2 fun i j hi hj hij => ?_
   have:=hSd i j (Nat.zero_le _) hij (by simpa [hsz] using hj)
   rw [ltC] at this
   simp only [decide_eq_false_iff_not] at this
   have hi':i < d'.size:=by simpa using hi
   have hj':j < d'.size:=by simpa using hj
   rw [getElem!_pos d' i hi',getElem!_pos d' j hj'] at this
   simp only [Array.getElem_toList]
   omega
end Go.Proofs.YtkepmmocldnnfaaGreat
namespace Go.Proofs.YtkepmmocldnnfaaGreat
open Go Go.RowKit
set_option linter.all false
section
set_option maxRecDepth 100000
variable {R:VWP} {w w0:World} {m:Nat} {i0 i1 i2 i3 i4 i5 i6 i7 i8 i9 j0 j1 j2 j3 j4 j5 j6 j7 j8 j9 k0 k1 k2 k3 k4 k5 k6 k7 k8 k9 l0 l1 l2 l3 l4 l5 l6 l7 l8 l9:Int} {s0 s1 s2 s3 s4 s5 s6 s7 s8 s9 t0 t1 t2 t3 t4 t5 t6 t7 t8 t9:BA} {n0 n1 n2 n3 n4 n5 n6 n7 n8 n9 o0 o1 o2 o3 o4 o5 o6 o7 o8 o9 p0 p1 p2 p3 p4 p5 p6 p7 p8 p9:Nat} {q0 q1 q2 q3 q4 q5 q6 q7 q8 q9 r0 r1 r2 r3 r4 r5 r6 r7 r8 r9:OA} {B0 B1 B2 B3 B4 B5 B6 B7 B8 B9:Bool} {M0 M1 M2 M3:Option Nat} {V0 V1 V2 V3 V4 V5:Value} {A0 A1 A2:Addr}
def yu3:LA:=⟨[0,0,1,0,1,1],[3,10,11,12],[],0,[]⟩
def yu4:LA:=⟨[0,0,1,0,1,1,1,1],[6,44],[],0,[]⟩
def yw9:List LA:=[yu3,yu4]
abbrev yEx:=dnF pP yw9 (code Tryz.f12)
abbrev yMG:=ya0 pP yw9 (code Tryz.f12)
abbrev yEy (p:List Nat) (K:List Kh) (R:VWP):=ya0 pP yw9 (code Tryz.f12) p K (ybO pP Tryz.f12 [] R)
def ykM (a5:Option Nat) (a0:OA) (a2 a1:Nat) (a3:Int):Int → List Value × List TB:=fun a4 => ([(.map a5),.slice a0 a2 a1,.int .i64 a3,.int .i64 a4],[])
def yoU (a0:Addr):(Option Addr) × Nat × Nat → List Value × List TB:=fun (a1,a3,a2) => ([.slice a1 a3 a2,(.pointer (some a0))],[])
abbrev yxA (a4:Option Nat) (a0:OA) (a2 a1:Nat) (a3:Int) (I:Nat → Int → World → Prop) (m:Nat):Kh:=KG (ykM a4 a0 a2 a1 a3) (U1 I) m
theorem ymM {I:Nat → Int → World → Prop} (m':Nat) (h1:m' < m) (h2:I m' i1 w):KS (yxA M0 q0 n0 n1 i0 I m) (ykM M0 q0 n0 n1 i0 i1) w:=⟨m',h1,_,rfl,rfl,h2⟩
theorem yBX (I:Nat → Int → World → Prop) (m0:Nat) (h0:I m0 i1 w0)
 (hr:∀ m a6 w,I m a6 w →
 brB (decide (a6 < i0)) (
 ixA q0 n0 a6 23 fun a0 =>
 yaA .i64 w a0 fun a9 => yaA .i64 w (Addr.add a0 1) fun b4 => yaR w (Addr.add a0 2) fun e4 => yaA .i64 w (Addr.add a0 3) fun e6 => yaK w (Addr.add a0 4) fun e1 => yaA .i64 w (Addr.add a0 5) fun e7 => yaA .i64 w (Addr.add a0 6) fun e8 => yaA .i64 w (Addr.add a0 7) fun e9 => yaA .i64 w (Addr.add a0 8) fun f0 => yaA .i64 w (Addr.add a0 9) fun f1 => yaA .i64 w (Addr.add a0 10) fun f2 => yaC w (Addr.add a0 11) fun d5 d9 d7 => yaK w (Addr.add a0 12) fun e2 => yaK w (Addr.add a0 13) fun e3 => yaA .i64 w (Addr.add a0 14) fun f3 => yaR w (Addr.add a0 15) fun e5 => yaC w (Addr.add a0 16) fun d6 e0 d8 => yaA .i64 w (Addr.add a0 17) fun g3 => yaA .i64 w (Addr.add a0 18) fun g4 => yaA .i64 w (Addr.add a0 19) fun g5 => yaA .i64 w (Addr.add a0 20) fun g6 => yaC w (Addr.add a0 21) fun f7 g1 f9 => yaC w (Addr.add a0 22) fun f8 g2 g0 =>
 ∀ a7,w.heap.size ≤ a7 →
 brB (!e4) (
 ∀ b2,Adv [] [a7] w b2 →
 yc7 pP (Instr.mapUpdate 70 (.map M0) (.int .i64 a9) (.agg (Z0 a9 b4 e6 e1 e7 e8 e9 f0 f1 f2 d5 d9 d7 e2 e3 f3 e5 d6 e0 d8))) b2 fun b3 => yaG [a7] b2 b3 ∧
 KS (yxA M0 q0 n0 n1 i0 I m) (ykM M0 q0 n0 n1 i0 (IntKind.wrap .i64 (a6 + 1))) b3)
 (
 ∀ a8,Adv [] [a7] w a8 →
 ∃ f4 b5 f5 c3 c8 c9 d0 d1 d2 d3 b6 c0 b8 c4 c5 d4 c6 b7 c1 b9,(∀ w',Mod [] a8 w' → (Instr.lookup 70 (.map M0) (.int .i64 a9) false).run pP w' = .ok (.agg (Z0 f4 b5 f5 c3 c8 c9 d0 d1 d2 d3 b6 c0 b8 c4 c5 d4 c6 b7 c1 b9)) w') ∧
 brB (b5 == b4) (
 yFc pP (Builtin.delete_ #[70,3] 0 #[(.map M0),.int .i64 a9]) a8 fun f6 b1 => yaG [a7] a8 b1 ∧
 KS (yxA M0 q0 n0 n1 i0 I m) (ykM M0 q0 n0 n1 i0 (IntKind.wrap .i64 (a6 + 1))) b1)
 (
 KS (yxA M0 q0 n0 n1 i0 I m) (ykM M0 q0 n0 n1 i0 (IntKind.wrap .i64 (a6 + 1))) a8)))
 (
 yn0 pP (Instr.range 70 (.map M0)) w fun c2 c7 =>
 yaU yu4 (yEx 394 [0,0,1,0,1,1,1,1]) (yEy [1,1,1,1,0,1,0] [] R) (yoU c2 (none,0,0)) c7)) :
 yaU yu3 (yEx 396 [0,0,1,0,1,1]) (yEy [1,1,0,1,0] [] R) (ykM M0 q0 n0 n1 i0 i1) w0 :=
 lrule (ykM M0 q0 n0 n1 i0) (U1 I) h0 (by rintro m a6 w h; exact ⟨by kernel_rfl,by kernel_rfl,fun js => Eq.mpr (by kernel_rfl) (hr m a6 w h)⟩)
abbrev yFL (a0:Addr) (I:Nat → Option Addr → Nat → Nat → World → Prop) (m:Nat):Kh:=KG (yoU a0) (U3 I) m
theorem yBY {I:Nat → Option Addr → Nat → Nat → World → Prop} (m':Nat) (h1:m' < m) (h2:I m' q0 n0 n1 w):KS (yFL A0 I m) (yoU A0 (q0,n0,n1)) w:=⟨m',h1,_,rfl,rfl,h2⟩
theorem yBZ (I:Nat → Option Addr → Nat → Nat → World → Prop) (m0:Nat) (h0:I m0 q0 n0 n1 w0)
 (hr:∀ m a2 a4 a3 w,I m a2 a4 a3 w →
 yAP pP (.pointer (some A0)) 0 w (fun e6 =>
 Calls pP 26 #[.slice a2 a4 a3,(.func (.func 27) #[] #[])] e6 fun e e8 => e = .returned (.tuple #[]) ∧
 R (.slice a2 a4 a3) e8)
 (fun e9 f0 e7 =>
 ∃ e5 d1 d2 d3 c3 d4 d5 d6 d7 d8 d9 a5 a7 a6 c4 c5 e0 c6 b1 b9 b5,∃ a8,(Instr.entry (.pointer (some A0))).run pP e7 = .ok (.tuple #[e5,(.agg (Z0 d1 d2 d3 c3 d4 d5 d6 d7 d8 d9 a5 a7 a6 c4 c5 e0 c6 b1 b9 b5))]) a8 ∧
 ∀ a0,a8.heap.size ≤ a0 →
 ∀ a9,Adv [] [a0] a8 a9 →
 Calls pP 24 #[.slice b1 b9 b5] a9 fun e b0 => ∃ b2 c0 b6,e = .returned (.slice b2 c0 b6) ∧ yaG [a0] a9 b0 ∧ (((.slice a5 a7 a6):Value) = (.slice a5 a7 a6)) ∧
 Calls pP 25 #[.slice a5 a7 a6] b0 fun e c7 => ∃ b3 c1 b7,e = .returned (.slice b3 c1 b7) ∧ yaG [a0] b0 c7 ∧
 ∀ c8,Adv [a0] [] c7 c8 →
 al c8 (.cells (Z0 d1 d2 d3 c3 d4 d5 d6 d7 d8 d9 b3 c1 b7 c4 c5 e0 c6 b2 c0 b6) 35) fun e2 c9 =>
 ybN pP (Builtin.append_ #[23,23] 23 #[.slice a2 a4 a3,(.slice (some ⟨e2,0,none⟩) 1 1)]) c9 fun e1 e4 e3 d0 => yaG [a0] c9 d0 ∧
 KS (yFL A0 I m) (yoU A0 (e1,e4,e3)) d0)) :
 yaU yu4 (yEx 394 [0,0,1,0,1,1,1,1]) (yEy [1,1,1,1,0,1,0] [] R) (yoU A0 (q0,n0,n1)) w0 :=
 lrule (yoU A0) (U3 I) h0 (by rintro m ⟨a2,a4,a3⟩ w h; exact ⟨by kernel_rfl,by kernel_rfl,fun js => Eq.mpr (by kernel_rfl) (hr m a2 a4 a3 w h)⟩)
theorem yJT (h :
 al w (.map #[] 0) fun b3 w4 =>
 yaU yu3 (yEx 396 [0,0,1,0,1,1]) (yEy [1,1,0,1,0] [] R) (ykM (some b3) q0 n0 n1 (n0:Int) 0) w4) :
 CR pP 12 #[.slice q0 n0 n1] w R :=
 yaB Tryz.wide_mixed (an:=yw9) Tryz.func12 rfl rfl (by kernel_rfl) rfl (Eq.mpr (by kernel_rfl) h)
end
end Go.Proofs.YtkepmmocldnnfaaGreat
namespace Go.Proofs.YtkepmmocldnnfaaGreat
open Go Go.RowKit Go.Maps Go.MapKept
set_option linter.unusedVariables false
set_option linter.unusedSimpArgs false
def yIh:PCall:=⟨0,0,op0⟩
def yEz:CV:=⟨yIh,ybM,ybM⟩
theorem yJU (w:World):(zeroValue 35).run pP w = .ok yEz.v w:=by kernel_rfl
def yk2:List (Int × PCall) → List PEv → List (Int × PCall)
 | L,[] => L
 | L,e :: r => yk2 (if e.a = false then put L e.c ⟨e.c,e.n,e.op⟩ else if ((lkp L e.c).getD yIh).n = e.n then del L e.c else L) r
def cvL (L:List (Int × CV)):List (Int × PCall):=L.map fun p => (p.1,p.2.x)
theorem yxB {κ β γ:Type} [DecidableEq κ] (f:β → γ) (L:List (κ × β)) (k:κ):del (L.map fun p => (p.1,f p.2)) k = (del L k).map fun p => (p.1,f p.2):=by
 induction L with
 | nil => rfl
 | cons q r ih => rw [List.map_cons,del,del,ih]; split <;> simp
theorem yp7 {κ β:Type} [DecidableEq κ] {L:List (κ × β)} {k:κ} {q:κ × β} (h:q ∈ del L k):q ∈ L:=by
 induction L with
 | nil => exact h
 | cons p r ih =>
  unfold del at h
  split at h
  ·exact List.mem_cons_of_mem _ h
  ·rcases List.mem_cons.1 h with h | h
   ·rw [h]; exact List.mem_cons_self
   ·exact List.mem_cons_of_mem _ (ih h)
theorem yg4 {κ β:Type} [DecidableEq κ] (L:List (κ × β)) (k:κ) (v:β):(put L k v).length ≤ L.length + 1:=by
 induction L with
 | nil => simp [put]
 | cons q r ih => rw [put]; split <;> simp; omega
theorem yxC {κ β:Type} [DecidableEq κ] (L:List (κ × β)) (k:κ):(del L k).length ≤ L.length:=by
 induction L with
 | nil => simp [del]
 | cons q r ih => rw [del]; split <;> simp; omega
theorem yJV (o:Option CV):o.elim yEz.v CV.v = (o.getD yEz).v:=by cases o <;> rfl
theorem yG1 (L:List (Int × CV)) (c:Int):((lkp (cvL L) c).getD yIh) = ((lkp L c).getD yEz).x:=by
 unfold cvL
 rw [ydX]
 cases lkp L c <;> rfl
theorem ysQ {β:Type}:∀ {L:List (Int × β)} {p:Int × β},p ∈ L → (L.map (·.1)).Nodup → L.Perm (p :: yeE L p.1)
 | q :: r,p,hp,hn => by
  rw [List.map_cons,List.nodup_cons] at hn
  unfold yeE
  rcases List.mem_cons.1 hp with rfl | hp
  ·rw [List.filter_cons_of_neg (by simp)]
   have:r.filter (fun x => decide (x.1 ≠ p.1)) = r:=List.filter_eq_self.2 fun x hx => by
    have:x.1 ≠ p.1:=fun e => hn.1 (e ▸ List.mem_map.2 ⟨x,hx,rfl⟩)
    simp [this]
   rw [this]
  ·have hne:q.1 ≠ p.1:=fun e => hn.1 (e ▸ List.mem_map.2 ⟨p,hp,rfl⟩)
   rw [List.filter_cons_of_pos (by simp [hne])]
   exact (List.Perm.cons q (ysQ hp hn.2)).trans (List.Perm.swap ..)
theorem yG2 {w:World} {B:Nat} {f:Sl} {l:List CV} {y:CV} {bs:List Nat} {F:Option Addr → Nat → Nat → World → Prop} (hR:Row w B 35 16 CV.cs f.a f.n f.c l) (hl:l.length ≤ 1000000) (hB:B ≤ w.heap.size) (hbs:∀ b ∈ bs,b ∉ yaP f.a)
  (hF:∀ a' c' w',Row w' B 35 16 CV.cs a' (f.n + 1) c' (l ++ [y]) → Mod (yaP f.a) w w' → F a' (f.n + 1) c' w') :
  al w (.cells (CV.cs y).toArray 35) fun b w1 => ybN pP (Builtin.append_ #[23,23] 23 #[.slice f.a f.n f.c,.slice (some ⟨b,0,none⟩) 1 1]) w1 fun a n c w2 => yaG bs w1 w2 ∧ F a n c w2:=by
 refine ybH fun b w1 c1 M1 f1 => ?_
 have s1:=M1.size
 obtain ⟨i0,hi0,hz0,hz1,hz2⟩:=info_parts ywW
 refine ydZ (x:=y) (hR.keep0 M1) Tryz.underlying23 hi0 hz0 hz1 hz2 rfl (by decide) c1 rfl (CV.cs_one _) (by omega) (by unfold maxLen; omega) (by omega) fun a' c' w8 hR8 hM8 => ?_
 have M8:=hM8 _ (yb0 f.a)
 refine ⟨yaG.of M8 fun b hb _ => hbs b hb,hF a' c' w8 hR8 ?_⟩
 exact (M1.trans M8).less fun k hk _ => by simpa using hk
set_option maxHeartbeats 2000000 in
theorem yB0 {w:World} {t:Sl} {evs:List EV} (hE:ybD w 23 EV.cs t.a t.n evs) (hEO:∀ q ∈ evs,OpAt w q.x.op q.rs q.ts ∧ s64 q.x.c) (hle:evs.length ≤ 1000) :
  Calls pP 12 #[.slice t.a t.n t.c] w fun e w' => ∃ v,e = .returned v ∧ ∃ (s':Sl) (out:List PCall),v = .slice s'.a s'.n s'.c ∧ yp2 w' w.heap.size s' out ∧ out.Perm ((yk2 [] (evs.map (·.x))).map (·.2)) ∧ out.Pairwise (fun a b => a.c ≤ b.c) ∧ Mod [] w w':=by
 have hn:=hE.1
 refine yJT ?_
 refine ybH fun b3 w4 c4 M4 f4 => ?_
 refine yBX (fun mm x w' => ∃ (k:Nat) (L:List (Int × CV)),x = k ∧ k ≤ evs.length ∧ yaX pP 3 hki CV.v w' b3 L ∧ (∀ p ∈ L,OpAt w p.2.x.op p.2.rs p.2.ts) ∧ yk2 [] (evs.map (·.x)) = yk2 (cvL L) ((evs.map (·.x)).drop k) ∧ L.length ≤ k ∧ Mod [] w w' ∧ mm = evs.length - k) evs.length
  ⟨0,[],rfl,by omega,yaX.of_new c4,by simp,rfl,by simp,M4,rfl⟩ ?_
 rintro mm x w1 ⟨k,L,rfl,hk,hM,hO,hf,hL,M1,rfl⟩
 have hfr:∀ i ∈ [b3],w.heap.size ≤ i:=fun i hi => by simp at hi; omega
 have lm:=hM.lt
 refine yaH (fun hlt => ?_) fun hge => ?_
 ·obtain ⟨q,hq⟩:∃ q,evs[k]? = some q:=⟨_,List.getElem?_eq_getElem (by omega)⟩
  have hqm:=List.mem_of_getElem? hq
  have hq':(evs.map (·.x))[k]? = some q.x:=by simp [hq]
  have hd:(evs.map (·.x)).drop k = q.x :: (evs.map (·.x)).drop (k + 1):=by
   obtain ⟨h1,h2⟩:=List.getElem?_eq_some_iff.1 hq'
   rw [List.drop_eq_getElem_cons h1,h2]
  obtain ⟨hqO,hqc⟩:=hEO q hqm
  rw [hd,yk2] at hf
  refine (hE.keep0 M1).ix hq fun ad had => yp6 had ?_
  intro b70 f70
  refine yaD (fun ga => ?_) fun ga => ?_
  ·have ga:q.x.a = false:=by simpa using ga
   rw [if_pos ga] at hf
   intro w73 A73
   have N73:=M1.go0 A73.mod (by simp)
   have hM73:=hM.of_block (A73.mod.block _ hM.lt (by simp))
   obtain ⟨o,ho1,ho2⟩:=hM73.update yiX yc4 Tryz.underlying70 (⟨⟨q.x.c,q.x.n,q.x.op⟩,q.rs,q.ts⟩:CV) (ydD hqc)
   refine ⟨_,ho1,yaG.of ycB (by simp; omega),?_⟩
   refine ymM (evs.length - (k + 1)) (by omega) ⟨k + 1,_,by rw [yaJ (by omega) (by omega)]; omega,by omega,ho2,fun p hp => ?_,?_,?_,N73.go0 ycB hfr,rfl⟩
   ·rcases ycG hp with rfl | hp
    ·exact hqO
    ·exact hO p hp
   ·rw [hf]
    exact congrArg (fun L => yk2 L _) (yeJ CV.x L q.x.c ⟨⟨q.x.c,q.x.n,q.x.op⟩,q.rs,q.ts⟩)
   ·have:=yg4 L q.x.c (⟨⟨q.x.c,q.x.n,q.x.op⟩,q.rs,q.ts⟩:CV); omega
  ·have ga:q.x.a = true:=by simpa using ga
   rw [if_neg (by rw [ga]; simp),yG1] at hf
   intro w96 A96
   have N96:=M1.go0 A96.mod (by simp)
   have hM96:=hM.of_block (A96.mod.block _ hM.lt (by simp))
   have hlk:=fun w' (M:Mod [] w96 w') => (hM96.of_block (M.block _ hM96.lt (by simp))).look (T:=70) false yiX yc4 Tryz.underlying70 (yJU w') (ydD hqc)
   simp only [yJV,Bool.false_eq_true,if_false] at hlk
   refine ⟨_,_,_,_,_,_,_,_,_,_,_,_,_,_,_,_,_,_,_,_,fun w' M => hlk w' M,?_⟩
   refine yaD (fun g => ?_) fun g => ?_
   ·rw [if_pos (by simpa using g)] at hf
    obtain ⟨o,ho1,ho2⟩:=hM96.delete yiX yc4 Tryz.underlying70 (ydD hqc) 0
    refine ⟨_,_,ho1,yaG.of ycB (by simp; omega),?_⟩
    refine ymM (evs.length - (k + 1)) (by omega) ⟨k + 1,_,by rw [yaJ (by omega) (by omega)]; omega,by omega,ho2,fun p hp => hO p (yp7 hp),?_,?_,N96.go0 ycB hfr,rfl⟩
    ·rw [hf]
     exact congrArg (fun L => yk2 L _) (yxB CV.x L q.x.c)
    ·have:=yxC L q.x.c; omega
   ·rw [if_neg (by simpa using g)] at hf
    exact ymM (evs.length - (k + 1)) (by omega) ⟨k + 1,L,by rw [yaJ (by omega) (by omega)]; omega,by omega,hM96,hO,hf,by omega,N96,rfl⟩
 ·have hk:k = evs.length:=by omega
  subst hk
  rw [List.drop_of_length_le (by simp)] at hf
  have hf:yk2 [] (evs.map (·.x)) = cvL L:=hf
  rw [hf]
  obtain ⟨w2,h2,M2,I2⟩:=yb3.start (T:=70) hM Tryz.underlying70
  refine ⟨_,w2,h2,?_⟩
  have s1:=M1.size
  generalize hr:w1.heap.size = r at I2 ⊢
  have N2:=M1.go0 M2 (by simp)
  refine yBZ (fun mm a n c w' => ∃ (left:List (Int × CV)) (out:List CV),yb3 pP 3 hki CV.v w' r b3 L left ∧ Row w' w.heap.size 35 16 CV.cs a n c out ∧ (∀ q ∈ out,OpOwn w' w.heap.size q.x.op q.rs q.ts) ∧ (out.map (·.x) ++ left.map (·.2.x)).Perm (L.map (·.2.x)) ∧ (∀ p ∈ left,p ∈ L) ∧ (left.map (·.1)).Nodup ∧ Mod [] w w' ∧ mm = left.length) L.length
   ⟨L,[],I2,Row.nil ..,by simp,by simp,fun p hp => hp,hM.nodup,N2,rfl⟩ ?_
  rintro mm a n c w3 ⟨left,out,I3,hR,hOw,hP,hsub,hnd,N3,rfl⟩
  have hlen:out.length + left.length = L.length:=by have:=hP.length_eq; simpa using this
  have s3:=N3.size
  rcases I3.step (ty:=0) yc4 with ⟨hl,hs⟩ | ⟨p,hp,w4',hs,M4',I4,hen⟩
  ·subst hl
   refine .inl ⟨_,hs,?_⟩
   refine (yEw (s:=⟨a,n,c⟩) hR (by omega)).mono ?_
   rintro _ w132 ⟨rfl,ll',hp1,hp2,hR',M'⟩
   have lk:=yaQ hR
   refine ⟨rfl,⟨a,n,c⟩,ll'.map (·.x),rfl,⟨ll',hR',fun q hq => ?_,rfl⟩,?_,?_,N3.go0 M' fun i hi => (lk i hi).1⟩
   ·refine (hOw q (hp1.mem_iff.1 hq)).keep M' fun i hi cs T hc => ?_
    obtain ⟨_,_,cur,hcur⟩:=yaS hR i hi
    rw [hcur] at hc; cases hc
    decide
   ·refine (hp1.map (·.x)).trans ?_
    have:(out.map (·.x)).Perm (L.map (·.2.x)):=by simpa using hP
    refine this.trans ?_
    unfold cvL
    rw [List.map_map]
    exact List.Perm.refl _
   ·exact List.pairwise_map.2 hp2
  ·have hpL:=hsub p hp
   have hrr:∀ i ∈ [r],w.heap.size ≤ i:=fun i hi => by simp at hi; omega
   have N4:=N3.go0 M4' hrr
   have nr:r ∉ yaP a:=fun hi => by
    obtain ⟨_,_,cur,hc⟩:=yaS hR r hi
    obtain ⟨es,clock,since,seen,c0,h1,_⟩:=I3
    rw [h1] at hc; cases hc
   have hR4:Row w4' w.heap.size 35 16 CV.cs a n c out:=yaE hR M4' (by simpa using nr)
   have hOw4:∀ q ∈ out,OpOwn w4' w.heap.size q.x.op q.rs q.ts:=fun q hq => (hOw q hq).keep M4' fun i hi cs T hc => by
    simp at hi; subst hi
    obtain ⟨es,clock,since,seen,c0,h1,_⟩:=I3
    rw [h1] at hc; cases hc
   refine .inr ⟨_,_,w4',hs,_,_,_,_,_,_,_,_,_,_,_,_,_,_,_,_,_,_,_,_,_,w4',hen w4' (Mod.refl _),?_⟩
   have hpO:=(hO p hpL).keep0 N4
   intro b180 f180 w181 A181
   have l180:=A181.lt b180 (by simp)
   have s181:=A181.mod.size
   have s4:=M4'.size
   refine (ysG (s:=p.2.ts) (l:=p.2.x.op.topics) (hpO.keep0 A181.mod).topics hpO.lt).mono ?_
   rintro _ w182 ⟨_,rfl,ts',rfl,hTs,M182⟩
   refine ⟨_,_,_,rfl,yaG.of0 M182,rfl,?_⟩
   have s182:=M182.size
   refine (yBz (s:=p.2.rs) (l:=p.2.x.op.b.recs) ((hpO.keep0 A181.mod).keep0 M182).recs hpO.lr).mono ?_
   rintro _ w186 ⟨_,rfl,rs',rfl,hRs,M186⟩
   refine ⟨_,_,_,rfl,yaG.of0 M186,?_⟩
   have s186:=M186.size
   intro w197 A197
   have s197:=A197.mod.size
   have K197:Mod [] w4' w197:=((A181.mod.go0 M182 (by simp)).go0 M186 (by simp)).go0 A197.mod (by simpa using f180)
   have nb:∀ i ∈ [b180],i ∉ yaP a:=fun i hi hi' => by
    have:=(yaQ hR4 i hi').2
    simp at hi; omega
   have hTs':Row w197 w.heap.size 9 1 ydC ts'.a ts'.n ts'.c p.2.x.op.topics:=(yaE (hTs.keep0 M186) A197.mod (fun i hi hi' => by have:=yaQ hTs i hi'; simp at hi; omega)).rebase (by omega)
   have hRs':Row w197 w.heap.size 74 4 yhI rs'.a rs'.n rs'.c p.2.x.op.b.recs:=(yaE hRs A197.mod (fun i hi hi' => by have:=yaQ hRs i hi'; simp at hi; omega)).rebase (by omega)
   have hR197:=hR4.keep0 K197
   have lk:=yaQ hR197
   refine yG2 (y:=⟨p.2.x,rs',ts'⟩) (f:=⟨a,n,c⟩) hR197 (by omega) (by have:=K197.size; omega) nb fun a' c' w200 hR200 M200 => ?_
   have N200:Mod [] w w200:=(N4.go0 K197 (by simp)).go0 M200 fun i hi => (lk i hi).1
   have dk:∀ {o:POp} {rs ts:Sl},OpOwn w197 w.heap.size o rs ts → OpOwn w200 w.heap.size o rs ts:=fun h => h.keep M200 fun i hi cs T hc => by
    obtain ⟨_,_,cur,hcur⟩:=yaS hR197 i hi
    rw [hcur] at hc; cases hc
    decide
   have I197:yb3 pP 3 hki CV.v w197 r b3 L (yeE left p.1):=I4.keep K197 (by simp) (by simp)
   have nr2:r ∉ yaP a:=nr
   have nb3:b3 ∉ yaP a:=fun hi => by
    obtain ⟨_,_,cur,hc⟩:=yaS hR b3 hi
    obtain ⟨es,cl,hb,_⟩:=I3.map
    rw [hb] at hc; cases hc
   have hpm:=ysQ hp hnd
   have hsl:(yeE left p.1).Sublist left:=List.filter_sublist
   have hll:=hpm.length_eq
   rw [List.length_cons] at hll
   refine yBY (yeE left p.1).length (by omega) ⟨yeE left p.1,out ++ [⟨p.2.x,rs',ts'⟩],I197.keep M200 nr2 nb3,hR200,fun q hq => ?_,?_,fun q hq => hsub q (hsl.subset hq),hnd.sublist (hsl.map _),N200,rfl⟩
   ·rcases List.mem_append.1 hq with hq | hq
    ·exact dk ((hOw4 q hq).keep0 K197)
    ·simp at hq; subst hq
     exact dk ⟨hRs',hTs',hpO.lr,hpO.lt⟩
   ·refine List.Perm.trans ?_ hP
    rw [List.map_append,List.append_assoc]
    refine List.Perm.append_left _ ?_
    exact (hpm.map (fun q:Int × CV => q.2.x)).symm
end Go.Proofs.YtkepmmocldnnfaaGreat
namespace Go.Proofs.YtkepmmocldnnfaaGreat
open Go Go.RowKit
set_option linter.all false
section
set_option maxRecDepth 100000
variable {R:VWP} {w w0:World} {m:Nat} {i0 i1 i2 i3 i4 i5 i6 i7 i8 i9 j0 j1 j2 j3 j4 j5 j6 j7 j8 j9 k0 k1 k2 k3 k4 k5 k6 k7 k8 k9 l0 l1 l2 l3 l4 l5 l6 l7 l8 l9:Int} {s0 s1 s2 s3 s4 s5 s6 s7 s8 s9 t0 t1 t2 t3 t4 t5 t6 t7 t8 t9:BA} {n0 n1 n2 n3 n4 n5 n6 n7 n8 n9 o0 o1 o2 o3 o4 o5 o6 o7 o8 o9 p0 p1 p2 p3 p4 p5 p6 p7 p8 p9:Nat} {q0 q1 q2 q3 q4 q5 q6 q7 q8 q9 r0 r1 r2 r3 r4 r5 r6 r7 r8 r9:OA} {B0 B1 B2 B3 B4 B5 B6 B7 B8 B9:Bool} {M0 M1 M2 M3:Option Nat} {V0 V1 V2 V3 V4 V5:Value} {A0 A1 A2:Addr}
theorem yJW (h :
 ∀ b2,w.heap.size ≤ b2 →
 ∀ w3,Adv [] [b2] w w3 →
 R (.agg (Z0 i0 i1 12 ByteArray.empty 0 1 0 0 0 0 none 0 0 ByteArray.empty ByteArray.empty 0 false none 0 0)) w3) :
 CR pP 15 #[.int .i64 i0,.int .i64 i1] w R :=
 yaB Tryz.wide_mixed (an:=[]) Tryz.func15 rfl rfl (by kernel_rfl) rfl (Eq.mpr (by kernel_rfl) h)
theorem yJX (h :
 ∀ b3,w.heap.size ≤ b3 →
 ∀ b4,w.heap.size ≤ b4 →
 ∀ w5,Adv [] [b4,b3] w w5 →
 R (.agg (Z1 i0 i1 false i2 s0 i3 i4 i5 i6 i7 i8 q0 n0 n1 s1 s2 i9 B0 q1 n2 n3 0 0 0 0 none 0 0 none 0 0)) w5) :
 CR pP 9 #[(.agg (Z0 i0 i1 i2 s0 i3 i4 i5 i6 i7 i8 q0 n0 n1 s1 s2 i9 B0 q1 n2 n3))] w R :=
 yaB Tryz.wide_mixed (an:=[]) Tryz.func9 rfl rfl (by kernel_rfl) rfl (Eq.mpr (by kernel_rfl) h)
theorem yJY (h :
 ∀ b4,w.heap.size ≤ b4 →
 ∀ b5,w.heap.size ≤ b5 →
 ∀ b6,w.heap.size ≤ b6 →
 ∀ w7,Adv [] [b6,b5,b4] w w7 →
 R (.agg (Z1 i0 i1 true 0 ByteArray.empty 0 0 0 0 0 0 none 0 0 ByteArray.empty ByteArray.empty 0 false none 0 0 j0 j1 j2 j3 q2 n4 n5 q3 n6 n7)) w7) :
 CR pP 10 #[(.agg (Z0 i0 i1 i2 s0 i3 i4 i5 i6 i7 i8 q0 n0 n1 s1 s2 i9 B0 q1 n2 n3)),(.agg (Z3 j0 j1 j2 j3 q2 n4 n5 q3 n6 n7))] w R :=
 yaB Tryz.wide_mixed (an:=[]) Tryz.func10 rfl rfl (by kernel_rfl) rfl (Eq.mpr (by kernel_rfl) h)
def yu5:LA:=⟨[0,0,1,0,1,1],[0,1,5,6,7],[],0,[]⟩
def yp8:LA:=⟨[0,0,1,0,1,1,1,1,1,1],[1,5,8,10,11],[],0,[]⟩
def yxD:List LA:=[yu5,yp8]
abbrev yB1:=dnF pP yxD (code Tryz.f3)
abbrev yMH:=ya0 pP yxD (code Tryz.f3)
abbrev yB2 (p:List Nat) (K:List Kh) (R:VWP):=ya0 pP yxD (code Tryz.f3) p K (ybO pP Tryz.f3 [] R)
def yoV (a0:OA) (a6 a3:Nat) (a9:Int) (a2:OA) (a8 a5:Nat):(Option Addr) × Nat × Nat × Int → List Value × List TB:=fun (a1,a7,a4,b0) => ([.slice a0 a6 a3,.int .i64 a9,.slice a1 a7 a4,.slice a2 a8 a5,.int .i64 b0],[])
def ymN (b0:Int) (a4:OA) (a8 a6:Nat) (a5:OA) (a9 a7:Nat):(Option Addr) × Nat × Nat × Int → List Value × List TB:=fun (a0,a2,a1,a3) => ([.int .i64 b0,.slice a4 a8 a6,.slice a5 a9 a7,.slice a0 a2 a1,.int .i64 a3],[])
abbrev yFM (a0:OA) (a4 a2:Nat) (a6:Int) (a1:OA) (a5 a3:Nat) (I:Nat → Option Addr → Nat → Nat → Int → World → Prop) (m:Nat):Kh:=KG (yoV a0 a4 a2 a6 a1 a5 a3) (U4 I) m
theorem yB3 {I:Nat → Option Addr → Nat → Nat → Int → World → Prop} (m':Nat) (h1:m' < m) (h2:I m' q2 n4 n5 i1 w):KS (yFM q0 n0 n1 i0 q1 n2 n3 I m) (yoV q0 n0 n1 i0 q1 n2 n3 (q2,n4,n5,i1)) w:=⟨m',h1,_,rfl,rfl,h2⟩
theorem yB4 (I:Nat → Option Addr → Nat → Nat → Int → World → Prop) (m0:Nat) (h0:I m0 q2 n4 n5 i1 w0)
 (hr:∀ m a4 a3 a5 a2 w,I m a4 a3 a5 a2 w →
 brB (decide (a2 < (n0:Int))) (
 brB (decide (a2 < 20)) (nz 3 (
 ixA q1 n2 (Int.tmod a2 3) 1 fun g2 =>
 yaA .i64 w g2 fun h3 =>
 ixA q1 n2 (Int.tmod a2 3) 1 fun g3 =>
 st w g3 [(.int .i64 (IntKind.wrap .i64 (h3 + 1)))] fun g8 => nz 3 (nz 3 (
 ixA q1 n2 (Int.tmod a2 3) 1 fun d2 =>
 ∀ a0,Adv [] [] g8 a0 →
 yaA .i64 a0 d2 fun d8 =>
 ixA q0 n0 a2 14 fun a1 =>
 yaA .i64 a0 a1 fun h4 => yaK a0 (Addr.add a1 1) fun g4 => yaA .i64 a0 (Addr.add a1 2) fun h5 => yaA .i64 a0 (Addr.add a1 3) fun h6 => yaA .i64 a0 (Addr.add a1 4) fun h7 => yaA .i64 a0 (Addr.add a1 5) fun h8 => yaA .i64 a0 (Addr.add a1 6) fun h9 => yaA .i64 a0 (Addr.add a1 7) fun u0 => yaC a0 (Addr.add a1 8) fun f0 f9 f6 => yaK a0 (Addr.add a1 9) fun g5 => yaK a0 (Addr.add a1 10) fun g6 => yaA .i64 a0 (Addr.add a1 11) fun u1 => yaR a0 (Addr.add a1 12) fun g7 => yaC a0 (Addr.add a1 13) fun f1 g0 f7 =>
 Calls pP 7 #[(.agg (Z2 h4 g4 h5 h6 h7 h8 h9 u0 f0 f9 f6 g5 g6 u1 g7 f1 g0 f7))] a0 fun e d7 => ∃ d9 d3 e0 e1 e2 e3 e4 e5 c4 d0 c7 d4 d5 e6 d6 c5 d1 c8,e = .returned (.agg (Z2 d9 d3 e0 e1 e2 e3 e4 e5 c4 d0 c7 d4 d5 e6 d6 c5 d1 c8)) ∧ (yaA .i64 d7 d2 fun u2 => ((.int .i64 u2):Value) = (.int .i64 d8)) ∧
 al d7 (.cells (Z0 (IntKind.wrap .i64 (1 + (Int.tmod a2 3))) d8 d9 d3 e0 e1 e2 e3 e4 e5 c4 d0 c7 d4 d5 e6 d6 c5 d1 c8) 35) fun f4 g9 =>
 ybN pP (Builtin.append_ #[23,23] 23 #[.slice a4 a3 a5,(.slice (some ⟨f4,0,none⟩) 1 1)]) g9 fun f2 g1 f8 h1 =>
 KS (yFM q0 n0 n1 i0 q1 n2 n3 I m) (yoV q0 n0 n1 i0 q1 n2 n3 (f2,g1,f8,(IntKind.wrap .i64 (a2 + 1)))) h1))))
 (
 Calls pP 8 #[.int .i64 4,.slice a4 a3 a5] w fun e c1 => ∃ c6 b9 c9 e7,e = .returned (.tuple #[.slice c6 b9 c9,.int .i64 e7]) ∧
 brB (e7 != 0) (
 R (.bool false) c1)
 (
 brB ((b9:Int) != (a3:Int)) (
 R (.bool false) c1)
 (
 al c1 (.cells #[] 46) fun f5 h2 =>
 yaU yp8 (yB1 392 [0,0,1,0,1,1,1,1,1,1]) (yB2 [1,1,1,1,1,1,0,1,0] [] R) (ymN i0 a4 a3 a5 c6 b9 c9 ((some ⟨f5,0,none⟩),0,0,0)) h2))))
 (
 Calls pP 8 #[.int .i64 4,.slice a4 a3 a5] w fun e b2 => ∃ b5 b1 b7 c2,e = .returned (.tuple #[.slice b5 b1 b7,.int .i64 c2]) ∧
 brB (c2 != 0) (
 R (.bool false) b2)
 (
 brB ((b1:Int) != (a3:Int)) (
 R (.bool false) b2)
 (
 al b2 (.cells #[] 46) fun e8 e9 =>
 yaU yp8 (yB1 392 [0,0,1,0,1,1,1,1,1,1]) (yB2 [1,1,1,1,1,1,0,1,0] [] R) (ymN i0 a4 a3 a5 b5 b1 b7 ((some ⟨e8,0,none⟩),0,0,0)) e9)))) :
 yaU yu5 (yB1 396 [0,0,1,0,1,1]) (yB2 [1,1,0,1,0] [] R) (yoV q0 n0 n1 i0 q1 n2 n3 (q2,n4,n5,i1)) w0 :=
 lrule (yoV q0 n0 n1 i0 q1 n2 n3) (U4 I) h0 (by rintro m ⟨a4,a3,a5,a2⟩ w h; exact ⟨by kernel_rfl,by kernel_rfl,fun js => Eq.mpr (by kernel_rfl) (hr m a4 a3 a5 a2 w h)⟩)
abbrev yFN (a6:Int) (a0:OA) (a4 a2:Nat) (a1:OA) (a5 a3:Nat) (I:Nat → Option Addr → Nat → Nat → Int → World → Prop) (m:Nat):Kh:=KG (ymN a6 a0 a4 a2 a1 a5 a3) (U4 I) m
theorem yB5 {I:Nat → Option Addr → Nat → Nat → Int → World → Prop} (m':Nat) (h1:m' < m) (h2:I m' q2 n4 n5 i1 w):KS (yFN i0 q0 n0 n1 q1 n2 n3 I m) (ymN i0 q0 n0 n1 q1 n2 n3 (q2,n4,n5,i1)) w:=⟨m',h1,_,rfl,rfl,h2⟩
theorem yB6 (I:Nat → Option Addr → Nat → Nat → Int → World → Prop) (m0:Nat) (h0:I m0 q2 n4 n5 i1 w0)
 (hr:∀ m a6 a7 a9 a8 w,I m a6 a7 a9 a8 w →
 brB (decide (a8 < (n0:Int))) (
 ixA q0 n0 a8 16 fun a3 =>
 yaA .i64 w a3 fun ay => yaA .i64 w (Addr.add a3 1) fun az => yaA .i64 w (Addr.add a3 2) fun ba => yaK w (Addr.add a3 3) fun ab => yaA .i64 w (Addr.add a3 4) fun bb => yaA .i64 w (Addr.add a3 5) fun bc => yaA .i64 w (Addr.add a3 6) fun bd => yaA .i64 w (Addr.add a3 7) fun be => yaA .i64 w (Addr.add a3 8) fun bf => yaA .i64 w (Addr.add a3 9) fun bg => yaC w (Addr.add a3 10) fun v9 y8 x5 => yaK w (Addr.add a3 11) fun ac => yaK w (Addr.add a3 12) fun ad => yaA .i64 w (Addr.add a3 13) fun bh => yaR w (Addr.add a3 14) fun ak => yaC w (Addr.add a3 15) fun w1 y9 x6 =>
 Calls pP 9 #[(.agg (Z0 ay az ba ab bb bc bd be bf bg v9 y8 x5 ac ad bh ak w1 y9 x6))] w fun e ap => ∃ g7 g8 f7 g9 f0 h1 h2 h3 h4 h5 h6 c5 e1 d3 f1 f2 h7 f8 c6 e2 d4 h8 h9 u0 u1 c7 e3 d5 c8 e4 d6,e = .returned (.agg (Z1 g7 g8 f7 g9 f0 h1 h2 h3 h4 h5 h6 c5 e1 d3 f1 f2 h7 f8 c6 e2 d4 h8 h9 u0 u1 c7 e3 d5 c8 e4 d6)) ∧
 al ap (.cells (Z1 g7 g8 f7 g9 f0 h1 h2 h3 h4 h5 h6 c5 e1 d3 f1 f2 h7 f8 c6 e2 d4 h8 h9 u0 u1 c7 e3 d5 c8 e4 d6) 46) fun x3 aq =>
 ybN pP (Builtin.append_ #[40,40] 40 #[.slice a6 a7 a9,(.slice (some ⟨x3,0,none⟩) 1 1)]) aq fun w2 z0 x7 ar =>
 ixA q0 n0 a8 16 fun a4 =>
 ∀ a1,Adv [] [] ar a1 →
 yaA .i64 a1 a4 fun bi => yaA .i64 a1 (Addr.add a4 1) fun bj => yaA .i64 a1 (Addr.add a4 2) fun bk => yaK a1 (Addr.add a4 3) fun ae => yaA .i64 a1 (Addr.add a4 4) fun bl => yaA .i64 a1 (Addr.add a4 5) fun bm => yaA .i64 a1 (Addr.add a4 6) fun bn => yaA .i64 a1 (Addr.add a4 7) fun bo => yaA .i64 a1 (Addr.add a4 8) fun bp => yaA .i64 a1 (Addr.add a4 9) fun bq => yaC a1 (Addr.add a4 10) fun w3 z1 x8 => yaK a1 (Addr.add a4 11) fun af => yaK a1 (Addr.add a4 12) fun ag => yaA .i64 a1 (Addr.add a4 13) fun br => yaR a1 (Addr.add a4 14) fun am => yaC a1 (Addr.add a4 15) fun w4 z2 x9 =>
 ixA q1 n2 a8 6 fun b1 =>
 yaA .i64 a1 b1 fun bt => yaA .i64 a1 (Addr.add b1 1) fun bu => yaA .i64 a1 (Addr.add b1 2) fun bv => yaA .i64 a1 (Addr.add b1 3) fun bw => yaC a1 (Addr.add b1 4) fun w5 z3 y0 => yaC a1 (Addr.add b1 5) fun w6 z4 y1 =>
 Calls pP 10 #[(.agg (Z0 bi bj bk ae bl bm bn bo bp bq w3 z1 x8 af ag br am w4 z2 x9)),(.agg (Z3 bt bu bv bw w5 z3 y0 w6 z4 y1))] a1 fun e au => ∃ u2 u3 f9 u4 f4 u5 u6 u7 u9 v0 v1 c9 e5 d7 f5 f6 v2 g0 d0 e6 d8 v3 v4 v5 v6 d1 e7 d9 d2 e8 e0,e = .returned (.agg (Z1 u2 u3 f9 u4 f4 u5 u6 u7 u9 v0 v1 c9 e5 d7 f5 f6 v2 g0 d0 e6 d8 v3 v4 v5 v6 d1 e7 d9 d2 e8 e0)) ∧
 al au (.cells (Z1 u2 u3 f9 u4 f4 u5 u6 u7 u9 v0 v1 c9 e5 d7 f5 f6 v2 g0 d0 e6 d8 v3 v4 v5 v6 d1 e7 d9 d2 e8 e0) 46) fun x4 av =>
 ybN pP (Builtin.append_ #[40,40] 40 #[.slice w2 z0 x7,(.slice (some ⟨x4,0,none⟩) 1 1)]) av fun w7 z5 y2 aw =>
 KS (yFN i0 q0 n0 n1 q1 n2 n3 I m) (ymN i0 q0 n0 n1 q1 n2 n3 (w7,z5,y2,(IntKind.wrap .i64 (a8 + 1)))) aw)
 (
 Calls pP 11 (Z17 4 q0 n0 n1 a6 a7 a9) w fun e g4 => ∃ v7,e = .returned (.int .i64 v7) ∧
 brB (v7 != (-1)) (
 R (.bool false) g4)
 (
 Calls pP 12 #[.slice a6 a7 a9] g4 fun e g5 => ∃ w8 e9 y3,e = .returned (.slice w8 e9 y3) ∧
 brB ((e9:Int) != 0) (
 R (.bool false) g5)
 (
 Calls pP 13 #[.slice q0 n0 n1] g5 fun e a0 => ∃ g1,e = .returned (.bool g1) ∧
 brB (!g1) (
 R (.bool false) a0)
 (
 brB ((n0:Int) == 0) (
 Calls pP 14 #[] a0 fun e ax => ∃ g2,e = .returned (.bool g2) ∧
 R (.bool g2) ax)
 (nz (n0:Int) (
 ixA a6 a7 (IntKind.wrap .i64 ((IntKind.wrap .i64 (2 * (Int.tmod (yAG .i64 i0 65535) (n0:Int)))) + 1)) 23 fun a2 =>
 yaA .i64 a0 a2 fun bx => yaA .i64 a0 (Addr.add a2 1) fun bz => yaR a0 (Addr.add a2 2) fun an => yaA .i64 a0 (Addr.add a2 3) fun ca => yaK a0 (Addr.add a2 4) fun ah => yaA .i64 a0 (Addr.add a2 5) fun cb => yaA .i64 a0 (Addr.add a2 6) fun cc => yaA .i64 a0 (Addr.add a2 7) fun cd => yaA .i64 a0 (Addr.add a2 8) fun ce => yaA .i64 a0 (Addr.add a2 9) fun cf => yaA .i64 a0 (Addr.add a2 10) fun ch => yaC a0 (Addr.add a2 11) fun w9 z6 y4 => yaK a0 (Addr.add a2 12) fun ai => yaK a0 (Addr.add a2 13) fun aj => yaA .i64 a0 (Addr.add a2 14) fun ci => yaR a0 (Addr.add a2 15) fun ao => yaC a0 (Addr.add a2 16) fun x0 z7 y5 => yaA .i64 a0 (Addr.add a2 17) fun cj => yaA .i64 a0 (Addr.add a2 18) fun ck => yaA .i64 a0 (Addr.add a2 19) fun cl => yaA .i64 a0 (Addr.add a2 20) fun cm => yaC a0 (Addr.add a2 21) fun x1 z8 y6 => yaC a0 (Addr.add a2 22) fun x2 z9 y7 =>
 ∀ b2,a0.heap.size ≤ b2 →
 ixA a6 a7 (IntKind.wrap .i64 ((IntKind.wrap .i64 (2 * (Int.tmod (yAG .i64 i0 65535) (n0:Int)))) + 1)) 23 fun aa =>
 ∀ b8,Adv [] [b2] a0 b8 →
 st b8 aa [.int .i64 bx,.int .i64 bz,.bool an,.int .i64 ca,.string ah,.int .i64 cb,.int .i64 cc,.int .i64 cd,.int .i64 ce,.int .i64 cf,.int .i64 ch,.slice w9 z6 y4,.string ai,.string aj,.int .i64 ci,.bool ao,.slice x0 z7 y5,.int .i64 cj,.int .i64 ck,.int .i64 cl,(.int .i64 (IntKind.wrap .i64 (cm + 1))),.slice x1 z8 y6,.slice x2 z9 y7] fun b9 => yaG [b2] b8 b9 ∧
 Calls pP 11 (Z17 4 q0 n0 n1 a6 a7 a9) b9 fun e b5 => ∃ v8,e = .returned (.int .i64 v8) ∧ yaG [b2] b9 b5 ∧
 brB (v8 == (IntKind.wrap .i64 ((IntKind.wrap .i64 (2 * (Int.tmod (yAG .i64 i0 65535) (n0:Int)))) + 1))) (
 Calls pP 14 #[] b5 fun e g6 => ∃ g3,e = .returned (.bool g3) ∧ yaG [b2] b5 g6 ∧
 R (.bool g3) g6)
 (
 R (.bool false) b5)))))))) :
 yaU yp8 (yB1 392 [0,0,1,0,1,1,1,1,1,1]) (yB2 [1,1,1,1,1,1,0,1,0] [] R) (ymN i0 q0 n0 n1 q1 n2 n3 (q2,n4,n5,i1)) w0 :=
 lrule (ymN i0 q0 n0 n1 q1 n2 n3) (U4 I) h0 (by rintro m ⟨a6,a7,a9,a8⟩ w h; exact ⟨by kernel_rfl,by kernel_rfl,fun js => Eq.mpr (by kernel_rfl) (hr m a6 a7 a9 a8 w h)⟩)
theorem yJZ (h :
 al w (.cells #[] 35) fun b5 w6 =>
 al w6 (.cells (Z14 0 0 0) 3) fun b7 w8 =>
 yaU yu5 (yB1 396 [0,0,1,0,1,1]) (yB2 [1,1,0,1,0] [] R) (yoV q0 n0 n1 i0 (some ⟨b7,0,none⟩) 3 3 ((some ⟨b5,0,none⟩),0,0,0)) w8) :
 CR pP 3 #[.slice q0 n0 n1,.int .i64 i0] w R :=
 yaB Tryz.wide_mixed (an:=yxD) Tryz.func3 rfl rfl (by kernel_rfl) rfl (Eq.mpr (by kernel_rfl) h)
end
def yFO:PRep:=⟨0,0,0,0,[],[]⟩
def ynP (c n:Int):PCall:=⟨c,n,yk1⟩
def ygC (c n:Int):CV:=⟨ynP c n,ybM,ybM⟩
def yaM (q:CV):EV:=⟨⟨q.x.c,q.x.n,false,q.x.op,yFO⟩,q.rs,q.ts,ybM,ybM⟩
def ya7 (q:CV) (r:HV):EV:=⟨⟨q.x.c,q.x.n,true,op0,r.x⟩,ybM,ybM,r.f,r.p⟩
theorem yxE (c n:Int) (w:World):Calls pP 15 #[.int .i64 c,.int .i64 n] w fun e w' => e = .returned (ygC c n).v ∧ Mod [] w w':=by
 refine ya2 (yJW ?_)
 intro b2 f2 w3 A3
 exact ⟨rfl,A3.mod⟩
theorem ybE (q:CV) (w:World):Calls pP 9 #[q.v] w fun e w' => e = .returned (yaM q).v ∧ Mod [] w w':=by
 refine ya2 (yJX ?_)
 intro b3 f3 b4 f4 w5 A5
 exact ⟨rfl,A5.mod⟩
theorem ybY (q:CV) (r:HV) (w:World):Calls pP 10 #[q.v,r.v] w fun e w' => e = .returned (ya7 q r).v ∧ Mod [] w w':=by
 refine ya2 (yJY ?_)
 intro b4 f4 b5 f5 b6 f6 w7 A7
 exact ⟨rfl,A7.mod⟩
theorem yG3 (w:World):RepAt w yFO ybM ybM:=⟨⟨rfl,by simp [yFO]⟩,⟨rfl,by simp [yFO]⟩,by simp [yFO],by simp [yFO]⟩
theorem yg5 (w:World):OpAt w yk1 ybM ybM:=⟨⟨rfl,by simp [yk1,ygL]⟩,⟨rfl,by simp [yk1]⟩,by simp [yk1,ygL],by simp [yk1]⟩
theorem yg6 {w:World} {q:CV} (h:OpAt w q.x.op q.rs q.ts):EvAt w (yaM q):=⟨h,yG3 w⟩
theorem ylH {w:World} {q:CV} {r:HV} (h:RepAt w r.x r.f r.p):EvAt w (ya7 q r):=⟨(yp0 w 0).at,h⟩
theorem yp9 (w:World) (k:Nat):RepAt w (yd3 k).x (yd3 k).f (yd3 k).p:=⟨⟨rfl,by simp [yd3]⟩,⟨rfl,by simp [yd3]⟩,by simp [yd3],by simp [yd3]⟩
theorem yJ0:(Tryz.prog.info? 46).map (fun i => (i.zero,i.size,i.bytes)) = some (some (.agg #[.int .i64 0,.int .i64 0,.bool false,.int .i64 0,.string ByteArray.empty,.int .i64 0,.int .i64 0,.int .i64 0,.int .i64 0,.int .i64 0,.int .i64 0,.slice none 0 0,.string ByteArray.empty,.string ByteArray.empty,.int .i64 0,.bool false,.slice none 0 0,.int .i64 0,.int .i64 0,.int .i64 0,.int .i64 0,.slice none 0 0,.slice none 0 0]),23,272):=by kernel_rfl
def fxC:List PCall:=[ynP 1 1,ynP 2 1]
def fxR:List PRep:=(yfL 2).map (·.x)
def fA:EV:=yaM (ygC 1 1)
def fB:EV:=yaM (ygC 2 1)
def fX:EV:=ya7 (ygC 1 1) (yd3 0)
def fY:EV:=ya7 (ygC 2 1) (yd3 1)
def fZ:EV:=ya7 (ygC 1 1) (yd3 1)
theorem fx1:ycC 0 fxC fxR [fA.x,fX.x,fB.x,fY.x] = -1:=by decide +kernel
theorem fx2:ycC 0 fxC fxR [fX.x] = 0:=by decide +kernel
theorem fx3:ycC 0 fxC fxR [fB.x,fY.x,fA.x,fX.x] = 3:=by decide +kernel
theorem fx4:ycC 0 fxC fxR [fA.x,fB.x,fY.x,fX.x] = -1:=by decide +kernel
theorem fx5:ycC 0 fxC fxR [fA.x,fZ.x] = 1:=by decide +kernel
theorem fx6:ycC 1 fxC fxR [fA.x] = 0:=by decide +kernel
theorem fx8:ycY fxC 2 1 = 1:=by decide +kernel
theorem fx9:ycY fxC 2 2 = -1:=by decide +kernel
theorem yMI:(yk2 [] [fA.x,fB.x,fX.x]).map (·.2) = [ynP 2 1]:=by decide +kernel
theorem yLQ:yoR [] fxC = true:=by decide +kernel
theorem yLR:yoR [] [ynP 1 1,ynP 1 1] = false:=by decide +kernel
end Go.Proofs.YtkepmmocldnnfaaGreat
