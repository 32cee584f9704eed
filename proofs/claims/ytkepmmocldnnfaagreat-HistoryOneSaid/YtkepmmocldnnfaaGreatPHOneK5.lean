/- Part 5 of the proof of PHOne. -/
import Derived.Test.YtkepmmocldnnfaaGreatPHOneK4
namespace Go.Proofs.YtkepmmocldnnfaaGreat
open Go Go.RowKit Go.Maps Go.MapKept
set_option linter.unusedVariables false
set_option linter.unusedSimpArgs false
theorem ys5 (l:List PFound) (from_ n:Int):(yzE l from_ n).length ≤ n.toNat:=by unfold yzE; rw [List.length_take]; omega
def ygD (from_ n:Int) (acc:List PFound) (s:SegS):List PFound:=if from_ < s.next ∧ (acc.length:Int) < n then acc ++ yzE s.l from_ (n - acc.length) else acc
def yjV (L:List SegS) (from_ n:Int):List PFound:=L.foldl (ygD from_ n) []
def yc3 (L:List SegS) (from_:Int):Int:=if from_ < ykP L then 60 else if from_ > yfU L then 61 else 0
theorem yzI {from_ n:Int} {acc:List PFound} {s:SegS} (h:(acc.length:Int) ≤ n ∨ acc = []):((ygD from_ n acc s).length:Int) ≤ n ∨ ygD from_ n acc s = []:=by
 unfold ygD
 split
 ·rename_i g
  have:=ys5 s.l from_ (n - acc.length)
  rw [List.length_append]
  omega
 ·exact h
theorem ymV (L:List SegS) (from_ n:Int):((yjV L from_ n).length:Int) ≤ n ∨ yjV L from_ n = []:=by
 unfold yjV
 suffices ∀ acc:List PFound,((acc.length:Int) ≤ n ∨ acc = []) → ((L.foldl (ygD from_ n) acc).length:Int) ≤ n ∨ L.foldl (ygD from_ n) acc = [] from this [] (.inr rfl)
 induction L with
 | nil => intro acc h; exact h
 | cons s r ih => intro acc h; exact ih _ (yzI h)
theorem yvE {α β:Type} (f:β → α → β) (b:β) {l:List α} {k:Nat} {q:α} (h:l[k]? = some q):(l.take (k + 1)).foldl f b = f ((l.take k).foldl f b) q:=by
 rw [yd2 h,List.foldl_append]; rfl
set_option maxHeartbeats 1000000 in
theorem yzJ {w:World} {b:Nat} {room:Int} {L:List SegS} {F:List Nat} (h:ydR w b room L F) (ok:LogOk room L) (hl:L.length ≤ 100000) (from_ n:Int) (hn:n ≤ 1000000) :
  Calls pP 69 #[.pointer (some ⟨b,0,none⟩),.int .i64 from_,.int .i64 n] w fun e w' => ∃ v,e = .returned v ∧ ∃ s':Sl,v = .tuple #[.slice s'.a s'.n s'.c,.int .i64 (yc3 L from_)] ∧
   Row w' w.heap.size 165 5 yk0 s'.a s'.n s'.c (if yc3 L from_ = 0 then yjV L from_ n else []) ∧ Mod [] w w':=by
 have h':=h
 have r2:=ok.r2
 obtain ⟨sl,qs,hc,hR,hS,hP,rfl,hF⟩:=h
 rw [List.length_map] at hl
 have hRn:=hR.1
 refine yKv hc ?_
 intro w9 A9 h9
 refine (yfN (h'.keep0 A9.mod) ok (by simp; omega)).mono ?_
 rintro _ w10 ⟨rfl,M10⟩
 have N10:=A9.mod.go0 M10 (by simp)
 refine ⟨_,_,rfl,_,_,_,_,M10.keep0 h9,?_⟩
 refine yaH (fun g => ?_) fun g => ?_
 ·have e:yc3 (qs.map (·.s)) from_ = 60:=by rw [yc3,if_pos g]
  rw [e,if_neg (by decide)]
  exact ⟨ybM,rfl,Row.nil ..,N10⟩
 refine yaH (fun g2 => ?_) fun g2 => ?_
 ·have e:yc3 (qs.map (·.s)) from_ = 61:=by rw [yc3,if_neg g,if_pos g2]
  rw [e,if_neg (by decide)]
  exact ⟨ybM,rfl,Row.nil ..,N10⟩
 have e:yc3 (qs.map (·.s)) from_ = 0:=by rw [yc3,if_neg g,if_neg g2]
 rw [e,if_pos rfl]
 refine yCx (fun mm a n1 c x x0 a1 n2 c1 w' => ∃ k:Nat,x = k ∧ k ≤ qs.length ∧ Row w' w.heap.size 165 5 yk0 a n1 c (((qs.map (·.s)).take k).foldl (ygD from_ n) []) ∧ Mod [] w w' ∧ mm = qs.length - k) qs.length ⟨0,rfl,by omega,Row.nil ..,N10,rfl⟩ ?_
 rintro mm a n1 c x x0 a1 n2 c1 w1 ⟨k,rfl,hk,hO,M1,rfl⟩
 intro h1
 have s1:=M1.size
 refine yaH (fun hlt => ?_) fun hge => ?_
 ·obtain ⟨q,hq⟩:∃ q,qs[k]? = some q:=⟨_,List.getElem?_eq_getElem (by omega)⟩
  have hqm:=List.mem_of_getElem? hq
  have hqs:(qs.map (·.s))[k]? = some q.s:=by simp [hq]
  have ho:=ok.segs q.s (List.mem_map.2 ⟨q,hqm,rfl⟩)
  have hstep:=yvE (ygD from_ n) [] hqs
  have hOl:=hO.1
  have hlen:=ymV ((qs.map (·.s)).take k) from_ n
  unfold yjV at hlen
  generalize hacc:((qs.map (·.s)).take k).foldl (ygD from_ n) [] = acc at hO hstep hlen
  rw [hacc] at hOl
  have hal:acc.length ≤ 1000000:=by
   rcases hlen with h1 | h1
   ·omega
   ·rw [h1]; simp
  have ek:IntKind.wrap .i64 ((k:Int) + 1) = ((k + 1:Nat):Int):=by rw [yaJ (by omega) (by omega)]; omega
  rw [ek]
  refine ((hR.keep0 M1).sl yeW).ix hq fun ad had => yfY (x:=some ⟨q.p,0,none⟩) (by simpa [add_zero] using had 0 _ rfl) ?_
  refine (yg7 ((hS q hqm).keep0 M1)).mono ?_
  rintro _ w28 ⟨rfl,M28⟩
  have N28:=M1.go0 M28 (by simp)
  have s28:=M28.size
  refine ⟨_,_,rfl,_,_,_,_,M28.keep0 h1,?_⟩
  refine yaH (fun ga => ?_) fun ga => ?_
  ·refine yaH (fun gb => ?_) fun gb => ?_
   ·have e2:IntKind.wrap .i64 (n - (n1:Int)) = n - acc.length:=by rw [yaJ (by omega) (by omega)]; omega
    rw [e2]
    have hlq:=ho.len
    refine (yzF ((hS q hqm).keep0 N28) (by omega) ho.inc from_ (n - acc.length)).mono ?_
    rintro _ w47 ⟨_,rfl,s',rfl,hR47,M47⟩
    have N47:=N28.go0 M47 (by simp)
    have s47:=M47.size
    refine ⟨_,_,_,rfl,_,_,_,_,M47.keep0 (M28.keep0 h1),?_⟩
    obtain ⟨i0,hi,hz0,hz1,hz2⟩:=info_parts yID
    have hrl:=ys5 q.s.l from_ (n - acc.length)
    have hO47:=hO.keep0 (M28.go0 M47 (by simp))
    refine yc9 hO47 Tryz.underlying41 hi hz0 hz1 hz2 rfl (by decide) (hR47.sl yeI) yeI ywH (by omega) (by unfold maxLen; omega) (by omega) fun a' n' c' w55 hR55 hM55 => ?_
    have M55:=hM55 _ (yb0 a)
    have fr:=hO47.newS
    have hbn:b ∉ yaP a:=fun hb => by have:=fr b hb; have:=yaL hc; omega
    refine ⟨yaG.of M55 (fun i hi _ => by simp at hi; subst hi; exact hbn),?_⟩
    refine ymU (qs.length - (k + 1)) (by omega) ⟨k + 1,rfl,by omega,?_,N47.go0 M55 fr,rfl⟩
    rw [hstep,ygD,if_pos ⟨ga,by omega⟩]
    exact hR55
   ·refine ymU (qs.length - (k + 1)) (by omega) ⟨k + 1,rfl,by omega,?_,N28,rfl⟩
    rw [hstep,ygD,if_neg (by omega)]
    exact hO.keep0 M28
  ·refine ymU (qs.length - (k + 1)) (by omega) ⟨k + 1,rfl,by omega,?_,N28,rfl⟩
   rw [hstep,ygD,if_neg (by omega)]
   exact hO.keep0 M28
 ·have hk:k = qs.length:=by omega
  subst hk
  rw [List.take_of_length_le (by simp)] at hO
  exact ⟨⟨a,n1,c⟩,rfl,hO,M1⟩
theorem yo2 {w:World} {s:Sl} {l:List SegV} (h:ybD w 1 yh4 s.a s.n l) (hl:l.length ≤ 1000000) :
  Calls pP 119 #[.slice s.a s.n s.c] w fun e w' => ∃ v,e = .returned v ∧ ∃ s':Sl,v = .slice s'.a s'.n s'.c ∧ Row w' w.heap.size 111 1 yh4 s'.a s'.n s'.c l ∧ Mod [] w w':=by
 refine yKA ?_
 refine yaD (fun h0 => ?_) fun _ => ?_
 ·have hl0:l = []:=by
   cases l with
   | nil => rfl
   | cons x r => obtain ⟨ad,ha,_⟩:=h.2 0 x rfl; rw [ha] at h0; cases h0
  subst hl0
  exact ⟨⟨none,0,0⟩,rfl,Row.nil ..,Mod.refl _⟩
 ·refine ybH fun b w1 c1 M1 f1 => ?_
  obtain ⟨i0,hi,hz0,hz1,hz2⟩:=info_parts yFV
  refine yc9 (Row.fresh c1 f1) Tryz.underlying114 hi hz0 hz1 hz2 rfl (by decide) (h.keep0 M1) yeW ys0 (by simp; omega) (by simp; unfold maxLen; omega) M1.size fun a' n' c' w2 hR hM => ?_
  exact ⟨⟨a',n',c'⟩,rfl,by simpa using hR,M1.go0 (hM [b] (by simp)) (by simpa using f1)⟩
def yvF (L:List SegS) (before:Int):Nat:=(L.dropLast.takeWhile fun s => decide (s.next ≤ before)).length
theorem yCA (L:List SegS) (before:Int):yvF L before ≤ L.length - 1:=by
 unfold yvF
 have:=(List.takeWhile_sublist (p:=fun s:SegS => decide (s.next ≤ before)) (l:=L.dropLast)).length_le
 rw [List.length_dropLast] at this
 exact this
theorem yCB {L:List SegS} {before:Int} {k:Nat} (hk:k ≤ L.length - 1) (hb:∀ s ∈ L.take k,s.next ≤ before) (he:∀ s,L[k]? = some s → k < L.length - 1 → ¬ s.next ≤ before):yvF L before = k:=by
 have e:L.dropLast = L.take k ++ (L.dropLast).drop k:=by
  have h1:=List.take_append_drop k L.dropLast
  have h2:L.dropLast.take k = L.take k:=by rw [List.dropLast_eq_take,List.take_take]; congr 1; omega
  rw [h2] at h1
  exact h1.symm
 rw [yvF,e,List.takeWhile_append_of_pos (fun a ha => decide_eq_true (hb a ha))]
 have e2:((L.dropLast).drop k).takeWhile (fun s => decide (s.next ≤ before)) = []:=by
  cases hx:(L.dropLast).drop k with
  | nil => rfl
  | cons s r =>
   have h1:(L.dropLast)[k]? = some s:=by
    have:=List.getElem?_drop (xs:=L.dropLast) (i:=k) (j:=0)
    rw [hx] at this; simpa using this.symm
   have hlt:=(List.getElem?_eq_some_iff.1 h1).1
   rw [List.length_dropLast] at hlt
   have h2:L[k]? = some s:=by
    rw [List.dropLast_eq_take,List.getElem?_take_of_lt hlt] at h1
    exact h1
   exact List.takeWhile_cons_of_neg (by simpa using he s h2 hlt)
 rw [e2,List.append_nil,List.length_take]; omega
theorem LogOk.drop {room:Int} {L:List SegS} (h:LogOk room L) {k:Nat} (hk:k < L.length):LogOk room (L.drop k):=by
 refine ⟨fun e => ?_,h.r1,h.r2,fun s hs => h.segs s (List.mem_of_mem_drop hs),fun i s t hs ht => ?_⟩
 ·have:=congrArg List.length e
  simp at this; omega
 ·rw [List.getElem?_drop] at hs ht
  exact h.chain (k + i) s t hs (by rw [← ht]; congr 1)
set_option maxHeartbeats 1000000 in
theorem ys6 {w:World} {b:Nat} {room:Int} {L:List SegS} {F:List Nat} (h:ydR w b room L F) (ok:LogOk room L) (hl:L.length ≤ 100000) (before:Int) :
  Calls pP 71 #[.pointer (some ⟨b,0,none⟩),.int .i64 before] w fun e w' => e = .returned (.int .i64 (yvF L before:Nat)) ∧ ∃ F',ydR w' b room (L.drop (yvF L before)) F' ∧ Mod F w w' ∧ ybJ w F F':=by
 obtain ⟨sl,qs,hc,hR,hS,hP,rfl,rfl⟩:=h
 rw [List.length_map] at hl
 have hRn:=hR.1
 have hpos:=List.length_pos_iff.2 ok.ne
 rw [List.length_map] at hpos
 have fin:∀ {k:Nat} {w1:World} {F:Option Addr → Nat → Nat → Prop},k ≤ qs.length → Mod [] w w1 → (∀ s':Sl,ybD w1 1 yh4 s'.a s'.n (qs.drop k) → F s'.a s'.n s'.c) → slV sl.a sl.c (k:Int) (sl.n:Int) (sl.c:Int) 1 F:=fun {k w1 F} hk N hF =>
  ywK ((hR.keep0 N).sl yeW) (by omega) hR.cap fun a' c' hs => hF ⟨a',_,c'⟩ hs
 have out:∀ {k:Nat} {w1 w2 w3:World} {s':Sl},k ≤ qs.length → Mod [] w w1 → Row w2 w1.heap.size 111 1 yh4 s'.a s'.n s'.c (qs.drop k) → Mod [] w1 w2 → Adv [b] [] w2 w3 → w3.heap[b]? = some (.cells #[.int .i64 room,.slice s'.a s'.n s'.c] 116) →
   ∃ F',ydR w3 b room ((qs.map (·.s)).drop k) F' ∧ Mod (b :: (yaP sl.a ++ qs.flatMap (·.F))) w w3 ∧ ybJ w (b :: (yaP sl.a ++ qs.flatMap (·.F))) F':=by
  intro k w1 w2 w3 s' hk N1 hR2 M2 A3 h3
  have s1:=N1.size
  have ltb:=yaL hc
  have nw:=hR2.newS
  have hbn:b ∉ yaP s'.a:=fun hb => by have:=nw b hb; omega
  have N3:Mod [b] w w3:=((N1.trans M2).trans A3.mod).less (by simp)
  refine ⟨_,⟨s',qs.drop k,h3,(yaE hR2 A3.mod (by simpa using hbn)).rebase (Nat.zero_le _),fun q hq => ?_,hP.sublist (List.drop_sublist k qs),by rw [List.map_drop],rfl⟩,N3.less (by simp),fun z hz => ?_⟩
  ·have hqm:=List.mem_of_mem_drop hq
   exact (hS q hqm).keep N3 fun z hz hz' => by
    simp at hz; subst hz
    rcases (hS q hqm).types z hz' _ _ hc with e | e | e <;> exact absurd e (by decide)
  ·simp only [List.mem_cons,List.mem_append,List.mem_flatMap] at hz ⊢
   rcases hz with rfl | hz | ⟨x,hx,hz⟩
   ·exact .inl (.inl rfl)
   ·have:=nw z hz; exact .inr (by omega)
   ·exact .inl (.inr (.inr ⟨x,List.mem_of_mem_drop hx,hz⟩))
 refine ya2 (yKz hc ?_)
 refine yCz (fun mm x w' => ∃ k:Nat,x = k ∧ k ≤ qs.length - 1 ∧ (∀ s ∈ (qs.map (·.s)).take k,s.next ≤ before) ∧ Mod [] w w' ∧ mm = qs.length - k) qs.length ⟨0,rfl,by omega,by simp,Mod.refl _,rfl⟩ ?_
 rintro mm x w1 ⟨k,rfl,hk,hb,M1,rfl⟩
 have e1:IntKind.wrap .i64 ((sl.n:Int) - 1) = ((qs.length - 1:Nat):Int):=by rw [yaJ (by omega) (by omega)]; omega
 rw [e1]
 refine yaH (fun hlt => ?_) fun hge => ?_
 ·obtain ⟨q,hq⟩:∃ q,qs[k]? = some q:=⟨_,List.getElem?_eq_getElem (by omega)⟩
  have hqm:=List.mem_of_getElem? hq
  have hqs:(qs.map (·.s))[k]? = some q.s:=by simp [hq]
  refine ((hR.keep0 M1).sl yeW).ix hq fun ad had => yfY (x:=some ⟨q.p,0,none⟩) (by simpa [add_zero] using had 0 _ rfl) ?_
  refine (yg7 ((hS q hqm).keep0 M1)).mono ?_
  rintro _ w8 ⟨rfl,M8⟩
  have N8:=M1.go0 M8 (by simp)
  refine ⟨_,_,rfl,yaG.of0 M8,?_⟩
  refine yaH (fun g => ?_) fun g => ?_
  ·have er:yvF (qs.map (·.s)) before = k:=yCB (by simp; omega) hb fun s hs _ => by rw [hqs] at hs; cases hs; omega
   rw [er]
   refine fin (by omega) N8 fun s' hs' => ?_
   refine (yo2 hs' (by rw [List.length_drop]; omega)).mono ?_
   rintro _ w21 ⟨_,rfl,s2,rfl,hR21,M21⟩
   refine ⟨_,_,_,rfl,yaG.of0 M21,?_⟩
   intro w25 A25 h25
   exact ⟨rfl,out (by omega) N8 hR21 M21 A25 h25⟩
  ·refine yCy (qs.length - (k + 1)) (by omega) ⟨k + 1,by rw [yaJ (by omega) (by omega)]; omega,by omega,?_,N8,rfl⟩
   rw [yd2 hqs]
   intro s hs
   rcases List.mem_append.1 hs with hs | hs
   ·exact hb s hs
   ·simp at hs; subst hs; omega
 ·have er:yvF (qs.map (·.s)) before = k:=yCB (by simp; omega) hb fun s hs h2 => by rw [List.length_map] at h2; omega
  rw [er]
  refine fin (by omega) M1 fun s' hs' => ?_
  refine (yo2 hs' (by rw [List.length_drop]; omega)).mono ?_
  rintro _ w36 ⟨_,rfl,s2,rfl,hR36,M36⟩
  refine ⟨_,_,_,rfl,yaG.of0 M36,?_⟩
  intro w40 A40 h40
  exact ⟨rfl,out (by omega) M1 hR36 M36 A40 h40⟩
end Go.Proofs.YtkepmmocldnnfaaGreat
namespace Go.Proofs.YtkepmmocldnnfaaGreat
open Go Go.RowKit
set_option linter.all false
section
set_option maxRecDepth 100000
variable {R:VWP} {w w0:World} {m:Nat} {i0 i1 i2 i3 i4 i5 i6 i7 i8 i9 j0 j1 j2 j3 j4 j5 j6 j7 j8 j9 k0 k1 k2 k3 k4 k5 k6 k7 k8 k9 l0 l1 l2 l3 l4 l5 l6 l7 l8 l9:Int} {s0 s1 s2 s3 s4 s5 s6 s7 s8 s9 t0 t1 t2 t3 t4 t5 t6 t7 t8 t9:BA} {n0 n1 n2 n3 n4 n5 n6 n7 n8 n9 o0 o1 o2 o3 o4 o5 o6 o7 o8 o9 p0 p1 p2 p3 p4 p5 p6 p7 p8 p9:Nat} {q0 q1 q2 q3 q4 q5 q6 q7 q8 q9 r0 r1 r2 r3 r4 r5 r6 r7 r8 r9:OA} {B0 B1 B2 B3 B4 B5 B6 B7 B8 B9:Bool} {M0 M1 M2 M3:Option Nat} {V0 V1 V2 V3 V4 V5:Value} {A0 A1 A2:Addr}
theorem yKD {a0:BA} (h :
 Calls pP 144 #[.string a0] w fun e w3 => ∃ t4,e = .returned (.bool t4) ∧
 brB t4 (
 brB (decide (i0 ≥ 1)) (
 R (.bool (decide (i0 ≤ 8))) w3)
 (
 R (.bool false) w3))
 (
 R (.bool false) w3)) :
 CR pP 101 #[.string a0,.int .i64 i0] w R :=
 yaB Tryz.wide_mixed (an:=[]) Tryz.func101 rfl rfl (by kernel_rfl) rfl (Eq.mpr (by kernel_rfl) h)
def yvG:LA:=⟨[0,0,1,0,1,1,1],[0,4,11,12,13],[],0,[]⟩
def yxX:List LA:=[yvG]
abbrev yKE:=dnF pP yxX (code Tryz.f168)
abbrev yMU:=ya0 pP yxX (code Tryz.f168)
abbrev yKF (p:List Nat) (K:List Kh) (R:VWP):=ya0 pP yxX (code Tryz.f168) p K (ybO pP Tryz.f168 [] R)
def ymW (a5:OA) (a7 a6:Nat) (a8 a0:OA) (a2 a1:Nat) (a3:Int):Int → List Value × List TB:=fun a4 => ([.slice a5 a7 a6,.pointer a8,.slice a0 a2 a1,.int .i64 a3,.int .i64 a4],[])
abbrev yCC (a4:OA) (a6 a5:Nat) (a7 a0:OA) (a2 a1:Nat) (a3:Int) (I:Nat → Int → World → Prop) (m:Nat):Kh:=KG (ymW a4 a6 a5 a7 a0 a2 a1 a3) (U1 I) m
theorem ys7 {I:Nat → Int → World → Prop} (m':Nat) (h1:m' < m) (h2:I m' i1 w):KS (yCC q0 n0 n1 q1 q2 n2 n3 i0 I m) (ymW q0 n0 n1 q1 q2 n2 n3 i0 i1) w:=⟨m',h1,_,rfl,rfl,h2⟩
theorem yCD {a6:OA} {a4 a1:OA} (I:Nat → Int → World → Prop) (m0:Nat) (h0:I m0 i1 w0)
 (hr:∀ m a0 w,I m a0 w →
 brB (decide (a0 < i0)) (
 ixA a1 n2 a0 2 fun q9 =>
 yaK w q9 fun b1 => yaA .i64 w (Addr.add q9 1) fun b6 =>
 ∀ b0,w.heap.size ≤ b0 →
 ∀ b5,Adv [] [b0] w b5 →
 Calls pP 101 #[.string b1,.int .i64 b6] b5 fun e a9 => ∃ b8,e = .returned (.bool b8) ∧ yaG [b0] b5 a9 ∧
 brB (!b8) (
 R (.tuple #[.pointer none,.int .i64 1]) a9)
 (
 brB (decide (a0 > 0)) (
 ixA a6 n0 (IntKind.wrap .i64 (a0 - 1)) 2 fun c1 =>
 yaK a9 c1 fun b7 =>
 brB ((Op.bytesLess b1.toList b7.toList) || (b1.toList == b7.toList)) (
 R (.tuple #[.pointer none,.int .i64 1]) a9)
 (
 yjF a4 fun c2 =>
 ∀ b2,Adv [] [] a9 b2 →
 ylQ b2 c2 fun m20 =>
 yc7 pP (Instr.mapUpdate 117 (.map m20) (.string b1) (.int .i64 b6)) b2 fun b9 => yaG [b0] b2 b9 ∧
 KS (yCC a6 n0 n1 a4 a1 n2 n3 i0 I m) (ymW a6 n0 n1 a4 a1 n2 n3 i0 (IntKind.wrap .i64 (a0 + 1))) b9))
 (
 yjF a4 fun c3 =>
 ∀ b3,Adv [] [] a9 b3 →
 ylQ b3 c3 fun m24 =>
 yc7 pP (Instr.mapUpdate 117 (.map m24) (.string b1) (.int .i64 b6)) b3 fun c0 => yaG [b0] b3 c0 ∧
 KS (yCC a6 n0 n1 a4 a1 n2 n3 i0 I m) (ymW a6 n0 n1 a4 a1 n2 n3 i0 (IntKind.wrap .i64 (a0 + 1))) c0)))
 (
 R (.tuple #[.pointer a4,.int .i64 0]) w)) :
 yaU yvG (yKE 395 [0,0,1,0,1,1,1]) (yKF [1,1,1,0,1,0] [] R) (ymW a6 n0 n1 a4 a1 n2 n3 i0 i1) w0 :=
 lrule (ymW a6 n0 n1 a4 a1 n2 n3 i0) (U1 I) h0 (by rintro m a0 w h; exact ⟨by kernel_rfl,by kernel_rfl,fun js => Eq.mpr (by kernel_rfl) (hr m a0 w h)⟩)
theorem yKG {a0 a2:Nat} (h :
 brB (decide ((a0:Int) > 8)) (
 R (.tuple #[.pointer none,.int .i64 2]) w)
 (
 Calls pP 34 #[] w fun e w3 => ∃ p4,e = .returned (.pointer p4) ∧
 yaU yvG (yKE 395 [0,0,1,0,1,1,1]) (yKF [1,1,1,0,1,0] [] R) (ymW q0 a0 a2 p4 q0 a0 a2 (a0:Int) 0) w3)) :
 CR pP 168 #[.slice q0 a0 a2] w R :=
 yaB Tryz.wide_mixed (an:=yxX) Tryz.func168 rfl rfl (by kernel_rfl) rfl (Eq.mpr (by kernel_rfl) h)
theorem yKH {b0:Nat} {a0:BA} (hb:w.heap[b0]? = some (.cells #[(.map M0)] 119)) (h :
 ∃ x3 t4,(∀ w',Mod [] w w' → (Instr.lookup 117 (.map M0) (.string a0) true).run pP w' = .ok (.tuple #[.int .i64 x3,.bool t4]) w') ∧
 Calls pP 101 #[.string a0,.int .i64 i0] w fun e w7 => ∃ t8,e = .returned (.bool t8) ∧ yaG [b0] w w7 ∧
 brB (!t8) (
 ∀ w9,Adv [] [] w7 w9 → w9.heap[b0]? = some (.cells #[(.map M0)] 119) →
 R (.int .i64 1) w9)
 (
 brB t4 (
 ∀ a2,Adv [] [] w7 a2 → a2.heap[b0]? = some (.cells #[(.map M0)] 119) →
 R (.int .i64 90) a2)
 (
 ∃ a6,(∀ w',Mod [] w7 w' → (Builtin.len_ #[117] 3 #[(.map M0)]).run pP w' = .ok (.int .i64 a6) w') ∧
 brB (decide (a6 ≥ 8)) (
 ∀ a3,Adv [] [] w7 a3 → a3.heap[b0]? = some (.cells #[(.map M0)] 119) →
 R (.int .i64 2) a3)
 (
 yc7 pP (Instr.mapUpdate 117 (.map M0) (.string a0) (.int .i64 i0)) w7 fun a5 => yaG [b0] w7 a5 ∧
 ∀ a4,Adv [] [] a5 a4 → a4.heap[b0]? = some (.cells #[(.map M0)] 119) →
 R (.int .i64 0) a4)))) :
 CR pP 63 (Z16 (some ⟨b0,0,none⟩) a0 i0) w R :=
 yaO Tryz.wide_mixed (an:=[]) Tryz.func63 rfl rfl (by kernel_rfl) rfl hb (Eq.mpr (by kernel_rfl) h)
theorem yKI {b0:Nat} (hb:w.heap[b0]? = some (.cells #[(.map M0)] 119)) (h :
 ∀ b2,w.heap.size ≤ b2 →
 brB (decide (i0 ≥ 0)) (
 ∀ w3,Adv [] [b2] w w3 →
 ∃ x4,(∀ w',Mod [] w3 w' → (Instr.lookup 117 (.map M0) (.string s0) false).run pP w' = .ok (.int .i64 x4) w') ∧
 ∀ w5,Adv [] [] w3 w5 → w5.heap[b0]? = some (.cells #[(.map M0)] 119) →
 R (.bool (decide (i0 < x4))) w5)
 (
 ∀ w6,Adv [] [b2] w w6 → w6.heap[b0]? = some (.cells #[(.map M0)] 119) →
 R (.bool false) w6)) :
 CR pP 52 #[(.pointer (some ⟨b0,0,none⟩)),(.agg #[.string s0,.int .i64 i0])] w R :=
 yaO Tryz.wide_mixed (an:=[]) Tryz.func52 rfl rfl (by kernel_rfl) rfl hb (Eq.mpr (by kernel_rfl) h)
theorem yKJ (h :
 Calls pP 131 #[.slice q0 n0 n1,.string s0] w fun e w3 => ∃ x4,e = .returned (.int .i64 x4) ∧
 R (.bool (decide (x4 ≥ 0))) w3) :
 CR pP 169 #[.slice q0 n0 n1,.string s0] w R :=
 yaB Tryz.wide_mixed (an:=[]) Tryz.func169 rfl rfl (by kernel_rfl) rfl (Eq.mpr (by kernel_rfl) h)
def yvH:LA:=⟨[0,0,1,0,1],[0,1,7,8],[],0,[]⟩
def yxY:List LA:=[yvH]
abbrev yKK:=dnF pP yxY (code Tryz.f131)
abbrev yMV:=ya0 pP yxY (code Tryz.f131)
abbrev yKL (p:List Nat) (K:List Kh) (R:VWP):=ya0 pP yxY (code Tryz.f131) p K (ybO pP Tryz.f131 [] R)
def yo3 (a0:OA) (a2 a1:Nat) (a3:BA) (a4:Int):Int → List Value × List TB:=fun a5 => ([.slice a0 a2 a1,.string a3,.int .i64 a4,.int .i64 a5],[])
abbrev yFW (a0:OA) (a2 a1:Nat) (a3:BA) (a4:Int) (I:Nat → Int → World → Prop) (m:Nat):Kh:=KG (yo3 a0 a2 a1 a3 a4) (U1 I) m
theorem yCE {I:Nat → Int → World → Prop} (m':Nat) (h1:m' < m) (h2:I m' i1 w):KS (yFW q0 n0 n1 s0 i0 I m) (yo3 q0 n0 n1 s0 i0 i1) w:=⟨m',h1,_,rfl,rfl,h2⟩
theorem yCF {a1:OA} {a3:BA} (I:Nat → Int → World → Prop) (m0:Nat) (h0:I m0 i1 w0)
 (hr:∀ m a0 w,I m a0 w →
 brB (decide (a0 < i0)) (
 ixA a1 n0 a0 1 fun q3 =>
 yaK w q3 fun s4 =>
 brB (a3.toList == s4.toList) (
 R (.int .i64 a0) w)
 (
 KS (yFW a1 n0 n1 a3 i0 I m) (yo3 a1 n0 n1 a3 i0 (IntKind.wrap .i64 (a0 + 1))) w))
 (
 R (.int .i64 (-1)) w)) :
 yaU yvH (yKK 397 [0,0,1,0,1]) (yKL [1,0,1,0] [] R) (yo3 a1 n0 n1 a3 i0 i1) w0 :=
 lrule (yo3 a1 n0 n1 a3 i0) (U1 I) h0 (by rintro m a0 w h; exact ⟨by kernel_rfl,by kernel_rfl,fun js => Eq.mpr (by kernel_rfl) (hr m a0 w h)⟩)
theorem yKM (h :
 yaU yvH (yKK 397 [0,0,1,0,1]) (yKL [1,0,1,0] [] R) (yo3 q0 n0 n1 s0 (n0:Int) 0) w) :
 CR pP 131 #[.slice q0 n0 n1,.string s0] w R :=
 yaB Tryz.wide_mixed (an:=yxY) Tryz.func131 rfl rfl (by kernel_rfl) rfl (Eq.mpr (by kernel_rfl) h)
end
section
set_option maxRecDepth 100000
variable {R:VWP} {w w0:World} {m:Nat} {i0 i1 i2 i3 i4 i5 i6 i7 i8 i9 j0 j1 j2 j3 j4 j5 j6 j7 j8 j9 k0 k1 k2 k3 k4 k5 k6 k7 k8 k9 l0 l1 l2 l3 l4 l5 l6 l7 l8 l9:Int} {s0 s1 s2 s3 s4 s5 s6 s7 s8 s9 t0 t1 t2 t3 t4 t5 t6 t7 t8 t9:BA} {n0 n1 n2 n3 n4 n5 n6 n7 n8 n9 o0 o1 o2 o3 o4 o5 o6 o7 o8 o9 p0 p1 p2 p3 p4 p5 p6 p7 p8 p9:Nat} {q0 q1 q2 q3 q4 q5 q6 q7 q8 q9 r0 r1 r2 r3 r4 r5 r6 r7 r8 r9:OA} {B0 B1 B2 B3 B4 B5 B6 B7 B8 B9:Bool} {M0 M1 M2 M3:Option Nat} {V0 V1 V2 V3 V4 V5:Value} {A0 A1 A2:Addr}
theorem yKN (h :
 brB (decide (i0 ≥ 0)) (
 R (.bool (decide (i0 ≤ 1099511627776))) w)
 (
 R (.bool false) w)) :
 CR pP 161 #[.int .i64 i0] w R :=
 yaB Tryz.wide_mixed (an:=[]) Tryz.func161 rfl rfl (by kernel_rfl) rfl (Eq.mpr (by kernel_rfl) h)
theorem yKO (h :
 ∀ b2,w.heap.size ≤ b2 →
 ∀ a7,Adv [] [b2] w a7 →
 Calls pP 144 #[.string s0] a7 fun e a4 => ∃ a8,e = .returned (.bool a8) ∧ yaG [b2] a7 a4 ∧
 brB a8 (
 Calls pP 144 #[.string s1] a4 fun e a5 => ∃ a9,e = .returned (.bool a9) ∧ yaG [b2] a4 a5 ∧
 brB a9 (
 Calls pP 161 #[.int .i64 i0] a5 fun e a6 => ∃ b0,e = .returned (.bool b0) ∧ yaG [b2] a5 a6 ∧
 brB b0 (
 Calls pP 161 #[.int .i64 i1] a6 fun e b3 => ∃ b1,e = .returned (.bool b1) ∧ yaG [b2] a6 b3 ∧
 R (.bool b1) b3)
 (
 R (.bool false) a6))
 (
 R (.bool false) a5))
 (
 R (.bool false) a4)) :
 CR pP 137 #[(.agg #[.string s0,.string s1,.int .i64 i0,.int .i64 i1])] w R :=
 yaB Tryz.wide_mixed (an:=[]) Tryz.func137 rfl rfl (by kernel_rfl) rfl (Eq.mpr (by kernel_rfl) h)
theorem yKP {b0:Nat} (hb:w.heap[b0]? = some (.cells #[(.map M0)] 125)) (h :
 ∀ b2,w.heap.size ≤ b2 →
 ∀ b4,w.heap.size ≤ b4 →
 ∀ w8,Adv [] [b4,b2] w w8 →
 Calls pP 137 #[(.agg #[.string s0,.string s1,.int .i64 i0,.int .i64 i1])] w8 fun e w9 => ∃ a8,e = .returned (.bool a8) ∧ yaG [b0,b2,b4] w8 w9 ∧
 brB (!a8) (
 ∀ a4,Adv [] [] w9 a4 → a4.heap[b0]? = some (.cells #[(.map M0)] 125) →
 R (.int .i64 1) a4)
 (
 ∃ b1,(∀ w',Mod [] w9 w' → (Instr.lookup 123 (.map M0) (.agg #[.string s0,.string s1,.int .i64 i0]) false).run pP w' = .ok (.int .i64 b1) w') ∧
 brB (decide (b1 > i1)) (
 ∀ a5,Adv [] [] w9 a5 → a5.heap[b0]? = some (.cells #[(.map M0)] 125) →
 R (.int .i64 120) a5)
 (
 ∀ a6,Adv [] [] w9 a6 →
 yc7 pP (Instr.mapUpdate 123 (.map M0) (.agg #[.string s0,.string s1,.int .i64 i0]) (.int .i64 i1)) a6 fun a9 => yaG [b0,b2,b4] a6 a9 ∧
 ∀ a7,Adv [] [] a9 a7 → a7.heap[b0]? = some (.cells #[(.map M0)] 125) →
 R (.int .i64 0) a7))) :
 CR pP 82 #[(.pointer (some ⟨b0,0,none⟩)),(.agg #[.string s0,.string s1,.int .i64 i0,.int .i64 i1])] w R :=
 yaO Tryz.wide_mixed (an:=[]) Tryz.func82 rfl rfl (by kernel_rfl) rfl hb (Eq.mpr (by kernel_rfl) h)
theorem yKQ {b0:Nat} {a0 a1:BA} (hb:w.heap[b0]? = some (.cells #[(.map M0)] 125)) (h :
 ∀ b2,w.heap.size ≤ b2 →
 ∀ w3,Adv [] [b2] w w3 →
 ∃ x4 t5,(∀ w',Mod [] w3 w' → (Instr.lookup 123 (.map M0) (.agg #[.string a0,.string a1,.int .i64 i0]) true).run pP w' = .ok (.tuple #[.int .i64 x4,.bool t5]) w') ∧
 ∀ w6,Adv [] [] w3 w6 → w6.heap[b0]? = some (.cells #[(.map M0)] 125) →
 R (.tuple #[.int .i64 x4,.bool t5]) w6) :
 CR pP 74 #[(.pointer (some ⟨b0,0,none⟩)),.string a0,(.agg #[.string a1,.int .i64 i0])] w R :=
 yaO Tryz.wide_mixed (an:=[]) Tryz.func74 rfl rfl (by kernel_rfl) rfl hb (Eq.mpr (by kernel_rfl) h)
def yvI:LA:=⟨[0,0,1,0,1,1,1],[0,2,4,7,16],[(0,0,0),(4,1,0)],2,[]⟩
def yxZ:List LA:=[yvI]
abbrev yKR:=dnF pP yxZ (code Tryz.f72)
abbrev yMW:=ya0 pP yxZ (code Tryz.f72)
abbrev yKS (p:List Nat) (K:List Kh) (R:VWP):=ya0 pP yxZ (code Tryz.f72) p K (ybO pP Tryz.f72 [0] R)
def ykR (a4:Int) (a3:Addr) (bm0:Nat) (a0:Option Nat) (bm1:Nat) (a1:BA) (a2:Int):Int → List Value × List TB:=fun a5 => ([(.pointer (some ⟨bm0,0,none⟩)),.int .i64 a4,(.pointer (some ⟨bm1,0,none⟩)),.int .i64 a5,(.pointer (some a3))],[⟨bm0,125,[(.map a0)],false⟩,⟨bm1,26,[.string a1,.int .i64 a2],false⟩])
abbrev yx0 (a4:Int) (a3:Addr) (bm0:Nat) (a0:Option Nat) (bm1:Nat) (a1:BA) (a2:Int) (I:Nat → Int → World → Prop) (m:Nat):Kh:=KG (ykR a4 a3 bm0 a0 bm1 a1 a2) (U1 I) m
theorem ymX {I:Nat → Int → World → Prop} (m':Nat) (h1:m' < m) (h2:I m' i2 w):KS (yx0 i0 A0 n0 M0 n1 s0 i1 I m) (ykR i0 A0 n0 M0 n1 s0 i1 i2) w:=⟨m',h1,_,rfl,rfl,h2⟩
theorem yCG (I:Nat → Int → World → Prop) (m0:Nat) (h0:I m0 i2 w0)
 (hr:∀ m a5 w,I m a5 w →
 yAP pP (.pointer (some A0)) 0 w (fun b7 => yaG [n0,n1] w b7 ∧
 ∀ b2,Adv [] [] b7 b2 → b2.heap[n0]? = some (.cells #[(.map M0)] 125) →
 R (.int .i64 a5) b2)
 (fun c0 c1 b1 => yaG [n0,n1] w b1 ∧
 ∃ b5 a7 a9 b9,∃ a8,(Instr.entry (.pointer (some A0))).run pP b1 = .ok (.tuple #[(.agg #[.string b5,.string a7,.int .i64 a9]),.int .i64 b9]) a8 ∧ yaG [n0,n1] b1 a8 ∧
 ∀ b0,a8.heap.size ≤ b0 →
 ∀ a6,Adv [] [b0] a8 a6 →
 ∃ b6,(∀ w',Mod [] a6 w' → Sem.run pP (do eqGuard .eql 26 (.tmp 23) (.tmp 24) (.agg #[.string a7,.int .i64 a9]) (.agg #[.string s0,.int .i64 i1]); Go.binOp .eql 26 (.agg #[.string a7,.int .i64 a9]) (.agg #[.string s0,.int .i64 i1])) w' = .ok (.bool b6) w') ∧
 brB b6 (
 brB (decide (b9 < i0)) (
 ∀ b3,Adv [] [] a6 b3 →
 yc7 pP (Instr.mapUpdate 123 (.map M0) (.agg #[.string b5,.string a7,.int .i64 a9]) (.int .i64 i0)) b3 fun b8 => yaG [n0,n1,b0] b3 b8 ∧
 KS (yx0 i0 A0 n0 M0 n1 s0 i1 I m) (ykR i0 A0 n0 M0 n1 s0 i1 (IntKind.wrap .i64 (a5 + 1))) b8)
 (
 KS (yx0 i0 A0 n0 M0 n1 s0 i1 I m) (ykR i0 A0 n0 M0 n1 s0 i1 a5) a6))
 (
 KS (yx0 i0 A0 n0 M0 n1 s0 i1 I m) (ykR i0 A0 n0 M0 n1 s0 i1 a5) a6))) :
 yaU yvI (yKR 395 [0,0,1,0,1,1,1]) (yKS [1,1,1,0,1,0] [] R) (ykR i0 A0 n0 M0 n1 s0 i1 i2) w0 :=
 lrule (ykR i0 A0 n0 M0 n1 s0 i1) (U1 I) h0 (by rintro m a5 w h; exact ⟨by kernel_rfl,by kernel_rfl,fun js => Eq.mpr (by kernel_rfl) (hr m a5 w h)⟩)
theorem yKT {b0:Nat} (hb:w.heap[b0]? = some (.cells #[(.map M0)] 125)) (h :
 ∀ b2,w.heap.size ≤ b2 →
 brB (decide (i1 > 1099511627776)) (
 ∀ w3,Adv [] [b2] w w3 → w3.heap[b0]? = some (.cells #[(.map M0)] 125) →
 R (.int .i64 0) w3)
 (
 ∀ w7,Adv [] [b2] w w7 →
 yn0 pP (Instr.range 123 (.map M0)) w7 fun q8 w9 => yaG [b0,b2] w7 w9 ∧
 yaU yvI (yKR 395 [0,0,1,0,1,1,1]) (yKS [1,1,1,0,1,0] [] R) (ykR i1 q8 b0 M0 b2 s0 i0 0) w9)) :
 CR pP 72 #[(.pointer (some ⟨b0,0,none⟩)),(.agg #[.string s0,.int .i64 i0]),.int .i64 i1] w R :=
 yaO Tryz.wide_mixed (an:=yxZ) Tryz.func72 rfl rfl (by kernel_rfl) rfl hb (Eq.mpr (by kernel_rfl) h)
end
end Go.Proofs.YtkepmmocldnnfaaGreat
namespace Go.Proofs.YtkepmmocldnnfaaGreat
open Go Go.RowKit Go.Maps Go.MapKept
open Go.ChangeMaps (setBlock)
set_option linter.unusedVariables false
set_option linter.unusedSimpArgs false
theorem yhP {α:Type} {p:α → Bool}:∀ {l:List α} {j:Nat} {x y:α},l[j]? = some x → p x = false → p y = false → (l.set j y).filter p = l.filter p
 | [],j,x,y,h,_,_ => by simp at h
 | a :: r,0,x,y,h,hx,hy => by
  simp at h; subst h
  rw [List.set_cons_zero,List.filter_cons_of_neg (by simp [hy]),List.filter_cons_of_neg (by simp [hx])]
 | a :: r,j + 1,x,y,h,hx,hy => by
  rw [List.set_cons_succ,List.filter_cons,List.filter_cons,yhP (by simpa using h) hx hy]
section
variable {κ β:Type} [DecidableEq κ] {P:Program} {t T e:TypeId} {ek:κ → Value} {ev:β → Value} {w:World} {r b:Nat} {L left:List (κ × β)} {k:κ} {l:Lit}
theorem yb3.update (h:yb3 P t ek ev w r b L left) (K:Keyed P t) (hi:∀ a b,ek a = ek b → a = b) (ht:P.underlying T = some (.map t e)) (v:β) (hk:keyOf P t (ek k) = some l) {x0:β} (hx0:lkp L k = some x0) (hnl:∀ p ∈ left,p.1 ≠ k) :
  ∃ o,(Instr.mapUpdate T (.map (some b)) (ek k) (ev v)).run P w = .ok () (setBlock w b o) ∧ yb3 P t ek ev (setBlock w b o) r b (put L k v) left:=by
 have hM:=h.map
 have hn:=hM.nodup
 have hne:=h.ne
 obtain ⟨es,clock,since,seen,c0,h1,hb,he,hkk,hs,hbn,hc,hcl,hl⟩:=h
 rcases hM.find K hi hb hk w with ⟨f1,f2⟩ | ⟨j,x,f1,hj,f2⟩
 ·rw [hx0] at f1; cases f1
 ·have g:(es.toList.map (fun e => (e.key,e.val)))[j]? = some (ek k,ev x):=by rw [he,List.getElem?_map,hj]; rfl
  rw [List.getElem?_map,Option.map_eq_some_iff] at g
  obtain ⟨e0,he0,e2⟩:=g
  simp only [Prod.mk.injEq] at e2
  have he1:es[j]? = some e0:=by rw [← Array.getElem?_toList]; exact he0
  have hset:(es.modify j fun e => { e with key:=ek k,val:=ev v }).toList = es.toList.set j { e0 with key:=ek k,val:=ev v }:=by
   apply List.ext_getElem?
   intro i
   simp only [Array.toList_modify,List.getElem?_modify,List.getElem?_set,Array.length_toList]
   by_cases hij:j = i
   ·subst hij
    obtain ⟨hl',he3⟩:=Array.getElem?_eq_some_iff.1 he1
    simp [hl',he3]
   ·simp [hij]
  have hseen:(!seen.contains e0.born) = false:=by
   cases hc':seen.contains e0.born with
   | true => rfl
   | false =>
    have:(e0.key,e0.val) ∈ left.map (fun p => (ek p.1,ev p.2)):=hl ▸ List.mem_map.2 ⟨e0,List.mem_filter.2 ⟨List.mem_of_getElem? he0,by rw [hc']; rfl⟩,rfl⟩
    obtain ⟨p,hp,e3⟩:=List.mem_map.1 this
    simp only [Prod.mk.injEq] at e3
    exact absurd (hi _ _ (e3.1.trans e2.1)) (hnl p hp)
  refine ⟨.map (es.modify j fun e => { e with key:=ek k,val:=ev v }) clock,?_,es.modify j fun e => { e with key:=ek k,val:=ev v },clock,since,seen,c0,by rw [yb6 hne]; exact h1,yb5 hb,?_,?_,?_,?_,hc,hcl,?_⟩
  ·simp [Instr.mapUpdate,run_underlying ht,MapKept.run_getObj_map hb,K.check w _ hk,f2,Result.andThen,MapKept.run_setObj_map _ hb,setBlock,he1,e2.1,K.stays w hk]
  ·rw [ygJ hn hj,yn1 he1,he,List.map_set]
  ·rw [ygJ hn hj]; intro p hp
   rcases List.mem_or_eq_of_mem_set hp with hp | rfl
   ·exact hkk p hp
   ·exact ⟨l,hk⟩
  ·exact stamped_modify hs _ _ (fun _ _ => rfl) (fun e' _ he' => by rw [he1] at he'; cases he'; exact e2.1.symm)
  ·rw [hset]; intro y hy
   rcases List.mem_or_eq_of_mem_set hy with hy | rfl
   ·exact hbn y hy
   ·exact hbn e0 (List.mem_of_getElem? he0)
  ·rw [hset,yhP he0 hseen hseen]
   exact hl
end
abbrev TL:=List (ByteArray × Int)
def yf5 (w:World) (b:Nat) (L:TL) (F:List Nat):Prop:=∃ m,w.heap[b]? = some (.cells #[.map (some m)] 119) ∧ yaX pP 9 hks hki w m L ∧ F = [b,m]
theorem yaX.notCells {κ β:Type} [DecidableEq κ] {P:Program} {t:TypeId} {ek:κ → Value} {ev:β → Value} {w:World} {m:Nat} {L:List (κ × β)} (h:yaX P t ek ev w m L) {cs:Array Value} {T:TypeId}:w.heap[m]? ≠ some (.cells cs T):=by
 obtain ⟨es,clock,hb,_⟩:=h
 rw [hb]; simp
theorem yf5.lt {w:World} {b:Nat} {L:TL} {F:List Nat} (h:yf5 w b L F):∀ k ∈ F,k < w.heap.size:=by
 obtain ⟨m,hc,hm,rfl⟩:=h
 intro k hk; simp at hk
 rcases hk with rfl | rfl
 ·exact yaL hc
 ·exact hm.lt
theorem yf5.keep {w w':World} {b:Nat} {L:TL} {F S:List Nat} (h:yf5 w b L F) (M:Mod S w w') (hS:∀ k ∈ S,k ∉ F):yf5 w' b L F:=by
 obtain ⟨m,hc,hm,rfl⟩:=h
 exact ⟨m,M.keep hc (fun hb => hS b hb (by simp)),hm.keepM M (fun hb => hS m hb (by simp)),rfl⟩
theorem yf5.keep0 {w w':World} {b:Nat} {L:TL} {F:List Nat} (h:yf5 w b L F) (M:Mod [] w w'):yf5 w' b L F:=h.keep M (by simp)
theorem ys8 (w:World):Calls pP 34 #[] w fun e w' => ∃ v,e = .returned v ∧ ∃ b F,v = .pointer (some ⟨b,0,none⟩) ∧ yf5 w' b [] F ∧ (∀ k ∈ F,w.heap.size ≤ k) ∧ Mod [] w w':=by
 refine yFv ?_
 refine ybH fun b4 w5 c5 M5 f5 => ?_
 have s5:=M5.size
 intro b6 f6 w7 A7 h7
 exact ⟨b6,_,rfl,⟨b4,h7,yaX.of_new (A7.mod.keep0 c5),rfl⟩,by simp; omega,M5.go0 A7.mod (by simp)⟩
theorem yeM {s:ByteArray} (h:ycW s = true):s.size ≤ 16:=by simp [ycW] at h; exact h.1.2
def ye9 (name:ByteArray) (n:Int):Bool:=ycW name && decide (1 ≤ n ∧ n ≤ 8)
theorem ys9 (name:ByteArray) (n:Int) (w:World):Calls pP 101 #[.string name,.int .i64 n] w fun e w' => e = .returned (.bool (ye9 name n)) ∧ Mod [] w w':=by
 refine ya2 (yKD ?_)
 refine (yh1 name w).mono ?_
 rintro _ w3 ⟨rfl,M3⟩
 refine ⟨_,rfl,yaD (fun g => ?_) fun g => ?_⟩
 ·refine yaH (fun g2 => ⟨congrArg Value.bool ?_,M3⟩) fun g2 => ⟨congrArg Value.bool ?_,M3⟩
  ·rw [ye9,g,Bool.true_and]; exact decide_eq_decide.2 ⟨fun h => ⟨by omega,h⟩,fun h => h.2⟩
  ·rw [ye9,g,Bool.true_and]; exact (decide_eq_false (by omega)).symm
 ·exact ⟨congrArg Value.bool (by simp [ye9,g]),M3⟩
def yh5 (L:TL) (name:ByteArray) (n:Int):Int:=if ye9 name n = false then 1 else if (lkp L name).isSome = true then 90 else if 8 ≤ L.length then 2 else 0
theorem ymY (w:World):(zeroValue 3).run pP w = .ok (hki 0) w:=by kernel_rfl
theorem yzK {w:World} {b:Nat} {L:TL} {F:List Nat} (h:yf5 w b L F) {name:ByteArray} (hs:name.size ≤ maxLen) (n:Int) :
  Calls pP 63 #[.pointer (some ⟨b,0,none⟩),.string name,.int .i64 n] w fun e w' => e = .returned (.int .i64 (yh5 L name n)) ∧ yf5 w' b (if yh5 L name n = 0 then put L name n else L) F ∧ Mod F w w':=by
 obtain ⟨m,hc,hm,rfl⟩:=id h
 have hmb:m ≠ b:=by rintro rfl; exact hm.notCells hc
 refine ya2 (yKH hc ?_)
 refine ⟨_,_,hm.lkT ye0 ybW Tryz.underlying117 ymY (yb1 hs),?_⟩
 refine (ys9 name n w).mono ?_
 rintro _ w7 ⟨rfl,M7⟩
 have hm7:=hm.keepM0 M7
 have hc7:=M7.keep0 hc
 refine ⟨_,rfl,yaG.of0 M7,?_⟩
 refine yaD (fun g => ?_) fun g => ?_
 ·have g:ye9 name n = false:=by simpa using g
  intro w9 A9 _
  have N:=M7.go0 A9.mod (by simp)
  rw [yh5,if_pos g,if_neg (by decide)]
  exact ⟨rfl,h.keep0 N,N.less (by simp)⟩
 have g:¬ ye9 name n = false:=by simpa using g
 refine yaD (fun g2 => ?_) fun g2 => ?_
 ·intro w10 A10 _
  have N:=M7.go0 A10.mod (by simp)
  rw [yh5,if_neg g,if_pos g2,if_neg (by decide)]
  exact ⟨rfl,h.keep0 N,N.less (by simp)⟩
 refine ⟨_,fun w' M => (hm7.keepM0 M).len Tryz.underlying117 _,?_⟩
 refine yaH (fun g3 => ?_) fun g3 => ?_
 ·intro w13 A13 _
  have N:=M7.go0 A13.mod (by simp)
  rw [yh5,if_neg g,if_neg (by simp [g2]),if_pos (by omega),if_neg (by decide)]
  exact ⟨rfl,h.keep0 N,N.less (by simp)⟩
 refine hm7.setU ye0 ybW Tryz.underlying117 (v:=n) (yb1 hs) (by simpa using hmb) fun w' hm' M' => ?_
 intro w16 A16 h16
 have e:yh5 L name n = 0:=by rw [yh5,if_neg g,if_neg (by simp [g2]),if_neg (by omega)]
 rw [e,if_pos rfl]
 exact ⟨rfl,⟨m,h16,hm'.keepM0 A16.mod,rfl⟩,((M7.trans M').trans A16.mod).less (by simp)⟩
def ynS (L:TL) (p:PPart):Bool:=decide (0 ≤ p.n ∧ p.n < (lkp L p.t).getD 0)
theorem yCH {w:World} {b:Nat} {L:TL} {F:List Nat} (h:yf5 w b L F) {p:PPart} (hs:p.t.size ≤ maxLen) :
  Calls pP 52 #[.pointer (some ⟨b,0,none⟩),p.v] w fun e w' => e = .returned (.bool (ynS L p)) ∧ Mod [] w w':=by
 obtain ⟨m,hc,hm,rfl⟩:=id h
 refine ya2 (yKI hc ?_)
 intro b2 f2
 refine yaH (fun g => ?_) fun g => ?_
 ·intro w3 A3
  refine ⟨_,(hm.keepM0 A3.mod).lkF ye0 ybW Tryz.underlying117 ymY (yb1 hs),?_⟩
  intro w5 A5 _
  exact ⟨congrArg Value.bool (decide_eq_decide.2 ⟨fun h => ⟨by omega,h⟩,fun h => h.2⟩),A3.mod.go0 A5.mod (by simp)⟩
 ·intro w6 A6 _
  exact ⟨congrArg Value.bool (decide_eq_false (by omega)).symm,A6.mod⟩
end Go.Proofs.YtkepmmocldnnfaaGreat
namespace Go.Proofs.YtkepmmocldnnfaaGreat
open Go Go.RowKit Go.Maps Go.MapKept
open Go.ChangeMaps (setBlock)
set_option linter.unusedVariables false
set_option linter.unusedSimpArgs false
section
variable {κ β:Type} [DecidableEq κ]
theorem yg8:∀ {L:List (κ × β)} {p:κ × β},p ∈ L → (L.map (·.1)).Nodup → L.Perm (p :: yeE L p.1)
 | q :: r,p,hp,hn => by
  rw [List.map_cons,List.nodup_cons] at hn
  unfold yeE
  rcases List.mem_cons.1 hp with rfl | hp
  ·rw [List.filter_cons_of_neg (by simp)]
   have:r.filter (fun x => decide (x.1 ≠ p.1)) = r:=List.filter_eq_self.2 fun x hx => by
    have:x.1 ≠ p.1:=fun e => hn.1 (e ▸ List.mem_map.2 ⟨x,hx,rfl⟩)
    simp [this]
   rw [this]
  ·have hne:q.1 ≠ p.1:=fun e => hn.1 (e ▸ List.mem_map.2 ⟨p,hp,rfl⟩)
   rw [List.filter_cons_of_pos (by simp [hne])]
   exact (List.Perm.cons q (yg8 hp hn.2)).trans (List.Perm.swap ..)
theorem yeN {L:List (κ × β)} {k:κ} (h:(L.map (·.1)).Nodup):((yeE L k).map (·.1)).Nodup:=h.sublist (List.Sublist.map _ (List.filter_sublist (l:=L)))
theorem ydE {L:List (κ × β)} {k:κ} {q:κ × β}:q ∈ yeE L k ↔ q ∈ L ∧ q.1 ≠ k:=by simp [yeE]
theorem yjW {L:List (κ × β)} {k:κ} {v:β} (hn:(L.map (·.1)).Nodup) (hk:k ∈ L.map (·.1)):put L k v = L.map fun q => if q.1 = k then (k,v) else q:=by
 induction L with
 | nil => simp at hk
 | cons p r ih =>
  rw [List.map_cons,List.nodup_cons] at hn
  unfold put
  by_cases e:p.1 = k
  ·rw [if_pos e,List.map_cons,if_pos e]
   have:(r.map fun q => if q.1 = k then (k,v) else q) = r.map id:=List.map_congr_left fun q hq => by
    have:q.1 ≠ k:=fun e' => hn.1 (by rw [e,← e']; exact List.mem_map.2 ⟨q,hq,rfl⟩)
    simp [this]
   rw [this,List.map_id]
  ·rw [if_neg e,List.map_cons,if_neg e,ih hn.2]
   rw [List.map_cons] at hk
   rcases List.mem_cons.1 hk with h | h
   ·exact absurd h.symm e
   ·exact h
theorem yjX {L:List (κ × β)} (hn:(L.map (·.1)).Nodup) {p q:κ × β} (hp:p ∈ L) (hq:q ∈ L) (e:p.1 = q.1):p = q:=by
 have h1:=yc8 hn hp
 have h2:=yc8 hn hq
 rw [e,h2] at h1
 exact Prod.ext e (Option.some.inj h1).symm
end
theorem yaX.keyedP {κ β:Type} [DecidableEq κ] {P:Program} {t:TypeId} {ek:κ → Value} {ev:β → Value} {w:World} {b:Nat} {L:List (κ × β)} (h:yaX P t ek ev w b L):∀ p ∈ L,∃ l,keyOf P t (ek p.1) = some l:=by
 obtain ⟨es,clock,h1,h2,h3,h4⟩:=h
 exact h3
structure PMark where
 g:ByteArray
 p:PPart
 off:Int
 deriving DecidableEq
def PMark.v (m:PMark):Value:=.agg #[.string m.g,.string m.p.t,.int .i64 m.p.n,.int .i64 m.off]
abbrev yLY:=ByteArray × PPart
abbrev OL:=List (yLY × Int)
def yhJ (w:World) (b:Nat) (L:OL) (F:List Nat):Prop:=∃ m,w.heap[b]? = some (.cells #[.map (some m)] 125) ∧ yaX pP 216 hko hki w m L ∧ F = [b,m]
theorem yhJ.lt {w:World} {b:Nat} {L:OL} {F:List Nat} (h:yhJ w b L F):∀ k ∈ F,k < w.heap.size:=by
 obtain ⟨m,hc,hm,rfl⟩:=h
 intro k hk; simp at hk
 rcases hk with rfl | rfl
 ·exact yaL hc
 ·exact hm.lt
theorem yhJ.keep {w w':World} {b:Nat} {L:OL} {F S:List Nat} (h:yhJ w b L F) (M:Mod S w w') (hS:∀ k ∈ S,k ∉ F):yhJ w' b L F:=by
 obtain ⟨m,hc,hm,rfl⟩:=h
 exact ⟨m,M.keep hc (fun hb => hS b hb (by simp)),hm.keepM M (fun hb => hS m hb (by simp)),rfl⟩
theorem yhJ.keep0 {w w':World} {b:Nat} {L:OL} {F:List Nat} (h:yhJ w b L F) (M:Mod [] w w'):yhJ w' b L F:=h.keep M (by simp)
theorem yCI (w:World):Calls pP 36 #[] w fun e w' => ∃ v,e = .returned v ∧ ∃ b F,v = .pointer (some ⟨b,0,none⟩) ∧ yhJ w' b [] F ∧ (∀ k ∈ F,w.heap.size ≤ k) ∧ Mod [] w w':=by
 refine yFx ?_
 refine ybH fun b4 w5 c5 M5 f5 => ?_
 have s5:=M5.size
 intro b6 f6 w7 A7 h7
 exact ⟨b6,_,rfl,⟨b4,h7,yaX.of_new (A7.mod.keep0 c5),rfl⟩,by simp; omega,M5.go0 A7.mod (by simp)⟩
theorem yCJ (n:Int) (w:World):Calls pP 161 #[.int .i64 n] w fun e w' => e = .returned (.bool (num n)) ∧ w' = w :=
 ya2 (yKN (yaH (fun h => ⟨by simp [num]; omega,rfl⟩) (fun h => ⟨by simp [num]; omega,rfl⟩)))
def yfC (m:PMark):Bool:=ycW m.g && ycW m.p.t && num m.p.n && num m.off
theorem yG9 (m:PMark) (w:World):Calls pP 137 #[m.v] w fun e w' => e = .returned (.bool (yfC m)) ∧ Mod [] w w':=by
 refine ya2 (yKO ?_)
 intro b2 f2 w12 A12
 refine (yh1 m.g w12).mono ?_
 rintro _ w13 ⟨rfl,M13⟩
 have N13:=A12.mod.go0 M13 (by simp)
 refine ⟨_,rfl,yaG.of0 M13,yaD (fun g1 => ?_) fun g1 => ⟨by simp [yfC,g1],N13⟩⟩
 refine (yh1 m.p.t w13).mono ?_
 rintro _ w15 ⟨rfl,M15⟩
 have N15:=N13.go0 M15 (by simp)
 refine ⟨_,rfl,yaG.of0 M15,yaD (fun g2 => ?_) fun g2 => ⟨by simp [yfC,g2],N15⟩⟩
 refine (yCJ m.p.n w15).mono ?_
 rintro _ w17 ⟨rfl,rfl⟩
 refine ⟨_,rfl,yaG.of0 (Mod.refl _),yaD (fun g3 => ?_) fun g3 => ⟨by simp [yfC,g3],N15⟩⟩
 refine (yCJ m.off w17).mono ?_
 rintro _ w19 ⟨rfl,rfl⟩
 exact ⟨_,rfl,yaG.of0 (Mod.refl _),by simp [yfC,g1,g2,g3],N15⟩
def yqG (L:OL) (m:PMark):Int:=if yfC m = false then 1 else if (lkp L (m.g,m.p)).getD 0 > m.off then 120 else 0
theorem yeX {n:Int} (h:num n = true):s64 n:=by simp [num] at h; unfold s64; omega
theorem yCK {w:World} {b:Nat} {L:OL} {F:List Nat} (h:yhJ w b L F) (m:PMark) :
  Calls pP 82 #[.pointer (some ⟨b,0,none⟩),m.v] w fun e w' => e = .returned (.int .i64 (yqG L m)) ∧ yhJ w' b (if yqG L m = 0 then put L (m.g,m.p) m.off else L) F ∧ Mod F w w':=by
 obtain ⟨mb,hc,hm,rfl⟩:=id h
 have hmb:mb ≠ b:=by rintro rfl; exact hm.notCells hc
 have lb:=yaL hc
 have lm:=hm.lt
 refine ya2 (yKP hc ?_)
 intro b2 f2 b4 f4 w8 A8
 refine (yG9 m w8).mono ?_
 rintro _ w9 ⟨rfl,M9⟩
 have N9:=A8.mod.go0 M9 (by simp)
 refine ⟨_,rfl,yaG.of0 M9,yaD (fun g => ?_) fun g => ?_⟩
 ·have g:yfC m = false:=by simpa using g
  intro w11 A11 _
  have N:=N9.go0 A11.mod (by simp)
  rw [yqG,if_pos g,if_neg (by decide)]
  exact ⟨rfl,h.keep0 N,N.less (by simp)⟩
 have g':yfC m = true:=by simpa using g
 have g:¬ yfC m = false:=by simp [g']
 have gs:m.g.size ≤ 16 ∧ m.p.t.size ≤ 16 ∧ s64 m.p.n:=by
  simp only [yfC,Bool.and_eq_true] at g'
  exact ⟨yeM g'.1.1.1,yeM g'.1.1.2,yeX g'.1.2⟩
 obtain ⟨l,hkey⟩:=yCq (k:=(m.g,m.p)) (by unfold maxLen; simp only; omega) (by unfold maxLen; simp only; omega) gs.2.2
 refine ⟨_,(hm.keepM0 N9).lkF (k:=(m.g,m.p)) yEG ymS Tryz.underlying123 ymY hkey,?_⟩
 refine yaH (fun g2 => ?_) fun g2 => ?_
 ·intro w13 A13 _
  have N:=N9.go0 A13.mod (by simp)
  rw [yqG,if_neg g,if_pos g2,if_neg (by decide)]
  exact ⟨rfl,h.keep0 N,N.less (by simp)⟩
 intro w14 A14
 have N14:=N9.go0 A14.mod (by simp)
 refine (hm.keepM0 N14).setU (k:=(m.g,m.p)) yEG ymS Tryz.underlying123 (v:=m.off) hkey (by simp; omega) fun w' hm' M' => ?_
 intro w16 A16 h16
 have e:yqG L m = 0:=by rw [yqG,if_neg g,if_neg g2]
 rw [e,if_pos rfl]
 exact ⟨rfl,⟨mb,h16,hm'.keepM0 A16.mod,rfl⟩,((N14.trans M').trans A16.mod).less (by simp)⟩
theorem yCL {w:World} {b:Nat} {L:OL} {F:List Nat} (h:yhJ w b L F) {g:ByteArray} {p:PPart} (h1:g.size ≤ maxLen) (h2:p.t.size ≤ maxLen) (h3:s64 p.n) :
  Calls pP 74 #[.pointer (some ⟨b,0,none⟩),.string g,p.v] w fun e w' => e = .returned (.tuple #[.int .i64 ((lkp L (g,p)).getD 0),.bool (lkp L (g,p)).isSome]) ∧ Mod [] w w':=by
 obtain ⟨mb,hc,hm,rfl⟩:=id h
 refine ya2 (yKQ hc ?_)
 intro b2 f2 w3 A3
 obtain ⟨l,hkey⟩:=yCq (k:=(g,p)) h1 h2 h3
 refine ⟨_,_,(hm.keepM0 A3.mod).lkT (k:=(g,p)) yEG ymS Tryz.underlying123 ymY hkey,?_⟩
 intro w6 A6 _
 exact ⟨rfl,A3.mod.go0 A6.mod (by simp)⟩
def yzL (p:PPart) (least:Int) (q:yLY × Int):Bool:=decide (q.1.2 = p ∧ q.2 < least)
open Classical in
noncomputable def raiseL (L left:OL) (p:PPart) (least:Int):OL:=L.map fun q => if yzL p least q = true ∧ q ∉ left then (q.1,least) else q
def yo4 (L:OL) (p:PPart) (least:Int):OL:=if least > 1099511627776 then L else L.map fun q => if yzL p least q = true then (q.1,least) else q
theorem yh6 (L left:OL) (p:PPart) (least:Int):(raiseL L left p least).map (·.1) = L.map (·.1):=by
 rw [raiseL,List.map_map]
 exact List.map_congr_left fun q _ => by simp only [Function.comp_apply]; split <;> rfl
theorem yvJ {L left:OL} {p:PPart} {least:Int} (hn:(L.map (·.1)).Nodup) (hsub:∀ q ∈ left,q ∈ L) {x:yLY × Int} (hx:x ∈ left) :
  raiseL L (yeE left x.1) p least = if yzL p least x = true then put (raiseL L left p least) x.1 least else raiseL L left p least:=by
 have hxL:=hsub x hx
 have key:∀ q ∈ L,(q ∉ yeE left x.1 ↔ q ∉ left ∨ q = x):=fun q hq => by
  rw [ydE]
  constructor
  ·intro h
   by_cases hl:q ∈ left
   ·right
    exact yjX hn hq hxL (by by_cases e:q.1 = x.1; exact e; exact absurd ⟨hl,e⟩ h)
   ·exact .inl hl
  ·rintro (h | rfl)
   ·exact fun h' => h h'.1
   ·exact fun h' => h'.2 rfl
 split
 ·rename_i g
  rw [yjW (by rw [yh6]; exact hn) (by rw [yh6]; exact List.mem_map.2 ⟨x,hxL,rfl⟩)]
  rw [raiseL,raiseL,List.map_map]
  refine List.map_congr_left fun q hq => ?_
  simp only [Function.comp_apply]
  by_cases e:q = x
  ·subst e
   rw [if_pos ⟨g,(key q hq).2 (.inr rfl)⟩]
   split <;> simp
  ·have e1:q.1 ≠ x.1:=fun h => e (yjX hn hq hxL h)
   by_cases c:yzL p least q = true ∧ q ∉ left
   ·rw [if_pos ⟨c.1,(key q hq).2 (.inl c.2)⟩,if_pos c,if_neg e1]
   ·rw [if_neg (fun h => c ⟨h.1,((key q hq).1 h.2).resolve_right e⟩),if_neg c,if_neg e1]
 ·rename_i g
  rw [raiseL,raiseL]
  refine List.map_congr_left fun q hq => ?_
  by_cases c:yzL p least q = true ∧ q ∉ left
  ·rw [if_pos ⟨c.1,(key q hq).2 (.inl c.2)⟩,if_pos c]
  ·rw [if_neg (fun h => c ⟨h.1,((key q hq).1 h.2).resolve_right fun e => g (e ▸ h.1)⟩),if_neg c]
open Classical in
set_option maxHeartbeats 1000000 in
theorem yvK {w:World} {b:Nat} {L:OL} {F:List Nat} (h:yhJ w b L F) (hl:L.length ≤ 1000000) (p:PPart) (least:Int) :
  Calls pP 72 #[.pointer (some ⟨b,0,none⟩),p.v,.int .i64 least] w fun e w' => ∃ v,e = .returned v ∧ ∃ n:Int,v = .int .i64 n ∧ yhJ w' b (yo4 L p least) F ∧ Mod F w w':=by
 obtain ⟨mb,hc,hm,rfl⟩:=id h
 have hmb:mb ≠ b:=by rintro rfl; exact hm.notCells hc
 have lb:=yaL hc
 have lm:=hm.lt
 have hn:=hm.nodup
 refine yKT hc ?_
 intro b2 f2
 refine yaH (fun g => ?_) fun g => ?_
 ·intro w3 A3 _
  rw [yo4,if_pos g]
  exact ⟨0,rfl,h.keep0 A3.mod,A3.mod.less (by simp)⟩
 intro w7 A7
 have s7:=A7.mod.size
 have l2:=A7.lt b2 (by simp)
 obtain ⟨w9,h9,M9,I9⟩:=yb3.start (T:=123) (hm.keepM0 A7.mod) Tryz.underlying123
 have s9:=M9.size
 refine ⟨_,w9,h9,yaG.of0 M9,?_⟩
 generalize hr:w7.heap.size = r at I9 ⊢
 have N9:=A7.mod.go0 M9 (by simp)
 refine yCG (fun mm x w' => ∃ left:OL,yb3 pP 216 hko hki w' r mb (raiseL L left p least) left ∧ (∀ q ∈ left,q ∈ L) ∧ (left.map (·.1)).Nodup ∧ 0 ≤ x ∧ x + left.length ≤ L.length ∧ Mod [mb] w w' ∧ r < w'.heap.size ∧ mm = left.length) L.length
  ⟨L,by rw [show raiseL L L p least = L by
   rw [raiseL]
   have:(L.map fun q => if yzL p least q = true ∧ q ∉ L then (q.1,least) else q) = L.map id:=List.map_congr_left fun q hq => by rw [if_neg (fun hh => hh.2 hq)]; rfl
   rw [this,List.map_id]]; exact I9,fun q hq => hq,hn,by omega,by omega,N9.less (by simp),by
    obtain ⟨es,clock,since,seen,c0,h1,_⟩:=I9
    exact (Array.getElem?_eq_some_iff.1 h1).1,rfl⟩ ?_
 rintro mm x w1 ⟨left,I1,hsub,hnd,hx0,hx1,N1,lr,rfl⟩
 rcases I1.step (ty:=0) ymS with ⟨hl0,hs⟩ | ⟨q,hq,w4',hs,M4',I4,hen⟩
 ·subst hl0
  refine .inl ⟨_,hs,yaG.of0 (Mod.refl _),?_⟩
  intro w16 A16 h16
  have M16:=A16.mod
  refine ⟨x,rfl,?_,(N1.trans M16).less (by simp)⟩
  rw [yo4,if_neg g]
  have:raiseL L [] p least = L.map fun q => if yzL p least q = true then (q.1,least) else q:=by
   rw [raiseL]; exact List.map_congr_left fun q _ => by simp
  rw [this] at I1
  exact ⟨mb,h16,I1.map.keepM0 M16,rfl⟩
 ·have hqL:=hsub q hq
  have hqk:∃ l,keyOf pP 216 (hko q.1) = some l:=hm.keyedP q hqL
  obtain ⟨l,hkey⟩:=hqk
  have s4:=M4'.size
  refine .inr ⟨_,_,w4',hs,yaG.of M4' (by simp; omega),_,_,_,_,w4',hen w4' (Mod.refl _),yaG.of0 (Mod.refl _),?_⟩
  intro b30 f30 w33 A33
  have l30:=A33.lt b30 (by simp)
  have s33:=A33.mod.size
  refine ⟨_,fun w' _ => yLr q.1.2 p _ _ w',?_⟩
  have I33:=I4.keep A33.mod (by simp) (by simp)
  have N33:Mod [mb] w w33:=((N1.trans M4').trans A33.mod).less fun z hz hz' => by simp at hz ⊢; omega
  have hlen:(yeE left q.1).length + 1 = left.length:=by
   have:=(yg8 hq hnd).length_eq; simpa using this.symm
  have hstep:=yvJ (p:=p) (least:=least) hn hsub hq
  have hsub':∀ z ∈ yeE left q.1,z ∈ L:=fun z hz => hsub z (ydE.1 hz).1
  refine yaH (fun g1 => ?_) fun g1 => ?_
  ·refine yaH (fun g2 => ?_) fun g2 => ?_
   ·intro w35 A35
    have I35:=I33.keep A35.mod (by simp) (by simp)
    have hlow:yzL p least q = true:=by simp [yzL]; exact ⟨g1,g2⟩
    have hlk:∃ v0,lkp (raiseL L left p least) q.1 = some v0:=by
     cases hh:lkp (raiseL L left p least) q.1 with
     | some v0 => exact ⟨v0,rfl⟩
     | none =>
      have:q.1 ∈ (raiseL L left p least).map (·.1):=by rw [yh6]; exact List.mem_map.2 ⟨q,hqL,rfl⟩
      obtain ⟨z,hz,hzk⟩:=List.mem_map.1 this
      exact absurd hzk (yfW.1 hh z hz)
    obtain ⟨v0,hv0⟩:=hlk
    obtain ⟨o,ho1,ho2⟩:=I35.update yEG ymS Tryz.underlying123 least hkey hv0 (fun z hz => (ydE.1 hz).2)
    refine ⟨_,ho1,yaG.of ycB (by simp; omega),?_⟩
    have e1:IntKind.wrap .i64 (x + 1) = x + 1:=yaJ (by omega) (by omega)
    rw [e1]
    refine ymX (yeE left q.1).length (by omega) ⟨yeE left q.1,?_,hsub',yeN hnd,by omega,by omega,((N33.trans A35.mod).trans ycB).less fun z hz _ => by simpa using hz,?_,rfl⟩
    ·rw [hstep,if_pos hlow]; exact ho2
    ·have:=A35.mod.size; simp [setBlock]; omega
   ·have hlow:¬ yzL p least q = true:=by simp [yzL]; intro _; omega
    refine ymX (yeE left q.1).length (by omega) ⟨yeE left q.1,?_,hsub',yeN hnd,by omega,by omega,N33,by omega,rfl⟩
    rw [hstep,if_neg hlow]; exact I33
  ·have hlow:¬ yzL p least q = true:=by simp [yzL]; intro hh; exact absurd hh g1
   refine ymX (yeE left q.1).length (by omega) ⟨yeE left q.1,?_,hsub',yeN hnd,by omega,by omega,N33,by omega,rfl⟩
   rw [hstep,if_neg hlow]; exact I33
end Go.Proofs.YtkepmmocldnnfaaGreat
namespace Go.Proofs.YtkepmmocldnnfaaGreat
open Go Go.RowKit
set_option linter.all false
section
set_option maxRecDepth 100000
variable {R:VWP} {w w0:World} {m:Nat} {i0 i1 i2 i3 i4 i5 i6 i7 i8 i9 j0 j1 j2 j3 j4 j5 j6 j7 j8 j9 k0 k1 k2 k3 k4 k5 k6 k7 k8 k9 l0 l1 l2 l3 l4 l5 l6 l7 l8 l9:Int} {s0 s1 s2 s3 s4 s5 s6 s7 s8 s9 t0 t1 t2 t3 t4 t5 t6 t7 t8 t9:BA} {n0 n1 n2 n3 n4 n5 n6 n7 n8 n9 o0 o1 o2 o3 o4 o5 o6 o7 o8 o9 p0 p1 p2 p3 p4 p5 p6 p7 p8 p9:Nat} {q0 q1 q2 q3 q4 q5 q6 q7 q8 q9 r0 r1 r2 r3 r4 r5 r6 r7 r8 r9:OA} {B0 B1 B2 B3 B4 B5 B6 B7 B8 B9:Bool} {M0 M1 M2 M3:Option Nat} {V0 V1 V2 V3 V4 V5:Value} {A0 A1 A2:Addr}
theorem yKU {a1:OA} (h :
 brB ((n0:Int) == 0) (
 R (.int .i64 0) w)
 (
 ixA a1 n0 (IntKind.wrap .i64 ((n0:Int) - 1)) 3 fun q6 =>
 yaA .i64 w q6 fun x7 => yaA .i64 w (Addr.add q6 1) fun x8 => yaA .i64 w (Addr.add q6 2) fun x9 =>
 ∀ a3,w.heap.size ≤ a3 →
 ∀ a4,Adv [] [a3] w a4 →
 R (.int .i64 (IntKind.wrap .i64 (x7 + x8))) a4)) :
 CR pP 108 #[.slice a1 n0 n1] w R :=
 yaB Tryz.wide_mixed (an:=[]) Tryz.func108 rfl rfl (by kernel_rfl) rfl (Eq.mpr (by kernel_rfl) h)
theorem yKV (h :
 brB (decide (i0 ≥ 0)) (
 R (.bool (decide (i0 ≤ 1099511627776))) w)
 (
 R (.bool false) w)) :
 CR pP 115 #[.int .i64 i0] w R :=
 yaB Tryz.wide_mixed (an:=[]) Tryz.func115 rfl rfl (by kernel_rfl) rfl (Eq.mpr (by kernel_rfl) h)
theorem yKW {b0:Nat} {o0_n o0_c:Nat} (hb:w.heap[b0]? = some (.cells #[.slice q0 o0_n o0_c,(.map M0)] 122)) (h :
 brB (decide (i0 ≥ 1)) (
 ∀ w1,Adv [] [] w w1 → w1.heap[b0]? = some (.cells #[.slice q0 o0_n o0_c,(.map M0)] 122) →
 R (.bool (decide (i0 ≤ (o0_n:Int)))) w1)
 (
 ∀ w2,Adv [] [] w w2 → w2.heap[b0]? = some (.cells #[.slice q0 o0_n o0_c,(.map M0)] 122) →
 R (.bool false) w2)) :
 CR pP 102 #[(.pointer (some ⟨b0,0,none⟩)),.int .i64 i0] w R :=
 yaO Tryz.wide_mixed (an:=[]) Tryz.func102 rfl rfl (by kernel_rfl) rfl hb (Eq.mpr (by kernel_rfl) h)
def yqH:LA:=⟨[0,0,1,0,1,1,1,1],[0,1,64],[(0,0,0)],1,[0]⟩
def yx1:List LA:=[yqH]
abbrev yHa:=dnF pP yx1 (code Tryz.f64)
abbrev yMX:=ya0 pP yx1 (code Tryz.f64)
abbrev yHb (p:List Nat) (K:List Kh) (R:VWP):=ya0 pP yx1 (code Tryz.f64) p K (ybO pP Tryz.f64 [0] R)
def ykS (a5:Int) (a4:Addr) (bm0:Nat) (a0:OA) (a3 a1:Nat) (a2:Option Nat):Unit → List Value × List TB:=fun _ => ([(.pointer (some ⟨bm0,0,none⟩)),.int .i64 a5,(.pointer (some a4))],[⟨bm0,122,[.slice a0 a3 a1,(.map a2)],true⟩])
abbrev yCM (a5:Int) (a4:Addr) (bm0:Nat) (a0:OA) (a3 a1:Nat) (a2:Option Nat) (I:Nat → World → Prop) (m:Nat):Kh:=KG (ykS a5 a4 bm0 a0 a3 a1 a2) (U0 I) m
theorem ytA {I:Nat → World → Prop} (m':Nat) (h1:m' < m) (h2:I m' w):KS (yCM i0 A0 n0 q0 n1 n2 M0 I m) (ykS i0 A0 n0 q0 n1 n2 M0 ()) w:=⟨m',h1,_,rfl,rfl,h2⟩
theorem yCN (I:Nat → World → Prop) (m0:Nat) (h0:I m0 w0)
 (hr:∀ m w,I m w →
 w.heap[n0]? = some (.cells #[.slice q0 n1 n2,(.map M0)] 122) →
 yAP pP (.pointer (some A0)) 0 w (fun a9 => yaG [n0] w a9 ∧
 ixA q0 n1 (IntKind.wrap .i64 (i0 - 1)) 1 fun b7 =>
 yaA .i64 a9 b7 fun b9 =>
 ∀ b1,Adv [] [] a9 b1 → b1.heap[n0]? = some (.cells #[.slice q0 n1 n2,(.map M0)] 122) →
 R (.tuple (Z14 i0 b9 0)) b1)
 (fun c0 c1 b0 => yaG [n0] w b0 ∧
 ∃ b3 b4 b6 b8,∃ a6,(Instr.entry (.pointer (some A0))).run pP b0 = .ok (.tuple #[(.agg (Z18 b3 b4 b6)),b8]) a6 ∧ yaG [n0] b0 a6 ∧
 ∀ a7,a6.heap.size ≤ a7 →
 brB (b3 == i0) (
 ∀ a8,Adv [] [a7] a6 a8 → a8.heap[n0]? = some (.cells #[.slice q0 n1 n2,(.map M0)] 122) →
 yFc pP (Builtin.delete_ #[120,197] 0 #[(.map M0),(.agg (Z18 b3 b4 b6))]) a8 fun c2 b5 => yaG [n0,a7] a8 b5 ∧
 KS (yCM i0 A0 n0 q0 n1 n2 M0 I m) (ykS i0 A0 n0 q0 n1 n2 M0 ()) b5)
 (
 ∀ b2,Adv [] [a7] a6 b2 → b2.heap[n0]? = some (.cells #[.slice q0 n1 n2,(.map M0)] 122) →
 KS (yCM i0 A0 n0 q0 n1 n2 M0 I m) (ykS i0 A0 n0 q0 n1 n2 M0 ()) b2))) :
 yaU yqH (yHa 394 [0,0,1,0,1,1,1,1]) (yHb [1,1,1,1,0,1,0] [] R) (ykS i0 A0 n0 q0 n1 n2 M0 ()) w0 :=
 lrule (ykS i0 A0 n0 q0 n1 n2 M0) (U0 I) h0 (by rintro m _ w h; exact ⟨by kernel_rfl,by kernel_rfl,fun js => Eq.mpr (by kernel_rfl) (hr m w h)⟩)
theorem yKX {b0:Nat} {o0_n o0_c:Nat} (hb:w.heap[b0]? = some (.cells #[.slice q0 o0_n o0_c,(.map M0)] 122)) (h :
 brB (i0 == 0) (
 brB (decide ((o0_n:Int) ≥ 32)) (
 ∀ w1,Adv [] [] w w1 → w1.heap[b0]? = some (.cells #[.slice q0 o0_n o0_c,(.map M0)] 122) →
 R (.tuple (Z14 0 0 2)) w1)
 (
 brB (i0 == 0) (
 al w (.cells #[.int .i64 0] 3) fun b8 w9 =>
 ybN pP (Builtin.append_ #[24,24] 24 #[.slice q0 o0_n o0_c,(.slice (some ⟨b8,0,none⟩) 1 1)]) w9 fun d7 c2 e0 c6 => yaG [b0] w9 c6 ∧
 ∀ b5,Adv [b0] [] c6 b5 → b5.heap[b0]? = some (.cells #[.slice d7 c2 e0,(.map M0)] 122) →
 R (.tuple (Z14 (c2:Int) 0 0)) b5)
 (
 ∀ b6,Adv [] [] w b6 → b6.heap[b0]? = some (.cells #[.slice q0 o0_n o0_c,(.map M0)] 122) →
 Calls pP 102 #[(.pointer (some ⟨b0,0,none⟩)),.int .i64 i0] b6 fun e a2 => ∃ c5,e = .returned (.bool c5) ∧ ∃ a7 a8 e1,∃ m28:Option Nat,a2.heap[b0]? = some (.cells #[.slice a7 a8 e1,(.map m28)] 122) ∧
 brB (!c5) (
 R (.tuple (Z14 0 0 80)) a2)
 (
 ixA a7 a8 (IntKind.wrap .i64 (i0 - 1)) 1 fun e3 =>
 yaA .i64 a2 e3 fun e7 =>
 brB (decide (e7 ≥ 1099511627776)) (
 R (.tuple (Z14 0 0 2)) a2)
 (
 ixA a7 a8 (IntKind.wrap .i64 (i0 - 1)) 1 fun e4 =>
 yaA .i64 a2 e4 fun e8 =>
 ixA a7 a8 (IntKind.wrap .i64 (i0 - 1)) 1 fun e5 =>
 st a2 e5 [(.int .i64 (IntKind.wrap .i64 (e8 + 1)))] fun b7 => ∃ c0 c3 c1,∃ m48:Option Nat,b7.heap[b0]? = some (.cells #[.slice c0 c3 c1,(.map m48)] 122) ∧
 yn0 pP (Instr.range 120 (.map m48)) b7 fun e6 c7 => yaG [b0] b7 c7 ∧
 yaU yqH (yHa 394 [0,0,1,0,1,1,1,1]) (yHb [1,1,1,1,0,1,0] [] R) (ykS i0 e6 b0 c0 c3 c1 m48 ()) c7)))))
 (
 brB (i0 == 0) (
 al w (.cells #[.int .i64 0] 3) fun d9 c8 =>
 ybN pP (Builtin.append_ #[24,24] 24 #[.slice q0 o0_n o0_c,(.slice (some ⟨d9,0,none⟩) 1 1)]) c8 fun d8 c4 e2 c9 => yaG [b0] c8 c9 ∧
 ∀ b9,Adv [b0] [] c9 b9 → b9.heap[b0]? = some (.cells #[.slice d8 c4 e2,(.map M0)] 122) →
 R (.tuple (Z14 (c4:Int) 0 0)) b9)
 (
 ∀ a5,Adv [] [] w a5 → a5.heap[b0]? = some (.cells #[.slice q0 o0_n o0_c,(.map M0)] 122) →
 Calls pP 102 #[(.pointer (some ⟨b0,0,none⟩)),.int .i64 i0] a5 fun e a1 => ∃ b3,e = .returned (.bool b3) ∧ ∃ a3 a4 d0,∃ m106:Option Nat,a1.heap[b0]? = some (.cells #[.slice a3 a4 d0,(.map m106)] 122) ∧
 brB (!b3) (
 R (.tuple (Z14 0 0 80)) a1)
 (
 ixA a3 a4 (IntKind.wrap .i64 (i0 - 1)) 1 fun d1 =>
 yaA .i64 a1 d1 fun d5 =>
 brB (decide (d5 ≥ 1099511627776)) (
 R (.tuple (Z14 0 0 2)) a1)
 (
 ixA a3 a4 (IntKind.wrap .i64 (i0 - 1)) 1 fun d2 =>
 yaA .i64 a1 d2 fun d6 =>
 ixA a3 a4 (IntKind.wrap .i64 (i0 - 1)) 1 fun d3 =>
 st a1 d3 [(.int .i64 (IntKind.wrap .i64 (d6 + 1)))] fun a6 => ∃ a9 b2 b1,∃ m126:Option Nat,a6.heap[b0]? = some (.cells #[.slice a9 b2 b1,(.map m126)] 122) ∧
 yn0 pP (Instr.range 120 (.map m126)) a6 fun d4 b4 => yaG [b0] a6 b4 ∧
 yaU yqH (yHa 394 [0,0,1,0,1,1,1,1]) (yHb [1,1,1,1,0,1,0] [] R) (ykS i0 d4 b0 a9 b2 b1 m126 ()) b4))))) :
 CR pP 64 #[(.pointer (some ⟨b0,0,none⟩)),.int .i64 i0] w R :=
 yaO Tryz.wide_mixed (an:=yx1) Tryz.func64 rfl rfl (by kernel_rfl) rfl hb (Eq.mpr (by kernel_rfl) h)
theorem yKY {b0:Nat} {o0_n o0_c:Nat} {a5 a4:Nat} (hb:w.heap[b0]? = some (.cells #[.slice q0 o0_n o0_c,(.map M0)] 122)) (h :
 ∀ b3,w.heap.size ≤ b3 →
 ∀ b4,w.heap.size ≤ b4 →
 brB (i1 == 0) (
 ∀ w5,Adv [] [b4,b3] w w5 → w5.heap[b0]? = some (.cells #[.slice q0 o0_n o0_c,(.map M0)] 122) →
 R (.tuple (Z15 0 false 0)) w5)
 (
 ∀ b9,Adv [] [b4,b3] w b9 → b9.heap[b0]? = some (.cells #[.slice q0 o0_n o0_c,(.map M0)] 122) →
 Calls pP 102 #[(.pointer (some ⟨b0,0,none⟩)),.int .i64 i1] b9 fun e a6 => ∃ d0,e = .returned (.bool d0) ∧ yb9 [b0] [(b3,26),(b4,29)] [b3,b4] b9 a6 ∧ ∃ a7 a8 b5,∃ m19:Option Nat,a6.heap[b0]? = some (.cells #[.slice a7 a8 b5,(.map m19)] 122) ∧
 brB (!d0) (
 R (.tuple (Z15 0 false 80)) a6)
 (
 ixA a7 a8 (IntKind.wrap .i64 (i1 - 1)) 1 fun d9 =>
 yaA .i64 a6 d9 fun d1 =>
 brB (decide (d1 > i2)) (
 ∀ c4,Adv [] [] a6 c4 → c4.heap[b0]? = some (.cells #[.slice a7 a8 b5,(.map m19)] 122) →
 R (.tuple (Z15 0 false 81)) c4)
 (
 brB (decide (d1 < i2)) (
 ∀ c5,Adv [] [] a6 c5 → c5.heap[b0]? = some (.cells #[.slice a7 a8 b5,(.map m19)] 122) →
 R (.tuple (Z15 0 false 80)) c5)
 (
 ∀ c0,Adv [] [] a6 c0 → c0.heap[b0]? = some (.cells #[.slice a7 a8 b5,(.map m19)] 122) →
 ∃ b7 b8 c3,(∀ w',Mod [] c0 w' → (Instr.lookup 120 (.map m19) (.agg (Z18 i1 s0 i0)) false).run pP w' = .ok (.slice b7 b8 c3) w') ∧
 ∀ c1,Adv [] [] c0 c1 → c1.heap[b0]? = some (.cells #[.slice a7 a8 b5,(.map m19)] 122) →
 Calls pP 108 #[.slice b7 b8 c3] c1 fun e c2 => ∃ d2,e = .returned (.int .i64 d2) ∧ yb9 [b0] [(b3,26),(b4,29)] [b3,b4] c1 c2 ∧ ∃ c7 c9 c8,∃ m34:Option Nat,c2.heap[b0]? = some (.cells #[.slice c7 c9 c8,(.map m34)] 122) ∧ (((.int .i64 i3):Value) = (.int .i64 i3)) ∧
 brB (i3 == d2) (
 R (.tuple (Z15 0 false 0)) c2)
 (
 ∀ b6,Adv [] [] c2 b6 → b6.heap[b0]? = some (.cells #[.slice c7 c9 c8,(.map m34)] 122) →
 b6.heap[b4]? = some (.cells (Z9 i1 i2 i3 q1 a5 a4) 29) →
 Calls pP 109 #[.slice b7 b8 c3,(.func (.func 110) #[] #[(.pointer (some ⟨b4,0,none⟩))])] b6 fun e a9 => ∃ c6,e = .returned (.int .i64 c6) ∧ yb9 [b0,b4] [(b3,26)] [b3] b6 a9 ∧ ∃ d3 d7 d5,∃ m54:Option Nat,a9.heap[b0]? = some (.cells #[.slice d3 d7 d5,(.map m54)] 122) ∧ ∃ e1 e2 e3 d4 d8 d6,a9.heap[b4]? = some (.cells (Z9 e1 e2 e3 d4 d8 d6) 29) ∧
 brB (decide (c6 < 0)) (
 R (.tuple (Z15 0 false 82)) a9)
 (
 ixA b7 b8 c6 3 fun e0 =>
 yaA .i64 a9 (Addr.add e0 2) fun e4 =>
 R (.tuple (Z15 e4 true 0)) a9))))))) :
 CR pP 66 #[(.pointer (some ⟨b0,0,none⟩)),(.agg #[.string s0,.int .i64 i0]),(.agg (Z9 i1 i2 i3 q1 a5 a4))] w R :=
 yaO Tryz.wide_mixed (an:=[]) Tryz.func66 rfl rfl (by kernel_rfl) rfl hb (Eq.mpr (by kernel_rfl) h)
theorem yKZ (h :
 ∀ b2,w.heap.size ≤ b2 →
 ∀ w8,Adv [] [b2] w w8 →
 yaA .i64 w8 (Addr.add A0 2) fun x9 =>
 brB (i0 == x9) (
 yaC w8 (Addr.add A0 3) fun a4 a3 a5 =>
 R (.bool (i1 == (a3:Int))) w8)
 (
 R (.bool false) w8)) :
 CR pP 110 #[(.agg (Z14 i0 i1 i2)),(.pointer (some A0))] w R :=
 yaB Tryz.wide_mixed (an:=[]) Tryz.func110 rfl rfl (by kernel_rfl) rfl (Eq.mpr (by kernel_rfl) h)
def yvL:LA:=⟨[0,0,1,0,1],[0,1,7,8],[],0,[]⟩
def yx2:List LA:=[yvL]
abbrev yK0:=dnF pP yx2 (code Tryz.f109)
abbrev yMY:=ya0 pP yx2 (code Tryz.f109)
abbrev yK1 (p:List Nat) (K:List Kh) (R:VWP):=ya0 pP yx2 (code Tryz.f109) p K (ybO pP Tryz.f109 [] R)
def yo5 (a1:OA) (a3 a2:Nat) (a0:Addr) (a4:Int):Int → List Value × List TB:=fun a5 => ([.slice a1 a3 a2,(.func (.func 110) #[] #[(.pointer (some a0))]),.int .i64 a4,.int .i64 a5],[])
abbrev yFX (a1:OA) (a3 a2:Nat) (a0:Addr) (a4:Int) (I:Nat → Int → World → Prop) (m:Nat):Kh:=KG (yo5 a1 a3 a2 a0 a4) (U1 I) m
theorem yCO {I:Nat → Int → World → Prop} (m':Nat) (h1:m' < m) (h2:I m' i1 w):KS (yFX q0 n0 n1 A0 i0 I m) (yo5 q0 n0 n1 A0 i0 i1) w:=⟨m',h1,_,rfl,rfl,h2⟩
theorem yCP {a2:OA} (I:Nat → Int → World → Prop) (m0:Nat) (h0:I m0 i1 w0)
 (hr:∀ m a1 w,I m a1 w →
 brB (decide (a1 < i0)) (
 ixA a2 n0 a1 3 fun q7 =>
 yaA .i64 w q7 fun x8 => yaA .i64 w (Addr.add q7 1) fun x9 => yaA .i64 w (Addr.add q7 2) fun a9 =>
 Calls pP 110 #[(.agg (Z14 x8 x9 a9)),(.pointer (some A0))] w fun e a8 => ∃ a7,e = .returned (.bool a7) ∧
 brB a7 (
 R (.int .i64 a1) a8)
 (
 KS (yFX a2 n0 n1 A0 i0 I m) (yo5 a2 n0 n1 A0 i0 (IntKind.wrap .i64 (a1 + 1))) a8))
 (
 R (.int .i64 (-1)) w)) :
 yaU yvL (yK0 397 [0,0,1,0,1]) (yK1 [1,0,1,0] [] R) (yo5 a2 n0 n1 A0 i0 i1) w0 :=
 lrule (yo5 a2 n0 n1 A0 i0) (U1 I) h0 (by rintro m a1 w h; exact ⟨by kernel_rfl,by kernel_rfl,fun js => Eq.mpr (by kernel_rfl) (hr m a1 w h)⟩)
theorem yK2 (h :
 yaU yvL (yK0 397 [0,0,1,0,1]) (yK1 [1,0,1,0] [] R) (yo5 q0 n0 n1 A0 (n0:Int) 0) w) :
 CR pP 109 #[.slice q0 n0 n1,(.func (.func 110) #[] #[(.pointer (some A0))])] w R :=
 yaB Tryz.wide_mixed (an:=yx2) Tryz.func109 rfl rfl (by kernel_rfl) rfl (Eq.mpr (by kernel_rfl) h)
theorem yK3 {b0:Nat} {o0_n o0_c:Nat} {a3 a7:Nat} (hb:w.heap[b0]? = some (.cells #[.slice q0 o0_n o0_c,(.map M0)] 122)) (h :
 ∀ b3,w.heap.size ≤ b3 →
 ∀ b4,w.heap.size ≤ b4 →
 ∀ b5,Adv [] [b4,b3] w b5 → b5.heap[b0]? = some (.cells #[.slice q0 o0_n o0_c,(.map M0)] 122) →
 Calls pP 66 #[(.pointer (some ⟨b0,0,none⟩)),(.agg #[.string s0,.int .i64 i0]),(.agg (Z9 i1 i2 i3 q1 a3 a7))] b5 fun e a8 => ∃ e7 d1 c3,e = .returned (.tuple (Z15 e7 d1 c3)) ∧ yb9 [b0] [(b3,26),(b4,29)] [b3,b4] b5 a8 ∧ ∃ d6 e4 e1,∃ m22:Option Nat,a8.heap[b0]? = some (.cells #[.slice d6 e4 e1,(.map m22)] 122) ∧
 brB (c3 != 0) (
 R (.int .i64 c3) a8)
 (
 brB d1 (
 R (.int .i64 82) a8)
 (
 brB ((a3:Int) == 0) (
 R (.int .i64 1) a8)
 (
 Calls pP 115 #[.int .i64 i4] a8 fun e b1 => ∃ d2,e = .returned (.bool d2) ∧ yb9 [b0] [(b3,26),(b4,29)] [b3,b4] a8 b1 ∧ ∃ b9 c1 c0,∃ m34:Option Nat,b1.heap[b0]? = some (.cells #[.slice b9 c1 c0,(.map m34)] 122) ∧
 brB (!d2) (
 R (.int .i64 1) b1)
 (
 brB (i1 == 0) (
 R (.int .i64 0) b1)
 (
 ∀ a9,b1.heap.size ≤ a9 →
 ∀ b6,Adv [] [a9] b1 b6 → b6.heap[b0]? = some (.cells #[.slice b9 c1 c0,(.map m34)] 122) →
 ∃ c4 c9 c6,(∀ w',Mod [] b6 w' → (Instr.lookup 120 (.map m34) (.agg (Z18 i1 s0 i0)) false).run pP w' = .ok (.slice c4 c9 c6) w') ∧
 al b6 (.cells (Z14 i3 (a3:Int) i4) 208) fun e0 d3 =>
 ybN pP (Builtin.append_ #[204,204] 204 #[.slice c4 c9 c6,(.slice (some ⟨e0,0,none⟩) 1 1)]) d3 fun d7 c2 c7 d4 => yaG [b0,b3,b4,a9] d3 d4 ∧
 slV d7 c7 (if (IntKind.wrap .i64 ((c2:Int) - 5)) > 0 then (IntKind.wrap .i64 ((c2:Int) - 5)) else 0) c2 c7 3 fun d8 e5 e2 =>
 ∀ b7,Adv [] [] d4 b7 → b7.heap[b0]? = some (.cells #[.slice b9 c1 c0,(.map m34)] 122) →
 Calls pP 116 #[.slice d8 e5 e2] b7 fun e b8 => ∃ c5 d0 c8,e = .returned (.slice c5 d0 c8) ∧ yb9 [b0] [(b3,26),(b4,29),(a9,197)] [b3,b4,a9] b7 b8 ∧ ∃ d9 e6 e3,∃ m58:Option Nat,b8.heap[b0]? = some (.cells #[.slice d9 e6 e3,(.map m58)] 122) ∧ (((.agg (Z18 i1 s0 i0)):Value) = (.agg (Z18 i1 s0 i0))) ∧ (((.map m58):Value) = (.map m34)) ∧
 yc7 pP (Instr.mapUpdate 120 (.map m34) (.agg (Z18 i1 s0 i0)) (.slice c5 d0 c8)) b8 fun d5 => yaG [b0,b3,b4,a9] b8 d5 ∧
 R (.int .i64 0) d5)))))) :
 CR pP 68 #[(.pointer (some ⟨b0,0,none⟩)),(.agg #[.string s0,.int .i64 i0]),(.agg (Z9 i1 i2 i3 q1 a3 a7)),.int .i64 i4] w R :=
 yaO Tryz.wide_mixed (an:=[]) Tryz.func68 rfl rfl (by kernel_rfl) rfl hb (Eq.mpr (by kernel_rfl) h)
theorem yK4 (h :
 brB (Option.isNone q0) (
 R (.slice none 0 0) w)
 (
 al w (.cells #[] 208) fun b7 w8 =>
 ybN pP (Builtin.append_ #[204,204] 204 #[(.slice (some ⟨b7,0,none⟩) 0 0),.slice q0 n0 n1]) w8 fun a3 a5 a4 w9 =>
 R (.slice a3 a5 a4) w9)) :
 CR pP 116 #[.slice q0 n0 n1] w R :=
 yaB Tryz.wide_mixed (an:=[]) Tryz.func116 rfl rfl (by kernel_rfl) rfl (Eq.mpr (by kernel_rfl) h)
end
end Go.Proofs.YtkepmmocldnnfaaGreat
namespace Go.Proofs.YtkepmmocldnnfaaGreat
open Go Go.RowKit Go.Maps Go.MapKept
open Go.ChangeMaps (setBlock)
set_option linter.unusedVariables false
set_option linter.unusedSimpArgs false
structure PDid where
 seq:Int
 n:Int
 off:Int
 deriving DecidableEq
def yvM (d:PDid):List Value:=[.int .i64 d.seq,.int .i64 d.n,.int .i64 d.off]
theorem ylJ (d:PDid):(yvM d).length = 3:=rfl
theorem yx3 (d:PDid):∀ u ∈ yvM d,u.oneCell' = true:=by simp [yvM,Value.oneCell']
structure DidV where
 s:Sl
 l:List PDid
def DidV.v (q:DidV):Value:=.slice q.s.a q.s.n q.s.c
abbrev ymZ:=Int × PPart
abbrev DL:=List (ymZ × DidV)
def ddL (L:DL):List (ymZ × List PDid):=L.map fun q => (q.1,q.2.l)
def yf6 (w:World) (b:Nat) (eps:List Int) (D:List (ymZ × List PDid)) (F:List Nat):Prop :=
 ∃ (sl:Sl) (m:Nat) (L:DL),w.heap[b]? = some (.cells #[.slice sl.a sl.n sl.c,.map (some m)] 122) ∧ Row w 0 3 1 yd4 sl.a sl.n sl.c eps ∧ yaX pP 197 hkd DidV.v w m L ∧
  (∀ q ∈ L,Row w 0 208 3 yvM q.2.s.a q.2.s.n q.2.s.c q.2.l) ∧ L.Pairwise (fun a b => ye1 (yaP a.2.s.a) (yaP b.2.s.a)) ∧ D = ddL L ∧ F = b :: m :: (yaP sl.a ++ L.flatMap fun q => yaP q.2.s.a)
theorem yf6.lt {w:World} {b:Nat} {eps:List Int} {D:List (ymZ × List PDid)} {F:List Nat} (h:yf6 w b eps D F):∀ k ∈ F,k < w.heap.size:=by
 obtain ⟨sl,m,L,hc,hR,hm,hD,hP,rfl,rfl⟩:=h
 intro k hk
 simp only [List.mem_cons,List.mem_append,List.mem_flatMap] at hk
 rcases hk with rfl | rfl | hk | ⟨q,hq,hk⟩
 ·exact yaL hc
 ·exact hm.lt
 ·exact (yaQ hR k hk).2
 ·exact (yaQ (hD q hq) k hk).2
theorem yf6.keep {w w':World} {b:Nat} {eps:List Int} {D:List (ymZ × List PDid)} {F S:List Nat} (h:yf6 w b eps D F) (M:Mod S w w') (hS:∀ k ∈ S,k ∉ F):yf6 w' b eps D F:=by
 obtain ⟨sl,m,L,hc,hR,hm,hD,hP,rfl,rfl⟩:=h
 refine ⟨sl,m,L,M.keep hc (fun hb => hS b hb (by simp)),yaE hR M (fun k hk hk' => hS k hk (by simp [hk'])),hm.keepM M (fun hb => hS m hb (by simp)),fun q hq => yaE (hD q hq) M fun k hk hk' => hS k hk ?_,hP,rfl,rfl⟩
 simp only [List.mem_cons,List.mem_append,List.mem_flatMap]
 exact .inr (.inr (.inr ⟨q,hq,hk'⟩))
theorem yf6.keep0 {w w':World} {b:Nat} {eps:List Int} {D:List (ymZ × List PDid)} {F:List Nat} (h:yf6 w b eps D F) (M:Mod [] w w'):yf6 w' b eps D F:=h.keep M (by simp)
theorem yCQ (w:World):Calls pP 35 #[] w fun e w' => ∃ v,e = .returned v ∧ ∃ b F,v = .pointer (some ⟨b,0,none⟩) ∧ yf6 w' b [] [] F ∧ (∀ k ∈ F,w.heap.size ≤ k) ∧ Mod [] w w':=by
 refine yFw ?_
 refine ybH fun b4 w5 c5 M5 f5 => ?_
 have s5:=M5.size
 intro b6 f6 w7 A7 h7
 exact ⟨b6,_,rfl,⟨ybM,b4,[],h7,Row.nil ..,yaX.of_new (A7.mod.keep0 c5),by simp,by simp,rfl,rfl⟩,by simp [yaP,ybM]; omega,M5.go0 A7.mod (by simp)⟩
def isE (eps:List Int) (id:Int):Bool:=decide (1 ≤ id ∧ id ≤ eps.length)
theorem yx4 {w:World} {b:Nat} {eps:List Int} {D:List (ymZ × List PDid)} {F:List Nat} (h:yf6 w b eps D F) (id:Int) :
  Calls pP 102 #[.pointer (some ⟨b,0,none⟩),.int .i64 id] w fun e w' => e = .returned (.bool (isE eps id)) ∧ Mod [] w w':=by
 obtain ⟨sl,m,L,hc,hR,hm,hD,hP,rfl,rfl⟩:=h
 have hn:=hR.1
 refine ya2 (yKW hc ?_)
 refine yaH (fun g => ?_) fun g => ?_
 ·intro w1 A1 _
  exact ⟨congrArg Value.bool (decide_eq_decide.2 ⟨fun h => ⟨by omega,by omega⟩,fun h => by omega⟩),A1.mod⟩
 ·intro w1 A1 _
  exact ⟨congrArg Value.bool (decide_eq_false (by omega)).symm,A1.mod⟩
theorem yHc (n:Int) (w:World):Calls pP 115 #[.int .i64 n] w fun e w' => e = .returned (.bool (num n)) ∧ w' = w :=
 ya2 (yKV (yaH (fun h => ⟨by simp [num]; omega,rfl⟩) (fun h => ⟨by simp [num]; omega,rfl⟩)))
def yK5 (l:List PDid):Int:=match l[l.length - 1]? with
 | none => 0
 | some d => IntKind.wrap .i64 (d.seq + d.n)
theorem yK6 {w:World} {a:Option Addr} {n c:Nat} {l:List PDid} (h:ybD w 3 yvM a n l) (hl:l.length ≤ 1000000) :
  Calls pP 108 #[.slice a n c] w fun e w' => e = .returned (.int .i64 (yK5 l)) ∧ Mod [] w w':=by
 have hn:=h.1
 refine ya2 (yKU ?_)
 refine yaD (fun g => ?_) fun g => ?_
 ·have g:l.length = 0:=by have:=eq_of_beq g; omega
  rw [List.length_eq_zero_iff] at g
  subst g
  exact ⟨rfl,Mod.refl _⟩
 ·have g:l.length ≠ 0:=by
   intro e
   rw [hn,e] at g
   simp at g
  have e:IntKind.wrap .i64 ((n:Int) - 1) = ((l.length - 1:Nat):Int):=by rw [yaJ (by omega) (by omega)]; omega
  rw [e]
  obtain ⟨d,hd⟩:∃ d,l[l.length - 1]? = some d:=⟨_,List.getElem?_eq_getElem (by omega)⟩
  refine h.ix hd fun q hq => yaI (by simpa [add_zero] using hq 0 _ rfl) (yaI (hq 1 _ rfl) (yaI (hq 2 _ rfl) ?_))
  intro b10 f10 w11 A11
  exact ⟨by rw [yK5,hd],A11.mod⟩
def yeK (eps:List Int) (id:Int):Int × Int × Int :=
 if id = 0 then (if 32 ≤ eps.length then (0,0,2) else (eps.length + 1,0,0)) else if isE eps id = false then (0,0,80) else if 1099511627776 ≤ eps.getD (id - 1).toNat 0 then (0,0,2) else (id,IntKind.wrap .i64 (eps.getD (id - 1).toNat 0 + 1),0)
def yf7 (eps:List Int) (id:Int):List Int:=if (yeK eps id).2.2 ≠ 0 then eps else if id = 0 then eps ++ [0] else eps.set (id - 1).toNat (IntKind.wrap .i64 (eps.getD (id - 1).toNat 0 + 1))
def ym0 (eps:List Int) (D:List (ymZ × List PDid)) (id:Int):List (ymZ × List PDid):=if (yeK eps id).2.2 ≠ 0 then D else if id = 0 then D else D.filter fun q => decide (q.1.1 ≠ id)
open Classical in
noncomputable def struckL (L left:DL) (id:Int):DL:=L.filter fun q => decide (¬ (q.1.1 = id ∧ q.1 ∉ left.map (·.1)))
open Classical in
theorem yvN {L left:DL} {id:Int} (hn:(L.map (·.1)).Nodup) {x:ymZ × DidV} (hx:x ∈ left) :
  struckL L (yeE left x.1) id = if x.1.1 = id then yeE (struckL L left id) x.1 else struckL L left id:=by
 have key:∀ q ∈ L,(q.1 ∉ (yeE left x.1).map (·.1) ↔ q.1 ∉ left.map (·.1) ∨ q.1 = x.1):=fun q hq => by
  constructor
  ·intro h
   by_cases e:q.1 = x.1
   ·exact .inr e
   ·refine .inl fun hm => h ?_
    obtain ⟨z,hz,hzk⟩:=List.mem_map.1 hm
    exact List.mem_map.2 ⟨z,ydE.2 ⟨hz,by rw [hzk]; exact e⟩,hzk⟩
  ·rintro (h | h) hm
   ·obtain ⟨z,hz,hzk⟩:=List.mem_map.1 hm
    exact h (List.mem_map.2 ⟨z,(ydE.1 hz).1,hzk⟩)
   ·obtain ⟨z,hz,hzk⟩:=List.mem_map.1 hm
    exact (ydE.1 hz).2 (by rw [hzk,h])
 split
 ·rename_i g
  have e0:∀ M:DL,yeE M x.1 = M.filter fun p => decide (p.1 ≠ x.1):=fun _ => rfl
  rw [struckL,struckL,e0 (L.filter _),List.filter_filter]
  refine List.filter_congr fun q hq => ?_
  rw [← Bool.decide_and]
  refine decide_eq_decide.2 ?_
  rw [key q hq]
  constructor
  ·intro h
   refine ⟨fun e => h ⟨by rw [e]; exact g,.inr e⟩,fun h2 => h ⟨h2.1,.inl h2.2⟩⟩
  ·rintro ⟨h1,h2⟩ ⟨h3,h4 | h4⟩
   ·exact h2 ⟨h3,h4⟩
   ·exact h1 h4
 ·rename_i g
  rw [struckL,struckL]
  refine List.filter_congr fun q hq => decide_eq_decide.2 ?_
  rw [key q hq]
  constructor
  ·exact fun h h2 => h ⟨h2.1,.inl h2.2⟩
  ·rintro h ⟨h3,h4 | h4⟩
   ·exact h ⟨h3,h4⟩
   ·exact g (by rw [← h4]; exact h3)
theorem yCR {κ β:Type} [DecidableEq κ] (L:List (κ × β)) (k:κ):yeE (yeE L k) k = yeE L k:=by
 unfold yeE
 rw [List.filter_filter]
 exact List.filter_congr fun q _ => by simp
open Classical in
set_option maxHeartbeats 2000000 in
theorem yzM {w:World} {b:Nat} {eps:List Int} {D:List (ymZ × List PDid)} {F:List Nat} (h:yf6 w b eps D F) (hl:eps.length ≤ 1000) (hD0:D.length ≤ 1000000) (pid:Int) :
  Calls pP 64 #[.pointer (some ⟨b,0,none⟩),.int .i64 pid] w fun e w' => e = .returned (.tuple #[.int .i64 (yeK eps pid).1,.int .i64 (yeK eps pid).2.1,.int .i64 (yeK eps pid).2.2]) ∧ ∃ F',yf6 w' b (yf7 eps pid) (ym0 eps D pid) F' ∧ Mod F w w' ∧ ybJ w F F':=by
 have hA:=h
 obtain ⟨sl,m,L,hc,hR,hm,hD,hP,rfl,rfl⟩:=h
 have hn:=hR.1
 have lb:=yaL hc
 have lm:=hm.lt
 have hmb:m ≠ b:=by rintro rfl; exact hm.notCells hc
 have hbr:b ∉ yaP sl.a:=ycT hR hc (by decide)
 have hmr:m ∉ yaP sl.a:=fun hi => by
  obtain ⟨_,_,cur,hcur⟩:=yaS hR m hi
  exact hm.notCells hcur
 have ltR:=yaQ hR
 have stay:∀ {w':World} {v:Int × Int × Int},Mod [] w w' → yeK eps pid = v → v.2.2 ≠ 0 → ∃ F',yf6 w' b (yf7 eps pid) (ym0 eps (ddL L) pid) F' ∧ Mod (b :: m :: (yaP sl.a ++ L.flatMap fun q => yaP q.2.s.a)) w w' ∧ ybJ w (b :: m :: (yaP sl.a ++ L.flatMap fun q => yaP q.2.s.a)) F':=fun {w' v} M e he => by
  rw [yf7,ym0,e,if_pos he,if_pos he]
  exact ⟨_,hA.keep0 M,M.less (by simp),ybJ.refl _ _⟩
 refine ya2 (yKX hc ?_)
 refine yaD (fun g0 => ?_) fun g0 => ?_
 ·have g0:pid = 0:=eq_of_beq g0
  refine yaH (fun g => ?_) fun g => ?_
  ·intro w1 A1 _
   have e:yeK eps pid = (0,0,2):=by rw [yeK,if_pos g0,if_pos (by omega)]
   rw [e]
   exact ⟨rfl,stay A1.mod e (by decide)⟩
  refine yaD (fun _ => ?_) fun g1 => ?_
  ·have e:yeK eps pid = ((eps.length:Int) + 1,0,0):=by rw [yeK,if_pos g0,if_neg (by omega)]
   have z1:¬ (((eps.length:Int) + 1,(0:Int),(0:Int)).2.2 ≠ 0):=fun h => h rfl
   refine yjU (y:=0) (f:=sl) hR (by omega) (by omega) (by simpa using hbr) fun a11 c13 w10 hR10 M10 hk10 => ?_
   intro w14 A14 h14
   have hb11:b ∉ yaP a11:=fun hb => by
    rcases hk10 b hb with h1 | h1
    ·exact hbr h1
    ·omega
   have N14:Mod (b :: yaP sl.a) w w14:=(M10.trans A14.mod).less fun z hz _ => by simp at hz ⊢; rcases hz with h1 | h1 <;> simp [h1]
   have apD:∀ q ∈ L,∀ z ∈ b :: yaP sl.a,z ∉ yaP q.2.s.a:=fun q hq z hz hz' => by
    rcases List.mem_cons.1 hz with rfl | hz
    ·exact ycT (hD q hq) hc (by decide) hz'
    ·exact ybA hR (hD q hq) (by decide) z hz hz'
   rw [yf7,ym0,e,if_neg z1,if_neg z1,if_pos g0,if_pos g0]
   refine ⟨?_,_,⟨⟨a11,sl.n + 1,c13⟩,m,L,h14,yaE hR10 A14.mod (by simpa using hb11),hm.keepM N14 (by simp; exact ⟨hmb,hmr⟩),fun q hq => yaE (hD q hq) N14 (apD q hq),hP,rfl,rfl⟩,N14.less fun z hz _ => ?_,fun z hz => ?_⟩
   ·have e2:((sl.n + 1:Nat):Int) = (eps.length:Int) + 1:=by omega
    rw [e2]
   ·simp only [List.mem_cons,List.mem_append] at hz ⊢
    rcases hz with h1 | h1 <;> simp [h1]
   ·simp only [List.mem_cons,List.mem_append] at hz ⊢
    rcases hz with h1 | h1 | h1 | h1
    ·exact .inl (.inl h1)
    ·exact .inl (.inr (.inl h1))
    ·rcases hk10 z h1 with h2 | h2
     ·exact .inl (.inr (.inr (.inl h2)))
     ·exact .inr h2
    ·exact .inl (.inr (.inr (.inr h1)))
  ·rw [g0] at g1; cases g1
 have g0':pid ≠ 0:=by rintro rfl; cases g0
 refine yaD (fun g1 => ?_) fun _ => ?_
 ·rw [g1] at g0; cases g0
 intro w100 A100 h100
 refine (yx4 (hA.keep0 A100.mod) pid).mono ?_
 rintro _ w101 ⟨rfl,M101⟩
 have N101:=A100.mod.go0 M101 (by simp)
 have h101:=M101.keep0 h100
 refine ⟨_,rfl,_,_,_,_,h101,?_⟩
 refine yaD (fun g => ?_) fun g => ?_
 ·have g:isE eps pid = false:=by simpa using g
  have e:yeK eps pid = (0,0,80):=by rw [yeK,if_neg g0',if_pos g]
  rw [e]
  exact ⟨rfl,stay N101 e (by decide)⟩
 have g:isE eps pid = true:=by simpa using g
 have g':1 ≤ pid ∧ pid ≤ eps.length:=by simpa [isE] using g
 have ei:IntKind.wrap .i64 (pid - 1) = (((pid - 1).toNat:Nat):Int):=by rw [yaJ (by omega) (by omega)]; omega
 obtain ⟨x,hx⟩:∃ x,eps[(pid - 1).toNat]? = some x:=⟨_,List.getElem?_eq_getElem (by omega)⟩
 have hxd:eps.getD (pid - 1).toNat 0 = x:=by rw [List.getD_eq_getElem?_getD,hx]; rfl
 have hR101:=hR.keep0 N101
 have ng:¬ isE eps pid = false:=by rw [g]; decide
 rw [ei]
 refine (hR101.sl yeV).ix hx fun q hq => yaI (x:=x) (by simpa [add_zero] using hq 0 _ rfl) ?_
 refine yaH (fun g2 => ?_) fun g2 => ?_
 ·have e:yeK eps pid = (0,0,2):=by rw [yeK,if_neg g0',if_neg ng,if_pos (by rw [hxd]; exact g2)]
  rw [e]
  exact ⟨rfl,stay N101 e (by decide)⟩
 refine (hR101.sl yeV).ix hx fun q hq => yaI (x:=x) (by simpa [add_zero] using hq 0 _ rfl) ?_
 have e:yeK eps pid = (pid,IntKind.wrap .i64 (x + 1),0):=by rw [yeK,if_neg g0',if_neg ng,if_neg (by rw [hxd]; exact g2),hxd]
 refine Row.store (enc:=yd4) (y:=IntKind.wrap .i64 (x + 1)) hR101 yeV (by simp [yd4,ynH]) hx fun ad w122 had hR122 M122 => ?_
 have hblk:ad.block ∈ yaP sl.a:=yb0 sl.a ad had
 have hbad:b ∉ [ad.block]:=by simp; rintro rfl; exact hbr hblk
 have hmad:m ∉ [ad.block]:=by simp; rintro rfl; exact hmr hblk
 have h122:=M122.keep h101 hbad
 refine ⟨_,_,_,_,h122,?_⟩
 have hm122:=(hm.keepM0 N101).keepM M122 hmad
 obtain ⟨w130,h130,M130,I130⟩:=yb3.start (T:=120) hm122 Tryz.underlying120
 refine ⟨_,w130,h130,yaG.of0 M130,?_⟩
 generalize hr:w122.heap.size = r at I130 ⊢
 have s101:=N101.size
 have s122:=M122.size
 have s130:=M130.size
 have N122:Mod [ad.block] w w122:=(N101.trans M122).less (by simp)
 have N130:Mod [ad.block] w w130:=(N122.trans M130).less (by simp)
 have hnd:=hm.nodup
 have hDL:L.length ≤ 1000000:=by simpa [ddL] using hD0
 have rcell:∀ {w':World} {left Lc:DL},yb3 pP 197 hkd DidV.v w' r m Lc left → ∀ {cs:Array Value} {T:TypeId},w'.heap[r]? ≠ some (.cells cs T):=fun I => by
  obtain ⟨es,clock,since,seen,c0,h1,_⟩:=I
  rw [h1]; simp
 refine yCN (fun mm w' => ∃ left:DL,yb3 pP 197 hkd DidV.v w' r m (struckL L left pid) left ∧ (∀ q ∈ left,q ∈ L) ∧ (left.map (·.1)).Nodup ∧ Mod [ad.block,m] w w' ∧ Row w' 0 3 1 yd4 sl.a sl.n sl.c (eps.set (pid - 1).toNat (IntKind.wrap .i64 (x + 1))) ∧ mm = left.length) L.length
  ⟨L,by rw [show struckL L L pid = L from List.filter_eq_self.2 fun q hq => decide_eq_true fun hh => hh.2 (List.mem_map.2 ⟨q,hq,rfl⟩)]; exact I130,fun q hq => hq,hnd,N130.less (by simp),hR122.keep0 M130,rfl⟩ ?_
 rintro mm w1 ⟨left,I1,hsub,hndl,N1,hR1,rfl⟩
 intro hb1
 have s1:=N1.size
 have nr:r ∉ yaP sl.a:=fun hi => by
  have:=(ltR r hi).2; omega
 rcases I1.step (ty:=0) ymT with ⟨hl0,hs⟩ | ⟨q,hq,w4',hs,M4',I4,hen⟩
 ·subst hl0
  refine .inl ⟨_,hs,yaG.of0 (Mod.refl _),?_⟩
  have hx':(eps.set (pid - 1).toNat (IntKind.wrap .i64 (x + 1)))[(pid - 1).toNat]? = some (IntKind.wrap .i64 (x + 1)):=by rw [List.getElem?_set_self (by omega)]
  rw [ei]
  refine (hR1.sl yeV).ix hx' fun q hq => yaI (x:=IntKind.wrap .i64 (x + 1)) (by simpa [add_zero] using hq 0 _ rfl) ?_
  intro w61 A61 h61
  have hLs:struckL L [] pid = L.filter fun q => decide (q.1.1 ≠ pid):=by
   rw [struckL]; exact List.filter_congr fun q _ => decide_eq_decide.2 (by simp)
  rw [hLs] at I1
  have sub:∀ q ∈ L.filter (fun q => decide (q.1.1 ≠ pid)),q ∈ L:=fun q hq => (List.mem_filter.1 hq).1
  have N61:Mod [ad.block,m] w w61:=(N1.trans A61.mod).less (by simp)
  have z1:¬ ((pid,IntKind.wrap .i64 (x + 1),(0:Int)).2.2 ≠ 0):=fun h => h rfl
  rw [yf7,ym0,e,if_neg z1,if_neg z1,if_neg g0',if_neg g0',hxd]
  refine ⟨rfl,_,⟨sl,m,L.filter fun q => decide (q.1.1 ≠ pid),h61,hR1.keep0 A61.mod,I1.map.keepM0 A61.mod,fun q hq => ?_,hP.sublist List.filter_sublist,?_,rfl⟩,N61.less fun z hz _ => ?_,fun z hz => ?_⟩
  ·refine yaE (hD q (sub q hq)) N61 fun z hz hz' => ?_
   simp at hz
   rcases hz with rfl | rfl
   ·exact ybA hR (hD q (sub q hq)) (by decide) _ hblk hz'
   ·obtain ⟨_,_,cur,hcur⟩:=yaS (hD q (sub q hq)) z hz'
    exact hm.notCells hcur
  ·unfold ddL
   rw [List.filter_map]
   rfl
  ·simp at hz
   rcases hz with rfl | rfl
   ·simp [hblk]
   ·simp
  ·simp only [List.mem_cons,List.mem_append,List.mem_flatMap] at hz ⊢
   rcases hz with h1 | h1 | h1 | ⟨q,hq,h1⟩
   ·exact .inl (.inl h1)
   ·exact .inl (.inr (.inl h1))
   ·exact .inl (.inr (.inr (.inl h1)))
   ·exact .inl (.inr (.inr (.inr ⟨q,sub q hq,h1⟩)))
 ·have hqL:=hsub q hq
  obtain ⟨l,hkey⟩:=hm.keyedP q hqL
  have s4:=M4'.size
  have br:b ≠ r:=by rintro rfl; exact rcell I1 hb1
  have h4:=M4'.keep hb1 (by simpa using br)
  refine .inr ⟨_,_,w4',hs,yaG.of M4' (by simp; intro _; exact br),_,_,_,_,w4',hen w4' (Mod.refl _),yaG.of0 (Mod.refl _),?_⟩
  intro b75 f75
  have hlen:(yeE left q.1).length + 1 = left.length:=by
   have:=(yg8 hq hndl).length_eq; simpa using this.symm
  have hstep:=yvN (id:=pid) hnd hq
  have hsub':∀ z ∈ yeE left q.1,z ∈ L:=fun z hz => hsub z (ydE.1 hz).1
  have hR4:Row w4' 0 3 1 yd4 sl.a sl.n sl.c (eps.set (pid - 1).toNat (IntKind.wrap .i64 (x + 1))):=yaE hR1 M4' (by simpa using nr)
  have N4:Mod [ad.block,m] w w4':=(N1.trans M4').less fun z hz hz' => by
   simp at hz ⊢
   rcases hz with h1 | h1 | h1
   ·exact .inl h1
   ·exact .inr h1
   ·omega
  refine yaD (fun g1 => ?_) fun g1 => ?_
  ·have g1:q.1.1 = pid:=eq_of_beq g1
   intro w76 A76 h76
   have I76:=I4.keep A76.mod (by simp) (by simp)
   obtain ⟨w77,hd77,M77,I77⟩:=I76.delete yEH ymT Tryz.underlying120 hkey 0
   refine ⟨_,_,hd77,yaG.of M77 (by simp; exact ⟨fun _ e => hmb e.symm,fun _ e => by omega⟩),?_⟩
   rw [yCR] at I77
   refine ytA (yeE left q.1).length (by omega) ⟨yeE left q.1,?_,hsub',yeN hndl,((N4.trans A76.mod).trans M77).less fun z hz _ => by simpa using hz,yaE (hR4.keep0 A76.mod) M77 (by simpa using hmr),rfl⟩
   rw [hstep,if_pos g1]; exact I77
  ·have g1:¬ q.1.1 = pid:=by
    intro hh; rw [hh] at g1; simp at g1
   intro w79 A79 h79
   refine ytA (yeE left q.1).length (by omega) ⟨yeE left q.1,?_,hsub',yeN hndl,(N4.trans A79.mod).less (by simp),hR4.keep0 A79.mod,rfl⟩
   rw [hstep,if_neg g1]; exact I4.keep A79.mod (by simp) (by simp)
end Go.Proofs.YtkepmmocldnnfaaGreat
namespace Go.Proofs.YtkepmmocldnnfaaGreat
open Go Go.RowKit Go.Maps Go.MapKept
open Go.ChangeMaps (setBlock)
set_option linter.unusedVariables false
set_option linter.unusedSimpArgs false
def ytB (b:PBatch) (d:PDid):Bool:=decide (d.seq = b.seq ∧ d.n = b.recs.length)
def yHd (D:List (ymZ × List PDid)) (p:PPart) (b:PBatch):List PDid:=(lkp D (b.prod,p)).getD []
def yhK (eps:List Int) (D:List (ymZ × List PDid)) (p:PPart) (b:PBatch):Int × Bool × Int :=
 if b.prod = 0 then (0,false,0) else if isE eps b.prod = false then (0,false,80) else if eps.getD (b.prod - 1).toNat 0 > b.epoch then (0,false,81) else if eps.getD (b.prod - 1).toNat 0 < b.epoch then (0,false,80) else
  if b.seq = yK5 (yHd D p b) then (0,false,0) else match (yHd D p b).find? (ytB b) with
   | none => (0,false,82)
   | some d => (d.off,true,0)
theorem yEJ {α:Type} {f:α → Bool} {l:List α} {k:Nat} {x:α} (h:l[k]? = some x) (hx:f x = true) (hb:∀ y ∈ l.take k,f y = false):l.find? f = some x:=by
 have e:l = l.take k ++ x :: l.drop (k + 1):=by
  obtain ⟨h1,h2⟩:=List.getElem?_eq_some_iff.1 h
  rw [← h2,← List.drop_eq_getElem_cons h1,List.take_append_drop]
 rw [e,List.find?_append,List.find?_eq_none.2 (by intro y hy; simp [hb y hy])]
 simp [hx]
theorem yHe {w:World} {b4:Nat} {b:PBatch} {rs:Sl} (hrn:rs.n = b.recs.length) {T:TypeId} {z:Nat × Nat} (hb:w.heap[b4]? = some (.cells #[.int .i64 b.prod,.int .i64 b.epoch,.int .i64 b.seq,.slice rs.a rs.n rs.c] T z)) (d:PDid) :
  Calls pP 110 #[.agg #[.int .i64 d.seq,.int .i64 d.n,.int .i64 d.off],.pointer (some ⟨b4,0,none⟩)] w fun e w' => e = .returned (.bool (ytB b d)) ∧ Mod [] w w':=by
 refine ya2 (yKZ ?_)
 intro b2 f2 w8 A8
 have h8:=A8.mod.keep0 hb
 refine yaI (x:=b.seq) (by rw [ycE,yaY h8]; rfl) ?_
 refine yaD (fun g => ?_) fun g => ?_
 ·have g:d.seq = b.seq:=eq_of_beq g
  refine yaT (x:=rs.a) (n:=rs.n) (c:=rs.c) (by rw [ycE,yaY h8]; rfl) ?_
  refine ⟨congrArg Value.bool ?_,A8.mod⟩
  rw [Bool.eq_iff_iff]
  simp [ytB,g,hrn]
 ·have g:¬ d.seq = b.seq:=by intro e; rw [e] at g; simp at g
  exact ⟨congrArg Value.bool (by simp [ytB,g]),A8.mod⟩
theorem yCS {w:World} {b4:Nat} {b:PBatch} {rs:Sl} (hrn:rs.n = b.recs.length) {T:TypeId} {z:Nat × Nat} (hb:w.heap[b4]? = some (.cells #[.int .i64 b.prod,.int .i64 b.epoch,.int .i64 b.seq,.slice rs.a rs.n rs.c] T z)) {a:Option Addr} {n c:Nat} {l:List PDid} (h:ybD w 3 yvM a n l) (hl:l.length ≤ 1000000) :
  Calls pP 109 #[.slice a n c,.func (.func 110) #[] #[.pointer (some ⟨b4,0,none⟩)]] w fun e w' => ∃ v,e = .returned v ∧ ∃ r:Int,v = .int .i64 r ∧ Mod [] w w' ∧ match l.find? (ytB b) with
   | none => r = -1
   | some d => ∃ k:Nat,r = k ∧ l[k]? = some d:=by
 have hn:=h.1
 refine yK2 ?_
 refine yCP (fun mm x w' => ∃ k:Nat,x = k ∧ k ≤ l.length ∧ (∀ y ∈ l.take k,ytB b y = false) ∧ Mod [] w w' ∧ mm = l.length - k) l.length ⟨0,rfl,by omega,by simp,Mod.refl _,rfl⟩ ?_
 rintro mm x w1 ⟨k,rfl,hk,hb0,M1,rfl⟩
 refine yaH (fun hlt => ?_) fun hge => ?_
 ·obtain ⟨d,hd⟩:∃ d,l[k]? = some d:=⟨_,List.getElem?_eq_getElem (by omega)⟩
  refine (h.keep0 M1).ix hd fun q hq => yaI (by simpa [add_zero] using hq 0 _ rfl) (yaI (hq 1 _ rfl) (yaI (hq 2 _ rfl) ?_))
  refine (yHe hrn (M1.keep0 hb) d).mono ?_
  rintro _ w11 ⟨rfl,M11⟩
  have N11:=M1.go0 M11 (by simp)
  refine ⟨_,rfl,yaD (fun g => ?_) fun g => ?_⟩
  ·refine ⟨_,rfl,N11,?_⟩
   rw [yEJ hd g hb0]
   exact ⟨k,rfl,hd⟩
  ·refine yCO (l.length - (k + 1)) (by omega) ⟨k + 1,by rw [yaJ (by omega) (by omega)]; omega,by omega,?_,N11,rfl⟩
   rw [yd2 hd]
   intro y hy
   rcases List.mem_append.1 hy with hy | hy
   ·exact hb0 y hy
   ·simp at hy; subst hy; exact g
 ·have hk:k = l.length:=by omega
  subst hk
  rw [List.take_length] at hb0
  refine ⟨_,rfl,M1,?_⟩
  rw [List.find?_eq_none.2 (by intro y hy; simp [hb0 y hy])]
theorem yCT (w:World):(zeroValue 204).run pP w = .ok (DidV.v ⟨ybM,[]⟩) w:=by kernel_rfl
set_option maxHeartbeats 1000000 in
theorem ytC {w:World} {b:Nat} {eps:List Int} {D:List (ymZ × List PDid)} {F:List Nat} (h:yf6 w b eps D F) (hl:∀ q ∈ D,q.2.length ≤ 1000000) {p:PPart} {x:PBatch} {rs:Sl} (hrn:rs.n = x.recs.length) (h1:p.t.size ≤ maxLen) (h2:s64 p.n) (h3:s64 x.prod) :
  Calls pP 66 #[.pointer (some ⟨b,0,none⟩),p.v,x.v rs] w fun e w' => e = .returned (.tuple #[.int .i64 (yhK eps D p x).1,.bool (yhK eps D p x).2.1,.int .i64 (yhK eps D p x).2.2]) ∧ Mod [] w w':=by
 have hA:=h
 obtain ⟨sl,m,L,hc,hR,hm,hD,hP,rfl,rfl⟩:=h
 have lb:=yaL hc
 have hn:=hR.1
 refine ya2 (yKY hc ?_)
 intro b3 f3 b4 f4
 refine yaD (fun g0 => ?_) fun g0 => ?_
 ·have g0:x.prod = 0:=eq_of_beq g0
  intro w5 A5 _
  have e:yhK eps (ddL L) p x = (0,false,0):=by rw [yhK,if_pos g0]
  rw [e]; exact ⟨rfl,A5.mod⟩
 have g0:¬ x.prod = 0:=by intro e; rw [e] at g0; simp at g0
 intro w13 A13 h13
 refine (yx4 (hA.keep0 A13.mod) x.prod).mono ?_
 rintro _ w14 ⟨rfl,M14⟩
 have N14:=A13.mod.go0 M14 (by simp)
 have h14:=M14.keep0 h13
 refine ⟨_,rfl,yaG.of0 M14,_,_,_,_,h14,?_⟩
 refine yaD (fun g => ?_) fun g => ?_
 ·have g:isE eps x.prod = false:=by simpa using g
  have e:yhK eps (ddL L) p x = (0,false,80):=by rw [yhK,if_neg g0,if_pos g]
  rw [e]; exact ⟨rfl,N14⟩
 have g:isE eps x.prod = true:=by simpa using g
 have g':1 ≤ x.prod ∧ x.prod ≤ eps.length:=by simpa [isE] using g
 have ng:¬ isE eps x.prod = false:=by rw [g]; decide
 unfold s64 at h3
 have ei:IntKind.wrap .i64 (x.prod - 1) = (((x.prod - 1).toNat:Nat):Int):=by rw [yaJ (by omega) (by omega)]; omega
 obtain ⟨y,hy⟩:∃ y,eps[(x.prod - 1).toNat]? = some y:=⟨_,List.getElem?_eq_getElem (by omega)⟩
 have hyd:eps.getD (x.prod - 1).toNat 0 = y:=by rw [List.getD_eq_getElem?_getD,hy]; rfl
 rw [ei]
 refine ((hR.keep0 N14).sl yeV).ix hy fun q hq => yaI (x:=y) (by simpa [add_zero] using hq 0 _ rfl) ?_
 refine yaH (fun g2 => ?_) fun g2 => ?_
 ·intro w22 A22 _
  have e:yhK eps (ddL L) p x = (0,false,81):=by rw [yhK,if_neg g0,if_neg ng,hyd,if_pos g2]
  rw [e]; exact ⟨rfl,N14.go0 A22.mod (by simp)⟩
 refine yaH (fun g3 => ?_) fun g3 => ?_
 ·intro w23 A23 _
  have e:yhK eps (ddL L) p x = (0,false,80):=by rw [yhK,if_neg g0,if_neg ng,hyd,if_neg g2,if_pos g3]
  rw [e]; exact ⟨rfl,N14.go0 A23.mod (by simp)⟩
 intro w24 A24 h24
 have N24:=N14.go0 A24.mod (by simp)
 obtain ⟨l,hkey⟩:=yCr (k:=(x.prod,p)) h3 h1 h2
 have hlk:=(hm.keepM0 N24).lkF (k:=(x.prod,p)) yEH ymT Tryz.underlying120 yCT hkey
 generalize hv:((lkp L (x.prod,p)).getD ⟨ybM,[]⟩:DidV) = v at hlk
 have hdid:yHd (ddL L) p x = v.l:=by
  unfold yHd ddL
  rw [ydX,← hv]
  cases lkp L (x.prod,p) <;> rfl
 have hvS:∀ {w':World},Mod [] w w' → ybD w' 3 yvM v.s.a v.s.n v.l:=fun {w'} M => by
  cases hc:lkp L (x.prod,p) with
  | none =>
   rw [hc] at hv
   rw [← hv]
   exact (Row.nil w' 0 208 3 yvM).sl ylJ
  | some v' =>
   rw [hc] at hv
   have hv:v' = v:=hv
   subst hv
   exact (((hD _ (yaW hc)).keep0 M).sl ylJ)
 have hvl:v.l.length ≤ 1000000:=by
  cases hc:lkp L (x.prod,p) with
  | none =>
   rw [hc] at hv
   rw [← hv]; simp
  | some v' =>
   rw [hc] at hv
   have hv:v' = v:=hv
   subst hv
   exact hl ((x.prod,p),v'.l) (List.mem_map.2 ⟨_,yaW hc,rfl⟩)
 refine ⟨_,_,_,hlk,?_⟩
 intro w28 A28 h28
 have N28:=N24.go0 A28.mod (by simp)
 refine (yK6 (hvS N28) hvl).mono ?_
 rintro _ w29 ⟨rfl,M29⟩
 have N29:=N28.go0 M29 (by simp)
 refine ⟨_,rfl,yaG.of0 M29,_,_,_,_,M29.keep0 h28,rfl,?_⟩
 refine yaD (fun g4 => ?_) fun g4 => ?_
 ·have g4:x.seq = yK5 v.l:=eq_of_beq g4
  have e:yhK eps (ddL L) p x = (0,false,0):=by rw [yhK,if_neg g0,if_neg ng,hyd,if_neg g2,if_neg g3,hdid,if_pos g4]
  rw [e]; exact ⟨rfl,N29⟩
 have g4:¬ x.seq = yK5 v.l:=by intro e; rw [e] at g4; simp at g4
 intro w48 A48 h48 h48b
 have N48:=N29.go0 A48.mod (by simp)
 refine (yCS hrn h48b (hvS N48) hvl).mono ?_
 rintro _ w49 ⟨_,rfl,r,rfl,M49,hr⟩
 have N49:=N48.go0 M49 (by simp)
 refine ⟨_,rfl,yaG.of0 M49,_,_,_,_,M49.keep0 h48,_,_,_,_,_,_,M49.keep0 h48b,?_⟩
 have e:yhK eps (ddL L) p x = match v.l.find? (ytB x) with
   | none => (0,false,82)
   | some d => (d.off,true,0):=by rw [yhK,if_neg g0,if_neg ng,hyd,if_neg g2,if_neg g3,hdid,if_neg g4]
 rw [e]
 cases hf:v.l.find? (ytB x) with
 | none =>
  rw [hf] at hr
  have hr:r = -1:=hr
  refine yaH (fun g5 => ?_) fun g5 => by omega
  exact ⟨rfl,N49⟩
 | some d =>
  rw [hf] at hr
  obtain ⟨k,rfl,hk⟩:=hr
  refine yaH (fun g5 => by omega) fun g5 => ?_
  refine (hvS N49).ix hk fun q hq => yaI (hq 2 _ rfl) ?_
  exact ⟨rfl,N49⟩
end Go.Proofs.YtkepmmocldnnfaaGreat
namespace Go.Proofs.YtkepmmocldnnfaaGreat
open Go Go.RowKit Go.Maps Go.MapKept
open Go.ChangeMaps (setBlock)
set_option linter.unusedVariables false
set_option linter.unusedSimpArgs false
theorem yCU:(Tryz.prog.info? 208).map (fun i => (i.zero,i.size,i.bytes)) = some (some (.agg #[.int .i64 0,.int .i64 0,.int .i64 0]),3,24):=by kernel_rfl
theorem yCV {w:World} {B:Nat} {f:Sl} {l:List PDid} {y:PDid} {bs:List Nat} {F:Option Addr → Nat → Nat → World → Prop} (hR:Row w B 208 3 yvM f.a f.n f.c l) (hl:l.length ≤ 1000000) (hB:B ≤ w.heap.size) (hbs:∀ b ∈ bs,b ∉ yaP f.a)
  (hF:∀ a' c' w',Row w' B 208 3 yvM a' (f.n + 1) c' (l ++ [y]) → Mod (yaP f.a) w w' → (∀ k ∈ yaP a',k ∈ yaP f.a ∨ w.heap.size ≤ k) → F a' (f.n + 1) c' w') :
  al w (.cells (yvM y).toArray 208) fun b w1 => ybN pP (Builtin.append_ #[204,204] 204 #[.slice f.a f.n f.c,.slice (some ⟨b,0,none⟩) 1 1]) w1 fun a n c w2 => yaG bs w1 w2 ∧ F a n c w2:=by
 refine ybH fun b w1 c1 M1 f1 => ?_
 have s1:=M1.size
 obtain ⟨i0,hi0,hz0,hz1,hz2⟩:=info_parts yCU
 refine ydQ (x:=y) (hR.keep0 M1) Tryz.underlying204 hi0 hz0 hz1 hz2 rfl (by decide) c1 rfl (yx3 _) (by omega) (by unfold maxLen; omega) (by omega) fun a' c' w8 hR8 hM8 hk8 => ?_
 have M8:=hM8 _ (yb0 f.a)
 refine ⟨yaG.of M8 fun b hb _ => hbs b hb,hF a' c' w8 hR8 ?_ fun k hk => ?_⟩
 ·exact (M1.trans M8).less fun k hk _ => by simpa using hk
 ·rcases hk8 k hk with h | h
  ·exact .inl h
  ·exact .inr (by omega)
theorem yvO {w:World} {a:Option Addr} {n c:Nat} {l:List PDid} (h:ybD w 3 yvM a n l) (hl:l.length ≤ 1000000) :
  Calls pP 116 #[.slice a n c] w fun e w' => ∃ v,e = .returned v ∧ ∃ s':Sl,v = .slice s'.a s'.n s'.c ∧ Row w' w.heap.size 208 3 yvM s'.a s'.n s'.c l ∧ Mod [] w w':=by
 refine yK4 ?_
 refine yaD (fun h0 => ?_) fun _ => ?_
 ·have hl0:l = []:=by
   cases l with
   | nil => rfl
   | cons x r => obtain ⟨ad,ha,_⟩:=h.2 0 x rfl; rw [ha] at h0; cases h0
  subst hl0
  exact ⟨⟨none,0,0⟩,rfl,Row.nil ..,Mod.refl _⟩
 ·refine ybH fun b w1 c1 M1 f1 => ?_
  obtain ⟨i0,hi,hz0,hz1,hz2⟩:=info_parts yCU
  refine yc9 (Row.fresh c1 f1) Tryz.underlying204 hi hz0 hz1 hz2 rfl (by decide) (h.keep0 M1) ylJ yx3 (by simp; omega) (by simp; unfold maxLen; omega) M1.size fun a' n' c' w2 hR hM => ?_
  exact ⟨⟨a',n',c'⟩,rfl,by simpa using hR,M1.go0 (hM [b] (by simp)) (by simpa using f1)⟩
theorem ytD {κ β:Type} [DecidableEq κ] {L:List (κ × β)} {k:κ} {v:β} (hn:(L.map (·.1)).Nodup):(lkp L k = none ∧ put L k v = L ++ [(k,v)]) ∨ ∃ j x,L[j]? = some (k,x) ∧ lkp L k = some x ∧ put L k v = L.set j (k,v):=by
 cases h:lkp L k with
 | none => exact .inl ⟨rfl,yfX h⟩
 | some x =>
  obtain ⟨j,hj⟩:=List.mem_iff_getElem?.1 (yaW h)
  exact .inr ⟨j,x,hj,rfl,ygJ hn hj⟩
theorem yqI {κ β:Type} [DecidableEq κ] {L:List (κ × β)} {k:κ} {v:β} {q:κ × β} (hn:(L.map (·.1)).Nodup) (hq:q ∈ put L k v):q = (k,v) ∨ q ∈ L ∧ q.1 ≠ k:=by
 rcases ytD (k:=k) (v:=v) hn with ⟨h,e⟩ | ⟨j,x,hj,h,e⟩
 ·rw [e] at hq
  rcases List.mem_append.1 hq with hq | hq
  ·exact .inr ⟨hq,yfW.1 h q hq⟩
  ·simp at hq; exact .inl hq
 ·rw [e] at hq
  rcases yeC hq with rfl | ⟨i,hi,hqi⟩
  ·exact .inl rfl
  ·refine .inr ⟨List.mem_of_getElem? hqi,fun hk => hi ?_⟩
   obtain ⟨i1,i2⟩:=List.getElem?_eq_some_iff.1 hqi
   obtain ⟨j1,j2⟩:=List.getElem?_eq_some_iff.1 hj
   rcases Nat.lt_trichotomy i j with h' | h' | h'
   ·have:=List.pairwise_iff_getElem.1 hn i j (by simpa using i1) (by simpa using j1) h'
    rw [List.getElem_map,List.getElem_map,i2,j2] at this
    exact absurd hk this
   ·exact h'
   ·have:=List.pairwise_iff_getElem.1 hn j i (by simpa using j1) (by simpa using i1) h'
    rw [List.getElem_map,List.getElem_map,i2,j2] at this
    exact absurd hk.symm this
theorem yCW {κ β:Type} [DecidableEq κ] {fp:κ × β → List Nat} {L:List (κ × β)} {k:κ} {v:β} {w:World} (hn:(L.map (·.1)).Nodup) (hP:L.Pairwise fun a b => ye1 (fp a) (fp b)) (hlt:∀ x ∈ L,∀ z ∈ fp x,z < w.heap.size) (hv:∀ z ∈ fp (k,v),w.heap.size ≤ z ∨ ∃ x,(k,x) ∈ L ∧ z ∈ fp (k,x)):(put L k v).Pairwise fun a b => ye1 (fp a) (fp b):=by
 rcases ytD (k:=k) (v:=v) hn with ⟨h,e⟩ | ⟨j,x,hj,h,e⟩
 ·rw [e]
  refine ysZ hP hlt fun z hz => ?_
  rcases hv z hz with h1 | ⟨x,hx,_⟩
  ·exact h1
  ·exact absurd rfl (yfW.1 h _ hx)
 ·rw [e]
  refine yi2 hP hj hlt fun z hz => ?_
  rcases hv z hz with h1 | ⟨y,hy,hz⟩
  ·exact .inr h1
  ·have e2:((k,y):κ × β) = (k,x):=yjX hn hy (List.mem_of_getElem? hj) rfl
   rw [e2] at hz; exact .inl hz
def yk4 (l:List PDid):List PDid:=l.drop (l.length - 5)
def yi3 (eps:List Int) (D:List (ymZ × List PDid)) (p:PPart) (x:PBatch) (off:Int):Int :=
 if (yhK eps D p x).2.2 ≠ 0 then (yhK eps D p x).2.2 else if (yhK eps D p x).2.1 = true then 82 else if x.recs.length = 0 ∨ num off = false then 1 else 0
def ym1 (eps:List Int) (D:List (ymZ × List PDid)) (p:PPart) (x:PBatch) (off:Int):List (ymZ × List PDid) :=
 if yi3 eps D p x off ≠ 0 ∨ x.prod = 0 then D else put D (x.prod,p) (yk4 (yHd D p x ++ [⟨x.seq,x.recs.length,off⟩]))
set_option maxHeartbeats 2000000 in
theorem yzN {w:World} {b:Nat} {eps:List Int} {D:List (ymZ × List PDid)} {F:List Nat} (h:yf6 w b eps D F) (hl:∀ q ∈ D,q.2.length ≤ 1000) {p:PPart} {x:PBatch} {rs:Sl} (hrn:rs.n = x.recs.length) (h1:p.t.size ≤ maxLen) (h2:s64 p.n) (h3:s64 x.prod) (off:Int) :
  Calls pP 68 #[.pointer (some ⟨b,0,none⟩),p.v,x.v rs,.int .i64 off] w fun e w' => e = .returned (.int .i64 (yi3 eps D p x off)) ∧ ∃ F',yf6 w' b eps (ym1 eps D p x off) F' ∧ Mod F w w' ∧ ybJ w F F':=by
 have hA:=h
 have ltF:=h.lt
 obtain ⟨sl,m,L,hc,hR,hm,hD,hP,rfl,rfl⟩:=h
 have lb:=yaL hc
 have lm:=hm.lt
 have hn:=hR.1
 have hmb:m ≠ b:=by rintro rfl; exact hm.notCells hc
 have hbr:b ∉ yaP sl.a:=ycT hR hc (by decide)
 have hmr:∀ {T sz:Nat} {α:Type} {enc:α → List Value} {a:Option Addr} {n c:Nat} {l:List α},Row w 0 T sz enc a n c l → m ∉ yaP a:=fun hR hi => by
  obtain ⟨_,_,cur,hcur⟩:=yaS hR m hi
  exact hm.notCells hcur
 have stay:∀ {w':World},Mod [] w w' → (yi3 eps (ddL L) p x off ≠ 0 ∨ x.prod = 0) → ∃ F',yf6 w' b eps (ym1 eps (ddL L) p x off) F' ∧ Mod (b :: m :: (yaP sl.a ++ L.flatMap fun q => yaP q.2.s.a)) w w' ∧ ybJ w (b :: m :: (yaP sl.a ++ L.flatMap fun q => yaP q.2.s.a)) F':=fun {w'} M e => by
  rw [ym1,if_pos e]
  exact ⟨_,hA.keep0 M,M.less (by simp),ybJ.refl _ _⟩
 refine ya2 (yK3 hc ?_)
 intro b3 f3 b4 f4 w14 A14 h14
 refine (ytC (hA.keep0 A14.mod) (fun q hq => Nat.le_trans (hl q hq) (by decide)) hrn h1 h2 h3).mono ?_
 rintro _ w15 ⟨rfl,M15⟩
 have N15:=A14.mod.go0 M15 (by simp)
 have s15:=N15.size
 have l3:=A14.lt b3 (by simp)
 have l4:=A14.lt b4 (by simp)
 have sM15:=M15.size
 have h15:=M15.keep0 h14
 refine ⟨_,_,_,rfl,yaG.of0 M15,_,_,_,_,h15,?_⟩
 refine yaD (fun g => ?_) fun g => ?_
 ·have g:(yhK eps (ddL L) p x).2.2 ≠ 0:=by simpa using g
  have e:yi3 eps (ddL L) p x off = (yhK eps (ddL L) p x).2.2:=by rw [yi3,if_pos g]
  have:=stay N15 (.inl (by rw [e]; exact g))
  rw [e]; exact ⟨rfl,this⟩
 have g:¬ (yhK eps (ddL L) p x).2.2 ≠ 0:=by simpa using g
 refine yaD (fun g2 => ?_) fun g2 => ?_
 ·have e:yi3 eps (ddL L) p x off = 82:=by rw [yi3,if_neg g,if_pos g2]
  have:=stay N15 (.inl (by rw [e]; decide))
  rw [e]; exact ⟨rfl,this⟩
 have g2:¬ (yhK eps (ddL L) p x).2.1 = true:=by rw [g2]; decide
 refine yaD (fun g3 => ?_) fun g3 => ?_
 ·have g3:x.recs.length = 0:=by have:=eq_of_beq g3; omega
  have e:yi3 eps (ddL L) p x off = 1:=by rw [yi3,if_neg g,if_neg g2,if_pos (.inl g3)]
  have:=stay N15 (.inl (by rw [e]; decide))
  rw [e]; exact ⟨rfl,this⟩
 have g3:x.recs.length ≠ 0:=by
  intro e
  rw [hrn,e] at g3; simp at g3
 refine (yHc off w15).mono ?_
 rintro _ w29 ⟨rfl,rfl⟩
 refine ⟨_,rfl,yaG.of0 (Mod.refl _),_,_,_,_,h15,?_⟩
 refine yaD (fun g4 => ?_) fun g4 => ?_
 ·have g4:num off = false:=by simpa using g4
  have e:yi3 eps (ddL L) p x off = 1:=by rw [yi3,if_neg g,if_neg g2,if_pos (.inr g4)]
  have:=stay N15 (.inl (by rw [e]; decide))
  rw [e]; exact ⟨rfl,this⟩
 have g4:num off = true:=by simpa using g4
 have e:yi3 eps (ddL L) p x off = 0:=by rw [yi3,if_neg g,if_neg g2,if_neg (by rintro (h | h); exact g3 h; rw [g4] at h; cases h)]
 refine yaD (fun g5 => ?_) fun g5 => ?_
 ·have g5:x.prod = 0:=eq_of_beq g5
  have:=stay N15 (.inr g5)
  rw [e]; exact ⟨rfl,this⟩
 have g5:¬ x.prod = 0:=by intro e; rw [e] at g5; simp at g5
 intro b36 f36 w37 A37 h37
 have l36:=A37.lt b36 (by simp)
 have N37:=N15.go0 A37.mod (by simp)
 have s37:=A37.mod.size
 obtain ⟨l,hkey⟩:=yCr (k:=(x.prod,p)) h3 h1 h2
 have hm37:=hm.keepM0 N37
 have hlk:=hm37.lkF (k:=(x.prod,p)) yEH ymT Tryz.underlying120 yCT hkey
 generalize hv:((lkp L (x.prod,p)).getD ⟨ybM,[]⟩:DidV) = v at hlk
 have hdid:yHd (ddL L) p x = v.l:=by
  unfold yHd ddL
  rw [ydX,← hv]
  cases lkp L (x.prod,p) <;> rfl
 have hvc:(v = ⟨ybM,[]⟩ ∧ lkp L (x.prod,p) = none) ∨ ((x.prod,p),v) ∈ L:=by
  cases hc:lkp L (x.prod,p) with
  | none => rw [hc] at hv; exact .inl ⟨hv.symm,rfl⟩
  | some v' =>
   rw [hc] at hv
   have hv:v' = v:=hv
   subst hv
   exact .inr (yaW hc)
 have hvR:Row w 0 208 3 yvM v.s.a v.s.n v.s.c v.l:=by
  rcases hvc with ⟨rfl,_⟩ | hvm
  ·exact Row.nil ..
  ·exact hD _ hvm
 have hvl:v.l.length ≤ 1000:=by
  rcases hvc with ⟨rfl,_⟩ | hvm
  ·simp
  ·exact hl ((x.prod,p),v.l) (List.mem_map.2 ⟨_,hvm,rfl⟩)
 have hvF:∀ z ∈ yaP v.s.a,z ∈ L.flatMap fun q => yaP q.2.s.a:=fun z hz => by
  rcases hvc with ⟨rfl,_⟩ | hvm
  ·simp [ybM,yaP] at hz
  ·exact List.mem_flatMap.2 ⟨_,hvm,hz⟩
 have ltv:=yaQ hvR
 refine ⟨_,_,_,hlk,?_⟩
 refine yCV (y:=⟨x.seq,rs.n,off⟩) (f:=v.s) (hvR.keep0 N37) (by omega) (by omega) (fun i hi hi' => ?_) fun a44 c46 w43 hR43 M43 hk43 => ?_
 ·have:=(ltv i hi').2
  simp at hi
  rcases hi with rfl | rfl | rfl | rfl
  ·exact ycT hvR hc (by decide) hi'
  ·omega
  ·omega
  ·omega
 have s43:=M43.size
 have hvn:=hvR.1
 have ec:(if (IntKind.wrap .i64 (((v.s.n + 1:Nat):Int) - 5)) > 0 then (IntKind.wrap .i64 (((v.s.n + 1:Nat):Int) - 5)) else 0) = ((v.s.n + 1 - 5:Nat):Int):=by
  rw [yaJ (by omega) (by omega)]
  split <;> omega
 rw [ec]
 refine ysW (hR43.sl ylJ) (by omega) hR43.cap fun a47 c49 hcb hs47 => ?_
 intro w50 A50 h50
 have s50:=A50.mod.size
 refine (yvO (hs47.keep0 A50.mod) (by rw [List.length_drop,List.length_append]; simp; omega)).mono ?_
 rintro _ w51 ⟨_,rfl,s',rfl,hR51,M51⟩
 have s51:=M51.size
 refine ⟨_,_,_,rfl,yaG.of0 M51,_,_,_,_,M51.keep0 h50,rfl,rfl,?_⟩
 have N51:Mod (yaP v.s.a) w w51:=(((N37.trans M43).trans A50.mod).trans M51).less fun z hz _ => by simpa using hz
 have mv:m ∉ yaP v.s.a:=hmr hvR
 have hm51:=hm.keepM N51 mv
 refine hm51.setU (k:=(x.prod,p)) yEH ymT Tryz.underlying120 (v:=(⟨s',yk4 (v.l ++ [⟨x.seq,rs.n,off⟩])⟩:DidV)) hkey (by simp; omega) fun w59 hm59 M59 => ?_
 have N59:Mod (m :: yaP v.s.a) w w59:=(N51.trans M59).less fun z hz _ => by simp at hz ⊢; rcases hz with h | h <;> simp [h]
 have hbv:b ∉ yaP v.s.a:=ycT hvR hc (by decide)
 have hb59:=N59.keep hc (by simp; exact ⟨fun e => hmb e.symm,hbv⟩)
 have hnd:=hm.nodup
 have hnew:=hR51.newS
 have e5:yk4 (v.l ++ [(⟨x.seq,rs.n,off⟩:PDid)]) = (v.l ++ [(⟨x.seq,rs.n,off⟩:PDid)]).drop (v.s.n + 1 - 5):=by
  rw [yk4,List.length_append,hvn]; rfl
 have hmS:∀ z ∈ [m],z ∉ yaP s'.a:=fun z hz hz' => by have:=hnew z hz'; simp at hz; omega
 have hR59:Row w59 0 208 3 yvM s'.a s'.n s'.c (yk4 (v.l ++ [(⟨x.seq,rs.n,off⟩:PDid)])):=by
  rw [e5]; exact (yaE hR51 M59 hmS).rebase (Nat.zero_le _)
 have hz:¬ (yi3 eps (ddL L) p x off ≠ 0 ∨ x.prod = 0):=by rw [e]; simp [g5]
 have hdd:ddL (put L (x.prod,p) (⟨s',yk4 (v.l ++ [⟨x.seq,rs.n,off⟩])⟩:DidV)) = ym1 eps (ddL L) p x off:=by
  rw [ym1,if_neg hz,hdid,← hrn]
  exact (yeJ (fun q:DidV => q.l) L (x.prod,p) ⟨s',yk4 (v.l ++ [⟨x.seq,rs.n,off⟩])⟩).symm
 have hold:∀ q ∈ put L (x.prod,p) (⟨s',yk4 (v.l ++ [⟨x.seq,rs.n,off⟩])⟩:DidV),q = ((x.prod,p),⟨s',yk4 (v.l ++ [⟨x.seq,rs.n,off⟩])⟩) ∨ q ∈ L ∧ q.1 ≠ (x.prod,p):=fun q hq => yqI hnd hq
 have hAp:(put L (x.prod,p) (⟨s',yk4 (v.l ++ [⟨x.seq,rs.n,off⟩])⟩:DidV)).Pairwise fun a b => ye1 (yaP a.2.s.a) (yaP b.2.s.a) :=
  yCW (fp:=fun q:ymZ × DidV => yaP q.2.s.a) (w:=w) hnd hP (fun q hq z hz => (yaQ (hD q hq) z hz).2) fun z hz => .inl (by have:=hnew z hz; omega)
 generalize put L (x.prod,p) (⟨s',yk4 (v.l ++ [⟨x.seq,rs.n,off⟩])⟩:DidV) = L' at hm59 hdd hold hAp
 rw [e]
 have hR1:Row w59 0 3 1 yd4 sl.a sl.n sl.c eps:=yaE hR N59 fun z hz hz' => by
  rcases List.mem_cons.1 hz with rfl | hz
  ·exact hmr hR hz'
  ·exact ybA hvR hR (by decide) z hz hz'
 refine ⟨rfl,b :: m :: (yaP sl.a ++ L'.flatMap fun q => yaP q.2.s.a),⟨sl,m,L',hb59,hR1,hm59,fun q hq => ?_,hAp,hdd.symm,rfl⟩,N59.less fun z hz _ => ?_,fun z hz => ?_⟩
 ·rcases hold q hq with rfl | ⟨hqL,hqk⟩
  ·exact hR59
  ·refine yaE (hD q hqL) N59 fun z hz hz' => ?_
   rcases List.mem_cons.1 hz with rfl | hz
   ·exact hmr (hD q hqL) hz'
   ·rcases hvc with ⟨rfl,_⟩ | hvm
    ·simp [ybM,yaP] at hz
    ·obtain ⟨i,hi⟩:=List.mem_iff_getElem?.1 hqL
     obtain ⟨j,hj⟩:=List.mem_iff_getElem?.1 hvm
     have hij:j ≠ i:=by
      rintro rfl
      rw [hi] at hj; cases hj
      exact hqk rfl
     exact yi1 (fp:=fun q:ymZ × DidV => yaP q.2.s.a) hP hij hj hi z hz hz'
 ·rcases List.mem_cons.1 hz with rfl | hz
  ·simp
  ·have:=hvF z hz
   simp only [List.mem_cons,List.mem_append]
   exact .inr (.inr (.inr this))
 ·simp only [List.mem_cons,List.mem_append,List.mem_flatMap] at hz ⊢
  rcases hz with h1 | h1 | h1 | ⟨q,hq,h1⟩
  ·exact .inl (.inl h1)
  ·exact .inl (.inr (.inl h1))
  ·exact .inl (.inr (.inr (.inl h1)))
  ·rcases hold q hq with rfl | ⟨hqL,hqk⟩
   ·have:=hnew z h1; exact .inr (by omega)
   ·exact .inl (.inr (.inr (.inr ⟨q,hqL,h1⟩)))
end Go.Proofs.YtkepmmocldnnfaaGreat
namespace Go.Proofs
open Go.Shelf
shelf_lay_g SlLaysZ.n7 Ggz 7 at Tryz 133 as Tryz.keysTL
shelf_lay_g SlLaysZ.n7 Ggz 7 at Tryz 147 as Tryz.keysGL
shelf_lay_g SlLaysZ.n8 Ggz 8 at Tryz 132 as Tryz.collSL
shelf_lay_g SlLaysZ.n6 Ggz 6 at Tryz 146 as Tryz.sortedSL
shelf_lay_g SlLaysM.n6 Slgm 6 at Tryz 134 as Tryz.sortSL
end Go.Proofs
namespace Go.Proofs.YtkepmmocldnnfaaGreat
open Go Go.RowKit Go.Maps Go.Sort Go.Shelf Go.MapKept Go.WideElems Go.WideShapes
set_option linter.unusedVariables false
set_option linter.unusedSimpArgs false
def kb (s:ByteArray):List UInt8:=s.data.toList
def fb (x:List UInt8):ByteArray:=⟨x.toArray⟩
theorem yK7 (s:ByteArray):fb (kb s) = s:=by simp [fb,kb]
def ygP (l:List (List UInt8)):List (List UInt8):=l.mergeSort fun x y => decide (x ≤ y)
def ydK (l:List ByteArray):List ByteArray:=(ygP (l.map kb)).map fb
theorem yo6 {a b:List (List UInt8)} (h:a.Perm b):ygP a = ygP b:=by
 have tr:∀ a b c:List UInt8,decide (a ≤ b) = true → decide (b ≤ c) = true → decide (a ≤ c) = true:=by
  intro a b c h1 h2
  simp only [decide_eq_true_eq] at *
  exact List.le_trans h1 h2
 have to:∀ a b:List UInt8,(decide (a ≤ b) || decide (b ≤ a)) = true:=by
  intro a b
  rcases List.le_total a b with h | h <;> simp [h]
 have p1:=List.pairwise_mergeSort tr to a
 have p2:=List.pairwise_mergeSort tr to b
 have hp:(ygP a).Perm (ygP b):=((List.mergeSort_perm a _).trans h).trans (List.mergeSort_perm b _).symm
 exact hp.eq_of_pairwise (fun x y _ _ h1 h2 => by
  simp only [decide_eq_true_eq] at h1 h2
  exact List.le_antisymm h1 h2) p1 p2
theorem yzO {a b:List ByteArray} (h:a.Perm b):ydK a = ydK b:=by rw [ydK,ydK,yo6 (h.map kb)]
theorem yfO (l:List ByteArray):(ydK l).length = l.length:=by simp [ydK,ygP,List.length_mergeSort]
theorem yd5 (l:List ByteArray):(ydK l).Perm l:=by
 have h:=(List.mergeSort_perm (l.map kb) fun x y => decide (x ≤ y)).map fb
 have e:(l.map kb).map fb = l:=by rw [List.map_map]; have:l.map (fb ∘ kb) = l.map id:=List.map_congr_left fun s _ => yK7 s; rw [this,List.map_id]
 rw [e] at h
 exact h
theorem yCX (ss:List (List UInt8)):(ygP ss).map encStr = ((ygP ss).map fb).flatMap ydC:=by
 rw [List.flatMap_map,List.map_eq_flatMap]; rfl
theorem yaX.ownsS {P:Program} {t:TypeId} {β:Type} {ev:β → Value} {w:World} {b:Nat} {L:List (ByteArray × β)} (h:yaX P t hks ev w b L) (ht:P.underlying t = some .string) (hl:L.length ≤ maxLen) :
  ∃ D:DataW Unit,w.ownsMap P t (fun _ => some (.nil,[])) b L.length D ∧ (strKeys D).Perm (L.map fun p => kb p.1) ∧ Maps.size D = L.length:=by
 obtain ⟨es,clock,hb,he,hk,hs⟩:=h
 have hlen:es.toList.length = L.length:=by simpa using congrArg List.length he
 have hrd:∀ x ∈ es.toList,∃ k:ByteArray,x.key = .string k ∧ Go.WideElems.rd (H:=Unit) P t (fun _ => some (.nil,[])) x = some (.string (kb k),.nil):=by
  intro x hx
  have hm:(x.key,x.val) ∈ es.toList.map fun e => (e.key,e.val):=List.mem_map.2 ⟨x,hx,rfl⟩
  rw [he] at hm
  obtain ⟨p,hp,hpe⟩:=List.mem_map.1 hm
  simp only [Prod.mk.injEq] at hpe
  obtain ⟨l,hl⟩:=hk p hp
  obtain ⟨y,hy1,rfl,_⟩:=Maps.keyOf_str ht hl
  have hy:kb p.1 = y:=by
   have:hks p.1 = encStr y:=hy1
   simp only [hks,encStr,Value.string.injEq] at this
   rw [this]; simp [kb]
  refine ⟨p.1,hpe.1.symm,?_⟩
  unfold Go.WideElems.rd
  rw [← hpe.1,hl,hy]; rfl
 have hmap:(es.toList.map (Go.WideElems.rg (H:=Unit) P t (fun _ => some (.nil,[])))).map (fun p => Go.strOf p.1) = L.map fun p => kb p.1:=by
  have e2:es.toList.map (fun e => e.key) = L.map (fun p => Value.string p.1):=by
   have:=congrArg (List.map fun q:Value × Value => q.1) he
   simpa [Function.comp_def] using this
  have e3:es.toList.map (fun e => (match e.key with | .string k => kb k | _ => []:List UInt8)) = L.map fun p => kb p.1:=by
   have:=congrArg (List.map fun v:Value => (match v with | .string k => kb k | _ => []:List UInt8)) e2
   simpa [Function.comp_def] using this
  rw [← e3,List.map_map]
  apply List.map_congr_left
  intro x hx
  obtain ⟨k,h1,h3⟩:=hrd x hx
  simp only [Function.comp_apply,h1]
  unfold Go.WideElems.rg
  rw [h3]; rfl
 have hlen':es.size = L.length:=by simpa using hlen
 refine ⟨DataW.map ((es.toList.map (Go.WideElems.rg P t (fun _ => some (.nil,[])))).foldr DataW.insert []),⟨es,clock,hb,⟨by omega,hs,fun x hx => ?_⟩,by omega,rfl⟩,?_,?_⟩
 ·obtain ⟨k,h1,h3⟩:=hrd x hx; exact ⟨_,h3⟩
 ·rw [← hmap]
  exact (sorted_perm _).map _
 ·rw [Maps.size_eq,length_sorted]; simpa using hlen
theorem yCY (n:Nat):AnyZ.SortsIn pP Tryz.sortedSL_ren Fence.wide n :=
  ⟨fun blk off cap ss W hH hblk hsz => callsIn_wide.2 (AnyM.slices_Sort_string Tryz.sortSL blk off cap ss W hH hblk hsz),
   fun p cap W => callsIn_wide.2 (AnyM.slices_Sort_string_none Tryz.sortSL p cap W)⟩
theorem yEK (mb:Option Nat) (w:World):Calls pP 147 #[.map mb] w fun e w' =>
  e = .returned (.func (.func 165) #[] #[.pointer (some ⟨w.heap.size,0,none⟩)]) ∧ w' = w.alloc (.cells #[.map mb] 198) :=
 (callsIn_wide (n:=5)).1 (AnyZ.keys_in Tryz.keysGL Fence.wide 5 trivial rfl mb w)
theorem yEL (mb:Option Nat) (w:World):Calls pP 133 #[.map mb] w fun e w' =>
  e = .returned (.func (.func 158) #[] #[.pointer (some ⟨w.heap.size,0,none⟩)]) ∧ w' = w.alloc (.cells #[.map mb] 117) :=
 (callsIn_wide (n:=5)).1 (AnyZ.keys_in Tryz.keysTL Fence.wide 5 trivial rfl mb w)
theorem ym2 {w:World} {base:Nat} {v:Value} {ss:List (List UInt8)} (h:w.ownsRow base 9 1 v ss.length (ss.map encStr)):∃ a c,v = .slice a ss.length c ∧ Row w base 9 1 ydC a ss.length c (ss.map fb):=by
 have hv:∃ a c,v = .slice a ss.length c:=by
  rcases h.2 with ⟨h1,h2⟩ | ⟨g,cap,cur,h1,_⟩
  ·exact ⟨none,0,by rw [h1,h2]⟩
  ·exact ⟨_,_,h1⟩
 obtain ⟨a,c,rfl⟩:=hv
 refine ⟨a,c,rfl,by simp,?_⟩
 have e:(ss.map fb).flatMap ydC = ss.map encStr:=by rw [List.flatMap_map,List.map_eq_flatMap]; rfl
 rw [e]; exact h
theorem yzP {β:Type} {ev:β → Value} {w:World} {b Bm:Nat} {L:List (ByteArray × β)} (h:yaX pP 9 hks ev w b L) (hl:L.length ≤ 1000000) (hB:Bm < w.heap.size) (hm:w.cell? ⟨Bm,0,none⟩ = some (.map (some b))) :
  Calls pP 146 #[.func (.func 165) #[] #[.pointer (some ⟨Bm,0,none⟩)]] w fun e w' => ∃ v,e = .returned v ∧
   ∃ s':Sl,v = .slice s'.a s'.n s'.c ∧ Row w' w.heap.size 9 1 ydC s'.a s'.n s'.c (ydK (L.map (·.1))) ∧ Mod [] w w':=by
 obtain ⟨D,hown,hperm,hsz⟩:=h.ownsS Tryz.underlying9 (by unfold maxLen; omega)
 have hseq:SeqGives Fence.wide 2 pP 165 #[.pointer (some ⟨Bm,0,none⟩)] encStr (fun ss => ss.Perm (strKeys D)) (Maps.size D) w :=
  AnyZ.keys_gives (ρ:=Tryz.keysGL_ren) { Tryz.keysGL with } Fence.wide _ trivial rfl (by omega) Bm b _ D w hB hm hown
 have cS:=AnyZ.sorted_in Tryz.sortedSL Fence.wide 5 trivial trivial trivial trivial rfl (by omega) (yCY _) (enters_of Tryz.func134 (by kernel_rfl) rfl) 165 #[.pointer (some ⟨Bm,0,none⟩)] trivial (enters_of Tryz.func165 (by kernel_rfl) rfl) _ _ (by rw [hsz]; unfold maxLen; omega) (by rw [hsz]; omega) _ hseq
 refine ((callsIn_wide (n:=5)).1 cS).mono ?_
 rintro e w' ⟨v,ss,rfl,hS,hrow,hnil,hb⟩
 have hss:(ygP ss).map fb = ydK (L.map (·.1)):=by
  rw [ydK,List.map_map]
  exact congrArg (List.map fb) (yo6 (hS.trans hperm))
 have hrow:w'.ownsRow w.heap.size 9 1 v (ygP ss).length ((ygP ss).map encStr):=by
  rw [show (ygP ss).length = ss.length by simp [ygP]]
  exact hrow
 obtain ⟨a,c,rfl,hR⟩:=ym2 hrow
 rw [hss] at hR
 exact ⟨_,rfl,⟨a,_,c⟩,rfl,hR,Mod.of_below hb⟩
theorem yvP {β:Type} {ev:β → Value} {w:World} {b Bm:Nat} {L:List (ByteArray × β)} (h:yaX pP 9 hks ev w b L) (hl:L.length ≤ 1000000) (hB:Bm < w.heap.size) (hm:w.cell? ⟨Bm,0,none⟩ = some (.map (some b))) :
  Calls pP 132 #[.func (.func 158) #[] #[.pointer (some ⟨Bm,0,none⟩)]] w fun e w' => ∃ v,e = .returned v ∧
   ∃ (s':Sl) (l:List ByteArray),v = .slice s'.a s'.n s'.c ∧ Row w' w.heap.size 9 1 ydC s'.a s'.n s'.c l ∧ l.Perm (L.map (·.1)) ∧ Mod [] w w':=by
 obtain ⟨D,hown,hperm,hsz⟩:=h.ownsS Tryz.underlying9 (by unfold maxLen; omega)
 have hseq:SeqGives Fence.wide 3 pP 158 #[.pointer (some ⟨Bm,0,none⟩)] encStr (fun ss => ss.Perm (strKeys D)) (Maps.size D) w :=
  AnyZ.keys_gives (ρ:=Tryz.keysTL_ren) { Tryz.keysTL with } Fence.wide _ trivial rfl (by omega) Bm b _ D w hB hm hown
 have cS:=AnyZ.collect_in Tryz.collSL Fence.wide 5 trivial trivial rfl (by omega) 158 #[.pointer (some ⟨Bm,0,none⟩)] trivial (enters_of Tryz.func158 (by kernel_rfl) rfl) _ _ (by rw [hsz]; unfold maxLen; omega) (by rw [hsz]; omega) _ hseq
 refine ((callsIn_wide (n:=5)).1 cS).mono ?_
 rintro e w' ⟨v,ss,rfl,hS,hrow,hnil,hb⟩
 obtain ⟨a,c,rfl,hR⟩:=ym2 hrow
 refine ⟨_,rfl,⟨a,_,c⟩,_,rfl,hR,?_,Mod.of_below hb⟩
 have:=(hS.trans hperm).map fb
 rw [List.map_map] at this
 have e:L.map (fb ∘ fun p => kb p.1) = L.map (·.1):=List.map_congr_left fun p _ => yK7 p.1
 rwa [e] at this
theorem yEM {w:World} {B:Nat} {s:Sl} {l:List ByteArray} (h:Row w B 9 1 ydC s.a s.n s.c l) (hl:l.length ≤ 1000000) :
  Calls pP 134 #[.slice s.a s.n s.c] w fun e w' => e = .returned (.tuple #[]) ∧ Row w' B 9 1 ydC s.a s.n s.c (ydK l) ∧ Mod (yaP s.a) w w':=by
 obtain ⟨a,n,c⟩:=s
 obtain ⟨hn,ho⟩:=h
 have hn:n = l.length:=hn
 have ekb:(l.map kb).map encStr = l.flatMap ydC:=by
  rw [List.map_map,List.map_eq_flatMap]
  refine congrArg (fun f => l.flatMap f) (funext fun s => ?_)
  simp [ydC,kb]
 rcases ho.2 with ⟨h1,h2⟩ | ⟨g,cap,cur,hv,hb,hg,hnc,hcm,hsz,htk⟩
 ·simp only [Value.slice.injEq] at h1
  obtain ⟨rfl,rfl,rfl⟩:=h1
  have:l = []:=List.eq_nil_of_length_eq_zero (by omega)
  subst this
  refine (AnyM.slices_Sort_string_none Tryz.sortSL none 0 w).mono ?_
  rintro e w' ⟨rfl,rfl⟩
  have e0:ydK [] = []:=by simp [ydK,ygP]
  rw [e0]
  exact ⟨rfl,Row.nil ..,(Mod.refl _).less (by simp)⟩
 ·simp only [Value.slice.injEq] at hv
  obtain ⟨rfl,_,rfl⟩:=hv
  have hlk:(l.map kb).length = n:=by rw [List.length_map]; exact hn.symm
  have hH:Holds encStr w g 0 (l.map kb).toArray:=holds_of_block hg (by rw [hlk,ekb]; simpa using htk)
  subst hn
  have cS:=AnyM.slices_Sort_string Tryz.sortSL g 0 c (l.map kb) w hH (yaL hg) (by simp; omega)
  rw [hlk] at cS
  refine cS.mono ?_
  rintro e w' ⟨rfl,k,os,rfl⟩
  have hgr:=grownBy_sorted (w:=w) (g:=g) (n:=k) (os:=os) (ygP (l.map kb)).toArray
  refine ⟨rfl,?_,⟨hgr.os,hgr.tape,hgr.output,hgr.size,fun z hz hz' => hgr.block z hz fun e => hz' (by cases e; simp [yaP])⟩⟩
  have hrow:=ownsRow_sorted (w:=w) (base:=B) (g:=g) (cap:=c) (n:=k) (os:=os) (ss:=l.map kb) (ts:=ygP (l.map kb)) (by simp [ygP]) hb hg (by rw [hlk]; exact hnc) hcm hsz
  refine ⟨(yfO l).symm,?_⟩
  rw [yCX,hlk] at hrow
  exact hrow
end Go.Proofs.YtkepmmocldnnfaaGreat
namespace Go.Proofs.YtkepmmocldnnfaaGreat
open Go Go.RowKit
set_option linter.all false
section
set_option maxRecDepth 100000
variable {R:VWP} {w w0:World} {m:Nat} {i0 i1 i2 i3 i4 i5 i6 i7 i8 i9 j0 j1 j2 j3 j4 j5 j6 j7 j8 j9 k0 k1 k2 k3 k4 k5 k6 k7 k8 k9 l0 l1 l2 l3 l4 l5 l6 l7 l8 l9:Int} {s0 s1 s2 s3 s4 s5 s6 s7 s8 s9 t0 t1 t2 t3 t4 t5 t6 t7 t8 t9:BA} {n0 n1 n2 n3 n4 n5 n6 n7 n8 n9 o0 o1 o2 o3 o4 o5 o6 o7 o8 o9 p0 p1 p2 p3 p4 p5 p6 p7 p8 p9:Nat} {q0 q1 q2 q3 q4 q5 q6 q7 q8 q9 r0 r1 r2 r3 r4 r5 r6 r7 r8 r9:OA} {B0 B1 B2 B3 B4 B5 B6 B7 B8 B9:Bool} {M0 M1 M2 M3:Option Nat} {V0 V1 V2 V3 V4 V5:Value} {A0 A1 A2:Addr}
theorem yHf (h :
 al w (.map #[] 0) fun b4 w5 =>
 ∀ b6,w5.heap.size ≤ b6 →
 ∀ w7,Adv [] [b6] w5 w7 → w7.heap[b6]? = some (.cells #[.int .i64 0,.bool false,(.map (some b4))] 200) →
 R (.pointer (some ⟨b6,0,none⟩)) w7) :
 CR pP 75 #[] w R :=
 yaB Tryz.wide_mixed (an:=[]) Tryz.func75 rfl rfl (by kernel_rfl) rfl (Eq.mpr (by kernel_rfl) h)
theorem yHg (h :
 brB (decide (i0 ≥ 0)) (
 R (.bool (decide (i0 ≤ 1099511627776))) w)
 (
 R (.bool false) w)) :
 CR pP 126 #[.int .i64 i0] w R :=
 yaB Tryz.wide_mixed (an:=[]) Tryz.func126 rfl rfl (by kernel_rfl) rfl (Eq.mpr (by kernel_rfl) h)
def yqJ:LA:=⟨[0,0,1,0,1,1],[1,3,9,10,11],[(1,0,0)],1,[]⟩
def yqK:List LA:=[yqJ]
abbrev yFY:=dnF pP yqK (code Tryz.f124)
abbrev yL8:=ya0 pP yqK (code Tryz.f124)
abbrev yFZ (p:List Nat) (K:List Kh) (R:VWP):=ya0 pP yqK (code Tryz.f124) p K (ybO pP Tryz.f124 [] R)
def yh7 (a8:OA) (b2 b0:Nat) (a9:OA) (b3 b1:Nat) (a6:Int) (bm0:Nat) (a3:BA) (a0:OA) (a2 a1:Nat) (a4 a5:Int):Int → List Value × List TB:=fun a7 => ([(.pointer (some ⟨bm0,0,none⟩)),.slice a8 b2 b0,.slice a9 b3 b1,.int .i64 a6,.int .i64 a7],[⟨bm0,153,[.string a3,.slice a0 a2 a1,.int .i64 a4,.int .i64 a5],false⟩])
abbrev yvQ (a7:OA) (b1 a9:Nat) (a8:OA) (b2 b0:Nat) (a6:Int) (bm0:Nat) (a3:BA) (a0:OA) (a2 a1:Nat) (a4 a5:Int) (I:Nat → Int → World → Prop) (m:Nat):Kh:=KG (yh7 a7 b1 a9 a8 b2 b0 a6 bm0 a3 a0 a2 a1 a4 a5) (U1 I) m
theorem yo7 {I:Nat → Int → World → Prop} (m':Nat) (h1:m' < m) (h2:I m' i3 w):KS (yvQ q0 n0 n1 q1 n2 n3 i0 n4 s0 q2 n5 n6 i1 i2 I m) (yh7 q0 n0 n1 q1 n2 n3 i0 n4 s0 q2 n5 n6 i1 i2 i3) w:=⟨m',h1,_,rfl,rfl,h2⟩
theorem yzQ {a9:OA} {b0:OA} {a1:BA} {a3:OA} (I:Nat → Int → World → Prop) (m0:Nat) (h0:I m0 i3 w0)
 (hr:∀ m a6 w,I m a6 w →
 brB (decide (a6 < i0)) (
 ixA b0 n2 a6 1 fun q5 =>
 yaK w q5 fun s6 =>
 Calls pP 144 #[.string s6] w fun e b5 => ∃ b9,e = .returned (.bool b9) ∧ yaG [n4] w b5 ∧
 brB (!b9) (
 R (.bool false) b5)
 (
 brB (decide (a6 > 0)) (
 ixA a9 n0 (IntKind.wrap .i64 (a6 - 1)) 1 fun c4 =>
 yaK b5 c4 fun b8 =>
 brB ((Op.bytesLess s6.toList b8.toList) || (s6.toList == b8.toList)) (
 R (.bool false) b5)
 (
 KS (yvQ a9 n0 n1 b0 n2 n3 i0 n4 a1 a3 n5 n6 i1 i2 I m) (yh7 a9 n0 n1 b0 n2 n3 i0 n4 a1 a3 n5 n6 i1 i2 (IntKind.wrap .i64 (a6 + 1))) b5))
 (
 KS (yvQ a9 n0 n1 b0 n2 n3 i0 n4 a1 a3 n5 n6 i1 i2 I m) (yh7 a9 n0 n1 b0 n2 n3 i0 n4 a1 a3 n5 n6 i1 i2 (IntKind.wrap .i64 (a6 + 1))) b5)))
 (
 Calls pP 144 #[.string a1] w fun e b2 => ∃ c0,e = .returned (.bool c0) ∧ yaG [n4] w b2 ∧
 brB c0 (
 brB (decide ((n0:Int) > 0)) (
 brB (decide ((n0:Int) ≤ 8)) (
 brB (decide (i1 > 0)) (
 Calls pP 126 #[.int .i64 i1] b2 fun e b6 => ∃ c1,e = .returned (.bool c1) ∧ yaG [n4] b2 b6 ∧
 brB c1 (
 Calls pP 126 #[.int .i64 i2] b6 fun e c3 => ∃ c2,e = .returned (.bool c2) ∧ yaG [n4] b6 c3 ∧
 R (.bool c2) c3)
 (
 R (.bool false) b6))
 (
 R (.bool false) b2))
 (
 R (.bool false) b2))
 (
 R (.bool false) b2))
 (
 R (.bool false) b2))) :
 yaU yqJ (yFY 396 [0,0,1,0,1,1]) (yFZ [1,1,0,1,0] [] R) (yh7 a9 n0 n1 b0 n2 n3 i0 n4 a1 a3 n5 n6 i1 i2 i3) w0 :=
 lrule (yh7 a9 n0 n1 b0 n2 n3 i0 n4 a1 a3 n5 n6 i1 i2) (U1 I) h0 (by rintro m a6 w h; exact ⟨by kernel_rfl,by kernel_rfl,fun js => Eq.mpr (by kernel_rfl) (hr m a6 w h)⟩)
theorem yHh (h :
 ∀ b2,w.heap.size ≤ b2 →
 ∀ a6,Adv [] [b2] w a6 →
 yaU yqJ (yFY 396 [0,0,1,0,1,1]) (yFZ [1,1,0,1,0] [] R) (yh7 q0 n0 n1 q0 n0 n1 (n0:Int) b2 s0 q0 n0 n1 i0 i1 0) a6) :
 CR pP 124 #[(.agg (Z8 s0 q0 n0 n1 i0 i1))] w R :=
 yaB Tryz.wide_mixed (an:=yqK) Tryz.func124 rfl rfl (by kernel_rfl) rfl (Eq.mpr (by kernel_rfl) h)
theorem yHi (h :
 ∀ b3,w.heap.size ≤ b3 →
 ∀ b4,w.heap.size ≤ b4 →
 ∀ a6,Adv [] [b4,b3] w a6 →
 Calls pP 24 #[.slice q0 n0 n1] a6 fun e b0 => ∃ a7 a9 a8,e = .returned (.slice a7 a9 a8) ∧ yaG [b3,b4] a6 b0 ∧
 ∀ b1,Adv [b4,b3] [] b0 b1 →
 R (.agg (Z8 s0 a7 a9 a8 i0 i1)) b1) :
 CR pP 125 #[(.agg (Z8 s0 q0 n0 n1 i0 i1))] w R :=
 yaB Tryz.wide_mixed (an:=[]) Tryz.func125 rfl rfl (by kernel_rfl) rfl (Eq.mpr (by kernel_rfl) h)
theorem yHj {b0:Nat} {a0:BA} {a3 a2:Nat} (hb:w.heap[b0]? = some (.cells #[.int .i64 i0,.bool B0,(.map M0)] 200)) (h :
 ∀ b2,w.heap.size ≤ b2 →
 ∀ w3,Adv [] [b2] w w3 →
 ∃ s4 a5 n6 c7 x8 x9 b3,(∀ w',Mod [] w3 w' → (Instr.lookup 198 (.map M0) (.string a0) true).run pP w' = .ok (.tuple #[(.agg (Z8 s4 a5 n6 c7 x8 x9)),.bool b3]) w') ∧
 ∀ a6,w3.heap.size ≤ a6 →
 ∀ c4,Adv [] [a6] w3 c4 →
 Calls pP 124 #[(.agg (Z8 a0 q0 a3 a2 i1 i2))] c4 fun e a7 => ∃ h5,e = .returned (.bool h5) ∧ yaG [b0,b2,a6] c4 a7 ∧
 brB (!h5) (
 ∀ c5,Adv [] [] a7 c5 → c5.heap[b0]? = some (.cells #[.int .i64 i0,.bool B0,(.map M0)] 200) →
 R (.tuple #[.int .i64 0,.int .i64 1]) c5)
 (
 ∃ u1,(∀ w',Mod [] a7 w' → (Builtin.len_ #[198] 3 #[(.map M0)]).run pP w' = .ok (.int .i64 u1) w') ∧
 brB (decide (u1 > 0)) (
 brB (!(B0 == B1)) (
 ∀ c6,Adv [] [] a7 c6 → c6.heap[b0]? = some (.cells #[.int .i64 i0,.bool B0,(.map M0)] 200) →
 R (.tuple #[.int .i64 0,.int .i64 112]) c6)
 (
 ∃ u2,(∀ w',Mod [] a7 w' → (Builtin.len_ #[198] 3 #[(.map M0)]).run pP w' = .ok (.int .i64 u2) w') ∧
 brB (decide (u2 ≥ 8)) (
 brB (!b3) (
 brB (!b3) (
 ∀ c8,Adv [] [] a7 c8 → c8.heap[b0]? = some (.cells #[.int .i64 i0,.bool B0,(.map M0)] 200) →
 R (.tuple #[.int .i64 0,.int .i64 2]) c8)
 (
 ∀ c9,Adv [] [] a7 c9 →
 Calls pP 125 #[(.agg (Z8 a0 q0 a3 a2 i1 i2))] c9 fun e d0 => ∃ g9 f4 g4 f9 u3 u4,e = .returned (.agg (Z8 g9 f4 g4 f9 u3 u4)) ∧ yaG [b0,b2,a6] c9 d0 ∧ (((.string a0):Value) = (.string a0)) ∧ (((.map M0):Value) = (.map M0)) ∧
 ∃ w1 u5,∃ b5,(Instr.mapEntry 198 (.map M0) (.string a0)).run pP d0 = .ok (.tuple #[w1,.int .i64 u5]) b5 ∧ yaG [b0,b2,a6] d0 b5 ∧
 yc7 pP (Instr.entryStore 198 (.map M0) (.int .i64 u5) (.agg (Z8 g9 f4 g4 f9 u3 u4))) b5 fun h6 => yaG [b0,b2,a6] b5 h6 ∧
 ∀ d1,Adv [b0] [] h6 d1 → d1.heap[b0]? = some (.cells #[(.int .i64 (IntKind.wrap .i64 (i0 + 1))),.bool B1,(.map M0)] 200) →
 R (.tuple #[(.int .i64 (IntKind.wrap .i64 (i0 + 1))),.int .i64 0]) d1))
 (
 brB (decide (i0 ≥ 1099511627776)) (
 ∀ d2,Adv [] [] a7 d2 → d2.heap[b0]? = some (.cells #[.int .i64 i0,.bool B0,(.map M0)] 200) →
 R (.tuple #[.int .i64 0,.int .i64 2]) d2)
 (
 ∀ d3,Adv [] [] a7 d3 →
 Calls pP 125 #[(.agg (Z8 a0 q0 a3 a2 i1 i2))] d3 fun e d4 => ∃ h0 f5 g5 g0 u6 u7,e = .returned (.agg (Z8 h0 f5 g5 g0 u6 u7)) ∧ yaG [b0,b2,a6] d3 d4 ∧ (((.string a0):Value) = (.string a0)) ∧ (((.map M0):Value) = (.map M0)) ∧
 ∃ w2 u9,∃ b6,(Instr.mapEntry 198 (.map M0) (.string a0)).run pP d4 = .ok (.tuple #[w2,.int .i64 u9]) b6 ∧ yaG [b0,b2,a6] d4 b6 ∧
 yc7 pP (Instr.entryStore 198 (.map M0) (.int .i64 u9) (.agg (Z8 h0 f5 g5 g0 u6 u7))) b6 fun h7 => yaG [b0,b2,a6] b6 h7 ∧
 ∀ d5,Adv [b0] [] h7 d5 → d5.heap[b0]? = some (.cells #[(.int .i64 (IntKind.wrap .i64 (i0 + 1))),.bool B1,(.map M0)] 200) →
 R (.tuple #[(.int .i64 (IntKind.wrap .i64 (i0 + 1))),.int .i64 0]) d5)))
 (
 brB (decide (i0 ≥ 1099511627776)) (
 ∀ d6,Adv [] [] a7 d6 → d6.heap[b0]? = some (.cells #[.int .i64 i0,.bool B0,(.map M0)] 200) →
 R (.tuple #[.int .i64 0,.int .i64 2]) d6)
 (
 ∀ d7,Adv [] [] a7 d7 →
 Calls pP 125 #[(.agg (Z8 a0 q0 a3 a2 i1 i2))] d7 fun e d8 => ∃ h1 f6 g6 g1 v0 v1,e = .returned (.agg (Z8 h1 f6 g6 g1 v0 v1)) ∧ yaG [b0,b2,a6] d7 d8 ∧ (((.string a0):Value) = (.string a0)) ∧ (((.map M0):Value) = (.map M0)) ∧
 ∃ w4 v2,∃ b7,(Instr.mapEntry 198 (.map M0) (.string a0)).run pP d8 = .ok (.tuple #[w4,.int .i64 v2]) b7 ∧ yaG [b0,b2,a6] d8 b7 ∧
 yc7 pP (Instr.entryStore 198 (.map M0) (.int .i64 v2) (.agg (Z8 h1 f6 g6 g1 v0 v1))) b7 fun h8 => yaG [b0,b2,a6] b7 h8 ∧
 ∀ d9,Adv [b0] [] h8 d9 → d9.heap[b0]? = some (.cells #[(.int .i64 (IntKind.wrap .i64 (i0 + 1))),.bool B1,(.map M0)] 200) →
 R (.tuple #[(.int .i64 (IntKind.wrap .i64 (i0 + 1))),.int .i64 0]) d9))))
 (
 ∃ v3,(∀ w',Mod [] a7 w' → (Builtin.len_ #[198] 3 #[(.map M0)]).run pP w' = .ok (.int .i64 v3) w') ∧
 brB (decide (v3 ≥ 8)) (
 brB (!b3) (
 brB (!b3) (
 ∀ e0,Adv [] [] a7 e0 → e0.heap[b0]? = some (.cells #[.int .i64 i0,.bool B0,(.map M0)] 200) →
 R (.tuple #[.int .i64 0,.int .i64 2]) e0)
 (
 ∀ e1,Adv [] [] a7 e1 →
 Calls pP 125 #[(.agg (Z8 a0 q0 a3 a2 i1 i2))] e1 fun e e2 => ∃ h2 f7 g7 g2 v4 v5,e = .returned (.agg (Z8 h2 f7 g7 g2 v4 v5)) ∧ yaG [b0,b2,a6] e1 e2 ∧ (((.string a0):Value) = (.string a0)) ∧ (((.map M0):Value) = (.map M0)) ∧
 ∃ w5 v6,∃ b8,(Instr.mapEntry 198 (.map M0) (.string a0)).run pP e2 = .ok (.tuple #[w5,.int .i64 v6]) b8 ∧ yaG [b0,b2,a6] e2 b8 ∧
 yc7 pP (Instr.entryStore 198 (.map M0) (.int .i64 v6) (.agg (Z8 h2 f7 g7 g2 v4 v5))) b8 fun h9 => yaG [b0,b2,a6] b8 h9 ∧
 ∀ e3,Adv [b0] [] h9 e3 → e3.heap[b0]? = some (.cells #[(.int .i64 (IntKind.wrap .i64 (i0 + 1))),.bool B1,(.map M0)] 200) →
 R (.tuple #[(.int .i64 (IntKind.wrap .i64 (i0 + 1))),.int .i64 0]) e3))
 (
 brB (decide (i0 ≥ 1099511627776)) (
 ∀ e4,Adv [] [] a7 e4 → e4.heap[b0]? = some (.cells #[.int .i64 i0,.bool B0,(.map M0)] 200) →
 R (.tuple #[.int .i64 0,.int .i64 2]) e4)
 (
 ∀ e5,Adv [] [] a7 e5 →
 Calls pP 125 #[(.agg (Z8 a0 q0 a3 a2 i1 i2))] e5 fun e e6 => ∃ h3 f8 g8 g3 v7 v8,e = .returned (.agg (Z8 h3 f8 g8 g3 v7 v8)) ∧ yaG [b0,b2,a6] e5 e6 ∧ (((.string a0):Value) = (.string a0)) ∧ (((.map M0):Value) = (.map M0)) ∧
 ∃ w6 v9,∃ b9,(Instr.mapEntry 198 (.map M0) (.string a0)).run pP e6 = .ok (.tuple #[w6,.int .i64 v9]) b9 ∧ yaG [b0,b2,a6] e6 b9 ∧
 yc7 pP (Instr.entryStore 198 (.map M0) (.int .i64 v9) (.agg (Z8 h3 f8 g8 g3 v7 v8))) b9 fun u0 => yaG [b0,b2,a6] b9 u0 ∧
 ∀ e7,Adv [b0] [] u0 e7 → e7.heap[b0]? = some (.cells #[(.int .i64 (IntKind.wrap .i64 (i0 + 1))),.bool B1,(.map M0)] 200) →
 R (.tuple #[(.int .i64 (IntKind.wrap .i64 (i0 + 1))),.int .i64 0]) e7)))
 (
 brB (decide (i0 ≥ 1099511627776)) (
 ∀ e8,Adv [] [] a7 e8 → e8.heap[b0]? = some (.cells #[.int .i64 i0,.bool B0,(.map M0)] 200) →
 R (.tuple #[.int .i64 0,.int .i64 2]) e8)
 (
 ∀ e9,Adv [] [] a7 e9 →
 Calls pP 125 #[(.agg (Z8 a0 q0 a3 a2 i1 i2))] e9 fun e f0 => ∃ h4 c0 c2 c1 f1 f2,e = .returned (.agg (Z8 h4 c0 c2 c1 f1 f2)) ∧ yaG [b0,b2,a6] e9 f0 ∧ (((.string a0):Value) = (.string a0)) ∧ (((.map M0):Value) = (.map M0)) ∧
 ∃ w0 f3,∃ b1,(Instr.mapEntry 198 (.map M0) (.string a0)).run pP f0 = .ok (.tuple #[w0,.int .i64 f3]) b1 ∧ yaG [b0,b2,a6] f0 b1 ∧
 yc7 pP (Instr.entryStore 198 (.map M0) (.int .i64 f3) (.agg (Z8 h4 c0 c2 c1 f1 f2))) b1 fun c3 => yaG [b0,b2,a6] b1 c3 ∧
 ∀ b4,Adv [b0] [] c3 b4 → b4.heap[b0]? = some (.cells #[(.int .i64 (IntKind.wrap .i64 (i0 + 1))),.bool B1,(.map M0)] 200) →
 R (.tuple #[(.int .i64 (IntKind.wrap .i64 (i0 + 1))),.int .i64 0]) b4))))) :
 CR pP 76 #[(.pointer (some ⟨b0,0,none⟩)),(.agg (Z8 a0 q0 a3 a2 i1 i2)),.bool B1] w R :=
 yaO Tryz.wide_mixed (an:=[]) Tryz.func76 rfl rfl (by kernel_rfl) rfl hb (Eq.mpr (by kernel_rfl) h)
theorem yHk {b0:Nat} {a0:BA} (hb:w.heap[b0]? = some (.cells #[.int .i64 i0,.bool B0,(.map M0)] 200)) (h :
 Calls pP 126 #[.int .i64 i2] w fun e w3 => ∃ t4,e = .returned (.bool t4) ∧ yaG [b0] w w3 ∧
 brB (!t4) (
 ∀ w5,Adv [] [] w3 w5 → w5.heap[b0]? = some (.cells #[.int .i64 i0,.bool B0,(.map M0)] 200) →
 R (.int .i64 1) w5)
 (
 ∀ a6,Adv [] [] w3 a6 → a6.heap[b0]? = some (.cells #[.int .i64 i0,.bool B0,(.map M0)] 200) →
 Calls pP 127 (Z16 (some ⟨b0,0,none⟩) a0 i1) a6 fun e a3 => ∃ a7,e = .returned (.int .i64 a7) ∧ ∃ b6 b4,∃ m17:Option Nat,a3.heap[b0]? = some (.cells #[.int .i64 b6,.bool b4,(.map m17)] 200) ∧
 brB (a7 != 0) (
 R (.int .i64 a7) a3)
 (
 ∃ b3 a9 b2 b1 b7 a8,(∀ w',Mod [] a3 w' → (Instr.lookup 198 (.map m17) (.string a0) false).run pP w' = .ok (.agg (Z8 b3 a9 b2 b1 b7 a8)) w') ∧
 ∀ a5,a3.heap.size ≤ a5 →
 ∀ a4,Adv [] [a5] a3 a4 → a4.heap[b0]? = some (.cells #[.int .i64 b6,.bool b4,(.map m17)] 200) →
 yc7 pP (Instr.mapUpdate 198 (.map m17) (.string a0) (.agg (Z8 b3 a9 b2 b1 b7 (if i2 > a8 then i2 else a8)))) a4 fun b5 => yaG [b0,a5] a4 b5 ∧
 R (.int .i64 0) b5))) :
 CR pP 77 #[(.pointer (some ⟨b0,0,none⟩)),.string a0,.int .i64 i1,.int .i64 i2] w R :=
 yaO Tryz.wide_mixed (an:=[]) Tryz.func77 rfl rfl (by kernel_rfl) rfl hb (Eq.mpr (by kernel_rfl) h)
theorem yHl {b0:Nat} (hb:w.heap[b0]? = some (.cells #[.int .i64 i0,.bool B0,(.map M0)] 200)) (h :
 ∀ w7,Adv [] [] w w7 → w7.heap[b0]? = some (.cells #[.int .i64 i0,.bool B0,(.map M0)] 200) →
 Calls pP 127 (Z16 (some ⟨b0,0,none⟩) s0 i1) w7 fun e w8 => ∃ x9,e = .returned (.int .i64 x9) ∧ ∃ a6 a4,∃ m12:Option Nat,w8.heap[b0]? = some (.cells #[.int .i64 a6,.bool a4,(.map m12)] 200) ∧
 brB (x9 != 0) (
 R (.int .i64 x9) w8)
 (
 yFc pP (Builtin.delete_ #[198,9] 0 #[(.map m12),.string s0]) w8 fun a8 a2 => yaG [b0] w8 a2 ∧
 Calls pP 107 #[(.pointer (some ⟨b0,0,none⟩))] a2 fun e a3 => e = .returned (.tuple #[]) ∧ ∃ a7 a5,∃ m24:Option Nat,a3.heap[b0]? = some (.cells #[.int .i64 a7,.bool a5,(.map m24)] 200) ∧
 R (.int .i64 0) a3)) :
 CR pP 78 (Z16 (some ⟨b0,0,none⟩) s0 i1) w R :=
 yaO Tryz.wide_mixed (an:=[]) Tryz.func78 rfl rfl (by kernel_rfl) rfl hb (Eq.mpr (by kernel_rfl) h)
theorem yHm {b0:Nat} (hb:w.heap[b0]? = some (.cells #[.int .i64 i0,.bool B0,(.map M0)] 200)) (h :
 ∀ w1,Adv [b0] [] w w1 → w1.heap[b0]? = some (.cells #[(.int .i64 (if 1099511627776 < (IntKind.wrap .i64 (i0 + 1)) then 1099511627776 else (IntKind.wrap .i64 (i0 + 1)))),.bool B0,(.map M0)] 200) →
 R (.tuple #[]) w1) :
 CR pP 107 #[(.pointer (some ⟨b0,0,none⟩))] w R :=
 yaO Tryz.wide_mixed (an:=[]) Tryz.func107 rfl rfl (by kernel_rfl) rfl hb (Eq.mpr (by kernel_rfl) h)
theorem yHn {b0:Nat} {a0:BA} (hb:w.heap[b0]? = some (.cells #[.int .i64 i0,.bool B0,(.map M0)] 200)) (h :
 ∃ s9 a7 a9 a8 b1 b2 a6,(∀ w',Mod [] w w' → (Instr.lookup 198 (.map M0) (.string a0) true).run pP w' = .ok (.tuple #[(.agg (Z8 s9 a7 a9 a8 b1 b2)),.bool a6]) w') ∧
 ∀ a2,w.heap.size ≤ a2 →
 brB (!a6) (
 ∀ a3,Adv [] [a2] w a3 → a3.heap[b0]? = some (.cells #[.int .i64 i0,.bool B0,(.map M0)] 200) →
 R (.int .i64 110) a3)
 (
 brB (i1 != i0) (
 ∀ a4,Adv [] [a2] w a4 → a4.heap[b0]? = some (.cells #[.int .i64 i0,.bool B0,(.map M0)] 200) →
 R (.int .i64 111) a4)
 (
 ∀ a5,Adv [] [a2] w a5 → a5.heap[b0]? = some (.cells #[.int .i64 i0,.bool B0,(.map M0)] 200) →
 R (.int .i64 0) a5))) :
 CR pP 127 (Z16 (some ⟨b0,0,none⟩) a0 i1) w R :=
 yaO Tryz.wide_mixed (an:=[]) Tryz.func127 rfl rfl (by kernel_rfl) rfl hb (Eq.mpr (by kernel_rfl) h)
def yqL:LA:=⟨[0,0,1,0,1,1,1],[2,6,14,15,16],[(2,1,0)],4,[0,1,2,3]⟩
def yqM:List LA:=[yqL]
abbrev yF0:=dnF pP yqM (code Tryz.f65)
abbrev yL9:=ya0 pP yqM (code Tryz.f65)
abbrev yF1 (p:List Nat) (K:List Kh) (R:VWP):=ya0 pP yqM (code Tryz.f65) p K (ybO pP Tryz.f65 [0] R)
def yjY (b1:OA) (b3 b2:Nat) (a6:OA) (a8 a7:Nat) (a9:Int) (bm0:Nat) (a4:Int) (a2:Bool) (a0:Option Nat) (bm1:Nat) (a1:OA) (bm2:Nat) (a5:Int) (bm3:Nat) (a3:Value):Int → List Value × List TB:=fun b0 => ([(.pointer (some ⟨bm1,0,none⟩)),.slice b1 b3 b2,.slice a6 a8 a7,.int .i64 a9,.int .i64 b0],[⟨bm0,200,[.int .i64 a4,.bool a2,(.map a0)],true⟩,⟨bm1,101,[.pointer a1],true⟩,⟨bm2,3,[.int .i64 a5],true⟩,⟨bm3,201,[a3],true⟩])
abbrev yCZ (b0:OA) (b2 b1:Nat) (a6:OA) (a8 a7:Nat) (a9:Int) (bm0:Nat) (a4:Int) (a2:Bool) (a0:Option Nat) (bm1:Nat) (a1:OA) (bm2:Nat) (a5:Int) (bm3:Nat) (a3:Value) (I:Nat → Int → World → Prop) (m:Nat):Kh:=KG (yjY b0 b2 b1 a6 a8 a7 a9 bm0 a4 a2 a0 bm1 a1 bm2 a5 bm3 a3) (U1 I) m
theorem yzR {I:Nat → Int → World → Prop} (m':Nat) (h1:m' < m) (h2:I m' i3 w):KS (yCZ q0 n0 n1 q1 n2 n3 i0 n4 i1 B0 M0 n5 q2 n6 i2 n7 V0 I m) (yjY q0 n0 n1 q1 n2 n3 i0 n4 i1 B0 M0 n5 q2 n6 i2 n7 V0 i3) w:=⟨m',h1,_,rfl,rfl,h2⟩
theorem yzS (I:Nat → Int → World → Prop) (m0:Nat) (h0:I m0 i3 w0)
 (hr:∀ m a6 w,I m a6 w →
 w.heap[n4]? = some (.cells #[.int .i64 i1,.bool B0,(.map M0)] 200) →
 w.heap[n5]? = some (.cells #[.pointer q2] 101) →
 w.heap[n6]? = some (.cells #[.int .i64 i2] 3) →
 w.heap[n7]? = some (.cells #[V0] 201) →
 brB (decide (a6 < i0)) (
 ixA q1 n2 a6 1 fun b8 =>
 yaK w b8 fun c0 =>
 yjF q2 fun b9 =>
 ylQ w (Addr.add b9 2) fun m58 =>
 yFc pP (Builtin.delete_ #[198,9] 0 #[(.map m58),.string c0]) w fun c5 b6 => yaG [n4,n5,n6,n7] w b6 ∧
 KS (yCZ q0 n0 n1 q1 n2 n3 i0 n4 i1 B0 M0 n5 q2 n6 i2 n7 V0 I m) (yjY q0 n0 n1 q1 n2 n3 i0 n4 i1 B0 M0 n5 q2 n6 i2 n7 V0 (IntKind.wrap .i64 (a6 + 1))) b6)
 (
 brB (decide ((n0:Int) > 0)) (
 Calls pP 107 #[.pointer q2] w fun e b4 => e = .returned (.tuple #[]) ∧ ∃ c3 c1,∃ m71:Option Nat,b4.heap[n4]? = some (.cells #[.int .i64 c3,.bool c1,(.map m71)] 200) ∧ ∃ b7,b4.heap[n5]? = some (.cells #[.pointer b7] 101) ∧ ∃ c4,b4.heap[n6]? = some (.cells #[.int .i64 c4] 3) ∧ ∃ c2,b4.heap[n7]? = some (.cells #[c2] 201) ∧
 R (.slice q0 n0 n1) b4)
 (
 R (.slice q0 n0 n1) w))) :
 yaU yqL (yF0 395 [0,0,1,0,1,1,1]) (yF1 [1,1,1,0,1,0] [] R) (yjY q0 n0 n1 q1 n2 n3 i0 n4 i1 B0 M0 n5 q2 n6 i2 n7 V0 i3) w0 :=
 lrule (yjY q0 n0 n1 q1 n2 n3 i0 n4 i1 B0 M0 n5 q2 n6 i2 n7 V0) (U1 I) h0 (by rintro m a6 w h; exact ⟨by kernel_rfl,by kernel_rfl,fun js => Eq.mpr (by kernel_rfl) (hr m a6 w h)⟩)
theorem yHo {b0:Nat} (hb:w.heap[b0]? = some (.cells #[.int .i64 i0,.bool B0,(.map M0)] 200)) (h :
 ∀ b3,w.heap.size ≤ b3 →
 ∀ b4,w.heap.size ≤ b4 →
 ∀ b6,w.heap.size ≤ b6 →
 ∀ a0,Adv [] [b6,b4,b3] w a0 → a0.heap[b0]? = some (.cells #[.int .i64 i0,.bool B0,(.map M0)] 200) →
 a0.heap[b3]? = some (.cells #[(.pointer (some ⟨b0,0,none⟩))] 101) →
 a0.heap[b4]? = some (.cells #[.int .i64 i1] 3) →
 Calls pP 105 #[(.pointer (some ⟨b0,0,none⟩))] a0 fun e a3 => ∃ a8 b1 a9,e = .returned (.slice a8 b1 a9) ∧ yb9 [b0,b3,b4] [(b6,201)] [b6] a0 a3 ∧ ∃ c0 b7,∃ m35:Option Nat,a3.heap[b0]? = some (.cells #[.int .i64 c0,.bool b7,(.map m35)] 200) ∧ ∃ b2,a3.heap[b3]? = some (.cells #[.pointer b2] 101) ∧ ∃ c1,a3.heap[b4]? = some (.cells #[.int .i64 c1] 3) ∧
 ∀ a1,Adv [] [] a3 a1 → a1.heap[b0]? = some (.cells #[.int .i64 c0,.bool b7,(.map m35)] 200) →
 a1.heap[b3]? = some (.cells #[.pointer b2] 101) →
 a1.heap[b4]? = some (.cells #[.int .i64 c1] 3) →
 a1.heap[b6]? = some (.cells #[(.func (.func 103) #[] #[(.pointer (some ⟨b4,0,none⟩)),(.pointer (some ⟨b3,0,none⟩))])] 201) →
 Calls pP 104 #[.slice a8 b1 a9,(.func (.func 106) #[] #[(.pointer (some ⟨b6,0,none⟩))])] a1 fun e a4 => ∃ a6 a5 a7,e = .returned (.slice a6 a5 a7) ∧ ∃ c2 b8,∃ m45:Option Nat,a4.heap[b0]? = some (.cells #[.int .i64 c2,.bool b8,(.map m45)] 200) ∧ ∃ b5,a4.heap[b3]? = some (.cells #[.pointer b5] 101) ∧ ∃ c3,a4.heap[b4]? = some (.cells #[.int .i64 c3] 3) ∧ ∃ b9,a4.heap[b6]? = some (.cells #[b9] 201) ∧
 yaU yqL (yF0 395 [0,0,1,0,1,1,1]) (yF1 [1,1,1,0,1,0] [] R) (yjY a6 a5 a7 a6 a5 a7 (a5:Int) b0 c2 b8 m45 b3 b5 b4 c3 b6 b9 0) a4) :
 CR pP 65 #[(.pointer (some ⟨b0,0,none⟩)),.int .i64 i1] w R :=
 yaO Tryz.wide_mixed (an:=yqM) Tryz.func65 rfl rfl (by kernel_rfl) rfl hb (Eq.mpr (by kernel_rfl) h)
theorem yHp {a0:BA} (h :
 yaA .i64 w A0 fun x1 =>
 ykY w A1 fun p2 =>
 yjF p2 fun q3 =>
 ylQ w (Addr.add q3 2) fun m4 =>
 ∃ s5 a6 n7 c8 x9 a2,(∀ w',Mod [] w w' → (Instr.lookup 198 (.map m4) (.string a0) false).run pP w' = .ok (.agg (Z8 s5 a6 n7 c8 x9 a2)) w') ∧
 ykY w A1 fun a8 =>
 yjF a8 fun a9 =>
 ylQ w (Addr.add a9 2) fun m13 =>
 ∃ b0 a4 a7 a5 a3 b1,(∀ w',Mod [] w w' → (Instr.lookup 198 (.map m13) (.string a0) false).run pP w' = .ok (.agg (Z8 b0 a4 a7 a5 a3 b1)) w') ∧
 ∀ a1,Adv [] [] w a1 →
 R (.bool (decide (x1 ≥ (IntKind.wrap .i64 (a2 + a3))))) a1) :
 CR pP 103 #[.string a0,(.pointer (some A0)),(.pointer (some A1))] w R :=
 yaB Tryz.wide_mixed (an:=[]) Tryz.func103 rfl rfl (by kernel_rfl) rfl (Eq.mpr (by kernel_rfl) h)
theorem yHq {b0:Nat} (hb:w.heap[b0]? = some (.cells #[.int .i64 i0,.bool B0,(.map M0)] 200)) (h :
 Calls pP 147 #[(.map M0)] w fun e w7 => ∃ v8,e = .returned v8 ∧ yaG [b0] w w7 ∧
 Calls pP 146 #[v8] w7 fun e w9 => ∃ a1 a3 a2,e = .returned (.slice a1 a3 a2) ∧ yaG [b0] w7 w9 ∧
 ∀ a0,Adv [] [] w9 a0 → a0.heap[b0]? = some (.cells #[.int .i64 i0,.bool B0,(.map M0)] 200) →
 R (.slice a1 a3 a2) a0) :
 CR pP 105 #[(.pointer (some ⟨b0,0,none⟩))] w R :=
 yaO Tryz.wide_mixed (an:=[]) Tryz.func105 rfl rfl (by kernel_rfl) rfl hb (Eq.mpr (by kernel_rfl) h)
def yqN:LA:=⟨[0,0,1,0,1,1],[0,3,7,8,9],[(0,0,0)],1,[0]⟩
def yqO:List LA:=[yqN]
abbrev yF2:=dnF pP yqO (code Tryz.f128)
abbrev yMa:=ya0 pP yqO (code Tryz.f128)
abbrev yF3 (p:List Nat) (K:List Kh) (R:VWP):=ya0 pP yqO (code Tryz.f128) p K (ybO pP Tryz.f128 [0] R)
def yjZ (a4:OA) (a8 a6:Nat) (a9:Int) (bm0:Nat):(Option Addr) × Nat × Nat × Int × Int × Bool × (Option Nat) → List Value × List TB:=fun (a3,a7,a5,b0,a2,a1,a0) => ([(.pointer (some ⟨bm0,0,none⟩)),.slice a3 a7 a5,.slice a4 a8 a6,.int .i64 a9,.int .i64 b0],[⟨bm0,200,[.int .i64 a2,.bool a1,(.map a0)],true⟩])
abbrev yC0 (a0:OA) (a2 a1:Nat) (a3:Int) (bm0:Nat) (I:Nat → Option Addr → Nat → Nat → Int → Int → Bool → Option Nat → World → Prop) (m:Nat):Kh:=KG (yjZ a0 a2 a1 a3 bm0) (U7 I) m
theorem yzT {I:Nat → Option Addr → Nat → Nat → Int → Int → Bool → Option Nat → World → Prop} (m':Nat) (h1:m' < m) (h2:I m' q1 n3 n4 i1 i2 B0 M0 w):KS (yC0 q0 n0 n1 i0 n2 I m) (yjZ q0 n0 n1 i0 n2 (q1,n3,n4,i1,i2,B0,M0)) w:=⟨m',h1,_,rfl,rfl,h2⟩
theorem yzU (I:Nat → Option Addr → Nat → Nat → Int → Int → Bool → Option Nat → World → Prop) (m0:Nat) (h0:I m0 q1 n3 n4 i1 i2 B0 M0 w0)
 (hr:∀ (m:Nat) (a7:OA) (b0 a9:Nat) (a5 a2:Int) (a1:Bool) (a0:Option Nat) (w:World),I m a7 b0 a9 a5 a2 a1 a0 w →
 w.heap[n2]? = some (.cells #[.int .i64 a2,.bool a1,(.map a0)] 200) →
 brB (decide (a5 < i0)) (
 ixA q0 n0 a5 1 fun d9 =>
 yaK w d9 fun e0 =>
 ∃ c4 b8 c2 c0 d0 d1,(∀ w',Mod [] w w' → (Instr.lookup 198 (.map a0) (.string e0) false).run pP w' = .ok (.agg (Z8 c4 b8 c2 c0 d0 d1)) w') ∧
 Calls pP 125 #[(.agg (Z8 c4 b8 c2 c0 d0 d1))] w fun e c7 => ∃ c5 b9 c3 c1 d2 d3,e = .returned (.agg (Z8 c5 b9 c3 c1 d2 d3)) ∧ ∃ d4 c6,∃ m58:Option Nat,c7.heap[n2]? = some (.cells #[.int .i64 d4,.bool c6,(.map m58)] 200) ∧
 al c7 (.cells (Z8 c5 b9 c3 c1 d2 d3) 153) fun d6 c8 =>
 ybN pP (Builtin.append_ #[230,230] 230 #[.slice a7 b0 a9,(.slice (some ⟨d6,0,none⟩) 1 1)]) c8 fun d5 d8 d7 c9 => yaG [n2] c8 c9 ∧
 KS (yC0 q0 n0 n1 i0 n2 I m) (yjZ q0 n0 n1 i0 n2 (d5,d8,d7,(IntKind.wrap .i64 (a5 + 1)),d4,c6,m58)) c9)
 (
 R (.slice a7 b0 a9) w)) :
 yaU yqN (yF2 396 [0,0,1,0,1,1]) (yF3 [1,1,0,1,0] [] R) (yjZ q0 n0 n1 i0 n2 (q1,n3,n4,i1,i2,B0,M0)) w0 :=
 lrule (yjZ q0 n0 n1 i0 n2) (U7 I) h0 (by rintro m ⟨a7,b0,a9,a5,a2,a1,a0⟩ w h; exact ⟨by kernel_rfl,by kernel_rfl,fun js => Eq.mpr (by kernel_rfl) (hr m a7 b0 a9 a5 a2 a1 a0 w h)⟩)
theorem yHr {b0:Nat} (hb:w.heap[b0]? = some (.cells #[.int .i64 i0,.bool B0,(.map M0)] 200)) (h :
 ∀ w9,Adv [] [] w w9 → w9.heap[b0]? = some (.cells #[.int .i64 i0,.bool B0,(.map M0)] 200) →
 Calls pP 105 #[(.pointer (some ⟨b0,0,none⟩))] w9 fun e a4 => ∃ a1 a0 a2,e = .returned (.slice a1 a0 a2) ∧ ∃ a5 a3,∃ m16:Option Nat,a4.heap[b0]? = some (.cells #[.int .i64 a5,.bool a3,(.map m16)] 200) ∧
 yaU yqN (yF2 396 [0,0,1,0,1,1]) (yF3 [1,1,0,1,0] [] R) (yjZ a1 a0 a2 (a0:Int) b0 (none,0,0,0,a5,a3,m16)) a4) :
 CR pP 128 #[(.pointer (some ⟨b0,0,none⟩))] w R :=
 yaO Tryz.wide_mixed (an:=yqO) Tryz.func128 rfl rfl (by kernel_rfl) rfl hb (Eq.mpr (by kernel_rfl) h)
def yqP:LA:=⟨[0,0,1,0,1,1],[0,1,2,3,10,18,19,20],[(0,0,0)],1,[0]⟩
def yqQ:List LA:=[yqP]
abbrev yF4:=dnF pP yqQ (code Tryz.f79)
abbrev yMb:=ya0 pP yqQ (code Tryz.f79)
abbrev yF5 (p:List Nat) (K:List Kh) (R:VWP):=ya0 pP yqQ (code Tryz.f79) p K (ybO pP Tryz.f79 [0] R)
def yj0 (b4:BA) (b5:Int) (b1:OA) (b3 b2:Nat) (a4:OA) (a8 a6:Nat) (a9:Int) (bm0:Nat) (a2:Int) (a1:Bool) (a0:Option Nat):(Option Addr) × Nat × Nat × Int → List Value × List TB:=fun (a3,a7,a5,b0) => ([(.pointer (some ⟨bm0,0,none⟩)),.string b4,.int .i64 b5,.slice b1 b3 b2,.slice a3 a7 a5,.slice a4 a8 a6,.int .i64 a9,.int .i64 b0],[⟨bm0,200,[.int .i64 a2,.bool a1,(.map a0)],true⟩])
abbrev yC1 (b0:BA) (b1:Int) (a7:OA) (a9 a8:Nat) (a3:OA) (a5 a4:Nat) (a6:Int) (bm0:Nat) (a2:Int) (a1:Bool) (a0:Option Nat) (I:Nat → Option Addr → Nat → Nat → Int → World → Prop) (m:Nat):Kh:=KG (yj0 b0 b1 a7 a9 a8 a3 a5 a4 a6 bm0 a2 a1 a0) (U4 I) m
theorem yzV {I:Nat → Option Addr → Nat → Nat → Int → World → Prop} (m':Nat) (h1:m' < m) (h2:I m' q2 n5 n6 i3 w):KS (yC1 s0 i0 q0 n0 n1 q1 n2 n3 i1 n4 i2 B0 M0 I m) (yj0 s0 i0 q0 n0 n1 q1 n2 n3 i1 n4 i2 B0 M0 (q2,n5,n6,i3)) w:=⟨m',h1,_,rfl,rfl,h2⟩
theorem yzW (I:Nat → Option Addr → Nat → Nat → Int → World → Prop) (m0:Nat) (h0:I m0 q2 n5 n6 i3 w0)
 (hr:∀ m a3 a5 a4 a6 w,I m a3 a5 a4 a6 w →
 w.heap[n4]? = some (.cells #[.int .i64 i2,.bool B0,(.map M0)] 200) →
 brB (decide (a6 < i1)) (
 ixA q1 n2 a6 4 fun c4 =>
 yaK w c4 fun h5 => yaC w (Addr.add c4 1) fun g6 h3 g9 => yaA .i64 w (Addr.add c4 2) fun u4 => yaA .i64 w (Addr.add c4 3) fun u5 =>
 ∀ c8,w.heap.size ≤ c8 →
 ∀ d3,Adv [] [c8] w d3 → d3.heap[n4]? = some (.cells #[.int .i64 i2,.bool B0,(.map M0)] 200) →
 al d3 (.cells #[.string h5,.slice g6 h3 g9] 151) fun g8 e5 =>
 ybN pP (Builtin.append_ #[229,229] 229 #[.slice a3 a5 a4,(.slice (some ⟨g8,0,none⟩) 1 1)]) e5 fun g7 h4 h1 e6 => yaG [n4,c8] e5 e6 ∧
 KS (yC1 s0 i0 q0 n0 n1 q1 n2 n3 i1 n4 i2 B0 M0 I m) (yj0 s0 i0 q0 n0 n1 q1 n2 n3 i1 n4 i2 B0 M0 (g7,h4,h1,(IntKind.wrap .i64 (a6 + 1)))) e6)
 (
 brB B0 (
 Calls pP 130 #[.slice q0 n0 n1,.slice a3 a5 a4] w fun e d4 => ∃ e0 e3 h2 d8,e = .returned (.tuple #[.slice e0 e3 h2,.int .i64 d8]) ∧ ∃ u0 h6,∃ m62:Option Nat,d4.heap[n4]? = some (.cells #[.int .i64 u0,.bool h6,(.map m62)] 200) ∧
 brB (d8 != 0) (
 R (.tuple #[.slice none 0 0,.int .i64 d8]) d4)
 (
 Calls pP 127 (Z16 (some ⟨n4,0,none⟩) s0 i0) d4 fun e d5 => ∃ d9,e = .returned (.int .i64 d9) ∧ ∃ u1 h7,∃ m72:Option Nat,d5.heap[n4]? = some (.cells #[.int .i64 u1,.bool h7,(.map m72)] 200) ∧
 brB (d9 != 0) (
 R (.tuple #[.slice none 0 0,.int .i64 d9]) d5)
 (
 Calls pP 105 #[(.pointer (some ⟨n4,0,none⟩))] d5 fun e e7 => ∃ e1 e4 e2,e = .returned (.slice e1 e4 e2) ∧ ∃ u2 h8,∃ m95:Option Nat,e7.heap[n4]? = some (.cells #[.int .i64 u2,.bool h8,(.map m95)] 200) ∧
 Calls pP 131 #[.slice e1 e4 e2,.string s0] e7 fun e d6 => ∃ e8,e = .returned (.int .i64 e8) ∧ ∃ u3 h9,∃ m100:Option Nat,d6.heap[n4]? = some (.cells #[.int .i64 u3,.bool h9,(.map m100)] 200) ∧
 ixA e0 e3 e8 1 fun f6 =>
 yaC d6 f6 fun e9 f4 f1 =>
 R (.tuple #[.slice e9 f4 f1,.int .i64 0]) d6)))
 (
 Calls pP 129 #[.slice q0 n0 n1,.slice a3 a5 a4] w fun e b6 => ∃ c6 d0 f2 b9,e = .returned (.tuple #[.slice c6 d0 f2,.int .i64 b9]) ∧ ∃ g2 f8,∃ m120:Option Nat,b6.heap[n4]? = some (.cells #[.int .i64 g2,.bool f8,(.map m120)] 200) ∧
 brB (b9 != 0) (
 R (.tuple #[.slice none 0 0,.int .i64 b9]) b6)
 (
 Calls pP 127 (Z16 (some ⟨n4,0,none⟩) s0 i0) b6 fun e b7 => ∃ c0,e = .returned (.int .i64 c0) ∧ ∃ g3 f9,∃ m130:Option Nat,b7.heap[n4]? = some (.cells #[.int .i64 g3,.bool f9,(.map m130)] 200) ∧
 brB (c0 != 0) (
 R (.tuple #[.slice none 0 0,.int .i64 c0]) b7)
 (
 Calls pP 105 #[(.pointer (some ⟨n4,0,none⟩))] b7 fun e d2 => ∃ c7 d1 c9,e = .returned (.slice c7 d1 c9) ∧ ∃ g4 g0,∃ m153:Option Nat,d2.heap[n4]? = some (.cells #[.int .i64 g4,.bool g0,(.map m153)] 200) ∧
 Calls pP 131 #[.slice c7 d1 c9,.string s0] d2 fun e b8 => ∃ d7,e = .returned (.int .i64 d7) ∧ ∃ g5 g1,∃ m158:Option Nat,b8.heap[n4]? = some (.cells #[.int .i64 g5,.bool g1,(.map m158)] 200) ∧
 ixA c6 d0 d7 1 fun f7 =>
 yaC b8 f7 fun f0 f5 f3 =>
 R (.tuple #[.slice f0 f5 f3,.int .i64 0]) b8))))) :
 yaU yqP (yF4 396 [0,0,1,0,1,1]) (yF5 [1,1,0,1,0] [] R) (yj0 s0 i0 q0 n0 n1 q1 n2 n3 i1 n4 i2 B0 M0 (q2,n5,n6,i3)) w0 :=
 lrule (yj0 s0 i0 q0 n0 n1 q1 n2 n3 i1 n4 i2 B0 M0) (U4 I) h0 (by rintro m ⟨a3,a5,a4,a6⟩ w h; exact ⟨by kernel_rfl,by kernel_rfl,fun js => Eq.mpr (by kernel_rfl) (hr m a3 a5 a4 a6 w h)⟩)
theorem yHs {b0:Nat} {a4 a3:Nat} (hb:w.heap[b0]? = some (.cells #[.int .i64 i0,.bool B0,(.map M0)] 200)) (h :
 ∀ w9,Adv [] [] w w9 → w9.heap[b0]? = some (.cells #[.int .i64 i0,.bool B0,(.map M0)] 200) →
 Calls pP 128 #[(.pointer (some ⟨b0,0,none⟩))] w9 fun e a9 => ∃ a6 a5 a7,e = .returned (.slice a6 a5 a7) ∧ ∃ b1 a8,∃ m16:Option Nat,a9.heap[b0]? = some (.cells #[.int .i64 b1,.bool a8,(.map m16)] 200) ∧
 yaU yqP (yF4 396 [0,0,1,0,1,1]) (yF5 [1,1,0,1,0] [] R) (yj0 s0 i1 q0 a4 a3 a6 a5 a7 (a5:Int) b0 b1 a8 m16 (none,0,0,0)) a9) :
 CR pP 79 #[(.pointer (some ⟨b0,0,none⟩)),.string s0,.int .i64 i1,.slice q0 a4 a3] w R :=
 yaO Tryz.wide_mixed (an:=yqQ) Tryz.func79 rfl rfl (by kernel_rfl) rfl hb (Eq.mpr (by kernel_rfl) h)
end
end Go.Proofs.YtkepmmocldnnfaaGreat
namespace Go.Proofs.YtkepmmocldnnfaaGreat
open Go Go.RowKit Go.Maps Go.MapKept
open Go.ChangeMaps (setBlock)
set_option linter.unusedVariables false
set_option linter.unusedSimpArgs false
theorem yhQ {w:World} {b:Nat} {o o':Obj}:setBlock (setBlock w b o) b o' = setBlock w b o':=by
 simp [setBlock,Array.setIfInBounds_setIfInBounds]
section
variable {κ β:Type} [DecidableEq κ] {P:Program} {t T e:TypeId} {ek:κ → Value} {ev:β → Value} {w:World} {b:Nat} {L:List (κ × β)} {k:κ} {l:Lit}
theorem yaX.entrySet (h:yaX P t ek ev w b L) (K:Keyed P t) (hi:∀ a b,ek a = ek b → a = b) (ht:P.underlying T = some (.map t e)) {z:Value} (hz:∀ w',(zeroValue e).run P w' = .ok z w') (v:β) (hk:keyOf P t (ek k) = some l) :
  ∃ (v0:Value) (st:Int) (w1:World),(Instr.mapEntry T (.map (some b)) (ek k)).run P w = .ok (.tuple #[v0,.int .i64 st]) w1 ∧ Mod [b] w w1 ∧
   ∃ w2,(Instr.entryStore T (.map (some b)) (.int .i64 st) (ev v)).run P w1 = .ok () w2 ∧ yaX P t ek ev w2 b (put L k v) ∧ Mod [b] w1 w2:=by
 obtain ⟨o,hrun,hput⟩:=h.update K hi ht v hk
 have hn:=h.nodup
 obtain ⟨es,clock,hb,he,hkk,hs⟩:=id h
 obtain ⟨s1,s2,s3⟩:=id hs
 rcases h.find K hi hb hk w with ⟨f1,f2⟩ | ⟨j,x,f1,hj,f2⟩
 ·have e1:(Instr.mapEntry T (.map (some b)) (ek k)).run P w = .ok (.tuple #[z,.int .i64 clock]) (setBlock w b (.map (es.push ⟨ek k,z,clock⟩) (clock + 1))):=by
   simp [Instr.mapEntry,run_underlying ht,MapKept.run_getObj_map hb,K.check w false hk,f2,hz,MapKept.run_setObj_map _ hb,Result.andThen,setBlock,goInt]
  refine ⟨_,_,_,e1,ycB,?_⟩
  have hidx:(es.push ⟨ek k,z,clock⟩).findIdx? (fun e => ((e.born:Nat):Int) == ((clock:Nat):Int)) = some es.size:=by
   rw [Go.WideElems.findIdx_arr]
   exact Go.WideElems.findIdx_born (l:=(es.push ⟨ek k,z,clock⟩).toList) (j:=es.size) (e0:=⟨ek k,z,clock⟩) (by
    simp only [Array.toList_push,List.map_append,List.map_cons,List.map_nil]
    refine List.nodup_append.2 ⟨s2,by simp,fun a ha c hc e1 => ?_⟩
    simp only [List.mem_singleton] at hc
    obtain ⟨x,hx,rfl⟩:=List.mem_map.1 ha
    have:=s1 x hx
    omega) (by simp)
  have hmod:(es.push ⟨ek k,z,clock⟩).modify es.size (fun e => { e with val:=ev v }) = es.push ⟨ek k,ev v,clock⟩:=by
   apply Array.ext'
   rw [Array.toList_modify,Array.toList_push,Array.toList_push,← Array.length_toList,Go.WideElems.modify_last]
  have hb1:=yb5 (o':=.map (es.push ⟨ek k,z,clock⟩) (clock + 1)) hb
  have e2:∀ w2:World,w2.heap[b]? = some (.map (es.push ⟨ek k,z,clock⟩) (clock + 1)) → (Instr.entryStore T (.map (some b)) (.int .i64 clock) (ev v)).run P w2 = .ok () (setBlock w2 b (.map (es.push ⟨ek k,ev v,clock⟩) (clock + 1))):=fun w2 hb1 => by
   simp [Instr.entryStore,MapKept.run_getObj_map hb1,asInt,asIntOf,hidx,hmod,MapKept.run_setObj_map _ hb1,Result.andThen,setBlock]
  refine ⟨_,e2 _ hb1,?_,ycB⟩
  rw [yhQ]
  have e3:(Instr.mapUpdate T (.map (some b)) (ek k) (ev v)).run P w = .ok () (setBlock w b (.map (es.push ⟨ek k,ev v,clock⟩) (clock + 1))):=by
   simp [Instr.mapUpdate,run_underlying ht,MapKept.run_getObj_map hb,K.check w false hk,f2,MapKept.run_setObj_map _ hb,Result.andThen,setBlock]
  rw [e3] at hrun
  injection hrun with _ h2
  rw [h2]
  exact hput
 ·have g:(es.toList.map (fun e => (e.key,e.val)))[j]? = some (ek k,ev x):=by rw [he,List.getElem?_map,hj]; rfl
  rw [List.getElem?_map,Option.map_eq_some_iff] at g
  obtain ⟨e0,he0,e2⟩:=g
  simp only [Prod.mk.injEq] at e2
  have he1:es[j]? = some e0:=by rw [← Array.getElem?_toList]; exact he0
  have hsame:es.modify j (fun e => { e with key:=ek k }) = es:=by
   apply Array.ext'
   rw [Array.toList_modify,Go.ChangeMaps.modify_eq_set _ _ _ _ he0]
   have:({ e0 with key:=ek k }:MapEntry) = e0:=by rw [← e2.1]
   rw [this]
   exact Go.WideElems.set_self _ _ _ he0
  have e1:(Instr.mapEntry T (.map (some b)) (ek k)).run P w = .ok (.tuple #[ev x,.int .i64 e0.born]) (setBlock w b (.map es clock)):=by
   simp [Instr.mapEntry,run_underlying ht,MapKept.run_getObj_map hb,K.check w false hk,f2,he1,e2.1,K.stays w hk,hsame,MapKept.run_setObj_map _ hb,Result.andThen,setBlock,goInt]
  refine ⟨_,_,_,e1,ycB,?_⟩
  have hb1:=yb5 (o':=.map es clock) hb
  have hidx:es.findIdx? (fun e => ((e.born:Nat):Int) == ((e0.born:Nat):Int)) = some j:=by
   rw [Go.WideElems.findIdx_arr]
   exact Go.WideElems.findIdx_born s2 he0
  have hmod:es.modify j (fun e => { e with val:=ev v }) = es.modify j (fun e' => { e' with key:=ek k,val:=ev v }):=by
   apply Array.ext'
   rw [Array.toList_modify,Array.toList_modify,Go.ChangeMaps.modify_eq_set _ _ _ _ he0,Go.ChangeMaps.modify_eq_set _ _ _ _ he0,← e2.1]
  have e4:∀ w2:World,w2.heap[b]? = some (.map es clock) → (Instr.entryStore T (.map (some b)) (.int .i64 e0.born) (ev v)).run P w2 = .ok () (setBlock w2 b (.map (es.modify j (fun e' => { e' with key:=ek k,val:=ev v })) clock)):=fun w2 hb1 => by
   simp [Instr.entryStore,MapKept.run_getObj_map hb1,asInt,asIntOf,hidx,hmod,MapKept.run_setObj_map _ hb1,Result.andThen,setBlock]
  refine ⟨_,e4 _ hb1,?_,ycB⟩
  rw [yhQ]
  have e3:(Instr.mapUpdate T (.map (some b)) (ek k) (ev v)).run P w = .ok () (setBlock w b (.map (es.modify j (fun e' => { e' with key:=ek k,val:=ev v })) clock)):=by
   simp [Instr.mapUpdate,run_underlying ht,MapKept.run_getObj_map hb,K.check w false hk,f2,he1,e2.1,K.stays w hk,MapKept.run_setObj_map _ hb,Result.andThen,setBlock]
  rw [e3] at hrun
  injection hrun with _ h2
  rw [h2]
  exact hput
end
structure PSeat where
 name:ByteArray
 topics:List ByteArray
 tmo:Int
 seen:Int
 deriving DecidableEq
structure SeatV where
 x:PSeat
 ts:Sl
def PSeat.v (x:PSeat) (ts:Sl):Value:=.agg #[.string x.name,.slice ts.a ts.n ts.c,.int .i64 x.tmo,.int .i64 x.seen]
def SeatV.v (q:SeatV):Value:=.agg #[.string q.x.name,.slice q.ts.a q.ts.n q.ts.c,.int .i64 q.x.tmo,.int .i64 q.x.seen]
abbrev SL:=List (ByteArray × SeatV)
abbrev GL:=List (ByteArray × PSeat)
def yaZ (L:SL):GL:=L.map fun q => (q.1,q.2.x)
def yfD:PSeat:=⟨⟨#[]⟩,[],0,0⟩
theorem yg9 (w:World):(zeroValue 153).run pP w = .ok (SeatV.v ⟨yfD,ybM⟩) w:=by kernel_rfl
def yc0 (w:World) (b:Nat) (gen:Int) (robin:Bool) (G:GL) (F:List Nat):Prop :=
 ∃ (m:Nat) (L:SL),w.heap[b]? = some (.cells #[.int .i64 gen,.bool robin,.map (some m)] 200) ∧ yaX pP 9 hks SeatV.v w m L ∧ (∀ q ∈ L,Row w 0 9 1 ydC q.2.ts.a q.2.ts.n q.2.ts.c q.2.x.topics) ∧ G = yaZ L ∧ F = b :: m :: L.flatMap fun q => yaP q.2.ts.a
theorem yc0.lt {w:World} {b:Nat} {gen:Int} {robin:Bool} {G:GL} {F:List Nat} (h:yc0 w b gen robin G F):∀ k ∈ F,k < w.heap.size:=by
 obtain ⟨m,L,hc,hm,hT,rfl,rfl⟩:=h
 intro k hk
 simp only [List.mem_cons,List.mem_flatMap] at hk
 rcases hk with rfl | rfl | ⟨q,hq,hk⟩
 ·exact yaL hc
 ·exact hm.lt
 ·exact (yaQ (hT q hq) k hk).2
theorem yc0.keep {w w':World} {b:Nat} {gen:Int} {robin:Bool} {G:GL} {F S:List Nat} (h:yc0 w b gen robin G F) (M:Mod S w w') (hS:∀ k ∈ S,k ∉ F):yc0 w' b gen robin G F:=by
 obtain ⟨m,L,hc,hm,hT,rfl,rfl⟩:=h
 refine ⟨m,L,M.keep hc (fun hb => hS b hb (by simp)),hm.keepM M (fun hb => hS m hb (by simp)),fun q hq => yaE (hT q hq) M fun k hk hk' => hS k hk ?_,rfl,rfl⟩
 simp only [List.mem_cons,List.mem_flatMap]
 exact .inr (.inr ⟨q,hq,hk'⟩)
theorem yc0.keep0 {w w':World} {b:Nat} {gen:Int} {robin:Bool} {G:GL} {F:List Nat} (h:yc0 w b gen robin G F) (M:Mod [] w w'):yc0 w' b gen robin G F:=h.keep M (by simp)
theorem yC2 (w:World):Calls pP 75 #[] w fun e w' => ∃ v,e = .returned v ∧ ∃ b F,v = .pointer (some ⟨b,0,none⟩) ∧ yc0 w' b 0 false [] F ∧ (∀ k ∈ F,w.heap.size ≤ k) ∧ Mod [] w w':=by
 refine yHf ?_
 refine ybH fun b4 w5 c5 M5 f5 => ?_
 have s5:=M5.size
 intro b6 f6 w7 A7 h7
 exact ⟨b6,_,rfl,⟨b4,[],h7,yaX.of_new (A7.mod.keep0 c5),by simp,rfl,rfl⟩,by simp; omega,M5.go0 A7.mod (by simp)⟩
theorem yvR (n:Int) (w:World):Calls pP 126 #[.int .i64 n] w fun e w' => e = .returned (.bool (num n)) ∧ w' = w :=
 ya2 (yHg (yaH (fun h => ⟨by simp [num]; omega,rfl⟩) (fun h => ⟨by simp [num]; omega,rfl⟩)))
theorem ygQ (s t:ByteArray):((Op.bytesLess t.toList s.toList) || (t.toList == s.toList)) = !ygF s t:=by
 unfold ygF
 rw [bytesLess_eq,bytesLess_eq]
 rw [Bool.eq_iff_iff]
 simp only [Bool.or_eq_true,decide_eq_true_eq,beq_iff_eq,Bool.not_eq_true',decide_eq_false_iff_not]
 constructor
 ·rintro (h | h)
  ·exact List.lt_asymm h
  ·rw [h]; exact List.lt_irrefl _
 ·intro h
  have:=List.not_lt.1 h
  rcases List.le_iff_lt_or_eq.1 this with h1 | h1
  ·exact .inl h1
  ·exact .inr h1
theorem ylK:∀ {l:List ByteArray} {k:Nat},ybQ l = true → ybQ (l.take k) = true
 | [],k,_ => by simp [ybQ]
 | [a],0,_ => by simp [ybQ]
 | [a],k + 1,_ => by simp [ybQ]
 | a :: b :: r,0,_ => by simp [ybQ]
 | a :: b :: r,1,_ => by simp [ybQ]
 | a :: b :: r,k + 2,h => by
  simp only [ybQ,Bool.and_eq_true] at h
  have:=ylK (k:=k + 1) h.2
  simp only [List.take_succ_cons] at this ⊢
  simp only [ybQ,h.1,Bool.true_and]
  exact this
def ydF (s:PSeat):Bool:=(s.topics.all ycW && ybQ s.topics) && (ycW s.name && (decide (1 ≤ s.topics.length ∧ s.topics.length ≤ 8) && (decide (0 < s.tmo) && (num s.tmo && num s.seen))))
theorem yHt {w:World} (x:PSeat) {ts:Sl} (h:ybD w 1 ydC ts.a ts.n x.topics) (hl:x.topics.length ≤ 1000000) :
  Calls pP 124 #[x.v ts] w fun e w' => e = .returned (.bool (ydF x)) ∧ Mod [] w w':=by
 have hn:=h.1
 refine ya2 (yHh ?_)
 intro b2 f2 w27 A27
 refine yzQ (fun mm i w' => ∃ k:Nat,i = k ∧ k ≤ x.topics.length ∧ (x.topics.take k).all ycW = true ∧ ybQ (x.topics.take k) = true ∧ Mod [] w w' ∧ mm = x.topics.length - k) x.topics.length ⟨0,rfl,by omega,by simp,by simp [ybQ],A27.mod,rfl⟩ ?_
 rintro mm i w1 ⟨k,rfl,hk,hall,hris,M1,rfl⟩
 refine yaH (fun hlt => ?_) fun hge => ?_
 ·obtain ⟨s,hs⟩:∃ s,x.topics[k]? = some s:=⟨_,List.getElem?_eq_getElem (by omega)⟩
  refine (h.keep0 M1).ix hs fun q hq => yaN (by simpa [add_zero] using hq 0 _ rfl) ?_
  refine (yh1 s w1).mono ?_
  rintro _ w11 ⟨rfl,M11⟩
  have N11:=M1.go0 M11 (by simp)
  have e:x.topics.take (k + 1) = x.topics.take k ++ [s]:=yd2 hs
  refine ⟨_,rfl,yaG.of0 M11,yaD (fun g => ?_) fun g => ?_⟩
  ·have g:ycW s = false:=by simpa using g
   refine ⟨congrArg Value.bool ?_,N11⟩
   have:x.topics.all ycW = false:=by
    rw [List.all_eq_false]
    exact ⟨s,List.mem_of_getElem? hs,by simp [g]⟩
   simp [ydF,this]
  have g:ycW s = true:=by simpa using g
  have hall':(x.topics.take (k + 1)).all ycW = true:=by rw [e,List.all_append,hall]; simp [g]
  have ek:IntKind.wrap .i64 ((k:Int) + 1) = ((k + 1:Nat):Int):=by rw [yaJ (by omega) (by omega)]; omega
  rw [ek]
  refine yaH (fun g1 => ?_) fun g1 => ?_
  ·have ek2:IntKind.wrap .i64 ((k:Int) - 1) = ((k - 1:Nat):Int):=by rw [yaJ (by omega) (by omega)]; omega
   rw [ek2]
   obtain ⟨p,hp⟩:∃ p,x.topics[k - 1]? = some p:=⟨_,List.getElem?_eq_getElem (by omega)⟩
   refine (h.keep0 N11).ix hp fun q hq => yaN (by simpa [add_zero] using hq 0 _ rfl) ?_
   have hrt:=ygM (k:=k - 1) hp (by rw [show k - 1 + 1 = k by omega]; exact hs)
   rw [show k - 1 + 2 = k + 1 by omega,show k - 1 + 1 = k by omega,hris,Bool.true_and] at hrt
   rw [ygQ]
   refine yaD (fun g2 => ?_) fun g2 => ?_
   ·have g2:ygF p s = false:=by simpa using g2
    refine ⟨congrArg Value.bool ?_,N11⟩
    have:ybQ x.topics = false:=by
     rw [g2] at hrt
     cases hr:ybQ x.topics with
     | false => rfl
     | true => rw [ylK hr] at hrt; cases hrt
    simp [ydF,this]
   ·have g2:ygF p s = true:=by simpa using g2
    exact yo7 (x.topics.length - (k + 1)) (by omega) ⟨k + 1,rfl,by omega,hall',by rw [hrt,g2],N11,rfl⟩
  ·have hk0:k = 0:=by omega
   subst hk0
   exact yo7 (x.topics.length - 1) (by omega) ⟨1,rfl,by omega,hall',by rw [e]; simp [ybQ],N11,rfl⟩
 ·have hk:k = x.topics.length:=by omega
  subst hk
  rw [List.take_length] at hall hris
  refine (yh1 x.name w1).mono ?_
  rintro _ w21 ⟨rfl,M21⟩
  have N21:=M1.go0 M21 (by simp)
  refine ⟨_,rfl,yaG.of0 M21,yaD (fun g => ?_) fun g => ⟨congrArg Value.bool (by simp [ydF,hall,hris,g]),N21⟩⟩
  refine yaH (fun g1 => ?_) fun g1 => ⟨congrArg Value.bool (by have:¬ 1 ≤ x.topics.length:=(by omega); simp [ydF,hall,hris,g,this]),N21⟩
  refine yaH (fun g2 => ?_) fun g2 => ⟨congrArg Value.bool (by have:¬ x.topics.length ≤ 8:=(by omega); simp [ydF,hall,hris,g,this]),N21⟩
  have g12:1 ≤ x.topics.length ∧ x.topics.length ≤ 8:=by omega
  refine yaH (fun g3 => ?_) fun g3 => ⟨congrArg Value.bool (by have:¬ 0 < x.tmo:=g3; simp [ydF,hall,hris,g,g12,this]),N21⟩
  have g3:0 < x.tmo:=g3
  refine (yvR x.tmo w21).mono ?_
  rintro _ w23 ⟨rfl,rfl⟩
  refine ⟨_,rfl,yaG.of0 (Mod.refl _),yaD (fun g4 => ?_) fun g4 => ⟨congrArg Value.bool (by simp [ydF,hall,hris,g,g12,g3,g4]),N21⟩⟩
  refine (yvR x.seen w23).mono ?_
  rintro _ w25 ⟨rfl,rfl⟩
  exact ⟨_,rfl,yaG.of0 (Mod.refl _),congrArg Value.bool (by simp [ydF,hall,hris,g,g12,g3,g4]),N21⟩
end Go.Proofs.YtkepmmocldnnfaaGreat
namespace Go.Proofs.YtkepmmocldnnfaaGreat
open Go Go.RowKit Go.Maps Go.MapKept
open Go.ChangeMaps (setBlock)
set_option linter.unusedVariables false
set_option linter.unusedSimpArgs false
theorem yC3 {w:World} (x:PSeat) {ts:Sl} (h:ybD w 1 ydC ts.a ts.n x.topics) (hl:x.topics.length ≤ 1000000) :
  Calls pP 125 #[x.v ts] w fun e w' => ∃ v,e = .returned v ∧ ∃ t':Sl,v = x.v t' ∧ Row w' w.heap.size 9 1 ydC t'.a t'.n t'.c x.topics ∧ Mod [] w w':=by
 refine yHi ?_
 intro b3 f3 b4 f4 w10 A10
 have s10:=A10.mod.size
 refine (ysG (s:=ts) (l:=x.topics) (h.keep0 A10.mod) hl).mono ?_
 rintro _ w11 ⟨_,rfl,t',rfl,hR,M11⟩
 refine ⟨_,_,_,rfl,yaG.of0 M11,?_⟩
 intro w15 A15
 have l3:=A10.lt b3 (by simp)
 have l4:=A10.lt b4 (by simp)
 have N11:=A10.mod.go0 M11 (by simp)
 refine ⟨t',rfl,?_,N11.go0 A15.mod (by simp; omega)⟩
 exact (yaE hR A15.mod (fun z hz hz' => by have:=hR.newS z hz'; simp at hz; omega)).rebase s10
def yb8 (gen:Int) (G:GL) (name:ByteArray) (g:Int):Int:=if (lkp G name).isSome = false then 110 else if g ≠ gen then 111 else 0
theorem yd6 (L:SL) (k:ByteArray):lkp (yaZ L) k = (lkp L k).map (·.x):=ydX (fun q:SeatV => q.x) L k
theorem yi4 {w:World} {b:Nat} {gen:Int} {robin:Bool} {G:GL} {F:List Nat} (h:yc0 w b gen robin G F) {name:ByteArray} (hs:name.size ≤ maxLen) (g:Int) :
  Calls pP 127 #[.pointer (some ⟨b,0,none⟩),.string name,.int .i64 g] w fun e w' => e = .returned (.int .i64 (yb8 gen G name g)) ∧ Mod [] w w':=by
 obtain ⟨m,L,hc,hm,hT,rfl,rfl⟩:=h
 refine ya2 (yHn hc ?_)
 refine ⟨_,_,_,_,_,_,_,hm.lkT (k:=name) ye0 ybW Tryz.underlying198 yg9 (yb1 hs),?_⟩
 have hh:(lkp (yaZ L) name).isSome = (lkp L name).isSome:=by rw [yd6]; cases lkp L name <;> rfl
 intro b16 f16
 refine yaD (fun g1 => ?_) fun g1 => ?_
 ·have g1:(lkp L name).isSome = false:=by simpa using g1
  intro w17 A17 _
  exact ⟨by rw [yb8,hh,if_pos g1],A17.mod⟩
 have g1:(lkp L name).isSome = true:=by simpa using g1
 have g1:¬ (lkp L name).isSome = false:=by rw [g1]; decide
 refine yaD (fun g2 => ?_) fun g2 => ?_
 ·have g2:g ≠ gen:=by simpa using g2
  intro w18 A18 _
  exact ⟨by rw [yb8,hh,if_neg g1,if_pos g2],A18.mod⟩
 have g2:¬ g ≠ gen:=by simpa using g2
 intro w19 A19 _
 exact ⟨by rw [yb8,hh,if_neg g1,if_neg g2],A19.mod⟩
def ynT (gen:Int):Int:=if 1099511627776 < IntKind.wrap .i64 (gen + 1) then 1099511627776 else IntKind.wrap .i64 (gen + 1)
theorem yx5 {w:World} {b:Nat} {gen:Int} {robin:Bool} {m:Option Nat} (hc:w.heap[b]? = some (.cells #[.int .i64 gen,.bool robin,.map m] 200)) :
  Calls pP 107 #[.pointer (some ⟨b,0,none⟩)] w fun e w' => e = .returned (.tuple #[]) ∧ w'.heap[b]? = some (.cells #[.int .i64 (ynT gen),.bool robin,.map m] 200) ∧ Mod [b] w w':=by
 refine ya2 (yHm hc ?_)
 intro w1 A1 h1
 exact ⟨rfl,h1,A1.mod⟩
def ynU (gen:Int) (G:GL) (name:ByteArray) (g now:Int):Int:=if num now = false then 1 else yb8 gen G name g
def yzX (G:GL) (name:ByteArray) (now:Int):GL:=put G name { (lkp G name).getD yfD with seen:=if now > ((lkp G name).getD yfD).seen then now else ((lkp G name).getD yfD).seen }
set_option maxHeartbeats 1000000 in
theorem yEN {w:World} {b:Nat} {gen:Int} {robin:Bool} {G:GL} {F:List Nat} (h:yc0 w b gen robin G F) {name:ByteArray} (hs:name.size ≤ maxLen) (g now:Int) :
  Calls pP 77 #[.pointer (some ⟨b,0,none⟩),.string name,.int .i64 g,.int .i64 now] w fun e w' => e = .returned (.int .i64 (ynU gen G name g now)) ∧
   ∃ F',yc0 w' b gen robin (if ynU gen G name g now = 0 then yzX G name now else G) F' ∧ Mod F w w' ∧ ybJ w F F':=by
 have hA:=h
 obtain ⟨m,L,hc,hm,hT,rfl,rfl⟩:=h
 have hmb:m ≠ b:=by rintro rfl; exact hm.notCells hc
 have lb:=yaL hc
 have lm:=hm.lt
 refine ya2 (yHk hc ?_)
 refine (yvR now w).mono ?_
 rintro _ w3 ⟨rfl,hw3⟩
 rw [hw3]
 refine ⟨_,rfl,yaG.of0 (Mod.refl _),yaD (fun g1 => ?_) fun g1 => ?_⟩
 ·have g1:num now = false:=by simpa using g1
  intro w5 A5 _
  have e:ynU gen (yaZ L) name g now = 1:=by rw [ynU,if_pos g1]
  rw [e,if_neg (by decide)]
  exact ⟨rfl,_,hA.keep0 A5.mod,A5.mod.less (by simp),ybJ.refl _ _⟩
 have g1:¬ num now = false:=by simpa using g1
 have e0:ynU gen (yaZ L) name g now = yb8 gen (yaZ L) name g:=by rw [ynU,if_neg g1]
 rw [e0]
 intro w12 A12 h12
 refine (yi4 (hA.keep0 A12.mod) hs g).mono ?_
 rintro _ w13 ⟨rfl,M13⟩
 have N13:=A12.mod.go0 M13 (by simp)
 refine ⟨_,rfl,_,_,_,M13.keep0 h12,yaD (fun g2 => ?_) fun g2 => ?_⟩
 ·have g2:yb8 gen (yaZ L) name g ≠ 0:=by simpa using g2
  rw [if_neg g2]
  exact ⟨rfl,_,hA.keep0 N13,N13.less (by simp),ybJ.refl _ _⟩
 have g2:yb8 gen (yaZ L) name g = 0:=by simpa using g2
 rw [g2,if_pos rfl]
 refine ⟨_,_,_,_,_,_,(hm.keepM0 N13).lkF (k:=name) ye0 ybW Tryz.underlying198 yg9 (yb1 hs),?_⟩
 intro b31 f31 w32 A32 h32
 have N32:=N13.go0 A32.mod (by simp)
 have l31:=A32.lt b31 (by simp)
 have s13:=N13.size
 generalize hv:((lkp L name).getD ⟨yfD,ybM⟩:SeatV) = v
 have hvx:(lkp (yaZ L) name).getD yfD = v.x:=by rw [yd6,← hv]; cases lkp L name <;> rfl
 have hvL:(name,v) ∈ L:=by
  have:(lkp (yaZ L) name).isSome = true:=by
   cases hh:(lkp (yaZ L) name).isSome with
   | true => rfl
   | false => rw [yb8,if_pos hh] at g2; cases g2
  rw [yd6] at this
  cases hl:lkp L name with
  | none => rw [hl] at this; cases this
  | some y =>
   rw [hl] at hv
   have hv:y = v:=hv
   subst hv
   exact yaW hl
 have hput:put (yaZ L) name { v.x with seen:=if now > v.x.seen then now else v.x.seen } = yaZ (put L name ⟨{ v.x with seen:=if now > v.x.seen then now else v.x.seen },v.ts⟩):=yeJ (fun q:SeatV => q.x) L name ⟨{ v.x with seen:=if now > v.x.seen then now else v.x.seen },v.ts⟩
 have hold:∀ q ∈ put L name (⟨{ v.x with seen:=if now > v.x.seen then now else v.x.seen },v.ts⟩:SeatV),q = (name,⟨{ v.x with seen:=if now > v.x.seen then now else v.x.seen },v.ts⟩) ∨ q ∈ L:=fun q hq => ycG hq
 refine (hm.keepM0 N32).setU (k:=name) ye0 ybW Tryz.underlying198 (v:=(⟨{ v.x with seen:=if now > v.x.seen then now else v.x.seen },v.ts⟩:SeatV)) (yb1 hs) (by simp; omega) fun w33 hm33 M33 => ?_
 have N33:Mod [m] w w33:=(N32.trans M33).less (by simp)
 rw [yzX,hvx,hput]
 generalize put L name (⟨{ v.x with seen:=if now > v.x.seen then now else v.x.seen },v.ts⟩:SeatV) = L' at hm33 hold
 refine ⟨rfl,_,⟨m,L',N33.keep hc (by simp; exact fun e => hmb e.symm),hm33,fun q hq => ?_,rfl,rfl⟩,N33.less (by simp),fun z hz => .inl ?_⟩
 ·rcases hold q hq with rfl | hqL
  ·exact yaE (hT (name,v) hvL) N33 fun z hz hz' => by
    obtain ⟨_,_,cur,hcur⟩:=yaS (hT (name,v) hvL) z hz'
    simp at hz; subst hz; exact hm.notCells hcur
  ·exact yaE (hT q hqL) N33 fun z hz hz' => by
    obtain ⟨_,_,cur,hcur⟩:=yaS (hT q hqL) z hz'
    simp at hz; subst hz; exact hm.notCells hcur
 ·simp only [List.mem_cons,List.mem_flatMap] at hz ⊢
  rcases hz with h1 | h1 | ⟨q,hq,h1⟩
  ·exact .inl h1
  ·exact .inr (.inl h1)
  ·rcases hold q hq with rfl | hqL
   ·exact .inr (.inr ⟨(name,v),hvL,h1⟩)
   ·exact .inr (.inr ⟨q,hqL,h1⟩)
set_option maxHeartbeats 1000000 in
theorem yC4 {w:World} {b:Nat} {gen:Int} {robin:Bool} {G:GL} {F:List Nat} (h:yc0 w b gen robin G F) {name:ByteArray} (hs:name.size ≤ maxLen) (g:Int) :
  Calls pP 78 #[.pointer (some ⟨b,0,none⟩),.string name,.int .i64 g] w fun e w' => e = .returned (.int .i64 (yb8 gen G name g)) ∧
   ∃ F',yc0 w' b (if yb8 gen G name g = 0 then ynT gen else gen) robin (if yb8 gen G name g = 0 then del G name else G) F' ∧ Mod F w w' ∧ ybJ w F F':=by
 have hA:=h
 obtain ⟨m,L,hc,hm,hT,rfl,rfl⟩:=h
 have hmb:m ≠ b:=by rintro rfl; exact hm.notCells hc
 refine ya2 (yHl hc ?_)
 intro w7 A7 h7
 refine (yi4 (hA.keep0 A7.mod) hs g).mono ?_
 rintro _ w8 ⟨rfl,M8⟩
 have N8:=A7.mod.go0 M8 (by simp)
 refine ⟨_,rfl,_,_,_,M8.keep0 h7,yaD (fun g2 => ?_) fun g2 => ?_⟩
 ·have g2:yb8 gen (yaZ L) name g ≠ 0:=by simpa using g2
  rw [if_neg g2,if_neg g2]
  exact ⟨rfl,_,hA.keep0 N8,N8.less (by simp),ybJ.refl _ _⟩
 have g2:yb8 gen (yaZ L) name g = 0:=by simpa using g2
 rw [g2,if_pos rfl,if_pos rfl]
 obtain ⟨o,ho1,ho2⟩:=(hm.keepM0 N8).delete ye0 ybW Tryz.underlying198 (yb1 hs) 0
 refine ⟨_,_,ho1,yaG.of ycB (by simp; exact fun _ e => hmb e.symm),?_⟩
 have h15:=ycB (o:=o) (b:=m) (w:=w8) |>.keep (M8.keep0 h7) (by simp; exact fun e => hmb e.symm)
 refine (yx5 h15).mono ?_
 rintro _ w21 ⟨rfl,h21,M21⟩
 refine ⟨rfl,_,_,_,h21,?_⟩
 have N21:Mod [m,b] w w21:=((N8.trans ycB).trans M21).less (by simp)
 have hdel:del (yaZ L) name = yaZ (del L name):=yxB (fun q:SeatV => q.x) L name
 have hold:∀ q ∈ del L name,q ∈ L:=fun q hq => yp7 hq
 have hm21:=ho2.keepM M21 (by simpa using hmb)
 rw [hdel]
 generalize del L name = L' at hm21 hold
 refine ⟨rfl,_,⟨m,L',h21,hm21,fun q hq => ?_,rfl,rfl⟩,N21.less (by simp),fun z hz => .inl ?_⟩
 ·refine yaE (hT q (hold q hq)) N21 fun z hz hz' => ?_
  simp at hz
  rcases hz with rfl | rfl
  ·obtain ⟨_,_,cur,hcur⟩:=yaS (hT q (hold q hq)) z hz'
   exact hm.notCells hcur
  ·exact ycT (hT q (hold q hq)) hc (by decide) hz'
 ·simp only [List.mem_cons,List.mem_flatMap] at hz ⊢
  rcases hz with h1 | h1 | ⟨q,hq,h1⟩
  ·exact .inl h1
  ·exact .inr (.inl h1)
  ·exact .inr (.inr ⟨q,hold q hq,h1⟩)
def ybF (gen:Int) (robin:Bool) (G:GL) (x:PSeat) (rb:Bool):Int :=
 if ydF x = false then 1 else if 0 < G.length ∧ robin ≠ rb then 112 else if (8 ≤ G.length ∧ (lkp G x.name).isSome = false) ∨ 1099511627776 ≤ gen then 2 else 0
set_option maxHeartbeats 2000000 in
theorem yx6 {w:World} {b:Nat} {gen:Int} {robin:Bool} {G:GL} {F:List Nat} (h:yc0 w b gen robin G F) {x:PSeat} {ts:Sl} (hx:∀ w',Mod F w w' → ybD w' 1 ydC ts.a ts.n x.topics) (hxl:x.topics.length ≤ 1000000) (hs:x.name.size ≤ maxLen) (rb:Bool) :
  Calls pP 76 #[.pointer (some ⟨b,0,none⟩),x.v ts,.bool rb] w fun e w' => e = .returned (.tuple #[.int .i64 (if ybF gen robin G x rb = 0 then IntKind.wrap .i64 (gen + 1) else 0),.int .i64 (ybF gen robin G x rb)]) ∧
   ∃ F',yc0 w' b (if ybF gen robin G x rb = 0 then IntKind.wrap .i64 (gen + 1) else gen) (if ybF gen robin G x rb = 0 then rb else robin) (if ybF gen robin G x rb = 0 then put G x.name x else G) F' ∧ Mod F w w' ∧ ybJ w F F':=by
 have hA:=h
 have ltF:=h.lt
 obtain ⟨m,L,hc,hm,hT,rfl,rfl⟩:=h
 have hmb:m ≠ b:=by rintro rfl; exact hm.notCells hc
 have lb:=yaL hc
 have lm:=hm.lt
 have hlen:(yaZ L).length = L.length:=by simp [yaZ]
 have hhad:(lkp (yaZ L) x.name).isSome = (lkp L x.name).isSome:=by rw [yd6]; cases lkp L x.name <;> rfl
 have x0:∀ {w'},Mod [] w w' → ybD w' 1 ydC ts.a ts.n x.topics:=fun {w'} M => hx w' (M.less (by simp))
 refine ya2 (yHj hc ?_)
 intro b2 f2 w3 A3
 have l2:=A3.lt b2 (by simp)
 refine ⟨_,_,_,_,_,_,_,(hm.keepM0 A3.mod).lkT (k:=x.name) ye0 ybW Tryz.underlying198 yg9 (yb1 hs),?_⟩
 intro b11 f11 w15 A15
 have N15:=A3.mod.go0 A15.mod (by simp)
 have l11:=A15.lt b11 (by simp)
 have s3:=A3.mod.size
 have s15:=A15.mod.size
 refine (yHt x (x0 N15) hxl).mono ?_
 rintro _ w16 ⟨rfl,M16⟩
 have N16:=N15.go0 M16 (by simp)
 have s16:=M16.size
 have h16:=N16.keep0 hc
 have stay:∀ {w':World} {v:Int},Mod [] w w' → ybF gen robin (yaZ L) x rb = v → v ≠ 0 →
   (Ending.returned (.tuple #[.int .i64 0,.int .i64 v]) = Ending.returned (.tuple #[.int .i64 (if ybF gen robin (yaZ L) x rb = 0 then IntKind.wrap .i64 (gen + 1) else 0),.int .i64 (ybF gen robin (yaZ L) x rb)])) ∧
   ∃ F',yc0 w' b (if ybF gen robin (yaZ L) x rb = 0 then IntKind.wrap .i64 (gen + 1) else gen) (if ybF gen robin (yaZ L) x rb = 0 then rb else robin) (if ybF gen robin (yaZ L) x rb = 0 then put (yaZ L) x.name x else (yaZ L)) F' ∧ Mod (b :: m :: L.flatMap fun q => yaP q.2.ts.a) w w' ∧ ybJ w (b :: m :: L.flatMap fun q => yaP q.2.ts.a) F':=fun {w' v} M e he => by
  rw [e,if_neg he,if_neg he,if_neg he,if_neg he]
  exact ⟨rfl,_,hA.keep0 M,M.less (by simp),ybJ.refl _ _⟩
 refine ⟨_,rfl,yaG.of0 M16,yaD (fun g => ?_) fun g => ?_⟩
 ·have g:ydF x = false:=by simpa using g
  intro w18 A18 _
  obtain ⟨h1,h2⟩:=stay (N16.go0 A18.mod (by simp)) (v:=1) (by rw [ybF,if_pos g]) (by decide)
  exact ⟨Ending.returned.inj h1,h2⟩
 have g:¬ ydF x = false:=by simpa using g
 have lenM:=fun w' (M:Mod [] w16 w') => ((hm.keepM0 N16).keepM0 M).len (T:=198) Tryz.underlying198 3
 have tail0:(0 < (yaZ L).length ∧ robin ≠ rb) → ybF gen robin (yaZ L) x rb = 112:=fun hh => by rw [ybF,if_neg g,if_pos hh]
 have tail2:¬ (0 < (yaZ L).length ∧ robin ≠ rb) → (8 ≤ (yaZ L).length ∧ (lkp (yaZ L) x.name).isSome = false) ∨ 1099511627776 ≤ gen → ybF gen robin (yaZ L) x rb = 2:=fun hh h2 => by rw [ybF,if_neg g,if_neg hh,if_pos h2]
 have tail3:¬ (0 < (yaZ L).length ∧ robin ≠ rb) → ¬ ((8 ≤ (yaZ L).length ∧ (lkp (yaZ L) x.name).isSome = false) ∨ 1099511627776 ≤ gen) → ybF gen robin (yaZ L) x rb = 0:=fun hh h2 => by rw [ybF,if_neg g,if_neg hh,if_neg h2]
 rw [hlen,hhad] at tail2 tail3
 rw [hlen] at tail0
 have err2:∀ {w':World},Adv [] [] w16 w' → ybF gen robin (yaZ L) x rb = 2 → (Value.tuple #[.int .i64 0,.int .i64 2] = Value.tuple #[.int .i64 (if ybF gen robin (yaZ L) x rb = 0 then IntKind.wrap .i64 (gen + 1) else 0),.int .i64 (ybF gen robin (yaZ L) x rb)]) ∧
   ∃ F',yc0 w' b (if ybF gen robin (yaZ L) x rb = 0 then IntKind.wrap .i64 (gen + 1) else gen) (if ybF gen robin (yaZ L) x rb = 0 then rb else robin) (if ybF gen robin (yaZ L) x rb = 0 then put (yaZ L) x.name x else (yaZ L)) F' ∧ Mod (b :: m :: L.flatMap fun q => yaP q.2.ts.a) w w' ∧ ybJ w (b :: m :: L.flatMap fun q => yaP q.2.ts.a) F':=fun A e2 =>
  let ⟨h1,h2⟩:=stay (N16.go0 A.mod (by simp)) e2 (by decide)
  ⟨Ending.returned.inj h1,h2⟩
 have tail:ybF gen robin (yaZ L) x rb = 0 → ∀ w25,Adv [] [] w16 w25 →
   Calls pP 125 #[x.v ts] w25 fun e w26 => ∃ (s27:ByteArray) (a28:Option Addr) (n29 c30:Nat) (x31 x32:Int),e = .returned (.agg #[.string s27,.slice a28 n29 c30,.int .i64 x31,.int .i64 x32]) ∧ yaG [b,b2,b11] w25 w26 ∧ ((.string x.name:Value) = .string x.name) ∧ ((.map (some m):Value) = .map (some m)) ∧
   ∃ (v35:Value) (x33:Int),∃ w34,(Instr.mapEntry 198 (.map (some m)) (.string x.name)).run pP w26 = .ok (.tuple #[v35,.int .i64 x33]) w34 ∧ yaG [b,b2,b11] w26 w34 ∧
   yc7 pP (Instr.entryStore 198 (.map (some m)) (.int .i64 x33) (.agg #[.string s27,.slice a28 n29 c30,.int .i64 x31,.int .i64 x32])) w34 fun w36 => yaG [b,b2,b11] w34 w36 ∧
   ∀ w37,Adv [b] [] w36 w37 → w37.heap[b]? = some (.cells #[.int .i64 (IntKind.wrap .i64 (gen + 1)),.bool rb,.map (some m)] 200) →
   (Value.tuple #[.int .i64 (IntKind.wrap .i64 (gen + 1)),.int .i64 0] = Value.tuple #[.int .i64 (if ybF gen robin (yaZ L) x rb = 0 then IntKind.wrap .i64 (gen + 1) else 0),.int .i64 (ybF gen robin (yaZ L) x rb)]) ∧ ∃ F',yc0 w37 b (if ybF gen robin (yaZ L) x rb = 0 then IntKind.wrap .i64 (gen + 1) else gen) (if ybF gen robin (yaZ L) x rb = 0 then rb else robin) (if ybF gen robin (yaZ L) x rb = 0 then put (yaZ L) x.name x else (yaZ L)) F' ∧ Mod (b :: m :: L.flatMap fun q => yaP q.2.ts.a) w w37 ∧ ybJ w (b :: m :: L.flatMap fun q => yaP q.2.ts.a) F':=by
  intro e w25 A25
  have N25:=N16.go0 A25.mod (by simp)
  refine (yC3 x (x0 N25) hxl).mono ?_
  rintro _ w26 ⟨_,rfl,t',rfl,hR26,M26⟩
  have N26:=N25.go0 M26 (by simp)
  have s25:=N25.size
  refine ⟨_,_,_,_,_,_,rfl,yaG.of0 M26,rfl,rfl,?_⟩
  obtain ⟨v0,st,w34,hme,M34,w36,hes,hm36,M36⟩:=(hm.keepM0 N26).entrySet (k:=x.name) ye0 ybW Tryz.underlying198 yg9 (⟨x,t'⟩:SeatV) (yb1 hs)
  have kp:∀ i ∈ [b,b2,b11],i ≠ m:=by simp; refine ⟨fun e => hmb e.symm,by omega,by omega⟩
  refine ⟨_,_,w34,hme,yaG.of M34 (fun i hi _ hc => kp i hi (by simpa using hc)),w36,hes,yaG.of M36 (fun i hi _ hc => kp i hi (by simpa using hc)),?_⟩
  intro w37 A37 h37
  have N37:Mod [m,b] w w37:=(((N26.trans M34).trans M36).trans A37.mod).less fun z hz _ => by simp at hz ⊢; omega
  have hput:put (yaZ L) x.name x = yaZ (put L x.name ⟨x,t'⟩):=yeJ (fun q:SeatV => q.x) L x.name ⟨x,t'⟩
  have hold:∀ q ∈ put L x.name (⟨x,t'⟩:SeatV),q = (x.name,⟨x,t'⟩) ∨ q ∈ L:=fun q hq => ycG hq
  have hm37:=hm36.keepM A37.mod (by simpa using hmb)
  have hnew:=hR26.newS
  have M37:Mod [m,b] w26 w37:=((M34.trans M36).trans A37.mod).less fun z hz _ => by simp at hz ⊢; omega
  have hR37:Row w37 0 9 1 ydC t'.a t'.n t'.c x.topics:=(yaE hR26 M37 fun z hz hz' => by have:=hnew z hz'; simp at hz; omega).rebase (Nat.zero_le _)
  rw [e,if_pos rfl,if_pos rfl,if_pos rfl,if_pos rfl,hput]
  generalize put L x.name (⟨x,t'⟩:SeatV) = L' at hm37 hold
  refine ⟨rfl,_,⟨m,L',h37,hm37,fun q hq => ?_,rfl,rfl⟩,N37.less (fun z hz _ => by simp at hz ⊢; omega),fun z hz => ?_⟩
  ·rcases hold q hq with rfl | hqL
   ·exact hR37
   ·refine yaE (hT q hqL) N37 fun z hz hz' => ?_
    simp at hz
    rcases hz with rfl | rfl
    ·obtain ⟨_,_,cur,hcur⟩:=yaS (hT q hqL) z hz'
     exact hm.notCells hcur
    ·exact ycT (hT q hqL) hc (by decide) hz'
  ·simp only [List.mem_cons,List.mem_flatMap] at hz ⊢
   rcases hz with h1 | h1 | ⟨q,hq,h1⟩
   ·exact .inl (.inl h1)
   ·exact .inl (.inr (.inl h1))
   ·rcases hold q hq with rfl | hqL
    ·have:=hnew z h1; exact .inr (by omega)
    ·exact .inl (.inr (.inr ⟨q,hqL,h1⟩))
 refine ⟨_,lenM,?_⟩
 refine yaH (fun g1 => ?_) fun g1 => ?_
 ·refine yaD (fun g2 => ?_) fun g2 => ?_
  ·have g2:robin ≠ rb:=by simpa using g2
   intro w21 A21 _
   obtain ⟨h1,h2⟩:=stay (N16.go0 A21.mod (by simp)) (v:=112) (tail0 ⟨by omega,g2⟩) (by decide)
   exact ⟨Ending.returned.inj h1,h2⟩
  have g2:robin = rb:=by simpa using g2
  have n1:¬ (0 < L.length ∧ robin ≠ rb):=fun hh => hh.2 g2
  refine ⟨_,lenM,?_⟩
  refine yaH (fun g3 => ?_) fun g3 => ?_
  ·refine yaD (fun g4 => ?_) fun g4 => ?_
   ·refine yaD (fun _ => ?_) fun g5 => by rw [g4] at g5; cases g5
    have g4:(lkp L x.name).isSome = false:=by simpa using g4
    intro w24 A24 _
    exact err2 A24 (tail2 n1 (.inl ⟨by omega,g4⟩))
   ·have g4:(lkp L x.name).isSome = true:=by simpa using g4
    refine yaH (fun g5 => ?_) fun g5 => ?_
    ·intro w38 A38 _
     exact err2 A38 (tail2 n1 (.inr g5))
    ·have e:=tail3 n1 (by rintro (hh | hh); rw [g4] at hh; exact absurd hh.2 (by decide); omega)
     exact tail e
  ·refine yaH (fun g5 => ?_) fun g5 => ?_
   ·intro w38 A38 _
    exact err2 A38 (tail2 n1 (.inr g5))
   ·have e:=tail3 n1 (by rintro (hh | hh); omega; omega)
    exact tail e
 ·have n1:¬ (0 < L.length ∧ robin ≠ rb):=fun hh => g1 (by omega)
  refine ⟨_,lenM,?_⟩
  refine yaH (fun g3 => ?_) fun g3 => ?_
  ·omega
  ·refine yaH (fun g5 => ?_) fun g5 => ?_
   ·intro w38 A38 _
    exact err2 A38 (tail2 n1 (.inr g5))
   ·have e:=tail3 n1 (by rintro (hh | hh); omega; omega)
    exact tail e
theorem yi5 {w:World} {b:Nat} {gen:Int} {robin:Bool} {G:GL} {F:List Nat} (h:yc0 w b gen robin G F) (hl:G.length ≤ 1000000) :
  Calls pP 105 #[.pointer (some ⟨b,0,none⟩)] w fun e w' => ∃ v,e = .returned v ∧ ∃ s':Sl,v = .slice s'.a s'.n s'.c ∧ Row w' w.heap.size 9 1 ydC s'.a s'.n s'.c (ydK (G.map (·.1))) ∧ Mod [] w w':=by
 obtain ⟨m,L,hc,hm,hT,rfl,rfl⟩:=h
 have hlen:(yaZ L).length = L.length:=by simp [yaZ]
 refine yHq hc ?_
 refine (yEK (some m) w).mono ?_
 rintro _ w1 ⟨rfl,rfl⟩
 have M1:Mod [] w (w.alloc (.cells #[.map (some m)] 198)):=Mod.of_below ((Below.refl _ _).alloc (Nat.le_refl _) _)
 have hcn:=(MapKept.heap_alloc w (.cells #[.map (some m)] 198)).1
 refine ⟨_,rfl,yaG.of0 M1,?_⟩
 refine (yzP (hm.keepM0 M1) (by omega) (by simp) (by rw [yaY hcn]; rfl)).mono ?_
 rintro _ w3 ⟨_,rfl,s',rfl,hR,M3⟩
 refine ⟨_,_,_,rfl,yaG.of0 M3,fun w7 A7 _ => ⟨s',rfl,?_,(M1.go0 M3 (by simp)).go0 A7.mod (by simp)⟩⟩
 have e:(yaZ L).map (·.1) = L.map (·.1):=by unfold yaZ; rw [List.map_map]; rfl
 rw [e]
 exact (hR.keep0 A7.mod).rebase M1.size
end Go.Proofs.YtkepmmocldnnfaaGreat
namespace Go.Proofs.YtkepmmocldnnfaaGreat
open Go Go.RowKit
set_option linter.all false
section
set_option maxRecDepth 100000
variable {R:VWP} {w w0:World} {m:Nat} {i0 i1 i2 i3 i4 i5 i6 i7 i8 i9 j0 j1 j2 j3 j4 j5 j6 j7 j8 j9 k0 k1 k2 k3 k4 k5 k6 k7 k8 k9 l0 l1 l2 l3 l4 l5 l6 l7 l8 l9:Int} {s0 s1 s2 s3 s4 s5 s6 s7 s8 s9 t0 t1 t2 t3 t4 t5 t6 t7 t8 t9:BA} {n0 n1 n2 n3 n4 n5 n6 n7 n8 n9 o0 o1 o2 o3 o4 o5 o6 o7 o8 o9 p0 p1 p2 p3 p4 p5 p6 p7 p8 p9:Nat} {q0 q1 q2 q3 q4 q5 q6 q7 q8 q9 r0 r1 r2 r3 r4 r5 r6 r7 r8 r9:OA} {B0 B1 B2 B3 B4 B5 B6 B7 B8 B9:Bool} {M0 M1 M2 M3:Option Nat} {V0 V1 V2 V3 V4 V5:Value} {A0 A1 A2:Addr}
def yqR:LA:=⟨[0,0,1,0,1],[0,1,7,8],[],0,[]⟩
def yqS:List LA:=[yqR]
abbrev yF6:=dnF pP yqS (code Tryz.f145)
abbrev yMc:=ya0 pP yqS (code Tryz.f145)
abbrev yF7 (p:List Nat) (K:List Kh) (R:VWP):=ya0 pP yqS (code Tryz.f145) p K (ybO pP Tryz.f145 [] R)
def yj1 (a1:OA) (a3 a2:Nat) (a0:Addr) (a4:Int):Int → List Value × List TB:=fun a5 => ([.slice a1 a3 a2,(.func (.func 106) #[] #[(.pointer (some a0))]),.int .i64 a4,.int .i64 a5],[])
abbrev yC5 (a1:OA) (a3 a2:Nat) (a0:Addr) (a4:Int) (I:Nat → Int → World → Prop) (m:Nat):Kh:=KG (yj1 a1 a3 a2 a0 a4) (U1 I) m
theorem yzY {I:Nat → Int → World → Prop} (m':Nat) (h1:m' < m) (h2:I m' i1 w):KS (yC5 q0 n0 n1 A0 i0 I m) (yj1 q0 n0 n1 A0 i0 i1) w:=⟨m',h1,_,rfl,rfl,h2⟩
theorem yzZ {a2:OA} (I:Nat → Int → World → Prop) (m0:Nat) (h0:I m0 i1 w0)
 (hr:∀ m a1 w,I m a1 w →
 brB (decide (a1 < i0)) (
 ixA a2 n0 a1 1 fun q5 =>
 yaK w q5 fun s6 =>
 Calls pP 106 #[.string s6,(.pointer (some A0))] w fun e w7 => ∃ t8,e = .returned (.bool t8) ∧
 brB t8 (
 R (.int .i64 a1) w7)
 (
 KS (yC5 a2 n0 n1 A0 i0 I m) (yj1 a2 n0 n1 A0 i0 (IntKind.wrap .i64 (a1 + 1))) w7))
 (
 R (.int .i64 (-1)) w)) :
 yaU yqR (yF6 397 [0,0,1,0,1]) (yF7 [1,0,1,0] [] R) (yj1 a2 n0 n1 A0 i0 i1) w0 :=
 lrule (yj1 a2 n0 n1 A0 i0) (U1 I) h0 (by rintro m a1 w h; exact ⟨by kernel_rfl,by kernel_rfl,fun js => Eq.mpr (by kernel_rfl) (hr m a1 w h)⟩)
theorem yHu (h :
 yaU yqR (yF6 397 [0,0,1,0,1]) (yF7 [1,0,1,0] [] R) (yj1 q0 n0 n1 A0 (n0:Int) 0) w) :
 CR pP 145 #[.slice q0 n0 n1,(.func (.func 106) #[] #[(.pointer (some A0))])] w R :=
 yaB Tryz.wide_mixed (an:=yqS) Tryz.func145 rfl rfl (by kernel_rfl) rfl (Eq.mpr (by kernel_rfl) h)
def yqT:LA:=⟨[0,0,1,0,1,1,1],[0,1,5,6],[],0,[]⟩
def yqU:List LA:=[yqT]
abbrev yF8:=dnF pP yqU (code Tryz.f104)
abbrev yMd:=ya0 pP yqU (code Tryz.f104)
abbrev yF9 (p:List Nat) (K:List Kh) (R:VWP):=ya0 pP yqU (code Tryz.f104) p K (ybO pP Tryz.f104 [] R)
def yh8 (a1:OA) (a3 a2:Nat) (a0:Addr):Int × Int → List Value × List TB:=fun (a4,a5) => ([.slice a1 a3 a2,(.func (.func 106) #[] #[(.pointer (some a0))]),.int .i64 a4,.int .i64 a5],[])
abbrev yvS (a1:OA) (a3 a2:Nat) (a0:Addr) (I:Nat → Int → Int → World → Prop) (m:Nat):Kh:=KG (yh8 a1 a3 a2 a0) (U2 I) m
theorem yo8 {I:Nat → Int → Int → World → Prop} (m':Nat) (h1:m' < m) (h2:I m' i0 i1 w):KS (yvS q0 n0 n1 A0 I m) (yh8 q0 n0 n1 A0 (i0,i1)) w:=⟨m',h1,_,rfl,rfl,h2⟩
theorem yz0 {a1:OA} (I:Nat → Int → Int → World → Prop) (m0:Nat) (h0:I m0 i0 i1 w0)
 (hr:∀ m a4 a5 w,I m a4 a5 w →
 brB (decide (a5 < (n0:Int))) (
 ixA a1 n0 a5 1 fun q7 =>
 yaK w q7 fun s8 =>
 Calls pP 106 #[.string s8,(.pointer (some A0))] w fun e a9 => ∃ a8,e = .returned (.bool a8) ∧
 brB (!a8) (
 ixA a1 n0 a4 1 fun b6 =>
 st a9 b6 [.string s8] fun b7 =>
 KS (yvS a1 n0 n1 A0 I m) (yh8 a1 n0 n1 A0 ((IntKind.wrap .i64 (a4 + 1)),(IntKind.wrap .i64 (a5 + 1)))) b7)
 (
 KS (yvS a1 n0 n1 A0 I m) (yh8 a1 n0 n1 A0 (a4,(IntKind.wrap .i64 (a5 + 1)))) a9))
 (
 slV a1 n1 a4 n0 n1 1 fun b0 b4 b2 =>
 yFc pP (Builtin.clear_ #[30] 0 #[.slice b0 b4 b2]) w fun b9 b8 =>
 slV a1 n1 0 a4 n1 1 fun b1 b5 b3 =>
 R (.slice b1 b5 b3) b8)) :
 yaU yqT (yF8 395 [0,0,1,0,1,1,1]) (yF9 [1,1,1,0,1,0] [] R) (yh8 a1 n0 n1 A0 (i0,i1)) w0 :=
 lrule (yh8 a1 n0 n1 A0) (U2 I) h0 (by rintro m ⟨a4,a5⟩ w h; exact ⟨by kernel_rfl,by kernel_rfl,fun js => Eq.mpr (by kernel_rfl) (hr m a4 a5 w h)⟩)
theorem yHv (h :
 Calls pP 145 #[.slice q0 n0 n1,(.func (.func 106) #[] #[(.pointer (some A0))])] w fun e w3 => ∃ x4,e = .returned (.int .i64 x4) ∧
 brB (x4 == (-1)) (
 R (.slice q0 n0 n1) w3)
 (
 yaU yqT (yF8 395 [0,0,1,0,1,1,1]) (yF9 [1,1,1,0,1,0] [] R) (yh8 q0 n0 n1 A0 (x4,(IntKind.wrap .i64 (x4 + 1)))) w3)) :
 CR pP 104 #[.slice q0 n0 n1,(.func (.func 106) #[] #[(.pointer (some A0))])] w R :=
 yaB Tryz.wide_mixed (an:=yqU) Tryz.func104 rfl rfl (by kernel_rfl) rfl (Eq.mpr (by kernel_rfl) h)
end
theorem yC6 {P:Program} {o:Oper} {a:Act} {w:World} {l:Nat} {K:VWP} {Q:Exit → Act → World → Prop} {next:Act → World → Prop} (h:yjE P (execOp a.eval o) w K) (hd:∀ c,o.op ≠ .defer c) (hK:∀ v w',K v w' → next (a.put o.dst v) w'):o.wpIn (Fence.wide.inRound l) 0 P a w next Q:=by
 refine ⟨fun _ _ => trivial,?_⟩
 rw [Oper.semAt_eq _ _ _ hd]
 unfold yjE at h
 split at h
 ·rename_i v w' he; rw [he]; exact hK _ _ h
 ·rename_i w' he; rw [he]; exact hK _ _ h
 ·rename_i f args w' he
  rw [he,Oper.uponIn_enter]
  refine ⟨fun hh => by simp [Fence.wide] at hh,?_⟩
  refine (CallsIn.inRound l (callsIn_wide.2 h)).mono fun e w'' hv => ?_
  obtain ⟨v,rfl,hk⟩:=hv
  exact hK v w'' hk
 ·exact h.elim
theorem ya3 {w:World} {b:Nat} {o:Obj} (h:w.heap[b]? = some o):b < w.heap.size:=(Array.getElem?_eq_some_iff.1 h).1
def yj2:List Oper → Bool
 | [] => true
 | o :: r => match o.op with
  | .defer _ => false
  | _ => match o.guard with
   | none => yj2 r
   | some _ => false
theorem ytE {o:Oper} {r:List Oper} (h:yj2 (o :: r) = true):(∀ c,o.op ≠ .defer c) ∧ o.guard = none ∧ yj2 r = true:=by
 unfold yj2 at h
 split at h
 ·cases h
 ·rename_i hn
  split at h
  ·rename_i hg; exact ⟨hn,hg,h⟩
  ·cases h
theorem ykT {P:Program} {n l:Nat} {ops:Array Oper} {Q:Exit → Act → World → Prop} {K:FA → St → Prop} (hK:∀ f s wa a,K f s → Inv f s wa → Rel n f a → Q .normal a wa) :
  ∀ {L:List Oper} {f:FA} {s:St} {wa:World} {a:Act},yj2 L = true → (∀ o ∈ L,∀ k,o.dst = some k → k < n) → ybT P ops L K f s → Inv f s wa → Rel n f a → wpListIn (Fence.wide.inRound l) 0 P ops Q L a wa
 | [],f,s,wa,a,_,_,h,hI,hR => hK f s wa a h hI hR
 | o :: r,f,s,wa,a,hnd,hn,h,hI,hR => by
  obtain ⟨hd,hg,hnd'⟩:=ytE hnd
  have hnr:∀ o ∈ r,∀ k,o.dst = some k → k < n:=fun o ho => hn o (by simp [ho])
  unfold ybT at h
  rw [hg] at h
  refine wpListIn_plain hg fun K' hK' => ?_
  refine yC6 (K:=fun v wa' => ∃ t s',ybT P ops r K (ydU f o.dst v t) s' ∧ OpI f s' v t wa' ∧ ybU s s') (by rw [hR.eval]; exact (ycF h hI).2) hd fun v w' ⟨t,s',h1,h2,_⟩ => ?_
  exact hK' _ _ (ykT hK hnd' hnr h1 (h2.put o.dst) (hR.put o.dst (hn o (by simp)) v t))
theorem ydS (w:World) (l:Nat) (o:Obj):Mod [l] w (w.putObj l o):=⟨rfl,rfl,rfl,by simp [World.putObj],fun k hk hn => World.putObj_heap_other (by simpa using hn)⟩
def yK8 {α:Type} (P:Program) (gf:FuncId) (lb:Array Value) (encs:α → Array Value) (w0:World) (S:List Nat) (X:Nat → α → World → Prop) (N B:Nat):Prop :=
 ∀ (l:Nat) (J:List α → World → Prop),(∀ pre W W',J pre W → Mod [] W W' → J pre W') → (∀ pre W,J pre W → Mod S w0 W ∧ B ≤ W.heap.size) →
  (∀ pre x W1,J pre W1 → X pre.length x W1 → pre.length < N → YieldAt Fence.wide 0 P l (encs x) W1 fun e W' => e = .returned (.bool true) ∧ J (pre ++ [x]) W') →
  ∀ W,J [] W → CallsIn Fence.wide 1 P gf (#[.func (.yield l) #[] #[]] ++ lb) W fun e W' => (∃ v,e = .returned v) ∧ ∃ xs,xs.length = N ∧ J xs W'
theorem yhR {α:Type} {P:Program} {g:Operand} {ps:Array Tmp} {assign body:Code} {Q:Exit → Act → World → Prop} {a:Act} {w:World}
  {gf:Nat} {lb:Array Value} (hg:a.eval g = .func (.func gf) #[] lb) (eg:∀ args w,(callFunc gf args).run P w = .ok (.enter gf args) w)
  {encs:α → Array Value} {S:List Nat} {X:Nat → α → World → Prop} {N:Nat} (hseq:yK8 P gf lb encs w S X N (w.heap.size + 2)) (hps:∀ x,(encs x).size = ps.size) (hS:∀ i ∈ S,i < w.heap.size)
  (I:List α → World → Prop) (hIm:∀ s W W',I s W → Mod [] W W' → I s W') (hIp:∀ s W l (o:Loop),l = w.heap.size + 1 → I s W → I s (W.putObj l (.loop o))) (hIS:∀ s W,I s W → Mod S w W) (h0:I [] w)
  (hround:∀ (pre:List α) (x:α) (W:World) (lp:Loop),I pre W → pre.length < N → X pre.length x W → W.heap[w.heap.size + 1]? = some (.loop lp) → w.heap.size < W.heap.size →
   assign.wpIn (Fence.wide.inRound (w.heap.size + 1)) 0 P (Exit.then (fun a1 W1 => W1.heap[w.heap.size + 1]? = some (.loop lp) ∧ ∀ lp':Loop,body.wpIn (Fence.wide.inRound (w.heap.size + 1)) 0 P
    (fun e _ W' => e = .normal ∧ W'.heap[w.heap.size + 1]? = some (.loop lp') ∧ W'.heap[w.heap.size]? = W.heap[w.heap.size]? ∧ I (pre ++ [x]) W') a1 (W1.putObj (w.heap.size + 1) (.loop lp'))) fun _ _ _ => False)
    { tmps:=(ps.zip (encs x)).foldl (fun t (p,v) => t.setIfInBounds p v) a.tmps,defers:=[] } W)
  (hdone:∀ (W:World) xs,xs.length = N → I xs W → W.heap[w.heap.size]? = some (.deferred (some [])) → Q .normal { a with defers:={ target:=.collected w.heap.size,args:=#[] } :: a.defers } W) :
  (Code.rangeFunc g ps assign body).wpIn Fence.wide 2 P Q a w:=by
 refine wpIn_rangeFunc ?_
 intro fn hfn
 have hro:Fence.wide.round = none:=rfl
 rw [hro]
 obtain ⟨rec,hrec⟩:∃ rec:LoopState → Option Code → Loop,rec = fun st pe => { state:=st,pending:=pe,fn,tmps:=a.tmps,params:=ps,assign,body,defers:=w.heap.size }:=⟨_,rfl⟩
 obtain ⟨W1,hW1⟩:∃ W1,(w.alloc (.deferred (some []))).alloc (.loop (rec .ready none)) = W1:=⟨_,rfl⟩
 have hL1:W1.heap[w.heap.size + 1]? = some (.loop (rec .ready none)):=by
  rw [← hW1]; have:=World.alloc_heap_new (w.alloc (.deferred (some []))) (.loop (rec .ready none)); rwa [World.size_alloc] at this
 have hK1:W1.heap[w.heap.size]? = some (.deferred (some [])):=by
  rw [← hW1]; exact (Below.heap_alloc _ _ _ (by simp)).trans (World.alloc_heap_new w _)
 have M:∀ (x:World) (o:Obj),Mod [] x (x.alloc o):=fun x o => Mod.of_below ((Below.refl _ _).alloc (Nat.le_refl _) _)
 have hI1:I [] W1:=by rw [← hW1]; exact hIm _ _ _ (hIm _ _ _ h0 (M _ _)) (M _ _)
 refine ⟨w.heap.size + 1,[{ target:=.collected w.heap.size,args:=#[] }],W1,{ target:=.fn (.func gf) lb,args:=#[.func (.yield (w.heap.size + 1)) #[] #[]] },W1,gf,
  #[.func (.yield (w.heap.size + 1)) #[] #[]] ++ lb,W1,?_,?_,fun _ _ => trivial,?_,fun h => (by simp [Fence.wide] at h),?_⟩
 ·rw [← hW1,hrec]; exact run_enterLoop_outer _ _ _ _ _
 ·simp only [resolve,hg]
  simp [go_sem]
 ·simp [invoke,go_sem,eg]
 ·refine (hseq (w.heap.size + 1)
   (fun pre W => I pre W ∧ W.heap[w.heap.size + 1]? = some (.loop (rec .ready none)) ∧ W.heap[w.heap.size]? = some (.deferred (some [])))
   ?_ ?_ ?_ W1 ⟨hI1,hL1,hK1⟩).mono ?_
  ·rintro pre W W' ⟨hi,hl,hk⟩ hM
   exact ⟨hIm _ _ _ hi hM,(hM.block _ (ya3 hl) (by simp)).trans hl,(hM.block _ (ya3 hk) (by simp)).trans hk⟩
  ·rintro pre W ⟨hi,hl,hk⟩
   exact ⟨hIS _ _ hi,ya3 hl⟩
  ·rintro pre x W ⟨hi,hl,hk⟩ hx hlen
   have hlt:=ya3 hl
   have hy:=run_yield (P:=P) (args:=encs x) hl (by rw [hrec]; exact hps x)
   rw [hrec] at hy
   refine ⟨fn,_,assign,body,hy,roundIn_of_wpIn trivial ?_⟩
   refine wpIn_mono (hround pre x W (rec .ready none) hi hlen hx hl (by omega)) ?_
   intro e a1 W2 hq
   cases e with
   | normal =>
    obtain ⟨hl2,hb⟩:=hq
    refine ⟨_,run_beginRound hl2 (by rw [hrec]),?_⟩
    refine wpIn_mono (hb { rec .ready none with state:=.busy }) ?_
    rintro e a3 W3 ⟨rfl,hr1,hD3,hi3⟩
    have hr:=run_endRound (P:=P) none hr1
    have hlt3:=ya3 hr1
    refine ⟨_,_,hr,rfl,⟨hIp _ _ _ _ rfl hi3,?_,?_⟩⟩
    ·rw [World.putObj_heap_same hlt3,hrec]; rfl
    ·exact (World.putObj_heap_other (by omega)).trans (hD3.trans hk)
   | _ => exact hq.elim
  ·rintro e W2 ⟨⟨v,rfl⟩,xs,hxs,hi,hl,hk⟩
   exact ⟨none,_,by have:=run_endLoop (P:=P) hl (by rw [hrec]; simp); rw [hrec] at this; exact this,hdone _ xs hxs (hIp _ _ _ _ rfl hi) ((World.putObj_heap_other (by omega)).trans hk)⟩
theorem yLZ {ts:Array Value} {q:Tmp} {v:Value}:((#[q]:Array Tmp).zip #[v]).foldl (fun t (x:Tmp × Value) => match x with | (p,v) => t.setIfInBounds p v) ts = ts.setIfInBounds q v:=by simp
end Go.Proofs.YtkepmmocldnnfaaGreat
namespace Go.Proofs.YtkepmmocldnnfaaGreat
open Go Go.RowKit Go.Maps Go.MapKept
open Go.ChangeMaps (setBlock)
set_option linter.unusedVariables false
set_option linter.unusedSimpArgs false
section
attribute [local go_sem] Oper.semAt_some
set_option maxRecDepth 100000 in
set_option maxHeartbeats 2000000 in
theorem yz1 {w:World} {b6:Nat} {a3 a4:Addr} {name:ByteArray} {t:Bool} (h6:w.cell? ⟨b6,0,none⟩ = some (.func (.func 103) #[] #[.pointer (some a4),.pointer (some a3)]))
  (h1:Calls pP 103 #[.string name,.pointer (some a4),.pointer (some a3)] w fun e w' => e = .returned (.bool t) ∧ Mod [] w w') :
  Calls pP 106 #[.string name,.pointer (some ⟨b6,0,none⟩)] w fun e w' => e = .returned (.bool (!t)) ∧ Mod [] w w':=by
 refine (callsIn_wide (n:=2)).1 ?_
 have hro:Fence.wide.round = none:=rfl
 refine callsIn_of_wp Tryz.func106 rfl trivial ?_ hro
 simp only [Tryz.ntmps106,List.size_toArray,List.length_cons,List.length_nil,Nat.reduceAdd,Nat.reduceSub,Array.replicate_succ,Array.replicate_zero,List.push_toArray,List.append_toArray,List.nil_append,List.cons_append]
 gi_wp2
 refine ⟨trivial,(callsIn_wide.2 h1).mono ?_⟩
 rintro _ w' ⟨rfl,M⟩
 gi_wp2
 go_ret
 exact ⟨rfl,M⟩
end
def yz2 (now:Int) (x:PSeat):Bool:=decide (now ≥ IntKind.wrap .i64 (x.seen + x.tmo))
def yqV (G:GL) (now:Int) (name:ByteArray):Bool:=yz2 now ((lkp G name).getD yfD)
theorem yz3 {w:World} {b m b3 b4:Nat} {gen:Int} {robin:Bool} {L:SL} {now:Int} (hc:w.heap[b]? = some (.cells #[.int .i64 gen,.bool robin,.map (some m)] 200)) (hm:yaX pP 9 hks SeatV.v w m L)
  {T3 T4:TypeId} {z3 z4:Nat × Nat} (h3:w.heap[b3]? = some (.cells #[.pointer (some ⟨b,0,none⟩)] T3 z3)) (h4:w.heap[b4]? = some (.cells #[.int .i64 now] T4 z4)) {name:ByteArray} (hs:name.size ≤ maxLen) :
  Calls pP 103 #[.string name,.pointer (some ⟨b4,0,none⟩),.pointer (some ⟨b3,0,none⟩)] w fun e w' => e = .returned (.bool (yqV (yaZ L) now name)) ∧ Mod [] w w':=by
 refine ya2 (yHp ?_)
 refine yaI (x:=now) (by rw [yaY h4]; rfl) ?_
 refine yfY (x:=some ⟨b,0,none⟩) (by rw [yaY h3]; rfl) (ydW ?_)
 refine yg0 (x:=some m) (by rw [ycE,yaY hc]; rfl) ?_
 have hlk:=hm.lkF (k:=name) ye0 ybW Tryz.underlying198 yg9 (yb1 hs)
 refine ⟨_,_,_,_,_,_,hlk,?_⟩
 refine yfY (x:=some ⟨b,0,none⟩) (by rw [yaY h3]; rfl) (ydW ?_)
 refine yg0 (x:=some m) (by rw [ycE,yaY hc]; rfl) ?_
 refine ⟨_,_,_,_,_,_,hlk,?_⟩
 intro w20 A20
 refine ⟨congrArg Value.bool ?_,A20.mod⟩
 have e:(lkp (yaZ L) name).getD yfD = ((lkp L name).getD ⟨yfD,ybM⟩:SeatV).x:=by rw [yd6]; cases lkp L name <;> rfl
 rw [yqV,e]; rfl
theorem yHw {w:World} {S:List Nat} {b6:Nat} {late:ByteArray → Bool} {a:Option Addr} {n c:Nat} {l:List ByteArray} (h:ybD w 1 ydC a n l) (hl:l.length ≤ 1000000)
  (hD:∀ W x,Mod S w W → x ∈ l → Calls pP 106 #[.string x,.pointer (some ⟨b6,0,none⟩)] W fun e w' => e = .returned (.bool (!late x)) ∧ Mod [] W w') :
  Calls pP 145 #[.slice a n c,.func (.func 106) #[] #[.pointer (some ⟨b6,0,none⟩)]] w fun e w' => ∃ v,e = .returned v ∧ ∃ r:Int,v = .int .i64 r ∧ Mod [] w w' ∧ ((r = -1 ∧ l.filter late = l) ∨ ∃ k:Nat,r = k ∧ k < l.length ∧ (l.take (k + 1)).filter late = l.take k):=by
 have hn:=h.1
 refine yHu ?_
 refine yzZ (fun mm x w' => ∃ k:Nat,x = k ∧ k ≤ l.length ∧ (∀ y ∈ l.take k,late y = true) ∧ Mod [] w w' ∧ mm = l.length - k) l.length ⟨0,rfl,by omega,by simp,Mod.refl _,rfl⟩ ?_
 rintro mm x w1 ⟨k,rfl,hk,hb,M1,rfl⟩
 refine yaH (fun hlt => ?_) fun hge => ?_
 ·obtain ⟨s,hs⟩:∃ s,l[k]? = some s:=⟨_,List.getElem?_eq_getElem (by omega)⟩
  refine (h.keep0 M1).ix hs fun q hq => yaN (by simpa [add_zero] using hq 0 _ rfl) ?_
  refine (hD w1 s (M1.less (by simp)) (List.mem_of_getElem? hs)).mono ?_
  rintro _ w7 ⟨rfl,M7⟩
  have N7:=M1.go0 M7 (by simp)
  refine ⟨_,rfl,yaD (fun g => ?_) fun g => ?_⟩
  ·have g:late s = false:=by simpa using g
   refine ⟨_,rfl,N7,.inr ⟨k,rfl,by omega,?_⟩⟩
   rw [yd2 hs,List.filter_append,List.filter_eq_self.2 hb]
   simp [g]
  ·have g:late s = true:=by simpa using g
   refine yzY (l.length - (k + 1)) (by omega) ⟨k + 1,by rw [yaJ (by omega) (by omega)]; omega,by omega,?_,N7,rfl⟩
   rw [yd2 hs]
   intro y hy
   rcases List.mem_append.1 hy with hy | hy
   ·exact hb y hy
   ·simp at hy; subst hy; exact g
 ·have hk:k = l.length:=by omega
  subst hk
  rw [List.take_length] at hb
  exact ⟨_,rfl,M1,.inl ⟨rfl,List.filter_eq_self.2 hb⟩⟩
theorem yHx (w:World):(zeroValue 9).run pP w = .ok (.string ⟨#[]⟩) w:=by kernel_rfl
set_option maxHeartbeats 1000000 in
theorem yC7 {w:World} {B:Nat} {a:Option Addr} {n c k:Nat} {l:List ByteArray} {R:Option Addr → Nat → Nat → World → Prop} (h:Row w B 9 1 ydC a n c l) (hk:k ≤ n)
  (hR:∀ a' c' w',ybD w' 1 ydC a' k (l.take k) → Mod (yaP a) w w' → R a' k c' w') :
  slV a c (k:Int) ((n:Nat):Int) (c:Int) 1 fun a22 n23 c24 => yFc pP (Builtin.clear_ #[30] 0 #[.slice a22 n23 c24]) w fun v26 w25 => slV a c 0 (k:Int) ((c:Nat):Int) 1 fun a30 n31 c32 => R a30 n31 c32 w25:=by
 have hcap:=h.cap
 have hsl:=h.sl yf1
 have fin:∀ {w'},ybD w' 1 ydC a k (l.take k) → Mod (yaP a) w w' → slV a c 0 (k:Int) ((c:Nat):Int) 1 fun a30 n31 c32 => R a30 n31 c32 w':=fun {w'} hs M =>
  ywJ hs (Nat.le_refl _) (by omega) fun a' c' hs' => hR a' c' w' (by rwa [List.take_take,Nat.min_self] at hs') M
 refine ⟨by omega,by omega,by omega,by omega,?_⟩
 have e1:((n:Int) - k).toNat = n - k:=by omega
 have e2:((c:Int) - k).toNat = c - k:=by omega
 have e3:(k:Int).toNat * 1 = k:=by omega
 rw [e1,e2,e3]
 by_cases hz:n - k = 0
 ·have hkn:k = n:=by omega
  have ek:l.take k = l:=by rw [hkn,h.1,List.take_length]
  have hrun:∀ x:Option Addr,(Builtin.clear_ #[30] 0 #[.slice x 0 (c - k)]).run pP w = .ok (.tuple #[]) w:=fun x => by
   cases x <;> simp [Builtin.clear_,run_underlying Tryz.underlying30]
  rw [hz]
  exact ⟨_,_,hrun _,fin (by rw [ek,hkn]; exact hsl) ((Mod.refl w).less (by simp))⟩
 ·obtain ⟨hn,ho⟩:=id h
  rcases ho.2 with ⟨h1,h2⟩ | ⟨g,cap,cur,hv,hb,hg,hnc,hcm,hsz,htk⟩
  ·omega
  ·simp only [Value.slice.injEq] at hv
   obtain ⟨rfl,_,rfl⟩:=hv
   rw [if_neg (by omega)]
   have ea:(Option.map (fun x => x.add k) (some (⟨g,0,none⟩:Addr))) = some ⟨g,k,none⟩:=by
    simp [Addr.add]; omega
   rw [ea]
   obtain ⟨w',hst,hg',M'⟩:∃ w',(storeCells ⟨g,k,none⟩ (List.replicate (n - k) (Value.string ⟨#[]⟩)) 0).run pP w = .ok () w' ∧ w'.heap[g]? = some (.cells (ycD cur k (List.replicate (n - k) (Value.string ⟨#[]⟩))) 9) ∧ Mod [g] w w' :=
    ypM (P:=pP) (show st w ⟨g,k,none⟩ (List.replicate (n - k) (Value.string ⟨#[]⟩)) _ from yhG hg (by simp [ynH]) (by simp; omega) fun w' h1 h2 => ⟨h1,h2⟩)
   have hzc:(Builtin.zeroCells (Value.string ⟨#[]⟩).cells (n - k)).toList = List.replicate (n - k) (Value.string ⟨#[]⟩):=by
    simp [Builtin.zeroCells,Value.cells]
    apply List.ext_getElem
    ·simp
    ·intro i h1 h2
     simp [Nat.mod_one]
   have hrun:(Builtin.clear_ #[30] 0 #[.slice (some ⟨g,k,none⟩) (n - k) (c - k)]).run pP w = .ok (.tuple #[]) w':=by
    obtain ⟨q,hq⟩:∃ q,n - k = q + 1:=⟨n - k - 1,by omega⟩
    rw [hq] at hst hzc ⊢
    simp [Builtin.clear_,run_underlying Tryz.underlying30,yHx,hzc,hst,Result.andThen]
   refine ⟨_,_,hrun,fin ⟨by rw [List.length_take]; omega,fun i x hx => ?_⟩ (by simpa [yaP] using M')⟩
   rw [List.getElem?_take] at hx
   split at hx
   ·rename_i hik
    refine ⟨_,rfl,fun j v hv => ?_⟩
    obtain ⟨ad,had,hcell⟩:=hsl.2 i x hx
    cases had
    have h1:=hcell j v hv
    have hj:j = 0:=by
     have:=(List.getElem?_eq_some_iff.1 hv).1
     simp [ydC] at this; omega
    subst hj
    have e:((⟨g,0,none⟩:Addr).add (i * 1)).add 0 = ⟨g,i,none⟩:=by
     rw [add_zero,Nat.mul_one,ycE,Nat.zero_add]
    rw [e] at h1 ⊢
    rw [yaY hg] at h1
    rw [yaY hg',← Array.getElem?_toList,yh2 _ _ _ _ (by simp; omega),if_neg (by omega),Array.getElem?_toList]
    exact h1
   ·cases hx
end Go.Proofs.YtkepmmocldnnfaaGreat
namespace Go.Proofs.YtkepmmocldnnfaaGreat
open Go Go.RowKit Go.Maps Go.MapKept
open Go.ChangeMaps (setBlock)
set_option linter.unusedVariables false
set_option linter.unusedSimpArgs false
set_option maxHeartbeats 1000000 in
theorem yHy {w:World} {B b6:Nat} {late:ByteArray → Bool} {a:Option Addr} {n c:Nat} {l:List ByteArray} (h:Row w B 9 1 ydC a n c l) (hl:l.length ≤ 1000000)
  (hD:∀ W x,Mod (yaP a) w W → x ∈ l → Calls pP 106 #[.string x,.pointer (some ⟨b6,0,none⟩)] W fun e w' => e = .returned (.bool (!late x)) ∧ Mod [] W w') :
  Calls pP 104 #[.slice a n c,.func (.func 106) #[] #[.pointer (some ⟨b6,0,none⟩)]] w fun e w' => ∃ v,e = .returned v ∧ ∃ s':Sl,v = .slice s'.a s'.n s'.c ∧ ybD w' 1 ydC s'.a s'.n (l.filter late) ∧ Mod (yaP a) w w':=by
 have hn:=h.1
 refine yHv ?_
 refine (yHw (S:=yaP a) (h.sl yf1) hl hD).mono ?_
 rintro _ w3 ⟨_,rfl,r,rfl,M3,hr⟩
 refine ⟨_,rfl,yaD (fun g => ?_) fun g => ?_⟩
 ·have g:r = -1:=eq_of_beq g
  rcases hr with ⟨_,hf⟩ | ⟨k,hk,_⟩
  ·refine ⟨⟨a,n,c⟩,rfl,?_,M3.less (by simp)⟩
   rw [hf]
   exact (h.keep0 M3).sl yf1
  ·omega
 have g:r ≠ -1:=by rintro rfl; simp at g
 obtain ⟨k0,rfl,hk0,hf0⟩:∃ k:Nat,r = k ∧ k < l.length ∧ (l.take (k + 1)).filter late = l.take k:=by
  rcases hr with ⟨h1,_⟩ | h1
  ·exact absurd h1 g
  ·exact h1
 refine yz0 (fun mm x y w' => ∃ (i j:Nat) (l':List ByteArray),x = i ∧ y = j ∧ i < j ∧ j ≤ l.length ∧ Row w' B 9 1 ydC a n c l' ∧ l'.length = l.length ∧ l'.take i = (l.take j).filter late ∧ l'.drop j = l.drop j ∧ Mod (yaP a) w w' ∧ mm = l.length - j) (l.length - (k0 + 1))
  ⟨k0,k0 + 1,l,rfl,by rw [yaJ (by omega) (by omega)]; omega,by omega,by omega,h.keep0 M3,rfl,hf0.symm,rfl,M3.less (by simp),rfl⟩ ?_
 rintro mm x y w1 ⟨i,j,l',rfl,rfl,hij,hj,hR,hll,htk,hdr,M1,rfl⟩
 refine yaH (fun hlt => ?_) fun hge => ?_
 ·obtain ⟨s,hs⟩:∃ s,l[j]? = some s:=⟨_,List.getElem?_eq_getElem (by omega)⟩
  have hs':l'[j]? = some s:=by
   have h1:=List.getElem?_drop (xs:=l') (i:=j) (j:=0)
   have h2:=List.getElem?_drop (xs:=l) (i:=j) (j:=0)
   rw [hdr,h2] at h1
   simpa [hs] using h1.symm
  refine (hR.sl yf1).ix hs' fun q hq => yaN (by simpa [add_zero] using hq 0 _ rfl) ?_
  refine (hD w1 s M1 (List.mem_of_getElem? hs)).mono ?_
  rintro _ w11 ⟨rfl,M11⟩
  have N11:Mod (yaP a) w w11:=(M1.trans M11).less fun z hz _ => by simpa using hz
  have e1:IntKind.wrap .i64 ((i:Int) + 1) = ((i + 1:Nat):Int):=by rw [yaJ (by omega) (by omega)]; omega
  have e2:IntKind.wrap .i64 ((j:Int) + 1) = ((j + 1:Nat):Int):=by rw [yaJ (by omega) (by omega)]; omega
  rw [e1,e2]
  have hd1:l'.drop (j + 1) = l.drop (j + 1):=by
   have:=congrArg (List.drop 1) hdr
   rwa [List.drop_drop,List.drop_drop] at this
  refine ⟨_,rfl,yaD (fun g => ?_) fun g => ?_⟩
  ·have g:late s = true:=by simpa using g
   obtain ⟨u,hu⟩:∃ u,l'[i]? = some u:=⟨_,List.getElem?_eq_getElem (by omega)⟩
   refine Row.store (enc:=ydC) (y:=s) (hR.keep0 M11) yf1 (by simp [ydC,ynH]) hu fun ad w16 had hR16 M16 => ?_
   have N16:Mod (yaP a) w w16:=(N11.trans M16).less fun z hz _ => by
    simp only [List.mem_append,List.mem_cons,List.not_mem_nil,or_false] at hz
    rcases hz with hz | rfl
    ·exact hz
    ·exact yb0 a ad had
   refine yo8 (l.length - (j + 1)) (by omega) ⟨i + 1,j + 1,l'.set i s,rfl,rfl,by omega,by omega,hR16,by simpa using hll,?_,?_,N16,rfl⟩
   ·have hil:i < l'.length:=by omega
    rw [yd2 (q:=s) (by rw [List.getElem?_set_self hil]),List.take_set_of_le (Nat.le_refl _),htk,yd2 hs,List.filter_append]
    simp [g]
   ·rw [List.drop_set_of_lt (by omega),hd1]
  ·have g:late s = false:=by simpa using g
   refine yo8 (l.length - (j + 1)) (by omega) ⟨i,j + 1,l',rfl,rfl,by omega,by omega,hR.keep0 M11,hll,?_,hd1,N11,rfl⟩
   rw [htk,yd2 hs,List.filter_append]
   simp [g]
 ·have hjl:j = l.length:=by omega
  subst hjl
  rw [List.take_length] at htk
  refine yC7 (k:=i) hR (by omega) fun a' c' w' hs M => ?_
  rw [htk] at hs
  have hi:i = (l.filter late).length:=by
   have:=congrArg List.length htk
   rw [List.length_take] at this; omega
  rw [hi] at hs ⊢
  exact ⟨⟨a',_,c'⟩,rfl,hs,(M1.trans M).less fun z hz _ => by simpa using hz⟩
theorem ybD.keepMaps {α:Type} {w w':World} {sz:Nat} {enc:α → List Value} {a:Option Addr} {n:Nat} {l:List α} {S:List Nat} (h:ybD w sz enc a n l) (hz:∀ x,0 < (enc x).length) (M:Mod S w w') (hS:∀ k ∈ S,∃ es clock,w.heap[k]? = some (.map es clock)):ybD w' sz enc a n l:=by
 by_cases he:l = []
 ·subst he; exact ⟨h.1,fun i x hx => by simp at hx⟩
 ·refine h.keep M fun ad had hk => ?_
  obtain ⟨es,clock,hm⟩:=hS _ hk
  obtain ⟨x,hx⟩:∃ x,l[0]? = some x:=⟨_,List.getElem?_eq_getElem (List.length_pos_iff.2 he)⟩
  obtain ⟨ad',had',hc⟩:=h.2 0 x hx
  rw [had] at had'; cases had'
  obtain ⟨v,hv⟩:∃ v,(enc x)[0]? = some v:=⟨_,List.getElem?_eq_getElem (hz x)⟩
  have h1:=hc 0 v hv
  rw [add_zero,Nat.zero_mul,add_zero] at h1
  unfold World.cell? at h1
  rw [hm] at h1
  simp at h1
theorem yaX.nameSize {β:Type} {ev:β → Value} {w:World} {m:Nat} {L:List (ByteArray × β)} (h:yaX pP 9 hks ev w m L):∀ p ∈ L,p.1.size ≤ maxLen:=fun p hp => by
 obtain ⟨l,hl⟩:=h.keyedP p hp
 obtain ⟨x,h1,_,h3⟩:=Maps.keyOf_str Tryz.underlying9 hl
 have:hks p.1 = encStr x:=h1
 simp only [hks,encStr,Value.string.injEq] at this
 rw [this,show (⟨x.toArray⟩:ByteArray).size = x.length by simp [ByteArray.size]]
 exact h3
theorem yz4 {κ β:Type} [DecidableEq κ] {L:List (κ × β)} {k:κ} (hn:(L.map (·.1)).Nodup):del L k = L.filter fun q => decide (q.1 ≠ k):=yFr hn
open Classical in
noncomputable def lessN {β:Type} (L:List (ByteArray × β)) (out:List ByteArray):List (ByteArray × β):=L.filter fun q => decide (q.1 ∉ out)
open Classical in
theorem yz5 {β:Type} {L:List (ByteArray × β)} {out:List ByteArray} {k:Nat} {s:ByteArray} (hn:(L.map (·.1)).Nodup) (hs:out[k]? = some s):lessN L (out.take (k + 1)) = del (lessN L (out.take k)) s:=by
 have hn2:((lessN L (out.take k)).map (·.1)).Nodup:=hn.sublist (List.Sublist.map _ List.filter_sublist)
 rw [yz4 hn2,lessN,lessN,List.filter_filter]
 refine List.filter_congr fun q _ => ?_
 rw [yd2 hs,← Bool.decide_and]
 refine decide_eq_decide.2 ?_
 rw [List.mem_append,List.mem_singleton]
 constructor
 ·exact fun h => ⟨fun e => h (.inr e),fun e => h (.inl e)⟩
 ·rintro ⟨h1,h2⟩ (h | h)
  ·exact h2 h
  ·exact h1 h
def yfP (now:Int) (G:GL):Nat:=(G.filter fun q => yz2 now q.2).length
def ynV (now:Int) (G:GL):GL:=G.filter fun q => !yz2 now q.2
open Classical in
set_option maxHeartbeats 2000000 in
theorem yz6 {w:World} {b:Nat} {gen:Int} {robin:Bool} {G:GL} {F:List Nat} (h:yc0 w b gen robin G F) (hl:G.length ≤ 1000000) (now:Int) :
  Calls pP 65 #[.pointer (some ⟨b,0,none⟩),.int .i64 now] w fun e w' => ∃ v,e = .returned v ∧ ∃ s':Sl,v = .slice s'.a s'.n s'.c ∧ s'.n = yfP now G ∧
   ∃ F',yc0 w' b (if 0 < yfP now G then ynT gen else gen) robin (ynV now G) F' ∧ Mod F w w' ∧ ybJ w F F':=by
 have hA:=h
 obtain ⟨m,L,hc,hm,hT,rfl,rfl⟩:=h
 have hmb:m ≠ b:=by rintro rfl; exact hm.notCells hc
 have lb:=yaL hc
 have lm:=hm.lt
 have hnd:=hm.nodup
 have hlen:(yaZ L).length = L.length:=by simp [yaZ]
 have hkeys:(yaZ L).map (·.1) = L.map (·.1):=by unfold yaZ; rw [List.map_map]; rfl
 refine yHo hc ?_
 intro b3 f3 b4 f4 b6 f6 w28 A28 h28 h28a h28b
 have l3:=A28.lt b3 (by simp)
 have l4:=A28.lt b4 (by simp)
 have l6:=A28.lt b6 (by simp)
 refine (yi5 (hA.keep0 A28.mod) hl).mono ?_
 rintro _ w29 ⟨_,rfl,s,rfl,hR29,M29⟩
 have N29:=A28.mod.go0 M29 (by simp)
 refine ⟨_,_,_,rfl,yaG.of0 M29,_,_,_,M29.keep0 h28,_,M29.keep0 h28a,_,M29.keep0 h28b,?_⟩
 intro w38 A38 h38 h38a h38b h38c
 have N38:=N29.go0 A38.mod (by simp)
 have hR38:=hR29.keep0 A38.mod
 have s28:=A28.mod.size
 have s29:=M29.size
 have s38:=A38.mod.size
 have hnew:=hR29.newS
 generalize hls:ydK ((yaZ L).map (·.1)) = ls at hR38 hR29
 have hperm:ls.Perm (L.map (·.1)):=by rw [← hls,hkeys]; exact yd5 _
 have hlsl:ls.length ≤ 1000000:=by have:=hperm.length_eq; simp at this; omega
 have hm38:=hm.keepM0 N38
 have nR:∀ z ∈ yaP s.a,w28.heap.size ≤ z:=hnew
 refine (yHy (late:=yqV (yaZ L) now) hR38 hlsl fun W x M hx => ?_).mono ?_
 ·have hsz:x.size ≤ maxLen:=by
   have:x ∈ L.map (·.1):=hperm.mem_iff.1 hx
   obtain ⟨p,hp,rfl⟩:=List.mem_map.1 this
   exact hm.nameSize p hp
  have kk:∀ {k:Nat} {o:Obj},k < w28.heap.size → w38.heap[k]? = some o → W.heap[k]? = some o:=fun hk ho => M.keep ho fun hz => by have:=nR _ hz; omega
  refine yz1 (by rw [yaY (kk l6 h38c)]; rfl) ?_
  exact yz3 (kk (by omega) h38) (hm38.keepM M fun hz => by have:=nR _ hz; omega) (kk l3 h38a) (kk l4 h38b) hsz
 rintro _ w39 ⟨_,rfl,s',rfl,hO39,M39⟩
 have kk:∀ {k:Nat} {o:Obj},k < w28.heap.size → w38.heap[k]? = some o → w39.heap[k]? = some o:=fun hk ho => M39.keep ho fun hz => by have:=nR _ hz; omega
 have N39:Mod [] w w39:=N38.go0 M39 fun z hz => by have:=nR z hz; omega
 have s39:=M39.size
 refine ⟨_,_,_,rfl,_,_,_,kk (by omega) h38,_,kk l3 h38a,_,kk l4 h38b,_,kk l6 h38c,?_⟩
 generalize hout:ls.filter (yqV (yaZ L) now) = out at hO39
 have hon:=hO39.1
 have hmemout:∀ q ∈ L,(q.1 ∈ out ↔ yz2 now q.2.x = true):=fun q hq => by
  rw [← hout,List.mem_filter]
  have h1:q.1 ∈ ls:=hperm.mem_iff.2 (List.mem_map.2 ⟨q,hq,rfl⟩)
  have h2:yqV (yaZ L) now q.1 = yz2 now q.2.x:=by rw [yqV,yd6,yc8 hnd hq]; rfl
  rw [h2]
  exact ⟨fun h => h.2,fun h => ⟨h1,h⟩⟩
 have houtl:out.length = yfP now (yaZ L):=by
  have h1:out.Perm ((L.map (·.1)).filter (yqV (yaZ L) now)):=by rw [← hout]; exact hperm.filter _
  rw [h1.length_eq,yfP,yaZ,List.filter_map,List.filter_map,List.length_map,List.length_map]
  congr 1
  refine List.filter_congr fun q hq => ?_
  simp only [Function.comp_apply]
  rw [show (List.map (fun q:ByteArray × SeatV => (q.1,q.2.x)) L) = yaZ L from rfl,yqV,yd6,yc8 hnd hq]; rfl
 have hstay:yaZ (lessN L out) = ynV now (yaZ L):=by
  unfold ynV yaZ lessN
  rw [List.filter_map]
  congr 1
  refine List.filter_congr fun q hq => ?_
  have:=hmemout q hq
  cases hh:yz2 now q.2.x <;> simp_all
 have hm39:=hm.keepM0 N39
 have houl:out.length ≤ 1000000:=by have:=List.length_filter_le (yqV (yaZ L) now) ls; rw [hout] at this; omega
 refine yzS (fun mm x w' => ∃ k:Nat,x = k ∧ k ≤ out.length ∧ yaX pP 9 hks SeatV.v w' m (lessN L (out.take k)) ∧ ybD w' 1 ydC s'.a s'.n out ∧ Mod [m] w w' ∧ mm = out.length - k) out.length
  ⟨0,rfl,by omega,by rw [show lessN L (out.take 0) = L from List.filter_eq_self.2 (by simp)]; exact hm39,hO39,N39.less (by simp),rfl⟩ ?_
 rintro mm x w1 ⟨k,rfl,hk,hm1,hO1,N1,rfl⟩
 intro g0 g1 g2 g3
 have s1:=N1.size
 refine yaH (fun hlt => ?_) fun hge => ?_
 ·obtain ⟨nm,hnm⟩:∃ s,out[k]? = some s:=⟨_,List.getElem?_eq_getElem (by omega)⟩
  refine hO1.ix hnm fun q hq => yaN (by simpa [add_zero] using hq 0 _ rfl) ?_
  refine ydW ?_
  refine yg0 (x:=some m) (by rw [ycE,yaY g0]; rfl) ?_
  have hsz:nm.size ≤ maxLen:=by
   have h1:nm ∈ out:=List.mem_of_getElem? hnm
   rw [← hout] at h1
   obtain ⟨p,hp,rfl⟩:=List.mem_map.1 (hperm.mem_iff.1 (List.mem_filter.1 h1).1)
   exact hm.nameSize p hp
  obtain ⟨o,ho1,ho2⟩:=hm1.delete ye0 ybW Tryz.underlying198 (yb1 hsz) 0
  refine ⟨_,_,ho1,yaG.of ycB (by simp; refine ⟨fun _ e => hmb e.symm,fun _ => ?_,fun _ => ?_,fun _ => ?_⟩ <;> omega),?_⟩
  rw [← yz5 hnd hnm] at ho2
  obtain ⟨es,clock,hes,_⟩:=id hm1
  exact yzR (out.length - (k + 1)) (by omega) ⟨k + 1,by rw [yaJ (by omega) (by omega)]; omega,by omega,ho2,hO1.keepMaps (by simp [ydC]) ycB (by simp; exact ⟨es,clock,hes⟩),(N1.trans ycB).less (by simp),rfl⟩
 ·have hkk:k = out.length:=by omega
  subst hkk
  rw [List.take_length] at hm1
  have sub:∀ q ∈ lessN L out,q ∈ L:=fun q hq => (List.mem_filter.1 hq).1
  have fin:∀ {w':World} {gen':Int},w'.heap[b]? = some (.cells #[.int .i64 gen',.bool robin,.map (some m)] 200) → Mod [b] w1 w' → ∃ F',yc0 w' b gen' robin (ynV now (yaZ L)) F' ∧ Mod (b :: m :: L.flatMap fun q => yaP q.2.ts.a) w w' ∧ ybJ w (b :: m :: L.flatMap fun q => yaP q.2.ts.a) F':=fun {w' gen'} hc' M' => by
   have N':Mod [m,b] w w':=(N1.trans M').less (by simp)
   rw [← hstay]
   refine ⟨_,⟨m,lessN L out,hc',hm1.keepM M' (by simpa using hmb),fun q hq => ?_,rfl,rfl⟩,N'.less (fun z hz _ => by simp at hz ⊢; omega),fun z hz => .inl ?_⟩
   ·refine yaE (hT q (sub q hq)) N' fun z hz hz' => ?_
    simp at hz
    rcases hz with rfl | rfl
    ·obtain ⟨_,_,cur,hcur⟩:=yaS (hT q (sub q hq)) z hz'
     exact hm.notCells hcur
    ·exact ycT (hT q (sub q hq)) hc (by decide) hz'
   ·simp only [List.mem_cons,List.mem_flatMap] at hz ⊢
    rcases hz with h1 | h1 | ⟨q,hq,h1⟩
    ·exact .inl h1
    ·exact .inr (.inl h1)
    ·exact .inr (.inr ⟨q,sub q hq,h1⟩)
  refine yaH (fun g => ?_) fun g => ?_
  ·refine (yx5 g0).mono ?_
   rintro _ w68 ⟨rfl,h68,M68⟩
   have ne3:b3 ≠ b:=by omega
   have ne4:b4 ≠ b:=by omega
   have ne6:b6 ≠ b:=by omega
   refine ⟨rfl,_,_,_,h68,_,M68.keep g1 (by simpa using ne3),_,M68.keep g2 (by simpa using ne4),_,M68.keep g3 (by simpa using ne6),?_⟩
   refine ⟨s',rfl,by omega,?_⟩
   rw [if_pos (by omega)]
   exact fin h68 M68
  ·refine ⟨s',rfl,by omega,?_⟩
   rw [if_neg (by omega)]
   exact fin g0 ((Mod.refl w1).less (by simp))
end Go.Proofs.YtkepmmocldnnfaaGreat
namespace Go.Proofs.YtkepmmocldnnfaaGreat
open Go Go.RowKit
set_option linter.all false
section
set_option maxRecDepth 100000
variable {R:VWP} {w w0:World} {m:Nat} {i0 i1 i2 i3 i4 i5 i6 i7 i8 i9 j0 j1 j2 j3 j4 j5 j6 j7 j8 j9 k0 k1 k2 k3 k4 k5 k6 k7 k8 k9 l0 l1 l2 l3 l4 l5 l6 l7 l8 l9:Int} {s0 s1 s2 s3 s4 s5 s6 s7 s8 s9 t0 t1 t2 t3 t4 t5 t6 t7 t8 t9:BA} {n0 n1 n2 n3 n4 n5 n6 n7 n8 n9 o0 o1 o2 o3 o4 o5 o6 o7 o8 o9 p0 p1 p2 p3 p4 p5 p6 p7 p8 p9:Nat} {q0 q1 q2 q3 q4 q5 q6 q7 q8 q9 r0 r1 r2 r3 r4 r5 r6 r7 r8 r9:OA} {B0 B1 B2 B3 B4 B5 B6 B7 B8 B9:Bool} {M0 M1 M2 M3:Option Nat} {V0 V1 V2 V3 V4 V5:Value} {A0 A1 A2:Addr}
def yqW:LA:=⟨[0,0,1,0,1,1,1],[1,7],[],0,[]⟩
def yqX:List LA:=[yqW]
abbrev yGa:=dnF pP yqX (code Tryz.f154)
abbrev yMe:=ya0 pP yqX (code Tryz.f154)
abbrev yGb (p:List Nat) (K:List Kh) (R:VWP):=ya0 pP yqX (code Tryz.f154) p K (ybO pP Tryz.f154 [] R)
def yj3 (a0:OA) (a2 a1:Nat):Int → List Value × List TB:=fun a3 => ([.slice a0 a2 a1,.int .i64 a3],[])
abbrev yC8 (a0:OA) (a2 a1:Nat) (I:Nat → Int → World → Prop) (m:Nat):Kh:=KG (yj3 a0 a2 a1) (U1 I) m
theorem yz7 {I:Nat → Int → World → Prop} (m':Nat) (h1:m' < m) (h2:I m' i0 w):KS (yC8 q0 n0 n1 I m) (yj3 q0 n0 n1 i0) w:=⟨m',h1,_,rfl,rfl,h2⟩
theorem yz8 {a2:OA} (I:Nat → Int → World → Prop) (m0:Nat) (h0:I m0 i0 w0)
 (hr:∀ m a1 w,I m a1 w →
 brB (decide (a1 < (n0:Int))) (
 ixA a2 n0 a1 2 fun q7 =>
 yaK w q7 fun s8 =>
 ixA a2 n0 (IntKind.wrap .i64 (a1 - 1)) 2 fun q9 =>
 yaK w q9 fun a5 =>
 brB ((Op.bytesLess s8.toList a5.toList) || (s8.toList == a5.toList)) (
 ∀ a6,Adv [] [] w a6 →
 R (.int .i64 100) a6)
 (
 ∀ a7,Adv [] [] w a7 →
 KS (yC8 a2 n0 n1 I m) (yj3 a2 n0 n1 (IntKind.wrap .i64 (a1 + 1))) a7))
 (
 R (.int .i64 0) w)) :
 yaU yqW (yGa 395 [0,0,1,0,1,1,1]) (yGb [1,1,1,0,1,0] [] R) (yj3 a2 n0 n1 i0) w0 :=
 lrule (yj3 a2 n0 n1) (U1 I) h0 (by rintro m a1 w h; exact ⟨by kernel_rfl,by kernel_rfl,fun js => Eq.mpr (by kernel_rfl) (hr m a1 w h)⟩)
theorem yHz {a3 a2:Nat} {a0 a5:Nat} (h :
 Calls pP 168 #[.slice q0 a3 a2] w fun e w4 => ∃ p5 x6,e = .returned (.tuple #[.pointer p5,.int .i64 x6]) ∧
 brB (x6 != 0) (
 R (.int .i64 x6) w4)
 (
 brB (decide ((a0:Int) > 8)) (
 R (.int .i64 2) w4)
 (
 yaU yqW (yGa 395 [0,0,1,0,1,1,1]) (yGb [1,1,1,0,1,0] [] R) (yj3 q1 a0 a5 1) w4))) :
 CR pP 154 #[.slice q0 a3 a2,.slice q1 a0 a5] w R :=
 yaB Tryz.wide_mixed (an:=yqX) Tryz.func154 rfl rfl (by kernel_rfl) rfl (Eq.mpr (by kernel_rfl) h)
theorem yHA {a4:BA} {a3:BA} (h :
 ∀ b2,w.heap.size ≤ b2 →
 ∀ w6,Adv [] [b2] w w6 →
 Calls pP 169 #[.slice q0 n0 n1,.string a3] w6 fun e w7 => ∃ t8,e = .returned (.bool t8) ∧ yaG [b2] w6 w7 ∧
 R (.bool t8) w7) :
 CR pP 155 #[(.agg #[.string a4,.slice q0 n0 n1]),.string a3] w R :=
 yaB Tryz.wide_mixed (an:=[]) Tryz.func155 rfl rfl (by kernel_rfl) rfl (Eq.mpr (by kernel_rfl) h)
def yqY:LA:=⟨[0,0,1,0,1,1,1],[1,7,25,26,27],[],0,[]⟩
def yqZ:LA:=⟨[0,0,1,0,1,1,0,0,1,1,0,0,1,0,1,1,1],[1,7,9,10,25,26,27,32,33],[(9,0,0)],1,[]⟩
def yq0:LA:=⟨[0,0,1,1,1,1,1,0,0,1,1,0,0,1,0,1,1,1],[1,7,9,10,12,25,26,27,48,49,50],[(9,0,0)],1,[]⟩
def ylL:LA:=⟨[0,0,1,1,1,1,0,0,1,1,0,0,1,1,1,1,1,0,0,1,1,0,0,1,0,1,1,1],[1,7,9,10,12,14,25,26,27,48,49,50,69,70],[(9,0,0)],1,[]⟩
def yq1:List LA:=[yqY,yqZ,yq0,ylL]
abbrev yi6:=dnF pP yq1 (code Tryz.f129)
abbrev yMf:=ya0 pP yq1 (code Tryz.f129)
abbrev yi7 (p:List Nat) (K:List Kh) (R:VWP):=ya0 pP yq1 (code Tryz.f129) p K (ybO pP Tryz.f129 [] R)
def yj4 (a5:OA) (a9 a7:Nat) (a6:OA) (b0 a8:Nat) (a0:OA) (a2 a1:Nat) (a3:Int):Int → List Value × List TB:=fun a4 => ([.slice a5 a9 a7,.slice a6 b0 a8,.slice a0 a2 a1,.int .i64 a3,.int .i64 a4],[])
def yh9 (b2:OA) (b6 b4:Nat) (b3:OA) (b7 b5:Nat) (a3:OA) (a7 a5:Nat) (a8 a9 b0:Int) (bm0:Nat) (a0:BA) (a1:Int):(Option Addr) × Nat × Nat × Int → List Value × List TB:=fun (a2,a6,a4,b1) => ([.slice b2 b6 b4,.slice b3 b7 b5,(.pointer (some ⟨bm0,0,none⟩)),.slice a2 a6 a4,.slice a3 a7 a5,.int .i64 a8,.int .i64 a9,.int .i64 b0,.int .i64 b1],[⟨bm0,243,[.string a0,.int .i64 a1],false⟩])
def yj5 (b6:OA) (c0 b8:Nat) (b7:OA) (c1 b9:Nat) (a2:OA) (a8 a5:Nat) (a3:OA) (a9 a6:Nat) (b2 b3:Int) (a4:OA) (b0 a7:Nat) (b4:Int) (bm0:Nat) (a0:BA) (a1:Int):Int × Int → List Value × List TB:=fun (b1,b5) => ([.slice b6 c0 b8,.slice b7 c1 b9,(.pointer (some ⟨bm0,0,none⟩)),.slice a2 a8 a5,.int .i64 b1,.slice a3 a9 a6,.int .i64 b2,.int .i64 b3,.slice a4 b0 a7,.int .i64 b4,.int .i64 b5],[⟨bm0,243,[.string a0,.int .i64 a1],false⟩])
def yiA (b9:OA) (c3 c1:Nat) (c0:OA) (c4 c2:Nat) (a2:OA) (a8 a5:Nat) (b2:Int) (a3:OA) (a9 a6:Nat) (b3 b4:Int) (a4:OA) (b0 a7:Nat) (b5 b6 b7:Int) (bm0:Nat) (a0:BA) (a1:Int):Int × Int → List Value × List TB:=fun (b1,b8) => ([.slice b9 c3 c1,.slice c0 c4 c2,(.pointer (some ⟨bm0,0,none⟩)),.slice a2 a8 a5,.int .i64 b1,.int .i64 b2,.slice a3 a9 a6,.int .i64 b3,.int .i64 b4,.slice a4 b0 a7,.int .i64 b5,.int .i64 b6,.int .i64 b7,.int .i64 b8],[⟨bm0,243,[.string a0,.int .i64 a1],false⟩])
abbrev yC9 (a4:OA) (a8 a6:Nat) (a5:OA) (a9 a7:Nat) (a0:OA) (a2 a1:Nat) (a3:Int) (I:Nat → Int → World → Prop) (m:Nat):Kh:=KG (yj4 a4 a8 a6 a5 a9 a7 a0 a2 a1 a3) (U1 I) m
theorem yz9 {I:Nat → Int → World → Prop} (m':Nat) (h1:m' < m) (h2:I m' i1 w):KS (yC9 q0 n0 n1 q1 n2 n3 q2 n4 n5 i0 I m) (yj4 q0 n0 n1 q1 n2 n3 q2 n4 n5 i0 i1) w:=⟨m',h1,_,rfl,rfl,h2⟩
theorem yAa (I:Nat → Int → World → Prop) (m0:Nat) (h0:I m0 i1 w0)
 (hr:∀ m a0 w,I m a0 w →
 brB (decide (a0 < i0)) (
 ixA q2 n4 a0 2 fun b3 =>
 yaK w b3 fun b5 => yaA .i64 w (Addr.add b3 1) fun b6 =>
 ∀ b2,w.heap.size ≤ b2 →
 ∀ b4,Adv [] [b2] w b4 →
 yaU yqZ (yi6 389 [0,0,1,0,1,1,0,0,1,1,0,0,1,0,1,1,1]) (yi7 [1,1,1,0,1,0,0,1,1,0,0,1,1,0,1,0] [(yC9 q0 n0 n1 q1 n2 n3 q2 n4 n5 i0 I m)] R) (yh9 q0 n0 n1 q1 n2 n3 q2 n4 n5 i0 a0 (n0:Int) b2 b5 b6 (none,0,0,0)) b4)
 (
 R (.tuple #[.slice q1 n2 n3,.int .i64 0]) w)) :
 yaU yqY (yi6 395 [0,0,1,0,1,1,1]) (yi7 [1,1,1,0,1,0] [] R) (yj4 q0 n0 n1 q1 n2 n3 q2 n4 n5 i0 i1) w0 :=
 lrule (yj4 q0 n0 n1 q1 n2 n3 q2 n4 n5 i0) (U1 I) h0 (by rintro m a0 w h; exact ⟨by kernel_rfl,by kernel_rfl,fun js => Eq.mpr (by kernel_rfl) (hr m a0 w h)⟩)
abbrev yvT (a8:OA) (b2 b0:Nat) (a9:OA) (b3 b1:Nat) (a2:OA) (a4 a3:Nat) (a5 a6 a7:Int) (bm0:Nat) (a0:BA) (a1:Int) (I:Nat → Option Addr → Nat → Nat → Int → World → Prop) (m:Nat):Kh:=KG (yh9 a8 b2 b0 a9 b3 b1 a2 a4 a3 a5 a6 a7 bm0 a0 a1) (U4 I) m
theorem yo9 {I:Nat → Option Addr → Nat → Nat → Int → World → Prop} (m':Nat) (h1:m' < m) (h2:I m' q3 n7 n8 i4 w):KS (yvT q0 n0 n1 q1 n2 n3 q2 n4 n5 i0 i1 i2 n6 s0 i3 I m) (yh9 q0 n0 n1 q1 n2 n3 q2 n4 n5 i0 i1 i2 n6 s0 i3 (q3,n7,n8,i4)) w:=⟨m',h1,_,rfl,rfl,h2⟩
theorem yAb {K1:Kh} (I:Nat → Option Addr → Nat → Nat → Int → World → Prop) (m0:Nat) (h0:I m0 q3 n7 n8 i4 w0)
 (hr:∀ m a4 a2 a6 a3 w,I m a4 a2 a6 a3 w →
 brB (decide (a3 < i2)) (
 ixA q0 n0 a3 2 fun c4 =>
 ∀ b8,Adv [] [] w b8 →
 yaK b8 c4 fun d5 => yaC b8 (Addr.add c4 1) fun c8 d3 d1 =>
 Calls pP 155 #[(.agg #[.string d5,.slice c8 d3 d1]),.string s0] b8 fun e c3 => ∃ c5,e = .returned (.bool c5) ∧ yaG [n6] b8 c3 ∧
 brB c5 (
 al c3 (.cells #[.int .i64 a3] 3) fun d0 c6 =>
 ybN pP (Builtin.append_ #[24,24] 24 #[.slice a4 a2 a6,(.slice (some ⟨d0,0,none⟩) 1 1)]) c6 fun c9 d4 d2 c7 => yaG [n6] c6 c7 ∧
 KS (yvT q0 n0 n1 q1 n2 n3 q2 n4 n5 i0 i1 i2 n6 s0 i3 I m) (yh9 q0 n0 n1 q1 n2 n3 q2 n4 n5 i0 i1 i2 n6 s0 i3 (c9,d4,d2,(IntKind.wrap .i64 (a3 + 1)))) c7)
 (
 KS (yvT q0 n0 n1 q1 n2 n3 q2 n4 n5 i0 i1 i2 n6 s0 i3 I m) (yh9 q0 n0 n1 q1 n2 n3 q2 n4 n5 i0 i1 i2 n6 s0 i3 (a4,a2,a6,(IntKind.wrap .i64 (a3 + 1)))) c3))
 (
 yaU yq0 (yi6 387 [0,0,1,1,1,1,1,0,0,1,1,0,0,1,0,1,1,1]) (yi7 [1,1,1,0,1,0,0,1,1,0,0,1,1,1,1,1,0] [K1] R) (yj5 q0 n0 n1 q1 n2 n3 a4 a2 a6 q2 n4 n5 i0 i1 a4 a2 a6 (a2:Int) n6 s0 i3 (0,0)) w)) :
 yaU yqZ (yi6 389 [0,0,1,0,1,1,0,0,1,1,0,0,1,0,1,1,1]) (yi7 [1,1,1,0,1,0,0,1,1,0,0,1,1,0,1,0] [K1] R) (yh9 q0 n0 n1 q1 n2 n3 q2 n4 n5 i0 i1 i2 n6 s0 i3 (q3,n7,n8,i4)) w0 :=
 lrule (yh9 q0 n0 n1 q1 n2 n3 q2 n4 n5 i0 i1 i2 n6 s0 i3) (U4 I) h0 (by rintro m ⟨a4,a2,a6,a3⟩ w h; exact ⟨by kernel_rfl,by kernel_rfl,fun js => Eq.mpr (by kernel_rfl) (hr m a4 a2 a6 a3 w h)⟩)
abbrev yvU (b4:OA) (b8 b6:Nat) (b5:OA) (b9 b7:Nat) (a2:OA) (a8 a5:Nat) (a3:OA) (a9 a6:Nat) (b1 b2:Int) (a4:OA) (b0 a7:Nat) (b3:Int) (bm0:Nat) (a0:BA) (a1:Int) (I:Nat → Int → Int → World → Prop) (m:Nat):Kh:=KG (yj5 b4 b8 b6 b5 b9 b7 a2 a8 a5 a3 a9 a6 b1 b2 a4 b0 a7 b3 bm0 a0 a1) (U2 I) m
theorem ypA {I:Nat → Int → Int → World → Prop} (m':Nat) (h1:m' < m) (h2:I m' i4 i5 w):KS (yvU q0 n0 n1 q1 n2 n3 q2 n4 n5 q3 n6 n7 i0 i1 q4 n8 n9 i2 o0 s0 i3 I m) (yj5 q0 n0 n1 q1 n2 n3 q2 n4 n5 q3 n6 n7 i0 i1 q4 n8 n9 i2 o0 s0 i3 (i4,i5)) w:=⟨m',h1,_,rfl,rfl,h2⟩
theorem yAc {K1:Kh} (I:Nat → Int → Int → World → Prop) (m0:Nat) (h0:I m0 i4 i5 w0)
 (hr:∀ m c1 a3 w,I m c1 a3 w →
 brB (decide (a3 < i2)) (
 ixA q4 n8 a3 1 fun c5 =>
 yaA .i64 w c5 fun c4 => nz (n4:Int) (nz (n4:Int) (
 brB (decide (a3 < (Int.tmod i3 (n4:Int)))) (
 yaU ylL (yi6 380 [0,0,1,1,1,1,0,0,1,1,0,0,1,1,1,1,1,0,0,1,1,0,0,1,0,1,1,1]) (yi7 [1,1,1,0,1,0,0,1,1,0,0,1,1,1,1,1,0,0,1,1,0,0,1,1,1,1,0] [K1,(yvU q0 n0 n1 q1 n2 n3 q2 n4 n5 q3 n6 n7 i0 i1 q4 n8 n9 i2 o0 s0 i3 I m)] R) (yiA q0 n0 n1 q1 n2 n3 q2 n4 n5 c4 q3 n6 n7 i0 i1 q4 n8 n9 i2 a3 (IntKind.wrap .i64 ((IntKind.wrap .i64 (Int.tdiv i3 (n4:Int))) + 1)) o0 s0 i3 (c1,0)) w)
 (
 yaU ylL (yi6 380 [0,0,1,1,1,1,0,0,1,1,0,0,1,1,1,1,1,0,0,1,1,0,0,1,0,1,1,1]) (yi7 [1,1,1,0,1,0,0,1,1,0,0,1,1,1,1,1,0,0,1,1,0,0,1,1,1,1,0] [K1,(yvU q0 n0 n1 q1 n2 n3 q2 n4 n5 q3 n6 n7 i0 i1 q4 n8 n9 i2 o0 s0 i3 I m)] R) (yiA q0 n0 n1 q1 n2 n3 q2 n4 n5 c4 q3 n6 n7 i0 i1 q4 n8 n9 i2 a3 (IntKind.wrap .i64 (Int.tdiv i3 (n4:Int))) o0 s0 i3 (c1,0)) w))))
 (
 KS K1 (yj4 q0 n0 n1 q1 n2 n3 q3 n6 n7 i0 (IntKind.wrap .i64 (i1 + 1))) w)) :
 yaU yq0 (yi6 387 [0,0,1,1,1,1,1,0,0,1,1,0,0,1,0,1,1,1]) (yi7 [1,1,1,0,1,0,0,1,1,0,0,1,1,1,1,1,0] [K1] R) (yj5 q0 n0 n1 q1 n2 n3 q2 n4 n5 q3 n6 n7 i0 i1 q4 n8 n9 i2 o0 s0 i3 (i4,i5)) w0 :=
 lrule (yj5 q0 n0 n1 q1 n2 n3 q2 n4 n5 q3 n6 n7 i0 i1 q4 n8 n9 i2 o0 s0 i3) (U2 I) h0 (by rintro m ⟨c1,a3⟩ w h; exact ⟨by kernel_rfl,by kernel_rfl,fun js => Eq.mpr (by kernel_rfl) (hr m c1 a3 w h)⟩)
abbrev yDa (b7:OA) (c1 b9:Nat) (b8:OA) (c2 c0:Nat) (a2:OA) (a8 a5:Nat) (b1:Int) (a3:OA) (a9 a6:Nat) (b2 b3:Int) (a4:OA) (b0 a7:Nat) (b4 b5 b6:Int) (bm0:Nat) (a0:BA) (a1:Int) (I:Nat → Int → Int → World → Prop) (m:Nat):Kh:=KG (yiA b7 c1 b9 b8 c2 c0 a2 a8 a5 b1 a3 a9 a6 b2 b3 a4 b0 a7 b4 b5 b6 bm0 a0 a1) (U2 I) m
theorem ypB {I:Nat → Int → Int → World → Prop} (m':Nat) (h1:m' < m) (h2:I m' i7 i8 w):KS (yDa q0 n0 n1 q1 n2 n3 q2 n4 n5 i0 q3 n6 n7 i1 i2 q4 n8 n9 i3 i4 i5 o0 s0 i6 I m) (yiA q0 n0 n1 q1 n2 n3 q2 n4 n5 i0 q3 n6 n7 i1 i2 q4 n8 n9 i3 i4 i5 o0 s0 i6 (i7,i8)) w:=⟨m',h1,_,rfl,rfl,h2⟩
theorem ypC {K1 K3:Kh} (I:Nat → Int → Int → World → Prop) (m0:Nat) (h0:I m0 i7 i8 w0)
 (hr:∀ m a2 c0 w,I m a2 c0 w →
 brB (decide (c0 < i5)) (
 ixA q1 n2 i0 1 fun d8 =>
 ∀ c7,Adv [] [] w c7 →
 yaC c7 d8 fun d1 d6 d4 =>
 al c7 (.cells #[.string s0,.int .i64 a2] 26) fun d3 c9 =>
 ybN pP (Builtin.append_ #[42,42] 42 #[.slice d1 d6 d4,(.slice (some ⟨d3,0,none⟩) 1 1)]) c9 fun d2 d7 d5 c8 => yaG [o0] c9 c8 ∧
 ixA q1 n2 i0 1 fun d9 =>
 st c8 d9 [.slice d2 d7 d5] fun d0 => yaG [o0] c8 d0 ∧
 KS (yDa q0 n0 n1 q1 n2 n3 q2 n4 n5 i0 q3 n6 n7 i1 i2 q4 n8 n9 i3 i4 i5 o0 s0 i6 I m) (yiA q0 n0 n1 q1 n2 n3 q2 n4 n5 i0 q3 n6 n7 i1 i2 q4 n8 n9 i3 i4 i5 o0 s0 i6 ((IntKind.wrap .i64 (a2 + 1)),(IntKind.wrap .i64 (c0 + 1)))) d0)
 (
 KS K3 (yj5 q0 n0 n1 q1 n2 n3 q2 n4 n5 q3 n6 n7 i1 i2 q4 n8 n9 i3 o0 s0 i6 (a2,(IntKind.wrap .i64 (i4 + 1)))) w)) :
 yaU ylL (yi6 380 [0,0,1,1,1,1,0,0,1,1,0,0,1,1,1,1,1,0,0,1,1,0,0,1,0,1,1,1]) (yi7 [1,1,1,0,1,0,0,1,1,0,0,1,1,1,1,1,0,0,1,1,0,0,1,1,1,1,0] [K1,K3] R) (yiA q0 n0 n1 q1 n2 n3 q2 n4 n5 i0 q3 n6 n7 i1 i2 q4 n8 n9 i3 i4 i5 o0 s0 i6 (i7,i8)) w0 :=
 lrule (yiA q0 n0 n1 q1 n2 n3 q2 n4 n5 i0 q3 n6 n7 i1 i2 q4 n8 n9 i3 i4 i5 o0 s0 i6) (U2 I) h0 (by rintro m ⟨a2,c0⟩ w h; exact ⟨by kernel_rfl,by kernel_rfl,fun js => Eq.mpr (by kernel_rfl) (hr m a2 c0 w h)⟩)
theorem yHB (h :
 Calls pP 154 #[.slice q0 n0 n1,.slice q1 n2 n3] w fun e w3 => ∃ x4,e = .returned (.int .i64 x4) ∧
 brB (x4 != 0) (
 R (.tuple #[.slice none 0 0,.int .i64 x4]) w3)
 (
 ybN pP (Instr.makeSlice 233 (.int .i64 (n2:Int)) (.int .i64 (n2:Int))) w3 fun a9 a7 a6 a8 =>
 yaU yqY (yi6 395 [0,0,1,0,1,1,1]) (yi7 [1,1,1,0,1,0] [] R) (yj4 q1 n2 n3 a9 a7 a6 q0 n0 n1 (n0:Int) 0) a8)) :
 CR pP 129 #[.slice q0 n0 n1,.slice q1 n2 n3] w R :=
 yaB Tryz.wide_mixed (an:=yq1) Tryz.func129 rfl rfl (by kernel_rfl) rfl (Eq.mpr (by kernel_rfl) h)
def yq2:LA:=⟨[0,0,1,0,1,1,1,1,1],[7,8,9,24,25,26],[(8,1,0)],2,[0,1]⟩
def yq3:LA:=⟨[0,0,1,1,0,0,1,1,0,0,1,0,1,1,1,1,1],[7,8,9,11,24,25,26,31,32],[(8,1,0),(11,2,0)],3,[0,1]⟩
def yq4:List LA:=[yq2,yq3]
abbrev yx7:=dnF pP yq4 (code Tryz.f130)
abbrev yMg:=ya0 pP yq4 (code Tryz.f130)
abbrev yx8 (p:List Nat) (K:List Kh) (R:VWP):=ya0 pP yq4 (code Tryz.f130) p K (ybO pP Tryz.f130 [] R)
def yiB (b1:OA) (b3 b2 a4 a5:Nat) (a6:OA) (a8 a7:Nat) (a9:Int) (bm0 bm1:Nat):Int × (Option Addr) × Nat × Nat × Int → List Value × List TB:=fun (b0,a0,a2,a1,a3) => ([.slice b1 b3 b2,(.pointer (some ⟨bm1,0,none⟩)),(.func (.func 156) #[] #[(.pointer (some ⟨a4,0,none⟩)),(.pointer (some ⟨a5,0,none⟩))]),.slice a6 a8 a7,.int .i64 a9,.int .i64 b0],[⟨bm0,229,[.slice a0 a2 a1],true⟩,⟨bm1,3,[.int .i64 a3],true⟩])
def yiC (b5:OA) (b7 b6 a6 a7:Nat) (a8:OA) (b0 a9:Nat) (b1 b2 b3:Int) (bm0 bm1 bm2:Nat) (a3:BA) (a5:Int):Int × (Option Addr) × Nat × Nat × Int → List Value × List TB:=fun (b4,a0,a2,a1,a4) => ([.slice b5 b7 b6,(.pointer (some ⟨bm1,0,none⟩)),(.func (.func 156) #[] #[(.pointer (some ⟨a6,0,none⟩)),(.pointer (some ⟨a7,0,none⟩))]),(.pointer (some ⟨bm2,0,none⟩)),.slice a8 b0 a9,.int .i64 b1,.int .i64 b2,.int .i64 b3,.int .i64 b4],[⟨bm0,229,[.slice a0 a2 a1],true⟩,⟨bm1,3,[.int .i64 a4],true⟩,⟨bm2,243,[.string a3,.int .i64 a5],false⟩])
abbrev yDb (a6:OA) (a8 a7 a0 a1:Nat) (a2:OA) (a4 a3:Nat) (a5:Int) (bm0 bm1:Nat) (I:Nat → Int → Option Addr → Nat → Nat → Int → World → Prop) (m:Nat):Kh:=KG (yiB a6 a8 a7 a0 a1 a2 a4 a3 a5 bm0 bm1) (U5 I) m
theorem ypD {I:Nat → Int → Option Addr → Nat → Nat → Int → World → Prop} (m':Nat) (h1:m' < m) (h2:I m' i1 q2 n8 n9 i2 w):KS (yDb q0 n0 n1 n2 n3 q1 n4 n5 i0 n6 n7 I m) (yiB q0 n0 n1 n2 n3 q1 n4 n5 i0 n6 n7 (i1,q2,n8,n9,i2)) w:=⟨m',h1,_,rfl,rfl,h2⟩
theorem yAd (I:Nat → Int → Option Addr → Nat → Nat → Int → World → Prop) (m0:Nat) (h0:I m0 i1 q2 n8 n9 i2 w0)
 (hr:∀ m a4 a0 a2 a1 a3 w,I m a4 a0 a2 a1 a3 w →
 w.heap[n6]? = some (.cells #[.slice a0 a2 a1] 229) →
 w.heap[n7]? = some (.cells #[.int .i64 a3] 3) →
 brB (decide (a4 < i0)) (
 ixA q1 n4 a4 2 fun c1 =>
 yaK w c1 fun c3 => yaA .i64 w (Addr.add c1 1) fun c2 =>
 ∀ c0,w.heap.size ≤ c0 →
 ∀ b8,Adv [] [c0] w b8 → b8.heap[n6]? = some (.cells #[.slice a0 a2 a1] 229) →
 b8.heap[n7]? = some (.cells #[.int .i64 a3] 3) →
 yaU yq3 (yx7 388 [0,0,1,1,0,0,1,1,0,0,1,0,1,1,1,1,1]) (yx8 [1,1,1,1,1,0,1,0,0,1,1,0,0,1,1,0] [(yDb q0 n0 n1 n2 n3 q1 n4 n5 i0 n6 n7 I m)] R) (yiC q0 n0 n1 n2 n3 q1 n4 n5 i0 a4 c2 n6 n7 c0 c3 c2 (0,a0,a2,a1,a3)) b8)
 (
 R (.tuple #[.slice q0 n0 n1,.int .i64 0]) w)) :
 yaU yq2 (yx7 393 [0,0,1,0,1,1,1,1,1]) (yx8 [1,1,1,1,1,0,1,0] [] R) (yiB q0 n0 n1 n2 n3 q1 n4 n5 i0 n6 n7 (i1,q2,n8,n9,i2)) w0 :=
 lrule (yiB q0 n0 n1 n2 n3 q1 n4 n5 i0 n6 n7) (U5 I) h0 (by rintro m ⟨a4,a0,a2,a1,a3⟩ w h; exact ⟨by kernel_rfl,by kernel_rfl,fun js => Eq.mpr (by kernel_rfl) (hr m a4 a0 a2 a1 a3 w h)⟩)
abbrev yDc (b0:OA) (b2 b1 a2 a3:Nat) (a4:OA) (a6 a5:Nat) (a7 a8 a9:Int) (bm0 bm1 bm2:Nat) (a0:BA) (a1:Int) (I:Nat → Int → Option Addr → Nat → Nat → Int → World → Prop) (m:Nat):Kh:=KG (yiC b0 b2 b1 a2 a3 a4 a6 a5 a7 a8 a9 bm0 bm1 bm2 a0 a1) (U5 I) m
theorem yAe {I:Nat → Int → Option Addr → Nat → Nat → Int → World → Prop} (m':Nat) (h1:m' < m) (h2:I m' i4 q2 n9 o0 i5 w):KS (yDc q0 n0 n1 n2 n3 q1 n4 n5 i0 i1 i2 n6 n7 n8 s0 i3 I m) (yiC q0 n0 n1 n2 n3 q1 n4 n5 i0 i1 i2 n6 n7 n8 s0 i3 (i4,q2,n9,o0,i5)) w:=⟨m',h1,_,rfl,rfl,h2⟩
theorem yAf {K1:Kh} (I:Nat → Int → Option Addr → Nat → Nat → Int → World → Prop) (m0:Nat) (h0:I m0 i4 q2 n9 o0 i5 w0)
 (hr:∀ m b3 a3 a5 a4 a6 w,I m b3 a3 a5 a4 a6 w →
 w.heap[n6]? = some (.cells #[.slice a3 a5 a4] 229) →
 w.heap[n7]? = some (.cells #[.int .i64 a6] 3) →
 brB (decide (b3 < i2)) (
 Calls pP 156 #[.string s0,(.pointer (some ⟨n2,0,none⟩)),(.pointer (some ⟨n3,0,none⟩))] w fun e c3 => ∃ c1,e = .returned (.int .i64 c1) ∧ yb9 [n6,n7] [(n8,243)] [n8] w c3 ∧ ∃ c8 d2 d0,c3.heap[n6]? = some (.cells #[.slice c8 d2 d0] 229) ∧ ∃ d5,c3.heap[n7]? = some (.cells #[.int .i64 d5] 3) ∧
 brB (c1 == (-1)) (
 KS K1 (yiB q0 n0 n1 n2 n3 q1 n4 n5 i0 n6 n7 ((IntKind.wrap .i64 (i1 + 1)),c8,d2,d0,d5)) c3)
 (
 ixA q0 n0 c1 1 fun e4 =>
 ∀ c4,Adv [] [] c3 c4 → c4.heap[n6]? = some (.cells #[.slice c8 d2 d0] 229) →
 c4.heap[n7]? = some (.cells #[.int .i64 d5] 3) →
 yaC c4 e4 fun d7 e2 e0 =>
 al c4 (.cells #[.string s0,.int .i64 b3] 26) fun d9 d6 =>
 ybN pP (Builtin.append_ #[42,42] 42 #[.slice d7 e2 e0,(.slice (some ⟨d9,0,none⟩) 1 1)]) d6 fun d8 e3 e1 d4 => yaG [n6,n7,n8] d6 d4 ∧
 ixA q0 n0 c1 1 fun e5 =>
 st d4 e5 [.slice d8 e3 e1] fun c5 => yb9 [n6,n7] [(n8,243)] [n8] d4 c5 ∧ ∃ c9 d3 d1,c5.heap[n6]? = some (.cells #[.slice c9 d3 d1] 229) ∧ ∃ e6,c5.heap[n7]? = some (.cells #[.int .i64 e6] 3) ∧
 ∀ c6,Adv [n7] [] c5 c6 → c6.heap[n6]? = some (.cells #[.slice c9 d3 d1] 229) →
 c6.heap[n7]? = some (.cells #[(.int .i64 (IntKind.wrap .i64 (c1 + 1)))] 3) →
 KS (yDc q0 n0 n1 n2 n3 q1 n4 n5 i0 i1 i2 n6 n7 n8 s0 i3 I m) (yiC q0 n0 n1 n2 n3 q1 n4 n5 i0 i1 i2 n6 n7 n8 s0 i3 ((IntKind.wrap .i64 (b3 + 1)),c9,d3,d1,(IntKind.wrap .i64 (c1 + 1)))) c6))
 (
 KS K1 (yiB q0 n0 n1 n2 n3 q1 n4 n5 i0 n6 n7 ((IntKind.wrap .i64 (i1 + 1)),a3,a5,a4,a6)) w)) :
 yaU yq3 (yx7 388 [0,0,1,1,0,0,1,1,0,0,1,0,1,1,1,1,1]) (yx8 [1,1,1,1,1,0,1,0,0,1,1,0,0,1,1,0] [K1] R) (yiC q0 n0 n1 n2 n3 q1 n4 n5 i0 i1 i2 n6 n7 n8 s0 i3 (i4,q2,n9,o0,i5)) w0 :=
 lrule (yiC q0 n0 n1 n2 n3 q1 n4 n5 i0 i1 i2 n6 n7 n8 s0 i3) (U5 I) h0 (by rintro m ⟨b3,a3,a5,a4,a6⟩ w h; exact ⟨by kernel_rfl,by kernel_rfl,fun js => Eq.mpr (by kernel_rfl) (hr m b3 a3 a5 a4 a6 w h)⟩)
theorem yHC (h :
 ∀ b2,w.heap.size ≤ b2 →
 ∀ w6,Adv [] [b2] w w6 →
 Calls pP 154 #[.slice q0 n0 n1,.slice q1 n2 n3] w6 fun e w7 => ∃ x8,e = .returned (.int .i64 x8) ∧ yaG [b2] w6 w7 ∧
 brB (x8 != 0) (
 R (.tuple #[.slice none 0 0,.int .i64 x8]) w7)
 (
 ybN pP (Instr.makeSlice 233 (.int .i64 (n2:Int)) (.int .i64 (n2:Int))) w7 fun a9 b1 b0 a8 => yaG [b2] w7 a8 ∧
 ∀ a6,a8.heap.size ≤ a6 →
 ∀ a7,Adv [] [a6] a8 a7 → a7.heap[b2]? = some (.cells #[.slice q1 n2 n3] 229) →
 a7.heap[a6]? = some (.cells #[.int .i64 0] 3) →
 yaU yq2 (yx7 393 [0,0,1,0,1,1,1,1,1]) (yx8 [1,1,1,1,1,0,1,0] [] R) (yiB a9 b1 b0 b2 a6 q0 n0 n1 (n0:Int) b2 a6 (0,q1,n2,n3,0)) a7)) :
 CR pP 130 #[.slice q0 n0 n1,.slice q1 n2 n3] w R :=
 yaB Tryz.wide_mixed (an:=yq4) Tryz.func130 rfl rfl (by kernel_rfl) rfl (Eq.mpr (by kernel_rfl) h)
def yq5:LA:=⟨[0,0,1,0,1],[0,1,2,8,9],[],0,[]⟩
def yq6:List LA:=[yq5]
abbrev yGc:=dnF pP yq6 (code Tryz.f156)
abbrev yMh:=ya0 pP yq6 (code Tryz.f156)
abbrev yGd (p:List Nat) (K:List Kh) (R:VWP):=ya0 pP yq6 (code Tryz.f156) p K (ybO pP Tryz.f156 [] R)
def yj6 (a2:BA) (a0:Addr) (a1:Addr) (a3:Int):Int → List Value × List TB:=fun a4 => ([.string a2,(.pointer (some a0)),(.pointer (some a1)),.int .i64 a3,.int .i64 a4],[])
abbrev yDd (a2:BA) (a0:Addr) (a1:Addr) (a3:Int) (I:Nat → Int → World → Prop) (m:Nat):Kh:=KG (yj6 a2 a0 a1 a3) (U1 I) m
theorem yAg {I:Nat → Int → World → Prop} (m':Nat) (h1:m' < m) (h2:I m' i1 w):KS (yDd s0 A0 A1 i0 I m) (yj6 s0 A0 A1 i0 i1) w:=⟨m',h1,_,rfl,rfl,h2⟩
theorem yAh (I:Nat → Int → World → Prop) (m0:Nat) (h0:I m0 i1 w0)
 (hr:∀ m a0 w,I m a0 w →
 brB (decide (a0 < i0)) (
 yaA .i64 w A1 fun b0 =>
 yaC w A0 fun b7 a5 b8 => nz (a5:Int) (
 yaC w A0 fun b1 b4 b9 =>
 ixA b1 b4 (Int.tmod (IntKind.wrap .i64 (b0 + a0)) (a5:Int)) 2 fun a7 =>
 yaK w a7 fun b6 => yaC w (Addr.add a7 1) fun b2 b5 b3 =>
 Calls pP 155 #[(.agg #[.string b6,.slice b2 b5 b3]),.string s0] w fun e a9 => ∃ a8,e = .returned (.bool a8) ∧
 brB a8 (
 R (.int .i64 (Int.tmod (IntKind.wrap .i64 (b0 + a0)) (a5:Int))) a9)
 (
 KS (yDd s0 A0 A1 i0 I m) (yj6 s0 A0 A1 i0 (IntKind.wrap .i64 (a0 + 1))) a9)))
 (
 R (.int .i64 (-1)) w)) :
 yaU yq5 (yGc 397 [0,0,1,0,1]) (yGd [1,0,1,0] [] R) (yj6 s0 A0 A1 i0 i1) w0 :=
 lrule (yj6 s0 A0 A1 i0) (U1 I) h0 (by rintro m a0 w h; exact ⟨by kernel_rfl,by kernel_rfl,fun js => Eq.mpr (by kernel_rfl) (hr m a0 w h)⟩)
theorem yHD (h :
 yaC w A0 fun a4 n5 c6 =>
 yaU yq5 (yGc 397 [0,0,1,0,1]) (yGd [1,0,1,0] [] R) (yj6 s0 A0 A1 (n5:Int) 0) w) :
 CR pP 156 #[.string s0,(.pointer (some A0)),(.pointer (some A1))] w R :=
 yaB Tryz.wide_mixed (an:=yq6) Tryz.func156 rfl rfl (by kernel_rfl) rfl (Eq.mpr (by kernel_rfl) h)
end
end Go.Proofs.YtkepmmocldnnfaaGreat
