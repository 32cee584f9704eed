/- Part 3 of the proof of PBReads. -/
import Derived.Test.YteldhjiiocmicaaGreatPBReadsK2
namespace Go.Proofs
open Go.Shelf
shelf_lay_g SlLaysC2.n5 Slgc 5 at Tryz 159 as Tryz.hcmpL
end Go.Proofs
namespace Go.Proofs.YteldhjiiocmicaaGreat
open Go Go.RowKit Go.Shelf Go.Lib Go.Sort
set_option linter.unusedVariables false
set_option linter.unusedSimpArgs false
instance:Inhabited CV:=⟨⟨⟨0,0,op0⟩,ya8,ya8⟩⟩
theorem yoP {α:Type} [Inhabited α] {enc:α → List Value} {k:Nat} (hk:∀ x,(enc x).length = k) (d:Array α) (t:Nat) (ht:t < d.size * k):(d.toList.flatMap enc)[t]? = some ((flatK enc k d)[t]!):=by
 have k0:0 < k:=Nat.pos_of_ne_zero fun h => by subst h; simp at ht
 have hi:t / k < d.size:=(Nat.div_lt_iff_lt_mul k0).2 ht
 have hj:t % k < k:=Nat.mod_lt _ k0
 rw [get_flatK _ _ _ _ ht]
 have hx:d.toList[t / k]? = some d[t / k]!:=by rw [getElem!_pos d (t / k) hi]; simp [hi]
 have:=ycT hk d.toList (t / k) (t % k) _ hx hj
 have e:t / k * k + t % k = t:=by rw [Nat.mul_comm]; exact Nat.div_add_mod t k
 rw [e] at this
 rw [this]
 have hl:t % k < (enc d[t / k]!).length:=by rw [hk]; exact hj
 rw [List.getElem?_eq_getElem hl,getElem!_pos (enc d[t / k]!) (t % k) hl]
theorem yoQ {α:Type} [Inhabited α] {w:World} {B T k g n c:Nat} {enc:α → List Value} {l:List α} (hk:∀ x,(enc x).length = k) (h:Row w B T k enc (some ⟨g,0,none⟩) n c l):HoldsK enc k w g 0 l.toArray:=by
 obtain ⟨hn,hlen,h⟩:=h
 rcases h with ⟨h,_⟩ | ⟨g',cap,cur,h1,h2,h3,h4,h5,h6,h7⟩
 ·cases h
 ·cases h1
  intro j hj
  have hj:j < l.length * k:=by simpa using hj
  have e:=yoP hk l.toArray j (by simpa using hj)
  have hcur:cur[j]? = some ((flatK enc k l.toArray)[j]!):=by
   rw [← e,← h7]
   simp only [← Array.getElem?_toList]
   rw [List.getElem?_take,if_pos (by rw [hn]; exact hj)]
  refine ⟨?_,?_⟩
  ·rw [yaM h3]; simpa using hcur
  ·simp [World.frozen?,h3]
theorem yoR {α:Type} [Inhabited α] {w:World} {B T k g n c m:Nat} {enc:α → List Value} {l:List α} {d:Array α} {os:Array Obj} (hk:∀ x,(enc x).length = k) (h:Row w B T k enc (some ⟨g,0,none⟩) n c l) (hd:d.size = l.length) :
  Row (sortWorldK enc k w g 0 m d os) B T k enc (some ⟨g,0,none⟩) n c d.toList ∧ Mod [g] w (sortWorldK enc k w g 0 m d os):=by
 obtain ⟨hn,hlen,h⟩:=h
 rcases h with ⟨h,_⟩ | ⟨g',cap,cur,h1,h2,h3,h4,h5,h6,h7⟩
 ·cases h
 ·cases h1
  have lg:g < w.heap.size:=yaH h3
  have hb:(sortWorldK enc k w g 0 m d os).heap[g]? = some (.cells (putCells id 0 (flatK enc k d) cur) T (0,0)):=by
   show ((w.heap.modify g (onCells (putCells id 0 (flatK enc k d)))) ++ os)[g]? = _
   rw [Array.getElem?_append_left (by simpa using lg),Array.getElem?_modify,if_pos rfl,h3]
   rfl
  have hsz:(w.heap.modify g (onCells (putCells id 0 (flatK enc k d)))).size = w.heap.size:=by simp
  refine ⟨⟨by simpa [hd] using hn,?_,.inr ⟨g,c,putCells id 0 (flatK enc k d) cur,rfl,h2,hb,h4,h5,by simp [putCells,h6],?_⟩⟩,rfl,rfl,rfl,?_,fun i hi hS => ?_⟩
  ·have:∀ (L:List α),(L.flatMap enc).length = L.length * k:=fun L => by
    induction L with
    | nil => simp
    | cons x r ih => rw [List.flatMap_cons,List.length_append,ih,hk,List.length_cons,Nat.add_mul]; omega
   rw [this]; simp [hd,hn]
  ·refine List.ext_getElem? fun t => ?_
   by_cases ht:t < n * k
   ·have htd:t < d.size * k:=by rw [hd,← hn]; exact ht
    rw [yoP hk d t htd,List.getElem?_take,if_pos ht]
    have hc:t < cur.size:=by
     rw [h6]; exact Nat.lt_of_lt_of_le ht (Nat.mul_le_mul_right k h4)
    have:(putCells id 0 (flatK enc k d) cur)[t]? = some ((flatK enc k d)[t]!):=by
     simp only [putCells,Array.getElem?_mapIdx]
     rw [Array.getElem?_eq_getElem hc]
     simp [htd]
    rw [Array.getElem?_toList,this]
   ·have h1:((putCells id 0 (flatK enc k d) cur).toList.take (n * k))[t]? = none:=by rw [List.getElem?_take,if_neg ht]
    have h2:(d.toList.flatMap enc)[t]? = none:=by
     rw [List.getElem?_eq_none_iff]
     have:∀ (L:List α),(L.flatMap enc).length = L.length * k:=fun L => by
      induction L with
      | nil => simp
      | cons x r ih => rw [List.flatMap_cons,List.length_append,ih,hk,List.length_cons,Nat.add_mul]; omega
     rw [this]
     have:d.toList.length = n:=by simp [hd,hn]
     rw [this]; omega
    rw [h1,h2]
  ·show w.heap.size ≤ ((w.heap.modify g (onCells (putCells id 0 (flatK enc k d)))) ++ os).size
   simp
  ·show ((w.heap.modify g (onCells (putCells id 0 (flatK enc k d)))) ++ os)[i]? = _
   rw [Array.getElem?_append_left (by simpa using hi),Array.getElem?_modify,if_neg (by intro e; exact hS (by simp [e]))]
end Go.Proofs.YteldhjiiocmicaaGreat
namespace Go.Proofs.YteldhjiiocmicaaGreat
open Go Go.RowKit Go.Maps Go.MapKept
set_option linter.unusedVariables false
set_option linter.unusedSimpArgs false
structure PEv where
 c:Int
 n:Int
 a:Bool
 op:POp
 r:PRep
structure EV where
 x:PEv
 rs:Sl
 ts:Sl
 f:Sl
 p:Sl
theorem yfC {κ β γ:Type} [DecidableEq κ] (f:β → γ) (L:List (κ × β)) (k:κ):lkp (L.map fun p => (p.1,f p.2)) k = (lkp L k).map f:=by
 induction L with
 | nil => rfl
 | cons q r ih => rw [List.map_cons,lkp,lkp,ih]; split <;> rfl
theorem yf4 {κ β γ:Type} [DecidableEq κ] (f:β → γ) (L:List (κ × β)) (k:κ) (v:β):put (L.map fun p => (p.1,f p.2)) k (f v) = (put L k v).map fun p => (p.1,f p.2):=by
 induction L with
 | nil => rfl
 | cons q r ih => rw [List.map_cons,put,put,ih]; split <;> simp_all
theorem yd2 {κ β:Type} [DecidableEq κ] {L:List (κ × β)} {k:κ} {v:β} {p:κ × β} (h:p ∈ put L k v):p = (k,v) ∨ p ∈ L:=by
 induction L with
 | nil => simp [put] at h; exact .inl h
 | cons q r ih =>
  rw [put] at h
  split at h
  ·rcases List.mem_cons.1 h with h | h
   ·exact .inl h
   ·exact .inr (List.mem_cons_of_mem _ h)
  ·rcases List.mem_cons.1 h with h | h
   ·exact .inr (h ▸ List.mem_cons_self)
   ·rcases ih h with h | h
    ·exact .inl h
    ·exact .inr (List.mem_cons_of_mem _ h)
end Go.Proofs.YteldhjiiocmicaaGreat
namespace Go.Proofs.YteldhjiiocmicaaGreat
open Go Go.RowKit Go.Maps Go.MapKept
set_option linter.unusedVariables false
set_option linter.unusedSimpArgs false
theorem yFf {κ β γ:Type} [DecidableEq κ] (f:β → γ) (L:List (κ × β)) (k:κ):del (L.map fun p => (p.1,f p.2)) k = (del L k).map fun p => (p.1,f p.2):=by
 induction L with
 | nil => rfl
 | cons q r ih => rw [List.map_cons,del,del,ih]; split <;> simp
theorem yx4 {κ β:Type} [DecidableEq κ] {L:List (κ × β)} {k:κ} {q:κ × β} (h:q ∈ del L k):q ∈ L:=by
 induction L with
 | nil => exact h
 | cons p r ih =>
  unfold del at h
  split at h
  ·exact List.mem_cons_of_mem _ h
  ·rcases List.mem_cons.1 h with h | h
   ·rw [h]; exact List.mem_cons_self
   ·exact List.mem_cons_of_mem _ (ih h)
theorem yiX {κ β:Type} [DecidableEq κ] (L:List (κ × β)) (k:κ) (v:β):(put L k v).length ≤ L.length + 1:=by
 induction L with
 | nil => simp [put]
 | cons q r ih => rw [put]; split <;> simp; omega
theorem yFg {κ β:Type} [DecidableEq κ] (L:List (κ × β)) (k:κ):(del L k).length ≤ L.length:=by
 induction L with
 | nil => simp [del]
 | cons q r ih => rw [del]; split <;> simp; omega
end Go.Proofs.YteldhjiiocmicaaGreat
namespace Go.Proofs.YteldhjiiocmicaaGreat
open Go Go.RowKit
set_option linter.all false
def yMP:PRep:=⟨0,0,0,0,[],[]⟩
def yHK (q:CV):EV:=⟨⟨q.x.c,q.x.n,false,q.x.op,yMP⟩,q.rs,q.ts,ya8,ya8⟩
def yME (q:CV) (r:HV):EV:=⟨⟨q.x.c,q.x.n,true,op0,r.x⟩,ya8,ya8,r.f,r.p⟩
end Go.Proofs.YteldhjiiocmicaaGreat
namespace Go.Proofs.YteldhjiiocmicaaGreat
open Go Go.RowKit Go.Maps Go.MapKept
set_option linter.unusedVariables false
set_option linter.unusedSimpArgs false
def yMF:HV:=⟨yMP,ya8,ya8⟩
def hcv (i:Nat) (q:CV):CV:=⟨⟨10 + (i:Int),1,q.x.op⟩,q.rs,q.ts⟩
def hev:Nat → List CV → List EV
 | _,[] => []
 | i,q :: r => yHK (hcv i q) :: (if (ysD .i64 q.x.n 1 == 0) = true then hev (i + 1) r else yME (hcv i q) yMF :: hev (i + 1) r)
theorem ya3 {α β:Type} {w:World} {B B' T T' sz sz':Nat} {enc:α → List Value} {enc':β → List Value} {a a':Option Addr} {n n' c c':Nat} {l:List α} {l':List β} (h:Row w B T sz enc a n c l) (h':Row w B' T' sz' enc' a' n' c' l') (hT:T ≠ T'):∀ k ∈ yaN a,k ∉ yaN a':=fun k hk hk' => by
 obtain ⟨_,_,cur,hc⟩:=yaP h k hk
 obtain ⟨_,_,cur',hc'⟩:=yaP h' k hk'
 rw [hc] at hc'; cases hc'; exact hT rfl
theorem ydF {α:Type} {P:Program} {w:World} {base T S sz bytes:Nat} {enc:α → List Value} {a:Option Addr} {n c:Nat} {l:List α} {i:TypeInfo} {z:Value} {ty:TypeId} {F:Option Addr → Nat → Nat → World → Prop}
  (h:Row w base T sz enc a n c l) (ht:P.underlying S = some (.slice T)) (hi:P.info? T = some i) (hz:i.zero = some z) (hsize:i.size = sz) (hby:i.bytes = bytes) (hzs:z.cells.size = sz) (hsz:0 < sz)
  {b:Nat} {x:α} {T':TypeId} (hb:w.heap[b]? = some (.cells (enc x).toArray T')) (hx:(enc x).length = sz) (hone:∀ u ∈ enc x,u.oneCell' = true) (hlen:(l.length + 1) * bytes ≤ 140737488355328) (hl2:l.length + 1 ≤ maxLen) (hbase:base ≤ w.heap.size)
  (hF:∀ a' c' w',Row w' base T sz enc a' (n + 1) c' (l ++ [x]) → (∀ X,(∀ ad,a = some ad → ad.block ∈ X) → Mod X w w') → (∀ k ∈ yaN a',k ∈ yaN a ∨ w.heap.size ≤ k) → F a' (n + 1) c' w') :
  ybC P (Builtin.append_ #[S,S] ty #[.slice a n c,.slice (some ⟨b,0,none⟩) 1 1]) w F:=by
 obtain ⟨hn,ho⟩:=h
 have hnews:∀ j u,(enc x)[j]? = some u → w.cell? ((⟨b,0,none⟩:Addr).add j) = some u:=fun j u hu => by
  have e:(⟨b,0,none⟩:Addr).add j = ⟨b,j,none⟩:=by
   simp only [Addr.add]; split
   ·rename_i h0; subst h0; rfl
   ·simp
  rw [e,yaM hb]; simpa using hu
 have hl1:(enc x).length = 1 * i.size:=by rw [hx,hsize]; omega
 obtain ⟨v',w',h1,h2,h3,_⟩:=run_append_own w base S ty T i z sz bytes ht hi hz hsize hby hzs hsz (.slice a n c) n (l.flatMap enc) ho ⟨b,0,none⟩ 1 1 (enc x) (by rw [hx]; omega) hnews hone (by rw [hn]; exact hl2) (by rw [hn]; exact hlen) hbase
 have hm:n + 1 ≤ 9223372036854775807:=by rw [hn]; unfold maxLen at hl2; omega
 have hbl:∀ ad n' c',v' = .slice (some ad) n' c' → ad.block ∈ yaN a ∨ w.heap.size ≤ ad.block:=fun ad n' c' e => by
  rcases ho.2 with ⟨e1,e2⟩ | ⟨g,cap,cur,e1,hbg,hg,hnc,hcm,hcs,htake⟩
  ·cases e1
   have hr:=run_append_nil (P:=P) w S ty T i z ht hi hz ⟨b,0,none⟩ 1 1 (enc x) hl1 hnews (by omega) (by omega) (by rw [hby]; rw [show l.length = 0 by omega] at hlen; omega)
   rw [h1] at hr
   injection hr with hv _
   rw [hv] at e
   cases e
   exact .inr (Nat.le_refl _)
  ·cases e1
   by_cases hroom:n + 1 ≤ c
   ·have hfit:n * i.size + (enc x).length ≤ cur.size:=by rw [hl1,hcs,hsize,← Nat.add_mul]; exact Nat.mul_le_mul_right _ hroom
    have hr:=run_append_room (P:=P) w S ty T i ht hi g n c cur hg ⟨b,0,none⟩ 1 1 (enc x) hl1 hnews hone hroom hfit
    rw [h1] at hr
    injection hr with hv _
    rw [hv] at e
    cases e
    exact .inl (by simp [yaN])
   ·have ho':w.ownsRow base T i.size (.slice (some ⟨g,0,none⟩) n c) n (l.flatMap enc):=by rw [hsize]; exact ho
    have holds:∀ j u,(l.flatMap enc)[j]? = some u → w.cell? ((⟨g,0,none⟩:Addr).add j) = some u:=ho'.cells (g:=g) rfl
    have hr:=run_append_grow (P:=P) w S ty T i z ht hi hz ⟨g,0,none⟩ n c (l.flatMap enc) ho'.1 holds ⟨b,0,none⟩ 1 1 (enc x) hl1 hnews (by omega) (by omega) (growslice_fits (by omega) (by rw [hby,hn]; exact hlen))
    rw [h1] at hr
    injection hr with hv _
    rw [hv] at e
    cases e
    exact .inr (Nat.le_refl _)
 have hv:∃ a' c',v' = .slice a' (n + 1) c':=by
  rcases h2.2 with ⟨e1,e2⟩ | ⟨g,cap,cur,e1,_⟩
  ·exact ⟨none,0,by rw [e1]; omega⟩
  ·exact ⟨_,_,e1⟩
 obtain ⟨a',c',rfl⟩:=hv
 refine ⟨a',n + 1,c',w',h1,hF a' c' w' ⟨by simp [hn],by simpa using h2⟩ (fun X hX => ⟨h3.os,h3.tape,h3.output,h3.size,fun k hk hkX => h3.block k hk fun e => hkX ?_⟩) fun k hk => ?_⟩
 ·cases a with
  | none => simp [Value.ownBlock] at e
  | some ad => simp [Value.ownBlock] at e; subst e; exact hX ad rfl
 ·cases a' with
  | none => simp [yaN] at hk
  | some ad =>
   simp [yaN] at hk
   subst hk
   exact hbl ad _ _ rfl
end Go.Proofs.YteldhjiiocmicaaGreat
namespace Go.Proofs.YteldhjiiocmicaaGreat
open Go Go.RowKit
set_option linter.all false
section
set_option maxRecDepth 100000
variable {R:VWP} {w w0:World} {m:Nat} {i0 i1 i2 i3 i4 i5 i6 i7 i8 i9 j0 j1 j2 j3 j4 j5 j6 j7 j8 j9 k0 k1 k2 k3 k4 k5 k6 k7 k8 k9 l0 l1 l2 l3 l4 l5 l6 l7 l8 l9:Int} {s0 s1 s2 s3 s4 s5 s6 s7 s8 s9 t0 t1 t2 t3 t4 t5 t6 t7 t8 t9:BA} {n0 n1 n2 n3 n4 n5 n6 n7 n8 n9 o0 o1 o2 o3 o4 o5 o6 o7 o8 o9 p0 p1 p2 p3 p4 p5 p6 p7 p8 p9:Nat} {q0 q1 q2 q3 q4 q5 q6 q7 q8 q9 r0 r1 r2 r3 r4 r5 r6 r7 r8 r9:OA} {B0 B1 B2 B3 B4 B5 B6 B7 B8 B9:Bool} {M0 M1 M2 M3:Option Nat} {V0 V1 V2 V3 V4 V5:Value} {A0 A1 A2:Addr}
def yvS:LA:=⟨[0,0,1,0,1],[6,7,8],[],0,[]⟩
def yx5:List LA:=[yvS]
abbrev yKf:=dnF pP yx5 (code Tryz.f138)
abbrev yNp:=yaR pP yx5 (code Tryz.f138)
abbrev yKg (p:List Nat) (K:List Kh) (R:VWP):=yaR pP yx5 (code Tryz.f138) p K (ybE pP Tryz.f138 [] R)
def yoS (a0:OA) (a2 a1:Nat) (a3:Int):Int → List Value × List TB:=fun a4 => ([.slice a0 a2 a1,.int .i64 a3,.int .i64 a4],[])
abbrev yGd (a0:OA) (a2 a1:Nat) (a3:Int) (I:Nat → Int → World → Prop) (m:Nat):Kh:=KG (yoS a0 a2 a1 a3) (U1 I) m
theorem yCy {I:Nat → Int → World → Prop} (m':Nat) (h1:m' < m) (h2:I m' i1 w):KS (yGd q0 n0 n1 i0 I m) (yoS q0 n0 n1 i0 i1) w:=⟨m',h1,_,rfl,rfl,h2⟩
theorem yCz {a1:OA} (I:Nat → Int → World → Prop) (m0:Nat) (h0:I m0 i1 w0)
 (hr:∀ m a0 w,I m a0 w →
 brB (decide (a0 < i0)) (
 ixA a1 n0 a0 4 fun q7 =>
 yb9 w q7 fun t8 => ya7 w (Addr.add q7 1) fun s9 => yb9 w (Addr.add q7 2) fun b1 => ya7 w (Addr.add q7 3) fun b0 =>
 ∀ a5,w.heap.size ≤ a5 →
 ∀ a6,Adv [] [a5] w a6 →
 Calls pP 93 #[(.agg (Z8 t8 s9 b1 b0))] a6 fun e a7 => ∃ a8,e = .returned (.int .i64 a8) ∧ yaF [a5] a6 a7 ∧
 brB (a8 != 0) (
 R (.int .i64 a8) a7)
 (
 KS (yGd a1 n0 n1 i0 I m) (yoS a1 n0 n1 i0 (IntKind.wrap .i64 (a0 + 1))) a7))
 (
 R (.int .i64 0) w)) :
 yaO yvS (yKf 397 [0,0,1,0,1]) (yKg [1,0,1,0] [] R) (yoS a1 n0 n1 i0 i1) w0 :=
 lrule (yoS a1 n0 n1 i0) (U1 I) h0 (by rintro m a0 w h; exact ⟨by kernel_rfl,by kernel_rfl,fun js => Eq.mpr (by kernel_rfl) (hr m a0 w h)⟩)
theorem yKh (h :
 yaO yvS (yKf 397 [0,0,1,0,1]) (yKg [1,0,1,0] [] R) (yoS q0 n0 n1 (n0:Int) 0) w) :
 CR pP 138 #[.slice q0 n0 n1] w R :=
 yaB Tryz.wide_mixed (an:=yx5) Tryz.func138 rfl rfl (by kernel_rfl) rfl (Eq.mpr (by kernel_rfl) h)
theorem yKi {b0:Nat} {o2_n o2_c:Nat} {o3_n o3_c:Nat} (hb:w.heap[b0]? = some (.cells (Z2 i0 i1 q0 o2_n o2_c q1 o3_n o3_c) 168)) (h :
 ∀ b2,w.heap.size ≤ b2 → nz 8 (
 brB ((Int.tmod (o2_n:Int) 8) == 0) (
 ∀ w3,Adv [] [b2] w w3 →
 al w3 (.cells #[.int .i64 i2] 3) fun b4 w5 =>
 ybC pP (Builtin.append_ #[22,22] 22 #[.slice q1 o3_n o3_c,(.slice (some ⟨b4,0,none⟩) 1 1)]) w5 fun a7 n8 c9 w6 => yaF [b0,b2] w5 w6 ∧
 ∀ a8,Adv [b0] [] w6 a8 →
 al a8 (.cells (Z9 i2 B0 s0 B1 s1) 76) fun b9 a9 =>
 ybC pP (Builtin.append_ #[27,27] 27 #[.slice q0 o2_n o2_c,(.slice (some ⟨b9,0,none⟩) 1 1)]) a9 fun b7 c3 c1 b1 => yaF [b0,b2] a9 b1 ∧
 ∀ a5,Adv [b0] [] b1 a5 → a5.heap[b0]? = some (.cells (Z2 i0 i1 b7 c3 c1 a7 n8 c9) 168) →
 R (.tuple #[]) a5)
 (
 ∀ b3,Adv [] [b2] w b3 →
 al b3 (.cells (Z9 i2 B0 s0 B1 s1) 76) fun c0 b5 =>
 ybC pP (Builtin.append_ #[27,27] 27 #[.slice q0 o2_n o2_c,(.slice (some ⟨c0,0,none⟩) 1 1)]) b5 fun b8 c4 c2 b6 => yaF [b0,b2] b5 b6 ∧
 ∀ a6,Adv [b0] [] b6 a6 → a6.heap[b0]? = some (.cells (Z2 i0 i1 b8 c4 c2 q1 o3_n o3_c) 168) →
 R (.tuple #[]) a6))) :
 CR pP 139 #[(.pointer (some ⟨b0,0,none⟩)),(.agg (Z9 i2 B0 s0 B1 s1))] w R :=
 yaJ Tryz.wide_mixed (an:=[]) Tryz.func139 rfl rfl (by kernel_rfl) rfl hb (Eq.mpr (by kernel_rfl) h)
def yqB:LA:=⟨[0,0,1,0,1,1,1,1],[0,7,38,39,40],[(0,0,0)],1,[0]⟩
def yx6:List LA:=[yqB]
abbrev yHL:=dnF pP yx6 (code Tryz.f96)
abbrev yNq:=yaR pP yx6 (code Tryz.f96)
abbrev yHM (p:List Nat) (K:List Kh) (R:VWP):=yaR pP yx6 (code Tryz.f96) p K (ybE pP Tryz.f96 [0] R)
def ymP (b3:Int) (a8:OA) (b0 a9:Nat) (b1:Int) (bm0:Nat):Int × Int × Int × (Option Addr) × Nat × Nat × (Option Addr) × Nat × Nat → List Value × List TB:=fun (b2,a6,a7,a0,a4,a2,a1,a5,a3) => ([(.pointer (some ⟨bm0,0,none⟩)),.int .i64 b3,.slice a8 b0 a9,.int .i64 b1,.int .i64 b2],[⟨bm0,168,[.int .i64 a6,.int .i64 a7,.slice a0 a4 a2,.slice a1 a5 a3],true⟩])
abbrev yGe (a4:Int) (a0:OA) (a2 a1:Nat) (a3:Int) (bm0:Nat) (I:Nat → Int → Int → Int → Option Addr → Nat → Nat → Option Addr → Nat → Nat → World → Prop) (m:Nat):Kh:=KG (ymP a4 a0 a2 a1 a3 bm0) (U9 I) m
theorem yCA {I:Nat → Int → Int → Int → Option Addr → Nat → Nat → Option Addr → Nat → Nat → World → Prop} (m':Nat) (h1:m' < m) (h2:I m' i2 i3 i4 q1 n3 n4 q2 n5 n6 w):KS (yGe i0 q0 n0 n1 i1 n2 I m) (ymP i0 q0 n0 n1 i1 n2 (i2,i3,i4,q1,n3,n4,q2,n5,n6)) w:=⟨m',h1,_,rfl,rfl,h2⟩
theorem yCB (I:Nat → Int → Int → Int → Option Addr → Nat → Nat → Option Addr → Nat → Nat → World → Prop) (m0:Nat) (h0:I m0 i2 i3 i4 q1 n3 n4 q2 n5 n6 w0)
 (hr:∀ m a8 a7 a0 a1 a5 a3 a2 a6 a4 w,I m a8 a7 a0 a1 a5 a3 a2 a6 a4 w →
 w.heap[n2]? = some (.cells (Z2 a7 a0 a1 a5 a3 a2 a6 a4) 168) →
 brB (decide (a8 < i1)) (
 ixA q0 n0 a8 4 fun c3 =>
 yb9 w c3 fun d8 => ya7 w (Addr.add c3 1) fun d6 => yb9 w (Addr.add c3 2) fun d9 => ya7 w (Addr.add c3 3) fun d7 =>
 ∀ c2,w.heap.size ≤ c2 →
 ∀ c4,Adv [] [c2] w c4 → c4.heap[n2]? = some (.cells (Z2 a7 a0 a1 a5 a3 a2 a6 a4) 168) →
 Calls pP 139 #[(.pointer (some ⟨n2,0,none⟩)),(.agg (Z9 a0 d8 d6 d9 d7))] c4 fun e d2 => e = .returned (.tuple #[]) ∧ yaV [n2] [(c2,65)] [c2] c4 d2 ∧ ∃ d4 d5 c6 d0 c8 c7 d1 c9,d2.heap[n2]? = some (.cells (Z2 d4 d5 c6 d0 c8 c7 d1 c9) 168) ∧
 ∀ d3,Adv [n2] [] d2 d3 → d3.heap[n2]? = some (.cells (Z2 d4 (IntKind.wrap .i64 (d5 + 1)) c6 d0 c8 c7 d1 c9) 168) →
 KS (yGe i0 q0 n0 n1 i1 n2 I m) (ymP i0 q0 n0 n1 i1 n2 ((IntKind.wrap .i64 (a8 + 1)),d4,(IntKind.wrap .i64 (d5 + 1)),c6,d0,c8,c7,d1,c9)) d3)
 (
 R (.tuple #[.int .i64 i0,.int .i64 0]) w)) :
 yaO yqB (yHL 394 [0,0,1,0,1,1,1,1]) (yHM [1,1,1,1,0,1,0] [] R) (ymP i0 q0 n0 n1 i1 n2 (i2,i3,i4,q1,n3,n4,q2,n5,n6)) w0 :=
 lrule (ymP i0 q0 n0 n1 i1 n2) (U9 I) h0 (by rintro m ⟨a8,a7,a0,a1,a5,a3,a2,a6,a4⟩ w h; exact ⟨by kernel_rfl,by kernel_rfl,fun js => Eq.mpr (by kernel_rfl) (hr m a8 a7 a0 a1 a5 a3 a2 a6 a4 w h)⟩)
theorem yKj {b0:Nat} {o2_n o2_c:Nat} {o3_n o3_c:Nat} {a0 a2:Nat} (hb:w.heap[b0]? = some (.cells (Z2 i0 i1 q0 o2_n o2_c q1 o3_n o3_c) 168)) (h :
 Calls pP 138 #[.slice q2 a0 a2] w fun e w3 => ∃ x4,e = .returned (.int .i64 x4) ∧ yaF [b0] w w3 ∧
 brB (x4 != 0) (
 ∀ w5,Adv [] [] w3 w5 → w5.heap[b0]? = some (.cells (Z2 i0 i1 q0 o2_n o2_c q1 o3_n o3_c) 168) →
 R (.tuple #[.int .i64 0,.int .i64 x4]) w5)
 (
 brB (decide ((IntKind.wrap .i64 ((o2_n:Int) + (a0:Int))) > 64)) (
 brB (decide ((IntKind.wrap .i64 ((o2_n:Int) + (a0:Int))) > 64)) (
 ∀ w6,Adv [] [] w3 w6 → w6.heap[b0]? = some (.cells (Z2 i0 i1 q0 o2_n o2_c q1 o3_n o3_c) 168) →
 R (.tuple #[.int .i64 0,.int .i64 50]) w6)
 (
 ∀ a3,Adv [] [] w3 a3 → a3.heap[b0]? = some (.cells (Z2 i0 i1 q0 o2_n o2_c q1 o3_n o3_c) 168) →
 yaO yqB (yHL 394 [0,0,1,0,1,1,1,1]) (yHM [1,1,1,1,0,1,0] [] R) (ymP i1 q2 a0 a2 (a0:Int) b0 (0,i0,i1,q0,o2_n,o2_c,q1,o3_n,o3_c)) a3))
 (
 brB (decide ((IntKind.wrap .i64 (i1 + (a0:Int))) > 1099511627776)) (
 ∀ a4,Adv [] [] w3 a4 → a4.heap[b0]? = some (.cells (Z2 i0 i1 q0 o2_n o2_c q1 o3_n o3_c) 168) →
 R (.tuple #[.int .i64 0,.int .i64 50]) a4)
 (
 ∀ a5,Adv [] [] w3 a5 → a5.heap[b0]? = some (.cells (Z2 i0 i1 q0 o2_n o2_c q1 o3_n o3_c) 168) →
 yaO yqB (yHL 394 [0,0,1,0,1,1,1,1]) (yHM [1,1,1,1,0,1,0] [] R) (ymP i1 q2 a0 a2 (a0:Int) b0 (0,i0,i1,q0,o2_n,o2_c,q1,o3_n,o3_c)) a5)))) :
 CR pP 96 #[(.pointer (some ⟨b0,0,none⟩)),.slice q2 a0 a2] w R :=
 yaJ Tryz.wide_mixed (an:=yx6) Tryz.func96 rfl rfl (by kernel_rfl) rfl hb (Eq.mpr (by kernel_rfl) h)
def yvT:LA:=⟨[0,0,0,1,1,1],[2,3,6],[(2,1,0),(3,2,0)],3,[0,1,2]⟩
def yx7:List LA:=[yvT]
abbrev yKk:=dnF pP yx7 (code Tryz.f140)
abbrev yNr:=yaR pP yx7 (code Tryz.f140)
abbrev yKl (p:List Nat) (K:List Kh) (R:VWP):=yaR pP yx7 (code Tryz.f140) p K (ybE pP Tryz.f140 [0] R)
def yoT (bm0:Nat) (a7 a8:Int) (a0:OA) (a4 a2:Nat) (a1:OA) (a5 a3 bm1:Nat) (a6:OA) (bm2:Nat) (a9:Int):Int → List Value × List TB:=fun b0 => ([(.pointer (some ⟨bm1,0,none⟩)),(.pointer (some ⟨bm2,0,none⟩)),.int .i64 b0],[⟨bm0,168,[.int .i64 a7,.int .i64 a8,.slice a0 a4 a2,.slice a1 a5 a3],true⟩,⟨bm1,78,[.pointer a6],true⟩,⟨bm2,3,[.int .i64 a9],true⟩])
abbrev yGf (bm0:Nat) (a7 a8:Int) (a0:OA) (a4 a2:Nat) (a1:OA) (a5 a3 bm1:Nat) (a6:OA) (bm2:Nat) (a9:Int) (I:Nat → Int → World → Prop) (m:Nat):Kh:=KG (yoT bm0 a7 a8 a0 a4 a2 a1 a5 a3 bm1 a6 bm2 a9) (U1 I) m
theorem yCC {I:Nat → Int → World → Prop} (m':Nat) (h1:m' < m) (h2:I m' i3 w):KS (yGf n0 i0 i1 q0 n1 n2 q1 n3 n4 n5 q2 n6 i2 I m) (yoT n0 i0 i1 q0 n1 n2 q1 n3 n4 n5 q2 n6 i2 i3) w:=⟨m',h1,_,rfl,rfl,h2⟩
theorem yCD (I:Nat → Int → World → Prop) (m0:Nat) (h0:I m0 i3 w0)
 (hr:∀ m b0 w,I m b0 w →
 w.heap[n0]? = some (.cells (Z2 i0 i1 q0 n1 n2 q1 n3 n4) 168) →
 w.heap[n5]? = some (.cells #[.pointer q2] 78) →
 w.heap[n6]? = some (.cells #[.int .i64 i2] 3) →
 yb7 q2 fun b8 =>
 ya2 w (Addr.add b8 2) fun c2 b6 c3 =>
 brB (decide (b0 < (b6:Int))) (
 yb7 q2 fun b9 =>
 ya2 w (Addr.add b9 2) fun b5 b7 c4 =>
 ixA b5 b7 b0 5 fun c0 =>
 ya1 .i64 w c0 fun c1 =>
 brB (decide (c1 < i2)) (
 ∀ b1,Adv [] [] w b1 → b1.heap[n0]? = some (.cells (Z2 i0 i1 q0 n1 n2 q1 n3 n4) 168) →
 b1.heap[n5]? = some (.cells #[.pointer q2] 78) →
 b1.heap[n6]? = some (.cells #[.int .i64 i2] 3) →
 KS (yGf n0 i0 i1 q0 n1 n2 q1 n3 n4 n5 q2 n6 i2 I m) (yoT n0 i0 i1 q0 n1 n2 q1 n3 n4 n5 q2 n6 i2 (IntKind.wrap .i64 (b0 + 1))) b1)
 (
 ∀ b2,Adv [] [] w b2 → b2.heap[n0]? = some (.cells (Z2 i0 i1 q0 n1 n2 q1 n3 n4) 168) →
 b2.heap[n5]? = some (.cells #[.pointer q2] 78) →
 b2.heap[n6]? = some (.cells #[.int .i64 i2] 3) →
 R (.int .i64 b0) b2))
 (
 ∀ b3,Adv [] [] w b3 → b3.heap[n0]? = some (.cells (Z2 i0 i1 q0 n1 n2 q1 n3 n4) 168) →
 b3.heap[n5]? = some (.cells #[.pointer q2] 78) →
 b3.heap[n6]? = some (.cells #[.int .i64 i2] 3) →
 R (.int .i64 b0) b3)) :
 yaO yvT (yKk 396 [0,0,0,1,1,1]) (yKl [1,1,1,0,0] [] R) (yoT n0 i0 i1 q0 n1 n2 q1 n3 n4 n5 q2 n6 i2 i3) w0 :=
 lrule (yoT n0 i0 i1 q0 n1 n2 q1 n3 n4 n5 q2 n6 i2) (U1 I) h0 (by rintro m b0 w h; exact ⟨by kernel_rfl,by kernel_rfl,fun js => Eq.mpr (by kernel_rfl) (hr m b0 w h)⟩)
theorem yKm {b0:Nat} {o2_n o2_c:Nat} {o3_n o3_c:Nat} (hb:w.heap[b0]? = some (.cells (Z2 i0 i1 q0 o2_n o2_c q1 o3_n o3_c) 168)) (h :
 ∀ b3,w.heap.size ≤ b3 →
 ∀ b4,w.heap.size ≤ b4 →
 ∀ a2,Adv [] [b4,b3] w a2 → a2.heap[b0]? = some (.cells (Z2 i0 i1 q0 o2_n o2_c q1 o3_n o3_c) 168) →
 ya2 a2 ⟨b0,3,none⟩ fun b9 b8 c0 =>
 ∀ a1,Adv [] [] a2 a1 → a1.heap[b0]? = some (.cells (Z2 i0 i1 q0 o2_n o2_c q1 o3_n o3_c) 168) →
 a1.heap[b3]? = some (.cells #[(.pointer (some ⟨b0,0,none⟩))] 78) →
 a1.heap[b4]? = some (.cells #[.int .i64 i2] 3) →
 Calls pP 164 #[(.int .i64 (b8:Int)),(.func (.func 165) #[] #[(.pointer (some ⟨b3,0,none⟩)),(.pointer (some ⟨b4,0,none⟩))])] a1 fun e a3 => ∃ a4,e = .returned (.int .i64 a4) ∧ ∃ b5 b6 a5 a9 a7 a6 b1 a8,a3.heap[b0]? = some (.cells (Z2 b5 b6 a5 a9 a7 a6 b1 a8) 168) ∧ ∃ b2,a3.heap[b3]? = some (.cells #[.pointer b2] 78) ∧ ∃ b7,a3.heap[b4]? = some (.cells #[.int .i64 b7] 3) ∧
 yaO yvT (yKk 396 [0,0,0,1,1,1]) (yKl [1,1,1,0,0] [] R) (yoT b0 b5 b6 a5 a9 a7 a6 b1 a8 b3 b2 b4 b7 (IntKind.wrap .i64 ((if 0 > (IntKind.wrap .i64 (a4 - 1)) then 0 else (IntKind.wrap .i64 (a4 - 1))) * 8))) a3) :
 CR pP 140 #[(.pointer (some ⟨b0,0,none⟩)),.int .i64 i2] w R :=
 yaJ Tryz.wide_mixed (an:=yx7) Tryz.func140 rfl rfl (by kernel_rfl) rfl hb (Eq.mpr (by kernel_rfl) h)
theorem yKn (h :
 ygI w A0 fun p1 =>
 yb7 p1 fun q2 =>
 ya2 w (Addr.add q2 3) fun a3 n4 c5 =>
 ixA a3 n4 i0 1 fun q6 =>
 ya1 .i64 w q6 fun x7 =>
 ya1 .i64 w A1 fun x8 =>
 ∀ w9,Adv [] [] w w9 →
 R (.bool (decide (x7 > x8))) w9) :
 CR pP 165 #[.int .i64 i0,(.pointer (some A0)),(.pointer (some A1))] w R :=
 yaB Tryz.wide_mixed (an:=[]) Tryz.func165 rfl rfl (by kernel_rfl) rfl (Eq.mpr (by kernel_rfl) h)
def yvU:LA:=⟨[0,0,0,1,1],[1,5,6],[],0,[]⟩
def yx8:List LA:=[yvU]
abbrev yKo:=dnF pP yx8 (code Tryz.f164)
abbrev yNs:=yaR pP yx8 (code Tryz.f164)
abbrev yKp (p:List Nat) (K:List Kh) (R:VWP):=yaR pP yx8 (code Tryz.f164) p K (ybE pP Tryz.f164 [] R)
def ymQ (a0:Addr) (a1:Addr):Int × Int → List Value × List TB:=fun (a2,a3) => ([(.func (.func 165) #[] #[(.pointer (some a0)),(.pointer (some a1))]),.int .i64 a2,.int .i64 a3],[])
abbrev yCE (a0:Addr) (a1:Addr) (I:Nat → Int → Int → World → Prop) (m:Nat):Kh:=KG (ymQ a0 a1) (U2 I) m
theorem ys6 {I:Nat → Int → Int → World → Prop} (m':Nat) (h1:m' < m) (h2:I m' i0 i1 w):KS (yCE A0 A1 I m) (ymQ A0 A1 (i0,i1)) w:=⟨m',h1,_,rfl,rfl,h2⟩
theorem yCF (I:Nat → Int → Int → World → Prop) (m0:Nat) (h0:I m0 i0 i1 w0)
 (hr:∀ m a2 a3 w,I m a2 a3 w →
 brB (decide (a2 < a3)) (nn 1 (
 Calls pP 165 #[(.int .i64 (IntKind.wrap .i64 (Int.fdiv (IntKind.wrap .u64 (IntKind.wrap .i64 (a2 + a3))) (2 ^ (min (Int.toNat 1) 64))))),(.pointer (some A0)),(.pointer (some A1))] w fun e w3 => ∃ t4,e = .returned (.bool t4) ∧
 brB (!t4) (
 KS (yCE A0 A1 I m) (ymQ A0 A1 ((IntKind.wrap .i64 ((IntKind.wrap .i64 (Int.fdiv (IntKind.wrap .u64 (IntKind.wrap .i64 (a2 + a3))) (2 ^ (min (Int.toNat 1) 64)))) + 1)),a3)) w3)
 (
 KS (yCE A0 A1 I m) (ymQ A0 A1 (a2,(IntKind.wrap .i64 (Int.fdiv (IntKind.wrap .u64 (IntKind.wrap .i64 (a2 + a3))) (2 ^ (min (Int.toNat 1) 64)))))) w3)))
 (
 R (.int .i64 a2) w)) :
 yaO yvU (yKo 397 [0,0,0,1,1]) (yKp [1,1,0,0] [] R) (ymQ A0 A1 (i0,i1)) w0 :=
 lrule (ymQ A0 A1) (U2 I) h0 (by rintro m ⟨a2,a3⟩ w h; exact ⟨by kernel_rfl,by kernel_rfl,fun js => Eq.mpr (by kernel_rfl) (hr m a2 a3 w h)⟩)
theorem yKq (h :
 yaO yvU (yKo 397 [0,0,0,1,1]) (yKp [1,1,0,0] [] R) (ymQ A0 A1 (0,i0)) w) :
 CR pP 164 #[.int .i64 i0,(.func (.func 165) #[] #[(.pointer (some A0)),(.pointer (some A1))])] w R :=
 yaB Tryz.wide_mixed (an:=yx8) Tryz.func164 rfl rfl (by kernel_rfl) rfl (Eq.mpr (by kernel_rfl) h)
theorem yKr {b0:Nat} {o2_n o2_c:Nat} {o3_n o3_c:Nat} (hb:w.heap[b0]? = some (.cells (Z2 i0 i1 q0 o2_n o2_c q1 o3_n o3_c) 168)) (h :
 ∀ w1,Adv [] [] w w1 → w1.heap[b0]? = some (.cells (Z2 i0 i1 q0 o2_n o2_c q1 o3_n o3_c) 168) →
 Calls pP 140 #[(.pointer (some ⟨b0,0,none⟩)),.int .i64 i2] w1 fun e w2 => ∃ x3,e = .returned (.int .i64 x3) ∧ ∃ x4 x5 a6 n7 c8 a9 b9 b5,w2.heap[b0]? = some (.cells (Z2 x4 x5 a6 n7 c8 a9 b9 b5) 168) ∧ (((.slice a6 n7 c8):Value) = (.slice q0 o2_n o2_c)) ∧
 slV q0 o2_c x3 o2_n o2_c 5 fun b1 a2 a4 =>
 slV b1 a4 0 (if (if (a2:Int) < i3 then (a2:Int) else i3) > 0 then (if (a2:Int) < i3 then (a2:Int) else i3) else 0) a4 5 fun b2 c0 b6 =>
 Calls pP 141 #[.slice b2 c0 b6] w2 fun e a8 => ∃ a3 a7 a5,e = .returned (.slice a3 a7 a5) ∧ ∃ c3 c4 b3 c1 b7 b4 c2 b8,a8.heap[b0]? = some (.cells (Z2 c3 c4 b3 c1 b7 b4 c2 b8) 168) ∧
 R (.slice a3 a7 a5) a8) :
 CR pP 100 #[(.pointer (some ⟨b0,0,none⟩)),.int .i64 i2,.int .i64 i3] w R :=
 yaJ Tryz.wide_mixed (an:=[]) Tryz.func100 rfl rfl (by kernel_rfl) rfl hb (Eq.mpr (by kernel_rfl) h)
def yvV:LA:=⟨[0,0,1,0,1,1],[0,5,12,13,14],[(0,0,0)],1,[]⟩
def yvW:LA:=⟨[0,0,1,0,1,1,1,1,1],[0,5,8,31,32,33],[(0,0,0)],1,[0]⟩
def yx9:List LA:=[yvV,yvW]
abbrev yFh:=dnF pP yx9 (code Tryz.f105)
abbrev yNt:=yaR pP yx9 (code Tryz.f105)
abbrev yFi (p:List Nat) (K:List Kh) (R:VWP):=yaR pP yx9 (code Tryz.f105) p K (ybE pP Tryz.f105 [0] R)
def yoU (b3:Option Nat) (a8:OA) (b0 a9:Nat) (b1:Int) (bm0:Nat) (a6 a7:Int) (a0:OA) (a4 a2:Nat) (a1:OA) (a5 a3:Nat):Int → List Value × List TB:=fun b2 => ([(.pointer (some ⟨bm0,0,none⟩)),(.map b3),.slice a8 b0 a9,.int .i64 b1,.int .i64 b2],[⟨bm0,168,[.int .i64 a6,.int .i64 a7,.slice a0 a4 a2,.slice a1 a5 a3],false⟩])
def ymR (b5:Option Nat) (b3:OA) (b6 b4:Nat) (a8:OA) (b0 a9:Nat) (b1:Int) (bm0:Nat):Int × Int × Int × (Option Addr) × Nat × Nat × (Option Addr) × Nat × Nat → List Value × List TB:=fun (b2,a6,a7,a0,a4,a2,a1,a5,a3) => ([(.pointer (some ⟨bm0,0,none⟩)),(.map b5),.slice b3 b6 b4,.slice a8 b0 a9,.int .i64 b1,.int .i64 b2],[⟨bm0,168,[.int .i64 a6,.int .i64 a7,.slice a0 a4 a2,.slice a1 a5 a3],true⟩])
abbrev yGg (b2:Option Nat) (a8:OA) (b0 a9:Nat) (b1:Int) (bm0:Nat) (a6 a7:Int) (a0:OA) (a4 a2:Nat) (a1:OA) (a5 a3:Nat) (I:Nat → Int → World → Prop) (m:Nat):Kh:=KG (yoU b2 a8 b0 a9 b1 bm0 a6 a7 a0 a4 a2 a1 a5 a3) (U1 I) m
theorem yCG {I:Nat → Int → World → Prop} (m':Nat) (h1:m' < m) (h2:I m' i3 w):KS (yGg M0 q0 n0 n1 i0 n2 i1 i2 q1 n3 n4 q2 n5 n6 I m) (yoU M0 q0 n0 n1 i0 n2 i1 i2 q1 n3 n4 q2 n5 n6 i3) w:=⟨m',h1,_,rfl,rfl,h2⟩
theorem yCH {a9:OA} {a1:OA} {a5:OA} (I:Nat → Int → World → Prop) (m0:Nat) (h0:I m0 i3 w0)
 (hr:∀ m a8 w,I m a8 w →
 brB (decide (a8 < i0)) (
 ixA a9 n0 a8 1 fun q7 =>
 ya1 .i64 w q7 fun x8 =>
 ydM pP (Instr.mapUpdate 252 (.map M0) (.int .i64 x8) (.bool true)) w fun b6 => yaF [n2] w b6 ∧
 KS (yGg M0 a9 n0 n1 i0 n2 i1 i2 a1 n3 n4 a5 n5 n6 I m) (yoU M0 a9 n0 n1 i0 n2 i1 i2 a1 n3 n4 a5 n5 n6 (IntKind.wrap .i64 (a8 + 1))) b6)
 (
 ∀ b5,Adv [n2] [] w b5 → b5.heap[n2]? = some (.cells (Z2 i1 i2 none 0 0 none 0 0) 168) →
 yaO yvW (yFh 393 [0,0,1,0,1,1,1,1,1]) (yFi [1,1,1,1,1,0,1,0] [] R) (ymR M0 a1 n3 n4 a1 n3 n4 (n3:Int) n2 (0,i1,i2,none,0,0,none,0,0)) b5)) :
 yaO yvV (yFh 396 [0,0,1,0,1,1]) (yFi [1,1,0,1,0] [] R) (yoU M0 a9 n0 n1 i0 n2 i1 i2 a1 n3 n4 a5 n5 n6 i3) w0 :=
 lrule (yoU M0 a9 n0 n1 i0 n2 i1 i2 a1 n3 n4 a5 n5 n6) (U1 I) h0 (by rintro m a8 w h; exact ⟨by kernel_rfl,by kernel_rfl,fun js => Eq.mpr (by kernel_rfl) (hr m a8 w h)⟩)
abbrev yCI (a6:Option Nat) (a4:OA) (a7 a5:Nat) (a0:OA) (a2 a1:Nat) (a3:Int) (bm0:Nat) (I:Nat → Int → Int → Int → Option Addr → Nat → Nat → Option Addr → Nat → Nat → World → Prop) (m:Nat):Kh:=KG (ymR a6 a4 a7 a5 a0 a2 a1 a3 bm0) (U9 I) m
theorem ys7 {I:Nat → Int → Int → Int → Option Addr → Nat → Nat → Option Addr → Nat → Nat → World → Prop} (m':Nat) (h1:m' < m) (h2:I m' i1 i2 i3 q2 n5 n6 q3 n7 n8 w):KS (yCI M0 q0 n0 n1 q1 n2 n3 i0 n4 I m) (ymR M0 q0 n0 n1 q1 n2 n3 i0 n4 (i1,i2,i3,q2,n5,n6,q3,n7,n8)) w:=⟨m',h1,_,rfl,rfl,h2⟩
theorem yCJ (I:Nat → Int → Int → Int → Option Addr → Nat → Nat → Option Addr → Nat → Nat → World → Prop) (m0:Nat) (h0:I m0 i1 i2 i3 q2 n5 n6 q3 n7 n8 w0)
 (hr:∀ m b1 a6 a7 a1 a0 a3 a2 a5 a4 w,I m b1 a6 a7 a1 a0 a3 a2 a5 a4 w →
 w.heap[n4]? = some (.cells (Z2 a6 a7 a1 a0 a3 a2 a5 a4) 168) →
 brB (decide (b1 < i0)) (
 ixA q1 n2 b1 5 fun c6 =>
 ya1 .i64 w c6 fun d7 => yb9 w (Addr.add c6 1) fun e2 => ya7 w (Addr.add c6 2) fun e0 => yb9 w (Addr.add c6 3) fun e3 => ya7 w (Addr.add c6 4) fun e1 =>
 ∀ c7,w.heap.size ≤ c7 →
 ∀ c3,Adv [] [c7] w c3 → c3.heap[n4]? = some (.cells (Z2 a6 a7 a1 a0 a3 a2 a5 a4) 168) →
 ∃ d6,(∀ w',Mod [] c3 w' → (Instr.lookup 252 (.map M0) (.int .i64 d7) false).run pP w' = .ok (.bool d6) w') ∧
 brB d6 (
 Calls pP 139 #[(.pointer (some ⟨n4,0,none⟩)),(.agg (Z9 d7 e2 e0 e3 e1))] c3 fun e c9 => e = .returned (.tuple #[]) ∧ yaV [n4] [(c7,76)] [c7] c3 c9 ∧ ∃ d8 d9 d0 d4 d2 d1 d5 d3,c9.heap[n4]? = some (.cells (Z2 d8 d9 d0 d4 d2 d1 d5 d3) 168) ∧
 KS (yCI M0 q0 n0 n1 q1 n2 n3 i0 n4 I m) (ymR M0 q0 n0 n1 q1 n2 n3 i0 n4 ((IntKind.wrap .i64 (b1 + 1)),d8,d9,d0,d4,d2,d1,d5,d3)) c9)
 (
 KS (yCI M0 q0 n0 n1 q1 n2 n3 i0 n4 I m) (ymR M0 q0 n0 n1 q1 n2 n3 i0 n4 ((IntKind.wrap .i64 (b1 + 1)),a6,a7,a1,a0,a3,a2,a5,a4)) c3))
 (
 R (.int .i64 (IntKind.wrap .i64 ((n0:Int) - (a0:Int)))) w)) :
 yaO yvW (yFh 393 [0,0,1,0,1,1,1,1,1]) (yFi [1,1,1,1,1,0,1,0] [] R) (ymR M0 q0 n0 n1 q1 n2 n3 i0 n4 (i1,i2,i3,q2,n5,n6,q3,n7,n8)) w0 :=
 lrule (ymR M0 q0 n0 n1 q1 n2 n3 i0 n4) (U9 I) h0 (by rintro m ⟨b1,a6,a7,a1,a0,a3,a2,a5,a4⟩ w h; exact ⟨by kernel_rfl,by kernel_rfl,fun js => Eq.mpr (by kernel_rfl) (hr m b1 a6 a7 a1 a0 a3 a2 a5 a4 w h)⟩)
theorem yKs {b0:Nat} {o2_n o2_c:Nat} {o3_n o3_c:Nat} {a0 a2:Nat} (hb:w.heap[b0]? = some (.cells (Z2 i0 i1 q0 o2_n o2_c q1 o3_n o3_c) 168)) (h :
 al w (.map #[] 0) fun b3 w4 =>
 yaO yvV (yFh 396 [0,0,1,0,1,1]) (yFi [1,1,0,1,0] [] R) (yoU (some b3) q2 a0 a2 (a0:Int) b0 i0 i1 q0 o2_n o2_c q1 o3_n o3_c 0) w4) :
 CR pP 105 #[(.pointer (some ⟨b0,0,none⟩)),.slice q2 a0 a2] w R :=
 yaJ Tryz.wide_mixed (an:=yx9) Tryz.func105 rfl rfl (by kernel_rfl) rfl hb (Eq.mpr (by kernel_rfl) h)
theorem yKt {b0:Nat} {o2_n o2_c:Nat} {o3_n o3_c:Nat} (hb:w.heap[b0]? = some (.cells (Z2 i0 i1 q0 o2_n o2_c q1 o3_n o3_c) 168)) (h :
 ∀ w1,Adv [] [] w w1 → w1.heap[b0]? = some (.cells (Z2 i0 i1 q0 o2_n o2_c q1 o3_n o3_c) 168) →
 R (.tuple #[.int .i64 i0,.int .i64 i1]) w1) :
 CR pP 99 #[(.pointer (some ⟨b0,0,none⟩))] w R :=
 yaJ Tryz.wide_mixed (an:=[]) Tryz.func99 rfl rfl (by kernel_rfl) rfl hb (Eq.mpr (by kernel_rfl) h)
theorem yKu {b0:Nat} {o2_n o2_c:Nat} {o3_n o3_c:Nat} (hb:w.heap[b0]? = some (.cells (Z2 i0 i1 q0 o2_n o2_c q1 o3_n o3_c) 168)) (h :
 ∀ w1,Adv [] [] w w1 → w1.heap[b0]? = some (.cells (Z2 i0 i1 q0 o2_n o2_c q1 o3_n o3_c) 168) →
 R (.int .i64 (o2_n:Int)) w1) :
 CR pP 95 #[(.pointer (some ⟨b0,0,none⟩))] w R :=
 yaJ Tryz.wide_mixed (an:=[]) Tryz.func95 rfl rfl (by kernel_rfl) rfl hb (Eq.mpr (by kernel_rfl) h)
theorem yKv {b0:Nat} {o2_n o2_c:Nat} {o3_n o3_c:Nat} (hb:w.heap[b0]? = some (.cells (Z2 i0 i1 q0 o2_n o2_c q1 o3_n o3_c) 168)) (h :
 Calls pP 141 #[.slice q0 o2_n o2_c] w fun e w5 => ∃ a6 n7 c8,e = .returned (.slice a6 n7 c8) ∧ yaF [b0] w w5 ∧
 ∀ w9,Adv [] [] w5 w9 → w9.heap[b0]? = some (.cells (Z2 i0 i1 q0 o2_n o2_c q1 o3_n o3_c) 168) →
 R (.slice a6 n7 c8) w9) :
 CR pP 104 #[(.pointer (some ⟨b0,0,none⟩))] w R :=
 yaJ Tryz.wide_mixed (an:=[]) Tryz.func104 rfl rfl (by kernel_rfl) rfl hb (Eq.mpr (by kernel_rfl) h)
end
def ycO (x:Int):List Value:=[.int .i64 x]
theorem yb4 (x:Int):(ycO x).length = 1:=rfl
theorem ys8 (x:Int):∀ u ∈ ycO x,u.oneCell' = true:=by simp [ycO,Value.oneCell']
theorem yCK (x:PFound):∀ u ∈ yjH x,u.oneCell' = true:=by simp [yjH,Value.oneCell']
theorem yGh:(Tryz.prog.info? 3).map (fun i => (i.zero,i.size,i.bytes)) = some (some (.int .i64 0),1,8):=by kernel_rfl
theorem yKw:(Tryz.prog.info? 76).map (fun i => (i.zero,i.size,i.bytes)) = some (some (.agg #[.int .i64 0,.bool false,.string ByteArray.empty,.bool false,.string ByteArray.empty]),5,56):=by kernel_rfl
theorem yjU {w:World} {B:Nat} {f:Sl} {l:List Int} {y:Int} {bs:List Nat} {F:Option Addr → Nat → Nat → World → Prop} (hR:Row w B 3 1 ycO f.a f.n f.c l) (hl:l.length ≤ 1000000) (hB:B ≤ w.heap.size) (hbs:∀ b ∈ bs,b ∉ yaN f.a)
  (hF:∀ a' c' w',Row w' B 3 1 ycO a' (f.n + 1) c' (l ++ [y]) → Mod (yaN f.a) w w' → (∀ k ∈ yaN a',k ∈ yaN f.a ∨ w.heap.size ≤ k) → F a' (f.n + 1) c' w') :
  al w (.cells (ycO y).toArray 3) fun b w1 => ybC pP (Builtin.append_ #[22,22] 22 #[.slice f.a f.n f.c,.slice (some ⟨b,0,none⟩) 1 1]) w1 fun a n c w2 => yaF bs w1 w2 ∧ F a n c w2:=by
 refine yd6 fun b w1 c1 M1 f1 => ?_
 have s1:=M1.size
 obtain ⟨i0,hi0,hz0,hz1,hz2⟩:=info_parts yGh
 refine ydF (x:=y) (hR.keep0 M1) Tryz.underlying22 hi0 hz0 hz1 hz2 rfl (by decide) c1 rfl (ys8 _) (by omega) (by unfold maxLen; omega) (by omega) fun a' c' w8 hR8 hM8 hk8 => ?_
 have M8:=hM8 _ (ycN f.a)
 refine ⟨yaF.of M8 fun b hb _ => hbs b hb,hF a' c' w8 hR8 ?_ fun k hk => ?_⟩
 ·exact (M1.trans M8).less fun k hk _ => by simpa using hk
 ·rcases hk8 k hk with h | h
  ·exact .inl h
  ·exact .inr (by omega)
theorem yyA {w:World} {B:Nat} {f:Sl} {l:List PFound} {y:PFound} {bs:List Nat} {F:Option Addr → Nat → Nat → World → Prop} (hR:Row w B 76 5 yjH f.a f.n f.c l) (hl:l.length ≤ 1000000) (hB:B ≤ w.heap.size) (hbs:∀ b ∈ bs,b ∉ yaN f.a)
  (hF:∀ a' c' w',Row w' B 76 5 yjH a' (f.n + 1) c' (l ++ [y]) → Mod (yaN f.a) w w' → (∀ k ∈ yaN a',k ∈ yaN f.a ∨ w.heap.size ≤ k) → F a' (f.n + 1) c' w') :
  al w (.cells (yjH y).toArray 76) fun b w1 => ybC pP (Builtin.append_ #[27,27] 27 #[.slice f.a f.n f.c,.slice (some ⟨b,0,none⟩) 1 1]) w1 fun a n c w2 => yaF bs w1 w2 ∧ F a n c w2:=by
 refine yd6 fun b w1 c1 M1 f1 => ?_
 have s1:=M1.size
 obtain ⟨i0,hi0,hz0,hz1,hz2⟩:=info_parts yKw
 refine ydF (x:=y) (hR.keep0 M1) Tryz.underlying27 hi0 hz0 hz1 hz2 rfl (by decide) c1 rfl (yCK _) (by omega) (by unfold maxLen; omega) (by omega) fun a' c' w8 hR8 hM8 hk8 => ?_
 have M8:=hM8 _ (ycN f.a)
 refine ⟨yaF.of M8 fun b hb _ => hbs b hb,hF a' c' w8 hR8 ?_ fun k hk => ?_⟩
 ·exact (M1.trans M8).less fun k hk _ => by simpa using hk
 ·rcases hk8 k hk with h | h
  ·exact .inl h
  ·exact .inr (by omega)
def yoV (l:List PFound):List Int:=(List.range ((l.length + 7) / 8)).map fun k => ((l[8 * k]?).map (·.off)).getD 0
theorem yqC (l:List PFound):(yoV l).length = (l.length + 7) / 8:=by simp [yoV]
theorem yFj {l:List PFound} {k:Nat} {x:PFound} (h:l[8 * k]? = some x):(yoV l)[k]? = some x.off:=by
 have hk:=(List.getElem?_eq_some_iff.1 h).1
 have:k < (l.length + 7) / 8:=by omega
 simp [yoV,this,h]
theorem yyB (l:List PFound) (x:PFound):yoV (l ++ [x]) = if l.length % 8 = 0 then yoV l ++ [x.off] else yoV l:=by
 have old:∀ k:Nat,8 * k < l.length → (l ++ [x])[8 * k]? = l[8 * k]?:=fun k hk => List.getElem?_append_left hk
 unfold yoV
 by_cases g:l.length % 8 = 0
 ·rw [if_pos g]
  have e:((l ++ [x]).length + 7) / 8 = (l.length + 7) / 8 + 1:=by simp; omega
  rw [e,List.range_succ,List.map_append]
  have e2:8 * ((l.length + 7) / 8) = l.length:=by omega
  have e3:(l ++ [x])[l.length]? = some x:=by simp
  simp only [List.map_cons,List.map_nil,e2,e3]
  refine congrArg (· ++ _) (List.map_congr_left fun k hk => ?_)
  have:=List.mem_range.1 hk
  rw [old k (by omega)]
 ·rw [if_neg g]
  have e:((l ++ [x]).length + 7) / 8 = (l.length + 7) / 8:=by simp; omega
  rw [e]
  refine List.map_congr_left fun k hk => ?_
  have:=List.mem_range.1 hk
  rw [old k (by omega)]
def yb5 (w:World) (b:Nat) (base next:Int) (l:List PFound) (F:List Nat):Prop :=
 ∃ sl si:Sl,w.heap[b]? = some (.cells #[.int .i64 base,.int .i64 next,.slice sl.a sl.n sl.c,.slice si.a si.n si.c] 168) ∧ Row w 0 76 5 yjH sl.a sl.n sl.c l ∧ Row w 0 3 1 ycO si.a si.n si.c (yoV l) ∧ F = b :: (yaN sl.a ++ yaN si.a)
theorem yb5.lt {w:World} {b:Nat} {base next:Int} {l:List PFound} {F:List Nat} (h:yb5 w b base next l F):∀ k ∈ F,k < w.heap.size:=by
 obtain ⟨sl,si,hc,hl,hi,rfl⟩:=h
 intro k hk
 rcases List.mem_cons.1 hk with rfl | hk
 ·exact yaH hc
 ·rcases List.mem_append.1 hk with hk | hk
  ·exact (yaG hl k hk).2
  ·exact (yaG hi k hk).2
theorem yb5.self {w:World} {b:Nat} {base next:Int} {l:List PFound} {F:List Nat} (h:yb5 w b base next l F):b ∈ F:=by
 obtain ⟨sl,si,hc,hl,hi,rfl⟩:=h
 simp
theorem yb5.keep {w w':World} {b:Nat} {base next:Int} {l:List PFound} {F S:List Nat} (h:yb5 w b base next l F) (M:Mod S w w') (hS:∀ k ∈ S,k ∉ F):yb5 w' b base next l F:=by
 obtain ⟨sl,si,hc,hl,hi,rfl⟩:=h
 exact ⟨sl,si,M.keep hc (fun hb => hS b hb (by simp)),yaA hl M (fun k hk hk' => hS k hk (by simp [hk'])),yaA hi M (fun k hk hk' => hS k hk (by simp [hk'])),rfl⟩
theorem yb5.keep0 {w w':World} {b:Nat} {base next:Int} {l:List PFound} {F:List Nat} (h:yb5 w b base next l F) (M:Mod [] w w'):yb5 w' b base next l F:=h.keep M (by simp)
def ybG (w:World) (F F':List Nat):Prop:=∀ k ∈ F',k ∈ F ∨ w.heap.size ≤ k
set_option maxHeartbeats 1000000 in
theorem ymS {w:World} {b:Nat} {base next:Int} {l:List PFound} {F:List Nat} (h:yb5 w b base next l F) (x:PFound) (hl:l.length ≤ 1000) :
  Calls pP 139 #[.pointer (some ⟨b,0,none⟩),x.v] w fun e w' => e = .returned (.tuple #[]) ∧ ∃ F',yb5 w' b base next (l ++ [x]) F' ∧ Mod F w w' ∧ ybG w F F':=by
 obtain ⟨sl,si,hc,hL,hI,rfl⟩:=h
 have lb:=yaH hc
 have hbl:=yc5 hL hc (by decide)
 have hbi:=yc5 hI hc (by decide)
 have hn:=hL.1
 have hil:(yoV l).length ≤ 1000:=by rw [yqC]; omega
 refine ya0 (yKi hc ?_)
 intro b2 f2
 refine ⟨by decide,?_⟩
 have et:Int.tmod (sl.n:Int) 8 = ((l.length % 8:Nat):Int):=by rw [hn,Int.tmod_eq_emod_of_nonneg (by omega)]; exact (Int.natCast_emod _ _).symm
 rw [et]
 have lkL:=yaG hL
 have lkI:=yaG hI
 refine yaE (fun g => ?_) fun g => ?_
 ·have g:l.length % 8 = 0:=by have:=eq_of_beq g; omega
  intro w3 A3
  have s3:=A3.mod.size
  have hL3:=hL.keep0 A3.mod
  have hI3:=hI.keep0 A3.mod
  refine yjU (y:=x.off) (f:=si) hI3 (by omega) (by omega) (fun i hi hi' => ?_) fun a7 c7 w6 hI6 M6 hk6 => ?_
  ·have:=(lkI i hi').2
   simp at hi
   rcases hi with rfl | rfl
   ·exact hbi hi'
   ·omega
  have s6:=M6.size
  intro w10 A10
  have s10:=A10.mod.size
  have hL6:=yaA hL3 M6 (ya3 hI3 hL3 (by decide))
  have hL10:=yaA hL6 A10.mod (by simpa using hbl)
  have hb7:b ∉ yaN a7:=fun hb => by
   rcases hk6 b hb with h | h
   ·exact hbi h
   ·omega
  have hI10:=yaA hI6 A10.mod (by simpa using hb7)
  refine yyA (y:=x) (f:=sl) hL10 (by omega) (by omega) (fun i hi hi' => ?_) fun a14 c14 w13 hL13 M13 hk13 => ?_
  ·have:=(lkL i hi').2
   simp at hi
   rcases hi with rfl | rfl
   ·exact hbl hi'
   ·omega
  intro w17 A17 h17
  have hb14:b ∉ yaN a14:=fun hb => by
   rcases hk13 b hb with h | h
   ·exact hbl h
   ·omega
  have hI13:=yaA hI10 M13 (ya3 hL10 hI10 (by decide))
  refine ⟨rfl,_,⟨⟨a14,sl.n + 1,c14⟩,⟨a7,si.n + 1,c7⟩,h17,yaA hL13 A17.mod (by simpa using hb14),?_,rfl⟩,?_,fun k hk => ?_⟩
  ·rw [yyB,if_pos g]
   exact yaA hI13 A17.mod (by simpa using hb7)
  ·refine ((((A3.mod.trans M6).trans A10.mod).trans M13).trans A17.mod).less fun k hk _ => ?_
   simp only [List.mem_append,List.nil_append,List.mem_cons,List.not_mem_nil,or_false] at hk ⊢
   rcases hk with ((hk | hk) | hk) | hk <;> simp [hk]
  ·simp only [List.mem_append,List.mem_cons] at hk ⊢
   rcases hk with rfl | hk | hk
   ·exact .inl (.inl rfl)
   ·rcases hk13 k hk with h | h
    ·exact .inl (.inr (.inl h))
    ·exact .inr (by omega)
   ·rcases hk6 k hk with h | h
    ·exact .inl (.inr (.inr h))
    ·exact .inr (by omega)
 ·have g:¬ l.length % 8 = 0:=by
   intro e; rw [e] at g; simp at g
  intro w18 A18
  have s18:=A18.mod.size
  have hL18:=hL.keep0 A18.mod
  have hI18:=hI.keep0 A18.mod
  refine yyA (y:=x) (f:=sl) hL18 (by omega) (by omega) (fun i hi hi' => ?_) fun a22 c22 w21 hL21 M21 hk21 => ?_
  ·have:=(lkL i hi').2
   simp at hi
   rcases hi with rfl | rfl
   ·exact hbl hi'
   ·omega
  intro w25 A25 h25
  have hb22:b ∉ yaN a22:=fun hb => by
   rcases hk21 b hb with h | h
   ·exact hbl h
   ·omega
  have hI21:=yaA hI18 M21 (ya3 hL18 hI18 (by decide))
  refine ⟨rfl,_,⟨⟨a22,sl.n + 1,c22⟩,si,h25,yaA hL21 A25.mod (by simpa using hb22),?_,rfl⟩,?_,fun k hk => ?_⟩
  ·rw [yyB,if_neg g]
   exact yaA hI21 A25.mod (by simpa using hbi)
  ·refine ((A18.mod.trans M21).trans A25.mod).less fun k hk _ => ?_
   simp only [List.mem_append,List.nil_append,List.mem_cons,List.not_mem_nil,or_false] at hk ⊢
   rcases hk with hk | hk <;> simp [hk]
  ·simp only [List.mem_append,List.mem_cons] at hk ⊢
   rcases hk with rfl | hk | hk
   ·exact .inl (.inl rfl)
   ·rcases hk21 k hk with h | h
    ·exact .inl (.inr (.inl h))
    ·exact .inr (by omega)
   ·exact .inl (.inr (.inr hk))
theorem yAe {α:Type} {w w':World} {base T sz:Nat} {enc:α → List Value} {a:Option Addr} {n c:Nat} {l:List α} {S:List Nat} (h:Row w base T sz enc a n c l) (M:Mod S w w') (hS:∀ k ∈ S,∀ cs T',w.heap[k]? = some (.cells cs T') → T' ≠ T):Row w' base T sz enc a n c l :=
 yaA h M fun k hk hk' => by
  obtain ⟨_,_,cur,hc⟩:=yaP h k hk'
  exact hS k hk _ _ hc rfl
theorem yb5.types {w:World} {b:Nat} {base next:Int} {l:List PFound} {F:List Nat} (h:yb5 w b base next l F):∀ k ∈ F,∀ cs T,w.heap[k]? = some (.cells cs T) → T = 168 ∨ T = 76 ∨ T = 3:=by
 obtain ⟨sl,si,hc,hl,hi,rfl⟩:=h
 intro k hk cs T hT
 rcases List.mem_cons.1 hk with rfl | hk
 ·rw [hc] at hT; cases hT; exact .inl rfl
 ·rcases List.mem_append.1 hk with hk | hk
  ·obtain ⟨_,_,cur,h1⟩:=yaP hl k hk
   rw [h1] at hT; cases hT; exact .inr (.inl rfl)
  ·obtain ⟨_,_,cur,h1⟩:=yaP hi k hk
   rw [h1] at hT; cases hT; exact .inr (.inr rfl)
theorem ybG.trans {w w':World} {F F' F'':List Nat} (h:ybG w F F') (h':ybG w' F' F'') (hs:w.heap.size ≤ w'.heap.size):ybG w F F'':=fun k hk => by
 rcases h' k hk with h1 | h1
 ·exact h k h1
 ·exact .inr (by omega)
theorem ybG.refl (w:World) (F:List Nat):ybG w F F:=fun k hk => .inl hk
theorem Mod.grow {w w' w'':World} {F F':List Nat} (M:Mod F w w') (h:ybG w F F') (M':Mod F' w' w''):Mod F w w'' :=
 (M.trans M').less fun k hk hlt => by
  rcases List.mem_append.1 hk with hk | hk
  ·exact hk
  ·rcases h k hk with h1 | h1
   ·exact h1
   ·omega
def yoW (l:List PRec):Int:=match l.find? fun r => decide (yjS r ≠ 0) with
 | none => 0
 | some r => yjS r
theorem yyC {l:List PRec} {k:Nat} {r:PRec} (h:l[k]? = some r) (hr:yjS r ≠ 0) (hb:∀ y ∈ l.take k,yjS y = 0):yoW l = yjS r:=by
 have e:l = l.take k ++ r :: l.drop (k + 1):=by
  obtain ⟨h1,h2⟩:=List.getElem?_eq_some_iff.1 h
  rw [← h2,← List.drop_eq_getElem_cons h1,List.take_append_drop]
 have:l.find? (fun r => decide (yjS r ≠ 0)) = some r:=by
  rw [e,List.find?_append,List.find?_eq_none.2 (by intro y hy; simpa using hb y hy)]
  simp [hr]
 rw [yoW,this]
theorem ys9 {l:List PRec} (hb:∀ y ∈ l,yjS y = 0):yoW l = 0:=by
 have:l.find? (fun r => decide (yjS r ≠ 0)) = none:=List.find?_eq_none.2 (by intro y hy; simpa using hb y hy)
 rw [yoW,this]
theorem yGi {w:World} {a:Option Addr} {n c:Nat} {l:List PRec} (h:ybF w 4 ymJ a n l) (hl:l.length ≤ 1000000) :
  Calls pP 138 #[.slice a n c] w fun e w' => e = .returned (.int .i64 (yoW l)) ∧ Mod [] w w':=by
 have hn:=h.1
 refine ya0 (yKh ?_)
 refine yCz (fun mm x w' => ∃ k:Nat,x = k ∧ k ≤ l.length ∧ (∀ y ∈ l.take k,yjS y = 0) ∧ Mod [] w w' ∧ mm = l.length - k) l.length ⟨0,rfl,by omega,by simp,Mod.refl _,rfl⟩ ?_
 rintro mm x w1 ⟨k,rfl,hk,hb,M1,rfl⟩
 refine yaC (fun hlt => ?_) fun hge => ?_
 ·obtain ⟨r,hr⟩:∃ r,l[k]? = some r:=⟨_,List.getElem?_eq_getElem (by omega)⟩
  refine (h.keep0 M1).ix hr fun q hq => ybI (by simpa [add_zero] using hq 0 _ rfl) (yaL (hq 1 _ rfl) (ybI (hq 2 _ rfl) (yaL (hq 3 _ rfl) ?_)))
  intro b12 f12 w16 A16
  have N16:=M1.go0 A16.mod (by simp)
  refine (yhY r w16).mono ?_
  rintro _ w17 ⟨rfl,M17⟩
  have N17:=N16.go0 M17 (by simp)
  refine ⟨_,rfl,yaF.of0 M17,yaE (fun g => ?_) fun g => ?_⟩
  ·exact ⟨by rw [yyC hr (by simpa using g) hb],N17⟩
  ·refine yCy (l.length - (k + 1)) (by omega) ⟨k + 1,by rw [yaI (by omega) (by omega)]; omega,by omega,?_,N17,rfl⟩
   rw [ybO hr]
   intro y hy
   rcases List.mem_append.1 hy with hy | hy
   ·exact hb y hy
   ·simp at hy; subst hy; simpa using g
 ·have hk:k = l.length:=by omega
  subst hk
  rw [List.take_length] at hb
  exact ⟨by rw [ys9 hb],M1⟩
def ynT:Int → List PRec → List PFound
 | _,[] => []
 | n,r :: rs => ⟨n,r⟩ :: ynT (n + 1) rs
theorem yqD:∀ (n:Int) (l:List PRec) (r:PRec),ynT n (l ++ [r]) = ynT n l ++ [⟨n + l.length,r⟩]
 | n,[],r => by simp [ynT]
 | n,x :: l,r => by
  rw [List.cons_append,ynT,ynT,yqD (n + 1) l r]
  have:n + 1 + (l.length:Int) = n + ((x :: l).length:Int):=by simp; omega
  rw [this]; rfl
theorem yqE:∀ (n:Int) (l:List PRec),(ynT n l).length = l.length
 | _,[] => rfl
 | n,_ :: l => by simp [ynT,yqE (n + 1) l]
def yBJ (next:Int) (l:List PFound) (rs:List PRec):Int:=if yoW rs ≠ 0 then yoW rs else if l.length + rs.length > 64 ∨ next + rs.length > 1099511627776 then 50 else 0
set_option maxHeartbeats 1000000 in
theorem ytA {w:World} {b:Nat} {base next:Int} {l:List PFound} {F:List Nat} (h:yb5 w b base next l F) {a:Option Addr} {n c:Nat} {rs:List PRec} (hr:∀ w',Mod F w w' → ybF w' 4 ymJ a n rs) (hrl:rs.length ≤ 1000000) (hl:l.length ≤ 64) (h0:0 ≤ next) (h1:next ≤ 1099511627776) :
  Calls pP 96 #[.pointer (some ⟨b,0,none⟩),.slice a n c] w fun e w' => e = .returned (.tuple #[.int .i64 (if yBJ next l rs = 0 then next else 0),.int .i64 (yBJ next l rs)]) ∧
   if yBJ next l rs = 0 then ∃ F',yb5 w' b base (next + rs.length) (l ++ ynT next rs) F' ∧ Mod F w w' ∧ ybG w F F' else Mod [] w w' ∧ yb5 w' b base next l F:=by
 obtain ⟨sl,si,hc,hL,hI,hF⟩:=id h
 have hr0:=hr w ((Mod.refl w).less (by simp))
 have hn:=hr0.1
 have hLn:=hL.1
 refine ya0 (yKj hc ?_)
 refine (yGi hr0 hrl).mono ?_
 rintro _ w3 ⟨rfl,M3⟩
 have h3:=h.keep0 M3
 refine ⟨_,rfl,yaF.of0 M3,yaE (fun g => ?_) fun g => ?_⟩
 ·have g:yoW rs ≠ 0:=by simpa using g
  have e:yBJ next l rs = yoW rs:=by rw [yBJ,if_pos g]
  intro w5 A5 _
  rw [e,if_neg g,if_neg g]
  exact ⟨rfl,M3.go0 A5.mod (by simp),h3.keep0 A5.mod⟩
 have g:yoW rs = 0:=by simpa using g
 have e1:IntKind.wrap .i64 ((sl.n:Int) + (n:Int)) = (l.length:Int) + rs.length:=by rw [yaI (by omega) (by omega)]; omega
 have e2:IntKind.wrap .i64 (next + (n:Int)) = next + rs.length:=by rw [yaI (by omega) (by omega)]; omega
 rw [e1,e2]
 have bad:l.length + rs.length > 64 ∨ next + rs.length > 1099511627776 → yBJ next l rs = 50:=fun hg => by rw [yBJ,if_neg (by simpa using g),if_pos hg]
 refine yaC (fun g1 => ?_) fun g1 => ?_
 ·refine yaC (fun _ => ?_) fun g2 => by omega
  intro w5 A5 _
  rw [bad (.inl (by omega)),if_neg (by decide),if_neg (by decide)]
  exact ⟨rfl,M3.go0 A5.mod (by simp),h3.keep0 A5.mod⟩
 refine yaC (fun g2 => ?_) fun g2 => ?_
 ·intro w5 A5 _
  rw [bad (.inr (by omega)),if_neg (by decide),if_neg (by decide)]
  exact ⟨rfl,M3.go0 A5.mod (by simp),h3.keep0 A5.mod⟩
 have good:yBJ next l rs = 0:=by rw [yBJ,if_neg (by simpa using g),if_neg (by omega)]
 simp only [good,↓reduceIte]
 intro w5 A5 hc5
 have h5:=h3.keep0 A5.mod
 have K5:Mod [] w w5:=M3.go0 A5.mod (by simp)
 refine yCB (fun mm x x0 x1 a2 n2 c2 a3 n3 c3 w' => ∃ (k:Nat) (F':List Nat),x = k ∧ k ≤ rs.length ∧ x0 = base ∧ x1 = next + k ∧ w'.heap[b]? = some (.cells #[.int .i64 x0,.int .i64 x1,.slice a2 n2 c2,.slice a3 n3 c3] 168) ∧ yb5 w' b base (next + k) (l ++ ynT next (rs.take k)) F' ∧ Mod F w w' ∧ ybG w F F' ∧ mm = rs.length - k) rs.length
  ⟨0,F,rfl,by omega,rfl,by omega,hc5,by simpa [ynT] using h5,K5.less (by simp),ybG.refl _ _,rfl⟩ ?_
 rintro mm x x0 x1 a2 n2 c2 a3 n3 c3 w1 ⟨k,F1,rfl,hk,rfl,rfl,hc1,hS1,M1,G1,rfl⟩
 intro _
 have s1:=M1.size
 refine yaC (fun hlt => ?_) fun hge => ?_
 ·obtain ⟨r,hrk⟩:∃ r,rs[k]? = some r:=⟨_,List.getElem?_eq_getElem (by omega)⟩
  have hcur:(l ++ ynT next (rs.take k)).length ≤ 1000:=by rw [List.length_append,yqE,List.length_take]; omega
  refine (hr w1 M1).ix hrk fun q hq => ybI (by simpa [add_zero] using hq 0 _ rfl) (yaL (hq 1 _ rfl) (ybI (hq 2 _ rfl) (yaL (hq 3 _ rfl) ?_)))
  intro b18 f18 w19 A19 _
  have hS19:=hS1.keep0 A19.mod
  have l18:=A19.lt b18 (by simp)
  refine (ymS hS19 ⟨next + k,r⟩ hcur).mono ?_
  rintro _ w20 ⟨rfl,F2,hS20,M20,G20⟩
  have ltF:=hS1.lt
  refine ⟨rfl,yaF.of M20 (fun i hi _ hc => by simp at hi; subst hi; have:=ltF i hc; omega),?_⟩
  obtain ⟨sl',si',hc20,hL20,hI20,hF2⟩:=hS20
  refine ⟨_,_,_,_,_,_,_,_,hc20,?_⟩
  have e3:IntKind.wrap .i64 (next + (k:Int) + 1) = next + ((k + 1:Nat):Int):=by rw [yaI (by omega) (by omega)]; omega
  rw [e3]
  intro w29 A29 h29
  have tl:(rs.take k).length = k:=by rw [List.length_take]; omega
  have hb20l:=yc5 hL20 hc20 (by decide)
  have hb20i:=yc5 hI20 hc20 (by decide)
  have hS29:yb5 w29 b x0 (next + ((k + 1:Nat):Int)) (l ++ ynT next (rs.take (k + 1))) F2:=by
   refine ⟨sl',si',h29,?_,?_,hF2⟩
   ·rw [ybO hrk,yqD,tl,← List.append_assoc]
    exact yaA hL20 A29.mod (by simpa using hb20l)
   ·rw [ybO hrk,yqD,tl,← List.append_assoc]
    exact yaA hI20 A29.mod (by simpa using hb20i)
  have hbF:b ∈ F:=h.self
  have M19:Mod F w w19:=(M1.trans A19.mod).less fun z hz _ => by simpa using hz
  have s19:=M19.size
  have G2:ybG w F F2:=G1.trans G20 (by omega)
  have M20':Mod F w w20:=M19.grow G1 M20
  have M29:Mod F w w29:=(M20'.trans A29.mod).less fun z hz _ => by
   simp at hz
   rcases hz with hz | rfl
   ·exact hz
   ·exact hbF
  exact yCA (rs.length - (k + 1)) (by omega) ⟨k + 1,F2,by rw [yaI (by omega) (by omega)]; omega,by omega,rfl,rfl,h29,hS29,M29,G2,rfl⟩
 ·have hk:k = rs.length:=by omega
  subst hk
  rw [List.take_length] at hS1
  exact ⟨rfl,F1,hS1,M1,G1⟩
theorem yHN {i j:Nat} (hi:i ≤ 1000000) (hj:j ≤ 1000000):IntKind.wrap .i64 (Int.fdiv (IntKind.wrap .u64 (IntKind.wrap .i64 ((i:Int) + (j:Int)))) (2 ^ (min (Int.toNat 1) 64))) = (((i + j) / 2:Nat):Int):=by
 have e2:(2:Int) ^ (min (Int.toNat 1) 64) = 2:=by decide
 rw [e2,yaI (x:=(i:Int) + (j:Int)) (by omega) (by omega),IntKind.wrap_u64,Int.fdiv_eq_ediv_of_nonneg _ (by decide),yaI (by omega) (by omega)]
 omega
def yiY (l:List PFound) (from_:Int):Nat:=(l.takeWhile fun f => decide (f.off < from_)).length
theorem yFk (l:List PFound) (from_:Int):yiY l from_ ≤ l.length:=by
 unfold yiY
 exact (List.takeWhile_sublist _).length_le
theorem yCL {l:List PFound} {from_:Int} {i:Nat} (hi:i ≤ l.length) (hb:∀ y ∈ l.take i,y.off < from_) (he:∀ x,l[i]? = some x → ¬ x.off < from_):yiY l from_ = i:=by
 have e:l.takeWhile (fun f => decide (f.off < from_)) = l.take i ++ (l.drop i).takeWhile fun f => decide (f.off < from_):=by
  have h:=List.takeWhile_append_of_pos (p:=fun f:PFound => decide (f.off < from_)) (l₁:=l.take i) (l₂:=l.drop i) (fun a ha => decide_eq_true (hb a ha))
  rwa [List.take_append_drop] at h
 have e2:(l.drop i).takeWhile (fun f => decide (f.off < from_)) = []:=by
  cases hx:l[i]? with
  | none =>
   have:l.length ≤ i:=List.getElem?_eq_none_iff.1 hx
   rw [List.drop_of_length_le this]; rfl
  | some x =>
   obtain ⟨h1,h2⟩:=List.getElem?_eq_some_iff.1 hx
   rw [List.drop_eq_getElem_cons h1,h2,List.takeWhile_cons_of_neg (by simpa using he x hx)]
 rw [yiY,e,e2,List.append_nil,List.length_take]
 omega
theorem yKx {w:World} {b b3 b4:Nat} {base next from_:Int} {l:List PFound} {sl si:Sl} (hc:w.heap[b]? = some (.cells #[.int .i64 base,.int .i64 next,.slice sl.a sl.n sl.c,.slice si.a si.n si.c] 168)) (hI:Row w 0 3 1 ycO si.a si.n si.c (yoV l))
  {T3 T4:TypeId} (h3:w.heap[b3]? = some (.cells #[.pointer (some ⟨b,0,none⟩)] T3)) (h4:w.heap[b4]? = some (.cells #[.int .i64 from_] T4)) {i:Nat} {x:Int} (hx:(yoV l)[i]? = some x) :
  Calls pP 165 #[.int .i64 (i:Int),.pointer (some ⟨b3,0,none⟩),.pointer (some ⟨b4,0,none⟩)] w fun e w' => e = .returned (.bool (decide (x > from_))) ∧ Mod [] w w':=by
 refine ya0 (yKn ?_)
 refine ydA (x:=some ⟨b,0,none⟩) (by rw [yaM h3]; rfl) (ya6 ?_)
 refine yaU (x:=si.a) (n:=si.n) (c:=si.c) (by rw [ycC,yaM hc]; rfl) ?_
 refine (hI.sl yb4).ix hx fun q hq => yaK (x:=x) (by simpa [add_zero] using hq 0 _ rfl) ?_
 refine yaK (x:=from_) (by rw [yaM h4]; rfl) ?_
 intro w9 A9
 exact ⟨rfl,A9.mod⟩
theorem yCM {w:World} {b b3 b4:Nat} {base next from_:Int} {l:List PFound} {sl si:Sl} (hl:l.length ≤ 1000) (hc:w.heap[b]? = some (.cells #[.int .i64 base,.int .i64 next,.slice sl.a sl.n sl.c,.slice si.a si.n si.c] 168)) (hI:Row w 0 3 1 ycO si.a si.n si.c (yoV l))
  {T3 T4:TypeId} (h3:w.heap[b3]? = some (.cells #[.pointer (some ⟨b,0,none⟩)] T3)) (h4:w.heap[b4]? = some (.cells #[.int .i64 from_] T4)) :
  Calls pP 164 #[.int .i64 (si.n:Int),.func (.func 165) #[] #[.pointer (some ⟨b3,0,none⟩),.pointer (some ⟨b4,0,none⟩)]] w fun e w' => ∃ v,e = .returned v ∧ ∃ r:Nat,v = .int .i64 (r:Int) ∧ r ≤ (yoV l).length ∧ (r = 0 ∨ ∃ x,(yoV l)[r - 1]? = some x ∧ x ≤ from_) ∧ Mod [] w w':=by
 have hn:=hI.1
 have hil:(yoV l).length ≤ 1000:=by rw [yqC]; omega
 refine yKq ?_
 refine yCF (fun mm x5 x6 w' => ∃ i j:Nat,x5 = i ∧ x6 = j ∧ i ≤ j ∧ j ≤ (yoV l).length ∧ (i = 0 ∨ ∃ x,(yoV l)[i - 1]? = some x ∧ x ≤ from_) ∧ Mod [] w w' ∧ mm = j - i) si.n ⟨0,si.n,rfl,rfl,by omega,by omega,.inl rfl,Mod.refl _,rfl⟩ ?_
 rintro mm x5 x6 w1 ⟨i,j,rfl,rfl,hij,hj,hi,M1,rfl⟩
 refine yaC (fun hlt => ?_) fun hge => ?_
 ·rw [yHN (by omega) (by omega)]
  generalize hh:(i + j) / 2 = h
  obtain ⟨x,hx⟩:∃ x,(yoV l)[h]? = some x:=⟨_,List.getElem?_eq_getElem (by omega)⟩
  refine ⟨by decide,(yKx (M1.keep0 hc) (hI.keep0 M1) (M1.keep0 h3) (M1.keep0 h4) hx).mono ?_⟩
  rintro _ w2 ⟨rfl,M2⟩
  have N2:=M1.go0 M2 (by simp)
  refine ⟨_,rfl,yaE (fun g => ?_) fun g => ?_⟩
  ·have g:¬ x > from_:=by simpa using g
   exact ys6 (j - (h + 1)) (by omega) ⟨h + 1,j,by rw [yaI (by omega) (by omega)]; omega,rfl,by omega,hj,.inr ⟨x,by simpa using hx,by omega⟩,N2,rfl⟩
  ·exact ys6 (h - i) (by omega) ⟨i,h,rfl,rfl,by omega,by omega,hi,N2,rfl⟩
 ·have:i = j:=by omega
  subst this
  exact ⟨i,rfl,hj,hi,M1⟩
set_option maxHeartbeats 1000000 in
theorem yHO {w:World} {b:Nat} {base next:Int} {l:List PFound} {F:List Nat} (h:yb5 w b base next l F) (hl:l.length ≤ 1000) (hs:l.Pairwise fun a b => a.off < b.off) (from_:Int) :
  Calls pP 140 #[.pointer (some ⟨b,0,none⟩),.int .i64 from_] w fun e w' => e = .returned (.int .i64 (yiY l from_:Nat)) ∧ Mod [] w w':=by
 obtain ⟨sl,si,hc,hL,hI,hF⟩:=h
 have hLn:=hL.1
 refine ya0 (yKm hc ?_)
 intro b3 f3 b4 f4 w22 A22 h22
 refine yaU (x:=si.a) (n:=si.n) (c:=si.c) (by rw [yaM h22]; rfl) ?_
 intro w26 A26 h26 h3 h4
 have K26:Mod [] w w26:=A22.mod.go0 A26.mod (by simp)
 refine (yCM (from_:=from_) hl h26 (hI.keep0 K26) h3 h4).mono ?_
 rintro _ w27 ⟨_,rfl,r,rfl,hr,hri,M27⟩
 have K27:=K26.go0 M27 (by simp)
 refine ⟨_,rfl,_,_,_,_,_,_,_,_,M27.keep0 h26,_,M27.keep0 h3,_,M27.keep0 h4,?_⟩
 rw [yqC] at hr
 have ei:IntKind.wrap .i64 ((if 0 > (IntKind.wrap .i64 ((r:Int) - 1)) then 0 else (IntKind.wrap .i64 ((r:Int) - 1))) * 8) = ((8 * (r - 1):Nat):Int):=by
  rw [yaI (x:=(r:Int) - 1) (by omega) (by omega)]
  split
  ·rw [yaI (by omega) (by omega)]; omega
  ·rw [yaI (by omega) (by omega)]; omega
 rw [ei]
 have h0:∀ y ∈ l.take (8 * (r - 1)),y.off < from_:=fun y hy => by
  rcases hri with rfl | ⟨x,hx,hxf⟩
  ·simp at hy
  ·obtain ⟨j,hj⟩:=List.mem_iff_getElem?.1 hy
   rw [List.getElem?_take] at hj
   split at hj
   ·rename_i hjr
    have hlt:8 * (r - 1) < l.length:=by omega
    have hx2:=yFj (k:=r - 1) (List.getElem?_eq_getElem hlt)
    rw [hx] at hx2
    cases hx2
    obtain ⟨hj1,hj2⟩:=List.getElem?_eq_some_iff.1 hj
    have:=List.pairwise_iff_getElem.1 hs j (8 * (r - 1)) hj1 hlt hjr
    rw [hj2] at this
    omega
   ·cases hj
 refine yCD (fun mm x w' => ∃ i:Nat,x = i ∧ i ≤ l.length ∧ (∀ y ∈ l.take i,y.off < from_) ∧ Mod [] w w' ∧ mm = l.length - i) (l.length - 8 * (r - 1)) ⟨_,rfl,by omega,h0,K27,rfl⟩ ?_
 rintro mm x w1 ⟨i,rfl,hi,hb,M1,rfl⟩
 intro hc1 h31 h41
 refine ya6 ?_
 refine yaU (x:=sl.a) (n:=sl.n) (c:=sl.c) (by rw [ycC,yaM hc1]; rfl) ?_
 refine yaC (fun hlt => ?_) fun hge => ?_
 ·refine ya6 ?_
  refine yaU (x:=sl.a) (n:=sl.n) (c:=sl.c) (by rw [ycC,yaM hc1]; rfl) ?_
  obtain ⟨x,hx⟩:∃ x,l[i]? = some x:=⟨_,List.getElem?_eq_getElem (by omega)⟩
  refine ((hL.keep0 M1).sl yd1).ix hx fun q hq => yaK (x:=x.off) (by simpa [add_zero] using hq 0 _ rfl) ?_
  refine yaC (fun g => ?_) fun g => ?_
  ·intro w49 A49 _ _ _
   refine yCC (l.length - (i + 1)) (by omega) ⟨i + 1,by rw [yaI (by omega) (by omega)]; omega,by omega,?_,M1.go0 A49.mod (by simp),rfl⟩
   rw [ybO hx]
   intro y hy
   rcases List.mem_append.1 hy with hy | hy
   ·exact hb y hy
   ·simp at hy; subst hy; exact g
  ·intro w50 A50 _ _ _
   refine ⟨?_,M1.go0 A50.mod (by simp)⟩
   rw [yCL hi hb fun y hy => by rw [hx] at hy; cases hy; exact g]
 ·intro w51 A51 _ _ _
  refine ⟨?_,M1.go0 A51.mod (by simp)⟩
  rw [yCL hi hb fun y hy => by have:=(List.getElem?_eq_some_iff.1 hy).1; omega]
theorem ytB {α:Type} {w:World} {sz:Nat} {enc:α → List Value} {a:Option Addr} {n c:Nat} {l:List α} {k:Nat} {F:Option Addr → Nat → Nat → Prop} (h:ybF w sz enc a n l) (hk:k ≤ n) (hc:n ≤ c) (hF:∀ a' c',n - k ≤ c' → ybF w sz enc a' (n - k) (l.drop k) → F a' (n - k) c'):slV a c (k:Int) ((n:Nat):Int) (c:Int) sz F:=by
 obtain ⟨h1,h2,h3,h4,h5⟩:=yxU (F:=fun a' m c' => m ≤ c' → F a' m c') h hk hc fun a' c' hs hb => hF a' c' hb hs
 exact ⟨h1,h2,h3,h4,h5 (by omega)⟩
def yAf (l:List PFound) (from_ n:Int):List PFound:=(l.drop (yiY l from_)).take n.toNat
set_option maxHeartbeats 1000000 in
theorem yAg {w:World} {b:Nat} {base next:Int} {l:List PFound} {F:List Nat} (h:yb5 w b base next l F) (hl:l.length ≤ 1000) (hs:l.Pairwise fun a b => a.off < b.off) (from_ n:Int) :
  Calls pP 100 #[.pointer (some ⟨b,0,none⟩),.int .i64 from_,.int .i64 n] w fun e w' => ∃ v,e = .returned v ∧ ∃ s':Sl,v = .slice s'.a s'.n s'.c ∧ Row w' w.heap.size 76 5 yjH s'.a s'.n s'.c (yAf l from_ n) ∧ Mod [] w w':=by
 obtain ⟨sl,si,hc,hL,hI,hF⟩:=id h
 have hLn:=hL.1
 have hLc:sl.n ≤ sl.c:=hL.cap
 refine yKr hc ?_
 intro w1 A1 h1
 refine (yHO (h.keep0 A1.mod) hl hs from_).mono ?_
 rintro _ w2 ⟨rfl,M2⟩
 have K2:=A1.mod.go0 M2 (by simp)
 have hk:=yFk l from_
 refine ⟨_,rfl,_,_,_,_,_,_,_,_,M2.keep0 h1,rfl,?_⟩
 have hS2:=(hL.keep0 K2).sl yd1
 refine ytB hS2 (by omega) hLc fun a' c' hcb hs' => ?_
 have em:(if (if ((sl.n - yiY l from_:Nat):Int) < n then ((sl.n - yiY l from_:Nat):Int) else n) > 0 then (if ((sl.n - yiY l from_:Nat):Int) < n then ((sl.n - yiY l from_:Nat):Int) else n) else 0) = ((min n.toNat (sl.n - yiY l from_):Nat):Int):=by
  split <;> split <;> omega
 rw [em]
 refine yp6 hs' (by omega) hcb fun a2 c2 hs2 => ?_
 have ed:(l.drop (yiY l from_)).take (min n.toNat (sl.n - yiY l from_)) = yAf l from_ n:=by
  unfold yAf
  rw [List.take_eq_take_iff]
  rw [List.length_drop]; omega
 rw [ed] at hs2
 refine (ys0 (s:=⟨a2,min n.toNat (sl.n - yiY l from_),c2⟩) hs2 (by rw [← ed,List.length_take,List.length_drop]; omega)).mono ?_
 rintro _ w33 ⟨_,rfl,s',rfl,hR,M33⟩
 refine ⟨_,_,_,rfl,_,_,_,_,_,_,_,_,M33.keep0 (M2.keep0 h1),s',rfl,hR.rebase K2.size,K2.go0 M33 (by simp)⟩
end Go.Proofs.YteldhjiiocmicaaGreat
namespace Go.Proofs.YteldhjiiocmicaaGreat
open Go Go.RowKit Go.Maps Go.MapKept
set_option linter.unusedVariables false
set_option linter.unusedSimpArgs false
section
variable {κ β:Type} [DecidableEq κ] {P:Program} {t T e:TypeId} {ek:κ → Value} {ev:β → Value} {w:World} {b:Nat} {L:List (κ × β)} {k:κ} {l:Lit}
theorem yaS.keepM {w':World} {S:List Nat} (h:yaS P t ek ev w b L) (M:Mod S w w') (hb:b ∉ S):yaS P t ek ev w' b L:=h.of_block (M.block _ h.lt hb)
theorem yaS.keepM0 {w':World} (h:yaS P t ek ev w b L) (M:Mod [] w w'):yaS P t ek ev w' b L:=h.keepM M (by simp)
theorem yaS.setU (h:yaS P t ek ev w b L) (K:Keyed P t) (hi:∀ a b,ek a = ek b → a = b) (ht:P.underlying T = some (.map t e)) (v:β) (hk:keyOf P t (ek k) = some l) {es bs:List Nat} {ts:List (Nat × TypeId)} {F:World → Prop} (hbs:b ∉ bs)
  (hF:∀ w',yaS P t ek ev w' b (put L k v) → Mod [b] w w' → F w'):ydM P (Instr.mapUpdate T (.map (some b)) (ek k) (ev v)) w fun w' => yaV es ts bs w w' ∧ F w':=by
 obtain ⟨o,ho1,ho2⟩:=h.update K hi ht v hk
 exact ⟨_,ho1,yaF.of yeK (fun b' hb _ hc => hbs (by simp at hc; subst hc; exact hb)),hF _ ho2 yeK⟩
theorem yaS.lkT (h:yaS P t ek ev w b L) (K:Keyed P t) (hi:∀ a b,ek a = ek b → a = b) (ht:P.underlying T = some (.map t e)) {d:β} (hz:∀ w',(zeroValue e).run P w' = .ok (ev d) w') (hk:keyOf P t (ek k) = some l) :
  ∀ w',Mod [] w w' → (Instr.lookup T (.map (some b)) (ek k) true).run P w' = .ok (.tuple #[ev ((lkp L k).getD d),.bool (lkp L k).isSome]) w':=fun w' M => by
 have:=(h.keepM0 M).look (T:=T) true K hi ht (hz w') hk
 have e:(lkp L k).elim (ev d) ev = ev ((lkp L k).getD d):=by cases lkp L k <;> rfl
 rw [e] at this
 exact this
theorem yaS.lkF (h:yaS P t ek ev w b L) (K:Keyed P t) (hi:∀ a b,ek a = ek b → a = b) (ht:P.underlying T = some (.map t e)) {d:β} (hz:∀ w',(zeroValue e).run P w' = .ok (ev d) w') (hk:keyOf P t (ek k) = some l) :
  ∀ w',Mod [] w w' → (Instr.lookup T (.map (some b)) (ek k) false).run P w' = .ok (ev ((lkp L k).getD d)) w':=fun w' M => by
 have:=(h.keepM0 M).look (T:=T) false K hi ht (hz w') hk
 have e:(lkp L k).elim (ev d) ev = ev ((lkp L k).getD d):=by cases lkp L k <;> rfl
 rw [e] at this
 exact this
theorem yaS.lkP (h:yaS P t ek ev w b L) (K:Keyed P t) (hi:∀ a b,ek a = ek b → a = b) (ht:P.underlying T = some (.map t e)) {z:Value} (hz:∀ w',(zeroValue e).run P w' = .ok z w') (hk:keyOf P t (ek k) = some l) :
  ∀ w',Mod [] w w' → (Instr.lookup T (.map (some b)) (ek k) false).run P w' = .ok ((lkp L k).elim z ev) w':=fun w' M => by
 have:=(h.keepM0 M).look (T:=T) false K hi ht (hz w') hk
 exact this
end
abbrev hkb:Bool → Value:=fun t => .bool t
abbrev hks:ByteArray → Value:=fun s => .string s
theorem ybH:∀ a b:ByteArray,hks a = hks b → a = b:=by intro a b h; simpa [hks] using h
theorem ydT:Keyed pP 9:=string_keyed Tryz.underlying9
theorem ybK {s:ByteArray} (h:s.size ≤ maxLen):keyOf pP 9 (hks s) = some (.string s.data.toList):=Go.WideMaps.keyOf_string_mk Tryz.underlying9 h
abbrev hkp:PPart → Value:=fun p => .agg #[.string p.t,.int .i64 p.n]
theorem yjV:∀ a b:PPart,hkp a = hkp b → a = b:=by rintro ⟨a,b⟩ ⟨c,d⟩ h; simp [hkp] at h; simp [h]
theorem yAh:Keyed pP 33 :=
 Keyed.of_law (deep_law_laid (by kernel_rfl) (m:=2) (by omega) (of_decide_eq_true (by kernel_rfl)) (by kernel_rfl) (by rw [Tryz.underlying33]))
set_option maxRecDepth 100000 in
theorem yvX {p:PPart} (h1:p.t.size ≤ maxLen) (h2:s64 p.n):∃ l,keyOf pP 33 (hkp p) = some l:=by
 obtain ⟨a,b⟩:=p
 have hk:Tryz.prog.keyType 33 = true:=by kernel_rfl
 have hc:Tryz.prog.cellsOf 33 = 2:=by kernel_rfl
 have hc1:Tryz.prog.cellsOf 3 = 1:=by kernel_rfl
 have hc2:Tryz.prog.cellsOf 9 = 1:=by kernel_rfl
 have hf:(hkp ⟨a,b⟩).formed pP 33 = true:=by simp [Value.formed,Tryz.underlying33,hc,hkp]
 obtain ⟨s,hs⟩:∃ s,Tryz.prog.types.size = s + 1:=⟨Tryz.prog.types.size - 1,(Nat.succ_pred_eq_of_pos (of_decide_eq_true (by kernel_rfl))).symm⟩
 have hl:∃ l,Tryz.prog.keyLits (Tryz.prog.types.size + 1) 33 (hkp ⟨a,b⟩).cells.toList = some l:=by
  rw [hs]
  simp [Program.keyLits,Tryz.underlying33,Tryz.underlying3,Tryz.underlying9,hc,hc1,hc2,hkp,Value.cells,List.range,List.range.loop,hfr h2,show a.size ≤ maxLen from h1]
 obtain ⟨l,hl⟩:=hl
 exact ⟨.string (keyBytes l),by unfold keyOf; simp only [Tryz.underlying33,hk,hf,Bool.and_self,if_true,hl,Option.map_some]⟩
abbrev hko:ByteArray × PPart → Value:=fun k => .agg #[.string k.1,.string k.2.t,.int .i64 k.2.n]
theorem yh0:∀ a b:ByteArray × PPart,hko a = hko b → a = b:=by rintro ⟨x,a,b⟩ ⟨y,c,d⟩ h; simp [hko] at h; simp [h]
theorem yCN:Keyed pP 204 :=
 Keyed.of_law (deep_law_laid (by kernel_rfl) (m:=3) (by omega) (of_decide_eq_true (by kernel_rfl)) (by kernel_rfl) (by rw [Tryz.underlying204]))
set_option maxRecDepth 100000 in
theorem yvY {k:ByteArray × PPart} (h0:k.1.size ≤ maxLen) (h1:k.2.t.size ≤ maxLen) (h2:s64 k.2.n):∃ l,keyOf pP 204 (hko k) = some l:=by
 obtain ⟨g,a,b⟩:=k
 have hk:Tryz.prog.keyType 204 = true:=by kernel_rfl
 have hc:Tryz.prog.cellsOf 204 = 3:=by kernel_rfl
 have hc1:Tryz.prog.cellsOf 3 = 1:=by kernel_rfl
 have hc2:Tryz.prog.cellsOf 9 = 1:=by kernel_rfl
 have hc3:Tryz.prog.cellsOf 33 = 2:=by kernel_rfl
 have hf:(hko ⟨g,a,b⟩).formed pP 204 = true:=by simp [Value.formed,Tryz.underlying204,hc,hko]
 obtain ⟨s,hs⟩:∃ s,Tryz.prog.types.size = s + 2:=⟨Tryz.prog.types.size - 2,(Nat.sub_add_cancel (of_decide_eq_true (by kernel_rfl))).symm⟩
 have hl:∃ l,Tryz.prog.keyLits (Tryz.prog.types.size + 1) 204 (hko ⟨g,a,b⟩).cells.toList = some l:=by
  rw [hs]
  simp [Program.keyLits,Tryz.underlying204,Tryz.underlying33,Tryz.underlying3,Tryz.underlying9,hc,hc1,hc2,hc3,hko,Value.cells,List.range,List.range.loop,hfr h2,show g.size ≤ maxLen from h0,show a.size ≤ maxLen from h1]
  rw [if_pos (by intro i hi; match i,hi with | 0,_ => simp | 1,_ => simp)]
  simp
 obtain ⟨l,hl⟩:=hl
 exact ⟨.string (keyBytes l),by unfold keyOf; simp only [Tryz.underlying204,hk,hf,Bool.and_self,if_true,hl,Option.map_some]⟩
abbrev hkd:Int × PPart → Value:=fun k => .agg #[.int .i64 k.1,.string k.2.t,.int .i64 k.2.n]
theorem yh1:∀ a b:Int × PPart,hkd a = hkd b → a = b:=by rintro ⟨x,a,b⟩ ⟨y,c,d⟩ h; simp [hkd] at h; simp [h]
theorem yCO:Keyed pP 187 :=
 Keyed.of_law (deep_law_laid (by kernel_rfl) (m:=3) (by omega) (of_decide_eq_true (by kernel_rfl)) (by kernel_rfl) (by rw [Tryz.underlying187]))
set_option maxRecDepth 100000 in
theorem yvZ {k:Int × PPart} (h0:s64 k.1) (h1:k.2.t.size ≤ maxLen) (h2:s64 k.2.n):∃ l,keyOf pP 187 (hkd k) = some l:=by
 obtain ⟨g,a,b⟩:=k
 have hk:Tryz.prog.keyType 187 = true:=by kernel_rfl
 have hc:Tryz.prog.cellsOf 187 = 3:=by kernel_rfl
 have hc1:Tryz.prog.cellsOf 3 = 1:=by kernel_rfl
 have hc2:Tryz.prog.cellsOf 9 = 1:=by kernel_rfl
 have hc3:Tryz.prog.cellsOf 33 = 2:=by kernel_rfl
 have hf:(hkd ⟨g,a,b⟩).formed pP 187 = true:=by simp [Value.formed,Tryz.underlying187,hc,hkd]
 obtain ⟨s,hs⟩:∃ s,Tryz.prog.types.size = s + 2:=⟨Tryz.prog.types.size - 2,(Nat.sub_add_cancel (of_decide_eq_true (by kernel_rfl))).symm⟩
 have hl:∃ l,Tryz.prog.keyLits (Tryz.prog.types.size + 1) 187 (hkd ⟨g,a,b⟩).cells.toList = some l:=by
  rw [hs]
  simp [Program.keyLits,Tryz.underlying187,Tryz.underlying33,Tryz.underlying3,Tryz.underlying9,hc,hc1,hc2,hc3,hkd,Value.cells,List.range,List.range.loop,hfr h2,hfr h0,show a.size ≤ maxLen from h1]
  rw [if_pos (by intro i hi; match i,hi with | 0,_ => simp | 1,_ => simp)]
  simp
 obtain ⟨l,hl⟩:=hl
 exact ⟨.string (keyBytes l),by unfold keyOf; simp only [Tryz.underlying187,hk,hf,Bool.and_self,if_true,hl,Option.map_some]⟩
end Go.Proofs.YteldhjiiocmicaaGreat
namespace Go.Proofs.YteldhjiiocmicaaGreat
open Go Go.RowKit Go.Maps Go.MapKept
set_option linter.unusedVariables false
set_option linter.unusedSimpArgs false
def ygC (n:Int):Prop:=0 ≤ n ∧ n ≤ 1099511627776
instance (n:Int):Decidable (ygC n):=by unfold ygC; infer_instance
theorem ymT (n:Int) (w:World):Calls pP 78 #[.int .i64 n] w fun e w' => e = .returned (.bool (decide (ygC n))) ∧ w' = w:=by
 refine ya0 (yJ2 ?_)
 refine yaC (fun g => ⟨congrArg Value.bool ?_,rfl⟩) fun g => ⟨congrArg Value.bool (decide_eq_false (by unfold ygC; omega)).symm,rfl⟩
 exact decide_eq_decide.2 ⟨fun h => ⟨by omega,h⟩,fun h => h.2⟩
theorem ytC (base:Int) (w:World):Calls pP 35 #[.int .i64 base] w fun e w' => ∃ v,e = .returned v ∧ Mod [] w w' ∧
  if ygC base then ∃ b F,v = .tuple #[.pointer (some ⟨b,0,none⟩),.int .i64 0] ∧ yb5 w' b base base [] F ∧ (∀ k ∈ F,w.heap.size ≤ k) else v = .tuple #[.pointer none,.int .i64 1]:=by
 refine yJ3 ?_
 refine (ymT base w).mono ?_
 rintro _ w1 ⟨rfl,rfl⟩
 refine ⟨_,rfl,?_⟩
 by_cases g:ygC base
 ·refine brF (by simp [g]) ?_
  intro b6 f6 w7 A7 h7
  refine ⟨A7.mod,?_⟩
  rw [if_pos g]
  exact ⟨b6,_,rfl,⟨ya8,ya8,h7,Row.nil ..,Row.nil ..,rfl⟩,by simp [ya8,yaN]; omega⟩
 ·refine brT (by simp [g]) ⟨Mod.refl _,?_⟩
  rw [if_neg g]
theorem yfN {w:World} {b:Nat} {base next:Int} {l:List PFound} {F:List Nat} (h:yb5 w b base next l F) :
  Calls pP 99 #[.pointer (some ⟨b,0,none⟩)] w fun e w' => e = .returned (.tuple #[.int .i64 base,.int .i64 next]) ∧ Mod [] w w':=by
 obtain ⟨sl,si,hc,hL,hI,hF⟩:=h
 refine ya0 (yKt hc ?_)
 intro w1 A1 h1
 exact ⟨rfl,A1.mod⟩
theorem yCP {w:World} {b:Nat} {base next:Int} {l:List PFound} {F:List Nat} (h:yb5 w b base next l F) :
  Calls pP 95 #[.pointer (some ⟨b,0,none⟩)] w fun e w' => e = .returned (.int .i64 (l.length:Nat)) ∧ Mod [] w w':=by
 obtain ⟨sl,si,hc,hL,hI,hF⟩:=h
 refine ya0 (yKu hc ?_)
 intro w1 A1 h1
 exact ⟨by rw [hL.1],A1.mod⟩
theorem ytD {w:World} {b:Nat} {base next:Int} {l:List PFound} {F:List Nat} (h:yb5 w b base next l F) (hl:l.length ≤ 1000000) :
  Calls pP 104 #[.pointer (some ⟨b,0,none⟩)] w fun e w' => ∃ v,e = .returned v ∧ ∃ s':Sl,v = .slice s'.a s'.n s'.c ∧ Row w' w.heap.size 76 5 yjH s'.a s'.n s'.c l ∧ Mod [] w w':=by
 obtain ⟨sl,si,hc,hL,hI,hF⟩:=h
 refine yKv hc ?_
 refine (ys0 (hL.sl yd1) hl).mono ?_
 rintro _ w33 ⟨_,rfl,s',rfl,hR,M33⟩
 refine ⟨_,_,_,rfl,yaF.of0 M33,?_⟩
 intro w9 A9 h9
 exact ⟨s',rfl,hR.keep0 A9.mod,M33.go0 A9.mod (by simp)⟩
theorem yyD (w:World):(zeroValue 4).run pP w = .ok (hkb false) w:=by kernel_rfl
def yiZ (offs:List Int) (l:List PFound):List PFound:=l.filter fun f => decide (f.off ∈ offs)
theorem ytE (offs:List Int) (l:List PFound):(yiZ offs l).length ≤ l.length:=List.length_filter_le _ _
set_option maxHeartbeats 1000000 in
theorem yAi {w:World} {b:Nat} {base next:Int} {l:List PFound} {F:List Nat} (h:yb5 w b base next l F) (hl:l.length ≤ 1000) {a:Option Addr} {n c:Nat} {offs:List Int} (ho:ybF w 1 ycO a n offs) (hol:offs.length ≤ 1000000) (ho6:∀ x ∈ offs,s64 x) (hl6:∀ y ∈ l,s64 y.off) :
  Calls pP 105 #[.pointer (some ⟨b,0,none⟩),.slice a n c] w fun e w' => e = .returned (.int .i64 ((l.length:Int) - ((yiZ offs l).length:Int))) ∧ ∃ F',yb5 w' b base next (yiZ offs l) F' ∧ Mod F w w' ∧ ybG w F F':=by
 obtain ⟨sl,si,hc,hL,hI,rfl⟩:=id h
 have lb:=yaH hc
 have hon:=ho.1
 have hLn:=hL.1
 refine ya0 (yKs hc ?_)
 refine yd6 fun m w4 c4 M4 f4 => ?_
 have ne:m ≠ b:=by omega
 refine yCH (fun mm x w' => ∃ (k:Nat) (L:List (Int × Bool)),x = k ∧ k ≤ offs.length ∧ yaS pP 3 hki hkb w' m L ∧ (∀ x,(lkp L x).getD false = decide (x ∈ offs.take k)) ∧ Mod [] w w' ∧ mm = offs.length - k) offs.length ⟨0,[],rfl,by omega,yaS.of_new c4,by simp [lkp],M4,rfl⟩ ?_
 rintro mm x w1 ⟨k,L,rfl,hk,hM,hLk,M1,rfl⟩
 refine yaC (fun hlt => ?_) fun hge => ?_
 ·obtain ⟨q,hq⟩:∃ q,offs[k]? = some q:=⟨_,List.getElem?_eq_getElem (by omega)⟩
  refine (ho.keep0 M1).ix hq fun ad had => yaK (x:=q) (by simpa [add_zero] using had 0 _ rfl) ?_
  refine hM.setU yFe yp9 Tryz.underlying252 (v:=true) (k:=q) (yqA (ho6 q (List.mem_of_getElem? hq))) (by simpa using ne) fun w' hM' M' => ?_
  refine yCG (offs.length - (k + 1)) (by omega) ⟨k + 1,_,by rw [yaI (by omega) (by omega)]; omega,by omega,hM',fun x => ?_,M1.go0 M' (by simp; omega),rfl⟩
  rw [yfB,ybO hq]
  by_cases e:x = q
  ·simp [e]
  ·rw [if_neg e,hLk]; simp [e]
 have hk:k = offs.length:=by omega
 subst hk
 rw [List.take_length] at hLk
 intro w47 A47 h47
 have N47:Mod [b] w w47:=(M1.trans A47.mod).less (by simp)
 have hbl:=yc5 hL hc (by decide)
 refine yCJ (fun mm x x0 x1 a2 n2 c2 a3 n3 c3 w' => ∃ (k:Nat) (F':List Nat),x = k ∧ k ≤ l.length ∧ x0 = base ∧ x1 = next ∧ w'.heap[b]? = some (.cells #[.int .i64 x0,.int .i64 x1,.slice a2 n2 c2,.slice a3 n3 c3] 168) ∧ yb5 w' b base next (yiZ offs (l.take k)) F' ∧ (∀ z ∈ F',z = b ∨ w.heap.size ≤ z) ∧ (∀ z ∈ F',z ≠ m) ∧ yaS pP 3 hki hkb w' m L ∧ Row w' 0 76 5 yjH sl.a sl.n sl.c l ∧ Mod [b] w w' ∧ m < w'.heap.size ∧ mm = l.length - k) l.length
  ⟨0,[b],rfl,by omega,rfl,rfl,h47,(by rw [show yiZ offs (l.take 0) = [] by simp [yiZ]]; exact ⟨ya8,ya8,h47,Row.nil ..,Row.nil ..,rfl⟩),by simp,by simp; exact fun e => ne e.symm,hM.keepM A47.mod (by simpa using ne),yaA hL N47 (by simpa using hbl),N47,by have:=hM.lt; have:=A47.mod.size; omega,rfl⟩ ?_
 rintro mm x x0 x1 a2 n2 c2 a3 n3 c3 w2 ⟨k,F1,rfl,hk,rfl,rfl,hc2,hS2,hF1,hFm,hM2,hL2,N2,lm,rfl⟩
 intro _
 have s2:=N2.size
 refine yaC (fun hlt => ?_) fun hge => ?_
 ·obtain ⟨r,hr⟩:∃ r,l[k]? = some r:=⟨_,List.getElem?_eq_getElem (by omega)⟩
  refine (hL2.sl yd1).ix hr fun q hq => yaK (x:=r.off) (by simpa [add_zero] using hq 0 _ rfl) (ybI (hq 1 _ rfl) (yaL (hq 2 _ rfl) (ybI (hq 3 _ rfl) (yaL (hq 4 _ rfl) ?_))))
  intro b24 f24 w27 A27 h27
  have l24:=A27.lt b24 (by simp)
  have hM27:=hM2.keepM0 A27.mod
  have hS27:=hS2.keep0 A27.mod
  refine ⟨_,hM27.lkF yFe yp9 Tryz.underlying252 yyD (yqA (hl6 r (List.mem_of_getElem? hr))),?_⟩
  rw [hLk]
  have ek:yiZ offs (l.take (k + 1)) = yiZ offs (l.take k) ++ (if r.off ∈ offs then [r] else []):=by
   rw [ybO hr,yiZ,List.filter_append]
   by_cases e:r.off ∈ offs <;> simp [e,yiZ]
  refine yaC (fun g => ?_) fun g => ?_
  ·rw [if_pos g] at ek
   refine (ymS hS27 r (Nat.le_trans (ytE _ _) (by rw [List.length_take]; omega))).mono ?_
   rintro _ w38 ⟨rfl,F2,hS38,M38,G38⟩
   have s38:=M38.size
   have ltF:=hS2.lt
   refine ⟨rfl,yaF.of M38 (fun i hi _ hc => by simp at hi; subst hi; have:=ltF i hc; omega),?_⟩
   obtain ⟨sl',si',hc38,hL38,hI38,hF2⟩:=id hS38
   refine ⟨_,_,_,_,_,_,_,_,hc38,?_⟩
   have s27:=A27.mod.size
   refine ys7 (l.length - (k + 1)) (by omega) ⟨k + 1,F2,by rw [yaI (by omega) (by omega)]; omega,by omega,rfl,rfl,hc38,by rw [ek]; exact hS38,fun z hz => ?_,fun z hz => ?_,hM27.keepM M38 (fun hz => hFm m hz rfl),?_,?_,by omega,rfl⟩
   ·rcases G38 z hz with h1 | h1
    ·exact hF1 z h1
    ·exact .inr (by omega)
   ·rcases G38 z hz with h1 | h1
    ·exact hFm z h1
    ·omega
   ·refine yaA (hL2.keep0 A27.mod) M38 fun z hz hz' => ?_
    have:=yaG hL z hz'
    rcases hF1 z hz with rfl | h1
    ·exact hbl hz'
    ·omega
   ·exact ((N2.trans A27.mod).trans M38).less fun z hz hz' => by
     simp only [List.append_nil,List.mem_append,List.mem_cons,List.not_mem_nil,or_false] at hz ⊢
     rcases hz with hz | hz
     ·exact hz
     ·rcases hF1 z hz with h1 | h1
      ·exact h1
      ·omega
  ·rw [if_neg g,List.append_nil] at ek
   have s27:=A27.mod.size
   exact ys7 (l.length - (k + 1)) (by omega) ⟨k + 1,F1,by rw [yaI (by omega) (by omega)]; omega,by omega,rfl,rfl,A27.mod.keep0 hc2,by rw [ek]; exact hS27,hF1,hFm,hM27,hL2.keep0 A27.mod,(N2.trans A27.mod).less (by simp),by omega,rfl⟩
 ·have hk:k = l.length:=by omega
  subst hk
  rw [List.take_length] at hS2
  obtain ⟨sl',si',hc3,hL3,hI3,hF2⟩:=id hS2
  rw [hc2] at hc3
  cases hc3
  have:=hL3.1
  have hkl:=ytE offs l
  refine ⟨?_,F1,hS2,N2.less (by simp),fun z hz => ?_⟩
  ·rw [yaI (by omega) (by omega),hLn,this]
  ·rcases hF1 z hz with rfl | h1
   ·exact .inl (by simp)
   ·exact .inr h1
end Go.Proofs.YteldhjiiocmicaaGreat
namespace Go.Proofs.YteldhjiiocmicaaGreat
open Go Go.RowKit
set_option linter.all false
section
set_option maxRecDepth 100000
variable {R:VWP} {w w0:World} {m:Nat} {i0 i1 i2 i3 i4 i5 i6 i7 i8 i9 j0 j1 j2 j3 j4 j5 j6 j7 j8 j9 k0 k1 k2 k3 k4 k5 k6 k7 k8 k9 l0 l1 l2 l3 l4 l5 l6 l7 l8 l9:Int} {s0 s1 s2 s3 s4 s5 s6 s7 s8 s9 t0 t1 t2 t3 t4 t5 t6 t7 t8 t9:BA} {n0 n1 n2 n3 n4 n5 n6 n7 n8 n9 o0 o1 o2 o3 o4 o5 o6 o7 o8 o9 p0 p1 p2 p3 p4 p5 p6 p7 p8 p9:Nat} {q0 q1 q2 q3 q4 q5 q6 q7 q8 q9 r0 r1 r2 r3 r4 r5 r6 r7 r8 r9:OA} {B0 B1 B2 B3 B4 B5 B6 B7 B8 B9:Bool} {M0 M1 M2 M3:Option Nat} {V0 V1 V2 V3 V4 V5:Value} {A0 A1 A2:Addr}
theorem yKy {b0:Nat} {o1_a:OA} {o1_n o1_c:Nat} (hb:w.heap[b0]? = some (.cells #[.int .i64 i0,.slice o1_a o1_n o1_c] 83)) (h :
 ixA o1_a o1_n (IntKind.wrap .i64 ((o1_n:Int) - 1)) 1 fun q1 =>
 ygI w q1 fun p2 =>
 ∀ w3,Adv [] [] w w3 → w3.heap[b0]? = some (.cells #[.int .i64 i0,.slice o1_a o1_n o1_c] 83) →
 R (.pointer p2) w3) :
 CR pP 94 #[(.pointer (some ⟨b0,0,none⟩))] w R :=
 yaJ Tryz.wide_mixed (an:=[]) Tryz.func94 rfl rfl (by kernel_rfl) rfl hb (Eq.mpr (by kernel_rfl) h)
def yv0:LA:=⟨[0,0,1,0,1],[0,1,13,14,15],[(0,0,0)],1,[]⟩
def yyE:List LA:=[yv0]
abbrev yKz:=dnF pP yyE (code Tryz.f42)
abbrev yNu:=yaR pP yyE (code Tryz.f42)
abbrev yKA (p:List Nat) (K:List Kh) (R:VWP):=yaR pP yyE (code Tryz.f42) p K (ybE pP Tryz.f42 [0] R)
def yoX (a9:OA) (b1 b0:Nat) (a4:OA) (a6 a5:Nat) (a7:Int) (bm0:Nat) (a3:Int) (a0:OA) (a2 a1:Nat):Int → List Value × List TB:=fun a8 => ([(.pointer (some ⟨bm0,0,none⟩)),.slice a9 b1 b0,.slice a4 a6 a5,.int .i64 a7,.int .i64 a8],[⟨bm0,83,[.int .i64 a3,.slice a0 a2 a1],false⟩])
abbrev yGj (a8:OA) (b0 a9:Nat) (a4:OA) (a6 a5:Nat) (a7:Int) (bm0:Nat) (a3:Int) (a0:OA) (a2 a1:Nat) (I:Nat → Int → World → Prop) (m:Nat):Kh:=KG (yoX a8 b0 a9 a4 a6 a5 a7 bm0 a3 a0 a2 a1) (U1 I) m
theorem yCQ {I:Nat → Int → World → Prop} (m':Nat) (h1:m' < m) (h2:I m' i2 w):KS (yGj q0 n0 n1 q1 n2 n3 i0 n4 i1 q2 n5 n6 I m) (yoX q0 n0 n1 q1 n2 n3 i0 n4 i1 q2 n5 n6 i2) w:=⟨m',h1,_,rfl,rfl,h2⟩
theorem yCR {a6:OA} {a7:OA} {a0:OA} (I:Nat → Int → World → Prop) (m0:Nat) (h0:I m0 i2 w0)
 (hr:∀ m a5 w,I m a5 w →
 brB (decide (a5 < i0)) (
 ixA a7 n2 a5 4 fun q7 =>
 yb9 w q7 fun t8 => ya7 w (Addr.add q7 1) fun s9 => yb9 w (Addr.add q7 2) fun v2 => ya7 w (Addr.add q7 3) fun v1 =>
 ∀ b7,w.heap.size ≤ b7 →
 ∀ c6,Adv [] [b7] w c6 →
 Calls pP 93 #[(.agg (Z8 t8 s9 v2 v1))] c6 fun e c7 => ∃ d7,e = .returned (.int .i64 d7) ∧ yaF [n4,b7] c6 c7 ∧
 brB (d7 != 0) (
 ∀ c8,Adv [] [] c7 c8 → c8.heap[n4]? = some (.cells #[.int .i64 i1,.slice a0 n5 n6] 83) →
 R (.tuple #[.int .i64 0,.int .i64 d7]) c8)
 (
 KS (yGj a6 n0 n1 a7 n2 n3 i0 n4 i1 a0 n5 n6 I m) (yoX a6 n0 n1 a7 n2 n3 i0 n4 i1 a0 n5 n6 (IntKind.wrap .i64 (a5 + 1))) c7))
 (
 ∀ c9,Adv [] [] w c9 → c9.heap[n4]? = some (.cells #[.int .i64 i1,.slice a0 n5 n6] 83) →
 Calls pP 45 #[(.pointer (some ⟨n4,0,none⟩))] c9 fun e b3 => ∃ v3 d8,e = .returned (.tuple #[.int .i64 v3,.int .i64 d8]) ∧ ∃ b0 b6 b9 b8,b3.heap[n4]? = some (.cells #[.int .i64 b0,.slice b6 b9 b8] 83) ∧
 brB (decide ((n0:Int) > b0)) (
 R (.tuple #[.int .i64 0,.int .i64 2]) b3)
 (
 brB (decide ((IntKind.wrap .i64 (d8 + (n0:Int))) > 1099511627776)) (
 R (.tuple #[.int .i64 0,.int .i64 50]) b3)
 (
 brB (decide ((n0:Int) > 0)) (
 ∀ d0,Adv [] [] b3 d0 → d0.heap[n4]? = some (.cells #[.int .i64 b0,.slice b6 b9 b8] 83) →
 Calls pP 94 #[(.pointer (some ⟨n4,0,none⟩))] d0 fun e e5 => ∃ e2,e = .returned (.pointer e2) ∧ ∃ f1 h7 u6 u2,e5.heap[n4]? = some (.cells #[.int .i64 f1,.slice h7 u6 u2] 83) ∧ (((.int .i64 f1):Value) = (.int .i64 b0)) ∧
 Calls pP 95 #[.pointer e2] e5 fun e d1 => ∃ f2,e = .returned (.int .i64 f2) ∧ ∃ f3 h8 u7 u3,d1.heap[n4]? = some (.cells #[.int .i64 f3,.slice h8 u7 u3] 83) ∧ (((.int .i64 f3):Value) = (.int .i64 b0)) ∧
 brB (decide ((IntKind.wrap .i64 (f2 + (n0:Int))) > b0)) (
 Calls pP 35 #[.int .i64 d8] d1 fun e e6 => ∃ e3 v4,e = .returned (.tuple #[.pointer e3,.int .i64 v4]) ∧ ∃ f4 d9 e1 e0,e6.heap[n4]? = some (.cells #[.int .i64 f4,.slice d9 e1 e0] 83) ∧
 al e6 (.cells #[.pointer e3] 78) fun u1 e7 =>
 ybC pP (Builtin.append_ #[81,81] 81 #[.slice d9 e1 e0,(.slice (some ⟨u1,0,none⟩) 1 1)]) e7 fun h9 u9 u4 e8 => yaF [n4] e7 e8 ∧
 ∀ d2,Adv [n4] [] e8 d2 → d2.heap[n4]? = some (.cells #[.int .i64 f4,.slice h9 u9 u4] 83) →
 Calls pP 94 #[(.pointer (some ⟨n4,0,none⟩))] d2 fun e e9 => ∃ e4,e = .returned (.pointer e4) ∧ ∃ v5 u0 v0 u5,e9.heap[n4]? = some (.cells #[.int .i64 v5,.slice u0 v0 u5] 83) ∧
 Calls pP 96 #[.pointer e4,.slice a6 n0 n1] e9 fun e f0 => ∃ f5 f6,e = .returned (.tuple #[.int .i64 f5,.int .i64 f6]) ∧ ∃ v6 f7 g7 g2,f0.heap[n4]? = some (.cells #[.int .i64 v6,.slice f7 g7 g2] 83) ∧
 R (.tuple #[.int .i64 f5,.int .i64 f6]) f0)
 (
 Calls pP 94 #[(.pointer (some ⟨n4,0,none⟩))] d1 fun e c2 => ∃ c0,e = .returned (.pointer c0) ∧ ∃ h3 f8 g8 g3,c2.heap[n4]? = some (.cells #[.int .i64 h3,.slice f8 g8 g3] 83) ∧
 Calls pP 96 #[.pointer c0,.slice a6 n0 n1] c2 fun e c3 => ∃ d3 d4,e = .returned (.tuple #[.int .i64 d3,.int .i64 d4]) ∧ ∃ h4 f9 g9 g4,c3.heap[n4]? = some (.cells #[.int .i64 h4,.slice f9 g9 g4] 83) ∧
 R (.tuple #[.int .i64 d3,.int .i64 d4]) c3))
 (
 ∀ b4,Adv [] [] b3 b4 → b4.heap[n4]? = some (.cells #[.int .i64 b0,.slice b6 b9 b8] 83) →
 Calls pP 94 #[(.pointer (some ⟨n4,0,none⟩))] b4 fun e c4 => ∃ c1,e = .returned (.pointer c1) ∧ ∃ h5 g0 h1 g5,c4.heap[n4]? = some (.cells #[.int .i64 h5,.slice g0 h1 g5] 83) ∧
 Calls pP 96 #[.pointer c1,.slice a6 n0 n1] c4 fun e c5 => ∃ d5 d6,e = .returned (.tuple #[.int .i64 d5,.int .i64 d6]) ∧ ∃ h6 g1 h2 g6,c5.heap[n4]? = some (.cells #[.int .i64 h6,.slice g1 h2 g6] 83) ∧
 R (.tuple #[.int .i64 d5,.int .i64 d6]) c5))))) :
 yaO yv0 (yKz 397 [0,0,1,0,1]) (yKA [1,0,1,0] [] R) (yoX a6 n0 n1 a7 n2 n3 i0 n4 i1 a0 n5 n6 i2) w0 :=
 lrule (yoX a6 n0 n1 a7 n2 n3 i0 n4 i1 a0 n5 n6) (U1 I) h0 (by rintro m a5 w h; exact ⟨by kernel_rfl,by kernel_rfl,fun js => Eq.mpr (by kernel_rfl) (hr m a5 w h)⟩)
theorem yKB {b0:Nat} {o1_n o1_c:Nat} {a0 a2:Nat} (hb:w.heap[b0]? = some (.cells #[.int .i64 i0,.slice q0 o1_n o1_c] 83)) (h :
 yaO yv0 (yKz 397 [0,0,1,0,1]) (yKA [1,0,1,0] [] R) (yoX q1 a0 a2 q1 a0 a2 (a0:Int) b0 i0 q0 o1_n o1_c 0) w) :
 CR pP 42 #[(.pointer (some ⟨b0,0,none⟩)),.slice q1 a0 a2] w R :=
 yaJ Tryz.wide_mixed (an:=yyE) Tryz.func42 rfl rfl (by kernel_rfl) rfl hb (Eq.mpr (by kernel_rfl) h)
def yv1:LA:=⟨[0,0,1,0,1,1,1,1],[1,2,10,31,32,33],[],1,[0]⟩
def yyF:List LA:=[yv1]
abbrev yKC:=dnF pP yyF (code Tryz.f44)
abbrev yNv:=yaR pP yyF (code Tryz.f44)
abbrev yKD (p:List Nat) (K:List Kh) (R:VWP):=yaR pP yyF (code Tryz.f44) p K (ybE pP Tryz.f44 [0] R)
def ykZ (b2 b3:Int) (a5:OA) (a9 a7:Nat) (b0:Int) (bm0:Nat):(Option Addr) × Nat × Nat × Int × Int × (Option Addr) × Nat × Nat → List Value × List TB:=fun (a4,a8,a6,b1,a3,a0,a2,a1) => ([.int .i64 b2,.int .i64 b3,.slice a4 a8 a6,.slice a5 a9 a7,.int .i64 b0,.int .i64 b1],[⟨bm0,83,[.int .i64 a3,.slice a0 a2 a1],true⟩])
abbrev yyG (a4 a5:Int) (a0:OA) (a2 a1:Nat) (a3:Int) (bm0:Nat) (I:Nat → Option Addr → Nat → Nat → Int → Int → Option Addr → Nat → Nat → World → Prop) (m:Nat):Kh:=KG (ykZ a4 a5 a0 a2 a1 a3 bm0) (U8 I) m
theorem ymU {I:Nat → Option Addr → Nat → Nat → Int → Int → Option Addr → Nat → Nat → World → Prop} (m':Nat) (h1:m' < m) (h2:I m' q1 n3 n4 i3 i4 q2 n5 n6 w):KS (yyG i0 i1 q0 n0 n1 i2 n2 I m) (ykZ i0 i1 q0 n0 n1 i2 n2 (q1,n3,n4,i3,i4,q2,n5,n6)) w:=⟨m',h1,_,rfl,rfl,h2⟩
theorem yCS (I:Nat → Option Addr → Nat → Nat → Int → Int → Option Addr → Nat → Nat → World → Prop) (m0:Nat) (h0:I m0 q1 n3 n4 i3 i4 q2 n5 n6 w0)
 (hr:∀ m a8 a1 a9 a5 b3 b0 b2 b1 w,I m a8 a1 a9 a5 b3 b0 b2 b1 w →
 w.heap[n2]? = some (.cells #[.int .i64 b3,.slice b0 b2 b1] 83) →
 brB (decide (a5 < i2)) (
 ixA q0 n0 a5 1 fun e1 =>
 ygI w e1 fun d4 =>
 Calls pP 99 #[.pointer d4] w fun e c1 => ∃ e2 d6,e = .returned (.tuple #[.int .i64 e2,.int .i64 d6]) ∧ ∃ c7 c3 c5 c4,c1.heap[n2]? = some (.cells #[.int .i64 c7,.slice c3 c5 c4] 83) ∧
 brB (decide (d6 > i0)) (
 brB (decide ((a1:Int) < i1)) (
 Calls pP 100 #[.pointer d4,.int .i64 i0,(.int .i64 (IntKind.wrap .i64 (i1 - (a1:Int))))] c1 fun e c6 => ∃ c8 d2 d0,e = .returned (.slice c8 d2 d0) ∧ ∃ d7 c9 d3 d1,c6.heap[n2]? = some (.cells #[.int .i64 d7,.slice c9 d3 d1] 83) ∧
 ybC pP (Builtin.append_ #[27,27] 27 #[.slice a8 a1 a9,.slice c8 d2 d0]) c6 fun d8 e0 d9 d5 => yaF [n2] c6 d5 ∧
 KS (yyG i0 i1 q0 n0 n1 i2 n2 I m) (ykZ i0 i1 q0 n0 n1 i2 n2 (d8,e0,d9,(IntKind.wrap .i64 (a5 + 1)),d7,c9,d3,d1)) d5)
 (
 KS (yyG i0 i1 q0 n0 n1 i2 n2 I m) (ykZ i0 i1 q0 n0 n1 i2 n2 (a8,a1,a9,(IntKind.wrap .i64 (a5 + 1)),c7,c3,c5,c4)) c1))
 (
 KS (yyG i0 i1 q0 n0 n1 i2 n2 I m) (ykZ i0 i1 q0 n0 n1 i2 n2 (a8,a1,a9,(IntKind.wrap .i64 (a5 + 1)),c7,c3,c5,c4)) c1))
 (
 R (.tuple #[.slice a8 a1 a9,.int .i64 0]) w)) :
 yaO yv1 (yKC 394 [0,0,1,0,1,1,1,1]) (yKD [1,1,1,1,0,1,0] [] R) (ykZ i0 i1 q0 n0 n1 i2 n2 (q1,n3,n4,i3,i4,q2,n5,n6)) w0 :=
 lrule (ykZ i0 i1 q0 n0 n1 i2 n2) (U8 I) h0 (by rintro m ⟨a8,a1,a9,a5,b3,b0,b2,b1⟩ w h; exact ⟨by kernel_rfl,by kernel_rfl,fun js => Eq.mpr (by kernel_rfl) (hr m a8 a1 a9 a5 b3 b0 b2 b1 w h)⟩)
theorem yKE {b0:Nat} {o1_n o1_c:Nat} (hb:w.heap[b0]? = some (.cells #[.int .i64 i0,.slice q0 o1_n o1_c] 83)) (h :
 ∀ w9,Adv [] [] w w9 → w9.heap[b0]? = some (.cells #[.int .i64 i0,.slice q0 o1_n o1_c] 83) →
 Calls pP 45 #[(.pointer (some ⟨b0,0,none⟩))] w9 fun e a2 => ∃ a6 a7,e = .returned (.tuple #[.int .i64 a6,.int .i64 a7]) ∧ ∃ a8 a3 a1 a5,a2.heap[b0]? = some (.cells #[.int .i64 a8,.slice a3 a1 a5] 83) ∧
 brB (decide (i1 < a6)) (
 R (.tuple #[.slice none 0 0,.int .i64 60]) a2)
 (
 brB (decide (i1 > a7)) (
 R (.tuple #[.slice none 0 0,.int .i64 61]) a2)
 (
 yaO yv1 (yKC 394 [0,0,1,0,1,1,1,1]) (yKD [1,1,1,1,0,1,0] [] R) (ykZ i1 i2 a3 a1 a5 (a1:Int) b0 (none,0,0,0,a8,a3,a1,a5)) a2))) :
 CR pP 44 #[(.pointer (some ⟨b0,0,none⟩)),.int .i64 i1,.int .i64 i2] w R :=
 yaJ Tryz.wide_mixed (an:=yyF) Tryz.func44 rfl rfl (by kernel_rfl) rfl hb (Eq.mpr (by kernel_rfl) h)
theorem yKF {b0:Nat} {o1_a:OA} {o1_n o1_c:Nat} (hb:w.heap[b0]? = some (.cells #[.int .i64 i0,.slice o1_a o1_n o1_c] 83)) (h :
 ixA o1_a o1_n 0 1 fun q6 =>
 ygI w q6 fun p7 =>
 Calls pP 99 #[.pointer p7] w fun e w8 => ∃ x9 b2,e = .returned (.tuple #[.int .i64 x9,.int .i64 b2]) ∧ yaF [b0] w w8 ∧
 ∀ a0,Adv [] [] w8 a0 → a0.heap[b0]? = some (.cells #[.int .i64 i0,.slice o1_a o1_n o1_c] 83) →
 Calls pP 94 #[(.pointer (some ⟨b0,0,none⟩))] a0 fun e a2 => ∃ a1,e = .returned (.pointer a1) ∧ ∃ b3 a5 a9 a7,a2.heap[b0]? = some (.cells #[.int .i64 b3,.slice a5 a9 a7] 83) ∧
 Calls pP 99 #[.pointer a1] a2 fun e a3 => ∃ b4 a4,e = .returned (.tuple #[.int .i64 b4,.int .i64 a4]) ∧ ∃ b5 a6 b1 a8,a3.heap[b0]? = some (.cells #[.int .i64 b5,.slice a6 b1 a8] 83) ∧
 R (.tuple #[.int .i64 x9,.int .i64 a4]) a3) :
 CR pP 45 #[(.pointer (some ⟨b0,0,none⟩))] w R :=
 yaJ Tryz.wide_mixed (an:=[]) Tryz.func45 rfl rfl (by kernel_rfl) rfl hb (Eq.mpr (by kernel_rfl) h)
def yv2:LA:=⟨[0,0,0,1,1],[0,1,5],[(0,0,0)],1,[]⟩
def yyH:List LA:=[yv2]
abbrev yKG:=dnF pP yyH (code Tryz.f46)
abbrev yNw:=yaR pP yyH (code Tryz.f46)
abbrev yKH (p:List Nat) (K:List Kh) (R:VWP):=yaR pP yyH (code Tryz.f46) p K (ybE pP Tryz.f46 [0] R)
def yoY (a4:Int) (bm0:Nat) (a3:Int) (a0:OA) (a2 a1:Nat):Int → List Value × List TB:=fun a5 => ([(.pointer (some ⟨bm0,0,none⟩)),.int .i64 a4,.int .i64 a5],[⟨bm0,83,[.int .i64 a3,.slice a0 a2 a1],false⟩])
abbrev yGk (a4:Int) (bm0:Nat) (a3:Int) (a0:OA) (a2 a1:Nat) (I:Nat → Int → World → Prop) (m:Nat):Kh:=KG (yoY a4 bm0 a3 a0 a2 a1) (U1 I) m
theorem yCT {I:Nat → Int → World → Prop} (m':Nat) (h1:m' < m) (h2:I m' i2 w):KS (yGk i0 n0 i1 q0 n1 n2 I m) (yoY i0 n0 i1 q0 n1 n2 i2) w:=⟨m',h1,_,rfl,rfl,h2⟩
theorem yCU {bm0:Nat} {a2:OA} {a1 a0:Nat} (I:Nat → Int → World → Prop) (m0:Nat) (h0:I m0 i2 w0)
 (hr:∀ m a4 w,I m a4 w →
 brB (decide (a4 < (IntKind.wrap .i64 ((a1:Int) - 1)))) (
 ixA a2 a1 a4 1 fun q6 =>
 ygI w q6 fun p7 =>
 Calls pP 99 #[.pointer p7] w fun e w8 => ∃ x9 b7,e = .returned (.tuple #[.int .i64 x9,.int .i64 b7]) ∧ yaF [bm0] w w8 ∧
 brB (decide (b7 > i0)) (
 slV a2 a0 a4 a1 a0 1 fun b8 c2 c0 =>
 Calls pP 101 #[.slice b8 c2 c0] w8 fun e b5 => ∃ a9 b3 b1,e = .returned (.slice a9 b3 b1) ∧ yaF [bm0] w8 b5 ∧
 ∀ a6,Adv [bm0] [] b5 a6 → a6.heap[bm0]? = some (.cells #[.int .i64 i1,.slice a9 b3 b1] 83) →
 R (.int .i64 a4) a6)
 (
 KS (yGk i0 bm0 i1 a2 a1 a0 I m) (yoY i0 bm0 i1 a2 a1 a0 (IntKind.wrap .i64 (a4 + 1))) w8))
 (
 slV a2 a0 a4 a1 a0 1 fun b9 c3 c1 =>
 Calls pP 101 #[.slice b9 c3 c1] w fun e b6 => ∃ b0 b4 b2,e = .returned (.slice b0 b4 b2) ∧ yaF [bm0] w b6 ∧
 ∀ a7,Adv [bm0] [] b6 a7 → a7.heap[bm0]? = some (.cells #[.int .i64 i1,.slice b0 b4 b2] 83) →
 R (.int .i64 a4) a7)) :
 yaO yv2 (yKG 397 [0,0,0,1,1]) (yKH [1,1,0,0] [] R) (yoY i0 bm0 i1 a2 a1 a0 i2) w0 :=
 lrule (yoY i0 bm0 i1 a2 a1 a0) (U1 I) h0 (by rintro m a4 w h; exact ⟨by kernel_rfl,by kernel_rfl,fun js => Eq.mpr (by kernel_rfl) (hr m a4 w h)⟩)
theorem yKI {b0:Nat} {o1_n o1_c:Nat} (hb:w.heap[b0]? = some (.cells #[.int .i64 i0,.slice q0 o1_n o1_c] 83)) (h :
 yaO yv2 (yKG 397 [0,0,0,1,1]) (yKH [1,1,0,0] [] R) (yoY i1 b0 i0 q0 o1_n o1_c 0) w) :
 CR pP 46 #[(.pointer (some ⟨b0,0,none⟩)),.int .i64 i1] w R :=
 yaJ Tryz.wide_mixed (an:=yyH) Tryz.func46 rfl rfl (by kernel_rfl) rfl hb (Eq.mpr (by kernel_rfl) h)
theorem yKJ (h :
 brB (Option.isNone q0) (
 R (.slice none 0 0) w)
 (
 al w (.cells #[] 78) fun b7 w8 =>
 ybC pP (Builtin.append_ #[81,81] 81 #[(.slice (some ⟨b7,0,none⟩) 0 0),.slice q0 n0 n1]) w8 fun a3 a5 a4 w9 =>
 R (.slice a3 a5 a4) w9)) :
 CR pP 101 #[.slice q0 n0 n1] w R :=
 yaB Tryz.wide_mixed (an:=[]) Tryz.func101 rfl rfl (by kernel_rfl) rfl (Eq.mpr (by kernel_rfl) h)
theorem yKK (h :
 ∀ b2,w.heap.size ≤ b2 →
 ∀ w3,Adv [] [b2] w w3 → w3.heap[b2]? = some (.cells #[.slice q0 n0 n1] 81) →
 R (.func (.func 142) #[] #[(.pointer (some ⟨b2,0,none⟩))]) w3) :
 CR pP 102 #[.slice q0 n0 n1] w R :=
 yaB Tryz.wide_mixed (an:=[]) Tryz.func102 rfl rfl (by kernel_rfl) rfl (Eq.mpr (by kernel_rfl) h)
theorem yKL (h :
 ∀ b2,w.heap.size ≤ b2 →
 ∀ w3,Adv [] [b2] w w3 → w3.heap[b2]? = some (.cells #[.slice q0 n0 n1] 27) →
 R (.func (.func 143) #[] #[(.pointer (some ⟨b2,0,none⟩))]) w3) :
 CR pP 103 #[.slice q0 n0 n1] w R :=
 yaB Tryz.wide_mixed (an:=[]) Tryz.func103 rfl rfl (by kernel_rfl) rfl (Eq.mpr (by kernel_rfl) h)
end
end Go.Proofs.YteldhjiiocmicaaGreat
namespace Go.Proofs.YteldhjiiocmicaaGreat
open Go Go.RowKit Go.Maps Go.MapKept
set_option linter.unusedVariables false
set_option linter.unusedSimpArgs false
def ydN (F F':List Nat):Prop:=∀ k ∈ F,k ∉ F'
theorem ydN.symm {F F':List Nat} (h:ydN F F'):ydN F' F:=fun k hk hk' => h k hk' hk
theorem ydN.grow {w:World} {F F' G:List Nat} (h:ydN F G) (hg:ybG w F F') (hG:∀ k ∈ G,k < w.heap.size):ydN F' G:=fun k hk hk' => by
 rcases hg k hk with h1 | h1
 ·exact h k h1 hk'
 ·have:=hG k hk'; omega
section
variable {α:Type} {fp:α → List Nat} {qs:List α} {q q':α} {w:World} {i j k:Nat}
theorem yi0 {a b:α} (h:qs.Pairwise fun a b => ydN (fp a) (fp b)) (hij:i ≠ j) (hi:qs[i]? = some a) (hj:qs[j]? = some b):ydN (fp a) (fp b):=by
 obtain ⟨hi1,hi2⟩:=List.getElem?_eq_some_iff.1 hi
 obtain ⟨hj1,hj2⟩:=List.getElem?_eq_some_iff.1 hj
 rcases Nat.lt_or_ge i j with hl | hl
 ·have:=List.pairwise_iff_getElem.1 h i j hi1 hj1 hl
  rw [hi2,hj2] at this; exact this
 ·have:=List.pairwise_iff_getElem.1 h j i hj1 hi1 (by omega)
  rw [hi2,hj2] at this; exact this.symm
theorem yi1 (h:qs.Pairwise fun a b => ydN (fp a) (fp b)) (hk:qs[k]? = some q) (hlt:∀ x ∈ qs,∀ z ∈ fp x,z < w.heap.size) (hg:ybG w (fp q) (fp q')):(qs.set k q').Pairwise fun a b => ydN (fp a) (fp b):=by
 refine List.pairwise_iff_getElem.2 fun i j hi hj hij => ?_
 rw [List.length_set] at hi hj
 rw [List.getElem_set,List.getElem_set]
 have at_:∀ m (hm:m < qs.length),k ≠ m → ydN (fp q') (fp qs[m]):=fun m hm hkm =>
  (yi0 h hkm hk (List.getElem?_eq_getElem hm)).grow hg (hlt _ (List.getElem_mem hm))
 by_cases h1:k = i
 ·rw [if_pos h1,if_neg (by omega)]; exact at_ j hj (by omega)
 ·rw [if_neg h1]
  by_cases h2:k = j
  ·rw [if_pos h2]; exact (at_ i hi h1).symm
  ·rw [if_neg h2]; exact List.pairwise_iff_getElem.1 h i j hi hj hij
theorem ytF (h:qs.Pairwise fun a b => ydN (fp a) (fp b)) (hlt:∀ x ∈ qs,∀ z ∈ fp x,z < w.heap.size) (hn:∀ z ∈ fp q',w.heap.size ≤ z):(qs ++ [q']).Pairwise fun a b => ydN (fp a) (fp b) :=
 List.pairwise_append.2 ⟨h,by simp,fun a ha b hb => by
  simp at hb; subst hb
  intro z hz hz'
  have:=hlt a ha z hz
  have:=hn z hz'
  omega⟩
theorem yeF {x:α} (hx:x ∈ qs.set k q'):x = q' ∨ ∃ j,j ≠ k ∧ qs[j]? = some x:=by
 obtain ⟨j,hj⟩:=List.mem_iff_getElem?.1 hx
 rw [List.getElem?_set] at hj
 split at hj
 ·split at hj
  ·cases hj; exact .inl rfl
  ·cases hj
 ·rename_i hne; exact .inr ⟨j,fun e => hne e.symm,hj⟩
end
structure SegS where
 base:Int
 next:Int
 l:List PFound
 deriving DecidableEq
structure SegV where
 p:Nat
 s:SegS
 F:List Nat
def ygF (q:SegV):List Value:=[.pointer (some ⟨q.p,0,none⟩)]
theorem yd8 (q:SegV):(ygF q).length = 1:=rfl
theorem ytG (q:SegV):∀ u ∈ ygF q,u.oneCell' = true:=by simp [ygF,Value.oneCell']
def yc6 (w:World) (b:Nat) (room:Int) (L:List SegS) (F:List Nat):Prop :=
 ∃ (sl:Sl) (qs:List SegV),w.heap[b]? = some (.cells #[.int .i64 room,.slice sl.a sl.n sl.c] 83) ∧ Row w 0 78 1 ygF sl.a sl.n sl.c qs ∧ (∀ q ∈ qs,yb5 w q.p q.s.base q.s.next q.s.l q.F) ∧ qs.Pairwise (fun a b => ydN a.F b.F) ∧ L = qs.map (·.s) ∧ F = b :: (yaN sl.a ++ qs.flatMap (·.F))
theorem yc6.lt {w:World} {b:Nat} {room:Int} {L:List SegS} {F:List Nat} (h:yc6 w b room L F):∀ k ∈ F,k < w.heap.size:=by
 obtain ⟨sl,qs,hc,hR,hS,hP,rfl,rfl⟩:=h
 intro k hk
 rcases List.mem_cons.1 hk with rfl | hk
 ·exact yaH hc
 ·rcases List.mem_append.1 hk with hk | hk
  ·exact (yaG hR k hk).2
  ·obtain ⟨q,hq,hk⟩:=List.mem_flatMap.1 hk
   exact (hS q hq).lt k hk
theorem yc6.keep {w w':World} {b:Nat} {room:Int} {L:List SegS} {F S:List Nat} (h:yc6 w b room L F) (M:Mod S w w') (hS':∀ k ∈ S,k ∉ F):yc6 w' b room L F:=by
 obtain ⟨sl,qs,hc,hR,hS,hP,rfl,rfl⟩:=h
 refine ⟨sl,qs,M.keep hc (fun hb => hS' b hb (by simp)),yaA hR M (fun k hk hk' => hS' k hk (by simp [hk'])),fun q hq => (hS q hq).keep M fun k hk hk' => hS' k hk ?_,hP,rfl,rfl⟩
 simp only [List.mem_cons,List.mem_append,List.mem_flatMap]
 exact .inr (.inr ⟨q,hq,hk'⟩)
theorem yc6.keep0 {w w':World} {b:Nat} {room:Int} {L:List SegS} {F:List Nat} (h:yc6 w b room L F) (M:Mod [] w w'):yc6 w' b room L F:=h.keep M (by simp)
structure SegOk (room:Int) (s:SegS):Prop where
 lo:0 ≤ s.base
 mid:s.base ≤ s.next
 hi:s.next ≤ 1099511627776
 len:(s.l.length:Int) ≤ room
 off:∀ f ∈ s.l,s.base ≤ f.off ∧ f.off < s.next
 inc:s.l.Pairwise fun a b => a.off < b.off
structure LogOk (room:Int) (L:List SegS):Prop where
 ne:L ≠ []
 r1:1 ≤ room
 r2:room ≤ 64
 segs:∀ s ∈ L,SegOk room s
 chain:∀ (i:Nat) (s t:SegS),L[i]? = some s → L[i + 1]? = some t → t.base = s.next
def yk0 (L:List SegS):Int:=(L.head?.map (·.base)).getD 0
def yfO (L:List SegS):Int:=(L.getLast?.map (·.next)).getD 0
def ytH:List SegS:=[⟨0,0,[]⟩]
theorem yHP {room:Int} (h1:1 ≤ room) (h2:room ≤ 64):LogOk room ytH :=
 ⟨by simp [ytH],h1,h2,fun s hs => by
  simp [ytH] at hs; subst hs
  exact ⟨by simp,by simp,by simp,by simp; omega,by simp,by simp⟩,fun i s t hs ht => by
  cases i <;> simp [ytH] at hs ht⟩
theorem LogOk.lst {room:Int} {L:List SegS} (h:LogOk room L):∃ s,L[L.length - 1]? = some s ∧ yfO L = s.next ∧ SegOk room s:=by
 have hl:L.length - 1 < L.length:=by have:=List.length_pos_iff.2 h.ne; omega
 refine ⟨L[L.length - 1],List.getElem?_eq_getElem hl,?_,h.segs _ (List.getElem_mem hl)⟩
 rw [yfO,List.getLast?_eq_getElem?,List.getElem?_eq_getElem hl]; rfl
theorem LogOk.fst {room:Int} {L:List SegS} (h:LogOk room L):∃ s,L[0]? = some s ∧ yk0 L = s.base ∧ SegOk room s:=by
 have hl:0 < L.length:=List.length_pos_iff.2 h.ne
 refine ⟨L[0],List.getElem?_eq_getElem hl,?_,h.segs _ (List.getElem_mem hl)⟩
 rw [yk0,List.head?_eq_getElem?,List.getElem?_eq_getElem hl]; rfl
theorem ytI (room:Int) (w:World):Calls pP 12 #[.int .i64 room] w fun e w' => ∃ v,e = .returned v ∧ Mod [] w w' ∧
  if 1 ≤ room ∧ room ≤ 64 then ∃ b F,v = .tuple #[.pointer (some ⟨b,0,none⟩),.int .i64 0] ∧ yc6 w' b room ytH F ∧ (∀ k ∈ F,w.heap.size ≤ k) else v = .tuple #[.pointer none,.int .i64 1]:=by
 refine yJ5 ?_
 refine (yCx room w).mono ?_
 rintro _ w1 ⟨rfl,rfl⟩
 refine ⟨_,rfl,?_⟩
 by_cases g:1 ≤ room ∧ room ≤ 64
 ·refine brF (by simp [g]) ?_
  refine (ytC 0 w1).mono ?_
  rintro _ w2 ⟨_,rfl,M2,h2⟩
  rw [if_pos (by unfold ygC; omega)] at h2
  obtain ⟨p,F,rfl,h2,hF⟩:=h2
  have s2:=M2.size
  refine ⟨_,_,rfl,yd6 fun b14 w15 c15 M15 f15 => ?_⟩
  have s15:=M15.size
  intro b16 f16 w17 A17 h17
  have N:=(M2.go0 M15 (by simp)).go0 A17.mod (by simp)
  refine ⟨N,?_⟩
  rw [if_pos g]
  refine ⟨b16,_,rfl,⟨⟨some ⟨b14,0,none⟩,1,1⟩,[⟨p,⟨0,0,[]⟩,F⟩],h17,Row.one (x:=(⟨p,⟨0,0,[]⟩,F⟩:SegV)) rfl (Nat.zero_le _) (A17.mod.keep0 c15),by simpa using h2.keep0 (M15.go0 A17.mod (by simp)),by simp,rfl,rfl⟩,?_⟩
  simp [yaN]
  refine ⟨by omega,by omega,hF⟩
 ·refine brT (by simp [g]) ⟨Mod.refl _,?_⟩
  rw [if_neg g]
theorem yfP {w:World} {b:Nat} {room:Int} {sl:Sl} {qs:List SegV} {q:SegV} (hc:w.heap[b]? = some (.cells #[.int .i64 room,.slice sl.a sl.n sl.c] 83)) (hR:Row w 0 78 1 ygF sl.a sl.n sl.c qs) (hq:qs[qs.length - 1]? = some q) (hl:qs.length ≤ 1000000) :
  Calls pP 94 #[.pointer (some ⟨b,0,none⟩)] w fun e w' => e = .returned (.pointer (some ⟨q.p,0,none⟩)) ∧ Mod [] w w':=by
 have hn:=hR.1
 have hlt:=(List.getElem?_eq_some_iff.1 hq).1
 refine ya0 (yKy hc ?_)
 have e:IntKind.wrap .i64 ((sl.n:Int) - 1) = ((qs.length - 1:Nat):Int):=by rw [yaI (by omega) (by omega)]; omega
 rw [e]
 refine (hR.sl yd8).ix hq fun ad had => ydA (x:=some ⟨q.p,0,none⟩) (by simpa [add_zero] using had 0 _ rfl) ?_
 intro w3 A3 h3
 exact ⟨rfl,A3.mod⟩
theorem yfQ {w:World} {b:Nat} {room:Int} {L:List SegS} {F:List Nat} (h:yc6 w b room L F) (ok:LogOk room L) (hl:L.length ≤ 1000000) :
  Calls pP 45 #[.pointer (some ⟨b,0,none⟩)] w fun e w' => e = .returned (.tuple #[.int .i64 (yk0 L),.int .i64 (yfO L)]) ∧ Mod [] w w':=by
 obtain ⟨s0,hs0,hs,_⟩:=ok.fst
 obtain ⟨s1,hs1,he,_⟩:=ok.lst
 obtain ⟨sl,qs,hc,hR,hS,hP,rfl,hF⟩:=h
 rw [List.length_map] at hs1 hl
 obtain ⟨q0,hq0,rfl⟩:∃ q,qs[0]? = some q ∧ q.s = s0:=by rw [List.getElem?_map] at hs0; exact Option.map_eq_some_iff.1 hs0
 obtain ⟨q1,hq1,rfl⟩:∃ q,qs[qs.length - 1]? = some q ∧ q.s = s1:=by rw [List.getElem?_map] at hs1; exact Option.map_eq_some_iff.1 hs1
 rw [hs,he]
 refine ya0 (yKF hc ?_)
 refine (hR.sl yd8).ix (i:=0) hq0 fun ad had => ydA (x:=some ⟨q0.p,0,none⟩) (by simpa [add_zero] using had 0 _ rfl) ?_
 refine (yfN (hS q0 (List.mem_of_getElem? hq0))).mono ?_
 rintro _ w8 ⟨rfl,M8⟩
 refine ⟨_,_,rfl,yaF.of0 M8,?_⟩
 intro w25 A25 h25
 have N25:=M8.go0 A25.mod (by simp)
 refine (yfP h25 (hR.keep0 N25) hq1 hl).mono ?_
 rintro _ w26 ⟨rfl,M26⟩
 have N26:=N25.go0 M26 (by simp)
 refine ⟨_,rfl,_,_,_,_,M26.keep0 h25,?_⟩
 refine (yfN ((hS q1 (List.mem_of_getElem? hq1)).keep0 N26)).mono ?_
 rintro _ w32 ⟨rfl,M32⟩
 exact ⟨_,_,rfl,_,_,_,_,M32.keep0 (M26.keep0 h25),rfl,N26.go0 M32 (by simp)⟩
end Go.Proofs.YteldhjiiocmicaaGreat
namespace Go.Proofs.YteldhjiiocmicaaGreat
open Go Go.RowKit Go.Maps Go.MapKept
set_option linter.unusedVariables false
set_option linter.unusedSimpArgs false
theorem Row.same {α:Type} {w:World} {base T sz:Nat} {enc:α → List Value} {a:Option Addr} {n c:Nat} {l l':List α} (h:Row w base T sz enc a n c l) (e:l'.map enc = l.map enc):Row w base T sz enc a n c l':=by
 obtain ⟨hn,ho⟩:=h
 have e1:l'.length = l.length:=by simpa using congrArg List.length e
 have e2:l'.flatMap enc = l.flatMap enc:=by rw [List.flatMap_def,List.flatMap_def,e]
 exact ⟨by omega,by rw [e2]; exact ho⟩
theorem yk1 {α β:Type} {f:α → β} {l:List α} {k:Nat} {q q':α} (h:l[k]? = some q) (e:f q' = f q):(l.set k q').map f = l.map f:=by
 obtain ⟨h1,h2⟩:=List.getElem?_eq_some_iff.1 h
 rw [List.map_set,e,← h2]
 have:(l.map f)[k]'(by simpa using h1) = f l[k]:=by simp
 rw [← this,List.set_getElem_self]
theorem yGl:(Tryz.prog.info? 78).map (fun i => (i.zero,i.size,i.bytes)) = some (some (.pointer none),1,8):=by kernel_rfl
theorem yyI {w:World} {B:Nat} {f:Sl} {l:List SegV} {y:SegV} {bs:List Nat} {F:Option Addr → Nat → Nat → World → Prop} (hR:Row w B 78 1 ygF f.a f.n f.c l) (hl:l.length ≤ 1000000) (hB:B ≤ w.heap.size) (hbs:∀ b ∈ bs,b ∉ yaN f.a)
  (hF:∀ a' c' w',Row w' B 78 1 ygF a' (f.n + 1) c' (l ++ [y]) → Mod (yaN f.a) w w' → (∀ k ∈ yaN a',k ∈ yaN f.a ∨ w.heap.size ≤ k) → F a' (f.n + 1) c' w') :
  al w (.cells (ygF y).toArray 78) fun b w1 => ybC pP (Builtin.append_ #[81,81] 81 #[.slice f.a f.n f.c,.slice (some ⟨b,0,none⟩) 1 1]) w1 fun a n c w2 => yaF bs w1 w2 ∧ F a n c w2:=by
 refine yd6 fun b w1 c1 M1 f1 => ?_
 have s1:=M1.size
 obtain ⟨i0,hi0,hz0,hz1,hz2⟩:=info_parts yGl
 refine ydF (x:=y) (hR.keep0 M1) Tryz.underlying81 hi0 hz0 hz1 hz2 rfl (by decide) c1 rfl (ytG _) (by omega) (by unfold maxLen; omega) (by omega) fun a' c' w8 hR8 hM8 hk8 => ?_
 have M8:=hM8 _ (ycN f.a)
 refine ⟨yaF.of M8 fun b hb _ => hbs b hb,hF a' c' w8 hR8 ?_ fun k hk => ?_⟩
 ·exact (M1.trans M8).less fun k hk _ => by simpa using hk
 ·rcases hk8 k hk with h | h
  ·exact .inl h
  ·exact .inr (by omega)
def yfD (s:SegS) (rs:List PRec):SegS:=⟨s.base,s.next + rs.length,s.l ++ ynT s.next rs⟩
def yn0 (room:Int) (L:List SegS) (rs:List PRec):Int:=if yoW rs ≠ 0 then yoW rs else if (rs.length:Int) > room then 2 else if yfO L + rs.length > 1099511627776 then 50 else 0
def ygO (room:Int) (L:List SegS) (rs:List PRec):List SegS:=match L[L.length - 1]? with
 | none => L
 | some s => if 0 < rs.length ∧ (s.l.length:Int) + rs.length > room then L ++ [yfD ⟨s.next,s.next,[]⟩ rs] else L.set (L.length - 1) (yfD s rs)
theorem ylL:∀ (n:Int) (rs:List PRec),∀ f ∈ ynT n rs,n ≤ f.off ∧ f.off < n + rs.length
 | _,[],f,hf => by simp [ynT] at hf
 | n,r :: rs,f,hf => by
  rw [ynT] at hf
  rcases List.mem_cons.1 hf with rfl | hf
  ·simp; omega
  ·have:=ylL (n + 1) rs f hf
   simp; omega
theorem yyJ:∀ (n:Int) (rs:List PRec),(ynT n rs).Pairwise fun a b => a.off < b.off
 | _,[] => by simp [ynT]
 | n,r :: rs => by
  rw [ynT]
  refine List.pairwise_cons.2 ⟨fun f hf => ?_,yyJ (n + 1) rs⟩
  have:=ylL (n + 1) rs f hf
  simp only; omega
theorem SegOk.app {room:Int} {s:SegS} (h:SegOk room s) {rs:List PRec} (h1:(s.l.length:Int) + rs.length ≤ room) (h2:s.next + rs.length ≤ 1099511627776):SegOk room (yfD s rs):=by
 have:=h.mid
 refine ⟨h.lo,by simp [yfD]; omega,h2,by simp [yfD,yqE]; omega,fun f hf => ?_,?_⟩
 ·rcases List.mem_append.1 hf with hf | hf
  ·have:=h.off f hf
   simp only [yfD]; omega
  ·have:=ylL _ _ f hf
   simp only [yfD]; omega
 ·refine List.pairwise_append.2 ⟨h.inc,yyJ _ _,fun a ha b hb => ?_⟩
  have:=h.off a ha
  have:=ylL _ _ b hb
  omega
theorem LogOk.set {room:Int} {L:List SegS} (h:LogOk room L) {k:Nat} {s s':SegS} (hk:L[k]? = some s) (ho:SegOk room s') (hb:s'.base = s.base) (hn:k + 1 < L.length → s'.next = s.next):LogOk room (L.set k s'):=by
 obtain ⟨hk1,hk2⟩:=List.getElem?_eq_some_iff.1 hk
 refine ⟨by simp; exact h.ne,h.r1,h.r2,fun x hx => ?_,fun i x y hx hy => ?_⟩
 ·rcases List.mem_or_eq_of_mem_set hx with hx | rfl
  ·exact h.segs x hx
  ·exact ho
 ·rw [List.getElem?_set] at hx hy
  by_cases e1:k = i
  ·subst e1
   rw [if_pos rfl,if_pos hk1] at hx
   rw [if_neg (by omega)] at hy
   cases hx
   have hlt:=(List.getElem?_eq_some_iff.1 hy).1
   rw [hn hlt]
   exact h.chain k s y hk hy
  ·rw [if_neg e1] at hx
   by_cases e2:k = i + 1
   ·subst e2
    rw [if_pos rfl,if_pos hk1] at hy
    cases hy
    rw [hb]; exact h.chain i x s hx hk
   ·rw [if_neg e2] at hy
    exact h.chain i x y hx hy
theorem LogOk.push {room:Int} {L:List SegS} (h:LogOk room L) {t:SegS} (ho:SegOk room t) (hb:t.base = yfO L):LogOk room (L ++ [t]):=by
 obtain ⟨s1,hs1,he,_⟩:=h.lst
 have hpos:=List.length_pos_iff.2 h.ne
 refine ⟨by simp,h.r1,h.r2,fun x hx => ?_,fun i x y hx hy => ?_⟩
 ·rcases List.mem_append.1 hx with hx | hx
  ·exact h.segs x hx
  ·simp at hx; subst hx; exact ho
 ·have hlt:=(List.getElem?_eq_some_iff.1 hy).1
  rw [List.length_append,List.length_singleton] at hlt
  rw [List.getElem?_append_left (by omega)] at hx
  by_cases e:i + 1 < L.length
  ·rw [List.getElem?_append_left e] at hy
   exact h.chain i x y hx hy
  ·have e:i = L.length - 1:=by omega
   subst e
   rw [hs1] at hx; cases hx
   rw [show L.length - 1 + 1 = L.length by omega,List.getElem?_append_right (Nat.le_refl _),Nat.sub_self] at hy
   cases hy
   rw [hb,he]
theorem LogOk.app {room:Int} {L:List SegS} (h:LogOk room L) {rs:List PRec} (he:yn0 room L rs = 0):LogOk room (ygO room L rs):=by
 obtain ⟨s1,hs1,hend,ho⟩:=h.lst
 have hr:(rs.length:Int) ≤ room ∧ yfO L + rs.length ≤ 1099511627776:=by
  unfold yn0 at he
  split at he
  ·contradiction
  ·split at he
   ·cases he
   ·split at he
    ·cases he
    ·omega
 rw [ygO,hs1]
 simp only
 split
 ·have:=h.r1
  have o1:SegOk room ⟨s1.next,s1.next,[]⟩:=⟨by have:=ho.lo; have:=ho.mid; simp only; omega,Int.le_refl _,ho.hi,by simp; omega,by simp,by simp⟩
  exact h.push (o1.app (by simpa using hr.1) (by simp only; omega)) hend.symm
 ·rename_i hn
  have e:(s1.l.length:Int) + rs.length ≤ room:=by
   by_cases g:0 < rs.length
   ·omega
   ·have:=ho.len; omega
  exact h.set hs1 (ho.app e (by omega)) rfl (fun hlt => by have:=(List.getElem?_eq_some_iff.1 hs1).1; omega)
theorem yAj (room:Int) (L:List SegS) (rs:List PRec):(ygO room L rs).length ≤ L.length + 1:=by
 unfold ygO
 split
 ·omega
 ·split <;> simp
set_option maxHeartbeats 1000000 in
theorem ytJ {w:World} {b:Nat} {room:Int} {sl:Sl} {qs:List SegV} {q:SegV} (hc:w.heap[b]? = some (.cells #[.int .i64 room,.slice sl.a sl.n sl.c] 83)) (hR:Row w 0 78 1 ygF sl.a sl.n sl.c qs) (hS:∀ q ∈ qs,yb5 w q.p q.s.base q.s.next q.s.l q.F) (hP:qs.Pairwise (fun a b => ydN a.F b.F)) {k:Nat} (hq:qs[k]? = some q)
  {a:Option Addr} {n c:Nat} {rs:List PRec} (hr:∀ w',Mod q.F w w' → ybF w' 4 ymJ a n rs) (hrl:rs.length ≤ 1000000) (ho:SegOk 64 q.s) (hE:yBJ q.s.next q.s.l rs = 0) :
  Calls pP 96 #[.pointer (some ⟨q.p,0,none⟩),.slice a n c] w fun e w' => e = .returned (.tuple #[.int .i64 q.s.next,.int .i64 0]) ∧ w'.heap[b]? = some (.cells #[.int .i64 room,.slice sl.a sl.n sl.c] 83) ∧
   ∃ F',yc6 w' b room ((qs.map (·.s)).set k (yfD q.s rs)) F' ∧ Mod (b :: (yaN sl.a ++ qs.flatMap (·.F))) w w' ∧ ybG w (b :: (yaN sl.a ++ qs.flatMap (·.F))) F':=by
 have hqm:=List.mem_of_getElem? hq
 have hSq:=hS q hqm
 have:=ho.lo
 have:=ho.mid
 have:=ho.hi
 have:=ho.len
 refine (ytA hSq hr hrl (by omega) (by omega) (by omega)).mono ?_
 rintro _ w' ⟨rfl,h⟩
 rw [if_pos hE] at h
 obtain ⟨F1,hS1,M1,G1⟩:=h
 have s1:=M1.size
 rw [if_pos hE,hE]
 have inF:∀ x ∈ qs,∀ z ∈ x.F,z ∈ b :: (yaN sl.a ++ qs.flatMap (·.F)):=fun x hx z hz => by
  simp only [List.mem_cons,List.mem_append,List.mem_flatMap]; exact .inr (.inr ⟨x,hx,hz⟩)
 have hb:b ∉ q.F:=fun hb => by
  rcases hSq.types b hb _ _ hc with e | e | e <;> exact absurd e (by decide)
 have hrow:∀ z ∈ q.F,z ∉ yaN sl.a:=fun z hz hz' => by
  obtain ⟨_,_,cur,h1⟩:=yaP hR z hz'
  rcases hSq.types z hz _ _ h1 with e | e | e <;> exact absurd e (by decide)
 have hc':=M1.keep hc hb
 have ltA:∀ x ∈ qs,∀ z ∈ x.F,z < w.heap.size:=fun x hx => (hS x hx).lt
 refine ⟨rfl,hc',_,⟨sl,qs.set k ⟨q.p,yfD q.s rs,F1⟩,hc',(yaA hR M1 hrow).same (yk1 hq rfl),fun x hx => ?_,?_,by rw [List.map_set],rfl⟩,M1.less fun z hz _ => inF q hqm z hz,fun z hz => ?_⟩
 ·rcases yeF hx with rfl | ⟨j,hj,hxj⟩
  ·exact hS1
  ·exact (hS x (List.mem_of_getElem? hxj)).keep M1 fun z hz => (yi0 hP (fun e => hj e.symm) hq hxj) z hz
 ·exact yi1 hP hq ltA G1
 ·simp only [List.mem_cons,List.mem_append,List.mem_flatMap] at hz
  rcases hz with rfl | hz | ⟨x,hx,hz⟩
  ·exact .inl (by simp)
  ·exact .inl (by simp [hz])
  ·rcases yeF hx with rfl | ⟨j,hj,hxj⟩
   ·rcases G1 z hz with h1 | h1
    ·exact .inl (inF q hqm z h1)
    ·exact .inr h1
   ·exact .inl (inF x (List.mem_of_getElem? hxj) z hz)
end Go.Proofs.YteldhjiiocmicaaGreat
namespace Go.Proofs.YteldhjiiocmicaaGreat
open Go Go.RowKit Go.Maps Go.MapKept
set_option linter.unusedVariables false
set_option linter.unusedSimpArgs false
theorem ytK {next:Int} {l:List PFound} {rs:List PRec} (h0:yoW rs = 0) (h1:l.length + rs.length ≤ 64) (h2:next + rs.length ≤ 1099511627776):yBJ next l rs = 0:=by
 rw [yBJ,if_neg (by simpa using h0),if_neg (by omega)]
theorem SegOk.wide {room:Int} {s:SegS} (h:SegOk room s) (hr:room ≤ 64):SegOk 64 s:=⟨h.lo,h.mid,h.hi,by have:=h.len; omega,h.off,h.inc⟩
set_option maxRecDepth 10000 in
set_option maxHeartbeats 2000000 in
theorem ytL {w:World} {b:Nat} {room:Int} {L:List SegS} {F:List Nat} (h:yc6 w b room L F) (ok:LogOk room L) (hl:L.length ≤ 100000) {a:Option Addr} {n c:Nat} {rs:List PRec} (hr:∀ w',Mod F w w' → ybF w' 4 ymJ a n rs) (hrl:rs.length ≤ 1000000) :
  Calls pP 42 #[.pointer (some ⟨b,0,none⟩),.slice a n c] w fun e w' => e = .returned (.tuple #[.int .i64 (if yn0 room L rs = 0 then yfO L else 0),.int .i64 (yn0 room L rs)]) ∧
   ∃ F',yc6 w' b room (if yn0 room L rs = 0 then ygO room L rs else L) F' ∧ Mod F w w' ∧ ybG w F F':=by
 obtain ⟨s1,hs1,hend,ho⟩:=ok.lst
 have r1:=ok.r1
 have r2:=ok.r2
 have hlo:=ho.lo
 have hmid:=ho.mid
 have hhi:=ho.hi
 have hlen:=ho.len
 have h':=h
 obtain ⟨sl,qs,hc,hR,hS,hP,rfl,rfl⟩:=h
 have hr0:=hr w ((Mod.refl w).less (by simp))
 have hn:=hr0.1
 have hRn:=hR.1
 rw [List.length_map] at hs1 hl
 obtain ⟨q1,hq1,rfl⟩:∃ q,qs[qs.length - 1]? = some q ∧ q.s = s1:=by rw [List.getElem?_map] at hs1; exact Option.map_eq_some_iff.1 hs1
 have hq1m:=List.mem_of_getElem? hq1
 have ltA:∀ x ∈ qs,∀ z ∈ x.F,z < w.heap.size:=fun x hx => (hS x hx).lt
 have ltF:=h'.lt
 refine ya0 (yKB hc ?_)
 refine yCR (fun mm x w' => ∃ k:Nat,x = k ∧ k ≤ rs.length ∧ (∀ y ∈ rs.take k,yjS y = 0) ∧ Mod [] w w' ∧ mm = rs.length - k) rs.length ⟨0,rfl,by omega,by simp,Mod.refl _,rfl⟩ ?_
 rintro mm x w1 ⟨k,rfl,hk,hb,M1,rfl⟩
 refine yaC (fun hlt => ?_) fun hge => ?_
 ·obtain ⟨r,hrk⟩:∃ r,rs[k]? = some r:=⟨_,List.getElem?_eq_getElem (by omega)⟩
  refine (hr0.keep0 M1).ix hrk fun q hq => ybI (by simpa [add_zero] using hq 0 _ rfl) (yaL (hq 1 _ rfl) (ybI (hq 2 _ rfl) (yaL (hq 3 _ rfl) ?_)))
  intro b12 f12 w16 A16
  have N16:=M1.go0 A16.mod (by simp)
  refine (yhY r w16).mono ?_
  rintro _ w17 ⟨rfl,M17⟩
  have N17:=N16.go0 M17 (by simp)
  refine ⟨_,rfl,yaF.of0 M17,yaE (fun g => ?_) fun g => ?_⟩
  ·have g:yjS r ≠ 0:=by simpa using g
   have e:=yyC hrk g hb
   have el:yn0 room (qs.map (·.s)) rs = yjS r:=by rw [yn0,e,if_pos g]
   intro w19 A19 _
   have N19:=N17.go0 A19.mod (by simp)
   rw [el,if_neg g,if_neg g]
   exact ⟨rfl,_,h'.keep0 N19,N19.less (by simp),ybG.refl _ _⟩
  ·exact yCQ (rs.length - (k + 1)) (by omega) ⟨k + 1,by rw [yaI (by omega) (by omega)]; omega,by omega,fun y hy => by
    rw [ybO hrk] at hy
    rcases List.mem_append.1 hy with hy | hy
    ·exact hb y hy
    ·simp at hy; subst hy; simpa using g,N17,rfl⟩
 have hk:k = rs.length:=by omega
 subst hk
 rw [List.take_length] at hb
 have he0:=ys9 hb
 intro w28 A28 h28
 have N28:=M1.go0 A28.mod (by simp)
 refine (yfQ (h'.keep0 N28) ok (by simp; omega)).mono ?_
 rintro _ w29 ⟨rfl,M29⟩
 have N29:=N28.go0 M29 (by simp)
 refine ⟨_,_,rfl,_,_,_,_,M29.keep0 h28,?_⟩
 have h29:=h'.keep0 N29
 have e2:IntKind.wrap .i64 (yfO (qs.map (·.s)) + (n:Int)) = yfO (qs.map (·.s)) + rs.length:=by rw [yaI (by omega) (by omega)]; omega
 refine yaC (fun g1 => ?_) fun g1 => ?_
 ·have el:yn0 room (qs.map (·.s)) rs = 2:=by rw [yn0,if_neg (by simpa using he0),if_pos (by omega)]
  rw [el,if_neg (by decide),if_neg (by decide)]
  exact ⟨rfl,_,h29,N29.less (by simp),ybG.refl _ _⟩
 rw [e2]
 refine yaC (fun g2 => ?_) fun g2 => ?_
 ·have el:yn0 room (qs.map (·.s)) rs = 50:=by rw [yn0,if_neg (by simpa using he0),if_neg (by omega),if_pos (by omega)]
  rw [el,if_neg (by decide),if_neg (by decide)]
  exact ⟨rfl,_,h29,N29.less (by simp),ybG.refl _ _⟩
 have el:yn0 room (qs.map (·.s)) rs = 0:=by rw [yn0,if_neg (by simpa using he0),if_neg (by omega),if_neg (by omega)]
 rw [el,if_pos rfl,if_pos rfl]
 have hApp:ygO room (qs.map (·.s)) rs = if 0 < rs.length ∧ (q1.s.l.length:Int) + rs.length > room then qs.map (·.s) ++ [yfD ⟨q1.s.next,q1.s.next,[]⟩ rs] else (qs.map (·.s)).set (qs.length - 1) (yfD q1.s rs):=by
  rw [ygO,List.length_map,hs1]
 have inF:∀ x ∈ qs,∀ z ∈ x.F,z ∈ b :: (yaN sl.a ++ qs.flatMap (·.F)):=fun x hx z hz => by
  simp only [List.mem_cons,List.mem_append,List.mem_flatMap]; exact .inr (.inr ⟨x,hx,hz⟩)
 have tail:∀ {w3:World},Mod [] w w3 → ¬ (0 < rs.length ∧ (q1.s.l.length:Int) + rs.length > room) → Calls pP 96 #[.pointer (some ⟨q1.p,0,none⟩),.slice a n c] w3 fun e w' => e = .returned (.tuple #[.int .i64 (yfO (qs.map (·.s))),.int .i64 0]) ∧ w'.heap[b]? = some (.cells #[.int .i64 room,.slice sl.a sl.n sl.c] 83) ∧
   ∃ F',yc6 w' b room (ygO room (qs.map (·.s)) rs) F' ∧ Mod (b :: (yaN sl.a ++ qs.flatMap (·.F))) w w' ∧ ybG w (b :: (yaN sl.a ++ qs.flatMap (·.F))) F':=by
  intro w3 N3 hno
  have s3:=N3.size
  refine (ytJ (N3.keep0 hc) (hR.keep0 N3) (fun q hq => (hS q hq).keep0 N3) hP hq1 (fun w' M => hr w' ?_) hrl (ho.wide r2) (ytK he0 (by omega) (by omega))).mono ?_
  ·exact (N3.trans M).less fun z hz _ => inF q1 hq1m z (by simpa using hz)
  ·rintro _ w' ⟨rfl,hc',F',hL',M',G'⟩
   rw [hApp,if_neg hno,hend]
   exact ⟨rfl,hc',F',hL',(N3.trans M').less fun z hz _ => by simpa using hz,fun z hz => by
    rcases G' z hz with h1 | h1
    ·exact .inl h1
    ·exact .inr (by omega)⟩
 refine yaC (fun g3 => ?_) fun g3 => ?_
 ·intro w36 A36 h36
  have N36:=N29.go0 A36.mod (by simp)
  refine (yfP h36 (hR.keep0 N36) hq1 (by omega)).mono ?_
  rintro _ w37 ⟨rfl,M37⟩
  have N37:=N36.go0 M37 (by simp)
  refine ⟨_,rfl,_,_,_,_,M37.keep0 h36,rfl,?_⟩
  refine (yCP ((hS q1 hq1m).keep0 N37)).mono ?_
  rintro _ w43 ⟨rfl,M43⟩
  have N43:=N37.go0 M43 (by simp)
  have s43:=N43.size
  refine ⟨_,rfl,_,_,_,_,M43.keep0 (M37.keep0 h36),rfl,?_⟩
  have e4:IntKind.wrap .i64 ((q1.s.l.length:Int) + (n:Int)) = q1.s.l.length + rs.length:=by rw [yaI (by omega) (by omega)]; omega
  rw [e4]
  refine yaC (fun g4 => ?_) fun g4 => ?_
  ·have hN:=ytC (yfO (qs.map (·.s))) w43
   refine hN.mono ?_
   intro e5 w56 hv
   obtain ⟨v5,hv5,M56,hv⟩:=hv
   subst hv5
   have hmay:ygC (yfO (qs.map (·.s))):=⟨by omega,by omega⟩
   rw [if_pos hmay] at hv
   obtain ⟨p,Fn,rfl,hSn,hFn⟩:=hv
   have N56:=N43.go0 M56 (by simp)
   have s56:=M56.size
   refine ⟨_,_,rfl,_,_,_,_,M56.keep0 (M43.keep0 (M37.keep0 h36)),?_⟩
   have hR56:=hR.keep0 N56
   have hbr:b ∉ yaN sl.a:=yc5 hR hc (by decide)
   have ltR:=yaG hR
   refine yyI (y:=⟨p,⟨yfO (qs.map (·.s)),yfO (qs.map (·.s)),[]⟩,Fn⟩) hR56 (by omega) (by omega) (by simpa using hbr) fun a72 c74 w71 hR71 M71 hk71 => ?_
   have s71:=M71.size
   intro w89 A89 h89
   have s89:=A89.mod.size
   have N71:Mod (yaN sl.a) w w71:=(N56.trans M71).less fun z hz _ => by simpa using hz
   have N89:Mod (b :: yaN sl.a) w w89:=(N71.trans A89.mod).less fun z hz _ => by simp at hz ⊢; rcases hz with h1 | h1 <;> simp [h1]
   have hb72:b ∉ yaN a72:=fun hb => by
    rcases hk71 b hb with h1 | h1
    ·exact hbr h1
    ·have:=yaH hc; omega
   have hR89:=yaA hR71 A89.mod (by simpa using hb72)
   have apR:∀ q ∈ qs,∀ z ∈ b :: yaN sl.a,z ∉ q.F:=fun q hq z hz hz' => by
    rcases List.mem_cons.1 hz with rfl | hz
    ·rcases (hS q hq).types z hz' _ _ hc with e | e | e <;> exact absurd e (by decide)
    ·obtain ⟨_,_,cur,h1⟩:=yaP hR z hz
     rcases (hS q hq).types z hz' _ _ h1 with e | e | e <;> exact absurd e (by decide)
   have hS89:∀ q ∈ qs ++ [(⟨p,⟨yfO (qs.map (·.s)),yfO (qs.map (·.s)),[]⟩,Fn⟩:SegV)],yb5 w89 q.p q.s.base q.s.next q.s.l q.F:=by
    intro q hq
    rcases List.mem_append.1 hq with hq | hq
    ·exact (hS q hq).keep N89 (apR q hq)
    ·simp at hq; subst hq
     have ltb:=yaH hc
     have hSn71:yb5 w71 p (yfO (qs.map (·.s))) (yfO (qs.map (·.s))) [] Fn:=hSn.keep M71 fun z hz hz' => by
      have:=hFn z hz'; have:=(ltR z hz).2; omega
     exact hSn71.keep A89.mod fun z hz hz' => by
      simp at hz; subst hz
      have:=hFn z hz'; omega
   have hP89:(qs ++ [(⟨p,⟨yfO (qs.map (·.s)),yfO (qs.map (·.s)),[]⟩,Fn⟩:SegV)]).Pairwise (fun a b => ydN a.F b.F) :=
    ytF (w:=w) hP ltA (fun z hz => by have:=hFn z hz; omega)
   have hq89:(qs ++ [(⟨p,⟨yfO (qs.map (·.s)),yfO (qs.map (·.s)),[]⟩,Fn⟩:SegV)])[qs.length]? = some ⟨p,⟨yfO (qs.map (·.s)),yfO (qs.map (·.s)),[]⟩,Fn⟩:=by simp
   refine (yfP (sl:=⟨a72,sl.n + 1,c74⟩) h89 hR89 (q:=⟨p,⟨yfO (qs.map (·.s)),yfO (qs.map (·.s)),[]⟩,Fn⟩) (by simp) (by simp; omega)).mono ?_
   rintro _ w90 ⟨rfl,M90⟩
   have s90:=M90.size
   refine ⟨_,rfl,_,_,_,_,M90.keep0 h89,?_⟩
   refine (ytJ (sl:=⟨a72,sl.n + 1,c74⟩) (M90.keep0 h89) (hR89.keep0 M90) (fun q hq => (hS89 q hq).keep0 M90) hP89 hq89 (fun w' M => hr w' ?_) hrl (⟨by simp only; omega,Int.le_refl _,by simp only; omega,by simp,by simp,by simp⟩) (ytK he0 (by simp; omega) (by simp only; omega))).mono ?_
   ·exact ((N89.trans M90).trans M).less fun z hz hz' => by
     simp only [List.append_nil,List.mem_append,List.mem_cons] at hz
     rcases hz with (rfl | hz) | hz
     ·simp
     ·simp [hz]
     ·have:=hFn z hz; omega
   ·rintro _ w96 ⟨rfl,hc96,F96,hL96,M96,G96⟩
    refine ⟨_,_,rfl,_,_,_,_,hc96,?_⟩
    rw [hApp,if_pos ⟨by omega,by omega⟩]
    have eL:((qs ++ [(⟨p,⟨yfO (qs.map (·.s)),yfO (qs.map (·.s)),[]⟩,Fn⟩:SegV)]).map (·.s)).set qs.length (yfD ⟨yfO (qs.map (·.s)),yfO (qs.map (·.s)),[]⟩ rs) = qs.map (·.s) ++ [yfD ⟨q1.s.next,q1.s.next,[]⟩ rs]:=by
     rw [List.map_append,List.set_append_right _ _ (by simp)]
     simp [hend]
    rw [eL] at hL96
    have G:∀ z ∈ b :: (yaN a72 ++ (qs ++ [(⟨p,⟨yfO (qs.map (·.s)),yfO (qs.map (·.s)),[]⟩,Fn⟩:SegV)]).flatMap (·.F)),z ∈ b :: (yaN sl.a ++ qs.flatMap (·.F)) ∨ w.heap.size ≤ z:=fun z hz => by
     simp only [List.flatMap_append,List.mem_cons,List.mem_append,List.flatMap_cons,List.flatMap_nil,List.append_nil] at hz ⊢
     rcases hz with rfl | hz | hz | hz
     ·exact .inl (.inl rfl)
     ·rcases hk71 z hz with h1 | h1
      ·exact .inl (.inr (.inl h1))
      ·exact .inr (by omega)
     ·exact .inl (.inr (.inr hz))
     ·have:=hFn z hz; exact .inr (by omega)
    refine ⟨rfl,F96,hL96,?_,fun z hz => ?_⟩
    ·exact ((N89.trans M90).trans M96).less fun z hz hz' => by
      simp only [List.append_nil,List.mem_append] at hz
      rcases hz with hz | hz
      ·simp only [List.mem_cons,List.mem_append] at hz ⊢
       rcases hz with h1 | h1 <;> simp [h1]
      ·rcases G z hz with h1 | h1
       ·exact h1
       ·omega
    ·rcases G96 z hz with h1 | h1
     ·exact G z h1
     ·exact .inr (by omega)
  ·refine (yfP (M43.keep0 (M37.keep0 h36)) (hR.keep0 N43) hq1 (by omega)).mono ?_
   rintro _ w116 ⟨rfl,M116⟩
   refine ⟨_,rfl,_,_,_,_,M116.keep0 (M43.keep0 (M37.keep0 h36)),?_⟩
   refine (tail (N43.go0 M116 (by simp)) (by omega)).mono ?_
   rintro _ w122 ⟨rfl,hc122,hR122⟩
   exact ⟨_,_,rfl,_,_,_,_,hc122,rfl,hR122⟩
 ·intro w143 A143 h143
  have N143:=N29.go0 A143.mod (by simp)
  refine (yfP h143 (hR.keep0 N143) hq1 (by omega)).mono ?_
  rintro _ w144 ⟨rfl,M144⟩
  refine ⟨_,rfl,_,_,_,_,M144.keep0 h143,?_⟩
  refine (tail (N143.go0 M144 (by simp)) (by omega)).mono ?_
  rintro _ w150 ⟨rfl,hc150,hR150⟩
  exact ⟨_,_,rfl,_,_,_,_,hc150,rfl,hR150⟩
end Go.Proofs.YteldhjiiocmicaaGreat
namespace Go.Proofs.YteldhjiiocmicaaGreat
open Go Go.RowKit Go.Maps Go.MapKept
set_option linter.unusedVariables false
set_option linter.unusedSimpArgs false
theorem ytM (l:List PFound) (from_ n:Int):(yAf l from_ n).length ≤ n.toNat:=by unfold yAf; rw [List.length_take]; omega
def ygD (from_ n:Int) (acc:List PFound) (s:SegS):List PFound:=if from_ < s.next ∧ (acc.length:Int) < n then acc ++ yAf s.l from_ (n - acc.length) else acc
def yjW (L:List SegS) (from_ n:Int):List PFound:=L.foldl (ygD from_ n) []
def ydC (L:List SegS) (from_:Int):Int:=if from_ < yk0 L then 60 else if from_ > yfO L then 61 else 0
theorem yAk {from_ n:Int} {acc:List PFound} {s:SegS} (h:(acc.length:Int) ≤ n ∨ acc = []):((ygD from_ n acc s).length:Int) ≤ n ∨ ygD from_ n acc s = []:=by
 unfold ygD
 split
 ·rename_i g
  have:=ytM s.l from_ (n - acc.length)
  rw [List.length_append]
  omega
 ·exact h
theorem yv3 (L:List SegS) (from_ n:Int):((yjW L from_ n).length:Int) ≤ n ∨ yjW L from_ n = []:=by
 unfold yjW
 suffices ∀ acc:List PFound,((acc.length:Int) ≤ n ∨ acc = []) → ((L.foldl (ygD from_ n) acc).length:Int) ≤ n ∨ L.foldl (ygD from_ n) acc = [] from this [] (.inr rfl)
 induction L with
 | nil => intro acc h; exact h
 | cons s r ih => intro acc h; exact ih _ (yAk h)
theorem yv4 {α β:Type} (f:β → α → β) (b:β) {l:List α} {k:Nat} {q:α} (h:l[k]? = some q):(l.take (k + 1)).foldl f b = f ((l.take k).foldl f b) q:=by
 rw [ybO h,List.foldl_append]; rfl
set_option maxHeartbeats 1000000 in
theorem yAl {w:World} {b:Nat} {room:Int} {L:List SegS} {F:List Nat} (h:yc6 w b room L F) (ok:LogOk room L) (hl:L.length ≤ 100000) (from_ n:Int) (hn:n ≤ 1000000) :
  Calls pP 44 #[.pointer (some ⟨b,0,none⟩),.int .i64 from_,.int .i64 n] w fun e w' => ∃ v,e = .returned v ∧ ∃ s':Sl,v = .tuple #[.slice s'.a s'.n s'.c,.int .i64 (ydC L from_)] ∧
   Row w' w.heap.size 76 5 yjH s'.a s'.n s'.c (if ydC L from_ = 0 then yjW L from_ n else []) ∧ Mod [] w w':=by
 have h':=h
 have r2:=ok.r2
 obtain ⟨sl,qs,hc,hR,hS,hP,rfl,hF⟩:=h
 rw [List.length_map] at hl
 have hRn:=hR.1
 refine yKE hc ?_
 intro w9 A9 h9
 refine (yfQ (h'.keep0 A9.mod) ok (by simp; omega)).mono ?_
 rintro _ w10 ⟨rfl,M10⟩
 have N10:=A9.mod.go0 M10 (by simp)
 refine ⟨_,_,rfl,_,_,_,_,M10.keep0 h9,?_⟩
 refine yaC (fun g => ?_) fun g => ?_
 ·have e:ydC (qs.map (·.s)) from_ = 60:=by rw [ydC,if_pos g]
  rw [e,if_neg (by decide)]
  exact ⟨ya8,rfl,Row.nil ..,N10⟩
 refine yaC (fun g2 => ?_) fun g2 => ?_
 ·have e:ydC (qs.map (·.s)) from_ = 61:=by rw [ydC,if_neg g,if_pos g2]
  rw [e,if_neg (by decide)]
  exact ⟨ya8,rfl,Row.nil ..,N10⟩
 have e:ydC (qs.map (·.s)) from_ = 0:=by rw [ydC,if_neg g,if_neg g2]
 rw [e,if_pos rfl]
 refine yCS (fun mm a n1 c x x0 a1 n2 c1 w' => ∃ k:Nat,x = k ∧ k ≤ qs.length ∧ Row w' w.heap.size 76 5 yjH a n1 c (((qs.map (·.s)).take k).foldl (ygD from_ n) []) ∧ Mod [] w w' ∧ mm = qs.length - k) qs.length ⟨0,rfl,by omega,Row.nil ..,N10,rfl⟩ ?_
 rintro mm a n1 c x x0 a1 n2 c1 w1 ⟨k,rfl,hk,hO,M1,rfl⟩
 intro h1
 have s1:=M1.size
 refine yaC (fun hlt => ?_) fun hge => ?_
 ·obtain ⟨q,hq⟩:∃ q,qs[k]? = some q:=⟨_,List.getElem?_eq_getElem (by omega)⟩
  have hqm:=List.mem_of_getElem? hq
  have hqs:(qs.map (·.s))[k]? = some q.s:=by simp [hq]
  have ho:=ok.segs q.s (List.mem_map.2 ⟨q,hqm,rfl⟩)
  have hstep:=yv4 (ygD from_ n) [] hqs
  have hOl:=hO.1
  have hlen:=yv3 ((qs.map (·.s)).take k) from_ n
  unfold yjW at hlen
  generalize hacc:((qs.map (·.s)).take k).foldl (ygD from_ n) [] = acc at hO hstep hlen
  rw [hacc] at hOl
  have hal:acc.length ≤ 1000000:=by
   rcases hlen with h1 | h1
   ·omega
   ·rw [h1]; simp
  have ek:IntKind.wrap .i64 ((k:Int) + 1) = ((k + 1:Nat):Int):=by rw [yaI (by omega) (by omega)]; omega
  rw [ek]
  refine ((hR.keep0 M1).sl yd8).ix hq fun ad had => ydA (x:=some ⟨q.p,0,none⟩) (by simpa [add_zero] using had 0 _ rfl) ?_
  refine (yfN ((hS q hqm).keep0 M1)).mono ?_
  rintro _ w28 ⟨rfl,M28⟩
  have N28:=M1.go0 M28 (by simp)
  have s28:=M28.size
  refine ⟨_,_,rfl,_,_,_,_,M28.keep0 h1,?_⟩
  refine yaC (fun ga => ?_) fun ga => ?_
  ·refine yaC (fun gb => ?_) fun gb => ?_
   ·have e2:IntKind.wrap .i64 (n - (n1:Int)) = n - acc.length:=by rw [yaI (by omega) (by omega)]; omega
    rw [e2]
    have hlq:=ho.len
    refine (yAg ((hS q hqm).keep0 N28) (by omega) ho.inc from_ (n - acc.length)).mono ?_
    rintro _ w47 ⟨_,rfl,s',rfl,hR47,M47⟩
    have N47:=N28.go0 M47 (by simp)
    have s47:=M47.size
    refine ⟨_,_,_,rfl,_,_,_,_,M47.keep0 (M28.keep0 h1),?_⟩
    obtain ⟨i0,hi,hz0,hz1,hz2⟩:=info_parts yJt
    have hrl:=ytM q.s.l from_ (n - acc.length)
    have hO47:=hO.keep0 (M28.go0 M47 (by simp))
    refine ydE hO47 Tryz.underlying27 hi hz0 hz1 hz2 rfl (by decide) (hR47.sl yd1) yd1 yxS (by omega) (by unfold maxLen; omega) (by omega) fun a' n' c' w55 hR55 hM55 => ?_
    have M55:=hM55 _ (ycN a)
    have fr:=hO47.newS
    have hbn:b ∉ yaN a:=fun hb => by have:=fr b hb; have:=yaH hc; omega
    refine ⟨yaF.of M55 (fun i hi _ => by simp at hi; subst hi; exact hbn),?_⟩
    refine ymU (qs.length - (k + 1)) (by omega) ⟨k + 1,rfl,by omega,?_,N47.go0 M55 fr,rfl⟩
    rw [hstep,ygD,if_pos ⟨ga,by omega⟩]
    exact hR55
   ·refine ymU (qs.length - (k + 1)) (by omega) ⟨k + 1,rfl,by omega,?_,N28,rfl⟩
    rw [hstep,ygD,if_neg (by omega)]
    exact hO.keep0 M28
  ·refine ymU (qs.length - (k + 1)) (by omega) ⟨k + 1,rfl,by omega,?_,N28,rfl⟩
   rw [hstep,ygD,if_neg (by omega)]
   exact hO.keep0 M28
 ·have hk:k = qs.length:=by omega
  subst hk
  rw [List.take_of_length_le (by simp)] at hO
  exact ⟨⟨a,n1,c⟩,rfl,hO,M1⟩
theorem yoZ {w:World} {s:Sl} {l:List SegV} (h:ybF w 1 ygF s.a s.n l) (hl:l.length ≤ 1000000) :
  Calls pP 101 #[.slice s.a s.n s.c] w fun e w' => ∃ v,e = .returned v ∧ ∃ s':Sl,v = .slice s'.a s'.n s'.c ∧ Row w' w.heap.size 78 1 ygF s'.a s'.n s'.c l ∧ Mod [] w w':=by
 refine yKJ ?_
 refine yaE (fun h0 => ?_) fun _ => ?_
 ·have hl0:l = []:=by
   cases l with
   | nil => rfl
   | cons x r => obtain ⟨ad,ha,_⟩:=h.2 0 x rfl; rw [ha] at h0; cases h0
  subst hl0
  exact ⟨⟨none,0,0⟩,rfl,Row.nil ..,Mod.refl _⟩
 ·refine yd6 fun b w1 c1 M1 f1 => ?_
  obtain ⟨i0,hi,hz0,hz1,hz2⟩:=info_parts yGl
  refine ydE (Row.fresh c1 f1) Tryz.underlying81 hi hz0 hz1 hz2 rfl (by decide) (h.keep0 M1) yd8 ytG (by simp; omega) (by simp; unfold maxLen; omega) M1.size fun a' n' c' w2 hR hM => ?_
  exact ⟨⟨a',n',c'⟩,rfl,by simpa using hR,M1.go0 (hM [b] (by simp)) (by simpa using f1)⟩
def yv5 (L:List SegS) (before:Int):Nat:=(L.dropLast.takeWhile fun s => decide (s.next ≤ before)).length
theorem yCV (L:List SegS) (before:Int):yv5 L before ≤ L.length - 1:=by
 unfold yv5
 have:=(List.takeWhile_sublist (p:=fun s:SegS => decide (s.next ≤ before)) (l:=L.dropLast)).length_le
 rw [List.length_dropLast] at this
 exact this
theorem yCW {L:List SegS} {before:Int} {k:Nat} (hk:k ≤ L.length - 1) (hb:∀ s ∈ L.take k,s.next ≤ before) (he:∀ s,L[k]? = some s → k < L.length - 1 → ¬ s.next ≤ before):yv5 L before = k:=by
 have e:L.dropLast = L.take k ++ (L.dropLast).drop k:=by
  have h1:=List.take_append_drop k L.dropLast
  have h2:L.dropLast.take k = L.take k:=by rw [List.dropLast_eq_take,List.take_take]; congr 1; omega
  rw [h2] at h1
  exact h1.symm
 rw [yv5,e,List.takeWhile_append_of_pos (fun a ha => decide_eq_true (hb a ha))]
 have e2:((L.dropLast).drop k).takeWhile (fun s => decide (s.next ≤ before)) = []:=by
  cases hx:(L.dropLast).drop k with
  | nil => rfl
  | cons s r =>
   have h1:(L.dropLast)[k]? = some s:=by
    have:=List.getElem?_drop (xs:=L.dropLast) (i:=k) (j:=0)
    rw [hx] at this; simpa using this.symm
   have hlt:=(List.getElem?_eq_some_iff.1 h1).1
   rw [List.length_dropLast] at hlt
   have h2:L[k]? = some s:=by
    rw [List.dropLast_eq_take,List.getElem?_take_of_lt hlt] at h1
    exact h1
   exact List.takeWhile_cons_of_neg (by simpa using he s h2 hlt)
 rw [e2,List.append_nil,List.length_take]; omega
theorem LogOk.drop {room:Int} {L:List SegS} (h:LogOk room L) {k:Nat} (hk:k < L.length):LogOk room (L.drop k):=by
 refine ⟨fun e => ?_,h.r1,h.r2,fun s hs => h.segs s (List.mem_of_mem_drop hs),fun i s t hs ht => ?_⟩
 ·have:=congrArg List.length e
  simp at this; omega
 ·rw [List.getElem?_drop] at hs ht
  exact h.chain (k + i) s t hs (by rw [← ht]; congr 1)
set_option maxHeartbeats 1000000 in
theorem ytN {w:World} {b:Nat} {room:Int} {L:List SegS} {F:List Nat} (h:yc6 w b room L F) (ok:LogOk room L) (hl:L.length ≤ 100000) (before:Int) :
  Calls pP 46 #[.pointer (some ⟨b,0,none⟩),.int .i64 before] w fun e w' => e = .returned (.int .i64 (yv5 L before:Nat)) ∧ ∃ F',yc6 w' b room (L.drop (yv5 L before)) F' ∧ Mod F w w' ∧ ybG w F F':=by
 obtain ⟨sl,qs,hc,hR,hS,hP,rfl,rfl⟩:=h
 rw [List.length_map] at hl
 have hRn:=hR.1
 have hpos:=List.length_pos_iff.2 ok.ne
 rw [List.length_map] at hpos
 have fin:∀ {k:Nat} {w1:World} {F:Option Addr → Nat → Nat → Prop},k ≤ qs.length → Mod [] w w1 → (∀ s':Sl,ybF w1 1 ygF s'.a s'.n (qs.drop k) → F s'.a s'.n s'.c) → slV sl.a sl.c (k:Int) (sl.n:Int) (sl.c:Int) 1 F:=fun {k w1 F} hk N hF =>
  yxU ((hR.keep0 N).sl yd8) (by omega) hR.cap fun a' c' hs => hF ⟨a',_,c'⟩ hs
 have out:∀ {k:Nat} {w1 w2 w3:World} {s':Sl},k ≤ qs.length → Mod [] w w1 → Row w2 w1.heap.size 78 1 ygF s'.a s'.n s'.c (qs.drop k) → Mod [] w1 w2 → Adv [b] [] w2 w3 → w3.heap[b]? = some (.cells #[.int .i64 room,.slice s'.a s'.n s'.c] 83) →
   ∃ F',yc6 w3 b room ((qs.map (·.s)).drop k) F' ∧ Mod (b :: (yaN sl.a ++ qs.flatMap (·.F))) w w3 ∧ ybG w (b :: (yaN sl.a ++ qs.flatMap (·.F))) F':=by
  intro k w1 w2 w3 s' hk N1 hR2 M2 A3 h3
  have s1:=N1.size
  have ltb:=yaH hc
  have nw:=hR2.newS
  have hbn:b ∉ yaN s'.a:=fun hb => by have:=nw b hb; omega
  have N3:Mod [b] w w3:=((N1.trans M2).trans A3.mod).less (by simp)
  refine ⟨_,⟨s',qs.drop k,h3,(yaA hR2 A3.mod (by simpa using hbn)).rebase (Nat.zero_le _),fun q hq => ?_,hP.sublist (List.drop_sublist k qs),by rw [List.map_drop],rfl⟩,N3.less (by simp),fun z hz => ?_⟩
  ·have hqm:=List.mem_of_mem_drop hq
   exact (hS q hqm).keep N3 fun z hz hz' => by
    simp at hz; subst hz
    rcases (hS q hqm).types z hz' _ _ hc with e | e | e <;> exact absurd e (by decide)
  ·simp only [List.mem_cons,List.mem_append,List.mem_flatMap] at hz ⊢
   rcases hz with rfl | hz | ⟨x,hx,hz⟩
   ·exact .inl (.inl rfl)
   ·have:=nw z hz; exact .inr (by omega)
   ·exact .inl (.inr (.inr ⟨x,List.mem_of_mem_drop hx,hz⟩))
 refine ya0 (yKI hc ?_)
 refine yCU (fun mm x w' => ∃ k:Nat,x = k ∧ k ≤ qs.length - 1 ∧ (∀ s ∈ (qs.map (·.s)).take k,s.next ≤ before) ∧ Mod [] w w' ∧ mm = qs.length - k) qs.length ⟨0,rfl,by omega,by simp,Mod.refl _,rfl⟩ ?_
 rintro mm x w1 ⟨k,rfl,hk,hb,M1,rfl⟩
 have e1:IntKind.wrap .i64 ((sl.n:Int) - 1) = ((qs.length - 1:Nat):Int):=by rw [yaI (by omega) (by omega)]; omega
 rw [e1]
 refine yaC (fun hlt => ?_) fun hge => ?_
 ·obtain ⟨q,hq⟩:∃ q,qs[k]? = some q:=⟨_,List.getElem?_eq_getElem (by omega)⟩
  have hqm:=List.mem_of_getElem? hq
  have hqs:(qs.map (·.s))[k]? = some q.s:=by simp [hq]
  refine ((hR.keep0 M1).sl yd8).ix hq fun ad had => ydA (x:=some ⟨q.p,0,none⟩) (by simpa [add_zero] using had 0 _ rfl) ?_
  refine (yfN ((hS q hqm).keep0 M1)).mono ?_
  rintro _ w8 ⟨rfl,M8⟩
  have N8:=M1.go0 M8 (by simp)
  refine ⟨_,_,rfl,yaF.of0 M8,?_⟩
  refine yaC (fun g => ?_) fun g => ?_
  ·have er:yv5 (qs.map (·.s)) before = k:=yCW (by simp; omega) hb fun s hs _ => by rw [hqs] at hs; cases hs; omega
   rw [er]
   refine fin (by omega) N8 fun s' hs' => ?_
   refine (yoZ hs' (by rw [List.length_drop]; omega)).mono ?_
   rintro _ w21 ⟨_,rfl,s2,rfl,hR21,M21⟩
   refine ⟨_,_,_,rfl,yaF.of0 M21,?_⟩
   intro w25 A25 h25
   exact ⟨rfl,out (by omega) N8 hR21 M21 A25 h25⟩
  ·refine yCT (qs.length - (k + 1)) (by omega) ⟨k + 1,by rw [yaI (by omega) (by omega)]; omega,by omega,?_,N8,rfl⟩
   rw [ybO hqs]
   intro s hs
   rcases List.mem_append.1 hs with hs | hs
   ·exact hb s hs
   ·simp at hs; subst hs; omega
 ·have er:yv5 (qs.map (·.s)) before = k:=yCW (by simp; omega) hb fun s hs h2 => by rw [List.length_map] at h2; omega
  rw [er]
  refine fin (by omega) M1 fun s' hs' => ?_
  refine (yoZ hs' (by rw [List.length_drop]; omega)).mono ?_
  rintro _ w36 ⟨_,rfl,s2,rfl,hR36,M36⟩
  refine ⟨_,_,_,rfl,yaF.of0 M36,?_⟩
  intro w40 A40 h40
  exact ⟨rfl,out (by omega) M1 hR36 M36 A40 h40⟩
end Go.Proofs.YteldhjiiocmicaaGreat
namespace Go.Proofs.YteldhjiiocmicaaGreat
open Go Go.RowKit
set_option linter.all false
section
set_option maxRecDepth 100000
variable {R:VWP} {w w0:World} {m:Nat} {i0 i1 i2 i3 i4 i5 i6 i7 i8 i9 j0 j1 j2 j3 j4 j5 j6 j7 j8 j9 k0 k1 k2 k3 k4 k5 k6 k7 k8 k9 l0 l1 l2 l3 l4 l5 l6 l7 l8 l9:Int} {s0 s1 s2 s3 s4 s5 s6 s7 s8 s9 t0 t1 t2 t3 t4 t5 t6 t7 t8 t9:BA} {n0 n1 n2 n3 n4 n5 n6 n7 n8 n9 o0 o1 o2 o3 o4 o5 o6 o7 o8 o9 p0 p1 p2 p3 p4 p5 p6 p7 p8 p9:Nat} {q0 q1 q2 q3 q4 q5 q6 q7 q8 q9 r0 r1 r2 r3 r4 r5 r6 r7 r8 r9:OA} {B0 B1 B2 B3 B4 B5 B6 B7 B8 B9:Bool} {M0 M1 M2 M3:Option Nat} {V0 V1 V2 V3 V4 V5:Value} {A0 A1 A2:Addr}
theorem yKM {a0:BA} (h :
 Calls pP 122 #[.string a0] w fun e w3 => ∃ t4,e = .returned (.bool t4) ∧
 brB t4 (
 brB (decide (i0 ≥ 1)) (
 R (.bool (decide (i0 ≤ 8))) w3)
 (
 R (.bool false) w3))
 (
 R (.bool false) w3)) :
 CR pP 83 #[.string a0,.int .i64 i0] w R :=
 yaB Tryz.wide_mixed (an:=[]) Tryz.func83 rfl rfl (by kernel_rfl) rfl (Eq.mpr (by kernel_rfl) h)
def yv6:LA:=⟨[0,0,1,0,1,1,1],[0,4,11,12,13],[],0,[]⟩
def yyK:List LA:=[yv6]
abbrev yKN:=dnF pP yyK (code Tryz.f58)
abbrev yNx:=yaR pP yyK (code Tryz.f58)
abbrev yKO (p:List Nat) (K:List Kh) (R:VWP):=yaR pP yyK (code Tryz.f58) p K (ybE pP Tryz.f58 [] R)
def ymV (a5:OA) (a7 a6:Nat) (a8 a0:OA) (a2 a1:Nat) (a3:Int):Int → List Value × List TB:=fun a4 => ([.slice a5 a7 a6,.pointer a8,.slice a0 a2 a1,.int .i64 a3,.int .i64 a4],[])
abbrev yCX (a4:OA) (a6 a5:Nat) (a7 a0:OA) (a2 a1:Nat) (a3:Int) (I:Nat → Int → World → Prop) (m:Nat):Kh:=KG (ymV a4 a6 a5 a7 a0 a2 a1 a3) (U1 I) m
theorem ytO {I:Nat → Int → World → Prop} (m':Nat) (h1:m' < m) (h2:I m' i1 w):KS (yCX q0 n0 n1 q1 q2 n2 n3 i0 I m) (ymV q0 n0 n1 q1 q2 n2 n3 i0 i1) w:=⟨m',h1,_,rfl,rfl,h2⟩
theorem yCY {a6:OA} {a4 a1:OA} (I:Nat → Int → World → Prop) (m0:Nat) (h0:I m0 i1 w0)
 (hr:∀ m a0 w,I m a0 w →
 brB (decide (a0 < i0)) (
 ixA a1 n2 a0 2 fun q9 =>
 ya7 w q9 fun b1 => ya1 .i64 w (Addr.add q9 1) fun b6 =>
 ∀ b0,w.heap.size ≤ b0 →
 ∀ b5,Adv [] [b0] w b5 →
 Calls pP 83 #[.string b1,.int .i64 b6] b5 fun e a9 => ∃ b8,e = .returned (.bool b8) ∧ yaF [b0] b5 a9 ∧
 brB (!b8) (
 R (.tuple #[.pointer none,.int .i64 1]) a9)
 (
 brB (decide (a0 > 0)) (
 ixA a6 n0 (IntKind.wrap .i64 (a0 - 1)) 2 fun c1 =>
 ya7 a9 c1 fun b7 =>
 brB ((Op.bytesLess b1.toList b7.toList) || (b1.toList == b7.toList)) (
 R (.tuple #[.pointer none,.int .i64 1]) a9)
 (
 yb7 a4 fun c2 =>
 ∀ b2,Adv [] [] a9 b2 →
 yd4 b2 c2 fun m20 =>
 ydM pP (Instr.mapUpdate 84 (.map m20) (.string b1) (.int .i64 b6)) b2 fun b9 => yaF [b0] b2 b9 ∧
 KS (yCX a6 n0 n1 a4 a1 n2 n3 i0 I m) (ymV a6 n0 n1 a4 a1 n2 n3 i0 (IntKind.wrap .i64 (a0 + 1))) b9))
 (
 yb7 a4 fun c3 =>
 ∀ b3,Adv [] [] a9 b3 →
 yd4 b3 c3 fun m24 =>
 ydM pP (Instr.mapUpdate 84 (.map m24) (.string b1) (.int .i64 b6)) b3 fun c0 => yaF [b0] b3 c0 ∧
 KS (yCX a6 n0 n1 a4 a1 n2 n3 i0 I m) (ymV a6 n0 n1 a4 a1 n2 n3 i0 (IntKind.wrap .i64 (a0 + 1))) c0)))
 (
 R (.tuple #[.pointer a4,.int .i64 0]) w)) :
 yaO yv6 (yKN 395 [0,0,1,0,1,1,1]) (yKO [1,1,1,0,1,0] [] R) (ymV a6 n0 n1 a4 a1 n2 n3 i0 i1) w0 :=
 lrule (ymV a6 n0 n1 a4 a1 n2 n3 i0) (U1 I) h0 (by rintro m a0 w h; exact ⟨by kernel_rfl,by kernel_rfl,fun js => Eq.mpr (by kernel_rfl) (hr m a0 w h)⟩)
theorem yKP {a0 a2:Nat} (h :
 brB (decide ((a0:Int) > 8)) (
 R (.tuple #[.pointer none,.int .i64 2]) w)
 (
 Calls pP 13 #[] w fun e w3 => ∃ p4,e = .returned (.pointer p4) ∧
 yaO yv6 (yKN 395 [0,0,1,0,1,1,1]) (yKO [1,1,1,0,1,0] [] R) (ymV q0 a0 a2 p4 q0 a0 a2 (a0:Int) 0) w3)) :
 CR pP 58 #[.slice q0 a0 a2] w R :=
 yaB Tryz.wide_mixed (an:=yyK) Tryz.func58 rfl rfl (by kernel_rfl) rfl (Eq.mpr (by kernel_rfl) h)
theorem yKQ {b0:Nat} {a0:BA} (hb:w.heap[b0]? = some (.cells #[(.map M0)] 86)) (h :
 ∃ x3 t4,(∀ w',Mod [] w w' → (Instr.lookup 84 (.map M0) (.string a0) true).run pP w' = .ok (.tuple #[.int .i64 x3,.bool t4]) w') ∧
 Calls pP 83 #[.string a0,.int .i64 i0] w fun e w7 => ∃ t8,e = .returned (.bool t8) ∧ yaF [b0] w w7 ∧
 brB (!t8) (
 ∀ w9,Adv [] [] w7 w9 → w9.heap[b0]? = some (.cells #[(.map M0)] 86) →
 R (.int .i64 1) w9)
 (
 brB t4 (
 ∀ a2,Adv [] [] w7 a2 → a2.heap[b0]? = some (.cells #[(.map M0)] 86) →
 R (.int .i64 90) a2)
 (
 ∃ a6,(∀ w',Mod [] w7 w' → (Builtin.len_ #[84] 3 #[(.map M0)]).run pP w' = .ok (.int .i64 a6) w') ∧
 brB (decide (a6 ≥ 8)) (
 ∀ a3,Adv [] [] w7 a3 → a3.heap[b0]? = some (.cells #[(.map M0)] 86) →
 R (.int .i64 2) a3)
 (
 ydM pP (Instr.mapUpdate 84 (.map M0) (.string a0) (.int .i64 i0)) w7 fun a5 => yaF [b0] w7 a5 ∧
 ∀ a4,Adv [] [] a5 a4 → a4.heap[b0]? = some (.cells #[(.map M0)] 86) →
 R (.int .i64 0) a4)))) :
 CR pP 38 (Z13 (some ⟨b0,0,none⟩) a0 i0) w R :=
 yaJ Tryz.wide_mixed (an:=[]) Tryz.func38 rfl rfl (by kernel_rfl) rfl hb (Eq.mpr (by kernel_rfl) h)
theorem yKR {b0:Nat} (hb:w.heap[b0]? = some (.cells #[(.map M0)] 86)) (h :
 ∀ b2,w.heap.size ≤ b2 →
 brB (decide (i0 ≥ 0)) (
 ∀ w3,Adv [] [b2] w w3 →
 ∃ x4,(∀ w',Mod [] w3 w' → (Instr.lookup 84 (.map M0) (.string s0) false).run pP w' = .ok (.int .i64 x4) w') ∧
 ∀ w5,Adv [] [] w3 w5 → w5.heap[b0]? = some (.cells #[(.map M0)] 86) →
 R (.bool (decide (i0 < x4))) w5)
 (
 ∀ w6,Adv [] [b2] w w6 → w6.heap[b0]? = some (.cells #[(.map M0)] 86) →
 R (.bool false) w6)) :
 CR pP 31 #[(.pointer (some ⟨b0,0,none⟩)),(.agg #[.string s0,.int .i64 i0])] w R :=
 yaJ Tryz.wide_mixed (an:=[]) Tryz.func31 rfl rfl (by kernel_rfl) rfl hb (Eq.mpr (by kernel_rfl) h)
theorem yKS (h :
 Calls pP 112 #[.slice q0 n0 n1,.string s0] w fun e w3 => ∃ x4,e = .returned (.int .i64 x4) ∧
 R (.bool (decide (x4 ≥ 0))) w3) :
 CR pP 133 #[.slice q0 n0 n1,.string s0] w R :=
 yaB Tryz.wide_mixed (an:=[]) Tryz.func133 rfl rfl (by kernel_rfl) rfl (Eq.mpr (by kernel_rfl) h)
def yv7:LA:=⟨[0,0,1,0,1],[0,1,7,8],[],0,[]⟩
def yyL:List LA:=[yv7]
abbrev yKT:=dnF pP yyL (code Tryz.f112)
abbrev yNy:=yaR pP yyL (code Tryz.f112)
abbrev yKU (p:List Nat) (K:List Kh) (R:VWP):=yaR pP yyL (code Tryz.f112) p K (ybE pP Tryz.f112 [] R)
def yo0 (a0:OA) (a2 a1:Nat) (a3:BA) (a4:Int):Int → List Value × List TB:=fun a5 => ([.slice a0 a2 a1,.string a3,.int .i64 a4,.int .i64 a5],[])
abbrev yGm (a0:OA) (a2 a1:Nat) (a3:BA) (a4:Int) (I:Nat → Int → World → Prop) (m:Nat):Kh:=KG (yo0 a0 a2 a1 a3 a4) (U1 I) m
theorem yCZ {I:Nat → Int → World → Prop} (m':Nat) (h1:m' < m) (h2:I m' i1 w):KS (yGm q0 n0 n1 s0 i0 I m) (yo0 q0 n0 n1 s0 i0 i1) w:=⟨m',h1,_,rfl,rfl,h2⟩
theorem yC0 {a1:OA} {a3:BA} (I:Nat → Int → World → Prop) (m0:Nat) (h0:I m0 i1 w0)
 (hr:∀ m a0 w,I m a0 w →
 brB (decide (a0 < i0)) (
 ixA a1 n0 a0 1 fun q3 =>
 ya7 w q3 fun s4 =>
 brB (a3.toList == s4.toList) (
 R (.int .i64 a0) w)
 (
 KS (yGm a1 n0 n1 a3 i0 I m) (yo0 a1 n0 n1 a3 i0 (IntKind.wrap .i64 (a0 + 1))) w))
 (
 R (.int .i64 (-1)) w)) :
 yaO yv7 (yKT 397 [0,0,1,0,1]) (yKU [1,0,1,0] [] R) (yo0 a1 n0 n1 a3 i0 i1) w0 :=
 lrule (yo0 a1 n0 n1 a3 i0) (U1 I) h0 (by rintro m a0 w h; exact ⟨by kernel_rfl,by kernel_rfl,fun js => Eq.mpr (by kernel_rfl) (hr m a0 w h)⟩)
theorem yKV (h :
 yaO yv7 (yKT 397 [0,0,1,0,1]) (yKU [1,0,1,0] [] R) (yo0 q0 n0 n1 s0 (n0:Int) 0) w) :
 CR pP 112 #[.slice q0 n0 n1,.string s0] w R :=
 yaB Tryz.wide_mixed (an:=yyL) Tryz.func112 rfl rfl (by kernel_rfl) rfl (Eq.mpr (by kernel_rfl) h)
end
section
set_option maxRecDepth 100000
variable {R:VWP} {w w0:World} {m:Nat} {i0 i1 i2 i3 i4 i5 i6 i7 i8 i9 j0 j1 j2 j3 j4 j5 j6 j7 j8 j9 k0 k1 k2 k3 k4 k5 k6 k7 k8 k9 l0 l1 l2 l3 l4 l5 l6 l7 l8 l9:Int} {s0 s1 s2 s3 s4 s5 s6 s7 s8 s9 t0 t1 t2 t3 t4 t5 t6 t7 t8 t9:BA} {n0 n1 n2 n3 n4 n5 n6 n7 n8 n9 o0 o1 o2 o3 o4 o5 o6 o7 o8 o9 p0 p1 p2 p3 p4 p5 p6 p7 p8 p9:Nat} {q0 q1 q2 q3 q4 q5 q6 q7 q8 q9 r0 r1 r2 r3 r4 r5 r6 r7 r8 r9:OA} {B0 B1 B2 B3 B4 B5 B6 B7 B8 B9:Bool} {M0 M1 M2 M3:Option Nat} {V0 V1 V2 V3 V4 V5:Value} {A0 A1 A2:Addr}
theorem yKW (h :
 brB (decide (i0 ≥ 0)) (
 R (.bool (decide (i0 ≤ 1099511627776))) w)
 (
 R (.bool false) w)) :
 CR pP 153 #[.int .i64 i0] w R :=
 yaB Tryz.wide_mixed (an:=[]) Tryz.func153 rfl rfl (by kernel_rfl) rfl (Eq.mpr (by kernel_rfl) h)
theorem yKX (h :
 ∀ b2,w.heap.size ≤ b2 →
 ∀ a7,Adv [] [b2] w a7 →
 Calls pP 122 #[.string s0] a7 fun e a4 => ∃ a8,e = .returned (.bool a8) ∧ yaF [b2] a7 a4 ∧
 brB a8 (
 Calls pP 122 #[.string s1] a4 fun e a5 => ∃ a9,e = .returned (.bool a9) ∧ yaF [b2] a4 a5 ∧
 brB a9 (
 Calls pP 153 #[.int .i64 i0] a5 fun e a6 => ∃ b0,e = .returned (.bool b0) ∧ yaF [b2] a5 a6 ∧
 brB b0 (
 Calls pP 153 #[.int .i64 i1] a6 fun e b3 => ∃ b1,e = .returned (.bool b1) ∧ yaF [b2] a6 b3 ∧
 R (.bool b1) b3)
 (
 R (.bool false) a6))
 (
 R (.bool false) a5))
 (
 R (.bool false) a4)) :
 CR pP 118 #[(.agg (Z6 s0 s1 i0 i1))] w R :=
 yaB Tryz.wide_mixed (an:=[]) Tryz.func118 rfl rfl (by kernel_rfl) rfl (Eq.mpr (by kernel_rfl) h)
theorem yKY {b0:Nat} (hb:w.heap[b0]? = some (.cells #[(.map M0)] 92)) (h :
 ∀ b2,w.heap.size ≤ b2 →
 ∀ b4,w.heap.size ≤ b4 →
 ∀ w8,Adv [] [b4,b2] w w8 →
 Calls pP 118 #[(.agg (Z6 s0 s1 i0 i1))] w8 fun e w9 => ∃ a8,e = .returned (.bool a8) ∧ yaF [b0,b2,b4] w8 w9 ∧
 brB (!a8) (
 ∀ a4,Adv [] [] w9 a4 → a4.heap[b0]? = some (.cells #[(.map M0)] 92) →
 R (.int .i64 1) a4)
 (
 ∃ b1,(∀ w',Mod [] w9 w' → (Instr.lookup 90 (.map M0) (.agg (Z14 s0 s1 i0)) false).run pP w' = .ok (.int .i64 b1) w') ∧
 brB (decide (b1 > i1)) (
 ∀ a5,Adv [] [] w9 a5 → a5.heap[b0]? = some (.cells #[(.map M0)] 92) →
 R (.int .i64 120) a5)
 (
 ∀ a6,Adv [] [] w9 a6 →
 ydM pP (Instr.mapUpdate 90 (.map M0) (.agg (Z14 s0 s1 i0)) (.int .i64 i1)) a6 fun a9 => yaF [b0,b2,b4] a6 a9 ∧
 ∀ a7,Adv [] [] a9 a7 → a7.heap[b0]? = some (.cells #[(.map M0)] 92) →
 R (.int .i64 0) a7))) :
 CR pP 57 #[(.pointer (some ⟨b0,0,none⟩)),(.agg (Z6 s0 s1 i0 i1))] w R :=
 yaJ Tryz.wide_mixed (an:=[]) Tryz.func57 rfl rfl (by kernel_rfl) rfl hb (Eq.mpr (by kernel_rfl) h)
theorem yKZ {b0:Nat} {a0 a1:BA} (hb:w.heap[b0]? = some (.cells #[(.map M0)] 92)) (h :
 ∀ b2,w.heap.size ≤ b2 →
 ∀ w3,Adv [] [b2] w w3 →
 ∃ x4 t5,(∀ w',Mod [] w3 w' → (Instr.lookup 90 (.map M0) (.agg (Z14 a0 a1 i0)) true).run pP w' = .ok (.tuple #[.int .i64 x4,.bool t5]) w') ∧
 ∀ w6,Adv [] [] w3 w6 → w6.heap[b0]? = some (.cells #[(.map M0)] 92) →
 R (.tuple #[.int .i64 x4,.bool t5]) w6) :
 CR pP 49 #[(.pointer (some ⟨b0,0,none⟩)),.string a0,(.agg #[.string a1,.int .i64 i0])] w R :=
 yaJ Tryz.wide_mixed (an:=[]) Tryz.func49 rfl rfl (by kernel_rfl) rfl hb (Eq.mpr (by kernel_rfl) h)
def yv8:LA:=⟨[0,0,1,0,1,1,1],[0,2,4,7,16],[(0,0,0),(4,1,0)],2,[]⟩
def yyM:List LA:=[yv8]
abbrev yK0:=dnF pP yyM (code Tryz.f47)
abbrev yNz:=yaR pP yyM (code Tryz.f47)
abbrev yK1 (p:List Nat) (K:List Kh) (R:VWP):=yaR pP yyM (code Tryz.f47) p K (ybE pP Tryz.f47 [0] R)
def yk2 (a4:Int) (a3:Addr) (bm0:Nat) (a0:Option Nat) (bm1:Nat) (a1:BA) (a2:Int):Int → List Value × List TB:=fun a5 => ([(.pointer (some ⟨bm0,0,none⟩)),.int .i64 a4,(.pointer (some ⟨bm1,0,none⟩)),.int .i64 a5,(.pointer (some a3))],[⟨bm0,92,[(.map a0)],false⟩,⟨bm1,33,[.string a1,.int .i64 a2],false⟩])
abbrev yyN (a4:Int) (a3:Addr) (bm0:Nat) (a0:Option Nat) (bm1:Nat) (a1:BA) (a2:Int) (I:Nat → Int → World → Prop) (m:Nat):Kh:=KG (yk2 a4 a3 bm0 a0 bm1 a1 a2) (U1 I) m
theorem ymW {I:Nat → Int → World → Prop} (m':Nat) (h1:m' < m) (h2:I m' i2 w):KS (yyN i0 A0 n0 M0 n1 s0 i1 I m) (yk2 i0 A0 n0 M0 n1 s0 i1 i2) w:=⟨m',h1,_,rfl,rfl,h2⟩
theorem yC1 (I:Nat → Int → World → Prop) (m0:Nat) (h0:I m0 i2 w0)
 (hr:∀ m a5 w,I m a5 w →
 yz0 pP (.pointer (some A0)) 0 w (fun b7 => yaF [n0,n1] w b7 ∧
 ∀ b2,Adv [] [] b7 b2 → b2.heap[n0]? = some (.cells #[(.map M0)] 92) →
 R (.int .i64 a5) b2)
 (fun c0 c1 b1 => yaF [n0,n1] w b1 ∧
 ∃ b5 a7 a9 b9,∃ a8,(Instr.entry (.pointer (some A0))).run pP b1 = .ok (.tuple #[(.agg (Z14 b5 a7 a9)),.int .i64 b9]) a8 ∧ yaF [n0,n1] b1 a8 ∧
 ∀ b0,a8.heap.size ≤ b0 →
 ∀ a6,Adv [] [b0] a8 a6 →
 ∃ b6,(∀ w',Mod [] a6 w' → Sem.run pP (do eqGuard .eql 33 (.tmp 23) (.tmp 24) (.agg #[.string a7,.int .i64 a9]) (.agg #[.string s0,.int .i64 i1]); Go.binOp .eql 33 (.agg #[.string a7,.int .i64 a9]) (.agg #[.string s0,.int .i64 i1])) w' = .ok (.bool b6) w') ∧
 brB b6 (
 brB (decide (b9 < i0)) (
 ∀ b3,Adv [] [] a6 b3 →
 ydM pP (Instr.mapUpdate 90 (.map M0) (.agg (Z14 b5 a7 a9)) (.int .i64 i0)) b3 fun b8 => yaF [n0,n1,b0] b3 b8 ∧
 KS (yyN i0 A0 n0 M0 n1 s0 i1 I m) (yk2 i0 A0 n0 M0 n1 s0 i1 (IntKind.wrap .i64 (a5 + 1))) b8)
 (
 KS (yyN i0 A0 n0 M0 n1 s0 i1 I m) (yk2 i0 A0 n0 M0 n1 s0 i1 a5) a6))
 (
 KS (yyN i0 A0 n0 M0 n1 s0 i1 I m) (yk2 i0 A0 n0 M0 n1 s0 i1 a5) a6))) :
 yaO yv8 (yK0 395 [0,0,1,0,1,1,1]) (yK1 [1,1,1,0,1,0] [] R) (yk2 i0 A0 n0 M0 n1 s0 i1 i2) w0 :=
 lrule (yk2 i0 A0 n0 M0 n1 s0 i1) (U1 I) h0 (by rintro m a5 w h; exact ⟨by kernel_rfl,by kernel_rfl,fun js => Eq.mpr (by kernel_rfl) (hr m a5 w h)⟩)
theorem yK2 {b0:Nat} (hb:w.heap[b0]? = some (.cells #[(.map M0)] 92)) (h :
 ∀ b2,w.heap.size ≤ b2 →
 brB (decide (i1 > 1099511627776)) (
 ∀ w3,Adv [] [b2] w w3 → w3.heap[b0]? = some (.cells #[(.map M0)] 92) →
 R (.int .i64 0) w3)
 (
 ∀ w7,Adv [] [b2] w w7 →
 ylU pP (Instr.range 90 (.map M0)) w7 fun q8 w9 => yaF [b0,b2] w7 w9 ∧
 yaO yv8 (yK0 395 [0,0,1,0,1,1,1]) (yK1 [1,1,1,0,1,0] [] R) (yk2 i1 q8 b0 M0 b2 s0 i0 0) w9)) :
 CR pP 47 #[(.pointer (some ⟨b0,0,none⟩)),(.agg #[.string s0,.int .i64 i0]),.int .i64 i1] w R :=
 yaJ Tryz.wide_mixed (an:=yyM) Tryz.func47 rfl rfl (by kernel_rfl) rfl hb (Eq.mpr (by kernel_rfl) h)
end
end Go.Proofs.YteldhjiiocmicaaGreat
namespace Go.Proofs.YteldhjiiocmicaaGreat
open Go Go.RowKit Go.Maps Go.MapKept
open Go.ChangeMaps (setBlock)
set_option linter.unusedVariables false
set_option linter.unusedSimpArgs false
theorem yhO {α:Type} {p:α → Bool}:∀ {l:List α} {j:Nat} {x y:α},l[j]? = some x → p x = false → p y = false → (l.set j y).filter p = l.filter p
 | [],j,x,y,h,_,_ => by simp at h
 | a :: r,0,x,y,h,hx,hy => by
  simp at h; subst h
  rw [List.set_cons_zero,List.filter_cons_of_neg (by simp [hy]),List.filter_cons_of_neg (by simp [hx])]
 | a :: r,j + 1,x,y,h,hx,hy => by
  rw [List.set_cons_succ,List.filter_cons,List.filter_cons,yhO (by simpa using h) hx hy]
section
variable {κ β:Type} [DecidableEq κ] {P:Program} {t T e:TypeId} {ek:κ → Value} {ev:β → Value} {w:World} {r b:Nat} {L left:List (κ × β)} {k:κ} {l:Lit}
theorem ybW.update (h:ybW P t ek ev w r b L left) (K:Keyed P t) (hi:∀ a b,ek a = ek b → a = b) (ht:P.underlying T = some (.map t e)) (v:β) (hk:keyOf P t (ek k) = some l) {x0:β} (hx0:lkp L k = some x0) (hnl:∀ p ∈ left,p.1 ≠ k) :
  ∃ o,(Instr.mapUpdate T (.map (some b)) (ek k) (ev v)).run P w = .ok () (setBlock w b o) ∧ ybW P t ek ev (setBlock w b o) r b (put L k v) left:=by
 have hM:=h.map
 have hn:=hM.nodup
 have hne:=h.ne
 obtain ⟨es,clock,since,seen,c0,h1,hb,he,hkk,hs,hbn,hc,hcl,hl⟩:=h
 rcases hM.find K hi hb hk w with ⟨f1,f2⟩ | ⟨j,x,f1,hj,f2⟩
 ·rw [hx0] at f1; cases f1
 ·have g:(es.toList.map (fun e => (e.key,e.val)))[j]? = some (ek k,ev x):=by rw [he,List.getElem?_map,hj]; rfl
  rw [List.getElem?_map,Option.map_eq_some_iff] at g
  obtain ⟨e0,he0,e2⟩:=g
  simp only [Prod.mk.injEq] at e2
  have he1:es[j]? = some e0:=by rw [← Array.getElem?_toList]; exact he0
  have hset:(es.modify j fun e => { e with key:=ek k,val:=ev v }).toList = es.toList.set j { e0 with key:=ek k,val:=ev v }:=by
   apply List.ext_getElem?
   intro i
   simp only [Array.toList_modify,List.getElem?_modify,List.getElem?_set,Array.length_toList]
   by_cases hij:j = i
   ·subst hij
    obtain ⟨hl',he3⟩:=Array.getElem?_eq_some_iff.1 he1
    simp [hl',he3]
   ·simp [hij]
  have hseen:(!seen.contains e0.born) = false:=by
   cases hc':seen.contains e0.born with
   | true => rfl
   | false =>
    have:(e0.key,e0.val) ∈ left.map (fun p => (ek p.1,ev p.2)):=hl ▸ List.mem_map.2 ⟨e0,List.mem_filter.2 ⟨List.mem_of_getElem? he0,by rw [hc']; rfl⟩,rfl⟩
    obtain ⟨p,hp,e3⟩:=List.mem_map.1 this
    simp only [Prod.mk.injEq] at e3
    exact absurd (hi _ _ (e3.1.trans e2.1)) (hnl p hp)
  refine ⟨.map (es.modify j fun e => { e with key:=ek k,val:=ev v }) clock,?_,es.modify j fun e => { e with key:=ek k,val:=ev v },clock,since,seen,c0,by rw [yb1 hne]; exact h1,yb0 hb,?_,?_,?_,?_,hc,hcl,?_⟩
  ·simp [Instr.mapUpdate,run_underlying ht,MapKept.run_getObj_map hb,K.check w _ hk,f2,Result.andThen,MapKept.run_setObj_map _ hb,setBlock,he1,e2.1,K.stays w hk]
  ·rw [ygL hn hj,yn7 he1,he,List.map_set]
  ·rw [ygL hn hj]; intro p hp
   rcases List.mem_or_eq_of_mem_set hp with hp | rfl
   ·exact hkk p hp
   ·exact ⟨l,hk⟩
  ·exact stamped_modify hs _ _ (fun _ _ => rfl) (fun e' _ he' => by rw [he1] at he'; cases he'; exact e2.1.symm)
  ·rw [hset]; intro y hy
   rcases List.mem_or_eq_of_mem_set hy with hy | rfl
   ·exact hbn y hy
   ·exact hbn e0 (List.mem_of_getElem? he0)
  ·rw [hset,yhO he0 hseen hseen]
   exact hl
end
abbrev TL:=List (ByteArray × Int)
def ydO (w:World) (b:Nat) (L:TL) (F:List Nat):Prop:=∃ m,w.heap[b]? = some (.cells #[.map (some m)] 86) ∧ yaS pP 9 hks hki w m L ∧ F = [b,m]
theorem yaS.notCells {κ β:Type} [DecidableEq κ] {P:Program} {t:TypeId} {ek:κ → Value} {ev:β → Value} {w:World} {m:Nat} {L:List (κ × β)} (h:yaS P t ek ev w m L) {cs:Array Value} {T:TypeId}:w.heap[m]? ≠ some (.cells cs T):=by
 obtain ⟨es,clock,hb,_⟩:=h
 rw [hb]; simp
theorem ydO.lt {w:World} {b:Nat} {L:TL} {F:List Nat} (h:ydO w b L F):∀ k ∈ F,k < w.heap.size:=by
 obtain ⟨m,hc,hm,rfl⟩:=h
 intro k hk; simp at hk
 rcases hk with rfl | rfl
 ·exact yaH hc
 ·exact hm.lt
theorem ydO.keep {w w':World} {b:Nat} {L:TL} {F S:List Nat} (h:ydO w b L F) (M:Mod S w w') (hS:∀ k ∈ S,k ∉ F):ydO w' b L F:=by
 obtain ⟨m,hc,hm,rfl⟩:=h
 exact ⟨m,M.keep hc (fun hb => hS b hb (by simp)),hm.keepM M (fun hb => hS m hb (by simp)),rfl⟩
theorem ydO.keep0 {w w':World} {b:Nat} {L:TL} {F:List Nat} (h:ydO w b L F) (M:Mod [] w w'):ydO w' b L F:=h.keep M (by simp)
theorem ytP (w:World):Calls pP 13 #[] w fun e w' => ∃ v,e = .returned v ∧ ∃ b F,v = .pointer (some ⟨b,0,none⟩) ∧ ydO w' b [] F ∧ (∀ k ∈ F,w.heap.size ≤ k) ∧ Mod [] w w':=by
 refine yJ6 ?_
 refine yd6 fun b4 w5 c5 M5 f5 => ?_
 have s5:=M5.size
 intro b6 f6 w7 A7 h7
 exact ⟨b6,_,rfl,⟨b4,h7,yaS.of_new (A7.mod.keep0 c5),rfl⟩,by simp; omega,M5.go0 A7.mod (by simp)⟩
theorem yc2 {s:ByteArray} (h:ybQ s = true):s.size ≤ 16:=by simp [ybQ] at h; exact h.1.2
def ye2 (name:ByteArray) (n:Int):Bool:=ybQ name && decide (1 ≤ n ∧ n ≤ 8)
theorem ytQ (name:ByteArray) (n:Int) (w:World):Calls pP 83 #[.string name,.int .i64 n] w fun e w' => e = .returned (.bool (ye2 name n)) ∧ Mod [] w w':=by
 refine ya0 (yKM ?_)
 refine (ygN name w).mono ?_
 rintro _ w3 ⟨rfl,M3⟩
 refine ⟨_,rfl,yaE (fun g => ?_) fun g => ?_⟩
 ·refine yaC (fun g2 => ⟨congrArg Value.bool ?_,M3⟩) fun g2 => ⟨congrArg Value.bool ?_,M3⟩
  ·rw [ye2,g,Bool.true_and]; exact decide_eq_decide.2 ⟨fun h => ⟨by omega,h⟩,fun h => h.2⟩
  ·rw [ye2,g,Bool.true_and]; exact (decide_eq_false (by omega)).symm
 ·exact ⟨congrArg Value.bool (by simp [ye2,g]),M3⟩
def yh2 (L:TL) (name:ByteArray) (n:Int):Int:=if ye2 name n = false then 1 else if (lkp L name).isSome = true then 90 else if 8 ≤ L.length then 2 else 0
theorem ymX (w:World):(zeroValue 3).run pP w = .ok (hki 0) w:=by kernel_rfl
theorem yAm {w:World} {b:Nat} {L:TL} {F:List Nat} (h:ydO w b L F) {name:ByteArray} (hs:name.size ≤ maxLen) (n:Int) :
  Calls pP 38 #[.pointer (some ⟨b,0,none⟩),.string name,.int .i64 n] w fun e w' => e = .returned (.int .i64 (yh2 L name n)) ∧ ydO w' b (if yh2 L name n = 0 then put L name n else L) F ∧ Mod F w w':=by
 obtain ⟨m,hc,hm,rfl⟩:=id h
 have hmb:m ≠ b:=by rintro rfl; exact hm.notCells hc
 refine ya0 (yKQ hc ?_)
 refine ⟨_,_,hm.lkT ydT ybH Tryz.underlying84 ymX (ybK hs),?_⟩
 refine (ytQ name n w).mono ?_
 rintro _ w7 ⟨rfl,M7⟩
 have hm7:=hm.keepM0 M7
 have hc7:=M7.keep0 hc
 refine ⟨_,rfl,yaF.of0 M7,?_⟩
 refine yaE (fun g => ?_) fun g => ?_
 ·have g:ye2 name n = false:=by simpa using g
  intro w9 A9 _
  have N:=M7.go0 A9.mod (by simp)
  rw [yh2,if_pos g,if_neg (by decide)]
  exact ⟨rfl,h.keep0 N,N.less (by simp)⟩
 have g:¬ ye2 name n = false:=by simpa using g
 refine yaE (fun g2 => ?_) fun g2 => ?_
 ·intro w10 A10 _
  have N:=M7.go0 A10.mod (by simp)
  rw [yh2,if_neg g,if_pos g2,if_neg (by decide)]
  exact ⟨rfl,h.keep0 N,N.less (by simp)⟩
 refine ⟨_,fun w' M => (hm7.keepM0 M).len Tryz.underlying84 _,?_⟩
 refine yaC (fun g3 => ?_) fun g3 => ?_
 ·intro w13 A13 _
  have N:=M7.go0 A13.mod (by simp)
  rw [yh2,if_neg g,if_neg (by simp [g2]),if_pos (by omega),if_neg (by decide)]
  exact ⟨rfl,h.keep0 N,N.less (by simp)⟩
 refine hm7.setU ydT ybH Tryz.underlying84 (v:=n) (ybK hs) (by simpa using hmb) fun w' hm' M' => ?_
 intro w16 A16 h16
 have e:yh2 L name n = 0:=by rw [yh2,if_neg g,if_neg (by simp [g2]),if_neg (by omega)]
 rw [e,if_pos rfl]
 exact ⟨rfl,⟨m,h16,hm'.keepM0 A16.mod,rfl⟩,((M7.trans M').trans A16.mod).less (by simp)⟩
def ygP (L:TL) (p:PPart):Bool:=decide (0 ≤ p.n ∧ p.n < (lkp L p.t).getD 0)
theorem ymY {w:World} {b:Nat} {L:TL} {F:List Nat} (h:ydO w b L F) {p:PPart} (hs:p.t.size ≤ maxLen) :
  Calls pP 31 #[.pointer (some ⟨b,0,none⟩),p.v] w fun e w' => e = .returned (.bool (ygP L p)) ∧ Mod [] w w':=by
 obtain ⟨m,hc,hm,rfl⟩:=id h
 refine ya0 (yKR hc ?_)
 intro b2 f2
 refine yaC (fun g => ?_) fun g => ?_
 ·intro w3 A3
  refine ⟨_,(hm.keepM0 A3.mod).lkF ydT ybH Tryz.underlying84 ymX (ybK hs),?_⟩
  intro w5 A5 _
  exact ⟨congrArg Value.bool (decide_eq_decide.2 ⟨fun h => ⟨by omega,h⟩,fun h => h.2⟩),A3.mod.go0 A5.mod (by simp)⟩
 ·intro w6 A6 _
  exact ⟨congrArg Value.bool (decide_eq_false (by omega)).symm,A6.mod⟩
end Go.Proofs.YteldhjiiocmicaaGreat
namespace Go.Proofs.YteldhjiiocmicaaGreat
open Go Go.RowKit Go.Maps Go.MapKept
open Go.ChangeMaps (setBlock)
set_option linter.unusedVariables false
set_option linter.unusedSimpArgs false
section
variable {κ β:Type} [DecidableEq κ]
theorem yeT:∀ {L:List (κ × β)} {p:κ × β},p ∈ L → (L.map (·.1)).Nodup → L.Perm (p :: yeJ L p.1)
 | q :: r,p,hp,hn => by
  rw [List.map_cons,List.nodup_cons] at hn
  unfold yeJ
  rcases List.mem_cons.1 hp with rfl | hp
  ·rw [List.filter_cons_of_neg (by simp)]
   have:r.filter (fun x => decide (x.1 ≠ p.1)) = r:=List.filter_eq_self.2 fun x hx => by
    have:x.1 ≠ p.1:=fun e => hn.1 (e ▸ List.mem_map.2 ⟨x,hx,rfl⟩)
    simp [this]
   rw [this]
  ·have hne:q.1 ≠ p.1:=fun e => hn.1 (e ▸ List.mem_map.2 ⟨p,hp,rfl⟩)
   rw [List.filter_cons_of_pos (by simp [hne])]
   exact (List.Perm.cons q (yeT hp hn.2)).trans (List.Perm.swap ..)
theorem yeU {L:List (κ × β)} {k:κ} (h:(L.map (·.1)).Nodup):((yeJ L k).map (·.1)).Nodup:=h.sublist (List.Sublist.map _ (List.filter_sublist (l:=L)))
theorem ydI {L:List (κ × β)} {k:κ} {q:κ × β}:q ∈ yeJ L k ↔ q ∈ L ∧ q.1 ≠ k:=by simp [yeJ]
theorem yjX {L:List (κ × β)} {k:κ} {v:β} (hn:(L.map (·.1)).Nodup) (hk:k ∈ L.map (·.1)):put L k v = L.map fun q => if q.1 = k then (k,v) else q:=by
 induction L with
 | nil => simp at hk
 | cons p r ih =>
  rw [List.map_cons,List.nodup_cons] at hn
  unfold put
  by_cases e:p.1 = k
  ·rw [if_pos e,List.map_cons,if_pos e]
   have:(r.map fun q => if q.1 = k then (k,v) else q) = r.map id:=List.map_congr_left fun q hq => by
    have:q.1 ≠ k:=fun e' => hn.1 (by rw [e,← e']; exact List.mem_map.2 ⟨q,hq,rfl⟩)
    simp [this]
   rw [this,List.map_id]
  ·rw [if_neg e,List.map_cons,if_neg e,ih hn.2]
   rw [List.map_cons] at hk
   rcases List.mem_cons.1 hk with h | h
   ·exact absurd h.symm e
   ·exact h
theorem yjY {L:List (κ × β)} (hn:(L.map (·.1)).Nodup) {p q:κ × β} (hp:p ∈ L) (hq:q ∈ L) (e:p.1 = q.1):p = q:=by
 have h1:=yc0 hn hp
 have h2:=yc0 hn hq
 rw [e,h2] at h1
 exact Prod.ext e (Option.some.inj h1).symm
end
theorem yaS.keyedP {κ β:Type} [DecidableEq κ] {P:Program} {t:TypeId} {ek:κ → Value} {ev:β → Value} {w:World} {b:Nat} {L:List (κ × β)} (h:yaS P t ek ev w b L):∀ p ∈ L,∃ l,keyOf P t (ek p.1) = some l:=by
 obtain ⟨es,clock,h1,h2,h3,h4⟩:=h
 exact h3
structure PMark where
 g:ByteArray
 p:PPart
 off:Int
 deriving DecidableEq
def PMark.v (m:PMark):Value:=.agg #[.string m.g,.string m.p.t,.int .i64 m.p.n,.int .i64 m.off]
abbrev yMj:=ByteArray × PPart
abbrev OL:=List (yMj × Int)
def yf5 (w:World) (b:Nat) (L:OL) (F:List Nat):Prop:=∃ m,w.heap[b]? = some (.cells #[.map (some m)] 92) ∧ yaS pP 204 hko hki w m L ∧ F = [b,m]
theorem yf5.lt {w:World} {b:Nat} {L:OL} {F:List Nat} (h:yf5 w b L F):∀ k ∈ F,k < w.heap.size:=by
 obtain ⟨m,hc,hm,rfl⟩:=h
 intro k hk; simp at hk
 rcases hk with rfl | rfl
 ·exact yaH hc
 ·exact hm.lt
theorem yf5.keep {w w':World} {b:Nat} {L:OL} {F S:List Nat} (h:yf5 w b L F) (M:Mod S w w') (hS:∀ k ∈ S,k ∉ F):yf5 w' b L F:=by
 obtain ⟨m,hc,hm,rfl⟩:=h
 exact ⟨m,M.keep hc (fun hb => hS b hb (by simp)),hm.keepM M (fun hb => hS m hb (by simp)),rfl⟩
theorem yf5.keep0 {w w':World} {b:Nat} {L:OL} {F:List Nat} (h:yf5 w b L F) (M:Mod [] w w'):yf5 w' b L F:=h.keep M (by simp)
theorem ytR (w:World):Calls pP 15 #[] w fun e w' => ∃ v,e = .returned v ∧ ∃ b F,v = .pointer (some ⟨b,0,none⟩) ∧ yf5 w' b [] F ∧ (∀ k ∈ F,w.heap.size ≤ k) ∧ Mod [] w w':=by
 refine yJ8 ?_
 refine yd6 fun b4 w5 c5 M5 f5 => ?_
 have s5:=M5.size
 intro b6 f6 w7 A7 h7
 exact ⟨b6,_,rfl,⟨b4,h7,yaS.of_new (A7.mod.keep0 c5),rfl⟩,by simp; omega,M5.go0 A7.mod (by simp)⟩
theorem yC2 (n:Int) (w:World):Calls pP 153 #[.int .i64 n] w fun e w' => e = .returned (.bool (num n)) ∧ w' = w :=
 ya0 (yKW (yaC (fun h => ⟨by simp [num]; omega,rfl⟩) (fun h => ⟨by simp [num]; omega,rfl⟩)))
def ydD (m:PMark):Bool:=ybQ m.g && ybQ m.p.t && num m.p.n && num m.off
theorem yC3 (m:PMark) (w:World):Calls pP 118 #[m.v] w fun e w' => e = .returned (.bool (ydD m)) ∧ Mod [] w w':=by
 refine ya0 (yKX ?_)
 intro b2 f2 w12 A12
 refine (ygN m.g w12).mono ?_
 rintro _ w13 ⟨rfl,M13⟩
 have N13:=A12.mod.go0 M13 (by simp)
 refine ⟨_,rfl,yaF.of0 M13,yaE (fun g1 => ?_) fun g1 => ⟨by simp [ydD,g1],N13⟩⟩
 refine (ygN m.p.t w13).mono ?_
 rintro _ w15 ⟨rfl,M15⟩
 have N15:=N13.go0 M15 (by simp)
 refine ⟨_,rfl,yaF.of0 M15,yaE (fun g2 => ?_) fun g2 => ⟨by simp [ydD,g2],N15⟩⟩
 refine (yC2 m.p.n w15).mono ?_
 rintro _ w17 ⟨rfl,rfl⟩
 refine ⟨_,rfl,yaF.of0 (Mod.refl _),yaE (fun g3 => ?_) fun g3 => ⟨by simp [ydD,g3],N15⟩⟩
 refine (yC2 m.off w17).mono ?_
 rintro _ w19 ⟨rfl,rfl⟩
 exact ⟨_,rfl,yaF.of0 (Mod.refl _),by simp [ydD,g1,g2,g3],N15⟩
def ymZ (L:OL) (m:PMark):Int:=if ydD m = false then 1 else if (lkp L (m.g,m.p)).getD 0 > m.off then 120 else 0
theorem yeG {n:Int} (h:num n = true):s64 n:=by simp [num] at h; unfold s64; omega
theorem yC4 {w:World} {b:Nat} {L:OL} {F:List Nat} (h:yf5 w b L F) (m:PMark) :
  Calls pP 57 #[.pointer (some ⟨b,0,none⟩),m.v] w fun e w' => e = .returned (.int .i64 (ymZ L m)) ∧ yf5 w' b (if ymZ L m = 0 then put L (m.g,m.p) m.off else L) F ∧ Mod F w w':=by
 obtain ⟨mb,hc,hm,rfl⟩:=id h
 have hmb:mb ≠ b:=by rintro rfl; exact hm.notCells hc
 have lb:=yaH hc
 have lm:=hm.lt
 refine ya0 (yKY hc ?_)
 intro b2 f2 b4 f4 w8 A8
 refine (yC3 m w8).mono ?_
 rintro _ w9 ⟨rfl,M9⟩
 have N9:=A8.mod.go0 M9 (by simp)
 refine ⟨_,rfl,yaF.of0 M9,yaE (fun g => ?_) fun g => ?_⟩
 ·have g:ydD m = false:=by simpa using g
  intro w11 A11 _
  have N:=N9.go0 A11.mod (by simp)
  rw [ymZ,if_pos g,if_neg (by decide)]
  exact ⟨rfl,h.keep0 N,N.less (by simp)⟩
 have g':ydD m = true:=by simpa using g
 have g:¬ ydD m = false:=by simp [g']
 have gs:m.g.size ≤ 16 ∧ m.p.t.size ≤ 16 ∧ s64 m.p.n:=by
  simp only [ydD,Bool.and_eq_true] at g'
  exact ⟨yc2 g'.1.1.1,yc2 g'.1.1.2,yeG g'.1.2⟩
 obtain ⟨l,hkey⟩:=yvY (k:=(m.g,m.p)) (by unfold maxLen; simp only; omega) (by unfold maxLen; simp only; omega) gs.2.2
 refine ⟨_,(hm.keepM0 N9).lkF (k:=(m.g,m.p)) yCN yh0 Tryz.underlying90 ymX hkey,?_⟩
 refine yaC (fun g2 => ?_) fun g2 => ?_
 ·intro w13 A13 _
  have N:=N9.go0 A13.mod (by simp)
  rw [ymZ,if_neg g,if_pos g2,if_neg (by decide)]
  exact ⟨rfl,h.keep0 N,N.less (by simp)⟩
 intro w14 A14
 have N14:=N9.go0 A14.mod (by simp)
 refine (hm.keepM0 N14).setU (k:=(m.g,m.p)) yCN yh0 Tryz.underlying90 (v:=m.off) hkey (by simp; omega) fun w' hm' M' => ?_
 intro w16 A16 h16
 have e:ymZ L m = 0:=by rw [ymZ,if_neg g,if_neg g2]
 rw [e,if_pos rfl]
 exact ⟨rfl,⟨mb,h16,hm'.keepM0 A16.mod,rfl⟩,((N14.trans M').trans A16.mod).less (by simp)⟩
theorem yC5 {w:World} {b:Nat} {L:OL} {F:List Nat} (h:yf5 w b L F) {g:ByteArray} {p:PPart} (h1:g.size ≤ maxLen) (h2:p.t.size ≤ maxLen) (h3:s64 p.n) :
  Calls pP 49 #[.pointer (some ⟨b,0,none⟩),.string g,p.v] w fun e w' => e = .returned (.tuple #[.int .i64 ((lkp L (g,p)).getD 0),.bool (lkp L (g,p)).isSome]) ∧ Mod [] w w':=by
 obtain ⟨mb,hc,hm,rfl⟩:=id h
 refine ya0 (yKZ hc ?_)
 intro b2 f2 w3 A3
 obtain ⟨l,hkey⟩:=yvY (k:=(g,p)) h1 h2 h3
 refine ⟨_,_,(hm.keepM0 A3.mod).lkT (k:=(g,p)) yCN yh0 Tryz.underlying90 ymX hkey,?_⟩
 intro w6 A6 _
 exact ⟨rfl,A3.mod.go0 A6.mod (by simp)⟩
def yAn (p:PPart) (least:Int) (q:yMj × Int):Bool:=decide (q.1.2 = p ∧ q.2 < least)
open Classical in
noncomputable def raiseL (L left:OL) (p:PPart) (least:Int):OL:=L.map fun q => if yAn p least q = true ∧ q ∉ left then (q.1,least) else q
def yo1 (L:OL) (p:PPart) (least:Int):OL:=if least > 1099511627776 then L else L.map fun q => if yAn p least q = true then (q.1,least) else q
theorem yh3 (L left:OL) (p:PPart) (least:Int):(raiseL L left p least).map (·.1) = L.map (·.1):=by
 rw [raiseL,List.map_map]
 exact List.map_congr_left fun q _ => by simp only [Function.comp_apply]; split <;> rfl
theorem yv9 {L left:OL} {p:PPart} {least:Int} (hn:(L.map (·.1)).Nodup) (hsub:∀ q ∈ left,q ∈ L) {x:yMj × Int} (hx:x ∈ left) :
  raiseL L (yeJ left x.1) p least = if yAn p least x = true then put (raiseL L left p least) x.1 least else raiseL L left p least:=by
 have hxL:=hsub x hx
 have key:∀ q ∈ L,(q ∉ yeJ left x.1 ↔ q ∉ left ∨ q = x):=fun q hq => by
  rw [ydI]
  constructor
  ·intro h
   by_cases hl:q ∈ left
   ·right
    exact yjY hn hq hxL (by by_cases e:q.1 = x.1; exact e; exact absurd ⟨hl,e⟩ h)
   ·exact .inl hl
  ·rintro (h | rfl)
   ·exact fun h' => h h'.1
   ·exact fun h' => h'.2 rfl
 split
 ·rename_i g
  rw [yjX (by rw [yh3]; exact hn) (by rw [yh3]; exact List.mem_map.2 ⟨x,hxL,rfl⟩)]
  rw [raiseL,raiseL,List.map_map]
  refine List.map_congr_left fun q hq => ?_
  simp only [Function.comp_apply]
  by_cases e:q = x
  ·subst e
   rw [if_pos ⟨g,(key q hq).2 (.inr rfl)⟩]
   split <;> simp
  ·have e1:q.1 ≠ x.1:=fun h => e (yjY hn hq hxL h)
   by_cases c:yAn p least q = true ∧ q ∉ left
   ·rw [if_pos ⟨c.1,(key q hq).2 (.inl c.2)⟩,if_pos c,if_neg e1]
   ·rw [if_neg (fun h => c ⟨h.1,((key q hq).1 h.2).resolve_right e⟩),if_neg c,if_neg e1]
 ·rename_i g
  rw [raiseL,raiseL]
  refine List.map_congr_left fun q hq => ?_
  by_cases c:yAn p least q = true ∧ q ∉ left
  ·rw [if_pos ⟨c.1,(key q hq).2 (.inl c.2)⟩,if_pos c]
  ·rw [if_neg (fun h => c ⟨h.1,((key q hq).1 h.2).resolve_right fun e => g (e ▸ h.1)⟩),if_neg c]
open Classical in
set_option maxHeartbeats 1000000 in
theorem ywA {w:World} {b:Nat} {L:OL} {F:List Nat} (h:yf5 w b L F) (hl:L.length ≤ 1000000) (p:PPart) (least:Int) :
  Calls pP 47 #[.pointer (some ⟨b,0,none⟩),p.v,.int .i64 least] w fun e w' => ∃ v,e = .returned v ∧ ∃ n:Int,v = .int .i64 n ∧ yf5 w' b (yo1 L p least) F ∧ Mod F w w':=by
 obtain ⟨mb,hc,hm,rfl⟩:=id h
 have hmb:mb ≠ b:=by rintro rfl; exact hm.notCells hc
 have lb:=yaH hc
 have lm:=hm.lt
 have hn:=hm.nodup
 refine yK2 hc ?_
 intro b2 f2
 refine yaC (fun g => ?_) fun g => ?_
 ·intro w3 A3 _
  rw [yo1,if_pos g]
  exact ⟨0,rfl,h.keep0 A3.mod,A3.mod.less (by simp)⟩
 intro w7 A7
 have s7:=A7.mod.size
 have l2:=A7.lt b2 (by simp)
 obtain ⟨w9,h9,M9,I9⟩:=ybW.start (T:=90) (hm.keepM0 A7.mod) Tryz.underlying90
 have s9:=M9.size
 refine ⟨_,w9,h9,yaF.of0 M9,?_⟩
 generalize hr:w7.heap.size = r at I9 ⊢
 have N9:=A7.mod.go0 M9 (by simp)
 refine yC1 (fun mm x w' => ∃ left:OL,ybW pP 204 hko hki w' r mb (raiseL L left p least) left ∧ (∀ q ∈ left,q ∈ L) ∧ (left.map (·.1)).Nodup ∧ 0 ≤ x ∧ x + left.length ≤ L.length ∧ Mod [mb] w w' ∧ r < w'.heap.size ∧ mm = left.length) L.length
  ⟨L,by rw [show raiseL L L p least = L by
   rw [raiseL]
   have:(L.map fun q => if yAn p least q = true ∧ q ∉ L then (q.1,least) else q) = L.map id:=List.map_congr_left fun q hq => by rw [if_neg (fun hh => hh.2 hq)]; rfl
   rw [this,List.map_id]]; exact I9,fun q hq => hq,hn,by omega,by omega,N9.less (by simp),by
    obtain ⟨es,clock,since,seen,c0,h1,_⟩:=I9
    exact (Array.getElem?_eq_some_iff.1 h1).1,rfl⟩ ?_
 rintro mm x w1 ⟨left,I1,hsub,hnd,hx0,hx1,N1,lr,rfl⟩
 rcases I1.step (ty:=0) yh0 with ⟨hl0,hs⟩ | ⟨q,hq,w4',hs,M4',I4,hen⟩
 ·subst hl0
  refine .inl ⟨_,hs,yaF.of0 (Mod.refl _),?_⟩
  intro w16 A16 h16
  have M16:=A16.mod
  refine ⟨x,rfl,?_,(N1.trans M16).less (by simp)⟩
  rw [yo1,if_neg g]
  have:raiseL L [] p least = L.map fun q => if yAn p least q = true then (q.1,least) else q:=by
   rw [raiseL]; exact List.map_congr_left fun q _ => by simp
  rw [this] at I1
  exact ⟨mb,h16,I1.map.keepM0 M16,rfl⟩
 ·have hqL:=hsub q hq
  have hqk:∃ l,keyOf pP 204 (hko q.1) = some l:=hm.keyedP q hqL
  obtain ⟨l,hkey⟩:=hqk
  have s4:=M4'.size
  refine .inr ⟨_,_,w4',hs,yaF.of M4' (by simp; omega),_,_,_,_,w4',hen w4' (Mod.refl _),yaF.of0 (Mod.refl _),?_⟩
  intro b30 f30 w33 A33
  have l30:=A33.lt b30 (by simp)
  have s33:=A33.mod.size
  refine ⟨_,fun w' _ => yMD q.1.2 p _ _ w',?_⟩
  have I33:=I4.keep A33.mod (by simp) (by simp)
  have N33:Mod [mb] w w33:=((N1.trans M4').trans A33.mod).less fun z hz hz' => by simp at hz ⊢; omega
  have hlen:(yeJ left q.1).length + 1 = left.length:=by
   have:=(yeT hq hnd).length_eq; simpa using this.symm
  have hstep:=yv9 (p:=p) (least:=least) hn hsub hq
  have hsub':∀ z ∈ yeJ left q.1,z ∈ L:=fun z hz => hsub z (ydI.1 hz).1
  refine yaC (fun g1 => ?_) fun g1 => ?_
  ·refine yaC (fun g2 => ?_) fun g2 => ?_
   ·intro w35 A35
    have I35:=I33.keep A35.mod (by simp) (by simp)
    have hlow:yAn p least q = true:=by simp [yAn]; exact ⟨g1,g2⟩
    have hlk:∃ v0,lkp (raiseL L left p least) q.1 = some v0:=by
     cases hh:lkp (raiseL L left p least) q.1 with
     | some v0 => exact ⟨v0,rfl⟩
     | none =>
      have:q.1 ∈ (raiseL L left p least).map (·.1):=by rw [yh3]; exact List.mem_map.2 ⟨q,hqL,rfl⟩
      obtain ⟨z,hz,hzk⟩:=List.mem_map.1 this
      exact absurd hzk (yc1.1 hh z hz)
    obtain ⟨v0,hv0⟩:=hlk
    obtain ⟨o,ho1,ho2⟩:=I35.update yCN yh0 Tryz.underlying90 least hkey hv0 (fun z hz => (ydI.1 hz).2)
    refine ⟨_,ho1,yaF.of yeK (by simp; omega),?_⟩
    have e1:IntKind.wrap .i64 (x + 1) = x + 1:=yaI (by omega) (by omega)
    rw [e1]
    refine ymW (yeJ left q.1).length (by omega) ⟨yeJ left q.1,?_,hsub',yeU hnd,by omega,by omega,((N33.trans A35.mod).trans yeK).less fun z hz _ => by simpa using hz,?_,rfl⟩
    ·rw [hstep,if_pos hlow]; exact ho2
    ·have:=A35.mod.size; simp [setBlock]; omega
   ·have hlow:¬ yAn p least q = true:=by simp [yAn]; intro _; omega
    refine ymW (yeJ left q.1).length (by omega) ⟨yeJ left q.1,?_,hsub',yeU hnd,by omega,by omega,N33,by omega,rfl⟩
    rw [hstep,if_neg hlow]; exact I33
  ·have hlow:¬ yAn p least q = true:=by simp [yAn]; intro hh; exact absurd hh g1
   refine ymW (yeJ left q.1).length (by omega) ⟨yeJ left q.1,?_,hsub',yeU hnd,by omega,by omega,N33,by omega,rfl⟩
   rw [hstep,if_neg hlow]; exact I33
end Go.Proofs.YteldhjiiocmicaaGreat
namespace Go.Proofs.YteldhjiiocmicaaGreat
open Go Go.RowKit
set_option linter.all false
section
set_option maxRecDepth 100000
variable {R:VWP} {w w0:World} {m:Nat} {i0 i1 i2 i3 i4 i5 i6 i7 i8 i9 j0 j1 j2 j3 j4 j5 j6 j7 j8 j9 k0 k1 k2 k3 k4 k5 k6 k7 k8 k9 l0 l1 l2 l3 l4 l5 l6 l7 l8 l9:Int} {s0 s1 s2 s3 s4 s5 s6 s7 s8 s9 t0 t1 t2 t3 t4 t5 t6 t7 t8 t9:BA} {n0 n1 n2 n3 n4 n5 n6 n7 n8 n9 o0 o1 o2 o3 o4 o5 o6 o7 o8 o9 p0 p1 p2 p3 p4 p5 p6 p7 p8 p9:Nat} {q0 q1 q2 q3 q4 q5 q6 q7 q8 q9 r0 r1 r2 r3 r4 r5 r6 r7 r8 r9:OA} {B0 B1 B2 B3 B4 B5 B6 B7 B8 B9:Bool} {M0 M1 M2 M3:Option Nat} {V0 V1 V2 V3 V4 V5:Value} {A0 A1 A2:Addr}
theorem yK3 {a1:OA} (h :
 brB ((n0:Int) == 0) (
 R (.int .i64 0) w)
 (
 ixA a1 n0 (IntKind.wrap .i64 ((n0:Int) - 1)) 3 fun q6 =>
 ya1 .i64 w q6 fun x7 => ya1 .i64 w (Addr.add q6 1) fun x8 => ya1 .i64 w (Addr.add q6 2) fun x9 =>
 ∀ a3,w.heap.size ≤ a3 →
 ∀ a4,Adv [] [a3] w a4 →
 R (.int .i64 (IntKind.wrap .i64 (x7 + x8))) a4)) :
 CR pP 90 #[.slice a1 n0 n1] w R :=
 yaB Tryz.wide_mixed (an:=[]) Tryz.func90 rfl rfl (by kernel_rfl) rfl (Eq.mpr (by kernel_rfl) h)
theorem yK4 (h :
 brB (decide (i0 ≥ 0)) (
 R (.bool (decide (i0 ≤ 1099511627776))) w)
 (
 R (.bool false) w)) :
 CR pP 97 #[.int .i64 i0] w R :=
 yaB Tryz.wide_mixed (an:=[]) Tryz.func97 rfl rfl (by kernel_rfl) rfl (Eq.mpr (by kernel_rfl) h)
theorem yK5 {b0:Nat} {o0_n o0_c:Nat} (hb:w.heap[b0]? = some (.cells #[.slice q0 o0_n o0_c,(.map M0)] 89)) (h :
 brB (decide (i0 ≥ 1)) (
 ∀ w1,Adv [] [] w w1 → w1.heap[b0]? = some (.cells #[.slice q0 o0_n o0_c,(.map M0)] 89) →
 R (.bool (decide (i0 ≤ (o0_n:Int)))) w1)
 (
 ∀ w2,Adv [] [] w w2 → w2.heap[b0]? = some (.cells #[.slice q0 o0_n o0_c,(.map M0)] 89) →
 R (.bool false) w2)) :
 CR pP 84 #[(.pointer (some ⟨b0,0,none⟩)),.int .i64 i0] w R :=
 yaJ Tryz.wide_mixed (an:=[]) Tryz.func84 rfl rfl (by kernel_rfl) rfl hb (Eq.mpr (by kernel_rfl) h)
def yqF:LA:=⟨[0,0,1,0,1,1,1,1],[0,1,64],[(0,0,0)],1,[0]⟩
def yyO:List LA:=[yqF]
abbrev yHQ:=dnF pP yyO (code Tryz.f39)
abbrev yNA:=yaR pP yyO (code Tryz.f39)
abbrev yHR (p:List Nat) (K:List Kh) (R:VWP):=yaR pP yyO (code Tryz.f39) p K (ybE pP Tryz.f39 [0] R)
def yk3 (a5:Int) (a4:Addr) (bm0:Nat) (a0:OA) (a3 a1:Nat) (a2:Option Nat):Unit → List Value × List TB:=fun _ => ([(.pointer (some ⟨bm0,0,none⟩)),.int .i64 a5,(.pointer (some a4))],[⟨bm0,89,[.slice a0 a3 a1,(.map a2)],true⟩])
abbrev yC6 (a5:Int) (a4:Addr) (bm0:Nat) (a0:OA) (a3 a1:Nat) (a2:Option Nat) (I:Nat → World → Prop) (m:Nat):Kh:=KG (yk3 a5 a4 bm0 a0 a3 a1 a2) (U0 I) m
theorem ytS {I:Nat → World → Prop} (m':Nat) (h1:m' < m) (h2:I m' w):KS (yC6 i0 A0 n0 q0 n1 n2 M0 I m) (yk3 i0 A0 n0 q0 n1 n2 M0 ()) w:=⟨m',h1,_,rfl,rfl,h2⟩
theorem yC7 (I:Nat → World → Prop) (m0:Nat) (h0:I m0 w0)
 (hr:∀ m w,I m w →
 w.heap[n0]? = some (.cells #[.slice q0 n1 n2,(.map M0)] 89) →
 yz0 pP (.pointer (some A0)) 0 w (fun a9 => yaF [n0] w a9 ∧
 ixA q0 n1 (IntKind.wrap .i64 (i0 - 1)) 1 fun b7 =>
 ya1 .i64 a9 b7 fun b9 =>
 ∀ b1,Adv [] [] a9 b1 → b1.heap[n0]? = some (.cells #[.slice q0 n1 n2,(.map M0)] 89) →
 R (.tuple (Z7 i0 b9 0)) b1)
 (fun c0 c1 b0 => yaF [n0] w b0 ∧
 ∃ b3 b4 b6 b8,∃ a6,(Instr.entry (.pointer (some A0))).run pP b0 = .ok (.tuple #[(.agg (Z10 b3 b4 b6)),b8]) a6 ∧ yaF [n0] b0 a6 ∧
 ∀ a7,a6.heap.size ≤ a7 →
 brB (b3 == i0) (
 ∀ a8,Adv [] [a7] a6 a8 → a8.heap[n0]? = some (.cells #[.slice q0 n1 n2,(.map M0)] 89) →
 yHr pP (Builtin.delete_ #[87,187] 0 #[(.map M0),(.agg (Z10 b3 b4 b6))]) a8 fun c2 b5 => yaF [n0,a7] a8 b5 ∧
 KS (yC6 i0 A0 n0 q0 n1 n2 M0 I m) (yk3 i0 A0 n0 q0 n1 n2 M0 ()) b5)
 (
 ∀ b2,Adv [] [a7] a6 b2 → b2.heap[n0]? = some (.cells #[.slice q0 n1 n2,(.map M0)] 89) →
 KS (yC6 i0 A0 n0 q0 n1 n2 M0 I m) (yk3 i0 A0 n0 q0 n1 n2 M0 ()) b2))) :
 yaO yqF (yHQ 394 [0,0,1,0,1,1,1,1]) (yHR [1,1,1,1,0,1,0] [] R) (yk3 i0 A0 n0 q0 n1 n2 M0 ()) w0 :=
 lrule (yk3 i0 A0 n0 q0 n1 n2 M0) (U0 I) h0 (by rintro m _ w h; exact ⟨by kernel_rfl,by kernel_rfl,fun js => Eq.mpr (by kernel_rfl) (hr m w h)⟩)
theorem yK6 {b0:Nat} {o0_n o0_c:Nat} (hb:w.heap[b0]? = some (.cells #[.slice q0 o0_n o0_c,(.map M0)] 89)) (h :
 brB (i0 == 0) (
 brB (decide ((o0_n:Int) ≥ 32)) (
 ∀ w1,Adv [] [] w w1 → w1.heap[b0]? = some (.cells #[.slice q0 o0_n o0_c,(.map M0)] 89) →
 R (.tuple (Z7 0 0 2)) w1)
 (
 brB (i0 == 0) (
 al w (.cells #[.int .i64 0] 3) fun b8 w9 =>
 ybC pP (Builtin.append_ #[22,22] 22 #[.slice q0 o0_n o0_c,(.slice (some ⟨b8,0,none⟩) 1 1)]) w9 fun d7 c2 e0 c6 => yaF [b0] w9 c6 ∧
 ∀ b5,Adv [b0] [] c6 b5 → b5.heap[b0]? = some (.cells #[.slice d7 c2 e0,(.map M0)] 89) →
 R (.tuple (Z7 (c2:Int) 0 0)) b5)
 (
 ∀ b6,Adv [] [] w b6 → b6.heap[b0]? = some (.cells #[.slice q0 o0_n o0_c,(.map M0)] 89) →
 Calls pP 84 #[(.pointer (some ⟨b0,0,none⟩)),.int .i64 i0] b6 fun e a2 => ∃ c5,e = .returned (.bool c5) ∧ ∃ a7 a8 e1,∃ m28:Option Nat,a2.heap[b0]? = some (.cells #[.slice a7 a8 e1,(.map m28)] 89) ∧
 brB (!c5) (
 R (.tuple (Z7 0 0 80)) a2)
 (
 ixA a7 a8 (IntKind.wrap .i64 (i0 - 1)) 1 fun e3 =>
 ya1 .i64 a2 e3 fun e7 =>
 brB (decide (e7 ≥ 1099511627776)) (
 R (.tuple (Z7 0 0 2)) a2)
 (
 ixA a7 a8 (IntKind.wrap .i64 (i0 - 1)) 1 fun e4 =>
 ya1 .i64 a2 e4 fun e8 =>
 ixA a7 a8 (IntKind.wrap .i64 (i0 - 1)) 1 fun e5 =>
 st a2 e5 [(.int .i64 (IntKind.wrap .i64 (e8 + 1)))] fun b7 => ∃ c0 c3 c1,∃ m48:Option Nat,b7.heap[b0]? = some (.cells #[.slice c0 c3 c1,(.map m48)] 89) ∧
 ylU pP (Instr.range 87 (.map m48)) b7 fun e6 c7 => yaF [b0] b7 c7 ∧
 yaO yqF (yHQ 394 [0,0,1,0,1,1,1,1]) (yHR [1,1,1,1,0,1,0] [] R) (yk3 i0 e6 b0 c0 c3 c1 m48 ()) c7)))))
 (
 brB (i0 == 0) (
 al w (.cells #[.int .i64 0] 3) fun d9 c8 =>
 ybC pP (Builtin.append_ #[22,22] 22 #[.slice q0 o0_n o0_c,(.slice (some ⟨d9,0,none⟩) 1 1)]) c8 fun d8 c4 e2 c9 => yaF [b0] c8 c9 ∧
 ∀ b9,Adv [b0] [] c9 b9 → b9.heap[b0]? = some (.cells #[.slice d8 c4 e2,(.map M0)] 89) →
 R (.tuple (Z7 (c4:Int) 0 0)) b9)
 (
 ∀ a5,Adv [] [] w a5 → a5.heap[b0]? = some (.cells #[.slice q0 o0_n o0_c,(.map M0)] 89) →
 Calls pP 84 #[(.pointer (some ⟨b0,0,none⟩)),.int .i64 i0] a5 fun e a1 => ∃ b3,e = .returned (.bool b3) ∧ ∃ a3 a4 d0,∃ m106:Option Nat,a1.heap[b0]? = some (.cells #[.slice a3 a4 d0,(.map m106)] 89) ∧
 brB (!b3) (
 R (.tuple (Z7 0 0 80)) a1)
 (
 ixA a3 a4 (IntKind.wrap .i64 (i0 - 1)) 1 fun d1 =>
 ya1 .i64 a1 d1 fun d5 =>
 brB (decide (d5 ≥ 1099511627776)) (
 R (.tuple (Z7 0 0 2)) a1)
 (
 ixA a3 a4 (IntKind.wrap .i64 (i0 - 1)) 1 fun d2 =>
 ya1 .i64 a1 d2 fun d6 =>
 ixA a3 a4 (IntKind.wrap .i64 (i0 - 1)) 1 fun d3 =>
 st a1 d3 [(.int .i64 (IntKind.wrap .i64 (d6 + 1)))] fun a6 => ∃ a9 b2 b1,∃ m126:Option Nat,a6.heap[b0]? = some (.cells #[.slice a9 b2 b1,(.map m126)] 89) ∧
 ylU pP (Instr.range 87 (.map m126)) a6 fun d4 b4 => yaF [b0] a6 b4 ∧
 yaO yqF (yHQ 394 [0,0,1,0,1,1,1,1]) (yHR [1,1,1,1,0,1,0] [] R) (yk3 i0 d4 b0 a9 b2 b1 m126 ()) b4))))) :
 CR pP 39 #[(.pointer (some ⟨b0,0,none⟩)),.int .i64 i0] w R :=
 yaJ Tryz.wide_mixed (an:=yyO) Tryz.func39 rfl rfl (by kernel_rfl) rfl hb (Eq.mpr (by kernel_rfl) h)
theorem yK7 {b0:Nat} {o0_n o0_c:Nat} {a5 a4:Nat} (hb:w.heap[b0]? = some (.cells #[.slice q0 o0_n o0_c,(.map M0)] 89)) (h :
 ∀ b3,w.heap.size ≤ b3 →
 ∀ b4,w.heap.size ≤ b4 →
 brB (i1 == 0) (
 ∀ w5,Adv [] [b4,b3] w w5 → w5.heap[b0]? = some (.cells #[.slice q0 o0_n o0_c,(.map M0)] 89) →
 R (.tuple (Z12 0 false 0)) w5)
 (
 ∀ b9,Adv [] [b4,b3] w b9 → b9.heap[b0]? = some (.cells #[.slice q0 o0_n o0_c,(.map M0)] 89) →
 Calls pP 84 #[(.pointer (some ⟨b0,0,none⟩)),.int .i64 i1] b9 fun e a6 => ∃ d0,e = .returned (.bool d0) ∧ yaV [b0] [(b3,33),(b4,36)] [b3,b4] b9 a6 ∧ ∃ a7 a8 b5,∃ m19:Option Nat,a6.heap[b0]? = some (.cells #[.slice a7 a8 b5,(.map m19)] 89) ∧
 brB (!d0) (
 R (.tuple (Z12 0 false 80)) a6)
 (
 ixA a7 a8 (IntKind.wrap .i64 (i1 - 1)) 1 fun d9 =>
 ya1 .i64 a6 d9 fun d1 =>
 brB (decide (d1 > i2)) (
 ∀ c4,Adv [] [] a6 c4 → c4.heap[b0]? = some (.cells #[.slice a7 a8 b5,(.map m19)] 89) →
 R (.tuple (Z12 0 false 81)) c4)
 (
 brB (decide (d1 < i2)) (
 ∀ c5,Adv [] [] a6 c5 → c5.heap[b0]? = some (.cells #[.slice a7 a8 b5,(.map m19)] 89) →
 R (.tuple (Z12 0 false 80)) c5)
 (
 ∀ c0,Adv [] [] a6 c0 → c0.heap[b0]? = some (.cells #[.slice a7 a8 b5,(.map m19)] 89) →
 ∃ b7 b8 c3,(∀ w',Mod [] c0 w' → (Instr.lookup 87 (.map m19) (.agg (Z10 i1 s0 i0)) false).run pP w' = .ok (.slice b7 b8 c3) w') ∧
 ∀ c1,Adv [] [] c0 c1 → c1.heap[b0]? = some (.cells #[.slice a7 a8 b5,(.map m19)] 89) →
 Calls pP 90 #[.slice b7 b8 c3] c1 fun e c2 => ∃ d2,e = .returned (.int .i64 d2) ∧ yaV [b0] [(b3,33),(b4,36)] [b3,b4] c1 c2 ∧ ∃ c7 c9 c8,∃ m34:Option Nat,c2.heap[b0]? = some (.cells #[.slice c7 c9 c8,(.map m34)] 89) ∧ (((.int .i64 i3):Value) = (.int .i64 i3)) ∧
 brB (i3 == d2) (
 R (.tuple (Z12 0 false 0)) c2)
 (
 ∀ b6,Adv [] [] c2 b6 → b6.heap[b0]? = some (.cells #[.slice c7 c9 c8,(.map m34)] 89) →
 b6.heap[b4]? = some (.cells (Z5 i1 i2 i3 q1 a5 a4) 36) →
 Calls pP 91 #[.slice b7 b8 c3,(.func (.func 92) #[] #[(.pointer (some ⟨b4,0,none⟩))])] b6 fun e a9 => ∃ c6,e = .returned (.int .i64 c6) ∧ yaV [b0,b4] [(b3,33)] [b3] b6 a9 ∧ ∃ d3 d7 d5,∃ m54:Option Nat,a9.heap[b0]? = some (.cells #[.slice d3 d7 d5,(.map m54)] 89) ∧ ∃ e1 e2 e3 d4 d8 d6,a9.heap[b4]? = some (.cells (Z5 e1 e2 e3 d4 d8 d6) 36) ∧
 brB (decide (c6 < 0)) (
 R (.tuple (Z12 0 false 82)) a9)
 (
 ixA b7 b8 c6 3 fun e0 =>
 ya1 .i64 a9 (Addr.add e0 2) fun e4 =>
 R (.tuple (Z12 e4 true 0)) a9))))))) :
 CR pP 41 #[(.pointer (some ⟨b0,0,none⟩)),(.agg #[.string s0,.int .i64 i0]),(.agg (Z5 i1 i2 i3 q1 a5 a4))] w R :=
 yaJ Tryz.wide_mixed (an:=[]) Tryz.func41 rfl rfl (by kernel_rfl) rfl hb (Eq.mpr (by kernel_rfl) h)
theorem yK8 (h :
 ∀ b2,w.heap.size ≤ b2 →
 ∀ w8,Adv [] [b2] w w8 →
 ya1 .i64 w8 (Addr.add A0 2) fun x9 =>
 brB (i0 == x9) (
 ya2 w8 (Addr.add A0 3) fun a4 a3 a5 =>
 R (.bool (i1 == (a3:Int))) w8)
 (
 R (.bool false) w8)) :
 CR pP 92 #[(.agg (Z7 i0 i1 i2)),(.pointer (some A0))] w R :=
 yaB Tryz.wide_mixed (an:=[]) Tryz.func92 rfl rfl (by kernel_rfl) rfl (Eq.mpr (by kernel_rfl) h)
def ywB:LA:=⟨[0,0,1,0,1],[0,1,7,8],[],0,[]⟩
def yyP:List LA:=[ywB]
abbrev yK9:=dnF pP yyP (code Tryz.f91)
abbrev yNB:=yaR pP yyP (code Tryz.f91)
abbrev yLa (p:List Nat) (K:List Kh) (R:VWP):=yaR pP yyP (code Tryz.f91) p K (ybE pP Tryz.f91 [] R)
def yo2 (a1:OA) (a3 a2:Nat) (a0:Addr) (a4:Int):Int → List Value × List TB:=fun a5 => ([.slice a1 a3 a2,(.func (.func 92) #[] #[(.pointer (some a0))]),.int .i64 a4,.int .i64 a5],[])
abbrev yGn (a1:OA) (a3 a2:Nat) (a0:Addr) (a4:Int) (I:Nat → Int → World → Prop) (m:Nat):Kh:=KG (yo2 a1 a3 a2 a0 a4) (U1 I) m
theorem yC8 {I:Nat → Int → World → Prop} (m':Nat) (h1:m' < m) (h2:I m' i1 w):KS (yGn q0 n0 n1 A0 i0 I m) (yo2 q0 n0 n1 A0 i0 i1) w:=⟨m',h1,_,rfl,rfl,h2⟩
theorem yC9 {a2:OA} (I:Nat → Int → World → Prop) (m0:Nat) (h0:I m0 i1 w0)
 (hr:∀ m a1 w,I m a1 w →
 brB (decide (a1 < i0)) (
 ixA a2 n0 a1 3 fun q7 =>
 ya1 .i64 w q7 fun x8 => ya1 .i64 w (Addr.add q7 1) fun x9 => ya1 .i64 w (Addr.add q7 2) fun a9 =>
 Calls pP 92 #[(.agg (Z7 x8 x9 a9)),(.pointer (some A0))] w fun e a8 => ∃ a7,e = .returned (.bool a7) ∧
 brB a7 (
 R (.int .i64 a1) a8)
 (
 KS (yGn a2 n0 n1 A0 i0 I m) (yo2 a2 n0 n1 A0 i0 (IntKind.wrap .i64 (a1 + 1))) a8))
 (
 R (.int .i64 (-1)) w)) :
 yaO ywB (yK9 397 [0,0,1,0,1]) (yLa [1,0,1,0] [] R) (yo2 a2 n0 n1 A0 i0 i1) w0 :=
 lrule (yo2 a2 n0 n1 A0 i0) (U1 I) h0 (by rintro m a1 w h; exact ⟨by kernel_rfl,by kernel_rfl,fun js => Eq.mpr (by kernel_rfl) (hr m a1 w h)⟩)
theorem yLb (h :
 yaO ywB (yK9 397 [0,0,1,0,1]) (yLa [1,0,1,0] [] R) (yo2 q0 n0 n1 A0 (n0:Int) 0) w) :
 CR pP 91 #[.slice q0 n0 n1,(.func (.func 92) #[] #[(.pointer (some A0))])] w R :=
 yaB Tryz.wide_mixed (an:=yyP) Tryz.func91 rfl rfl (by kernel_rfl) rfl (Eq.mpr (by kernel_rfl) h)
theorem yLc {b0:Nat} {o0_n o0_c:Nat} {a3 a7:Nat} (hb:w.heap[b0]? = some (.cells #[.slice q0 o0_n o0_c,(.map M0)] 89)) (h :
 ∀ b3,w.heap.size ≤ b3 →
 ∀ b4,w.heap.size ≤ b4 →
 ∀ b5,Adv [] [b4,b3] w b5 → b5.heap[b0]? = some (.cells #[.slice q0 o0_n o0_c,(.map M0)] 89) →
 Calls pP 41 #[(.pointer (some ⟨b0,0,none⟩)),(.agg #[.string s0,.int .i64 i0]),(.agg (Z5 i1 i2 i3 q1 a3 a7))] b5 fun e a8 => ∃ e7 d1 c3,e = .returned (.tuple (Z12 e7 d1 c3)) ∧ yaV [b0] [(b3,33),(b4,36)] [b3,b4] b5 a8 ∧ ∃ d6 e4 e1,∃ m22:Option Nat,a8.heap[b0]? = some (.cells #[.slice d6 e4 e1,(.map m22)] 89) ∧
 brB (c3 != 0) (
 R (.int .i64 c3) a8)
 (
 brB d1 (
 R (.int .i64 82) a8)
 (
 brB ((a3:Int) == 0) (
 R (.int .i64 1) a8)
 (
 Calls pP 97 #[.int .i64 i4] a8 fun e b1 => ∃ d2,e = .returned (.bool d2) ∧ yaV [b0] [(b3,33),(b4,36)] [b3,b4] a8 b1 ∧ ∃ b9 c1 c0,∃ m34:Option Nat,b1.heap[b0]? = some (.cells #[.slice b9 c1 c0,(.map m34)] 89) ∧
 brB (!d2) (
 R (.int .i64 1) b1)
 (
 brB (i1 == 0) (
 R (.int .i64 0) b1)
 (
 ∀ a9,b1.heap.size ≤ a9 →
 ∀ b6,Adv [] [a9] b1 b6 → b6.heap[b0]? = some (.cells #[.slice b9 c1 c0,(.map m34)] 89) →
 ∃ c4 c9 c6,(∀ w',Mod [] b6 w' → (Instr.lookup 87 (.map m34) (.agg (Z10 i1 s0 i0)) false).run pP w' = .ok (.slice c4 c9 c6) w') ∧
 al b6 (.cells (Z7 i3 (a3:Int) i4) 196) fun e0 d3 =>
 ybC pP (Builtin.append_ #[141,141] 141 #[.slice c4 c9 c6,(.slice (some ⟨e0,0,none⟩) 1 1)]) d3 fun d7 c2 c7 d4 => yaF [b0,b3,b4,a9] d3 d4 ∧
 slV d7 c7 (if (IntKind.wrap .i64 ((c2:Int) - 5)) > 0 then (IntKind.wrap .i64 ((c2:Int) - 5)) else 0) c2 c7 3 fun d8 e5 e2 =>
 ∀ b7,Adv [] [] d4 b7 → b7.heap[b0]? = some (.cells #[.slice b9 c1 c0,(.map m34)] 89) →
 Calls pP 98 #[.slice d8 e5 e2] b7 fun e b8 => ∃ c5 d0 c8,e = .returned (.slice c5 d0 c8) ∧ yaV [b0] [(b3,33),(b4,36),(a9,187)] [b3,b4,a9] b7 b8 ∧ ∃ d9 e6 e3,∃ m58:Option Nat,b8.heap[b0]? = some (.cells #[.slice d9 e6 e3,(.map m58)] 89) ∧ (((.agg (Z10 i1 s0 i0)):Value) = (.agg (Z10 i1 s0 i0))) ∧ (((.map m58):Value) = (.map m34)) ∧
 ydM pP (Instr.mapUpdate 87 (.map m34) (.agg (Z10 i1 s0 i0)) (.slice c5 d0 c8)) b8 fun d5 => yaF [b0,b3,b4,a9] b8 d5 ∧
 R (.int .i64 0) d5)))))) :
 CR pP 43 #[(.pointer (some ⟨b0,0,none⟩)),(.agg #[.string s0,.int .i64 i0]),(.agg (Z5 i1 i2 i3 q1 a3 a7)),.int .i64 i4] w R :=
 yaJ Tryz.wide_mixed (an:=[]) Tryz.func43 rfl rfl (by kernel_rfl) rfl hb (Eq.mpr (by kernel_rfl) h)
theorem yLd (h :
 brB (Option.isNone q0) (
 R (.slice none 0 0) w)
 (
 al w (.cells #[] 196) fun b7 w8 =>
 ybC pP (Builtin.append_ #[141,141] 141 #[(.slice (some ⟨b7,0,none⟩) 0 0),.slice q0 n0 n1]) w8 fun a3 a5 a4 w9 =>
 R (.slice a3 a5 a4) w9)) :
 CR pP 98 #[.slice q0 n0 n1] w R :=
 yaB Tryz.wide_mixed (an:=[]) Tryz.func98 rfl rfl (by kernel_rfl) rfl (Eq.mpr (by kernel_rfl) h)
end
end Go.Proofs.YteldhjiiocmicaaGreat
namespace Go.Proofs.YteldhjiiocmicaaGreat
open Go Go.RowKit Go.Maps Go.MapKept
open Go.ChangeMaps (setBlock)
set_option linter.unusedVariables false
set_option linter.unusedSimpArgs false
structure PDid where
 seq:Int
 n:Int
 off:Int
 deriving DecidableEq
def yjZ (d:PDid):List Value:=[.int .i64 d.seq,.int .i64 d.n,.int .i64 d.off]
theorem yg9 (d:PDid):(yjZ d).length = 3:=rfl
theorem yyQ (d:PDid):∀ u ∈ yjZ d,u.oneCell' = true:=by simp [yjZ,Value.oneCell']
structure DidV where
 s:Sl
 l:List PDid
def DidV.v (q:DidV):Value:=.slice q.s.a q.s.n q.s.c
abbrev yjI:=Int × PPart
abbrev DL:=List (yjI × DidV)
def ddL (L:DL):List (yjI × List PDid):=L.map fun q => (q.1,q.2.l)
def yeO (w:World) (b:Nat) (eps:List Int) (D:List (yjI × List PDid)) (F:List Nat):Prop :=
 ∃ (sl:Sl) (m:Nat) (L:DL),w.heap[b]? = some (.cells #[.slice sl.a sl.n sl.c,.map (some m)] 89) ∧ Row w 0 3 1 ycO sl.a sl.n sl.c eps ∧ yaS pP 187 hkd DidV.v w m L ∧
  (∀ q ∈ L,Row w 0 196 3 yjZ q.2.s.a q.2.s.n q.2.s.c q.2.l) ∧ L.Pairwise (fun a b => ydN (yaN a.2.s.a) (yaN b.2.s.a)) ∧ D = ddL L ∧ F = b :: m :: (yaN sl.a ++ L.flatMap fun q => yaN q.2.s.a)
theorem yeO.lt {w:World} {b:Nat} {eps:List Int} {D:List (yjI × List PDid)} {F:List Nat} (h:yeO w b eps D F):∀ k ∈ F,k < w.heap.size:=by
 obtain ⟨sl,m,L,hc,hR,hm,hD,hP,rfl,rfl⟩:=h
 intro k hk
 simp only [List.mem_cons,List.mem_append,List.mem_flatMap] at hk
 rcases hk with rfl | rfl | hk | ⟨q,hq,hk⟩
 ·exact yaH hc
 ·exact hm.lt
 ·exact (yaG hR k hk).2
 ·exact (yaG (hD q hq) k hk).2
theorem yeO.keep {w w':World} {b:Nat} {eps:List Int} {D:List (yjI × List PDid)} {F S:List Nat} (h:yeO w b eps D F) (M:Mod S w w') (hS:∀ k ∈ S,k ∉ F):yeO w' b eps D F:=by
 obtain ⟨sl,m,L,hc,hR,hm,hD,hP,rfl,rfl⟩:=h
 refine ⟨sl,m,L,M.keep hc (fun hb => hS b hb (by simp)),yaA hR M (fun k hk hk' => hS k hk (by simp [hk'])),hm.keepM M (fun hb => hS m hb (by simp)),fun q hq => yaA (hD q hq) M fun k hk hk' => hS k hk ?_,hP,rfl,rfl⟩
 simp only [List.mem_cons,List.mem_append,List.mem_flatMap]
 exact .inr (.inr (.inr ⟨q,hq,hk'⟩))
theorem yeO.keep0 {w w':World} {b:Nat} {eps:List Int} {D:List (yjI × List PDid)} {F:List Nat} (h:yeO w b eps D F) (M:Mod [] w w'):yeO w' b eps D F:=h.keep M (by simp)
theorem ytT (w:World):Calls pP 14 #[] w fun e w' => ∃ v,e = .returned v ∧ ∃ b F,v = .pointer (some ⟨b,0,none⟩) ∧ yeO w' b [] [] F ∧ (∀ k ∈ F,w.heap.size ≤ k) ∧ Mod [] w w':=by
 refine yJ7 ?_
 refine yd6 fun b4 w5 c5 M5 f5 => ?_
 have s5:=M5.size
 intro b6 f6 w7 A7 h7
 exact ⟨b6,_,rfl,⟨ya8,b4,[],h7,Row.nil ..,yaS.of_new (A7.mod.keep0 c5),by simp,by simp,rfl,rfl⟩,by simp [yaN,ya8]; omega,M5.go0 A7.mod (by simp)⟩
def isE (eps:List Int) (id:Int):Bool:=decide (1 ≤ id ∧ id ≤ eps.length)
theorem yqG {w:World} {b:Nat} {eps:List Int} {D:List (yjI × List PDid)} {F:List Nat} (h:yeO w b eps D F) (id:Int) :
  Calls pP 84 #[.pointer (some ⟨b,0,none⟩),.int .i64 id] w fun e w' => e = .returned (.bool (isE eps id)) ∧ Mod [] w w':=by
 obtain ⟨sl,m,L,hc,hR,hm,hD,hP,rfl,rfl⟩:=h
 have hn:=hR.1
 refine ya0 (yK5 hc ?_)
 refine yaC (fun g => ?_) fun g => ?_
 ·intro w1 A1 _
  exact ⟨congrArg Value.bool (decide_eq_decide.2 ⟨fun h => ⟨by omega,by omega⟩,fun h => by omega⟩),A1.mod⟩
 ·intro w1 A1 _
  exact ⟨congrArg Value.bool (decide_eq_false (by omega)).symm,A1.mod⟩
theorem ym0 (n:Int) (w:World):Calls pP 97 #[.int .i64 n] w fun e w' => e = .returned (.bool (num n)) ∧ w' = w :=
 ya0 (yK4 (yaC (fun h => ⟨by simp [num]; omega,rfl⟩) (fun h => ⟨by simp [num]; omega,rfl⟩)))
def yHS (l:List PDid):Int:=match l[l.length - 1]? with
 | none => 0
 | some d => IntKind.wrap .i64 (d.seq + d.n)
theorem yGo {w:World} {a:Option Addr} {n c:Nat} {l:List PDid} (h:ybF w 3 yjZ a n l) (hl:l.length ≤ 1000000) :
  Calls pP 90 #[.slice a n c] w fun e w' => e = .returned (.int .i64 (yHS l)) ∧ Mod [] w w':=by
 have hn:=h.1
 refine ya0 (yK3 ?_)
 refine yaE (fun g => ?_) fun g => ?_
 ·have g:l.length = 0:=by have:=eq_of_beq g; omega
  rw [List.length_eq_zero_iff] at g
  subst g
  exact ⟨rfl,Mod.refl _⟩
 ·have g:l.length ≠ 0:=by
   intro e
   rw [hn,e] at g
   simp at g
  have e:IntKind.wrap .i64 ((n:Int) - 1) = ((l.length - 1:Nat):Int):=by rw [yaI (by omega) (by omega)]; omega
  rw [e]
  obtain ⟨d,hd⟩:∃ d,l[l.length - 1]? = some d:=⟨_,List.getElem?_eq_getElem (by omega)⟩
  refine h.ix hd fun q hq => yaK (by simpa [add_zero] using hq 0 _ rfl) (yaK (hq 1 _ rfl) (yaK (hq 2 _ rfl) ?_))
  intro b10 f10 w11 A11
  exact ⟨by rw [yHS,hd],A11.mod⟩
def yeP (eps:List Int) (id:Int):Int × Int × Int :=
 if id = 0 then (if 32 ≤ eps.length then (0,0,2) else (eps.length + 1,0,0)) else if isE eps id = false then (0,0,80) else if 1099511627776 ≤ eps.getD (id - 1).toNat 0 then (0,0,2) else (id,IntKind.wrap .i64 (eps.getD (id - 1).toNat 0 + 1),0)
def yf6 (eps:List Int) (id:Int):List Int:=if (yeP eps id).2.2 ≠ 0 then eps else if id = 0 then eps ++ [0] else eps.set (id - 1).toNat (IntKind.wrap .i64 (eps.getD (id - 1).toNat 0 + 1))
def ym1 (eps:List Int) (D:List (yjI × List PDid)) (id:Int):List (yjI × List PDid):=if (yeP eps id).2.2 ≠ 0 then D else if id = 0 then D else D.filter fun q => decide (q.1.1 ≠ id)
open Classical in
noncomputable def struckL (L left:DL) (id:Int):DL:=L.filter fun q => decide (¬ (q.1.1 = id ∧ q.1 ∉ left.map (·.1)))
open Classical in
theorem ywC {L left:DL} {id:Int} (hn:(L.map (·.1)).Nodup) {x:yjI × DidV} (hx:x ∈ left) :
  struckL L (yeJ left x.1) id = if x.1.1 = id then yeJ (struckL L left id) x.1 else struckL L left id:=by
 have key:∀ q ∈ L,(q.1 ∉ (yeJ left x.1).map (·.1) ↔ q.1 ∉ left.map (·.1) ∨ q.1 = x.1):=fun q hq => by
  constructor
  ·intro h
   by_cases e:q.1 = x.1
   ·exact .inr e
   ·refine .inl fun hm => h ?_
    obtain ⟨z,hz,hzk⟩:=List.mem_map.1 hm
    exact List.mem_map.2 ⟨z,ydI.2 ⟨hz,by rw [hzk]; exact e⟩,hzk⟩
  ·rintro (h | h) hm
   ·obtain ⟨z,hz,hzk⟩:=List.mem_map.1 hm
    exact h (List.mem_map.2 ⟨z,(ydI.1 hz).1,hzk⟩)
   ·obtain ⟨z,hz,hzk⟩:=List.mem_map.1 hm
    exact (ydI.1 hz).2 (by rw [hzk,h])
 split
 ·rename_i g
  have e0:∀ M:DL,yeJ M x.1 = M.filter fun p => decide (p.1 ≠ x.1):=fun _ => rfl
  rw [struckL,struckL,e0 (L.filter _),List.filter_filter]
  refine List.filter_congr fun q hq => ?_
  rw [← Bool.decide_and]
  refine decide_eq_decide.2 ?_
  rw [key q hq]
  constructor
  ·intro h
   refine ⟨fun e => h ⟨by rw [e]; exact g,.inr e⟩,fun h2 => h ⟨h2.1,.inl h2.2⟩⟩
  ·rintro ⟨h1,h2⟩ ⟨h3,h4 | h4⟩
   ·exact h2 ⟨h3,h4⟩
   ·exact h1 h4
 ·rename_i g
  rw [struckL,struckL]
  refine List.filter_congr fun q hq => decide_eq_decide.2 ?_
  rw [key q hq]
  constructor
  ·exact fun h h2 => h ⟨h2.1,.inl h2.2⟩
  ·rintro h ⟨h3,h4 | h4⟩
   ·exact h ⟨h3,h4⟩
   ·exact g (by rw [← h4]; exact h3)
theorem yDa {κ β:Type} [DecidableEq κ] (L:List (κ × β)) (k:κ):yeJ (yeJ L k) k = yeJ L k:=by
 unfold yeJ
 rw [List.filter_filter]
 exact List.filter_congr fun q _ => by simp
open Classical in
set_option maxHeartbeats 2000000 in
theorem yAo {w:World} {b:Nat} {eps:List Int} {D:List (yjI × List PDid)} {F:List Nat} (h:yeO w b eps D F) (hl:eps.length ≤ 1000) (hD0:D.length ≤ 1000000) (pid:Int) :
  Calls pP 39 #[.pointer (some ⟨b,0,none⟩),.int .i64 pid] w fun e w' => e = .returned (.tuple #[.int .i64 (yeP eps pid).1,.int .i64 (yeP eps pid).2.1,.int .i64 (yeP eps pid).2.2]) ∧ ∃ F',yeO w' b (yf6 eps pid) (ym1 eps D pid) F' ∧ Mod F w w' ∧ ybG w F F':=by
 have hA:=h
 obtain ⟨sl,m,L,hc,hR,hm,hD,hP,rfl,rfl⟩:=h
 have hn:=hR.1
 have lb:=yaH hc
 have lm:=hm.lt
 have hmb:m ≠ b:=by rintro rfl; exact hm.notCells hc
 have hbr:b ∉ yaN sl.a:=yc5 hR hc (by decide)
 have hmr:m ∉ yaN sl.a:=fun hi => by
  obtain ⟨_,_,cur,hcur⟩:=yaP hR m hi
  exact hm.notCells hcur
 have ltR:=yaG hR
 have stay:∀ {w':World} {v:Int × Int × Int},Mod [] w w' → yeP eps pid = v → v.2.2 ≠ 0 → ∃ F',yeO w' b (yf6 eps pid) (ym1 eps (ddL L) pid) F' ∧ Mod (b :: m :: (yaN sl.a ++ L.flatMap fun q => yaN q.2.s.a)) w w' ∧ ybG w (b :: m :: (yaN sl.a ++ L.flatMap fun q => yaN q.2.s.a)) F':=fun {w' v} M e he => by
  rw [yf6,ym1,e,if_pos he,if_pos he]
  exact ⟨_,hA.keep0 M,M.less (by simp),ybG.refl _ _⟩
 refine ya0 (yK6 hc ?_)
 refine yaE (fun g0 => ?_) fun g0 => ?_
 ·have g0:pid = 0:=eq_of_beq g0
  refine yaC (fun g => ?_) fun g => ?_
  ·intro w1 A1 _
   have e:yeP eps pid = (0,0,2):=by rw [yeP,if_pos g0,if_pos (by omega)]
   rw [e]
   exact ⟨rfl,stay A1.mod e (by decide)⟩
  refine yaE (fun _ => ?_) fun g1 => ?_
  ·have e:yeP eps pid = ((eps.length:Int) + 1,0,0):=by rw [yeP,if_pos g0,if_neg (by omega)]
   have z1:¬ (((eps.length:Int) + 1,(0:Int),(0:Int)).2.2 ≠ 0):=fun h => h rfl
   refine yjU (y:=0) (f:=sl) hR (by omega) (by omega) (by simpa using hbr) fun a11 c13 w10 hR10 M10 hk10 => ?_
   intro w14 A14 h14
   have hb11:b ∉ yaN a11:=fun hb => by
    rcases hk10 b hb with h1 | h1
    ·exact hbr h1
    ·omega
   have N14:Mod (b :: yaN sl.a) w w14:=(M10.trans A14.mod).less fun z hz _ => by simp at hz ⊢; rcases hz with h1 | h1 <;> simp [h1]
   have apD:∀ q ∈ L,∀ z ∈ b :: yaN sl.a,z ∉ yaN q.2.s.a:=fun q hq z hz hz' => by
    rcases List.mem_cons.1 hz with rfl | hz
    ·exact yc5 (hD q hq) hc (by decide) hz'
    ·exact ya3 hR (hD q hq) (by decide) z hz hz'
   rw [yf6,ym1,e,if_neg z1,if_neg z1,if_pos g0,if_pos g0]
   refine ⟨?_,_,⟨⟨a11,sl.n + 1,c13⟩,m,L,h14,yaA hR10 A14.mod (by simpa using hb11),hm.keepM N14 (by simp; exact ⟨hmb,hmr⟩),fun q hq => yaA (hD q hq) N14 (apD q hq),hP,rfl,rfl⟩,N14.less fun z hz _ => ?_,fun z hz => ?_⟩
   ·have e2:((sl.n + 1:Nat):Int) = (eps.length:Int) + 1:=by omega
    rw [e2]
   ·simp only [List.mem_cons,List.mem_append] at hz ⊢
    rcases hz with h1 | h1 <;> simp [h1]
   ·simp only [List.mem_cons,List.mem_append] at hz ⊢
    rcases hz with h1 | h1 | h1 | h1
    ·exact .inl (.inl h1)
    ·exact .inl (.inr (.inl h1))
    ·rcases hk10 z h1 with h2 | h2
     ·exact .inl (.inr (.inr (.inl h2)))
     ·exact .inr h2
    ·exact .inl (.inr (.inr (.inr h1)))
  ·rw [g0] at g1; cases g1
 have g0':pid ≠ 0:=by rintro rfl; cases g0
 refine yaE (fun g1 => ?_) fun _ => ?_
 ·rw [g1] at g0; cases g0
 intro w100 A100 h100
 refine (yqG (hA.keep0 A100.mod) pid).mono ?_
 rintro _ w101 ⟨rfl,M101⟩
 have N101:=A100.mod.go0 M101 (by simp)
 have h101:=M101.keep0 h100
 refine ⟨_,rfl,_,_,_,_,h101,?_⟩
 refine yaE (fun g => ?_) fun g => ?_
 ·have g:isE eps pid = false:=by simpa using g
  have e:yeP eps pid = (0,0,80):=by rw [yeP,if_neg g0',if_pos g]
  rw [e]
  exact ⟨rfl,stay N101 e (by decide)⟩
 have g:isE eps pid = true:=by simpa using g
 have g':1 ≤ pid ∧ pid ≤ eps.length:=by simpa [isE] using g
 have ei:IntKind.wrap .i64 (pid - 1) = (((pid - 1).toNat:Nat):Int):=by rw [yaI (by omega) (by omega)]; omega
 obtain ⟨x,hx⟩:∃ x,eps[(pid - 1).toNat]? = some x:=⟨_,List.getElem?_eq_getElem (by omega)⟩
 have hxd:eps.getD (pid - 1).toNat 0 = x:=by rw [List.getD_eq_getElem?_getD,hx]; rfl
 have hR101:=hR.keep0 N101
 have ng:¬ isE eps pid = false:=by rw [g]; decide
 rw [ei]
 refine (hR101.sl yb4).ix hx fun q hq => yaK (x:=x) (by simpa [add_zero] using hq 0 _ rfl) ?_
 refine yaC (fun g2 => ?_) fun g2 => ?_
 ·have e:yeP eps pid = (0,0,2):=by rw [yeP,if_neg g0',if_neg ng,if_pos (by rw [hxd]; exact g2)]
  rw [e]
  exact ⟨rfl,stay N101 e (by decide)⟩
 refine (hR101.sl yb4).ix hx fun q hq => yaK (x:=x) (by simpa [add_zero] using hq 0 _ rfl) ?_
 have e:yeP eps pid = (pid,IntKind.wrap .i64 (x + 1),0):=by rw [yeP,if_neg g0',if_neg ng,if_neg (by rw [hxd]; exact g2),hxd]
 refine Row.store (enc:=ycO) (y:=IntKind.wrap .i64 (x + 1)) hR101 yb4 (by simp [ycO,yhH]) hx fun ad w122 had hR122 M122 => ?_
 have hblk:ad.block ∈ yaN sl.a:=ycN sl.a ad had
 have hbad:b ∉ [ad.block]:=by simp; rintro rfl; exact hbr hblk
 have hmad:m ∉ [ad.block]:=by simp; rintro rfl; exact hmr hblk
 have h122:=M122.keep h101 hbad
 refine ⟨_,_,_,_,h122,?_⟩
 have hm122:=(hm.keepM0 N101).keepM M122 hmad
 obtain ⟨w130,h130,M130,I130⟩:=ybW.start (T:=87) hm122 Tryz.underlying87
 refine ⟨_,w130,h130,yaF.of0 M130,?_⟩
 generalize hr:w122.heap.size = r at I130 ⊢
 have s101:=N101.size
 have s122:=M122.size
 have s130:=M130.size
 have N122:Mod [ad.block] w w122:=(N101.trans M122).less (by simp)
 have N130:Mod [ad.block] w w130:=(N122.trans M130).less (by simp)
 have hnd:=hm.nodup
 have hDL:L.length ≤ 1000000:=by simpa [ddL] using hD0
 have rcell:∀ {w':World} {left Lc:DL},ybW pP 187 hkd DidV.v w' r m Lc left → ∀ {cs:Array Value} {T:TypeId},w'.heap[r]? ≠ some (.cells cs T):=fun I => by
  obtain ⟨es,clock,since,seen,c0,h1,_⟩:=I
  rw [h1]; simp
 refine yC7 (fun mm w' => ∃ left:DL,ybW pP 187 hkd DidV.v w' r m (struckL L left pid) left ∧ (∀ q ∈ left,q ∈ L) ∧ (left.map (·.1)).Nodup ∧ Mod [ad.block,m] w w' ∧ Row w' 0 3 1 ycO sl.a sl.n sl.c (eps.set (pid - 1).toNat (IntKind.wrap .i64 (x + 1))) ∧ mm = left.length) L.length
  ⟨L,by rw [show struckL L L pid = L from List.filter_eq_self.2 fun q hq => decide_eq_true fun hh => hh.2 (List.mem_map.2 ⟨q,hq,rfl⟩)]; exact I130,fun q hq => hq,hnd,N130.less (by simp),hR122.keep0 M130,rfl⟩ ?_
 rintro mm w1 ⟨left,I1,hsub,hndl,N1,hR1,rfl⟩
 intro hb1
 have s1:=N1.size
 have nr:r ∉ yaN sl.a:=fun hi => by
  have:=(ltR r hi).2; omega
 rcases I1.step (ty:=0) yh1 with ⟨hl0,hs⟩ | ⟨q,hq,w4',hs,M4',I4,hen⟩
 ·subst hl0
  refine .inl ⟨_,hs,yaF.of0 (Mod.refl _),?_⟩
  have hx':(eps.set (pid - 1).toNat (IntKind.wrap .i64 (x + 1)))[(pid - 1).toNat]? = some (IntKind.wrap .i64 (x + 1)):=by rw [List.getElem?_set_self (by omega)]
  rw [ei]
  refine (hR1.sl yb4).ix hx' fun q hq => yaK (x:=IntKind.wrap .i64 (x + 1)) (by simpa [add_zero] using hq 0 _ rfl) ?_
  intro w61 A61 h61
  have hLs:struckL L [] pid = L.filter fun q => decide (q.1.1 ≠ pid):=by
   rw [struckL]; exact List.filter_congr fun q _ => decide_eq_decide.2 (by simp)
  rw [hLs] at I1
  have sub:∀ q ∈ L.filter (fun q => decide (q.1.1 ≠ pid)),q ∈ L:=fun q hq => (List.mem_filter.1 hq).1
  have N61:Mod [ad.block,m] w w61:=(N1.trans A61.mod).less (by simp)
  have z1:¬ ((pid,IntKind.wrap .i64 (x + 1),(0:Int)).2.2 ≠ 0):=fun h => h rfl
  rw [yf6,ym1,e,if_neg z1,if_neg z1,if_neg g0',if_neg g0',hxd]
  refine ⟨rfl,_,⟨sl,m,L.filter fun q => decide (q.1.1 ≠ pid),h61,hR1.keep0 A61.mod,I1.map.keepM0 A61.mod,fun q hq => ?_,hP.sublist List.filter_sublist,?_,rfl⟩,N61.less fun z hz _ => ?_,fun z hz => ?_⟩
  ·refine yaA (hD q (sub q hq)) N61 fun z hz hz' => ?_
   simp at hz
   rcases hz with rfl | rfl
   ·exact ya3 hR (hD q (sub q hq)) (by decide) _ hblk hz'
   ·obtain ⟨_,_,cur,hcur⟩:=yaP (hD q (sub q hq)) z hz'
    exact hm.notCells hcur
  ·unfold ddL
   rw [List.filter_map]
   rfl
  ·simp at hz
   rcases hz with rfl | rfl
   ·simp [hblk]
   ·simp
  ·simp only [List.mem_cons,List.mem_append,List.mem_flatMap] at hz ⊢
   rcases hz with h1 | h1 | h1 | ⟨q,hq,h1⟩
   ·exact .inl (.inl h1)
   ·exact .inl (.inr (.inl h1))
   ·exact .inl (.inr (.inr (.inl h1)))
   ·exact .inl (.inr (.inr (.inr ⟨q,sub q hq,h1⟩)))
 ·have hqL:=hsub q hq
  obtain ⟨l,hkey⟩:=hm.keyedP q hqL
  have s4:=M4'.size
  have br:b ≠ r:=by rintro rfl; exact rcell I1 hb1
  have h4:=M4'.keep hb1 (by simpa using br)
  refine .inr ⟨_,_,w4',hs,yaF.of M4' (by simp; intro _; exact br),_,_,_,_,w4',hen w4' (Mod.refl _),yaF.of0 (Mod.refl _),?_⟩
  intro b75 f75
  have hlen:(yeJ left q.1).length + 1 = left.length:=by
   have:=(yeT hq hndl).length_eq; simpa using this.symm
  have hstep:=ywC (id:=pid) hnd hq
  have hsub':∀ z ∈ yeJ left q.1,z ∈ L:=fun z hz => hsub z (ydI.1 hz).1
  have hR4:Row w4' 0 3 1 ycO sl.a sl.n sl.c (eps.set (pid - 1).toNat (IntKind.wrap .i64 (x + 1))):=yaA hR1 M4' (by simpa using nr)
  have N4:Mod [ad.block,m] w w4':=(N1.trans M4').less fun z hz hz' => by
   simp at hz ⊢
   rcases hz with h1 | h1 | h1
   ·exact .inl h1
   ·exact .inr h1
   ·omega
  refine yaE (fun g1 => ?_) fun g1 => ?_
  ·have g1:q.1.1 = pid:=eq_of_beq g1
   intro w76 A76 h76
   have I76:=I4.keep A76.mod (by simp) (by simp)
   obtain ⟨w77,hd77,M77,I77⟩:=I76.delete yCO yh1 Tryz.underlying87 hkey 0
   refine ⟨_,_,hd77,yaF.of M77 (by simp; exact ⟨fun _ e => hmb e.symm,fun _ e => by omega⟩),?_⟩
   rw [yDa] at I77
   refine ytS (yeJ left q.1).length (by omega) ⟨yeJ left q.1,?_,hsub',yeU hndl,((N4.trans A76.mod).trans M77).less fun z hz _ => by simpa using hz,yaA (hR4.keep0 A76.mod) M77 (by simpa using hmr),rfl⟩
   rw [hstep,if_pos g1]; exact I77
  ·have g1:¬ q.1.1 = pid:=by
    intro hh; rw [hh] at g1; simp at g1
   intro w79 A79 h79
   refine ytS (yeJ left q.1).length (by omega) ⟨yeJ left q.1,?_,hsub',yeU hndl,(N4.trans A79.mod).less (by simp),hR4.keep0 A79.mod,rfl⟩
   rw [hstep,if_neg g1]; exact I4.keep A79.mod (by simp) (by simp)
end Go.Proofs.YteldhjiiocmicaaGreat
namespace Go.Proofs.YteldhjiiocmicaaGreat
open Go Go.RowKit Go.Maps Go.MapKept
open Go.ChangeMaps (setBlock)
set_option linter.unusedVariables false
set_option linter.unusedSimpArgs false
def ytU (b:PBatch) (d:PDid):Bool:=decide (d.seq = b.seq ∧ d.n = b.recs.length)
def yHT (D:List (yjI × List PDid)) (p:PPart) (b:PBatch):List PDid:=(lkp D (b.prod,p)).getD []
def yhL (eps:List Int) (D:List (yjI × List PDid)) (p:PPart) (b:PBatch):Int × Bool × Int :=
 if b.prod = 0 then (0,false,0) else if isE eps b.prod = false then (0,false,80) else if eps.getD (b.prod - 1).toNat 0 > b.epoch then (0,false,81) else if eps.getD (b.prod - 1).toNat 0 < b.epoch then (0,false,80) else
  if b.seq = yHS (yHT D p b) then (0,false,0) else match (yHT D p b).find? (ytU b) with
   | none => (0,false,82)
   | some d => (d.off,true,0)
theorem yFl {α:Type} {f:α → Bool} {l:List α} {k:Nat} {x:α} (h:l[k]? = some x) (hx:f x = true) (hb:∀ y ∈ l.take k,f y = false):l.find? f = some x:=by
 have e:l = l.take k ++ x :: l.drop (k + 1):=by
  obtain ⟨h1,h2⟩:=List.getElem?_eq_some_iff.1 h
  rw [← h2,← List.drop_eq_getElem_cons h1,List.take_append_drop]
 rw [e,List.find?_append,List.find?_eq_none.2 (by intro y hy; simp [hb y hy])]
 simp [hx]
theorem yHU {w:World} {b4:Nat} {b:PBatch} {rs:Sl} (hrn:rs.n = b.recs.length) {T:TypeId} {z:Nat × Nat} (hb:w.heap[b4]? = some (.cells #[.int .i64 b.prod,.int .i64 b.epoch,.int .i64 b.seq,.slice rs.a rs.n rs.c] T z)) (d:PDid) :
  Calls pP 92 #[.agg #[.int .i64 d.seq,.int .i64 d.n,.int .i64 d.off],.pointer (some ⟨b4,0,none⟩)] w fun e w' => e = .returned (.bool (ytU b d)) ∧ Mod [] w w':=by
 refine ya0 (yK8 ?_)
 intro b2 f2 w8 A8
 have h8:=A8.mod.keep0 hb
 refine yaK (x:=b.seq) (by rw [ycC,yaM h8]; rfl) ?_
 refine yaE (fun g => ?_) fun g => ?_
 ·have g:d.seq = b.seq:=eq_of_beq g
  refine yaU (x:=rs.a) (n:=rs.n) (c:=rs.c) (by rw [ycC,yaM h8]; rfl) ?_
  refine ⟨congrArg Value.bool ?_,A8.mod⟩
  rw [Bool.eq_iff_iff]
  simp [ytU,g,hrn]
 ·have g:¬ d.seq = b.seq:=by intro e; rw [e] at g; simp at g
  exact ⟨congrArg Value.bool (by simp [ytU,g]),A8.mod⟩
theorem yDb {w:World} {b4:Nat} {b:PBatch} {rs:Sl} (hrn:rs.n = b.recs.length) {T:TypeId} {z:Nat × Nat} (hb:w.heap[b4]? = some (.cells #[.int .i64 b.prod,.int .i64 b.epoch,.int .i64 b.seq,.slice rs.a rs.n rs.c] T z)) {a:Option Addr} {n c:Nat} {l:List PDid} (h:ybF w 3 yjZ a n l) (hl:l.length ≤ 1000000) :
  Calls pP 91 #[.slice a n c,.func (.func 92) #[] #[.pointer (some ⟨b4,0,none⟩)]] w fun e w' => ∃ v,e = .returned v ∧ ∃ r:Int,v = .int .i64 r ∧ Mod [] w w' ∧ match l.find? (ytU b) with
   | none => r = -1
   | some d => ∃ k:Nat,r = k ∧ l[k]? = some d:=by
 have hn:=h.1
 refine yLb ?_
 refine yC9 (fun mm x w' => ∃ k:Nat,x = k ∧ k ≤ l.length ∧ (∀ y ∈ l.take k,ytU b y = false) ∧ Mod [] w w' ∧ mm = l.length - k) l.length ⟨0,rfl,by omega,by simp,Mod.refl _,rfl⟩ ?_
 rintro mm x w1 ⟨k,rfl,hk,hb0,M1,rfl⟩
 refine yaC (fun hlt => ?_) fun hge => ?_
 ·obtain ⟨d,hd⟩:∃ d,l[k]? = some d:=⟨_,List.getElem?_eq_getElem (by omega)⟩
  refine (h.keep0 M1).ix hd fun q hq => yaK (by simpa [add_zero] using hq 0 _ rfl) (yaK (hq 1 _ rfl) (yaK (hq 2 _ rfl) ?_))
  refine (yHU hrn (M1.keep0 hb) d).mono ?_
  rintro _ w11 ⟨rfl,M11⟩
  have N11:=M1.go0 M11 (by simp)
  refine ⟨_,rfl,yaE (fun g => ?_) fun g => ?_⟩
  ·refine ⟨_,rfl,N11,?_⟩
   rw [yFl hd g hb0]
   exact ⟨k,rfl,hd⟩
  ·refine yC8 (l.length - (k + 1)) (by omega) ⟨k + 1,by rw [yaI (by omega) (by omega)]; omega,by omega,?_,N11,rfl⟩
   rw [ybO hd]
   intro y hy
   rcases List.mem_append.1 hy with hy | hy
   ·exact hb0 y hy
   ·simp at hy; subst hy; exact g
 ·have hk:k = l.length:=by omega
  subst hk
  rw [List.take_length] at hb0
  refine ⟨_,rfl,M1,?_⟩
  rw [List.find?_eq_none.2 (by intro y hy; simp [hb0 y hy])]
theorem yDc (w:World):(zeroValue 141).run pP w = .ok (DidV.v ⟨ya8,[]⟩) w:=by kernel_rfl
set_option maxHeartbeats 1000000 in
theorem ytV {w:World} {b:Nat} {eps:List Int} {D:List (yjI × List PDid)} {F:List Nat} (h:yeO w b eps D F) (hl:∀ q ∈ D,q.2.length ≤ 1000000) {p:PPart} {x:PBatch} {rs:Sl} (hrn:rs.n = x.recs.length) (h1:p.t.size ≤ maxLen) (h2:s64 p.n) (h3:s64 x.prod) :
  Calls pP 41 #[.pointer (some ⟨b,0,none⟩),p.v,x.v rs] w fun e w' => e = .returned (.tuple #[.int .i64 (yhL eps D p x).1,.bool (yhL eps D p x).2.1,.int .i64 (yhL eps D p x).2.2]) ∧ Mod [] w w':=by
 have hA:=h
 obtain ⟨sl,m,L,hc,hR,hm,hD,hP,rfl,rfl⟩:=h
 have lb:=yaH hc
 have hn:=hR.1
 refine ya0 (yK7 hc ?_)
 intro b3 f3 b4 f4
 refine yaE (fun g0 => ?_) fun g0 => ?_
 ·have g0:x.prod = 0:=eq_of_beq g0
  intro w5 A5 _
  have e:yhL eps (ddL L) p x = (0,false,0):=by rw [yhL,if_pos g0]
  rw [e]; exact ⟨rfl,A5.mod⟩
 have g0:¬ x.prod = 0:=by intro e; rw [e] at g0; simp at g0
 intro w13 A13 h13
 refine (yqG (hA.keep0 A13.mod) x.prod).mono ?_
 rintro _ w14 ⟨rfl,M14⟩
 have N14:=A13.mod.go0 M14 (by simp)
 have h14:=M14.keep0 h13
 refine ⟨_,rfl,yaF.of0 M14,_,_,_,_,h14,?_⟩
 refine yaE (fun g => ?_) fun g => ?_
 ·have g:isE eps x.prod = false:=by simpa using g
  have e:yhL eps (ddL L) p x = (0,false,80):=by rw [yhL,if_neg g0,if_pos g]
  rw [e]; exact ⟨rfl,N14⟩
 have g:isE eps x.prod = true:=by simpa using g
 have g':1 ≤ x.prod ∧ x.prod ≤ eps.length:=by simpa [isE] using g
 have ng:¬ isE eps x.prod = false:=by rw [g]; decide
 unfold s64 at h3
 have ei:IntKind.wrap .i64 (x.prod - 1) = (((x.prod - 1).toNat:Nat):Int):=by rw [yaI (by omega) (by omega)]; omega
 obtain ⟨y,hy⟩:∃ y,eps[(x.prod - 1).toNat]? = some y:=⟨_,List.getElem?_eq_getElem (by omega)⟩
 have hyd:eps.getD (x.prod - 1).toNat 0 = y:=by rw [List.getD_eq_getElem?_getD,hy]; rfl
 rw [ei]
 refine ((hR.keep0 N14).sl yb4).ix hy fun q hq => yaK (x:=y) (by simpa [add_zero] using hq 0 _ rfl) ?_
 refine yaC (fun g2 => ?_) fun g2 => ?_
 ·intro w22 A22 _
  have e:yhL eps (ddL L) p x = (0,false,81):=by rw [yhL,if_neg g0,if_neg ng,hyd,if_pos g2]
  rw [e]; exact ⟨rfl,N14.go0 A22.mod (by simp)⟩
 refine yaC (fun g3 => ?_) fun g3 => ?_
 ·intro w23 A23 _
  have e:yhL eps (ddL L) p x = (0,false,80):=by rw [yhL,if_neg g0,if_neg ng,hyd,if_neg g2,if_pos g3]
  rw [e]; exact ⟨rfl,N14.go0 A23.mod (by simp)⟩
 intro w24 A24 h24
 have N24:=N14.go0 A24.mod (by simp)
 obtain ⟨l,hkey⟩:=yvZ (k:=(x.prod,p)) h3 h1 h2
 have hlk:=(hm.keepM0 N24).lkF (k:=(x.prod,p)) yCO yh1 Tryz.underlying87 yDc hkey
 generalize hv:((lkp L (x.prod,p)).getD ⟨ya8,[]⟩:DidV) = v at hlk
 have hdid:yHT (ddL L) p x = v.l:=by
  unfold yHT ddL
  rw [yfC,← hv]
  cases lkp L (x.prod,p) <;> rfl
 have hvS:∀ {w':World},Mod [] w w' → ybF w' 3 yjZ v.s.a v.s.n v.l:=fun {w'} M => by
  cases hc:lkp L (x.prod,p) with
  | none =>
   rw [hc] at hv
   rw [← hv]
   exact (Row.nil w' 0 196 3 yjZ).sl yg9
  | some v' =>
   rw [hc] at hv
   have hv:v' = v:=hv
   subst hv
   exact (((hD _ (yaQ hc)).keep0 M).sl yg9)
 have hvl:v.l.length ≤ 1000000:=by
  cases hc:lkp L (x.prod,p) with
  | none =>
   rw [hc] at hv
   rw [← hv]; simp
  | some v' =>
   rw [hc] at hv
   have hv:v' = v:=hv
   subst hv
   exact hl ((x.prod,p),v'.l) (List.mem_map.2 ⟨_,yaQ hc,rfl⟩)
 refine ⟨_,_,_,hlk,?_⟩
 intro w28 A28 h28
 have N28:=N24.go0 A28.mod (by simp)
 refine (yGo (hvS N28) hvl).mono ?_
 rintro _ w29 ⟨rfl,M29⟩
 have N29:=N28.go0 M29 (by simp)
 refine ⟨_,rfl,yaF.of0 M29,_,_,_,_,M29.keep0 h28,rfl,?_⟩
 refine yaE (fun g4 => ?_) fun g4 => ?_
 ·have g4:x.seq = yHS v.l:=eq_of_beq g4
  have e:yhL eps (ddL L) p x = (0,false,0):=by rw [yhL,if_neg g0,if_neg ng,hyd,if_neg g2,if_neg g3,hdid,if_pos g4]
  rw [e]; exact ⟨rfl,N29⟩
 have g4:¬ x.seq = yHS v.l:=by intro e; rw [e] at g4; simp at g4
 intro w48 A48 h48 h48b
 have N48:=N29.go0 A48.mod (by simp)
 refine (yDb hrn h48b (hvS N48) hvl).mono ?_
 rintro _ w49 ⟨_,rfl,r,rfl,M49,hr⟩
 have N49:=N48.go0 M49 (by simp)
 refine ⟨_,rfl,yaF.of0 M49,_,_,_,_,M49.keep0 h48,_,_,_,_,_,_,M49.keep0 h48b,?_⟩
 have e:yhL eps (ddL L) p x = match v.l.find? (ytU x) with
   | none => (0,false,82)
   | some d => (d.off,true,0):=by rw [yhL,if_neg g0,if_neg ng,hyd,if_neg g2,if_neg g3,hdid,if_neg g4]
 rw [e]
 cases hf:v.l.find? (ytU x) with
 | none =>
  rw [hf] at hr
  have hr:r = -1:=hr
  refine yaC (fun g5 => ?_) fun g5 => by omega
  exact ⟨rfl,N49⟩
 | some d =>
  rw [hf] at hr
  obtain ⟨k,rfl,hk⟩:=hr
  refine yaC (fun g5 => by omega) fun g5 => ?_
  refine (hvS N49).ix hk fun q hq => yaK (hq 2 _ rfl) ?_
  exact ⟨rfl,N49⟩
end Go.Proofs.YteldhjiiocmicaaGreat
namespace Go.Proofs.YteldhjiiocmicaaGreat
open Go Go.RowKit Go.Maps Go.MapKept
open Go.ChangeMaps (setBlock)
set_option linter.unusedVariables false
set_option linter.unusedSimpArgs false
theorem yDd:(Tryz.prog.info? 196).map (fun i => (i.zero,i.size,i.bytes)) = some (some (.agg #[.int .i64 0,.int .i64 0,.int .i64 0]),3,24):=by kernel_rfl
theorem yDe {w:World} {B:Nat} {f:Sl} {l:List PDid} {y:PDid} {bs:List Nat} {F:Option Addr → Nat → Nat → World → Prop} (hR:Row w B 196 3 yjZ f.a f.n f.c l) (hl:l.length ≤ 1000000) (hB:B ≤ w.heap.size) (hbs:∀ b ∈ bs,b ∉ yaN f.a)
  (hF:∀ a' c' w',Row w' B 196 3 yjZ a' (f.n + 1) c' (l ++ [y]) → Mod (yaN f.a) w w' → (∀ k ∈ yaN a',k ∈ yaN f.a ∨ w.heap.size ≤ k) → F a' (f.n + 1) c' w') :
  al w (.cells (yjZ y).toArray 196) fun b w1 => ybC pP (Builtin.append_ #[141,141] 141 #[.slice f.a f.n f.c,.slice (some ⟨b,0,none⟩) 1 1]) w1 fun a n c w2 => yaF bs w1 w2 ∧ F a n c w2:=by
 refine yd6 fun b w1 c1 M1 f1 => ?_
 have s1:=M1.size
 obtain ⟨i0,hi0,hz0,hz1,hz2⟩:=info_parts yDd
 refine ydF (x:=y) (hR.keep0 M1) Tryz.underlying141 hi0 hz0 hz1 hz2 rfl (by decide) c1 rfl (yyQ _) (by omega) (by unfold maxLen; omega) (by omega) fun a' c' w8 hR8 hM8 hk8 => ?_
 have M8:=hM8 _ (ycN f.a)
 refine ⟨yaF.of M8 fun b hb _ => hbs b hb,hF a' c' w8 hR8 ?_ fun k hk => ?_⟩
 ·exact (M1.trans M8).less fun k hk _ => by simpa using hk
 ·rcases hk8 k hk with h | h
  ·exact .inl h
  ·exact .inr (by omega)
theorem yh4 {w:World} {a:Option Addr} {n c:Nat} {l:List PDid} (h:ybF w 3 yjZ a n l) (hl:l.length ≤ 1000000) :
  Calls pP 98 #[.slice a n c] w fun e w' => ∃ v,e = .returned v ∧ ∃ s':Sl,v = .slice s'.a s'.n s'.c ∧ Row w' w.heap.size 196 3 yjZ s'.a s'.n s'.c l ∧ Mod [] w w':=by
 refine yLd ?_
 refine yaE (fun h0 => ?_) fun _ => ?_
 ·have hl0:l = []:=by
   cases l with
   | nil => rfl
   | cons x r => obtain ⟨ad,ha,_⟩:=h.2 0 x rfl; rw [ha] at h0; cases h0
  subst hl0
  exact ⟨⟨none,0,0⟩,rfl,Row.nil ..,Mod.refl _⟩
 ·refine yd6 fun b w1 c1 M1 f1 => ?_
  obtain ⟨i0,hi,hz0,hz1,hz2⟩:=info_parts yDd
  refine ydE (Row.fresh c1 f1) Tryz.underlying141 hi hz0 hz1 hz2 rfl (by decide) (h.keep0 M1) yg9 yyQ (by simp; omega) (by simp; unfold maxLen; omega) M1.size fun a' n' c' w2 hR hM => ?_
  exact ⟨⟨a',n',c'⟩,rfl,by simpa using hR,M1.go0 (hM [b] (by simp)) (by simpa using f1)⟩
theorem ytW {κ β:Type} [DecidableEq κ] {L:List (κ × β)} {k:κ} {v:β} (hn:(L.map (·.1)).Nodup):(lkp L k = none ∧ put L k v = L ++ [(k,v)]) ∨ ∃ j x,L[j]? = some (k,x) ∧ lkp L k = some x ∧ put L k v = L.set j (k,v):=by
 cases h:lkp L k with
 | none => exact .inl ⟨rfl,ycB h⟩
 | some x =>
  obtain ⟨j,hj⟩:=List.mem_iff_getElem?.1 (yaQ h)
  exact .inr ⟨j,x,hj,rfl,ygL hn hj⟩
theorem yqH {κ β:Type} [DecidableEq κ] {L:List (κ × β)} {k:κ} {v:β} {q:κ × β} (hn:(L.map (·.1)).Nodup) (hq:q ∈ put L k v):q = (k,v) ∨ q ∈ L ∧ q.1 ≠ k:=by
 rcases ytW (k:=k) (v:=v) hn with ⟨h,e⟩ | ⟨j,x,hj,h,e⟩
 ·rw [e] at hq
  rcases List.mem_append.1 hq with hq | hq
  ·exact .inr ⟨hq,yc1.1 h q hq⟩
  ·simp at hq; exact .inl hq
 ·rw [e] at hq
  rcases yeF hq with rfl | ⟨i,hi,hqi⟩
  ·exact .inl rfl
  ·refine .inr ⟨List.mem_of_getElem? hqi,fun hk => hi ?_⟩
   obtain ⟨i1,i2⟩:=List.getElem?_eq_some_iff.1 hqi
   obtain ⟨j1,j2⟩:=List.getElem?_eq_some_iff.1 hj
   rcases Nat.lt_trichotomy i j with h' | h' | h'
   ·have:=List.pairwise_iff_getElem.1 hn i j (by simpa using i1) (by simpa using j1) h'
    rw [List.getElem_map,List.getElem_map,i2,j2] at this
    exact absurd hk this
   ·exact h'
   ·have:=List.pairwise_iff_getElem.1 hn j i (by simpa using j1) (by simpa using i1) h'
    rw [List.getElem_map,List.getElem_map,i2,j2] at this
    exact absurd hk.symm this
theorem yDf {κ β:Type} [DecidableEq κ] {fp:κ × β → List Nat} {L:List (κ × β)} {k:κ} {v:β} {w:World} (hn:(L.map (·.1)).Nodup) (hP:L.Pairwise fun a b => ydN (fp a) (fp b)) (hlt:∀ x ∈ L,∀ z ∈ fp x,z < w.heap.size) (hv:∀ z ∈ fp (k,v),w.heap.size ≤ z ∨ ∃ x,(k,x) ∈ L ∧ z ∈ fp (k,x)):(put L k v).Pairwise fun a b => ydN (fp a) (fp b):=by
 rcases ytW (k:=k) (v:=v) hn with ⟨h,e⟩ | ⟨j,x,hj,h,e⟩
 ·rw [e]
  refine ytF hP hlt fun z hz => ?_
  rcases hv z hz with h1 | ⟨x,hx,_⟩
  ·exact h1
  ·exact absurd rfl (yc1.1 h _ hx)
 ·rw [e]
  refine yi1 hP hj hlt fun z hz => ?_
  rcases hv z hz with h1 | ⟨y,hy,hz⟩
  ·exact .inr h1
  ·have e2:((k,y):κ × β) = (k,x):=yjY hn hy (List.mem_of_getElem? hj) rfl
   rw [e2] at hz; exact .inl hz
def ylA (l:List PDid):List PDid:=l.drop (l.length - 5)
def yi2 (eps:List Int) (D:List (yjI × List PDid)) (p:PPart) (x:PBatch) (off:Int):Int :=
 if (yhL eps D p x).2.2 ≠ 0 then (yhL eps D p x).2.2 else if (yhL eps D p x).2.1 = true then 82 else if x.recs.length = 0 ∨ num off = false then 1 else 0
def ym2 (eps:List Int) (D:List (yjI × List PDid)) (p:PPart) (x:PBatch) (off:Int):List (yjI × List PDid) :=
 if yi2 eps D p x off ≠ 0 ∨ x.prod = 0 then D else put D (x.prod,p) (ylA (yHT D p x ++ [⟨x.seq,x.recs.length,off⟩]))
set_option maxHeartbeats 2000000 in
theorem yAp {w:World} {b:Nat} {eps:List Int} {D:List (yjI × List PDid)} {F:List Nat} (h:yeO w b eps D F) (hl:∀ q ∈ D,q.2.length ≤ 1000) {p:PPart} {x:PBatch} {rs:Sl} (hrn:rs.n = x.recs.length) (h1:p.t.size ≤ maxLen) (h2:s64 p.n) (h3:s64 x.prod) (off:Int) :
  Calls pP 43 #[.pointer (some ⟨b,0,none⟩),p.v,x.v rs,.int .i64 off] w fun e w' => e = .returned (.int .i64 (yi2 eps D p x off)) ∧ ∃ F',yeO w' b eps (ym2 eps D p x off) F' ∧ Mod F w w' ∧ ybG w F F':=by
 have hA:=h
 have ltF:=h.lt
 obtain ⟨sl,m,L,hc,hR,hm,hD,hP,rfl,rfl⟩:=h
 have lb:=yaH hc
 have lm:=hm.lt
 have hn:=hR.1
 have hmb:m ≠ b:=by rintro rfl; exact hm.notCells hc
 have hbr:b ∉ yaN sl.a:=yc5 hR hc (by decide)
 have hmr:∀ {T sz:Nat} {α:Type} {enc:α → List Value} {a:Option Addr} {n c:Nat} {l:List α},Row w 0 T sz enc a n c l → m ∉ yaN a:=fun hR hi => by
  obtain ⟨_,_,cur,hcur⟩:=yaP hR m hi
  exact hm.notCells hcur
 have stay:∀ {w':World},Mod [] w w' → (yi2 eps (ddL L) p x off ≠ 0 ∨ x.prod = 0) → ∃ F',yeO w' b eps (ym2 eps (ddL L) p x off) F' ∧ Mod (b :: m :: (yaN sl.a ++ L.flatMap fun q => yaN q.2.s.a)) w w' ∧ ybG w (b :: m :: (yaN sl.a ++ L.flatMap fun q => yaN q.2.s.a)) F':=fun {w'} M e => by
  rw [ym2,if_pos e]
  exact ⟨_,hA.keep0 M,M.less (by simp),ybG.refl _ _⟩
 refine ya0 (yLc hc ?_)
 intro b3 f3 b4 f4 w14 A14 h14
 refine (ytV (hA.keep0 A14.mod) (fun q hq => Nat.le_trans (hl q hq) (by decide)) hrn h1 h2 h3).mono ?_
 rintro _ w15 ⟨rfl,M15⟩
 have N15:=A14.mod.go0 M15 (by simp)
 have s15:=N15.size
 have l3:=A14.lt b3 (by simp)
 have l4:=A14.lt b4 (by simp)
 have sM15:=M15.size
 have h15:=M15.keep0 h14
 refine ⟨_,_,_,rfl,yaF.of0 M15,_,_,_,_,h15,?_⟩
 refine yaE (fun g => ?_) fun g => ?_
 ·have g:(yhL eps (ddL L) p x).2.2 ≠ 0:=by simpa using g
  have e:yi2 eps (ddL L) p x off = (yhL eps (ddL L) p x).2.2:=by rw [yi2,if_pos g]
  have:=stay N15 (.inl (by rw [e]; exact g))
  rw [e]; exact ⟨rfl,this⟩
 have g:¬ (yhL eps (ddL L) p x).2.2 ≠ 0:=by simpa using g
 refine yaE (fun g2 => ?_) fun g2 => ?_
 ·have e:yi2 eps (ddL L) p x off = 82:=by rw [yi2,if_neg g,if_pos g2]
  have:=stay N15 (.inl (by rw [e]; decide))
  rw [e]; exact ⟨rfl,this⟩
 have g2:¬ (yhL eps (ddL L) p x).2.1 = true:=by rw [g2]; decide
 refine yaE (fun g3 => ?_) fun g3 => ?_
 ·have g3:x.recs.length = 0:=by have:=eq_of_beq g3; omega
  have e:yi2 eps (ddL L) p x off = 1:=by rw [yi2,if_neg g,if_neg g2,if_pos (.inl g3)]
  have:=stay N15 (.inl (by rw [e]; decide))
  rw [e]; exact ⟨rfl,this⟩
 have g3:x.recs.length ≠ 0:=by
  intro e
  rw [hrn,e] at g3; simp at g3
 refine (ym0 off w15).mono ?_
 rintro _ w29 ⟨rfl,rfl⟩
 refine ⟨_,rfl,yaF.of0 (Mod.refl _),_,_,_,_,h15,?_⟩
 refine yaE (fun g4 => ?_) fun g4 => ?_
 ·have g4:num off = false:=by simpa using g4
  have e:yi2 eps (ddL L) p x off = 1:=by rw [yi2,if_neg g,if_neg g2,if_pos (.inr g4)]
  have:=stay N15 (.inl (by rw [e]; decide))
  rw [e]; exact ⟨rfl,this⟩
 have g4:num off = true:=by simpa using g4
 have e:yi2 eps (ddL L) p x off = 0:=by rw [yi2,if_neg g,if_neg g2,if_neg (by rintro (h | h); exact g3 h; rw [g4] at h; cases h)]
 refine yaE (fun g5 => ?_) fun g5 => ?_
 ·have g5:x.prod = 0:=eq_of_beq g5
  have:=stay N15 (.inr g5)
  rw [e]; exact ⟨rfl,this⟩
 have g5:¬ x.prod = 0:=by intro e; rw [e] at g5; simp at g5
 intro b36 f36 w37 A37 h37
 have l36:=A37.lt b36 (by simp)
 have N37:=N15.go0 A37.mod (by simp)
 have s37:=A37.mod.size
 obtain ⟨l,hkey⟩:=yvZ (k:=(x.prod,p)) h3 h1 h2
 have hm37:=hm.keepM0 N37
 have hlk:=hm37.lkF (k:=(x.prod,p)) yCO yh1 Tryz.underlying87 yDc hkey
 generalize hv:((lkp L (x.prod,p)).getD ⟨ya8,[]⟩:DidV) = v at hlk
 have hdid:yHT (ddL L) p x = v.l:=by
  unfold yHT ddL
  rw [yfC,← hv]
  cases lkp L (x.prod,p) <;> rfl
 have hvc:(v = ⟨ya8,[]⟩ ∧ lkp L (x.prod,p) = none) ∨ ((x.prod,p),v) ∈ L:=by
  cases hc:lkp L (x.prod,p) with
  | none => rw [hc] at hv; exact .inl ⟨hv.symm,rfl⟩
  | some v' =>
   rw [hc] at hv
   have hv:v' = v:=hv
   subst hv
   exact .inr (yaQ hc)
 have hvR:Row w 0 196 3 yjZ v.s.a v.s.n v.s.c v.l:=by
  rcases hvc with ⟨rfl,_⟩ | hvm
  ·exact Row.nil ..
  ·exact hD _ hvm
 have hvl:v.l.length ≤ 1000:=by
  rcases hvc with ⟨rfl,_⟩ | hvm
  ·simp
  ·exact hl ((x.prod,p),v.l) (List.mem_map.2 ⟨_,hvm,rfl⟩)
 have hvF:∀ z ∈ yaN v.s.a,z ∈ L.flatMap fun q => yaN q.2.s.a:=fun z hz => by
  rcases hvc with ⟨rfl,_⟩ | hvm
  ·simp [ya8,yaN] at hz
  ·exact List.mem_flatMap.2 ⟨_,hvm,hz⟩
 have ltv:=yaG hvR
 refine ⟨_,_,_,hlk,?_⟩
 refine yDe (y:=⟨x.seq,rs.n,off⟩) (f:=v.s) (hvR.keep0 N37) (by omega) (by omega) (fun i hi hi' => ?_) fun a44 c46 w43 hR43 M43 hk43 => ?_
 ·have:=(ltv i hi').2
  simp at hi
  rcases hi with rfl | rfl | rfl | rfl
  ·exact yc5 hvR hc (by decide) hi'
  ·omega
  ·omega
  ·omega
 have s43:=M43.size
 have hvn:=hvR.1
 have ec:(if (IntKind.wrap .i64 (((v.s.n + 1:Nat):Int) - 5)) > 0 then (IntKind.wrap .i64 (((v.s.n + 1:Nat):Int) - 5)) else 0) = ((v.s.n + 1 - 5:Nat):Int):=by
  rw [yaI (by omega) (by omega)]
  split <;> omega
 rw [ec]
 refine ytB (hR43.sl yg9) (by omega) hR43.cap fun a47 c49 hcb hs47 => ?_
 intro w50 A50 h50
 have s50:=A50.mod.size
 refine (yh4 (hs47.keep0 A50.mod) (by rw [List.length_drop,List.length_append]; simp; omega)).mono ?_
 rintro _ w51 ⟨_,rfl,s',rfl,hR51,M51⟩
 have s51:=M51.size
 refine ⟨_,_,_,rfl,yaF.of0 M51,_,_,_,_,M51.keep0 h50,rfl,rfl,?_⟩
 have N51:Mod (yaN v.s.a) w w51:=(((N37.trans M43).trans A50.mod).trans M51).less fun z hz _ => by simpa using hz
 have mv:m ∉ yaN v.s.a:=hmr hvR
 have hm51:=hm.keepM N51 mv
 refine hm51.setU (k:=(x.prod,p)) yCO yh1 Tryz.underlying87 (v:=(⟨s',ylA (v.l ++ [⟨x.seq,rs.n,off⟩])⟩:DidV)) hkey (by simp; omega) fun w59 hm59 M59 => ?_
 have N59:Mod (m :: yaN v.s.a) w w59:=(N51.trans M59).less fun z hz _ => by simp at hz ⊢; rcases hz with h | h <;> simp [h]
 have hbv:b ∉ yaN v.s.a:=yc5 hvR hc (by decide)
 have hb59:=N59.keep hc (by simp; exact ⟨fun e => hmb e.symm,hbv⟩)
 have hnd:=hm.nodup
 have hnew:=hR51.newS
 have e5:ylA (v.l ++ [(⟨x.seq,rs.n,off⟩:PDid)]) = (v.l ++ [(⟨x.seq,rs.n,off⟩:PDid)]).drop (v.s.n + 1 - 5):=by
  rw [ylA,List.length_append,hvn]; rfl
 have hmS:∀ z ∈ [m],z ∉ yaN s'.a:=fun z hz hz' => by have:=hnew z hz'; simp at hz; omega
 have hR59:Row w59 0 196 3 yjZ s'.a s'.n s'.c (ylA (v.l ++ [(⟨x.seq,rs.n,off⟩:PDid)])):=by
  rw [e5]; exact (yaA hR51 M59 hmS).rebase (Nat.zero_le _)
 have hz:¬ (yi2 eps (ddL L) p x off ≠ 0 ∨ x.prod = 0):=by rw [e]; simp [g5]
 have hdd:ddL (put L (x.prod,p) (⟨s',ylA (v.l ++ [⟨x.seq,rs.n,off⟩])⟩:DidV)) = ym2 eps (ddL L) p x off:=by
  rw [ym2,if_neg hz,hdid,← hrn]
  exact (yf4 (fun q:DidV => q.l) L (x.prod,p) ⟨s',ylA (v.l ++ [⟨x.seq,rs.n,off⟩])⟩).symm
 have hold:∀ q ∈ put L (x.prod,p) (⟨s',ylA (v.l ++ [⟨x.seq,rs.n,off⟩])⟩:DidV),q = ((x.prod,p),⟨s',ylA (v.l ++ [⟨x.seq,rs.n,off⟩])⟩) ∨ q ∈ L ∧ q.1 ≠ (x.prod,p):=fun q hq => yqH hnd hq
 have hAp:(put L (x.prod,p) (⟨s',ylA (v.l ++ [⟨x.seq,rs.n,off⟩])⟩:DidV)).Pairwise fun a b => ydN (yaN a.2.s.a) (yaN b.2.s.a) :=
  yDf (fp:=fun q:yjI × DidV => yaN q.2.s.a) (w:=w) hnd hP (fun q hq z hz => (yaG (hD q hq) z hz).2) fun z hz => .inl (by have:=hnew z hz; omega)
 generalize put L (x.prod,p) (⟨s',ylA (v.l ++ [⟨x.seq,rs.n,off⟩])⟩:DidV) = L' at hm59 hdd hold hAp
 rw [e]
 have hR1:Row w59 0 3 1 ycO sl.a sl.n sl.c eps:=yaA hR N59 fun z hz hz' => by
  rcases List.mem_cons.1 hz with rfl | hz
  ·exact hmr hR hz'
  ·exact ya3 hvR hR (by decide) z hz hz'
 refine ⟨rfl,b :: m :: (yaN sl.a ++ L'.flatMap fun q => yaN q.2.s.a),⟨sl,m,L',hb59,hR1,hm59,fun q hq => ?_,hAp,hdd.symm,rfl⟩,N59.less fun z hz _ => ?_,fun z hz => ?_⟩
 ·rcases hold q hq with rfl | ⟨hqL,hqk⟩
  ·exact hR59
  ·refine yaA (hD q hqL) N59 fun z hz hz' => ?_
   rcases List.mem_cons.1 hz with rfl | hz
   ·exact hmr (hD q hqL) hz'
   ·rcases hvc with ⟨rfl,_⟩ | hvm
    ·simp [ya8,yaN] at hz
    ·obtain ⟨i,hi⟩:=List.mem_iff_getElem?.1 hqL
     obtain ⟨j,hj⟩:=List.mem_iff_getElem?.1 hvm
     have hij:j ≠ i:=by
      rintro rfl
      rw [hi] at hj; cases hj
      exact hqk rfl
     exact yi0 (fp:=fun q:yjI × DidV => yaN q.2.s.a) hP hij hj hi z hz hz'
 ·rcases List.mem_cons.1 hz with rfl | hz
  ·simp
  ·have:=hvF z hz
   simp only [List.mem_cons,List.mem_append]
   exact .inr (.inr (.inr this))
 ·simp only [List.mem_cons,List.mem_append,List.mem_flatMap] at hz ⊢
  rcases hz with h1 | h1 | h1 | ⟨q,hq,h1⟩
  ·exact .inl (.inl h1)
  ·exact .inl (.inr (.inl h1))
  ·exact .inl (.inr (.inr (.inl h1)))
  ·rcases hold q hq with rfl | ⟨hqL,hqk⟩
   ·have:=hnew z h1; exact .inr (by omega)
   ·exact .inl (.inr (.inr (.inr ⟨q,hqL,h1⟩)))
end Go.Proofs.YteldhjiiocmicaaGreat
namespace Go.Proofs
open Go.Shelf
shelf_lay_g SlLaysZ.n7 Ggz 7 at Tryz 114 as Tryz.keysTL
shelf_lay_g SlLaysZ.n7 Ggz 7 at Tryz 137 as Tryz.keysGL
shelf_lay_g SlLaysZ.n8 Ggz 8 at Tryz 113 as Tryz.collSL
shelf_lay_g SlLaysZ.n6 Ggz 6 at Tryz 74 as Tryz.sortedSL
shelf_lay_g SlLaysM.n6 Slgm 6 at Tryz 115 as Tryz.sortSL
end Go.Proofs
namespace Go.Proofs.YteldhjiiocmicaaGreat
open Go Go.RowKit Go.Maps Go.Sort Go.Shelf Go.MapKept Go.WideElems Go.WideShapes
set_option linter.unusedVariables false
set_option linter.unusedSimpArgs false
def kb (s:ByteArray):List UInt8:=s.data.toList
def fb (x:List UInt8):ByteArray:=⟨x.toArray⟩
theorem yHV (s:ByteArray):fb (kb s) = s:=by simp [fb,kb]
def yeQ (l:List (List UInt8)):List (List UInt8):=l.mergeSort fun x y => decide (x ≤ y)
def ycW (l:List ByteArray):List ByteArray:=(yeQ (l.map kb)).map fb
theorem yj0 {a b:List (List UInt8)} (h:a.Perm b):yeQ a = yeQ b:=by
 have tr:∀ a b c:List UInt8,decide (a ≤ b) = true → decide (b ≤ c) = true → decide (a ≤ c) = true:=by
  intro a b c h1 h2
  simp only [decide_eq_true_eq] at *
  exact List.le_trans h1 h2
 have to:∀ a b:List UInt8,(decide (a ≤ b) || decide (b ≤ a)) = true:=by
  intro a b
  rcases List.le_total a b with h | h <;> simp [h]
 have p1:=List.pairwise_mergeSort tr to a
 have p2:=List.pairwise_mergeSort tr to b
 have hp:(yeQ a).Perm (yeQ b):=((List.mergeSort_perm a _).trans h).trans (List.mergeSort_perm b _).symm
 exact hp.eq_of_pairwise (fun x y _ _ h1 h2 => by
  simp only [decide_eq_true_eq] at h1 h2
  exact List.le_antisymm h1 h2) p1 p2
theorem yAq {a b:List ByteArray} (h:a.Perm b):ycW a = ycW b:=by rw [ycW,ycW,yj0 (h.map kb)]
theorem ye3 (l:List ByteArray):(ycW l).length = l.length:=by simp [ycW,yeQ,List.length_mergeSort]
theorem ybX (l:List ByteArray):(ycW l).Perm l:=by
 have h:=(List.mergeSort_perm (l.map kb) fun x y => decide (x ≤ y)).map fb
 have e:(l.map kb).map fb = l:=by rw [List.map_map]; have:l.map (fb ∘ kb) = l.map id:=List.map_congr_left fun s _ => yHV s; rw [this,List.map_id]
 rw [e] at h
 exact h
theorem yDg (ss:List (List UInt8)):(yeQ ss).map encStr = ((yeQ ss).map fb).flatMap yc8:=by
 rw [List.flatMap_map,List.map_eq_flatMap]; rfl
theorem yaS.ownsS {P:Program} {t:TypeId} {β:Type} {ev:β → Value} {w:World} {b:Nat} {L:List (ByteArray × β)} (h:yaS P t hks ev w b L) (ht:P.underlying t = some .string) (hl:L.length ≤ maxLen) :
  ∃ D:DataW Unit,w.ownsMap P t (fun _ => some (.nil,[])) b L.length D ∧ (strKeys D).Perm (L.map fun p => kb p.1) ∧ Maps.size D = L.length:=by
 obtain ⟨es,clock,hb,he,hk,hs⟩:=h
 have hlen:es.toList.length = L.length:=by simpa using congrArg List.length he
 have hrd:∀ x ∈ es.toList,∃ k:ByteArray,x.key = .string k ∧ Go.WideElems.rd (H:=Unit) P t (fun _ => some (.nil,[])) x = some (.string (kb k),.nil):=by
  intro x hx
  have hm:(x.key,x.val) ∈ es.toList.map fun e => (e.key,e.val):=List.mem_map.2 ⟨x,hx,rfl⟩
  rw [he] at hm
  obtain ⟨p,hp,hpe⟩:=List.mem_map.1 hm
  simp only [Prod.mk.injEq] at hpe
  obtain ⟨l,hl⟩:=hk p hp
  obtain ⟨y,hy1,rfl,_⟩:=Maps.keyOf_str ht hl
  have hy:kb p.1 = y:=by
   have:hks p.1 = encStr y:=hy1
   simp only [hks,encStr,Value.string.injEq] at this
   rw [this]; simp [kb]
  refine ⟨p.1,hpe.1.symm,?_⟩
  unfold Go.WideElems.rd
  rw [← hpe.1,hl,hy]; rfl
 have hmap:(es.toList.map (Go.WideElems.rg (H:=Unit) P t (fun _ => some (.nil,[])))).map (fun p => Go.strOf p.1) = L.map fun p => kb p.1:=by
  have e2:es.toList.map (fun e => e.key) = L.map (fun p => Value.string p.1):=by
   have:=congrArg (List.map fun q:Value × Value => q.1) he
   simpa [Function.comp_def] using this
  have e3:es.toList.map (fun e => (match e.key with | .string k => kb k | _ => []:List UInt8)) = L.map fun p => kb p.1:=by
   have:=congrArg (List.map fun v:Value => (match v with | .string k => kb k | _ => []:List UInt8)) e2
   simpa [Function.comp_def] using this
  rw [← e3,List.map_map]
  apply List.map_congr_left
  intro x hx
  obtain ⟨k,h1,h3⟩:=hrd x hx
  simp only [Function.comp_apply,h1]
  unfold Go.WideElems.rg
  rw [h3]; rfl
 have hlen':es.size = L.length:=by simpa using hlen
 refine ⟨DataW.map ((es.toList.map (Go.WideElems.rg P t (fun _ => some (.nil,[])))).foldr DataW.insert []),⟨es,clock,hb,⟨by omega,hs,fun x hx => ?_⟩,by omega,rfl⟩,?_,?_⟩
 ·obtain ⟨k,h1,h3⟩:=hrd x hx; exact ⟨_,h3⟩
 ·rw [← hmap]
  exact (sorted_perm _).map _
 ·rw [Maps.size_eq,length_sorted]; simpa using hlen
theorem ytX (n:Nat):AnyZ.SortsIn pP Tryz.sortedSL_ren Fence.wide n :=
  ⟨fun blk off cap ss W hH hblk hsz => callsIn_wide.2 (AnyM.slices_Sort_string Tryz.sortSL blk off cap ss W hH hblk hsz),
   fun p cap W => callsIn_wide.2 (AnyM.slices_Sort_string_none Tryz.sortSL p cap W)⟩
theorem yFm (mb:Option Nat) (w:World):Calls pP 137 #[.map mb] w fun e w' =>
  e = .returned (.func (.func 163) #[] #[.pointer (some ⟨w.heap.size,0,none⟩)]) ∧ w' = w.alloc (.cells #[.map mb] 188) :=
 (callsIn_wide (n:=5)).1 (AnyZ.keys_in Tryz.keysGL Fence.wide 5 trivial rfl mb w)
theorem yFn (mb:Option Nat) (w:World):Calls pP 114 #[.map mb] w fun e w' =>
  e = .returned (.func (.func 149) #[] #[.pointer (some ⟨w.heap.size,0,none⟩)]) ∧ w' = w.alloc (.cells #[.map mb] 84) :=
 (callsIn_wide (n:=5)).1 (AnyZ.keys_in Tryz.keysTL Fence.wide 5 trivial rfl mb w)
theorem yh5 {w:World} {base:Nat} {v:Value} {ss:List (List UInt8)} (h:w.ownsRow base 9 1 v ss.length (ss.map encStr)):∃ a c,v = .slice a ss.length c ∧ Row w base 9 1 yc8 a ss.length c (ss.map fb):=by
 have hv:∃ a c,v = .slice a ss.length c:=by
  rcases h.2 with ⟨h1,h2⟩ | ⟨g,cap,cur,h1,_⟩
  ·exact ⟨none,0,by rw [h1,h2]⟩
  ·exact ⟨_,_,h1⟩
 obtain ⟨a,c,rfl⟩:=hv
 refine ⟨a,c,rfl,by simp,?_⟩
 have e:(ss.map fb).flatMap yc8 = ss.map encStr:=by rw [List.flatMap_map,List.map_eq_flatMap]; rfl
 rw [e]; exact h
theorem yAr {β:Type} {ev:β → Value} {w:World} {b Bm:Nat} {L:List (ByteArray × β)} (h:yaS pP 9 hks ev w b L) (hl:L.length ≤ 1000000) (hB:Bm < w.heap.size) (hm:w.cell? ⟨Bm,0,none⟩ = some (.map (some b))) :
  Calls pP 74 #[.func (.func 163) #[] #[.pointer (some ⟨Bm,0,none⟩)]] w fun e w' => ∃ v,e = .returned v ∧
   ∃ s':Sl,v = .slice s'.a s'.n s'.c ∧ Row w' w.heap.size 9 1 yc8 s'.a s'.n s'.c (ycW (L.map (·.1))) ∧ Mod [] w w':=by
 obtain ⟨D,hown,hperm,hsz⟩:=h.ownsS Tryz.underlying9 (by unfold maxLen; omega)
 have hseq:SeqGives Fence.wide 2 pP 163 #[.pointer (some ⟨Bm,0,none⟩)] encStr (fun ss => ss.Perm (strKeys D)) (Maps.size D) w :=
  AnyZ.keys_gives (ρ:=Tryz.keysGL_ren) { Tryz.keysGL with } Fence.wide _ trivial rfl (by omega) Bm b _ D w hB hm hown
 have cS:=AnyZ.sorted_in Tryz.sortedSL Fence.wide 5 trivial trivial trivial trivial rfl (by omega) (ytX _) (enters_of Tryz.func115 (by kernel_rfl) rfl) 163 #[.pointer (some ⟨Bm,0,none⟩)] trivial (enters_of Tryz.func163 (by kernel_rfl) rfl) _ _ (by rw [hsz]; unfold maxLen; omega) (by rw [hsz]; omega) _ hseq
 refine ((callsIn_wide (n:=5)).1 cS).mono ?_
 rintro e w' ⟨v,ss,rfl,hS,hrow,hnil,hb⟩
 have hss:(yeQ ss).map fb = ycW (L.map (·.1)):=by
  rw [ycW,List.map_map]
  exact congrArg (List.map fb) (yj0 (hS.trans hperm))
 have hrow:w'.ownsRow w.heap.size 9 1 v (yeQ ss).length ((yeQ ss).map encStr):=by
  rw [show (yeQ ss).length = ss.length by simp [yeQ]]
  exact hrow
 obtain ⟨a,c,rfl,hR⟩:=yh5 hrow
 rw [hss] at hR
 exact ⟨_,rfl,⟨a,_,c⟩,rfl,hR,Mod.of_below hb⟩
theorem ywD {β:Type} {ev:β → Value} {w:World} {b Bm:Nat} {L:List (ByteArray × β)} (h:yaS pP 9 hks ev w b L) (hl:L.length ≤ 1000000) (hB:Bm < w.heap.size) (hm:w.cell? ⟨Bm,0,none⟩ = some (.map (some b))) :
  Calls pP 113 #[.func (.func 149) #[] #[.pointer (some ⟨Bm,0,none⟩)]] w fun e w' => ∃ v,e = .returned v ∧
   ∃ (s':Sl) (l:List ByteArray),v = .slice s'.a s'.n s'.c ∧ Row w' w.heap.size 9 1 yc8 s'.a s'.n s'.c l ∧ l.Perm (L.map (·.1)) ∧ Mod [] w w':=by
 obtain ⟨D,hown,hperm,hsz⟩:=h.ownsS Tryz.underlying9 (by unfold maxLen; omega)
 have hseq:SeqGives Fence.wide 3 pP 149 #[.pointer (some ⟨Bm,0,none⟩)] encStr (fun ss => ss.Perm (strKeys D)) (Maps.size D) w :=
  AnyZ.keys_gives (ρ:=Tryz.keysTL_ren) { Tryz.keysTL with } Fence.wide _ trivial rfl (by omega) Bm b _ D w hB hm hown
 have cS:=AnyZ.collect_in Tryz.collSL Fence.wide 5 trivial trivial rfl (by omega) 149 #[.pointer (some ⟨Bm,0,none⟩)] trivial (enters_of Tryz.func149 (by kernel_rfl) rfl) _ _ (by rw [hsz]; unfold maxLen; omega) (by rw [hsz]; omega) _ hseq
 refine ((callsIn_wide (n:=5)).1 cS).mono ?_
 rintro e w' ⟨v,ss,rfl,hS,hrow,hnil,hb⟩
 obtain ⟨a,c,rfl,hR⟩:=yh5 hrow
 refine ⟨_,rfl,⟨a,_,c⟩,_,rfl,hR,?_,Mod.of_below hb⟩
 have:=(hS.trans hperm).map fb
 rw [List.map_map] at this
 have e:L.map (fb ∘ fun p => kb p.1) = L.map (·.1):=List.map_congr_left fun p _ => yHV p.1
 rwa [e] at this
theorem yFo {w:World} {B:Nat} {s:Sl} {l:List ByteArray} (h:Row w B 9 1 yc8 s.a s.n s.c l) (hl:l.length ≤ 1000000) :
  Calls pP 115 #[.slice s.a s.n s.c] w fun e w' => e = .returned (.tuple #[]) ∧ Row w' B 9 1 yc8 s.a s.n s.c (ycW l) ∧ Mod (yaN s.a) w w':=by
 obtain ⟨a,n,c⟩:=s
 obtain ⟨hn,ho⟩:=h
 have hn:n = l.length:=hn
 have ekb:(l.map kb).map encStr = l.flatMap yc8:=by
  rw [List.map_map,List.map_eq_flatMap]
  refine congrArg (fun f => l.flatMap f) (funext fun s => ?_)
  simp [yc8,kb]
 rcases ho.2 with ⟨h1,h2⟩ | ⟨g,cap,cur,hv,hb,hg,hnc,hcm,hsz,htk⟩
 ·simp only [Value.slice.injEq] at h1
  obtain ⟨rfl,rfl,rfl⟩:=h1
  have:l = []:=List.eq_nil_of_length_eq_zero (by omega)
  subst this
  refine (AnyM.slices_Sort_string_none Tryz.sortSL none 0 w).mono ?_
  rintro e w' ⟨rfl,rfl⟩
  have e0:ycW [] = []:=by simp [ycW,yeQ]
  rw [e0]
  exact ⟨rfl,Row.nil ..,(Mod.refl _).less (by simp)⟩
 ·simp only [Value.slice.injEq] at hv
  obtain ⟨rfl,_,rfl⟩:=hv
  have hlk:(l.map kb).length = n:=by rw [List.length_map]; exact hn.symm
  have hH:Holds encStr w g 0 (l.map kb).toArray:=holds_of_block hg (by rw [hlk,ekb]; simpa using htk)
  subst hn
  have cS:=AnyM.slices_Sort_string Tryz.sortSL g 0 c (l.map kb) w hH (yaH hg) (by simp; omega)
  rw [hlk] at cS
  refine cS.mono ?_
  rintro e w' ⟨rfl,k,os,rfl⟩
  have hgr:=grownBy_sorted (w:=w) (g:=g) (n:=k) (os:=os) (yeQ (l.map kb)).toArray
  refine ⟨rfl,?_,⟨hgr.os,hgr.tape,hgr.output,hgr.size,fun z hz hz' => hgr.block z hz fun e => hz' (by cases e; simp [yaN])⟩⟩
  have hrow:=ownsRow_sorted (w:=w) (base:=B) (g:=g) (cap:=c) (n:=k) (os:=os) (ss:=l.map kb) (ts:=yeQ (l.map kb)) (by simp [yeQ]) hb hg (by rw [hlk]; exact hnc) hcm hsz
  refine ⟨(ye3 l).symm,?_⟩
  rw [yDg,hlk] at hrow
  exact hrow
end Go.Proofs.YteldhjiiocmicaaGreat
