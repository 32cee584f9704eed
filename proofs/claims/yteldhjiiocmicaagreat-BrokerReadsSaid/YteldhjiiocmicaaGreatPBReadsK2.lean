/- Part 2 of the proof of PBReads. -/
import Derived.Test.YteldhjiiocmicaaGreatPBReadsK1
namespace Go.Proofs.YteldhjiiocmicaaGreat
open Go Go.RowKit
set_option linter.all false
theorem ycC (b o j:Nat):(⟨b,o,none⟩:Addr).add j = ⟨b,o + j,none⟩:=by
 unfold Addr.add; split
 ·rename_i h; subst h; rfl
 ·rfl
theorem ydH {mem:List TB} {x:Nat}:∀ {l:List Nat},x ∈ yxK mem l ↔ ∃ i ∈ l,∃ tb,mem[i]? = some tb ∧ x = tb.b
 | [] => by simp [yxK]
 | i :: r => by
  unfold yxK
  split
  ·rename_i tb ht
   rw [List.mem_cons,ydH]
   constructor
   ·rintro (rfl | ⟨j,hj,h⟩)
    ·exact ⟨i,by simp,tb,ht,rfl⟩
    ·exact ⟨j,by simp [hj],h⟩
   ·rintro ⟨j,hj,tb',h1,h2⟩
    rcases List.mem_cons.1 hj with rfl | hj
    ·rw [ht] at h1; cases h1; exact .inl h2
    ·exact .inr ⟨j,hj,tb',h1,h2⟩
  ·rename_i hn
   rw [ydH]
   constructor
   ·rintro ⟨j,hj,h⟩; exact ⟨j,by simp [hj],h⟩
   ·rintro ⟨j,hj,tb',h1,h2⟩
    rcases List.mem_cons.1 hj with rfl | hj
    ·rw [hn] at h1; cases h1
    ·exact ⟨j,hj,tb',h1,h2⟩
structure Inv (f:FA) (s:St) (wa:World):Prop where
 at_:∀ (k:Nat) tb,s.mem[k]? = some tb → wa.heap[tb.b]? = some (.cells tb.cs.toArray tb.T)
 nd:∀ (i j:Nat) x y,s.mem[i]? = some x → s.mem[j]? = some y → x.b = y.b → i = j
 tags:∀ (i k off:Nat),f.tag i = some (k,off) → ∃ tb,s.mem[k]? = some tb ∧ f.get i = .pointer (some ⟨tb.b,off,none⟩)
 mod:Mod (yxK s.mem s.S) s.w wa
 new:∀ k ∈ s.N,∀ tb,s.mem[k]? = some tb → s.w.heap.size ≤ tb.b
 nn:s.N.Nodup ∧ ∀ k ∈ s.N,k < s.mem.length
 cl:s.cl = true → wa = s.w
structure OpI (f:FA) (s:St) (v:Value) (t:Tag) (wa:World):Prop extends Inv f s wa where
 tag:∀ k off,t = some (k,off) → ∃ tb,s.mem[k]? = some tb ∧ v = .pointer (some ⟨tb.b,off,none⟩)
theorem Inv.op {f:FA} {s:St} {v:Value} {wa:World} (h:Inv f s wa):OpI f s v none wa:=⟨h,by simp⟩
theorem Inv.lt {f:FA} {s:St} {wa:World} (h:Inv f s wa) {k:Nat} {tb:TB} (hk:s.mem[k]? = some tb):tb.b < wa.heap.size:=yaH (h.at_ k tb hk)
theorem yfJ {w:World} {F:Prop}:∀ {mem:List TB},yoC mem w F → (∀ (k:Nat) tb,mem[k]? = some tb → w.heap[tb.b]? = some (.cells tb.cs.toArray tb.T)) → F
 | [],h,_ => h
 | tb :: r,h,hm => by
  unfold yoC at h
  have hr:∀ (k:Nat) tb,r[k]? = some tb → w.heap[tb.b]? = some (.cells tb.cs.toArray tb.T):=fun k tb hk => hm (k + 1) tb (by simpa using hk)
  split at h
  ·exact yfJ (h (hm 0 tb (by simp))) hr
  ·exact yfJ h hr
theorem yjO {α:Type}:∀ {l:List α} {k:List α → Prop},yBY l k → k l
 | [],_,h => h
 | x :: r,k,h => yjO (l:=r) (k:=fun r' => k (x :: r')) h
theorem yfK:∀ {l:List TB} {k:List TB → Prop},yoD l k → k l
 | [],_,h => h
 | ⟨b,T,cs,true⟩ :: r,k,h => yfK (l:=r) (k:=fun r' => k (⟨b,T,cs,true⟩ :: r')) (yjO h)
 | ⟨b,T,cs,false⟩ :: r,k,h => yfK (l:=r) (k:=fun r' => k (⟨b,T,cs,false⟩ :: r')) (yjO h)
theorem yjP {mem:List TB} (nd:∀ (i j:Nat) x y,mem[i]? = some x → mem[j]? = some y → x.b = y.b → i = j):∀ {l:List Nat},l.Nodup → (yxK mem l).Nodup
 | [],_ => by simp [yxK]
 | i :: r,h => by
  have h:=List.nodup_cons.1 h
  unfold yxK
  split
  ·rename_i tb ht
   refine List.nodup_cons.2 ⟨fun hm => ?_,yjP nd h.2⟩
   obtain ⟨j,hj,tb',h1,h2⟩:=ydH.1 hm
   have:=nd i j tb tb' ht h1 h2
   subst this; exact h.1 hj
  ·exact yjP nd h.2
theorem yc7 {s:St} {K:St → Prop} {f:FA} {wa:World} (h:ygB s K) (hI:Inv f s wa):∃ s',K s' ∧ Inv f s' wa ∧ s'.w = wa ∧ s'.mem = s.mem ∧ s'.cl = true:=by
 obtain ⟨mem,w,S,N,cl⟩:=s
 unfold ygB at h
 simp only at h
 split at h
 ·exact ⟨_,h,hI,(hI.cl rfl).symm,rfl,rfl⟩
 ·have:=yfK h wa ⟨hI.mod,fun b hb => by
   obtain ⟨i,_,tb,ht,rfl⟩:=ydH.1 hb
   exact hI.lt ht,yjP hI.nd hI.nn.1⟩
  refine ⟨_,yfJ this hI.at_,⟨hI.at_,hI.nd,hI.tags,?_,by simp,⟨by simp,by simp⟩,fun _ => rfl⟩,rfl,rfl,rfl⟩
  exact (Mod.refl wa).less (by simp)
theorem yB4 {ids:List Nat}:∀ {mem:List TB} {i k:Nat},((exM ids i mem)[k]?).map (fun tb => (tb.b,tb.T,tb.cs)) = (mem[k]?).map (fun tb => (tb.b,tb.T,tb.cs))
 | [],_,_ => by simp [exM]
 | tb :: r,i,0 => by
  unfold exM
  split <;> simp
 | tb :: r,i,k + 1 => by
  unfold exM
  simp only [List.getElem?_cons_succ]
  exact yB4
theorem yfA {mem mem':List TB} (h:∀ k:Nat,(mem'[k]?).map (fun tb => (tb.b,tb.T,tb.cs)) = (mem[k]?).map (fun tb => (tb.b,tb.T,tb.cs))) {k:Nat} {tb':TB} (hk:mem'[k]? = some tb'):∃ tb,mem[k]? = some tb ∧ tb'.b = tb.b ∧ tb'.T = tb.T ∧ tb'.cs = tb.cs:=by
 have:=h k
 rw [hk] at this
 simp only [Option.map_some] at this
 obtain ⟨tb,h1,h2⟩:=Option.map_eq_some_iff.1 this.symm
 simp only [Prod.mk.injEq] at h2
 exact ⟨tb,h1,h2.1.symm,h2.2.1.symm,h2.2.2.symm⟩
theorem yoE (ids:List Nat) (s:St):∀ k:Nat,((ycI ids s).mem[k]?).map (fun tb => (tb.b,tb.T,tb.cs)) = (s.mem[k]?).map (fun tb => (tb.b,tb.T,tb.cs)):=by
 intro k
 unfold ycI
 split
 ·rfl
 ·split
  ·exact yB4
  ·rfl
theorem yl5 (ids:List Nat) (s:St):(ycI ids s).w = s.w ∧ (ycI ids s).S = s.S ∧ (ycI ids s).N = s.N ∧ ((ycI ids s).cl = true → s.cl = true):=by
 unfold ycI; split
 ·exact ⟨rfl,rfl,rfl,id⟩
 ·split
  ·exact ⟨rfl,rfl,rfl,by simp⟩
  ·exact ⟨rfl,rfl,rfl,id⟩
theorem ybL {ids:List Nat} {f:FA} {s:St} {wa:World} (hI:Inv f s wa):Inv f (ycI ids s) wa:=by
 have hm:=yoE ids s
 have hm':=fun k => (hm k).symm
 obtain ⟨e1,e2,e3,e4⟩:=yl5 ids s
 refine ⟨fun k tb hk => ?_,fun i j x y hx hy hb => ?_,fun i k off ht => ?_,?_,fun k hk tb ht => ?_,⟨by rw [e3]; exact hI.nn.1,fun k hk => ?_⟩,fun hc => ?_⟩
 ·obtain ⟨tb0,h0,a,b,c⟩:=yfA hm hk
  rw [a,b,c]; exact hI.at_ k tb0 h0
 ·obtain ⟨x0,hx0,a,_⟩:=yfA hm hx
  obtain ⟨y0,hy0,b,_⟩:=yfA hm hy
  exact hI.nd i j x0 y0 hx0 hy0 (by rw [← a,← b,hb])
 ·obtain ⟨tb,h1,h2⟩:=hI.tags i k off ht
  obtain ⟨tb',h1',a,_⟩:=yfA hm' h1
  exact ⟨tb',h1',by rw [h2,a]⟩
 ·rw [e1,e2]
  refine hI.mod.less fun x hx _ => ?_
  obtain ⟨i,hi,tb,ht,rfl⟩:=ydH.1 hx
  obtain ⟨tb',h1',a,_⟩:=yfA hm' ht
  exact ydH.2 ⟨i,hi,tb',h1',a⟩
 ·rw [e3] at hk
  obtain ⟨tb0,h0,a,_⟩:=yfA hm ht
  rw [e1,a]; exact hI.new k hk tb0 h0
 ·rw [e3] at hk
  have hlt:=hI.nn.2 k hk
  obtain ⟨tb',h1',_⟩:=yfA hm' (List.getElem?_eq_getElem hlt)
  exact (List.getElem?_eq_some_iff.1 h1').1
 ·rw [e1]; exact hI.cl (e4 hc)
theorem yu9 (f:FA) (d i:Nat) (v:Value) (t:Tag):(ydZ f (some d) v t).get i = if d = i then v else f.get i:=by
 obtain ⟨u,js⟩:=f
 simp only [ydZ,FA.get,lkV]
 by_cases h:d = i
 ·subst h; simp
 ·have:Nat.beq d i = false:=by rw [Bool.eq_false_iff]; intro e; exact h (Nat.eq_of_beq_eq_true e)
  simp [this,h]
theorem yHE (f:FA) (d i:Nat) (v:Value) (t:Tag):(ydZ f (some d) v t).tag i = if d = i then t else f.tag i:=by
 obtain ⟨u,js⟩:=f
 simp only [ydZ,FA.tag,lkT]
 by_cases h:d = i
 ·subst h; simp
 ·have:Nat.beq d i = false:=by rw [Bool.eq_false_iff]; intro e; exact h (Nat.eq_of_beq_eq_true e)
  simp [this,h]
theorem OpI.put {f:FA} {s:St} {v:Value} {t:Tag} {wa:World} (h:OpI f s v t wa) (d:Option Tmp):Inv (ydZ f d v t) s wa:=by
 refine ⟨h.at_,h.nd,fun i k off ht => ?_,h.mod,h.new,h.nn,h.cl⟩
 cases d with
 | none => exact h.tags i k off ht
 | some d =>
  rw [yHE] at ht
  rw [yu9]
  split at ht
  ·rename_i e; rw [if_pos e]; exact h.tag k off ht
  ·rename_i e; rw [if_neg e]; exact h.tags i k off ht
structure Rel (n:Nat) (f:FA) (a:Act):Prop where
 get:∀ i,a.tmps.getD i undef = f.get i
 defers:a.defers = []
 size:a.tmps.size = n
theorem Rel.eval {n:Nat} {f:FA} {a:Act} (h:Rel n f a):a.eval = evA f:=by
 funext x
 cases x with
 | tmp t => simpa [Act.eval,evA] using h.get t
 | _ => simp [Act.eval,evA]
theorem Rel.put {n:Nat} {f:FA} {a:Act} (h:Rel n f a) (d:Option Tmp) (hd:∀ k,d = some k → k < n) (v:Value) (t:Tag):Rel n (ydZ f d v t) (a.put d v):=by
 cases d with
 | none => exact ⟨h.get,h.defers,h.size⟩
 | some d =>
  have hd:=hd d rfl
  have hs:=h.size
  refine ⟨fun i => ?_,h.defers,by simp [Act.put,hs]⟩
  rw [yu9]
  have:=h.get i
  simp only [Act.put,Array.getD_eq_getD_getElem?,Array.getElem?_setIfInBounds] at this ⊢
  by_cases e:d = i
  ·subst e; simp [hs,hd]
  ·simp [e,this]
theorem Rel.bool {n:Nat} {f:FA} {a:Act} (h:Rel n f a) {d:Nat} {t:Bool} (hd:f.get d = .bool t):a.tmps[d]? = some (.bool t):=by
 have:=h.get d
 rw [hd,Array.getD_eq_getD_getElem?] at this
 cases hx:a.tmps[d]? with
 | none => rw [hx] at this; simp [undef] at this
 | some u => rw [hx] at this; simpa using this
theorem ylF {f:FA} {d:Nat} {t:Bool} (h:f.get d = .bool t) {s:St} {wa:World} (hI:Inv f s wa):Inv (ydZ f (some d) (.bool t) none) s wa:=OpI.put (v:=.bool t) (t:=none) hI.op (some d)
theorem ylG {n:Nat} {f:FA} {a:Act} {d:Nat} {t:Bool} (h:f.get d = .bool t) (hr:Rel n f a):Rel n (ydZ f (some d) (.bool t) none) a:=by
 refine ⟨fun i => ?_,hr.defers,hr.size⟩
 rw [yu9]
 split
 ·rename_i e; subst e; rw [hr.get,h]
 ·exact hr.get i
theorem ypX {w:World} {a:Addr}:∀ {ls:List Leaf} {cs:List Value} {i:Nat} {F:List Value → Prop},yI7 ls cs = true → (∀ j v,cs[j]? = some v → w.cell? (a.add (i + j)) = some v) → F (cs.take ls.length) → ldL w a i ls F
  | [],cs,i,F,_,_,hF => by simpa [ldL] using hF
  | l :: ls,[],i,F,h,_,_ => by cases l <;> simp [yI7] at h
  | l :: ls,v :: vs,i,F,h,hc,hF => by
    have h0:=hc 0 v (by simp)
    have hr:∀ j u,vs[j]? = some u → w.cell? (a.add (i + 1 + j)) = some u:=fun j u hu => by rw [show i + 1 + j = i + (j + 1) by omega]; exact hc (j + 1) u (by simpa using hu)
    simp only [Nat.add_zero] at h0
    simp only [List.length_cons,List.take_succ_cons] at hF
    unfold yI7 at h
    split at h
    case h_2 => cases h
    rename_i hl
    unfold okL at hl
    split at hl
    · rename_i k k' x
      have:k = k':=by simpa using hl
      subst this
      simp only [ldL,ya1,h0]
      exact ⟨trivial,ypX h hr hF⟩
    all_goals first
      | (cases hl; done)
      | (simp only [ldL,yb9,ya7,ygI,yd4,ya2,yHp,h0]
         exact ypX h hr hF)
theorem ypY {P:Program} {t:TypeId} {cs:List Value} {K:Value → Prop} {w:World} {a:Addr} (h:yJi P t cs K) (hc:∀ (j:Nat) v,cs[j]? = some v → w.cell? (a.add j) = some v):∃ v,K v ∧ ∀ w',Mod [] w w' → (Instr.loadAt t (.pointer (some a))).run P w' = .ok v w':=by
 unfold yJi at h
 cases h1:(ye6 P 20 t).length == P.cellsOf t with
 | false => rw [h1] at h; exact h.elim
 | true =>
 rw [h1] at h
 cases h2:yI7 (ye6 P 20 t) cs with
 | false => rw [h2] at h; exact h.elim
 | true =>
 rw [h2] at h
 cases h3:(P.underlying t).isSome with
 | false => rw [h3] at h; exact h.elim
 | true =>
 rw [h3] at h
 simp only at h
 have key:∀ {F:Value → Prop},((match ykT P t,cs.take (ye6 P 20 t).length with
  | true,vs => F (.agg ⟨vs⟩)
  | false,[v] => F v
  | _,_ => False)) → ldT P t w a F:=fun {F} hF => by
  unfold ldT
  rw [h1]
  exact ypX h2 (by simpa using hc) hF
 have h1:(ye6 P 20 t).length = P.cellsOf t:=by simpa using h1
 refine ypQ (key ?_) h3
 cases h4:ykT P t with
 | true => rw [h4] at h; rw [h1]; exact h
 | false =>
  rw [h4] at h
  simp only at h ⊢
  split at h
  ·rename_i v r l hl
   rw [hl]
   simpa using h
  ·exact h.elim
theorem ypZ {w:World} {tb:TB} (h:w.heap[tb.b]? = some (.cells tb.cs.toArray tb.T)) (off:Nat):∀ (j:Nat) v,(tb.cs.drop off)[j]? = some v → w.cell? ((⟨tb.b,off,none⟩:Addr).add j) = some v:=by
 intro j v hv
 rw [ycC,yaM h]
 simpa using hv
theorem Inv.tag_of {f:FA} {s:St} {wa:World} (hI:Inv f s wa) {x:Operand} {k off:Nat} (h:ynW f x = some (k,off)):∃ tb,s.mem[k]? = some tb ∧ evA f x = .pointer (some ⟨tb.b,off,none⟩):=by
 cases x with
 | tmp t => exact hI.tags t k off h
 | _ => cases h
theorem yxO {P:Program} {e:TypeId} {z:Value} (hz:yeX P (zeroValue e) = some z) (w:World):(Instr.alloc e true (.tuple #[])).run P w = .ok (.pointer (some ⟨w.heap.size,0,none⟩)) (w.alloc (.cells z.cells e)):=by
 simp [Instr.alloc,Sem.run_bind,ybZ hz,Result.andThen,newVar,newRow,newObj,Sem.run]
theorem yB5 {P:Program} {e:TypeId} {z:Value} (w:World):(Instr.box e z).run P w = .ok (.pointer (some ⟨w.heap.size,0,none⟩)) (w.alloc (.cells z.cells e)):=by
 simp [Instr.box,Sem.run_bind,Result.andThen,newVar,newRow,newObj,Sem.run]
theorem yl6 {P:Program} {t:TypeId} (h:(P.info? t).isSome = true) (w:World):(sizeOf t).run P w = .ok (P.cellsOf t) w:=by
 obtain ⟨i,hi⟩:=Option.isSome_iff_exists.1 h
 simp [sizeOf,typeInfo,Program.cellsOf,hi,Sem.run_bind,program,Sem.run,Result.andThen]
theorem yB6 {f:FA} {s:St} {wa:World} (hI:Inv f s wa) (T:TypeId) (c:Array Value) :
  OpI f ⟨s.mem ++ [⟨wa.heap.size,T,c.toList,false⟩],s.w,s.S,s.mem.length :: s.N,false⟩ (.pointer (some ⟨wa.heap.size,0,none⟩)) (some (s.mem.length,0)) (wa.alloc (.cells c T)):=by
 have M:Mod [] wa (wa.alloc (.cells c T)):=Mod.of_below ((Below.refl _ _).alloc (Nat.le_refl _) _)
 have hnew:=(MapKept.heap_alloc wa (.cells c T)).1
 have get:∀ (k:Nat) tb,(s.mem ++ [(⟨wa.heap.size,T,c.toList,false⟩:TB)])[k]? = some tb → s.mem[k]? = some tb ∨ (k = s.mem.length ∧ tb = ⟨wa.heap.size,T,c.toList,false⟩):=fun k tb h => by
  by_cases hk:k < s.mem.length
  ·rw [List.getElem?_append_left hk] at h; exact .inl h
  ·rw [List.getElem?_append_right (by omega)] at h
   by_cases hk':k = s.mem.length
   ·subst hk'; simp at h; exact .inr ⟨rfl,h.symm⟩
   ·rw [List.getElem?_eq_none (by simp; omega)] at h; cases h
 have keep:∀ (k:Nat) tb,s.mem[k]? = some tb → (s.mem ++ [(⟨wa.heap.size,T,c.toList,false⟩:TB)])[k]? = some tb:=fun k tb h => by
  rw [List.getElem?_append_left (List.getElem?_eq_some_iff.1 h).1]; exact h
 refine ⟨⟨fun k tb hk => ?_,fun i j x y hx hy hb => ?_,fun i k off ht => ?_,?_,fun k hk tb ht => ?_,⟨List.nodup_cons.2 ⟨fun h => Nat.lt_irrefl _ (hI.nn.2 _ h),hI.nn.1⟩,fun k hk => by
   rw [List.length_append]
   rcases List.mem_cons.1 hk with rfl | hk
   ·simp
   ·have:=hI.nn.2 k hk; omega⟩,by simp⟩,fun k off h => ?_⟩
 ·rcases get k tb hk with h | ⟨_,rfl⟩
  ·exact M.keep0 (hI.at_ k tb h)
  ·simpa using hnew
 ·rcases get i x hx with h | ⟨h,rfl⟩ <;> rcases get j y hy with h' | ⟨h',rfl⟩
  ·exact hI.nd i j x y h h' hb
  ·have:=hI.lt h; simp at hb; omega
  ·have:=hI.lt h'; simp at hb; omega
  ·omega
 ·obtain ⟨tb,h1,h2⟩:=hI.tags i k off ht
  exact ⟨tb,keep k tb h1,h2⟩
 ·refine (hI.mod.trans M).less fun x hx _ => ?_
  simp only [List.append_nil] at hx
  obtain ⟨i,hi,tb,ht,rfl⟩:=ydH.1 hx
  exact ydH.2 ⟨i,hi,tb,keep i tb ht,rfl⟩
 ·have hs:=hI.mod.size
  rcases get k tb ht with h | ⟨_,rfl⟩
  ·rcases List.mem_cons.1 hk with rfl | hk
   ·have:=(List.getElem?_eq_some_iff.1 h).1; omega
   ·exact hI.new k hk tb h
  ·exact hs
 ·cases h
  exact ⟨⟨wa.heap.size,T,c.toList,false⟩,by rw [List.getElem?_append_right (Nat.le_refl _)]; simp,rfl⟩
theorem ylH {P:Program} {f:FA} {s:St} {wa:World} {K:KOp} {T:TypeId} {z:Value} (h:yMo s T z.cells.toList K) (hI:Inv f s wa) :
  ∃ t s',K (.pointer (some ⟨wa.heap.size,0,none⟩)) t s' ∧ OpI f s' (.pointer (some ⟨wa.heap.size,0,none⟩)) t (wa.alloc (.cells z.cells T)) ∧ (∀ (k:Nat) tb,s.mem[k]? = some tb → ∃ tb',s'.mem[k]? = some tb' ∧ tb'.b = tb.b) :=
 ⟨_,_,yfK (h wa.heap.size hI.mod.size),yB6 hI T z.cells,fun k tb hk => ⟨tb,by rw [List.getElem?_append_left (List.getElem?_eq_some_iff.1 hk).1]; exact hk,rfl⟩⟩
theorem yB7:∀ (cs:List Value) (o:Nat) (vs:List Value) (c:Array Value),o + vs.length ≤ cs.length → c.toList = cs → (ybJ c o vs).toList = ye8 cs o vs:=by
 have key:∀ (vs:List Value) (c:Array Value) (o:Nat) ,o + vs.length ≤ c.size → (ybJ c o vs).toList = c.toList.take o ++ vs ++ c.toList.drop (o + vs.length):=by
  intro vs
  induction vs with
  | nil => intro c o h; simp [ybJ]
  | cons v r ih =>
   intro c o h
   simp only [List.length_cons] at h
   rw [ybJ,ih _ _ (by simp; omega)]
   simp only [Array.toList_setIfInBounds]
   have ho:o < c.toList.length:=by simp; omega
   have e1:(c.toList.set o v).take (o + 1) = c.toList.take o ++ [v]:=by
    rw [List.take_succ_eq_append_getElem (by simpa using ho),List.take_set_of_le (Nat.le_refl _)]
    simp
   rw [e1,List.drop_set_of_lt (by omega)]
   simp [Nat.add_assoc,Nat.add_comm 1]
 have key2:∀ (cs:List Value) (o:Nat) (vs:List Value),o + vs.length ≤ cs.length → ye8 cs o vs = cs.take o ++ vs ++ cs.drop (o + vs.length):=by
  intro cs
  induction cs with
  | nil => intro o vs h; simp at h; obtain ⟨rfl,h⟩:=h; subst h; simp [ye8]
  | cons x r ih =>
   intro o vs h
   cases o with
   | succ o =>
    simp only [List.length_cons] at h
    rw [ye8,ih o vs (by omega)]
    simp [Nat.add_right_comm o 1]
   | zero =>
    cases vs with
    | nil => simp [ye8]
    | cons v vs =>
     simp only [List.length_cons] at h
     rw [ye8,ih 0 vs (by omega)]
     simp
 intro cs o vs c h e
 rw [key vs c o (by simpa [← e] using h),key2 cs o vs h,e]
theorem ylI:∀ {l:List Nat} {i:Nat},yBZ l i = true ↔ i ∈ l
 | [],i => by simp [yBZ]
 | x :: r,i => by
  unfold yBZ
  split
  ·rename_i h; have h:=Nat.eq_of_beq_eq_true h; subst h; simp
  ·rename_i h; have h:=Nat.ne_of_beq_eq_false h
   rw [ylI,List.mem_cons]
   constructor
   ·exact .inr
   ·rintro (rfl | h')
    ·exact absurd rfl h
    ·exact h'
theorem yB8 {f:FA} {s:St} {wa wb:World} {k off:Nat} {tb:TB} {vs:List Value} (hI:Inv f s wa) (hk:s.mem[k]? = some tb) (hs:off + vs.length ≤ tb.cs.length)
  (hb:wb.heap[tb.b]? = some (.cells (ybJ tb.cs.toArray off vs) tb.T)) (hM:Mod [tb.b] wa wb) :
  OpI f ⟨s.mem.set k ⟨tb.b,tb.T,ye8 tb.cs off vs,tb.ex⟩,s.w,yMc s.N s.S k,s.N,false⟩ undef none wb:=by
 have hkl:=(List.getElem?_eq_some_iff.1 hk).1
 have get:∀ (j:Nat) x,(s.mem.set k ⟨tb.b,tb.T,ye8 tb.cs off vs,tb.ex⟩)[j]? = some x → (j = k ∧ x = ⟨tb.b,tb.T,ye8 tb.cs off vs,tb.ex⟩) ∨ (j ≠ k ∧ s.mem[j]? = some x):=fun j x h => by
  by_cases hj:j = k
  ·subst hj; rw [List.getElem?_set_self hkl] at h; cases h; exact .inl ⟨rfl,rfl⟩
  ·rw [List.getElem?_set_ne (Ne.symm hj)] at h; exact .inr ⟨hj,h⟩
 have old:∀ (j:Nat) x,(s.mem.set k ⟨tb.b,tb.T,ye8 tb.cs off vs,tb.ex⟩)[j]? = some x → ∃ y,s.mem[j]? = some y ∧ y.b = x.b:=fun j x h => by
  rcases get j x h with ⟨rfl,rfl⟩ | ⟨_,h⟩
  ·exact ⟨tb,hk,rfl⟩
  ·exact ⟨x,h,rfl⟩
 have fwd:∀ (j:Nat) x,s.mem[j]? = some x → ∃ y,(s.mem.set k ⟨tb.b,tb.T,ye8 tb.cs off vs,tb.ex⟩)[j]? = some y ∧ y.b = x.b:=fun j x h => by
  by_cases hj:j = k
  ·subst hj; rw [hk] at h; cases h; exact ⟨_,List.getElem?_set_self hkl,rfl⟩
  ·exact ⟨x,by rw [List.getElem?_set_ne (Ne.symm hj)]; exact h,rfl⟩
 refine Inv.op ⟨fun j x hj => ?_,fun i j x y hx hy hxy => ?_,fun i j o ht => ?_,?_,fun j hj x hx => ?_,⟨hI.nn.1,fun j hj => by rw [List.length_set]; exact hI.nn.2 j hj⟩,by simp⟩
 ·rcases get j x hj with ⟨rfl,rfl⟩ | ⟨hne,h⟩
  ·simp only
   rw [hb,← yB7 tb.cs off vs tb.cs.toArray hs (by simp)]
  ·refine hM.keep (hI.at_ j x h) ?_
   simp only [List.mem_singleton]
   exact fun e => hne (hI.nd j k x tb h hk e)
 ·obtain ⟨x',h1,e1⟩:=old i x hx
  obtain ⟨y',h2,e2⟩:=old j y hy
  exact hI.nd i j x' y' h1 h2 (by rw [e1,e2,hxy])
 ·obtain ⟨x,h1,h2⟩:=hI.tags i j o ht
  obtain ⟨y,h3,h4⟩:=fwd j x h1
  exact ⟨y,h3,by rw [h2,h4]⟩
 ·refine (hI.mod.trans hM).less fun x hx hlt => ?_
  rcases List.mem_append.1 hx with hx | hx
  ·obtain ⟨i,hi,t,ht,rfl⟩:=ydH.1 hx
   obtain ⟨y,h3,h4⟩:=fwd i t ht
   refine ydH.2 ⟨i,?_,y,h3,h4.symm⟩
   simp only at hi ⊢
   unfold yMc
   split
   ·exact List.mem_cons_of_mem _ hi
   ·exact hi
  ·simp at hx; subst hx
   obtain ⟨y,h3,h4⟩:=fwd k tb hk
   refine ydH.2 ⟨k,?_,y,h3,h4.symm⟩
   simp only
   unfold yMc
   split
   ·simp
   ·rename_i hn
    cases hN:yBZ s.N k with
    | true => have:=hI.new k (ylI.1 hN) tb hk; omega
    | false =>
     cases hS:yBZ s.S k with
     | true => exact ylI.1 hS
     | false => exact absurd hS (by simpa using hn hN)
 ·obtain ⟨y,h1,h2⟩:=old j x hx
  rw [← h2]; exact hI.new j hj y h1
theorem yB9 {mem:List TB} {w w':World} {F:Prop} (h:yHu mem w w' F):(∀ (k:Nat) tb,mem[k]? = some tb → tb.b < w.heap.size → w'.heap[tb.b]? = w.heap[tb.b]?) ∧ F:=by
 unfold yHu at h
 split at h
 ·exact ⟨by simp,h⟩
 ·obtain ⟨h1,h2⟩:=h
  exact ⟨fun k tb hk hl => h1 _ (List.mem_map.2 ⟨tb,List.mem_of_getElem? hk,rfl⟩) hl (by simp) (by simp),h2⟩
theorem yCa {P:Program} {w':World}:∀ {mem:List TB} {F:List TB → Prop},reD P w' mem F → ∃ mem',F mem' ∧ mem'.length = mem.length ∧ ∀ (k:Nat) tb,mem[k]? = some tb → ∃ tb',mem'[k]? = some tb' ∧ tb'.b = tb.b ∧ (tb.ex = false → tb' = tb) ∧ (tb.ex = true → w'.heap[tb'.b]? = some (.cells tb'.cs.toArray tb'.T))
 | [],F,h => ⟨[],h,rfl,by simp⟩
 | tb :: r,F,h => by
  unfold reD at h
  have fin:∀ {x:TB},x.b = tb.b → (tb.ex = false → x = tb) → (tb.ex = true → w'.heap[x.b]? = some (.cells x.cs.toArray x.T)) → reD P w' r (fun m => F (x :: m)) → ∃ mem',F mem' ∧ mem'.length = (tb :: r).length ∧ ∀ (k:Nat) t,(tb :: r)[k]? = some t → ∃ t',mem'[k]? = some t' ∧ t'.b = t.b ∧ (t.ex = false → t' = t) ∧ (t.ex = true → w'.heap[t'.b]? = some (.cells t'.cs.toArray t'.T)):=fun {x} e1 e2 e3 h => by
   obtain ⟨m,h1,h2,h3⟩:=yCa h
   refine ⟨x :: m,h1,by simp [h2],fun k t hk => ?_⟩
   cases k with
   | zero => simp at hk; subst hk; exact ⟨x,by simp,e1,e2,e3⟩
   | succ k => obtain ⟨t',h4,h5⟩:=h3 k t (by simpa using hk); exact ⟨t',by simpa using h4,h5⟩
  split at h
  ·rename_i hx
   exact fin rfl (fun _ => rfl) (fun h => by rw [hx] at h; cases h) h
  ·rename_i hx
   obtain ⟨vs,hv,h⟩:=yeL h
   exact fin (x:=⟨tb.b,tb.T,vs,true⟩) rfl (fun h => by rw [hx] at h; cases h) (fun _ => hv) h
theorem yvA {tb:TB}:∀ {mem:List TB},tb ∈ mem → tb.ex = false → tb.b ∈ nxB mem
 | [],h,_ => by cases h
 | x :: r,h,hx => by
  unfold nxB
  rcases List.mem_cons.1 h with rfl | h
  ·rw [hx]; simp
  ·split
   ·exact yvA h hx
   ·exact List.mem_cons_of_mem _ (yvA h hx)
theorem yvB:∀ {mem:List TB} {p:Nat × TypeId},p ∈ nxT mem → ∃ tb ∈ mem,tb.b = p.1 ∧ tb.T = p.2
 | [],p,h => by simp [nxT] at h
 | x :: r,p,h => by
  unfold nxT at h
  split at h
  ·obtain ⟨tb,h1,h2⟩:=yvB h; exact ⟨tb,by simp [h1],h2⟩
  ·rcases List.mem_cons.1 h with rfl | h
   ·exact ⟨x,by simp,rfl,rfl⟩
   ·obtain ⟨tb,h1,h2⟩:=yvB h; exact ⟨tb,by simp [h1],h2⟩
theorem yvC:∀ {mem:List TB} {b:Nat},b ∈ exB mem → ∃ tb ∈ mem,tb.ex = true ∧ tb.b = b
 | [],b,h => by simp [exB] at h
 | x :: r,b,h => by
  unfold exB at h
  split at h
  ·rename_i hx
   rcases List.mem_cons.1 h with rfl | h
   ·exact ⟨x,by simp,hx,rfl⟩
   ·obtain ⟨tb,h1,h2⟩:=yvC h; exact ⟨tb,by simp [h1],h2⟩
  ·obtain ⟨tb,h1,h2⟩:=yvC h; exact ⟨tb,by simp [h1],h2⟩
theorem yCb {P:Program} {mem:List TB} {w w':World} {F:List TB → Prop} (h:yHv P mem w w' F) (hnd:∀ (i j:Nat) x y,mem[i]? = some x → mem[j]? = some y → x.b = y.b → i = j) :
  ∃ mem',F mem' ∧ mem'.length = mem.length ∧ ∀ (k:Nat) tb,mem[k]? = some tb → ∃ tb',mem'[k]? = some tb' ∧ tb'.b = tb.b ∧ (tb.b < w.heap.size → w.heap[tb.b]? = some (.cells tb.cs.toArray tb.T) → w'.heap[tb'.b]? = some (.cells tb'.cs.toArray tb'.T)):=by
 have fin:(∀ b ∈ nxB mem,b < w.heap.size → b ∉ exB mem → (∀ p ∈ nxT mem,p.1 = b → ∃ cs,w.heap[b]? = some (.cells cs p.2)) → w'.heap[b]? = w.heap[b]?) → reD P w' mem F → ∃ mem',F mem' ∧ mem'.length = mem.length ∧ ∀ (k:Nat) tb,mem[k]? = some tb → ∃ tb',mem'[k]? = some tb' ∧ tb'.b = tb.b ∧ (tb.b < w.heap.size → w.heap[tb.b]? = some (.cells tb.cs.toArray tb.T) → w'.heap[tb'.b]? = some (.cells tb'.cs.toArray tb'.T)):=fun hk hr => by
  obtain ⟨m,h1,h2,h3⟩:=yCa hr
  refine ⟨m,h1,h2,fun k tb hm => ?_⟩
  obtain ⟨t',h4,h5,h6,h7⟩:=h3 k tb hm
  refine ⟨t',h4,h5,fun hl hc => ?_⟩
  cases hx:tb.ex with
  | true => exact h7 hx
  | false =>
   have hty:∀ p ∈ nxT mem,p.1 = tb.b → ∃ cs,w.heap[tb.b]? = some (.cells cs p.2):=fun p hp hpb => by
    obtain ⟨y,hy,hyb,hyT⟩:=yvB hp
    obtain ⟨j,hj⟩:=List.mem_iff_getElem?.1 hy
    have:=hnd k j tb y hm hj (by rw [← hpb,← hyb])
    subst this
    rw [hm] at hj
    cases hj
    exact ⟨_,by rw [← hyT]; exact hc⟩
   have hne:tb.b ∉ exB mem:=fun he => by
    obtain ⟨y,hy,hye,hyb⟩:=yvC he
    obtain ⟨j,hj⟩:=List.mem_iff_getElem?.1 hy
    have:=hnd k j tb y hm hj hyb.symm
    subst this
    rw [hm] at hj
    cases hj
    rw [hx] at hye; cases hye
   refine (by rw [h6 hx,hk _ (yvA (List.mem_of_getElem? hm) hx) hl hne hty]; exact hc)
 unfold yHv at h
 split at h
 ·rename_i hn
  exact fin (by rw [hn]; simp) h
 ·split at h
  ·exact fin (fun b hb hl _ _ => h.1 b hb hl (by simp) (by simp)) h.2
  ·exact fin h.1 h.2
theorem yiU {f:FA} {s:St} {wa w':World} {mem:List TB} (hI:Inv f s wa) (hl:mem.length = s.mem.length)
  (hm:∀ (k:Nat) tb,s.mem[k]? = some tb → ∃ tb',mem[k]? = some tb' ∧ tb'.b = tb.b ∧ w'.heap[tb'.b]? = some (.cells tb'.cs.toArray tb'.T)):Inv f ⟨mem,w',[],[],true⟩ w':=by
 have back:∀ (k:Nat) x,mem[k]? = some x → ∃ tb,s.mem[k]? = some tb ∧ x.b = tb.b ∧ w'.heap[x.b]? = some (.cells x.cs.toArray x.T):=fun k x h => by
  have hk:k < s.mem.length:=by rw [← hl]; exact (List.getElem?_eq_some_iff.1 h).1
  obtain ⟨tb',h1,h2,h3⟩:=hm k s.mem[k] (by simp [hk])
  rw [h] at h1; cases h1
  exact ⟨_,by simp [hk],h2,h3⟩
 refine ⟨fun k x hk => (back k x hk).choose_spec.2.2,fun i j x y hx hy hb => ?_,fun i k off ht => ?_,(Mod.refl w').less (by simp),by simp,⟨by simp,by simp⟩,fun _ => rfl⟩
 ·obtain ⟨x',h1,e1,_⟩:=back i x hx
  obtain ⟨y',h2,e2,_⟩:=back j y hy
  exact hI.nd i j x' y' h1 h2 (by rw [← e1,← e2,hb])
 ·obtain ⟨tb,h1,h2⟩:=hI.tags i k off ht
  obtain ⟨tb',h3,h4,_⟩:=hm k tb h1
  exact ⟨tb',h3,by rw [h2,h4]⟩
def ybT (s s':St):Prop:=∀ (k:Nat) tb,s.mem[k]? = some tb → ∃ tb',s'.mem[k]? = some tb' ∧ tb'.b = tb.b
theorem ybT.refl (s:St):ybT s s:=fun k tb h => ⟨tb,h,rfl⟩
theorem ybT.trans {a b c:St} (h:ybT a b) (k:ybT b c):ybT a c:=fun i tb hi => by
 obtain ⟨t1,h1,e1⟩:=h i tb hi
 obtain ⟨t2,h2,e2⟩:=k i t1 h1
 exact ⟨t2,h2,by rw [e2,e1]⟩
theorem ybT.of_mem {s s':St} (h:s'.mem = s.mem):ybT s s':=fun k tb hk => ⟨tb,by rw [h]; exact hk,rfl⟩
theorem ybT.exposed (ids:List Nat) (s:St):ybT s (ycI ids s):=fun k tb hk => by
 obtain ⟨tb',h1,a,_⟩:=yfA (fun k => (yoE ids s k).symm) hk
 exact ⟨tb',h1,a.symm⟩
theorem ybT.flush {ids:List Nat} {s s':St} (h:s'.mem = (ycI ids s).mem):ybT s s':=(ybT.exposed ids s).trans (ybT.of_mem h)
def ykW (P:Program) (o:Oper) (f:FA) (s:St) (wa:World) (K:KOp):Prop:=∃ v t s',K v t s' ∧ (OpI f s' v t wa ∧ ybT s s') ∧ ∀ w',(yjK P o = true → Mod [] wa w') → (execOp (evA f) o).run P w' = .ok (.value v) w'
def yJp (P:Program) (o:Oper) (f:FA) (s:St) (wa:World) (K:KOp):Prop:=yjG P (execOp (evA f) o) wa fun v wa' => ∃ t s',K v t s' ∧ OpI f s' v t wa' ∧ ybT s s'
theorem ykW.eff {P:Program} {o:Oper} {f:FA} {s:St} {wa:World} {K:KOp} (h:ykW P o f s wa K):yJp P o f s wa K:=by
 obtain ⟨v,t,s',h1,h2,h3⟩:=h
 exact ycS (h3 wa (fun _ => Mod.refl wa)) ⟨t,s',h1,h2⟩
theorem yoF {P:Program} {rest:List Oper} {o:Oper} {f:FA} {s:St} {wa:World} {K:KOp} (h:yBI P rest o f s K) (he:ysE P o = 0) (hI:Inv f s wa):ykW P o f s wa K:=by
 unfold yBI at h
 rw [he] at h
 cases hr:yjK P o with
 | false =>
  rw [hr] at h
  obtain ⟨v,h1,h2⟩:=yhU h
  exact ⟨v,none,_,h1,⟨(ybL hI).op,ybT.exposed _ _⟩,fun w' _ => h2 w' (by rw [hr]; simp)⟩
 | true =>
  rw [hr] at h
  obtain ⟨s',h,hI',hw,hmem,_⟩:=yc7 h (ybL hI)
  obtain ⟨v,h1,h2⟩:=yhU h
  rw [hw] at h2
  exact ⟨v,none,_,h1,⟨hI'.op,ybT.flush hmem⟩,h2⟩
theorem yE0 {P:Program} {rest:List Oper} {o:Oper} {f:FA} {s:St} {wa:World} {K:KOp} (h:yBI P rest o f s K) (hI:Inv f s wa):yJp P o f s wa K:=by
 by_cases he:ysE P o = 0
 ·exact (yoF h he hI).eff
 unfold yBI at h
 split at h
 ·rename_i h0 _; exact absurd h0 he
 obtain ⟨s',h,hI',hw,hmem,_⟩:=yc7 h (ybL hI)
 have hLt:=ybT.flush hmem
 split at h
 ·rename_i h0; exact absurd h0 he
 ·rw [hw] at h
  refine ybD (ysK h) fun v w' ⟨hM,hk⟩ => ⟨none,_,hk,(yiU hI' rfl fun k tb hk => ⟨tb,hk,rfl,hM.keep0 (hI'.at_ k tb hk)⟩).op,hLt.trans (ybT.of_mem rfl)⟩
 ·rw [hw] at h
  refine ybD (ysI h) fun v w' hk => ?_
  obtain ⟨h1,h2⟩:=yB9 hk
  exact ⟨none,_,h2,(yiU hI' rfl fun k tb hk => ⟨tb,hk,rfl,by rw [h1 k tb hk (hI'.lt hk)]; exact hI'.at_ k tb hk⟩).op,hLt.trans (ybT.of_mem rfl)⟩
 ·rw [hw] at h
  refine ybD (ysI h) fun v w' hk => ?_
  obtain ⟨m,h1,h2,h3⟩:=yCb hk hI'.nd
  refine ⟨none,_,h1,(yiU hI' h2 fun k tb hk => ?_).op,hLt.trans fun k tb hk => ?_⟩
  ·obtain ⟨t',h4,h5,h6⟩:=h3 k tb hk
   exact ⟨t',h4,h5,h6 (hI'.lt hk) (hI'.at_ k tb hk)⟩
  ·obtain ⟨t',h4,h5,_⟩:=h3 k tb hk
   exact ⟨t',h4,h5⟩
theorem ycD {P:Program} {rest:List Oper} {o:Oper} {f:FA} {s:St} {wa:World} {K:KOp} (h:ye9 P rest o f s K) (hI:Inv f s wa):(ysE P o = 0 → ykW P o f s wa K) ∧ yJp P o f s wa K:=by
 have raw:yBI P rest o f s K → (ysE P o = 0 → ykW P o f s wa K) ∧ yJp P o f s wa K:=fun h => ⟨fun he => yoF h he hI,yE0 h hI⟩
 have q:ykW P o f s wa K → (ysE P o = 0 → ykW P o f s wa K) ∧ yJp P o f s wa K:=fun h => ⟨fun _ => h,h.eff⟩
 have val:∀ {v:Value} {t:Tag} {s':St},K v t s' → (OpI f s' v t wa ∧ ybT s s') → (∀ w',(execOp (evA f) o).run P w' = .ok (.value v) w') → ykW P o f s wa K:=fun h1 h2 h3 => ⟨_,_,_,h1,h2,fun w' _ => h3 w'⟩
 unfold ye9 at h
 split at h
 ·
  rename_i t a hop
  split at h
  ·rename_i k off ht
   split at h
   ·rename_i tb hk
    obtain ⟨tb',hk',ha⟩:=hI.tag_of ht
    rw [hk] at hk'; cases hk'
    obtain ⟨v,h1,h2⟩:=ypY h (ypZ (hI.at_ k tb hk) off)
    refine q ⟨v,none,s,h1,⟨hI.op,ybT.refl s⟩,fun w' hm => ?_⟩
    simp only [execOp,hop,ha]
    exact ya9 (h2 w' (hm (by simp [yjK,hop])))
   ·exact h.elim
  ·exact raw h
 ·
  rename_i t a x hop
  split at h
  ·rename_i k off ht
   have hE:=ybL (ids:=yhK f [x]) hI
   split at h
   ·rename_i tb hk hsz hd hl
    split at h
    ·rename_i hle
     obtain ⟨tb',hk',ha⟩:=hE.tag_of ht
     rw [hk] at hk'; cases hk'
     have hle:=Nat.le_of_ble_eq_true hle
     have e:=yl5 (yhK f [x]) s
     refine ⟨fun he => absurd he (by simp [ysE,hop]),?_⟩
     have hst:=yeY (F:=fun w' => w'.heap[tb.b]? = some (.cells (ybJ tb.cs.toArray off (evA f x).cells.toList) tb.T) ∧ Mod [tb.b] wa w') (hE.at_ k tb hk) hl (by simpa using hle) fun w' h1 h2 => ⟨h1,h2⟩
     obtain ⟨w',h1,h2,h3⟩:=ypS (P:=P) hst
     obtain ⟨d,hd⟩:=Option.isSome_iff_exists.1 hd
     have hs':(evA f x).cells.size = P.cellsOf t:=by simpa using hsz
     refine ysH (w':=w') ?_ ⟨none,_,yfK h,?_,(ybT.exposed (yhK f [x]) s).trans fun j y hj => ?_⟩
     ·simp [execOp,hop,Instr.storeAt,Instr.sureAddr,storeVar,ha,Sem.run_bind,ycM hd,Result.andThen,hs',h1]
     ·have:=yB8 hE hk (by simpa using hle) h2 h3
      rw [e.1,e.2.1,e.2.2.1] at this
      exact this
     ·by_cases hjk:j = k
      ·subst hjk; rw [hk] at hj; cases hj
       exact ⟨_,List.getElem?_set_self (List.getElem?_eq_some_iff.1 hk).1,rfl⟩
      ·exact ⟨y,by rw [List.getElem?_set_ne (Ne.symm hjk)]; exact hj,rfl⟩
    ·exact h.elim
   ·exact h.elim
  ·exact raw h
 ·
  rename_i e hop
  split at h
  ·rename_i z hz
   refine ⟨fun he => absurd he (by simp [ysE,hop]),?_⟩
   obtain ⟨t,s',h1,h2,h3⟩:=ylH (P:=P) h hI
   refine ycS (v:=.pointer (some ⟨wa.heap.size,0,none⟩)) ?_ ⟨t,s',h1,h2,h3⟩
   simp only [execOp,hop]
   exact ya9 (yxO hz wa)
  ·exact h.elim
 ·
  rename_i e x hop
  refine ⟨fun he => absurd he (by simp [ysE,hop]),?_⟩
  obtain ⟨t,s',h1,h2,h3⟩:=ylH (P:=P) h (ybL hI)
  refine ycS (v:=.pointer (some ⟨wa.heap.size,0,none⟩)) ?_ ⟨t,s',h1,h2,(ybT.exposed _ _).trans h3⟩
  simp only [execOp,hop]
  exact ya9 (yB5 wa)
 ·
  rename_i t x fi hop
  split at h
  ·rename_i k off ht
   split at h
   ·rename_i tb fs hk hu
    split at h
    ·rename_i fl hff
     split at h
     ·rename_i n hi hn
      obtain ⟨tb',hk',ha⟩:=hI.tag_of ht
      rw [hk] at hk'; cases hk'
      refine q (val h ⟨⟨hI,fun k' off' e => by cases e; exact ⟨tb,hk,rfl⟩⟩,ybT.refl s⟩ fun w' => ?_)
      simp only [execOp,hop,ha]
      refine ya9 ?_
      have e0:¬ P.cellsOf fl.type = 0:=by omega
      simp [Instr.fieldAt,Instr.sureAddr,fieldPlace,Sem.run_bind,run_underlying hu,Result.andThen,hff,yl6 hi,e0,ycC]
     ·exact h.elim
    ·exact h.elim
   ·exact h.elim
  ·exact raw h
 ·
  rename_i t x ix hop
  split at h
  ·rename_i len e hu
   split at h
   ·exact h.elim
   rename_i hi
   split at h
   ·rename_i n k off hl ht
    obtain ⟨kk,rfl⟩:∃ kk,ix = .const (.int kk (.ofNat n)):=by
     unfold yF5 at hl; split at hl
     ·cases hl; exact ⟨_,rfl⟩
     ·cases hl
    split at h
    ·rename_i tb hk hlt
     obtain ⟨tb',hk',ha⟩:=hI.tag_of ht
     rw [hk] at hk'; cases hk'
     refine q (val h ⟨⟨hI,fun k' off' e => by cases e; exact ⟨tb,hk,rfl⟩⟩,ybT.refl s⟩ fun w' => ?_)
     have hlt:n < len:=by simpa [Nat.blt_eq] using hlt
     have hc:evA f (.const (.int kk (.ofNat n))) = .int kk (.ofNat n):=rfl
     simp only [execOp,hop,ha,hc]
     refine ya9 ?_
     simp [Instr.indexAt,asIntOf,Instr.sureAddr,Sem.run_bind,run_underlying hu,Result.andThen,hlt,yl6 hi,ycC]
    ·exact h.elim
   ·split at h
    ·rename_i a kk i ha hix
     obtain ⟨h0,h1,h⟩:=h
     refine q (val h ⟨(ybL hI).op,ybT.exposed _ _⟩ fun w' => ?_)
     simp only [execOp,hop,ha,hix]
     refine ya9 ?_
     simp [Instr.indexAt,asIntOf,Instr.sureAddr,Sem.run_bind,run_underlying hu,Result.andThen,h0,h1,yl6 hi]
    ·exact h.elim
  ·exact raw h
 ·
  rename_i x hop
  split at h
  ·rename_i k off ht
   split at h
   ·rename_i tb hk
    obtain ⟨tb',hk',ha⟩:=hI.tag_of ht
    rw [hk] at hk'; cases hk'
    refine q (val h ⟨⟨hI,fun k' off' e => by cases e; exact ⟨tb,hk,rfl⟩⟩,ybT.refl s⟩ fun w' => ?_)
    simp [execOp,hop,ha,Sem.run]
   ·exact h.elim
  ·exact raw h
 ·rename_i x hop
  refine q (val h ⟨⟨hI,fun k off e => hI.tag_of e⟩,ybT.refl s⟩ fun w' => ?_)
  simp [execOp,hop,Sem.run]
 ·rename_i x hop
  refine q (val h ⟨⟨hI,fun k off e => hI.tag_of e⟩,ybT.refl s⟩ fun w' => ?_)
  simp [execOp,hop,Sem.run]
 ·
  rename_i c a b hop
  split at h
  ·rename_i t hc
   have hE:=ybL (ids:=yhK f [a,b]) hI
   cases t
   ·refine q (val (show K (evA f b) none _ from h) ⟨hE.op,ybT.exposed _ _⟩ fun w' => ?_)
    simp [execOp,hop,hc,asBool,Sem.run,Sem.run_bind]
   ·refine q (val (show K (evA f a) none _ from h) ⟨hE.op,ybT.exposed _ _⟩ fun w' => ?_)
    simp [execOp,hop,hc,asBool,Sem.run,Sem.run_bind]
  ·exact h.elim
 ·exact raw h
theorem yaZ {ops:Array Oper} {tmps:Array Value} {j d:Nat} (hd:(ops[j]?).bind (·.dst) = some d):yielded ops tmps j = match tmps[d]? with
  | some (.bool b) => some b
  | _ => none:=by
 cases h:tmps[d]? with
 | none => simp [yielded,hd,h]
 | some v => cases v <;> simp [yielded,hd,h]
theorem yeN {ops:Array Oper} {tmps:Array Value} {j:Nat} (hd:(ops[j]?).bind (·.dst) = none):yielded ops tmps j = none:=by
 simp [yielded,hd]
theorem Inv.skip {f:FA} {s:St} {wa:World} (h:Inv f s wa) (d:Option Tmp):Inv (ydZ f d undef none) s wa:=OpI.put (v:=undef) (t:=none) h.op d
theorem yiV {n:Nat}:∀ {l:List Oper},yEZ n l = true → ∀ o ∈ l,∀ k,o.dst = some k → k < n
 | [],_,o,ho,_,_ => by cases ho
 | x :: r,h,o,ho,k,hk => by
  unfold yEZ at h
  split at h
  ·rename_i hx
   rcases List.mem_cons.1 ho with rfl | ho
   ·rw [hx] at hk; cases hk
   ·exact yiV h o ho k hk
  ·rename_i d hx
   split at h
   ·rename_i hlt
    rcases List.mem_cons.1 ho with rfl | ho
    ·rw [hx] at hk; cases hk; simpa [Nat.blt_eq] using hlt
    ·exact yiV h o ho k hk
   ·cases h
theorem yfG {P:Program} {n d g:Nat} {ops:Array Oper} {Q:Exit → Act → World → Prop} {K:FA → St → Prop} (hK:∀ f s wa a,K f s → Inv f s wa → Rel n f a → Q .normal a wa) :
  ∀ {l:List Oper} {f:FA} {s:St} {wa:World} {a:Act},(∀ o ∈ l,∀ k,o.dst = some k → k < n) → yf0 P ops d g l K f s → Inv f s wa → Rel n f a → wpList P ops Q l a wa
 | [],f,s,wa,a,_,h,hI,hR => hK f s wa a h hI hR
 | o :: r,f,s,wa,a,hn,h,hI,hR => by
  have hnr:∀ o ∈ r,∀ k,o.dst = some k → k < n:=fun o ho => hn o (by simp [ho])
  unfold yf0 at h
  split at h
  ·rename_i hg
   have hw:Region.wanted o (yielded ops a.tmps) = true:=by simp [Region.wanted,hg]
   unfold wpList
   rw [if_pos hw]
   split at h
   ·obtain ⟨p,h⟩:=h
    refine .inl (yfZ (K:=fun v wa' => ∃ t s',(v = .func (.func g) #[.pointer p] #[] ∧ yf0 P ops d g r K (ydZ f o.dst (.func (.func g) #[.pointer p] #[]) t) s') ∧ OpI f s' v t wa' ∧ ybT s s') (by rw [hR.eval]; exact (ycD h hI).2) fun v w' ⟨t,s',⟨hv,h1⟩,h2,_⟩ => ?_)
    rw [← hv] at h1
    exact yfG hK hnr h1 (h2.put o.dst) (hR.put o.dst (hn o (by simp)) v t)
   ·refine .inl (yfZ (K:=fun v wa' => ∃ t s',yf0 P ops d g r K (ydZ f o.dst v t) s' ∧ OpI f s' v t wa' ∧ ybT s s') (by rw [hR.eval]; exact (ycD h hI).2) fun v w' ⟨t,s',h1,h2,_⟩ => ?_)
    exact yfG hK hnr h1 (h2.put o.dst) (hR.put o.dst (hn o (by simp)) v t)
  ·exact h.elim
theorem yf1 {P:Program} {n:Nat} {ops:Array Oper} {Q:Exit → Act → World → Prop} {K:FA → St → Prop} (hK:∀ f s wa a,K f s → Inv f s wa → Rel n f a → Q .normal a wa) :
  ∀ {l:List Oper} {f:FA} {s:St} {wa:World} {a:Act},(∀ o ∈ l,∀ k,o.dst = some k → k < n) → ybS P ops l K f s → Inv f s wa → Rel n f a → wpList P ops Q l a wa
 | [],f,s,wa,a,_,h,hI,hR => hK f s wa a h hI hR
 | o :: r,f,s,wa,a,hn,h,hI,hR => by
  have hnr:∀ o ∈ r,∀ k,o.dst = some k → k < n:=fun o ho => hn o (by simp [ho])
  have run:∀ {f:FA},(ye9 P r o f s fun v t s => ybS P ops r K (ydZ f o.dst v t) s) → Inv f s wa → Rel n f a → Region.wanted o (yielded ops a.tmps) = true → wpList P ops Q (o :: r) a wa:=fun {f} h hI hR hw => by
   unfold wpList
   rw [if_pos hw]
   refine .inl (yfZ (K:=fun v wa' => ∃ t s',ybS P ops r K (ydZ f o.dst v t) s' ∧ OpI f s' v t wa' ∧ ybT s s') (by rw [hR.eval]; exact (ycD h hI).2) fun v w' ⟨t,s',h1,h2,_⟩ => ?_)
   exact yf1 hK hnr h1 (h2.put o.dst) (hR.put o.dst (hn o (by simp)) v t)
  have skip:∀ {f:FA},ybS P ops r K (ydZ f o.dst undef none) s → Inv f s wa → Rel n f a → Region.wanted o (yielded ops a.tmps) = false → wpList P ops Q (o :: r) a wa:=fun {f} h hI hR hw => by
   unfold wpList
   rw [if_neg (by rw [hw]; simp)]
   exact yf1 hK hnr h (hI.skip o.dst) (hR.put o.dst (hn o (by simp)) _ _)
  unfold ybS at h
  split at h
  ·rename_i hg
   exact run h hI hR (by simp [Region.wanted,hg])
  ·rename_i j b hg
   split at h
   ·rename_i hd
    exact skip h hI hR (by simp [Region.wanted,hg,yeN hd])
   ·rename_i d hd
    split at h
    ·rename_i t ht
     have hy:=hR.bool ht
     have hI':=ylF ht hI
     have hR':=ylG ht hR
     cases t
     ·simp only [brB] at h
      split at h
      ·exact run h hI' hR' (by simp [Region.wanted,hg,yaZ hd,hy])
      ·exact skip h hI' hR' (by simp [Region.wanted,hg,yaZ hd,hy])
     ·simp only [brB] at h
      split at h
      ·exact run h hI' hR' (by simp [Region.wanted,hg,yaZ hd,hy])
      ·exact skip h hI' hR' (by simp [Region.wanted,hg,yaZ hd,hy])
    ·rename_i hn
     refine skip h hI hR ?_
     have:yielded ops a.tmps j = none:=by
      rw [yaZ hd]
      split
      ·rename_i b' hb
       refine absurd ?_ (hn b')
       rw [← hR.get,Array.getD_eq_getD_getElem?,hb]; rfl
      ·rfl
     simp [Region.wanted,hg,this]
theorem yd0 {P:Program} {n:Nat} {ops:Array Oper} {w:World} {Q:Act → Prop} {K:FA → St → Prop} (hK:∀ f s a,K f s → Inv f s w → Rel n f a → Q a) :
  ∀ {l:List Oper} {f:FA} {s:St} {a:Act},(∀ o ∈ l,∀ k,o.dst = some k → k < n) → (∀ o ∈ l,ysE P o = 0) → ybS P ops l K f s → Inv f s w → Rel n f a → wpQuiet P ops (fun w' => Mod [] w w') Q l a
 | [],f,s,a,_,_,h,hI,hR => hK f s a h hI hR
 | o :: r,f,s,a,hn,hl,h,hI,hR => by
  have hnr:∀ o ∈ r,∀ k,o.dst = some k → k < n:=fun o ho => hn o (by simp [ho])
  have hr:∀ o ∈ r,ysE P o = 0:=fun o ho => hl o (by simp [ho])
  have run:∀ {f:FA},(ye9 P r o f s fun v t s => ybS P ops r K (ydZ f o.dst v t) s) → Inv f s w → Rel n f a → Region.wanted o (yielded ops a.tmps) = true → wpQuiet P ops (fun w' => Mod [] w w') Q (o :: r) a:=fun {f} h hI hR hw => by
   unfold wpQuiet
   rw [if_pos hw]
   obtain ⟨v,t,s',h1,⟨h2,_⟩,h3⟩:=(ycD h hI).1 (hl o (by simp))
   refine ⟨v,fun w' hm => ?_,?_⟩
   ·unfold Oper.quietAt
    rw [hR.eval,h3 w' (fun _ => hm)]
    exact ⟨rfl,rfl⟩
   ·exact yd0 hK hnr hr h1 (h2.put o.dst) (hR.put o.dst (hn o (by simp)) v t)
  have skip:∀ {f:FA},ybS P ops r K (ydZ f o.dst undef none) s → Inv f s w → Rel n f a → Region.wanted o (yielded ops a.tmps) = false → wpQuiet P ops (fun w' => Mod [] w w') Q (o :: r) a:=fun {f} h hI hR hw => by
   unfold wpQuiet
   rw [if_neg (by rw [hw]; simp)]
   exact yd0 hK hnr hr h (hI.skip o.dst) (hR.put o.dst (hn o (by simp)) _ _)
  unfold ybS at h
  split at h
  ·rename_i hg
   exact run h hI hR (by simp [Region.wanted,hg])
  ·rename_i j b hg
   split at h
   ·rename_i hd
    exact skip h hI hR (by simp [Region.wanted,hg,yeN hd])
   ·rename_i d hd
    split at h
    ·rename_i t ht
     have hy:=hR.bool ht
     have hI':=ylF ht hI
     have hR':=ylG ht hR
     cases t
     ·simp only [brB] at h
      split at h
      ·exact run h hI' hR' (by simp [Region.wanted,hg,yaZ hd,hy])
      ·exact skip h hI' hR' (by simp [Region.wanted,hg,yaZ hd,hy])
     ·simp only [brB] at h
      split at h
      ·exact run h hI' hR' (by simp [Region.wanted,hg,yaZ hd,hy])
      ·exact skip h hI' hR' (by simp [Region.wanted,hg,yaZ hd,hy])
    ·rename_i hn
     refine skip h hI hR ?_
     have:yielded ops a.tmps j = none:=by
      rw [yaZ hd]
      split
      ·rename_i b' hb
       refine absurd ?_ (hn b')
       rw [← hR.get,Array.getD_eq_getD_getElem?,hb]; rfl
      ·rfl
     simp [Region.wanted,hg,this]
def ysS (P:Program) (g:DRec2) (w:World):Prop:=∀ w',Mod [] w w' → (execOp (evA g.f) g.o).run P w' = .ok (.value g.v) w'
theorem ysS.mod {P:Program} {g:DRec2} {w w':World} (h:ysS P g w) (hm:Mod [] w w'):ysS P g w':=fun w'' h' => h w'' (by simpa using hm.trans h')
theorem yz6 {P:Program} {g:DRec2} {w:World} (h:yHx P g w):ysS P g w:=by
 unfold yHx at h
 split at h
 ·rename_i t a hop
  split at h
  ·rename_i a' ha hd
   obtain ⟨v,rfl,hr⟩:=ypQ h hd
   intro w' hm
   simp only [execOp,hop,ha]
   exact ya9 (hr w' hm)
  ·exact h.elim
 ·rename_i t x i ok hop
  intro w' hm
  simp only [execOp,hop]
  exact ya9 (h w' hm)
 ·exact h
def yI9 (g:DRec2) (s:St):Prop:=∀ k off,g.tag = some (k,off) → ∃ t a tb,g.o.op = .load t a ∧ s.mem[k]? = some tb ∧ evA g.f a = .pointer (some ⟨tb.b,off,none⟩)
theorem yl7 {P:Program} {g:DRec2} {s:St} {f0:FA} {wa:World} (h:ysN P g s) (hI:Inv f0 s wa) (hw:g.tag = none → s.w = wa) (ht:yI9 g s):ysS P g wa:=by
 cases htag:g.tag with
 | none =>
  unfold ysN at h
  rw [htag] at h
  simp only at h
  rw [hw htag] at h
  exact yz6 h
 | some x =>
  obtain ⟨k,off⟩:=x
  obtain ⟨t,a,tb,hop,hk,ha⟩:=ht k off htag
  unfold ysN at h
  rw [htag,hop] at h
  simp only [hk] at h
  obtain ⟨v,h1,h2⟩:=ypY h (ypZ (hI.at_ k tb hk) off)
  subst h1
  intro w' hm
  simp only [execOp,hop,ha]
  exact ya9 (h2 w' hm)
theorem ylJ {P:Program} {m:List Nat} {i:Nat} {F:Prop} {s:St}:∀ {D:List DRec2},yI8 P m i D s F → (∀ g ∈ D,ygH m i g.i = false → ysN P g s) ∧ F
 | [],h => ⟨by simp,h⟩
 | g :: r,h => by
  unfold yI8 at h
  split at h
  ·rename_i hd
   obtain ⟨h1,h2⟩:=ylJ h
   refine ⟨fun g' hg' hd' => ?_,h2⟩
   rcases List.mem_cons.1 hg' with rfl | hg'
   ·rw [hd] at hd'; cases hd'
   ·exact h1 g' hg' hd'
  ·obtain ⟨h0,h⟩:=h
   obtain ⟨h1,h2⟩:=ylJ h
   refine ⟨fun g' hg' hd' => ?_,h2⟩
   rcases List.mem_cons.1 hg' with rfl | hg'
   ·exact h0
   ·exact h1 g' hg' hd'
theorem ycU {m:List Nat} {i:Nat} {g:DRec2}:∀ {D:List DRec2},g ∈ yu6 m i D ↔ g ∈ D ∧ ygH m i g.i = false
 | [] => by simp [yu6]
 | x :: r => by
  unfold yu6
  split
  ·rename_i hd
   rw [ycU]
   constructor
   ·exact fun ⟨a,b⟩ => ⟨by simp [a],b⟩
   ·rintro ⟨a,b⟩
    rcases List.mem_cons.1 a with rfl | a
    ·rw [hd] at b; cases b
    ·exact ⟨a,b⟩
  ·rename_i hd
   rw [List.mem_cons,List.mem_cons,ycU]
   constructor
   ·rintro (rfl | ⟨a,b⟩)
    ·exact ⟨.inl rfl,hd⟩
    ·exact ⟨.inr a,b⟩
   ·rintro ⟨rfl | a,b⟩
    ·exact .inl rfl
    ·exact .inr ⟨a,b⟩
theorem ysT {g:DRec2}:∀ {D:List DRec2},yEU D = false → g ∈ D → g.tag ≠ none
 | [],_,h => by cases h
 | x :: r,h,hg => by
  unfold yEU at h
  split at h
  ·cases h
  ·rename_i hx
   rcases List.mem_cons.1 hg with rfl | hg
   ·exact hx
   ·exact ysT h hg
structure Recs2 (P:Program) (ops:Array Oper) (Γ:yhJ) (D:List DRec2) (X:List Nat) (s:St) (w:World):Prop where
 good:∀ g ∈ D,ysS P g w
 tag:∀ g ∈ D,yI9 g s
 all:∀ g ∈ Γ,(∀ o w',ops[g.1]? = some o → ybR P ops o g.2.2 g.2.1 w') ∨ (∃ d ∈ D,d.i = g.1 ∧ ops[d.i]? = some d.o ∧ g.2.1.eval = evA d.f ∧ d.v = g.2.2 ∧ Region.wanted d.o (yielded ops g.2.1.tmps) = true ∧ yjK P d.o = true)
theorem yI9.later {g:DRec2} {s s':St} (h:yI9 g s) (hl:ybT s s'):yI9 g s':=fun k off ht => by
 obtain ⟨t,a,tb,h1,h2,h3⟩:=h k off ht
 obtain ⟨tb',h4,h5⟩:=hl k tb h2
 exact ⟨t,a,tb',h1,h4,by rw [h3,h5]⟩
theorem Recs2.later {P:Program} {ops:Array Oper} {Γ:yhJ} {D:List DRec2} {X:List Nat} {s s':St} {w:World} (h:Recs2 P ops Γ D X s w) (hl:ybT s s'):Recs2 P ops Γ D X s' w :=
 ⟨h.good,fun g hg => (h.tag g hg).later hl,h.all⟩
theorem Recs2.obl {P:Program} {ops:Array Oper} {m:List Nat} {Γ:yhJ} {D:List DRec2} {X:List Nat} {s:St} {w w':World} {i:Nat} (h:Recs2 P ops Γ D X s w) (hs:∀ g ∈ D,ygH m i g.i = false → ysS P g w'):Obl P ops m i Γ w':=by
 intro g hg hd o ho
 rcases h.all g hg with h1 | ⟨d,h1,h2,h3,h4,h5,h6⟩
 ·exact h1 o w' ho
 ·rw [← h2] at ho hd
  rw [h3] at ho; cases ho
  refine .inl ⟨h6.1,fun w'' hm => ?_⟩
  rw [h4,← h5]
  exact hs d h1 hd w'' (hm h6.2)
theorem ysU {P:Program} {m:List Nat} {i:Nat} {D:List DRec2} {s:St} {K:St → Prop} {f0:FA} {v0:Value} {t0:Tag} {wa:World} (h:yHy P m i D s K) (hI:OpI f0 s v0 t0 wa) (ht:∀ g ∈ D,yI9 g s) :
  ∃ s',K s' ∧ OpI f0 s' v0 t0 wa ∧ ybT s s' ∧ ∀ g ∈ D,ygH m i g.i = false → ysS P g wa:=by
 unfold yHy at h
 split at h
 ·obtain ⟨s',h,hI',hw,hmem,_⟩:=yc7 h hI.toInv
  obtain ⟨h1,h2⟩:=ylJ h
  have hl:ybT s s':=ybT.of_mem hmem
  exact ⟨s',h2,⟨hI',by rw [hmem]; exact hI.tag⟩,hl,fun g hg hd => yl7 (h1 g hg hd) hI' (fun _ => hw) ((ht g hg).later hl)⟩
 ·rename_i hn
  obtain ⟨h1,h2⟩:=ylJ h
  exact ⟨s,h2,hI,ybT.refl s,fun g hg hd => yl7 (h1 g hg hd) hI.toInv (fun e => absurd e (ysT hn (ycU.2 ⟨hg,hd⟩))) (ht g hg)⟩
theorem yoG {P:Program} {o:Oper} {f:FA} {s:St} {wa:World} {K:KOp} (h:ye9 P [] o f s K) (hn:yxJ o = true) (hI:Inv f s wa):yjG P (execOp (evA f) o) wa fun v wa' => Mod [] wa wa' ∧ ∃ t s',K v t s' ∧ OpI f s' v t wa' ∧ ybT s s':=by
 have M:∀ c T,Mod [] wa (wa.alloc (.cells c T)):=fun c T => Mod.of_below ((Below.refl _ _).alloc (Nat.le_refl _) _)
 unfold ye9 at h
 split at h
 case h_3 e hop =>
  split at h
  ·rename_i z hz
   obtain ⟨t,s',h1,h2,h3⟩:=ylH (P:=P) h hI
   refine ycS (v:=.pointer (some ⟨wa.heap.size,0,none⟩)) ?_ ⟨M _ _,t,s',h1,h2,h3⟩
   simp only [execOp,hop]
   exact ya9 (yxO hz wa)
  ·exact h.elim
 case h_4 e x hop =>
  obtain ⟨t,s',h1,h2,h3⟩:=ylH (P:=P) h (ybL hI)
  refine ycS (v:=.pointer (some ⟨wa.heap.size,0,none⟩)) ?_ ⟨M _ _,t,s',h1,h2,(ybT.exposed _ _).trans h3⟩
  simp only [execOp,hop]
  exact ya9 (yB5 wa)
 case h_11 =>
  have he:ysE P o = 1:=by
   unfold yxJ at hn
   unfold ysE
   split at hn
   all_goals first
    | (rename_i hop; simp only [hop]; done)
    | (cases hn)
  unfold yBI at h
  rw [he] at h
  obtain ⟨s',h,hI',hw,hmem,_⟩:=yc7 h (ybL hI)
  have hLt:=ybT.flush hmem
  simp only at h
  rw [hw] at h
  exact ybD (ysK h) fun v w' ⟨hM,hk⟩ => ⟨hM,none,_,hk,(yiU hI' rfl fun k tb hk => ⟨tb,hk,rfl,hM.keep0 (hI'.at_ k tb hk)⟩).op,hLt.trans (ybT.of_mem rfl)⟩
 all_goals
  rename_i hop
  simp [yxJ,hop] at hn
theorem ybN {P:Program} {n:Nat} {ops:Array Oper} {m:List Nat} {Q:Act → World → Prop} {K:FA → St → Prop} (hnn:∀ (i:Nat) o,ops[i]? = some o → ∀ k,o.dst = some k → k < n) (hK:∀ f s w a,K f s → Inv f s w → Rel n f a → Q a w) :
  ∀ {L:List Nat} {Γ:yhJ} {D:List DRec2} {X:List Nat} {f:FA} {s:St} {w:World} {a:Act},ygM P ops m L D X K f s → Inv f s w → Rel n f a → Recs2 P ops Γ D X s w → ycZ P ops m Q L Γ a w
 | [],_,_,_,f,s,w,a,h,hI,hR,_ => hK f s w a h hI hR
 | i :: L,Γ,D,X,f,s,w,a,h,hI,hR,hr => by
  unfold ygM at h
  split at h
  ·exact h.elim
  rename_i o ho
  have hn:=hnn i o ho
  have run:∀ {f:FA},yhN P ops m L i o D X f s (fun Γ X f s => ygM P ops m L Γ X K f s) → Inv f s w → Rel n f a → Region.wanted o (yielded ops a.tmps) = true → ycZ P ops m Q (i :: L) Γ a w:=fun {f} h hI hR hw => by
   refine ⟨o,ho,?_⟩
   unfold yhN at h
   split at h
   ·rename_i hs
    try simp only [hs]
    split at h
    case h_2 => exact h.elim
    rename_i he
    obtain ⟨v,t,s',h1,⟨hO,hl⟩,h2⟩:=(ycD h hI).1 he
    refine ⟨v,.inl ⟨hw,by rw [hR.eval]; exact h2⟩,?_⟩
    have hR':=hR.put o.dst hn v t
    have hr':=hr.later hl
    split at h1
    ·rename_i hrd
     refine ybN hnn hK h1 (hO.put o.dst) hR' ⟨fun g hg => ?_,fun g hg => ?_,fun g hg => ?_⟩
     ·rcases List.mem_cons.1 hg with rfl | hg
      ·exact fun w' hm => h2 w' (fun _ => hm)
      ·exact hr'.good g hg
     ·rcases List.mem_cons.1 hg with rfl | hg
      ·intro k off ht
       simp only at ht
       unfold yHz at ht
       split at ht
       ·rename_i t' a hop
        obtain ⟨tb,h3,h4⟩:=hI.tag_of ht
        obtain ⟨tb',h5,h6⟩:=hl k tb h3
        exact ⟨t',a,tb',hop,h5,by rw [h4,h6]⟩
       ·cases ht
      ·exact hr'.tag g hg
     ·rcases List.mem_cons.1 hg with rfl | hg
      ·exact .inr ⟨_,List.mem_cons_self,rfl,ho,hR.eval,rfl,hw,hrd⟩
      ·rcases hr'.all g hg with h3 | ⟨d,h3,h4⟩
       ·exact .inl h3
       ·exact .inr ⟨d,by simp [h3],h4⟩
    ·rename_i hrd
     refine ybN hnn hK h1 (hO.put o.dst) hR' ⟨hr'.good,hr'.tag,fun g hg => ?_⟩
     rcases List.mem_cons.1 hg with rfl | hg
     ·refine .inl fun o' w' ho' => ?_
      simp only at ho'
      rw [ho] at ho'; cases ho'
      exact .inl ⟨hw,fun w'' _ => by rw [hR.eval]; exact h2 w'' (fun h => by rw [hrd] at h; cases h)⟩
     ·exact hr'.all g hg
   ·rename_i hs
    try simp only [hs]
    refine ⟨fun _ => ?_,fun hw' => by rw [hw] at hw'; cases hw'⟩
    rw [hR.eval]
    split at h
    ·rename_i hnw
     refine ybD (yoG h hnw hI) fun v w' ⟨hm,t,s',h1,h2,hl⟩ => ⟨hr.obl fun g hg _ => (hr.good g hg).mod hm,?_⟩
     have hr':=hr.later hl
     exact ybN hnn hK h1 (h2.put o.dst) (hR.put o.dst hn v t) ⟨fun g hg => (hr'.good g hg).mod hm,hr'.tag,fun g hg => hr'.all g (yg5.1 hg).1⟩
    ·refine ybD (ycD h hI).2 fun v w' ⟨t,s',h1,h2,hl⟩ => ?_
     have hr':=hr.later hl
     obtain ⟨s'',h3,h4,hl',h5⟩:=ysU h1 h2 hr'.tag
     refine ⟨hr.obl h5,?_⟩
     have hr'':=hr'.later hl'
     refine ybN hnn hK h3 (h4.put o.dst) (hR.put o.dst hn v t) ⟨fun g hg => h5 g (ycU.1 hg).1 (ycU.1 hg).2,fun g hg => hr''.tag g (ycU.1 hg).1,fun g hg => ?_⟩
     obtain ⟨hg,hd⟩:=yg5.1 hg
     rcases hr''.all g hg with h6 | ⟨d,h6,h7⟩
     ·exact .inl h6
     ·exact .inr ⟨d,ycU.2 ⟨h6,by rw [h7.1]; exact hd⟩,h7⟩
  have skip:∀ {f:FA},ygM P ops m L D X K (ydZ f o.dst undef none) s → Inv f s w → Rel n f a → Region.wanted o (yielded ops a.tmps) = false → ycZ P ops m Q (i :: L) Γ a w:=fun {f} h hI hR hw => by
   have hI':=hI.skip o.dst
   have hR':=hR.put o.dst hn undef none
   refine ⟨o,ho,?_⟩
   split
   ·refine ⟨undef,.inr ⟨hw,rfl⟩,?_⟩
    refine ybN hnn hK h hI' hR' ⟨hr.good,hr.tag,fun g hg => ?_⟩
    rcases List.mem_cons.1 hg with rfl | hg
    ·refine .inl fun o' w' ho' => ?_
     simp only at ho'
     rw [ho] at ho'; cases ho'
     exact .inr ⟨hw,rfl⟩
    ·exact hr.all g hg
   ·exact ⟨(fun hw' => by rw [hw] at hw'; cases hw'),fun _ => ybN hnn hK h hI' hR' ⟨hr.good,hr.tag,hr.all⟩⟩
  split at h
  ·rename_i hg
   exact run h hI hR (by simp [Region.wanted,hg])
  ·rename_i j b hg
   split at h
   ·rename_i hd
    exact skip h hI hR (by simp [Region.wanted,hg,yeN hd])
   ·rename_i d hd
    split at h
    ·rename_i t ht
     have hy:=hR.bool ht
     have hI':=ylF ht hI
     have hR':=ylG ht hR
     cases t
     ·simp only [brB] at h
      split at h
      ·exact run h hI' hR' (by simp [Region.wanted,hg,yaZ hd,hy])
      ·exact skip h hI' hR' (by simp [Region.wanted,hg,yaZ hd,hy])
     ·simp only [brB] at h
      split at h
      ·exact run h hI' hR' (by simp [Region.wanted,hg,yaZ hd,hy])
      ·exact skip h hI' hR' (by simp [Region.wanted,hg,yaZ hd,hy])
    ·rename_i hn
     refine skip h hI hR ?_
     have:yielded ops a.tmps j = none:=by
      rw [yaZ hd]
      split
      ·rename_i b' hb
       refine absurd ?_ (hn b')
       rw [← hR.get,Array.getD_eq_getD_getElem?,hb]; rfl
      ·rfl
     simp [Region.wanted,hg,this]
theorem ycV {P:Program} {n:Nat} {ops:Array Oper} {m:List Nat} {Q:yhJ → Act → World → Prop} {K:List DRec2 → List Nat → FA → St → Prop} (hnn:∀ (i:Nat) o,ops[i]? = some o → ∀ k,o.dst = some k → k < n) (hK:∀ Γ D X f s w a,K D X f s → Inv f s w → Rel n f a → Recs2 P ops Γ D X s w → Q Γ a w) :
  ∀ {L:List Nat} {Γ:yhJ} {D:List DRec2} {X:List Nat} {f:FA} {s:St} {w:World} {a:Act},yjN P ops m L D X K f s → Inv f s w → Rel n f a → Recs2 P ops Γ D X s w → yd7 P ops m Q L Γ a w
 | [],Γ,D,X,f,s,w,a,h,hI,hR,hr => hK Γ D X f s w a h hI hR hr
 | i :: L,Γ,D,X,f,s,w,a,h,hI,hR,hr => by
  unfold yjN at h
  split at h
  ·exact h.elim
  rename_i o ho
  have hn:=hnn i o ho
  have run:∀ {f:FA},yhN P ops m L i o D X f s (fun Γ X f s => yjN P ops m L Γ X K f s) → Inv f s w → Rel n f a → Region.wanted o (yielded ops a.tmps) = true → yd7 P ops m Q (i :: L) Γ a w:=fun {f} h hI hR hw => by
   refine ⟨o,ho,?_⟩
   unfold yhN at h
   split at h
   ·rename_i hs
    try simp only [hs]
    split at h
    case h_2 => exact h.elim
    rename_i he
    obtain ⟨v,t,s',h1,⟨hO,hl⟩,h2⟩:=(ycD h hI).1 he
    refine ⟨v,.inl ⟨hw,by rw [hR.eval]; exact h2⟩,?_⟩
    have hR':=hR.put o.dst hn v t
    have hr':=hr.later hl
    split at h1
    ·rename_i hrd
     refine ycV hnn hK h1 (hO.put o.dst) hR' ⟨fun g hg => ?_,fun g hg => ?_,fun g hg => ?_⟩
     ·rcases List.mem_cons.1 hg with rfl | hg
      ·exact fun w' hm => h2 w' (fun _ => hm)
      ·exact hr'.good g hg
     ·rcases List.mem_cons.1 hg with rfl | hg
      ·intro k off ht
       simp only at ht
       unfold yHz at ht
       split at ht
       ·rename_i t' a hop
        obtain ⟨tb,h3,h4⟩:=hI.tag_of ht
        obtain ⟨tb',h5,h6⟩:=hl k tb h3
        exact ⟨t',a,tb',hop,h5,by rw [h4,h6]⟩
       ·cases ht
      ·exact hr'.tag g hg
     ·rcases List.mem_cons.1 hg with rfl | hg
      ·exact .inr ⟨_,List.mem_cons_self,rfl,ho,hR.eval,rfl,hw,hrd⟩
      ·rcases hr'.all g hg with h3 | ⟨d,h3,h4⟩
       ·exact .inl h3
       ·exact .inr ⟨d,by simp [h3],h4⟩
    ·rename_i hrd
     refine ycV hnn hK h1 (hO.put o.dst) hR' ⟨hr'.good,hr'.tag,fun g hg => ?_⟩
     rcases List.mem_cons.1 hg with rfl | hg
     ·refine .inl fun o' w' ho' => ?_
      simp only at ho'
      rw [ho] at ho'; cases ho'
      exact .inl ⟨hw,fun w'' _ => by rw [hR.eval]; exact h2 w'' (fun h => by rw [hrd] at h; cases h)⟩
     ·exact hr'.all g hg
   ·rename_i hs
    try simp only [hs]
    refine ⟨fun _ => ?_,fun hw' => by rw [hw] at hw'; cases hw'⟩
    rw [hR.eval]
    split at h
    ·rename_i hnw
     refine ybD (yoG h hnw hI) fun v w' ⟨hm,t,s',h1,h2,hl⟩ => ⟨hr.obl fun g hg _ => (hr.good g hg).mod hm,?_⟩
     have hr':=hr.later hl
     exact ycV hnn hK h1 (h2.put o.dst) (hR.put o.dst hn v t) ⟨fun g hg => (hr'.good g hg).mod hm,hr'.tag,fun g hg => hr'.all g (yg5.1 hg).1⟩
    ·refine ybD (ycD h hI).2 fun v w' ⟨t,s',h1,h2,hl⟩ => ?_
     have hr':=hr.later hl
     obtain ⟨s'',h3,h4,hl',h5⟩:=ysU h1 h2 hr'.tag
     refine ⟨hr.obl h5,?_⟩
     have hr'':=hr'.later hl'
     refine ycV hnn hK h3 (h4.put o.dst) (hR.put o.dst hn v t) ⟨fun g hg => h5 g (ycU.1 hg).1 (ycU.1 hg).2,fun g hg => hr''.tag g (ycU.1 hg).1,fun g hg => ?_⟩
     obtain ⟨hg,hd⟩:=yg5.1 hg
     rcases hr''.all g hg with h6 | ⟨d,h6,h7⟩
     ·exact .inl h6
     ·exact .inr ⟨d,ycU.2 ⟨h6,by rw [h7.1]; exact hd⟩,h7⟩
  have skip:∀ {f:FA},yjN P ops m L D X K (ydZ f o.dst undef none) s → Inv f s w → Rel n f a → Region.wanted o (yielded ops a.tmps) = false → yd7 P ops m Q (i :: L) Γ a w:=fun {f} h hI hR hw => by
   have hI':=hI.skip o.dst
   have hR':=hR.put o.dst hn undef none
   refine ⟨o,ho,?_⟩
   split
   ·refine ⟨undef,.inr ⟨hw,rfl⟩,?_⟩
    refine ycV hnn hK h hI' hR' ⟨hr.good,hr.tag,fun g hg => ?_⟩
    rcases List.mem_cons.1 hg with rfl | hg
    ·refine .inl fun o' w' ho' => ?_
     simp only at ho'
     rw [ho] at ho'; cases ho'
     exact .inr ⟨hw,rfl⟩
    ·exact hr.all g hg
   ·exact ⟨(fun hw' => by rw [hw] at hw'; cases hw'),fun _ => ycV hnn hK h hI' hR' ⟨hr.good,hr.tag,hr.all⟩⟩
  split at h
  ·rename_i hg
   exact run h hI hR (by simp [Region.wanted,hg])
  ·rename_i j b hg
   split at h
   ·rename_i hd
    exact skip h hI hR (by simp [Region.wanted,hg,yeN hd])
   ·rename_i d hd
    split at h
    ·rename_i t ht
     have hy:=hR.bool ht
     have hI':=ylF ht hI
     have hR':=ylG ht hR
     cases t
     ·simp only [brB] at h
      split at h
      ·exact run h hI' hR' (by simp [Region.wanted,hg,yaZ hd,hy])
      ·exact skip h hI' hR' (by simp [Region.wanted,hg,yaZ hd,hy])
     ·simp only [brB] at h
      split at h
      ·exact run h hI' hR' (by simp [Region.wanted,hg,yaZ hd,hy])
      ·exact skip h hI' hR' (by simp [Region.wanted,hg,yaZ hd,hy])
    ·rename_i hn
     refine skip h hI hR ?_
     have:yielded ops a.tmps j = none:=by
      rw [yaZ hd]
      split
      ·rename_i b' hb
       refine absurd ?_ (hn b')
       rw [← hR.get,Array.getD_eq_getD_getElem?,hb]; rfl
      ·rfl
     simp [Region.wanted,hg,this]
theorem ysV {p:Nat → Prop}:∀ {l:List Nat},yB0 p l → ∀ i ∈ l,p i
 | [],_,i,hi => by cases hi
 | [j],h,i,hi => by simp at hi; subst hi; exact h
 | j :: k :: r,h,i,hi => by
  have h:p j ∧ yB0 p (k :: r):=h
  rcases List.mem_cons.1 hi with rfl | hi
  ·exact h.1
  ·exact ysV h.2 i hi
theorem yl8 {m N:List Nat} {i:Nat} (hm:yHt m N i = true):∀ {l:List Nat},i ∈ l → i ∈ yz4 m N l
 | j :: r,h => by
  unfold yz4
  rcases List.mem_cons.1 h with rfl | h
  ·rw [hm]; simp
  ·cases yHt m N j
   ·exact yl8 hm h
   ·exact List.mem_cons_of_mem _ (yl8 hm h)
theorem yl9 {P:Program} {n:Nat} {ops:Array Oper} {m:List Nat} {Y:List Nat} {Q:Act → World → Prop} {K:FA → St → Prop} (hnn:∀ (i:Nat) o,ops[i]? = some o → ∀ k,o.dst = some k → k < n) (hK:∀ f s w a,K f s → Inv f s w → Rel n f a → Q a w) :
  ∀ {k:Nat} {N:List Nat} {Γ:yhJ} {D:List DRec2} {X:List Nat} {f:FA} {s:St} {w:World} {a:Act},yHA P ops m Y K k N D X f s → Inv f s w → Rel n f a → Recs2 P ops Γ D X s w → ynV P ops m Q Y k N Γ a w
 | 0,_,_,_,_,_,_,_,_,h,hI,hR,hr => ybN hnn hK h hI hR hr
 | k + 1,N,_,_,_,_,_,_,_,h,hI,hR,hr => fun i hi hm =>
  ycV hnn (fun _ _ _ _ _ _ _ h hI hR hr => yl9 hnn hK h hI hR hr) (ysV (show yB0 _ (yz4 m N N) from h) i (yl8 hm hi)) hI hR hr
theorem yJq (m i:Nat):tB m i = m.testBit i:=by
 have e:Nat.land (Nat.shiftRight m i) 1 = (m >>> i) % 2:=by
  show (m >>> i) &&& 1 = _
  exact Nat.and_one_is_mod _
 unfold tB
 rw [e,Nat.testBit_eq_decide_div_mod_eq,Nat.shiftRight_eq_div_pow]
 cases h:decide (m / 2 ^ i % 2 = 1) with
 | true => simp at h; simp [h]
 | false => simp at h; rw [h]; rfl
theorem yeE {α:Type} {p:α → Bool}:∀ {l:List α},yxM p l = true → ∀ x ∈ l,p x = true
 | [],_,x,hx => by cases hx
 | y :: r,h,x,hx => by
  unfold yxM at h
  split at h
  ·rename_i hy
   rcases List.mem_cons.1 hx with rfl | hx
   ·exact hy
   ·exact yeE h x hx
  ·cases h
theorem yfL (m x i:Nat):(Nat.lor m (Nat.shiftLeft 1 x)).testBit i = (m.testBit i || decide (x = i)):=by
 show (m ||| 1 <<< x).testBit i = _
 rw [Nat.testBit_or,Nat.one_shiftLeft,Nat.testBit_two_pow]
theorem ymA {n:Nat}:∀ {L:List Nat} {m:Nat},yB1 n m L = true → L.Nodup ∧ (∀ x ∈ L,x < n ∧ m.testBit x = false) ∧ ∀ i,i < n → m.testBit i = true ∨ i ∈ L
 | [],m,h => by
  refine ⟨List.nodup_nil,by simp,fun i hi => .inl ?_⟩
  have:m = 1 <<< n - 1:=Nat.eq_of_beq_eq_true h
  rw [this,Nat.one_shiftLeft]
  simp [Nat.testBit_two_pow_sub_one,hi]
 | x :: r,m,h => by
  unfold yB1 at h
  split at h
  ·rename_i h1 h2
   rw [yJq] at h2
   have h1:x < n:=by simpa [Nat.blt_eq] using h1
   obtain ⟨a,b,c⟩:=ymA h
   refine ⟨List.nodup_cons.2 ⟨fun hx => ?_,a⟩,fun y hy => ?_,fun i hi => ?_⟩
   ·have:=(b x hx).2; rw [yfL] at this; simp at this
   ·rcases List.mem_cons.1 hy with rfl | hy
    ·exact ⟨h1,h2⟩
    ·have:=b y hy; rw [yfL] at this; simp at this; exact ⟨this.1,this.2.1⟩
   ·rcases c i hi with h | h
    ·rw [yfL] at h; simp at h
     rcases h with h | rfl
     ·exact .inl h
     ·exact .inr (by simp)
    ·exact .inr (by simp [h])
  ·cases h
theorem yp0 {n x:Nat}:∀ {l:List Edge},yJj n x l = true → ∀ e ∈ l,Region.binds .any e = true → e.on < n ∧ e.on ≠ x
 | [],_,e,he,_ => by cases he
 | e' :: r,h,e,he,hb => by
  unfold yJj at h
  split at h
  ·rename_i hb'
   rcases List.mem_cons.1 he with rfl | he
   ·rw [hb] at hb'; cases hb'
   ·exact yp0 h e he hb
  ·split at h
   ·rename_i h1 h2
    rcases List.mem_cons.1 he with rfl | he
    ·exact ⟨by simpa [Nat.blt_eq] using h1,Nat.ne_of_beq_eq_false h2⟩
    ·exact yp0 h e he hb
   ·cases h
theorem ysW {ops:Array Oper} {x:Nat} (h:yEV ops.size ops x = true):yBQ ops x = true:=by
 unfold yEV at h
 unfold yBQ
 split at h
 ·rename_i o ho
  split at h
  ·cases h
  ·rename_i hs
   have:=yp0 h
   try rw [ho]
   simp only [Bool.and_eq_true,Bool.not_eq_true']
   refine ⟨⟨?_,?_⟩,?_⟩
   ·unfold yiO
    rw [List.any_eq_false]
    intro e he
    by_cases hb:Region.binds .any e = true
    ·simp [hb,(this e he hb).2]
    ·simp [hb]
   ·rw [Array.all_eq_true_iff_forall_mem]
    intro e he
    by_cases hb:Region.binds .any e = true
    ·simp [(this e (by simpa using he) hb).1]
    ·simp [hb]
   ·cases hop:o.op with
    | select a b => exact absurd hop (hs a b)
    | _ => trivial
 ·cases h
theorem ymB:∀ {l:List Nat} {i:Nat},(ynX l).testBit i = true ↔ i ∈ l
 | [],i => by simp [ynX]
 | x :: r,i => by
  simp only [ynX,yfL,Bool.or_eq_true,decide_eq_true_eq,ymB,List.mem_cons]
  constructor
  ·rintro (h | rfl) <;> simp_all
  ·rintro (rfl | h) <;> simp_all
theorem ymC:∀ {l:List Edge} {i:Nat},(ysO l).testBit i = true ↔ ∃ e ∈ l,Region.binds .any e = true ∧ e.on = i
 | [],i => by simp [ysO]
 | e :: r,i => by
  unfold ysO
  split
  ·rename_i hb
   simp only [yfL,Bool.or_eq_true,decide_eq_true_eq,ymC,List.mem_cons]
   constructor
   ·rintro (⟨e',h1,h2⟩ | rfl)
    ·exact ⟨e',.inr h1,h2⟩
    ·exact ⟨e,.inl rfl,hb,rfl⟩
   ·rintro ⟨e',rfl | h1,h2,h3⟩
    ·exact .inr h3
    ·exact .inl ⟨e',h1,h2,h3⟩
  ·rename_i hb
   rw [ymC]
   constructor
   ·rintro ⟨e',h1,h2⟩; exact ⟨e',by simp [h1],h2⟩
   ·rintro ⟨e',h1,h2⟩
    rcases List.mem_cons.1 h1 with rfl | h1
    ·rw [hb] at h2; cases h2.1
    ·exact ⟨e',h1,h2⟩
theorem ysX:∀ {l:List OR} {i:Nat},(yB2 l).testBit i = true ↔ ∃ x ∈ l,x.i = i
 | [],i => by simp [yB2]
 | x :: r,i => by
  simp only [yB2,yfL,Bool.or_eq_true,decide_eq_true_eq,ysX,List.mem_cons]
  constructor
  ·rintro (⟨y,h1,h2⟩ | h)
   ·exact ⟨y,.inr h1,h2⟩
   ·exact ⟨x,.inl rfl,h⟩
  ·rintro ⟨y,rfl | h1,h2⟩
   ·exact .inr h2
   ·exact .inl ⟨y,h1,h2⟩
theorem ymD {a b:Nat} (h:Nat.beq (Nat.land a b) 0 = true) {i:Nat} (ha:a.testBit i = true):b.testBit i = false:=by
 have h:=Nat.eq_of_beq_eq_true h
 have e:(a &&& b).testBit i = false:=by
  show (Nat.land a b).testBit i = false
  rw [h]; simp
 rw [Nat.testBit_and,ha] at e
 simpa using e
theorem yp1 {d:Option Tmp} {i:Nat}:(yF6 d).testBit i = true ↔ d = some i:=by
 cases d with
 | none => simp [yF6]
 | some d =>
  show (1 <<< d).testBit i = true ↔ _
  rw [Nat.one_shiftLeft,Nat.testBit_two_pow]
  simp
def yE1 (P:Program) (ops:Array Oper) (m:List Nat) (x:OR):Prop:=∃ o,ops[x.i]? = some o ∧ x.em = ysO o.after.toList ∧ x.cm = m.getD x.i 0 ∧ x.st = ycA P o ∧ x.rm = ynX (o.looksAt ops) ∧ x.dm = yF6 o.dst
theorem ymE {P:Program} {ops:Array Oper} {m:List Nat}:∀ {L:List Nat} {k:List OR → Bool},ypW P ops m L k = true → ∃ l,k l = true ∧ l.map (·.i) = L ∧ ∀ x ∈ l,yE1 P ops m x
 | [],k,h => ⟨[],h,rfl,by simp⟩
 | i :: r,k,h => by
  unfold ypW at h
  split at h
  ·cases h
  rename_i o ho
  split at h
  all_goals
   rename_i hs
   obtain ⟨l,h1,h2,h3⟩:=ymE h
   refine ⟨_,h1,by simp [h2],fun x hx => ?_⟩
   rcases List.mem_cons.1 hx with rfl | hx
   ·exact ⟨o,ho,rfl,rfl,hs.symm,rfl,rfl⟩
   ·exact h3 x hx
theorem yCc {P:Program} {ops:Array Oper} {m:List Nat} {x y:OR} (hx:yE1 P ops m x) (hy:yE1 P ops m y) (h:yHB x y = true) {ox oy:Oper} (hox:ops[x.i]? = some ox) (hoy:ops[y.i]? = some oy):(ycA P ox || ygH m y.i x.i) = true ∧ (ox.apart ops oy || ygH m y.i x.i) = true:=by
 obtain ⟨ox',e0,e1,e2,e3,e4,e5⟩:=hx
 obtain ⟨oy',f0,f1,f2,f3,f4,f5⟩:=hy
 rw [hox] at e0; cases e0
 rw [hoy] at f0; cases f0
 unfold yHB at h
 split at h
 ·rename_i hd
  rw [yJq,f2] at hd
  have:ygH m y.i x.i = true:=hd
  simp [this]
 ·split at h
  ·rename_i hs h1 h2
   rw [e3] at hs
   rw [e5,f4,f5] at h1
   rw [f5,e4] at h2
   have ap:ox.apart ops oy = true:=by
    unfold Oper.apart
    rw [Bool.and_eq_true]
    constructor
    ·cases hd:ox.dst with
     | none => rfl
     | some d =>
      have:=ymD h1 (i:=d) (yp1.2 hd)
      have e:(Nat.lor (ynX (oy.looksAt ops)) (yF6 oy.dst)).testBit d = ((ynX (oy.looksAt ops)).testBit d || (yF6 oy.dst).testBit d):=by
       show (ynX (oy.looksAt ops) ||| yF6 oy.dst).testBit d = _
       rw [Nat.testBit_or]
      rw [e,Bool.or_eq_false_iff] at this
      have n1:d ∉ oy.looksAt ops:=fun hm => by rw [ymB.2 hm] at this; cases this.1
      have n2:oy.dst ≠ some d:=fun hm => by rw [yp1.2 hm] at this; cases this.2
      simp [n1,n2]
    ·cases hd:oy.dst with
     | none => rfl
     | some d =>
      have:=ymD h2 (i:=d) (yp1.2 hd)
      have n1:d ∉ ox.looksAt ops:=fun hm => by rw [ymB.2 hm] at this; cases this
      simp [n1]
   simp [hs,ap]
  ·cases h
theorem yjQ {P:Program} {ops:Array Oper} {m:List Nat}:∀ {l:List OR},ykV l = true → (∀ x ∈ l,yE1 P ops m x) → yb3 P ops m (l.map (·.i)) = true
 | [],_,_ => rfl
 | x :: r,h,hl => by
  unfold ykV at h
  split at h
  ·rename_i h1 h2
   have hx:=hl x (by simp)
   have ih:=yjQ h fun y hy => hl y (by simp [hy])
   simp only [List.map_cons,yb3,Bool.and_eq_true,List.all_eq_true]
   refine ⟨fun i hi => ?_,ih⟩
   obtain ⟨y,hy,rfl⟩:=List.mem_map.1 hi
   have hyr:=hl y (by simp [hy])
   obtain ⟨ox,e0,e1,_⟩:=id hx
   obtain ⟨oy,f0,_⟩:=id hyr
   obtain ⟨p1,p2⟩:=yCc hx hyr (yeE h2 y hy) e0 f0
   have ne:yiO ox y.i = false:=by
    rw [Bool.eq_false_iff]
    intro he
    unfold yiO at he
    rw [List.any_eq_true] at he
    obtain ⟨e,hm,he⟩:=he
    simp only [Bool.and_eq_true,beq_iff_eq] at he
    have:=ymD h1 (i:=y.i) (by rw [e1]; exact ymC.2 ⟨e,hm,he.1,he.2⟩)
    rw [ysX.2 ⟨y,hy,rfl⟩] at this
    cases this
   unfold yhI
   rw [e0,f0]
   simp only [ne,Bool.not_false,Bool.true_and,Bool.and_eq_true]
   exact ⟨p1,p2⟩
  ·cases h
theorem ysY {P:Program} {ops:Array Oper} {L:List Nat} (h:yEW P ops L = true):yI6 P ops L = true:=by
 unfold yEW at h
 split at h
 ·rename_i h1 h2
  split at h
  ·rename_i h3
   obtain ⟨a,b,c⟩:=ymA h2
   have hb:∀ x ∈ L,x < ops.size:=fun x hx => (b x hx).1
   simp only [yI6,yz1,Bool.and_eq_true,List.all_eq_true,decide_eq_true_eq,beq_iff_eq]
   refine ⟨⟨⟨⟨⟨Nat.eq_of_beq_eq_true h1,hb⟩,a⟩,fun x hx => ?_⟩,?_⟩,fun x hx => ysW (yeE h3 x hx)⟩
   ·rcases c x (by simpa using hx) with h | h
    ·simp at h
    ·simpa using h
   ·obtain ⟨l,e1,e2,e3⟩:=ymE h
    rw [← e2]
    exact yjQ e1 e3
  ·cases h
 ·cases h
theorem yvD {i k o:Nat}:∀ {l:List (Nat × Nat × Nat)},tgA l i = some (k,o) → (i,k,o) ∈ l
 | [],h => by cases h
 | (j,k',o') :: r,h => by
  unfold tgA at h
  split at h
  ·rename_i hb
   have hb:=Nat.eq_of_beq_eq_true hb
   subst hb; cases h; simp
  ·exact List.mem_cons_of_mem _ (yvD h)
theorem yxP {f:FA} {n:Nat}:∀ {l:List (Nat × Nat × Nat)},yJm f n l = true → ∀ i k o,(i,k,o) ∈ l → f.tag i = some (k,o) ∧ k < n
 | [],_,i,k,o,h => by cases h
 | (j,k',o') :: r,hc,i,k,o,h => by
  unfold yJm at hc
  split at hc
  ·rename_i k2 o2 ht
   split at hc
   ·rename_i h1 h2 h3
    have h1:=Nat.eq_of_beq_eq_true h1
    have h2:=Nat.eq_of_beq_eq_true h2
    subst h1; subst h2
    rcases List.mem_cons.1 h with h | h
    ·cases h; exact ⟨ht,by simpa [Nat.blt_eq] using h3⟩
    ·exact yxP hc i k o h
   ·cases hc
  ·cases hc
theorem yp2 {tg:List (Nat × Nat × Nat)} {js g:Nat → Value} (hj:∀ i,js i = g i):∀ (live:List Nat) (i:Nat),lkV (mkU tg live (live.map g)) js i = g i
 | [],i => hj i
 | j :: r,i => by
  simp only [List.map_cons,mkU,lkV]
  split
  ·rename_i hb; have:=Nat.eq_of_beq_eq_true hb; subst this; rfl
  ·exact yp2 hj r i
theorem yvE {tg:List (Nat × Nat × Nat)}:∀ {live:List Nat} {vals:List Value} {i k o:Nat},lkT (mkU tg live vals) i = some (k,o) → tgA tg i = some (k,o)
 | [],vals,i,k,o,h => by cases vals <;> cases h
 | j :: r,[],i,k,o,h => by cases h
 | j :: r,v :: vs,i,k,o,h => by
  simp only [mkU,lkT] at h
  split at h
  ·rename_i hb; have:=Nat.eq_of_beq_eq_true hb; subst this; exact h
  ·exact yvE h
theorem yiW (f:FA):∀ l:List Nat,yiS f l = l.map f.get
 | [] => rfl
 | i :: r => by simp [yiS,yiW f r]
theorem yE2 {a:LA} {f:FA} {s:St} {wa:World} (hI:Inv f s wa) (hT:yJm f a.n a.tg = true):Inv ⟨mkU a.tg a.live (yiS f a.live),f.get⟩ ⟨s.mem.take a.n,wa,[],[],true⟩ wa:=by
 have hg:∀ i,(⟨mkU a.tg a.live (yiS f a.live),f.get⟩:FA).get i = f.get i:=fun i => by
  rw [yiW]
  exact yp2 (fun _ => rfl) a.live i
 have get:∀ (k:Nat) tb,(s.mem.take a.n)[k]? = some tb → s.mem[k]? = some tb:=fun k tb h => by
  rw [List.getElem?_take] at h
  split at h
  ·exact h
  ·cases h
 refine ⟨fun k tb hk => hI.at_ k tb (get k tb hk),fun i j x y hx hy => hI.nd i j x y (get i x hx) (get j y hy),fun i k off hi => ?_,(Mod.refl wa).less (by simp),by simp,⟨by simp,by simp⟩,fun _ => rfl⟩
 obtain ⟨h1,hn⟩:=yxP hT i k off (yvD (yvE hi))
 obtain ⟨tb,h2,h3⟩:=hI.tags i k off h1
 exact ⟨tb,by rw [List.getElem?_take,if_pos hn]; exact h2,by rw [hg]; exact h3⟩
theorem yp3 {a:LA} {f:FA} {n:Nat} {b:Act} (hR:Rel n f b):Rel n ⟨mkU a.tg a.live (yiS f a.live),f.get⟩ b :=
 ⟨fun i => by rw [hR.get,yiW]; exact (yp2 (fun _ => rfl) a.live i).symm,hR.defers,hR.size⟩
theorem ysZ {f:FA} {mem:List TB}:∀ {tg:List (Nat × Nat × Nat)} {c:Nat} {seen:List Nat} {F:List TB → Prop},yB3 f mem c seen tg F → ∃ (m:List TB) (ks:List Nat),F m ∧ ks.Nodup ∧ (∀ x ∈ ks,x ∉ seen) ∧ (∀ (j:Nat) tb,m[j]? = some tb → ∃ k':Nat,ks[j]? = some k' ∧ mem[k']? = some tb) ∧
   ∀ (j:Nat) i k o,tg[j]? = some (i,k,o) → k = c + j ∧ ∃ k' tb,f.tag i = some (k',o) ∧ mem[k']? = some tb ∧ m[j]? = some tb
 | [],c,seen,F,h => ⟨[],[],h,List.nodup_nil,by simp,by simp,by simp⟩
 | (i,k,o) :: r,c,seen,F,h => by
  unfold yB3 at h
  split at h
  ·rename_i k' o' ht
   split at h
   ·rename_i tb h1 h2 h3 h4
    obtain ⟨m,ks,hF,hn,hs,hm,hg⟩:=ysZ h
    have h1:=Nat.eq_of_beq_eq_true h1
    have h2:=Nat.eq_of_beq_eq_true h2
    subst h1 h2
    have hk':k' ∉ seen:=fun hx => by rw [ylI.2 hx] at h3; cases h3
    refine ⟨tb :: m,k' :: ks,hF,List.nodup_cons.2 ⟨fun hx => hs k' hx (by simp),hn⟩,fun x hx => ?_,fun j tb' hj => ?_,fun j i' k2 o2 hj => ?_⟩
    ·rcases List.mem_cons.1 hx with rfl | hx
     ·exact hk'
     ·exact fun hx' => hs x hx (by simp [hx'])
    ·cases j with
     | zero => simp at hj; subst hj; exact ⟨k',rfl,h4⟩
     | succ j => obtain ⟨k2,e1,e2⟩:=hm j tb' (by simpa using hj); exact ⟨k2,by simpa using e1,e2⟩
    ·cases j with
     | zero =>
      simp at hj
      obtain ⟨rfl,rfl,rfl⟩:=hj
      exact ⟨rfl,k',tb,ht,h4,rfl⟩
     | succ j =>
      obtain ⟨e1,k3,tb3,e2,e3,e4⟩:=hg j i' k2 o2 (by simpa using hj)
      exact ⟨by omega,k3,tb3,e2,e3,by simpa using e4⟩
   ·exact h.elim
  ·exact h.elim
theorem yE3 {a:LA} {f:FA} {s:St} {wa:World} {F:List TB → Prop} (hI:Inv f s wa) (h:yB3 f s.mem 0 [] a.tg F):∃ mem,F mem ∧ Inv ⟨mkU a.tg a.live (yiS f a.live),f.get⟩ ⟨mem,wa,[],[],true⟩ wa:=by
 have hgt:∀ i,(⟨mkU a.tg a.live (yiS f a.live),f.get⟩:FA).get i = f.get i:=fun i => by
  rw [yiW]
  exact yp2 (fun _ => rfl) a.live i
 obtain ⟨m,ks,hF,hn,_,hm,hg⟩:=ysZ h
 refine ⟨m,hF,fun k tb hk => ?_,fun i j x y hx hy hb => ?_,fun i k off hi => ?_,(Mod.refl wa).less (by simp),by simp,⟨by simp,by simp⟩,fun _ => rfl⟩
 ·obtain ⟨k',_,h2⟩:=hm k tb hk
  exact hI.at_ k' tb h2
 ·obtain ⟨k1,h1,h2⟩:=hm i x hx
  obtain ⟨k2,h3,h4⟩:=hm j y hy
  have e:=hI.nd k1 k2 x y h2 h4 hb
  subst e
  obtain ⟨l1,e1⟩:=List.getElem?_eq_some_iff.1 h1
  obtain ⟨l2,e2⟩:=List.getElem?_eq_some_iff.1 h3
  rcases Nat.lt_trichotomy i j with h | h | h
  ·exact absurd (e1.trans e2.symm) (List.pairwise_iff_getElem.1 hn i j l1 l2 h)
  ·exact h
  ·exact absurd (e2.trans e1.symm) (List.pairwise_iff_getElem.1 hn j i l2 l1 h)
 ·obtain ⟨j,hj,he⟩:=List.getElem_of_mem (yvD (yvE hi))
  obtain ⟨e1,k',tb,e2,e3,e4⟩:=hg j i k off (by rw [List.getElem?_eq_getElem hj,he])
  have e1:k = j:=by omega
  subst e1
  obtain ⟨tb',h2,h3⟩:=hI.tags i k' off e2
  rw [e3] at h2; cases h2
  exact ⟨tb,e4,by rw [hgt]; exact h3⟩
theorem yp4 {a:LA} {K:List Value → List TB → World → Prop} {f:FA} {s:St} {wa:World} (h:atA a K f s) (hI:Inv f s wa) :
  ∃ mem,K (yiS f a.live) mem wa ∧ Inv ⟨mkU a.tg a.live (yiS f a.live),f.get⟩ ⟨mem,wa,[],[],true⟩ wa:=by
 unfold atA at h
 split at h
 ·rename_i hT
  obtain ⟨s',h,hI',hw,hmem,_⟩:=yc7 h (ybL hI)
  rw [hw] at h
  exact ⟨_,h,yE2 hI' hT⟩
 ·obtain ⟨s',h,hI',hw,hmem,_⟩:=yc7 h (ybL hI)
  rw [hw] at h
  exact yE3 hI' h
theorem yxQ {ops:Array Oper} {m R:List Nat}:∀ {X:List Nat},yMd ops m R X = true → ∀ x ∈ X,∀ y ∈ R,yk9 ops x y = true ∧ ygH m y x = true
 | [],_,x,hx => by cases hx
 | z :: X,h,x,hx => by
  unfold yMd at h
  split at h
  ·rename_i ha
   rcases List.mem_cons.1 hx with rfl | hx
   ·intro y hy
    have:=yeE ha y hy
    split at this
    ·rename_i he; exact ⟨he,this⟩
    ·cases this
   ·exact yxQ h x hx
  ·cases h
theorem yjR {P:Program} {ops:Array Oper} {m L:List Nat} (h:ypW P ops m L ykV = true):yb3 P ops m L = true:=by
 obtain ⟨l,e1,e2,e3⟩:=ymE h
 rw [← e2]
 exact yjQ e1 e3
theorem yxR {ops:Array Oper}:∀ {N:List Nat},yMe ops N = true → N.Pairwise (fun i j => yk9 ops i j = true)
 | [],_ => List.Pairwise.nil
 | i :: r,h => by
  unfold yMe at h
  split at h
  ·rename_i ha
   exact List.pairwise_cons.2 ⟨fun j hj => yeE ha j hj,yxR h⟩
  ·cases h
theorem yvF {P:Program} (hm:P.follows .mixedOrders = true) {id:Nat} {ops:Array Oper} {Q:Exit → Act → World → Prop} {act:Act} {w:World} {X0 X N Y:List Nat} (hL:yHC P ops X0 X N Y = true)
  (h:∀ w1,Mod [] w w1 → ycZ P ops (clo ops) (fun act w => yd7 P ops (clo ops) (fun Γ a w => ynV P ops (clo ops) (Q .normal) Y N.length N Γ a w) X [] act w) X0 [] act w1):(Code.region id ops true).wp P Q act w:=by
 unfold yHC yJk at hL
 split at hL
 case h_2 => cases hL
 rename_i h1 h2 h3
 split at hL
 case h_2 => cases hL
 rename_i h4 h5 h6
 split at hL
 case h_2 => cases hL
 rename_i h7 h8 h9
 have hdom:=yxQ hL
 obtain ⟨pa,pb,pc⟩:=ymA h2
 have hlen:=Nat.eq_of_beq_eq_true h1
 have hmem:∀ i,i < ops.size → i ∈ X0 ++ (X ++ (N ++ Y)):=fun i hi => by
  rcases pc i hi with h | h
  ·simp at h
  ·exact h
 have h0:Left ops (Array.replicate ops.size false) (X0 ++ (X ++ (N ++ Y))):=by
  refine ⟨by simp,pa,fun i hi => ?_,fun x hx => (pb x hx).1,fun x hx => ysW (yeE h3 x hx),fun x o hx ho => ?_⟩
  ·have:=hmem i hi
   have e:(Array.replicate ops.size false).getD i true = false:=by simp [hi]
   exact ⟨fun _ => this,fun _ => e⟩
  ·exact absurd (hmem x (Array.getElem?_eq_some_iff.1 ho).1) hx
 refine wp_region_any hm ?_
 have hn:ops.size = X0.length + (X ++ (N ++ Y)).length:=by rw [← hlen,List.length_append]
 rw [hn]
 rw [hn] at h0
 refine yBW X0.length rfl h0 (yjR h4) hdom ?_
 refine yg6 (fun a' w' g listed hl => ?_) (h _ (Mod.drewN w 1))
 exact yz3 _ rfl hl (yjR h5) (fun i hi => yjR (yeE h6 i hi)) (yeE h7) (yxR h8) (fun y hy i hi => yeE (yeE h9 y hy) i hi) g
theorem yz7 {P:Program} (hm:P.follows .mixedOrders = true) (an:List LA) (n:Nat) (root:Code):∀ (k:Nat) (c:Code) (rp:List Nat) {Q3:Kx3} {Q:Exit → Act → World → Prop} {f:FA} {s:St} {w:World} {a:Act},yiT root rp = c → yeZ n c = true → yz5 P an (dnF P an root k) rp c Q3 f s → Inv f s w → Rel n f a →
  (∀ e f s w a,Q3 e f s → Inv f s w → Rel n f a → Q e a w) → c.wp P Q a w:=by
 have other:∀ (c:Code) (rp:List Nat) {Q3:Kx3} {Q:Exit → Act → World → Prop} {f:FA} {s:St} {w:World} {a:Act},yHD P an rp c Q3 f s → Inv f s w → Rel n f a → (∀ e f s w a,Q3 e f s → Inv f s w → Rel n f a → Q e a w) → c.wp P Q a w:=by
  intro c rp Q3 Q f s w a h hI hR hQ
  unfold yHD at h
  split at h
  case h_2 => exact h.elim
  rename_i l _
  obtain ⟨mem,h,hI'⟩:=yp4 h hI
  have e:∀ l:List Nat,yEY a l = yiS f l:=fun l => by
   induction l with
   | nil => rfl
   | cons i r ih => simp [yEY,yiS,ih,hR.get]
  have h:=h n a hR.size hR.defers (e _)
  refine Code.wp_mono (fun e a w' ⟨hd,hs,hq⟩ => hQ _ _ _ _ _ hq ⟨by simp,by simp,fun i k off ht => by simp [FA.tag,lkT] at ht,(Mod.refl w').less (by simp),by simp,⟨by simp,by simp⟩,fun _ => rfl⟩ ⟨fun i => rfl,hd,hs⟩) h
 intro k
 induction k using Nat.strongRecOn with
 | _ k ihk =>
 have deep:∀ (c:Code) (rp:List Nat) {Q3:Kx3} {Q:Exit → Act → World → Prop} {f:FA} {s:St} {w:World} {a:Act},yiT root rp = c → yeZ n c = true → dnF P an root k rp Q3 f s → Inv f s w → Rel n f a →
   (∀ e f s w a,Q3 e f s → Inv f s w → Rel n f a → Q e a w) → c.wp P Q a w:=by
  intro c rp Q3 Q f s w a hc hd h hI hR hQ
  cases k with
  | zero => exact False.elim h
  | succ k =>
   have h:yz5 P an (dnF P an root k) rp (yiT root rp) Q3 f s:=h
   rw [hc] at h
   exact ihk k (Nat.lt_succ_self k) c rp hc hd h hI hR hQ
 intro c
 induction c with
 | skip => intro rp Q3 Q f s w a hc hd h hI hR hQ; exact wp_skip (hQ _ _ _ _ _ h hI hR)
 | region id ops draw =>
  intro rp Q3 Q f s w a hc hd h hI hR hQ
  have hdm:=yiV (by simpa [yeZ] using hd:yEZ n ops.toList = true)
  cases draw
  ·unfold yz5 at h
   simp only at h
   split at h
   ·split at h
    ·obtain ⟨g,_,h⟩:=yxL h
     exact wp_region_list (yfG (fun f s w a h hI hR => hQ _ _ _ _ _ h hI hR) hdm h hI hR)
    ·exact other _ _ h hI hR hQ
   ·exact wp_region_list (yf1 (fun f s w a h hI hR => hQ _ _ _ _ _ h hI hR) hdm h hI hR)
  ·unfold yz5 at h
   simp only at h
   have dirt:∀ {f:FA} {s:St} {w w1:World},Inv f s w → Mod [] w w1 → Inv f (dirty s) w1:=fun {f s w w1} hI hM => by
    obtain ⟨mem,ws,S,N,cl⟩:=s
    exact ⟨fun k tb hk => hM.keep0 (hI.at_ k tb hk),hI.nd,hI.tags,by simpa [dirty] using hI.mod.trans hM,hI.new,hI.nn,by simp [dirty]⟩
   have alt:∀ {f:FA} {s:St} {w:World} {a:Act},yMf P an rp id ops Q3 f s → Inv f s w → Rel n f a → (Code.region id ops true).wp P Q a w:=fun {f s w a} h hI hR => by
    unfold yMf at h
    split at h
    ·split at h
     ·split at h
      ·rename_i hL
       refine yvF hm hL fun w1 h1 => ?_
       have hnn:∀ (i:Nat) o,ops[i]? = some o → ∀ k,o.dst = some k → k < n:=fun i o ho => hdm o (by rw [← Array.getElem?_toList] at ho; exact List.mem_of_getElem? ho)
       refine ybN hnn (fun f s w a g hI hR => ?_) h (dirt hI h1) hR ⟨by simp,by simp,by simp⟩
       exact ycV hnn (fun Γ D X f s w a g hI hR hr => yl9 hnn (fun f s w a h hI hR => hQ _ _ _ _ _ h hI hR) g hI hR hr) g hI hR ⟨by simp,by simp,by simp⟩
      ·exact other _ _ h hI hR hQ
     ·exact other _ _ h hI hR hQ
    ·exact other _ _ h hI hR hQ
   split at h
   ·rename_i hq
    simp only [Bool.and_eq_true] at hq
    obtain ⟨hq2,hq1⟩:=hq
    have hq2:∀ o ∈ ops.toList,ycA P o = true ∧ Nat.beq (ysE P o) 0 = true:=fun o ho => by simpa only [Bool.and_eq_true] using yeE hq2 o ho
    unfold ypR at hq1
    simp only [Bool.and_eq_true] at hq1
    refine wp_region_quiet (C:=fun w' => Mod [] w w') hm hq1.2 (Mod.drewN w 1) ?_
    exact yd0 (fun f s a h hI hR w' hw' => hQ _ _ _ _ _ h (dirt hI hw') hR) hdm (fun o ho => Nat.eq_of_beq_eq_true (hq2 o ho).2) h hI hR
   ·split at h
    ·rename_i hL
     have hL:=ysY hL
     exact ysJ hm hL fun w1 h1 => ybN (fun i o ho => hdm o (by rw [← Array.getElem?_toList] at ho; exact List.mem_of_getElem? ho)) (fun f s w a h hI hR => hQ _ _ _ _ _ h hI hR) h (dirt hI h1) hR ⟨by simp,by simp,by simp⟩
    ·split at h
     ·exact alt h hI hR
     ·split at h
      ·rename_i hL
       obtain ⟨hA,hB⟩:=h
       exact ypU hm hL (fun w1 h1 => ybN (fun i o ho => hdm o (by rw [← Array.getElem?_toList] at ho; exact List.mem_of_getElem? ho)) (fun f s w a h hI hR => hQ _ _ _ _ _ h hI hR) hA (dirt hI h1) hR ⟨by simp,by simp,by simp⟩)
        fun w1 h1 => ybN (fun i o ho => hdm o (by rw [← Array.getElem?_toList] at ho; exact List.mem_of_getElem? ho)) (fun f s w a h hI hR => hQ _ _ _ _ _ h hI hR) hB (dirt hI h1) hR ⟨by simp,by simp,by simp⟩
      ·exact alt h hI hR
 | seq c1 c2 ih1 ih2 =>
  intro rp Q3 Q f s w a hc hd h hI hR hQ
  have hd1:yeZ n c1 = true:=by unfold yeZ at hd; split at hd <;> simp_all
  have hd2:yeZ n c2 = true:=by unfold yeZ at hd; split at hd <;> simp_all
  unfold yz5 at h
  have hc1:yiT root (0 :: rp) = c1:=by simp only [yiT,hc]; rfl
  have hc2:yiT root (1 :: rp) = c2:=by simp only [yiT,hc]; rfl
  refine wp_seq (ih1 _ hc1 hd1 h hI hR fun e f s w a hq hI hR => ?_)
  unfold yMp at hq
  cases hx:ysQ (1 :: rp) an with
  | none =>
   rw [hx] at hq
   cases e
   case normal => exact deep _ _ hc2 hd2 hq hI hR hQ
   all_goals exact hQ _ _ _ _ _ hq hI hR
  | some la =>
   rw [hx] at hq
   cases e
   case normal =>
    change atA _ _ _ _ at hq
    obtain ⟨mem,hc,hI'⟩:=yp4 hq hI
    obtain ⟨J,h0,hr⟩:=hc
    obtain ⟨_,_,hh⟩:=hr _ _ _ h0
    exact deep _ _ hc2 hd2 (yfJ (hh f.get) hI'.at_) hI' (yp3 hR) hQ
   all_goals exact hQ _ _ _ _ _ hq hI hR
 | cond c a b iha ihb =>
  intro rp Q3 Q f s w act hc hd h hI hR hQ
  have hd1:yeZ n a = true:=by unfold yeZ at hd; split at hd <;> simp_all
  have hd2:yeZ n b = true:=by unfold yeZ at hd; split at hd <;> simp_all
  unfold yz5 at h
  split at h
  ·rename_i t ht
   refine wp_cond (t:=t) (by rw [hR.eval]; exact ht) ?_
   cases t
   ·exact ihb _ (by simp only [yiT,hc]; rfl) hd2 h hI hR hQ
   ·exact iha _ (by simp only [yiT,hc]; rfl) hd1 h hI hR hQ
  ·exact h.elim
 | block id c ih =>
  intro rp Q3 Q f s w a hc hd h hI hR hQ
  unfold yz5 at h
  refine wp_block (ih _ (by simp only [yiT,hc]; rfl) (by simpa [yeZ] using hd) h hI hR fun e f s w a hq hI hR => ?_)
  cases e
  case exit i =>
   simp only [yu7] at hq
   show if i = id then Q .normal a w else Q (.exit i) a w
   split at hq
   ·rename_i hi; rw [if_pos (by simpa using hi)]; exact hQ _ _ _ _ _ hq hI hR
   ·rename_i hi; rw [if_neg (by simpa using hi)]; exact hQ _ _ _ _ _ hq hI hR
  all_goals exact hQ _ _ _ _ _ hq hI hR
 | loop c ih =>
  intro rp Q3 Q f s w a hc hd h hI hR hQ
  have hd1:yeZ n c = true:=by simpa [yeZ] using hd
  unfold yz5 at h
  split at h
  case h_2 => exact h.elim
  rename_i la _
  obtain ⟨mem,hl,hI1⟩:=yp4 h hI
  obtain ⟨I,m,h0,hr⟩:=hl
  let J:Nat → Act → World → Prop:=fun m a w => ∃ vals js mem,I m vals mem w ∧ Inv ⟨mkU la.tg la.live vals,js⟩ ⟨mem,w,[],[],true⟩ w ∧ Rel n ⟨mkU la.tg la.live vals,js⟩ a
  have hJ0:J m a w:=⟨_,_,_,h0,hI1,yp3 hR⟩
  have hD:∀ m a w,J m a w → c.wp P (Exit.then (fun a' w' => ∃ m',m' < m ∧ J m' a' w') Q) a w:=by
   rintro m a w ⟨vals,js,mem,hi,hI,hR⟩
   obtain ⟨_,_,hf⟩:=hr m vals mem w hi
   refine deep c _ (by simp only [yiT,hc]; rfl) hd1 (yfJ (hf js) hI.at_) hI hR fun e f' s' w' a' hq hI' hR' => ?_
   cases e
   case normal =>
    have hq:atA la (fun vals' mem' w' => ∃ m',m' < m ∧ I m' vals' mem' w') f' s':=hq
    obtain ⟨mem',hk,hI2⟩:=yp4 hq hI'
    obtain ⟨m',hlt,hi'⟩:=hk
    exact ⟨m',hlt,_,_,_,hi',hI2,yp3 hR'⟩
   all_goals exact hQ _ _ _ _ _ hq hI' hR'
  classical
  let μ:Act → World → Nat:=fun a w => if h:∃ m,J m a w then Classical.choose (least h) else 0
  refine wp_loop (fun a w => ∃ m,J m a w) μ ⟨m,hJ0⟩ fun a w hI => ?_
  have e1:μ a w = Classical.choose (least hI):=dif_pos hI
  refine Code.wp_mono (fun e a' w' hq => ?_) (hD _ _ _ (Classical.choose_spec (least hI)).1)
  cases e
  case normal =>
   obtain ⟨m',h1,h2⟩:=hq
   have h3:∃ m,J m a' w':=⟨m',h2⟩
   have e2:μ a' w' = Classical.choose (least h3):=dif_pos h3
   refine ⟨h3,?_⟩
   rw [e1,e2]
   exact Nat.lt_of_le_of_lt ((Classical.choose_spec (least h3)).2 m' h2) h1
  all_goals exact hq
 | exit id => intro rp Q3 Q f s w a hc hd h hI hR hQ; exact wp_exit (hQ _ _ _ _ _ h hI hR)
 | ret => intro rp Q3 Q f s w a hc hd h hI hR hQ; exact wp_ret (hQ _ _ _ _ _ h hI hR)
 | label l => intro rp Q3 Q f s w a hc hd h hI hR hQ; exact wp_label (hQ _ _ _ _ _ h hI hR)
 | _ => intro rp Q3 Q f s w a hc hd h hI hR hQ; exact other _ _ h hI hR hQ
theorem yz8 {P:Program} {n:Nat} {f:FA} {a:Act} (hR:Rel n f a) (w:World) (t:Nat):(ylZ a.tmps (.tmp t)).run P w = .ok (f.get t) w:=by
 simp only [ylZ,← hR.get]; rfl
theorem ymF {P:Program} {n:Nat} {f:FA} {a:Act} {s:St} {w:World} (hI:Inv f s w) (hR:Rel n f a) (hw:s.w = w):∀ {rs:List ResultVar} {F:List Value → Prop},ysR P rs f s F → ∃ vs,F vs ∧ (rs.mapM (ylZ a.tmps)).run P w = .ok vs w
 | [],F,h => ⟨[],h,by simp [Sem.run]⟩
 | .tmp t :: r,F,h => by
  obtain ⟨vs,h1,h2⟩:=ymF hI hR hw (rs:=r) h
  refine ⟨_,h1,?_⟩
  rw [List.mapM_cons,Sem.run_bind,yz8 hR]
  simp only [Result.andThen]
  rw [Sem.run_bind,h2]
  rfl
 | .cell c t :: r,F,h => by
  have fin:∀ {a':Addr} {v:Value} {F':List Value → Prop},f.get c = .pointer (some a') → (∀ w',Mod [] w w' → (Instr.loadAt t (.pointer (some a'))).run P w' = .ok v w') → ysR P r f s (fun vs => F' (v :: vs)) → ∃ vs,F' vs ∧ ((ResultVar.cell c t :: r).mapM (ylZ a.tmps)).run P w = .ok vs w:=fun {a' v F'} ha hr h => by
   obtain ⟨vs,h1,h2⟩:=ymF hI hR hw (rs:=r) h
   refine ⟨_,h1,?_⟩
   have hr:=hr w (Mod.refl w)
   have e2:a.tmps.getD c undef = .pointer (some a'):=by rw [hR.get,ha]
   have e1:(ylZ a.tmps (.cell c t)).run P w = .ok v w:=by
    show (do loadVar t (← asAddr (a.tmps.getD c undef)):Sem Value).run P w = _
    rw [e2]
    exact hr
   rw [List.mapM_cons,Sem.run_bind,e1]
   simp only [Result.andThen]
   rw [Sem.run_bind,h2]
   rfl
  unfold ysR at h
  split at h
  ·rename_i k off ht
   split at h
   ·rename_i tb hk
    obtain ⟨tb',hk',ha⟩:=hI.tags _ _ _ ht
    rw [hk] at hk'; cases hk'
    obtain ⟨v,h,hr⟩:=ypY h (ypZ (hI.at_ k tb hk) off)
    exact fin ha hr h
   ·exact h.elim
  ·split at h
   ·rename_i a' ha hd
    obtain ⟨v,h,hr⟩:=ypQ h hd
    rw [hw] at hr
    exact fin ha hr h
   ·exact h.elim
theorem yoH {P:Program} (hm:P.follows .mixedOrders = true) {f:FuncId} {fn:Func} {c:Code} {args:List Value} {n:Nat} {w:World} {R:VWP} {np:List Nat} {an:List LA} {u:List (Nat × Value × Tag)} {mem:List TB} (hf:P.funcs[f]? = some fn) (hb:fn.body = some c) (hn:fn.ntmps = n) (hd:yeZ n c = true) (ha:args.length ≤ n)
  (hu:∀ i,lkV u (fun _ => undef) i = args.getD i undef) (hI:Inv ⟨u,fun _ => undef⟩ ⟨mem,w,[],[],true⟩ w)
  (h:dnF P an c 400 [] (ybE P fn np R) ⟨u,fun _ => undef⟩ ⟨mem,w,[],[],true⟩):Calls P f args.toArray w fun e w' => ∃ v,e = .returned v ∧ R v w':=by
 refine calls_of_wp hf hb ?_
 have hR:Rel n ⟨u,fun _ => undef⟩ ({ tmps:=args.toArray ++ Array.replicate (fn.ntmps - args.toArray.size) undef,defers:=[] }:Act):=by
  refine ⟨fun i => ?_,rfl,by simp [hn]; omega⟩
  show _ = lkV u (fun _ => undef) i
  rw [hu i]
  simp only [Array.getD_eq_getD_getElem?,List.getD_eq_getElem?_getD]
  by_cases hi:i < args.length
  ·rw [Array.getElem?_append_left (by simpa using hi)]; simp
  ·rw [Array.getElem?_append_right (by simpa using hi),List.getElem?_eq_none (by omega)]
   simp only [Array.getElem?_replicate]
   split <;> rfl
 refine yz7 hm an n c 399 c [] rfl hd h hI hR fun e f s w' a hq hI' hR' => ?_
 have fin:ygB (ycI (np ++ yhK f (yxN fn.results.toList)) s) (fun s => ysR P fn.results.toList f s fun vs => match vs with
   | [v] => R v s.w
   | vs => R (.tuple ⟨vs⟩) s.w) → ∃ v,(results fn a.tmps).run P w' = .ok v w' ∧ R v w':=fun h => by
  obtain ⟨s',h,hI2,hw,_⟩:=yc7 h (ybL hI')
  obtain ⟨vs,h1,h2⟩:=ymF hI2 hR' hw h
  rw [hw] at h1
  have e:(fn.results.mapM (ylZ a.tmps)).run P w' = .ok vs.toArray w':=by
   rw [Array.mapM_eq_mapM_toList,map_eq_pure_bind,Sem.run_bind,h2]
   simp [Result.andThen]
  rw [yz2,Sem.run_bind,e]
  simp only [Result.andThen]
  split at h1
  ·rename_i v
   exact ⟨v,by simp [Sem.run],h1⟩
  ·rename_i hn
   refine ⟨_,?_,h1⟩
   have:¬ vs.toArray.size = 1:=fun hl => by
    match vs,hl,hn with
    | [v],_,hn => exact hn v rfl
   rw [dif_neg this]; rfl
 cases e
 case normal => obtain ⟨v,h1,h2⟩:=fin hq; exact ⟨hR'.defers,v,h1,v,rfl,h2⟩
 case ret => obtain ⟨v,h1,h2⟩:=fin hq; exact ⟨hR'.defers,v,h1,v,rfl,h2⟩
 all_goals exact hq.elim
theorem ymG:∀ (args:List Value) (k i:Nat),lkV (ynY k args) (fun _ => undef) i = if i < k then undef else args.getD (i - k) undef
 | [],k,i => by simp [ynY,lkV]
 | v :: r,k,i => by
  simp only [ynY,lkV]
  split
  ·rename_i hb; have:=Nat.eq_of_beq_eq_true hb; subst this; simp
  ·rename_i hb
   have hne:=Nat.ne_of_beq_eq_false hb
   rw [ymG r (k + 1) i]
   by_cases h1:i < k
   ·rw [if_pos (by omega),if_pos h1]
   ·rw [if_neg (by omega),if_neg h1,show i - k = (i - (k + 1)) + 1 by omega,List.getD_cons_succ]
theorem ymH:∀ (args:List Value) (k i:Nat),lkT (ynY k args) i = none
 | [],k,i => rfl
 | v :: r,k,i => by
  simp only [ynY,lkT]
  split
  ·rfl
  ·exact ymH r (k + 1) i
theorem yaB {P:Program} (hm:P.follows .mixedOrders = true) {f:FuncId} {fn:Func} {c:Code} {args:List Value} {n:Nat} {w:World} {R:VWP} {an:List LA} (hf:P.funcs[f]? = some fn) (hb:fn.body = some c) (hn:fn.ntmps = n) (hd:yeZ n c = true) (ha:Nat.ble args.length n = true)
  (h:dnF P an c 400 [] (ybE P fn [] R) ⟨ynY 0 args,fun _ => undef⟩ ⟨[],w,[],[],true⟩):Calls P f args.toArray w fun e w' => ∃ v,e = .returned v ∧ R v w' :=
 yoH hm hf hb hn hd (Nat.le_of_ble_eq_true ha) (fun i => by rw [ymG]; simp)
  ⟨by simp,by simp,fun i k off ht => by simp [FA.tag,ymH] at ht,(Mod.refl w).less (by simp),by simp,⟨by simp,by simp⟩,fun _ => rfl⟩ h
theorem yaJ {P:Program} (hm:P.follows .mixedOrders = true) {f:FuncId} {fn:Func} {c:Code} {args:List Value} {n:Nat} {w:World} {R:VWP} {an:List LA} {b:Nat} {T:TypeId} {cs:List Value} (hf:P.funcs[f]? = some fn) (hb:fn.body = some c) (hn:fn.ntmps = n) (hd:yeZ n c = true) (ha:Nat.ble (args.length + 1) n = true)
  (hw:w.heap[b]? = some (.cells cs.toArray T))
  (h:dnF P an c 400 [] (ybE P fn [0] R) ⟨(0,.pointer (some ⟨b,0,none⟩),some (0,0)) :: ynY 1 args,fun _ => undef⟩ ⟨[⟨b,T,cs,false⟩],w,[],[],true⟩):Calls P f (.pointer (some ⟨b,0,none⟩) :: args).toArray w fun e w' => ∃ v,e = .returned v ∧ R v w':=by
 have get:∀ (k:Nat) (tb:TB),[(⟨b,T,cs,false⟩:TB)][k]? = some tb → k = 0 ∧ tb = ⟨b,T,cs,false⟩:=fun k tb h => by
  cases k with
  | zero => simp at h; exact ⟨rfl,h.symm⟩
  | succ k => simp at h
 refine yoH hm hf hb hn hd (by have:=Nat.le_of_ble_eq_true ha; simpa using this) (fun i => ?_)
  ⟨fun k tb hk => ?_,fun i j x y hx hy _ => by rw [(get i x hx).1,(get j y hy).1],fun i k off ht => ?_,(Mod.refl w).less (by simp),by simp,⟨by simp,by simp⟩,fun _ => rfl⟩ h
 ·cases i with
  | zero => rfl
  | succ i =>
   show lkV (ynY 1 args) (fun _ => undef) (i + 1) = _
   rw [ymG,if_neg (by omega)]; rfl
 ·obtain ⟨_,rfl⟩:=get k tb hk; exact hw
 ·cases i with
  | zero =>
   have ht:some (0,0) = some (k,off):=ht
   cases ht
   exact ⟨⟨b,T,cs,false⟩,by simp,rfl⟩
  | succ i =>
   have ht:lkT (ynY 1 args) (i + 1) = some (k,off):=ht
   rw [ymH] at ht; cases ht
abbrev VM:=List Value × List TB
def yaO (a:LA) (D:Kx3 → FA → St → Prop) (Q:Kx3) (s:VM) (w:World):Prop:=yF7 a D Q s.1 s.2 w
def yf2 (a:LA) (D:FA → St → Prop) (s:VM) (w:World):Prop:=yJn a D s.1 s.2 w
def KS (K:Kh) (s:VM) (w:World):Prop:=K s.1 s.2 w
def KG {S:Type} (f:S → VM) (I:Nat → S → World → Prop) (m:Nat):Kh:=fun vals mem w => ∃ m',m' < m ∧ ∃ s,vals = (f s).1 ∧ mem = (f s).2 ∧ I m' s w
abbrev CR (P:Program) (f:FuncId) (args:Array Value) (w:World) (R:VWP):Prop:=Calls P f args w fun e w' => ∃ v,e = .returned v ∧ R v w'
theorem lrule {S:Type} {la:LA} {D:Kx3 → FA → St → Prop} {Q:Kx3} (f:S → VM) (I:Nat → S → World → Prop) {m0:Nat} {s0:S} {w0:World} (h0:I m0 s0 w0)
  (hr:∀ m s w,I m s w → (f s).1.length = la.live.length ∧ (f s).2.length = la.n ∧ ∀ js,yEX la (D (ysP (atA la (KG f I m)) Q)) (f s).1 js (f s).2 w):yaO la D Q (f s0) w0:=by
 refine ⟨fun m vals mem w => ∃ s,vals = (f s).1 ∧ mem = (f s).2 ∧ I m s w,m0,⟨s0,rfl,rfl,h0⟩,?_⟩
 rintro m vals mem w ⟨s,rfl,rfl,hI⟩
 exact hr m s w hI
theorem crule {S:Type} {la:LA} {D:FA → St → Prop} (f:S → VM) (J:S → World → Prop) {s0:S} {w0:World} (h0:J s0 w0)
  (hr:∀ s w,J s w → (f s).1.length = la.live.length ∧ (f s).2.length = la.n ∧ ∀ js,yEX la D (f s).1 js (f s).2 w):yf2 la D (f s0) w0:=by
 refine ⟨fun vals mem w => ∃ s,vals = (f s).1 ∧ mem = (f s).2 ∧ J s w,⟨s0,rfl,rfl,h0⟩,?_⟩
 rintro vals mem w ⟨s,rfl,rfl,hI⟩
 exact hr s w hI
def U0 (I:Nat → World → Prop) (m:Nat) (_:Unit) (w:World):Prop:=I m w
def V0 (J:World → Prop) (_:Unit) (w:World):Prop:=J w
def U1 {A0:Type} (I:Nat → A0 → World → Prop):Nat → A0 → World → Prop:=fun m_ a0 w_ => I m_ a0 w_
def U2 {A0 A1:Type} (I:Nat → A0 → A1 → World → Prop):Nat → A0 × A1 → World → Prop:=fun m_ (a0,a1) w_ => I m_ a0 a1 w_
def U3 {A0 A1 A2:Type} (I:Nat → A0 → A1 → A2 → World → Prop):Nat → A0 × A1 × A2 → World → Prop:=fun m_ (a0,a1,a2) w_ => I m_ a0 a1 a2 w_
def U4 {A0 A1 A2 A3:Type} (I:Nat → A0 → A1 → A2 → A3 → World → Prop):Nat → A0 × A1 × A2 × A3 → World → Prop:=fun m_ (a0,a1,a2,a3) w_ => I m_ a0 a1 a2 a3 w_
def U5 {A0 A1 A2 A3 A4:Type} (I:Nat → A0 → A1 → A2 → A3 → A4 → World → Prop):Nat → A0 × A1 × A2 × A3 × A4 → World → Prop:=fun m_ (a0,a1,a2,a3,a4) w_ => I m_ a0 a1 a2 a3 a4 w_
def U6 {A0 A1 A2 A3 A4 A5:Type} (I:Nat → A0 → A1 → A2 → A3 → A4 → A5 → World → Prop):Nat → A0 × A1 × A2 × A3 × A4 × A5 → World → Prop:=fun m_ (a0,a1,a2,a3,a4,a5) w_ => I m_ a0 a1 a2 a3 a4 a5 w_
def U7 {A0 A1 A2 A3 A4 A5 A6:Type} (I:Nat → A0 → A1 → A2 → A3 → A4 → A5 → A6 → World → Prop):Nat → A0 × A1 × A2 × A3 × A4 × A5 × A6 → World → Prop:=fun m_ (a0,a1,a2,a3,a4,a5,a6) w_ => I m_ a0 a1 a2 a3 a4 a5 a6 w_
def U8 {A0 A1 A2 A3 A4 A5 A6 A7:Type} (I:Nat → A0 → A1 → A2 → A3 → A4 → A5 → A6 → A7 → World → Prop):Nat → A0 × A1 × A2 × A3 × A4 × A5 × A6 × A7 → World → Prop:=fun m_ (a0,a1,a2,a3,a4,a5,a6,a7) w_ => I m_ a0 a1 a2 a3 a4 a5 a6 a7 w_
def U9 {A0 A1 A2 A3 A4 A5 A6 A7 A8:Type} (I:Nat → A0 → A1 → A2 → A3 → A4 → A5 → A6 → A7 → A8 → World → Prop):Nat → A0 × A1 × A2 × A3 × A4 × A5 × A6 × A7 × A8 → World → Prop:=fun m_ (a0,a1,a2,a3,a4,a5,a6,a7,a8) w_ => I m_ a0 a1 a2 a3 a4 a5 a6 a7 a8 w_
def U11 {A0 A1 A2 A3 A4 A5 A6 A7 A8 A9 B0:Type} (I:Nat → A0 → A1 → A2 → A3 → A4 → A5 → A6 → A7 → A8 → A9 → B0 → World → Prop):Nat → A0 × A1 × A2 × A3 × A4 × A5 × A6 × A7 × A8 × A9 × B0 → World → Prop:=fun m_ (a0,a1,a2,a3,a4,a5,a6,a7,a8,a9,b0) w_ => I m_ a0 a1 a2 a3 a4 a5 a6 a7 a8 a9 b0 w_
def U13 {A0 A1 A2 A3 A4 A5 A6 A7 A8 A9 B0 B1 B2:Type} (I:Nat → A0 → A1 → A2 → A3 → A4 → A5 → A6 → A7 → A8 → A9 → B0 → B1 → B2 → World → Prop):Nat → A0 × A1 × A2 × A3 × A4 × A5 × A6 × A7 × A8 × A9 × B0 × B1 × B2 → World → Prop:=fun m_ (a0,a1,a2,a3,a4,a5,a6,a7,a8,a9,b0,b1,b2) w_ => I m_ a0 a1 a2 a3 a4 a5 a6 a7 a8 a9 b0 b1 b2 w_
def V30 {A0 A1 A2 A3 A4 A5 A6 A7 A8 A9 B0 B1 B2 B3 B4 B5 B6 B7 B8 B9 C0 C1 C2 C3 C4 C5 C6 C7 C8 C9:Type} (J:A0 → A1 → A2 → A3 → A4 → A5 → A6 → A7 → A8 → A9 → B0 → B1 → B2 → B3 → B4 → B5 → B6 → B7 → B8 → B9 → C0 → C1 → C2 → C3 → C4 → C5 → C6 → C7 → C8 → C9 → World → Prop):A0 × A1 × A2 × A3 × A4 × A5 × A6 × A7 × A8 × A9 × B0 × B1 × B2 × B3 × B4 × B5 × B6 × B7 × B8 × B9 × C0 × C1 × C2 × C3 × C4 × C5 × C6 × C7 × C8 × C9 → World → Prop:=fun (a0,a1,a2,a3,a4,a5,a6,a7,a8,a9,b0,b1,b2,b3,b4,b5,b6,b7,b8,b9,c0,c1,c2,c3,c4,c5,c6,c7,c8,c9) w_ => J a0 a1 a2 a3 a4 a5 a6 a7 a8 a9 b0 b1 b2 b3 b4 b5 b6 b7 b8 b9 c0 c1 c2 c3 c4 c5 c6 c7 c8 c9 w_
def V31 {A0 A1 A2 A3 A4 A5 A6 A7 A8 A9 B0 B1 B2 B3 B4 B5 B6 B7 B8 B9 C0 C1 C2 C3 C4 C5 C6 C7 C8 C9 D0:Type} (J:A0 → A1 → A2 → A3 → A4 → A5 → A6 → A7 → A8 → A9 → B0 → B1 → B2 → B3 → B4 → B5 → B6 → B7 → B8 → B9 → C0 → C1 → C2 → C3 → C4 → C5 → C6 → C7 → C8 → C9 → D0 → World → Prop):A0 × A1 × A2 × A3 × A4 × A5 × A6 × A7 × A8 × A9 × B0 × B1 × B2 × B3 × B4 × B5 × B6 × B7 × B8 × B9 × C0 × C1 × C2 × C3 × C4 × C5 × C6 × C7 × C8 × C9 × D0 → World → Prop:=fun (a0,a1,a2,a3,a4,a5,a6,a7,a8,a9,b0,b1,b2,b3,b4,b5,b6,b7,b8,b9,c0,c1,c2,c3,c4,c5,c6,c7,c8,c9,d0) w_ => J a0 a1 a2 a3 a4 a5 a6 a7 a8 a9 b0 b1 b2 b3 b4 b5 b6 b7 b8 b9 c0 c1 c2 c3 c4 c5 c6 c7 c8 c9 d0 w_
def V34 {A0 A1 A2 A3 A4 A5 A6 A7 A8 A9 B0 B1 B2 B3 B4 B5 B6 B7 B8 B9 C0 C1 C2 C3 C4 C5 C6 C7 C8 C9 D0 D1 D2 D3:Type} (J:A0 → A1 → A2 → A3 → A4 → A5 → A6 → A7 → A8 → A9 → B0 → B1 → B2 → B3 → B4 → B5 → B6 → B7 → B8 → B9 → C0 → C1 → C2 → C3 → C4 → C5 → C6 → C7 → C8 → C9 → D0 → D1 → D2 → D3 → World → Prop):A0 × A1 × A2 × A3 × A4 × A5 × A6 × A7 × A8 × A9 × B0 × B1 × B2 × B3 × B4 × B5 × B6 × B7 × B8 × B9 × C0 × C1 × C2 × C3 × C4 × C5 × C6 × C7 × C8 × C9 × D0 × D1 × D2 × D3 → World → Prop:=fun (a0,a1,a2,a3,a4,a5,a6,a7,a8,a9,b0,b1,b2,b3,b4,b5,b6,b7,b8,b9,c0,c1,c2,c3,c4,c5,c6,c7,c8,c9,d0,d1,d2,d3) w_ => J a0 a1 a2 a3 a4 a5 a6 a7 a8 a9 b0 b1 b2 b3 b4 b5 b6 b7 b8 b9 c0 c1 c2 c3 c4 c5 c6 c7 c8 c9 d0 d1 d2 d3 w_
theorem yaF.of0 {es:List Nat} {ts:List (Nat × TypeId)} {bs:List Nat} {w w':World} (M:Mod [] w w'):yaV es ts bs w w':=fun b _ hl _ _ => M.block b hl (by simp)
theorem yaF.of {S es:List Nat} {ts:List (Nat × TypeId)} {bs:List Nat} {w w':World} (M:Mod S w w') (h:∀ b ∈ bs,b < w.heap.size → b ∉ S):yaV es ts bs w w':=fun b hb hl _ _ => M.block b hl (h b hb hl)
theorem yaF.ofE {S es:List Nat} {ts:List (Nat × TypeId)} {bs:List Nat} {w w':World} (M:Mod S w w') (h:∀ b ∈ bs,b < w.heap.size → b ∉ es → b ∉ S):yaV es ts bs w w':=fun b hb hl he _ => M.block b hl (h b hb hl he)
theorem Mod.new {S:List Nat} {w w':World} (h:Mod S w w') (hs:∀ k ∈ S,w.heap.size ≤ k):Mod [] w w':=h.less fun k hk hl => by have:=hs k hk; omega
theorem Mod.go0 {S:List Nat} {a b c:World} (h:Mod [] a b) (k:Mod S b c) (hs:∀ i ∈ S,a.heap.size ≤ i):Mod [] a c :=
 (h.trans k).less fun i hi hl => by simp only [List.nil_append] at hi; have:=hs i hi; omega
def yaN:Option Addr → List Nat
 | none => []
 | some ad => [ad.block]
theorem ycN (a:Option Addr):∀ ad,a = some ad → ad.block ∈ yaN a:=by rintro ad rfl; simp [yaN]
theorem Row.newS {α:Type} {w:World} {base T sz:Nat} {enc:α → List Value} {a:Option Addr} {n c:Nat} {l:List α} (h:Row w base T sz enc a n c l):∀ k ∈ yaN a,base ≤ k:=by
 cases a with
 | none => simp [yaN]
 | some ad => intro k hk; simp [yaN] at hk; subst hk; exact h.base ad rfl
theorem Row.rebase {α:Type} {w:World} {base base' T sz:Nat} {enc:α → List Value} {a:Option Addr} {n c:Nat} {l:List α} (h:Row w base T sz enc a n c l) (hb:base' ≤ base):Row w base' T sz enc a n c l:=by
 obtain ⟨hn,hl,ho⟩:=h
 refine ⟨hn,hl,?_⟩
 rcases ho with ho | ⟨g,cap,cur,hv,hg,r⟩
 ·exact .inl ho
 ·exact .inr ⟨g,cap,cur,hv,Nat.le_trans hb hg,r⟩
theorem ya0 {P:Program} {f:FuncId} {args:Array Value} {w:World} {X:Value} {S:World → Prop} (h:Calls P f args w fun e w' => ∃ v,e = .returned v ∧ (v = X ∧ S w')):Calls P f args w fun e w' => e = .returned X ∧ S w' :=
 h.mono fun e w' ⟨v,h1,h2,h3⟩ => ⟨by rw [h1,h2],h3⟩
theorem brT {A B:Prop} {t:Bool} (h:t = true) (hA:A):brB t A B:=by subst h; exact hA
theorem brF {A B:Prop} {t:Bool} (h:t = false) (hB:B):brB t A B:=by subst h; exact hB
theorem yvG (a:Addr) (i j:Nat):(a.add i).add j = a.add (i + j):=by
 unfold Addr.add
 cases i <;> cases j <;> simp [Nat.add_assoc] <;> omega
theorem Row.fresh {α:Type} {w:World} {base T sz b:Nat} {enc:α → List Value} (h:w.heap[b]? = some (.cells #[] T)) (hb:base ≤ b):Row w base T sz enc (some ⟨b,0,none⟩) 0 0 [] :=
 ⟨rfl,by simp,.inr ⟨b,0,#[],rfl,hb,h,by simp,by simp,by simp,by simp⟩⟩
theorem Row.block {α:Type} {w:World} {base T sz:Nat} {enc:α → List Value} {a:Option Addr} {n c:Nat} {l:List α} (h:Row w base T sz enc a n c l):∀ ad,a = some ad → base ≤ ad.block ∧ ∃ cur,w.heap[ad.block]? = some (.cells cur T):=by
 intro ad ha
 obtain ⟨hn,hl,ho⟩:=h
 rcases ho with ⟨ho,_⟩ | ⟨g,cap,cur,hv,hb,hh,r⟩
 ·simp only [Value.slice.injEq] at ho; rw [ho.1] at ha; cases ha
 ·simp only [Value.slice.injEq] at hv; rw [hv.1] at ha; cases ha; exact ⟨hb,_,hh⟩
theorem yeS {a b:ByteArray}:a.toList = b.toList ↔ a = b:=by
 constructor
 ·intro e
  rw [Lib.toList_data,Lib.toList_data] at e
  rw [← Lib.mk_data a,← Lib.mk_data b,e]
 ·rintro rfl; rfl
theorem yvH (a b:ByteArray):(a.toList == b.toList) = decide (a = b):=by
 by_cases h:a = b
 ·subst h; simp
 ·rw [decide_eq_false h,Bool.eq_false_iff]
  intro e
  exact h (yeS.1 (eq_of_beq e))
theorem yz9 (a:ByteArray):a = ⟨#[]⟩ ↔ a.size = 0:=by
 constructor
 ·rintro rfl; rfl
 ·intro h
  obtain ⟨d⟩:=a
  have:d = #[]:=Array.eq_empty_of_size_eq_zero h
  rw [this]
theorem ye0 {α:Type} {enc:α → List Value} {sz:Nat} (hs:∀ x,(enc x).length = sz):∀ l:List α,(l.flatMap enc).length = l.length * sz
 | [] => by simp
 | x :: r => by rw [List.flatMap_cons,List.length_append,hs,ye0 hs r,List.length_cons,Nat.succ_mul]; omega
theorem ybF.flat {α:Type} {w:World} {sz:Nat} {enc:α → List Value} {ad:Addr} {n:Nat} {l:List α} (h:ybF w sz enc (some ad) n l) (hs:∀ x,(enc x).length = sz):∀ j u,(l.flatMap enc)[j]? = some u → w.cell? (ad.add j) = some u:=by
 intro j u hu
 have hj:=(List.getElem?_eq_some_iff.1 hu).1
 rw [ye0 hs] at hj
 have hsz:0 < sz:=Nat.pos_of_ne_zero fun e => by subst e; simp at hj
 have hi:j / sz < l.length:=Nat.div_lt_of_lt_mul (by rwa [Nat.mul_comm])
 have hx:l[j / sz]? = some l[j / sz]:=List.getElem?_eq_getElem hi
 have e:j / sz * sz + j % sz = j:=by rw [Nat.mul_comm]; exact Nat.div_add_mod j sz
 have hm:=ycT hs l (j / sz) (j % sz) _ hx (Nat.mod_lt _ hsz)
 rw [e] at hm
 obtain ⟨ad',ha,hc⟩:=h.2 _ _ hx
 cases ha
 have:=hc (j % sz) u (hm.symm.trans hu)
 rwa [yvG,e] at this
theorem yvI {P:Program} (w:World) (base:Nat) (t ty e:TypeId) (i:TypeInfo) (size:Nat) (ht:P.underlying t = some (.slice e)) (hi:P.info? e = some i)
  (v:Value) (n:Nat) (xs:List Value) (hown:w.ownsRow base e size v n xs) (c:Nat) :
  (Builtin.append_ #[t,t] ty #[v,.slice none 0 c]).run P w = .ok v w:=by
 rcases hown.2 with ⟨rfl,rfl⟩ | ⟨g,cap,cur,rfl,_,_,hnc,_⟩
 ·simp [Builtin.append_,run_underlying ht,sizeOf,typeInfo,hi,Builtin.lenOf,Builtin.firstCells]
 ·simp [Builtin.append_,run_underlying ht,sizeOf,typeInfo,hi,Builtin.lenOf,Builtin.firstCells,hnc,storeCells]
theorem ydE {α:Type} {P:Program} {w:World} {base T S sz bytes:Nat} {enc:α → List Value} {a:Option Addr} {n c:Nat} {l:List α} {i:TypeInfo} {z:Value} {ty:TypeId} {F:Option Addr → Nat → Nat → World → Prop}
  (h:Row w base T sz enc a n c l) (ht:P.underlying S = some (.slice T)) (hi:P.info? T = some i) (hz:i.zero = some z) (hsize:i.size = sz) (hby:i.bytes = bytes) (hzs:z.cells.size = sz) (hsz:0 < sz)
  {a2:Option Addr} {n2 c2:Nat} {l2:List α} (h2:ybF w sz enc a2 n2 l2) (hx:∀ x,(enc x).length = sz) (hone:∀ x,∀ u ∈ enc x,u.oneCell' = true) (hlen:(l.length + l2.length) * bytes ≤ 140737488355328) (hl2:l.length + l2.length ≤ maxLen) (hbase:base ≤ w.heap.size)
  (hF:∀ a' n' c' w',Row w' base T sz enc a' n' c' (l ++ l2) → (∀ X,(∀ ad,a = some ad → ad.block ∈ X) → Mod X w w') → F a' n' c' w') :
  ybC P (Builtin.append_ #[S,S] ty #[.slice a n c,.slice a2 n2 c2]) w F:=by
 have h0:=h
 obtain ⟨hn,ho⟩:=h
 cases a2 with
 | none =>
  have hl0:l2 = []:=by
   cases l2 with
   | nil => rfl
   | cons x r => obtain ⟨ad,ha,_⟩:=h2.2 0 x rfl; cases ha
  subst hl0
  have hn2:n2 = 0:=h2.1
  subst hn2
  exact ⟨a,n,c,w,yvI w base S ty T i sz ht hi _ n _ ho c2,hF a n c w (by simpa using h0) fun X _ => (Mod.refl w).less (by simp)⟩
 | some ad =>
 obtain ⟨v',w',h1,h3,h4,_⟩:=run_append_own w base S ty T i z sz bytes ht hi hz hsize hby hzs hsz (.slice a n c) n (l.flatMap enc) ho ad n2 c2 (l2.flatMap enc) (by rw [ye0 hx,h2.1])
  (h2.flat hx) (fun u hu => by obtain ⟨x,_,hx'⟩:=List.mem_flatMap.1 hu; exact hone x u hx') (by rw [hn,h2.1]; exact hl2) (by rw [hn,h2.1]; exact hlen) hbase
 have hv:∃ a' c',v' = .slice a' (n + n2) c':=by
  rcases h3.2 with ⟨e1,e2⟩ | ⟨g,cap,cur,e1,_⟩
  ·have h5:=h3.1
   rw [e2] at h5
   have h6:n + n2 = 0:=by
    rcases Nat.eq_zero_or_pos (n + n2) with h | h
    ·exact h
    ·have:=Nat.mul_pos h hsz; simp at h5; omega
   exact ⟨none,0,by rw [e1,h6]⟩
  ·exact ⟨_,_,e1⟩
 obtain ⟨a',c',rfl⟩:=hv
 refine ⟨a',n + n2,c',w',h1,hF a' _ c' w' ⟨by simp [hn,h2.1],by simpa using h3⟩ fun X hX => ⟨h4.os,h4.tape,h4.output,h4.size,fun k hk hkX => h4.block k hk fun e => hkX ?_⟩⟩
 cases a with
 | none => simp [Value.ownBlock] at e
 | some ad => simp [Value.ownBlock] at e; subst e; exact hX ad rfl
structure PRec where
 hk:Bool
 key:ByteArray
 tomb:Bool
 val:ByteArray
 deriving DecidableEq
structure PFound where
 off:Int
 r:PRec
 deriving DecidableEq
structure PPart where
 t:ByteArray
 n:Int
 deriving DecidableEq
structure PRep where
 e:Int
 off:Int
 n:Int
 gen:Int
 found:List PFound
 parts:List PPart
 deriving DecidableEq
structure Sl where
 a:Option Addr
 n:Nat
 c:Nat
def PRec.v (r:PRec):Value:=.agg #[.bool r.hk,.string r.key,.bool r.tomb,.string r.val]
def PFound.v (x:PFound):Value:=.agg #[.int .i64 x.off,.bool x.r.hk,.string x.r.key,.bool x.r.tomb,.string x.r.val]
def PPart.v (x:PPart):Value:=.agg #[.string x.t,.int .i64 x.n]
def yjH (x:PFound):List Value:=[.int .i64 x.off,.bool x.r.hk,.string x.r.key,.bool x.r.tomb,.string x.r.val]
def yiH (x:PPart):List Value:=[.string x.t,.int .i64 x.n]
theorem yd1 (x:PFound):(yjH x).length = 5:=rfl
theorem ylK (x:PPart):(yiH x).length = 2:=rfl
def PRep.v (r:PRep) (f p:Sl):Value:=.agg #[.int .i64 r.e,.int .i64 r.off,.int .i64 r.n,.int .i64 r.gen,.slice f.a f.n f.c,.slice p.a p.n p.c]
theorem neP (x y:PPart) (o1 o2:Operand) (w:World):Sem.run pP (do eqGuard .neq 33 o1 o2 x.v y.v; Go.binOp .neq 33 x.v y.v) w = .ok (.bool (decide (x ≠ y))) w:=by
 obtain ⟨a,b⟩:=x
 obtain ⟨a',b'⟩:=y
 simp [go_sem,Sem.run_bind,PPart.v]
 by_cases h1:a = a' <;> by_cases h2:b = b' <;> simp [h1,h2,yeS]
section
set_option maxRecDepth 100000
variable {R:VWP} {w w0:World} {m:Nat} {i0 i1 i2 i3 i4 i5 i6 i7 i8 i9 j0 j1 j2 j3 j4 j5 j6 j7 j8 j9 k0 k1 k2 k3 k4 k5 k6 k7 k8 k9 l0 l1 l2 l3 l4 l5 l6 l7 l8 l9:Int} {s0 s1 s2 s3 s4 s5 s6 s7 s8 s9 t0 t1 t2 t3 t4 t5 t6 t7 t8 t9:BA} {n0 n1 n2 n3 n4 n5 n6 n7 n8 n9 o0 o1 o2 o3 o4 o5 o6 o7 o8 o9 p0 p1 p2 p3 p4 p5 p6 p7 p8 p9:Nat} {q0 q1 q2 q3 q4 q5 q6 q7 q8 q9 r0 r1 r2 r3 r4 r5 r6 r7 r8 r9:OA} {B0 B1 B2 B3 B4 B5 B6 B7 B8 B9:Bool} {M0 M1 M2 M3:Option Nat} {V0 V1 V2 V3 V4 V5:Value} {A0 A1 A2:Addr}
abbrev hpC (w:World) (b:Nat) (c:Array Value) (T:TypeId):Prop:=w.heap[b]? = some (.cells c T)
abbrev Z0 (x0:Int) (x1:BA) (x2 x3 x4 x5 x6 x7:Int) (x8:OA) (x9 x10:Nat) (x11 x12:BA) (x13:Int) (x14:Bool) (x15:OA) (x16 x17:Nat):Array Value:=#[.int .i64 x0,.string x1,.int .i64 x2,.int .i64 x3,.int .i64 x4,.int .i64 x5,.int .i64 x6,.int .i64 x7,.slice x8 x9 x10,.string x11,.string x12,.int .i64 x13,.bool x14,.slice x15 x16 x17]
abbrev Z1 (x0 x1 x2 x3:Int) (x4:OA) (x5 x6:Nat) (x7:OA) (x8 x9:Nat):Array Value:=#[.int .i64 x0,.int .i64 x1,.int .i64 x2,.int .i64 x3,.slice x4 x5 x6,.slice x7 x8 x9]
abbrev Z2 (x0 x1:Int) (x2:OA) (x3 x4:Nat) (x5:OA) (x6 x7:Nat):Array Value:=#[.int .i64 x0,.int .i64 x1,.slice x2 x3 x4,.slice x5 x6 x7]
abbrev Z3 (x0:BA) (x1:OA) (x2 x3:Nat) (x4 x5:Int):Array Value:=#[.string x0,.slice x1 x2 x3,.int .i64 x4,.int .i64 x5]
abbrev Z4 (x0 x1:Int) (x2:OA) (x3 x4:Nat) (x5:OA) (x6 x7:Nat) (x8:OA) (x9 x10:Nat) (x11:OA) (x12 x13:Nat) (x14:OA) (x15 x16:Nat) (x17:OA) (x18 x19:Nat):Array Value:=#[.int .i64 x0,.int .i64 x1,.slice x2 x3 x4,.slice x5 x6 x7,.slice x8 x9 x10,.slice x11 x12 x13,.slice x14 x15 x16,.slice x17 x18 x19]
abbrev Z5 (x0 x1 x2:Int) (x3:OA) (x4 x5:Nat):Array Value:=#[.int .i64 x0,.int .i64 x1,.int .i64 x2,.slice x3 x4 x5]
abbrev Z6 (x0 x1:BA) (x2 x3:Int):Array Value:=#[.string x0,.string x1,.int .i64 x2,.int .i64 x3]
abbrev Z7 (x0 x1 x2:Int):Array Value:=#[.int .i64 x0,.int .i64 x1,.int .i64 x2]
abbrev Z8 (x0:Bool) (x1:BA) (x2:Bool) (x3:BA):Array Value:=#[.bool x0,.string x1,.bool x2,.string x3]
abbrev Z9 (x0:Int) (x1:Bool) (x2:BA) (x3:Bool) (x4:BA):Array Value:=#[.int .i64 x0,.bool x1,.string x2,.bool x3,.string x4]
abbrev Z10 (x0:Int) (x1:BA) (x2:Int):Array Value:=#[.int .i64 x0,.string x1,.int .i64 x2]
abbrev Z11 (x0 x1:Int) (x2:BA) (x3:Int) (x4:OA) (x5 x6:Nat):Array Value:=#[.int .i64 x0,.int .i64 x1,.string x2,.int .i64 x3,.slice x4 x5 x6]
abbrev Z12 (x0:Int) (x1:Bool) (x2:Int):Array Value:=#[.int .i64 x0,.bool x1,.int .i64 x2]
abbrev Z13 (x0:OA) (x1:BA) (x2:Int):Array Value:=#[.pointer x0,.string x1,.int .i64 x2]
abbrev Z14 (x0 x1:BA) (x2:Int):Array Value:=#[.string x0,.string x1,.int .i64 x2]
abbrev Z15 (x0 x1 x2 x3:Int):Array Value:=#[.int .i64 x0,.int .i64 x1,.int .i64 x2,.int .i64 x3]
theorem yMq (h :
 brB (decide (i0 ≥ 0)) (
 R (.bool (decide (i0 ≤ 1099511627776))) w)
 (
 R (.bool false) w)) :
 CR pP 240 #[.int .i64 i0] w R :=
 yaB Tryz.wide_mixed (an:=[]) Tryz.func240 rfl rfl (by kernel_rfl) rfl (Eq.mpr (by kernel_rfl) h)
theorem yMr (h :
 ∀ b2,w.heap.size ≤ b2 →
 brB (!B0) (
 brB (!(s0.toList == (⟨#[]⟩:BA).toList)) (
 brB (!(s0.toList == (⟨#[]⟩:BA).toList)) (
 ∀ w3,Adv [] [b2] w w3 →
 R (.int .i64 30) w3)
 (
 brB (decide ((s0.size:Int) > 64)) (
 brB (decide ((s0.size:Int) > 64)) (
 ∀ w4,Adv [] [b2] w w4 →
 R (.int .i64 2) w4)
 (
 ∀ w5,Adv [] [b2] w w5 →
 R (.int .i64 0) w5))
 (
 brB (decide ((s1.size:Int) > 512)) (
 ∀ w6,Adv [] [b2] w w6 →
 R (.int .i64 2) w6)
 (
 ∀ w7,Adv [] [b2] w w7 →
 R (.int .i64 0) w7))))
 (
 brB B1 (
 brB (!B0) (
 ∀ w8,Adv [] [b2] w w8 →
 R (.int .i64 30) w8)
 (
 brB (!(s1.toList == (⟨#[]⟩:BA).toList)) (
 ∀ w9,Adv [] [b2] w w9 →
 R (.int .i64 30) w9)
 (
 brB (decide ((s0.size:Int) > 64)) (
 brB (decide ((s0.size:Int) > 64)) (
 ∀ a4,Adv [] [b2] w a4 →
 R (.int .i64 2) a4)
 (
 ∀ a5,Adv [] [b2] w a5 →
 R (.int .i64 0) a5))
 (
 brB (decide ((s1.size:Int) > 512)) (
 ∀ a6,Adv [] [b2] w a6 →
 R (.int .i64 2) a6)
 (
 ∀ a7,Adv [] [b2] w a7 →
 R (.int .i64 0) a7)))))
 (
 brB (decide ((s0.size:Int) > 64)) (
 brB (decide ((s0.size:Int) > 64)) (
 ∀ a8,Adv [] [b2] w a8 →
 R (.int .i64 2) a8)
 (
 ∀ a9,Adv [] [b2] w a9 →
 R (.int .i64 0) a9))
 (
 brB (decide ((s1.size:Int) > 512)) (
 ∀ b0,Adv [] [b2] w b0 →
 R (.int .i64 2) b0)
 (
 ∀ b1,Adv [] [b2] w b1 →
 R (.int .i64 0) b1)))))
 (
 brB B1 (
 brB (!B0) (
 ∀ b3,Adv [] [b2] w b3 →
 R (.int .i64 30) b3)
 (
 brB (!(s1.toList == (⟨#[]⟩:BA).toList)) (
 ∀ b4,Adv [] [b2] w b4 →
 R (.int .i64 30) b4)
 (
 brB (decide ((s0.size:Int) > 64)) (
 brB (decide ((s0.size:Int) > 64)) (
 ∀ b5,Adv [] [b2] w b5 →
 R (.int .i64 2) b5)
 (
 ∀ b6,Adv [] [b2] w b6 →
 R (.int .i64 0) b6))
 (
 brB (decide ((s1.size:Int) > 512)) (
 ∀ b7,Adv [] [b2] w b7 →
 R (.int .i64 2) b7)
 (
 ∀ b8,Adv [] [b2] w b8 →
 R (.int .i64 0) b8)))))
 (
 brB (decide ((s0.size:Int) > 64)) (
 brB (decide ((s0.size:Int) > 64)) (
 ∀ b9,Adv [] [b2] w b9 →
 R (.int .i64 2) b9)
 (
 ∀ c0,Adv [] [b2] w c0 →
 R (.int .i64 0) c0))
 (
 brB (decide ((s1.size:Int) > 512)) (
 ∀ c1,Adv [] [b2] w c1 →
 R (.int .i64 2) c1)
 (
 ∀ c2,Adv [] [b2] w c2 →
 R (.int .i64 0) c2))))) :
 CR pP 93 #[(.agg (Z8 B0 s0 B1 s1))] w R :=
 yaB Tryz.wide_mixed (an:=[]) Tryz.func93 rfl rfl (by kernel_rfl) rfl (Eq.mpr (by kernel_rfl) h)
def yCd:LA:=⟨[0,0,1,0,1,1],[0,1,12,13],[],0,[]⟩
def yE4:List LA:=[yCd]
abbrev yML:=dnF pP yE4 (code Tryz.f120)
abbrev yNQ:=yaR pP yE4 (code Tryz.f120)
abbrev yMM (p:List Nat) (K:List Kh) (R:VWP):=yaR pP yE4 (code Tryz.f120) p K (ybE pP Tryz.f120 [] R)
def yAa (a2:OA) (a6 a4:Nat) (a3:OA) (a7 a5:Nat) (a0:Int):Int → List Value × List TB:=fun a1 => ([.slice a2 a6 a4,.slice a3 a7 a5,.int .i64 a0,.int .i64 a1],[])
abbrev yJr (a1:OA) (a5 a3:Nat) (a2:OA) (a6 a4:Nat) (a0:Int) (I:Nat → Int → World → Prop) (m:Nat):Kh:=KG (yAa a1 a5 a3 a2 a6 a4 a0) (U1 I) m
theorem yE5 {I:Nat → Int → World → Prop} (m':Nat) (h1:m' < m) (h2:I m' i1 w):KS (yJr q0 n0 n1 q1 n2 n3 i0 I m) (yAa q0 n0 n1 q1 n2 n3 i0 i1) w:=⟨m',h1,_,rfl,rfl,h2⟩
theorem yE6 {a2:OA} {a3:OA} (I:Nat → Int → World → Prop) (m0:Nat) (h0:I m0 i1 w0)
 (hr:∀ m a0 w,I m a0 w →
 brB (decide (a0 < i0)) (
 ixA a2 n0 a0 2 fun q1 =>
 ya7 w q1 fun s2 => ya1 .i64 w (Addr.add q1 1) fun x3 =>
 ixA a3 n2 a0 2 fun q4 =>
 ya7 w q4 fun s5 => ya1 .i64 w (Addr.add q4 1) fun x6 =>
 ∃ t7,(∀ w',Mod [] w w' → Sem.run pP (do eqGuard .neq 33 (.tmp 19) (.tmp 23) (.agg #[.string s2,.int .i64 x3]) (.agg #[.string s5,.int .i64 x6]); Go.binOp .neq 33 (.agg #[.string s2,.int .i64 x3]) (.agg #[.string s5,.int .i64 x6])) w' = .ok (.bool t7) w') ∧
 brB t7 (
 ∀ w8,Adv [] [] w w8 →
 R (.bool false) w8)
 (
 ∀ w9,Adv [] [] w w9 →
 KS (yJr a2 n0 n1 a3 n2 n3 i0 I m) (yAa a2 n0 n1 a3 n2 n3 i0 (IntKind.wrap .i64 (a0 + 1))) w9))
 (
 R (.bool true) w)) :
 yaO yCd (yML 396 [0,0,1,0,1,1]) (yMM [1,1,0,1,0] [] R) (yAa a2 n0 n1 a3 n2 n3 i0 i1) w0 :=
 lrule (yAa a2 n0 n1 a3 n2 n3 i0) (U1 I) h0 (by rintro m a0 w h; exact ⟨by kernel_rfl,by kernel_rfl,fun js => Eq.mpr (by kernel_rfl) (hr m a0 w h)⟩)
theorem yMs (h :
 brB ((n0:Int) != (n2:Int)) (
 R (.bool false) w)
 (
 yaO yCd (yML 396 [0,0,1,0,1,1]) (yMM [1,1,0,1,0] [] R) (yAa q0 n0 n1 q1 n2 n3 (n0:Int) 0) w)) :
 CR pP 120 #[.slice q0 n0 n1,.slice q1 n2 n3] w R :=
 yaB Tryz.wide_mixed (an:=yE4) Tryz.func120 rfl rfl (by kernel_rfl) rfl (Eq.mpr (by kernel_rfl) h)
theorem yMt (h :
 brB (Option.isNone q0) (
 R (.slice none 0 0) w)
 (
 al w (.cells #[] 76) fun b7 w8 =>
 ybC pP (Builtin.append_ #[27,27] 27 #[(.slice (some ⟨b7,0,none⟩) 0 0),.slice q0 n0 n1]) w8 fun a3 a5 a4 w9 =>
 R (.slice a3 a5 a4) w9)) :
 CR pP 141 #[.slice q0 n0 n1] w R :=
 yaB Tryz.wide_mixed (an:=[]) Tryz.func141 rfl rfl (by kernel_rfl) rfl (Eq.mpr (by kernel_rfl) h)
theorem yMu {a0:BA} (h :
 brB (!(a0.toList == (⟨#[]⟩:BA).toList)) (
 brB (decide ((a0.size:Int) ≤ 16)) (
 Calls pP 156 #[.string a0,(.func (.func 155) #[] #[])] w fun e w3 => ∃ t4,e = .returned (.bool t4) ∧
 R (.bool (!t4)) w3)
 (
 R (.bool false) w))
 (
 R (.bool false) w)) :
 CR pP 122 #[.string a0] w R :=
 yaB Tryz.wide_mixed (an:=[]) Tryz.func122 rfl rfl (by kernel_rfl) rfl (Eq.mpr (by kernel_rfl) h)
theorem yMv (h :
 brB (decide (i0 < 97)) (
 brB (decide (i0 < 48)) (
 R (.bool (i0 != 45)) w)
 (
 brB (decide (i0 > 57)) (
 R (.bool (i0 != 45)) w)
 (
 R (.bool false) w)))
 (
 brB (decide (i0 > 122)) (
 brB (decide (i0 < 48)) (
 R (.bool (i0 != 45)) w)
 (
 brB (decide (i0 > 57)) (
 R (.bool (i0 != 45)) w)
 (
 R (.bool false) w)))
 (
 R (.bool false) w))) :
 CR pP 155 #[.int .i32 i0] w R :=
 yaB Tryz.wide_mixed (an:=[]) Tryz.func155 rfl rfl (by kernel_rfl) rfl (Eq.mpr (by kernel_rfl) h)
end
def num (n:Int):Bool:=decide (0 ≤ n ∧ n ≤ 1099511627776)
theorem yAb (n:Int) (w:World):Calls pP 240 #[.int .i64 n] w fun e w' => e = .returned (.bool (num n)) ∧ w' = w :=
 ya0 (yMq (yaC (fun h => ⟨by simp [num]; omega,rfl⟩) (fun h => ⟨by simp [num]; omega,rfl⟩)))
def yMw (hk tomb:Bool) (k v:Nat):Int :=
 if (!hk && decide (k ≠ 0)) || (tomb && (!hk || decide (v ≠ 0))) then 30 else if k > 64 ∨ v > 512 then 2 else 0
def yjS (r:PRec):Int:=yMw r.hk r.tomb r.key.size r.val.size
theorem yhY (r:PRec) (w:World):Calls pP 93 #[r.v] w fun e w' => e = .returned (.int .i64 (yjS r)) ∧ Mod [] w w':=by
 obtain ⟨hk,key,tomb,val⟩:=r
 refine ya0 (yMr ?_)
 intro b1 f1
 have e1:(!(key.toList == (⟨#[]⟩:ByteArray).toList)) = decide (key.size ≠ 0):=by rw [yvH]; simp [yz9]
 have e2:(!(val.toList == (⟨#[]⟩:ByteArray).toList)) = decide (val.size ≠ 0):=by rw [yvH]; simp [yz9]
 rw [e1,e2]
 clear e1 e2
 unfold yjS
 generalize key.size = k
 generalize val.size = v
 repeat' (first | refine yaE (fun _ => ?_) (fun _ => ?_) | (intro w' A))
 all_goals
  refine ⟨congrArg (Value.int .i64) ?_,Adv.mod (by assumption)⟩
  unfold yMw
  cases hk <;> cases tomb <;> simp at * <;> (repeat' split) <;> omega
def okC (c:Int):Bool:=decide (97 ≤ c ∧ c ≤ 122) || decide (48 ≤ c ∧ c ≤ 57) || decide (c = 45)
def ybQ (s:ByteArray):Bool:=decide (1 ≤ s.size ∧ s.size ≤ 16) && s.data.toList.all fun b => okC b.toNat
theorem ymI {α:Type} {l1 l2:List α} {k:Nat} {x:α} (ht:l1.take k = l2.take k) (h1:l1[k]? = some x) (h2:l2[k]? = some x):l1.take (k + 1) = l2.take (k + 1):=by
 rw [List.take_add_one,List.take_add_one,ht,h1,h2]
theorem yJs {w:World} {a1 a2:Option Addr} {n1 c1 n2 c2:Nat} {l1 l2:List PPart} (h1:ybF w 2 yiH a1 n1 l1) (h2:ybF w 2 yiH a2 n2 l2) (hl:l1.length ≤ 1000000) :
  Calls pP 120 #[.slice a1 n1 c1,.slice a2 n2 c2] w fun e w' => e = .returned (.bool (decide (l1 = l2))) ∧ Mod [] w w':=by
 refine ya0 (yMs ?_)
 have e1:=h1.1
 have e2:=h2.1
 refine yaE (fun h => ⟨congrArg Value.bool (decide_eq_false fun e => ?_).symm,Mod.refl _⟩) fun h => ?_
 ·subst e
  rw [e1,e2] at h
  simp at h
 have hlen:l1.length = l2.length:=by
  simp at h
  omega
 refine yE6 (fun mm x w' => ∃ k:Nat,x = k ∧ k ≤ l1.length ∧ l1.take k = l2.take k ∧ Mod [] w w' ∧ mm = l1.length - k) l1.length ⟨0,rfl,by omega,by simp,Mod.refl _,rfl⟩ ?_
 rintro mm x w1 ⟨k,rfl,hk,ht,M,rfl⟩
 refine yaC (fun hlt => ?_) fun hge => ?_
 ·have g1:k < l1.length:=by omega
  have g2:k < l2.length:=by omega
  obtain ⟨x,hx⟩:∃ x,l1[k]? = some x:=⟨_,List.getElem?_eq_getElem g1⟩
  obtain ⟨y,hy⟩:∃ y,l2[k]? = some y:=⟨_,List.getElem?_eq_getElem g2⟩
  refine (h1.keep0 M).ix hx fun q hq => yaL (by simpa [add_zero] using hq 0 _ rfl) (yaK (hq 1 _ rfl) ?_)
  refine (h2.keep0 M).ix hy fun q hq => yaL (by simpa [add_zero] using hq 0 _ rfl) (yaK (hq 1 _ rfl) ?_)
  refine ⟨_,fun w' _ => neP x y _ _ w',?_⟩
  refine yaC (fun hne => ?_) fun heq => ?_
  ·intro w2 A2
   refine ⟨congrArg Value.bool (decide_eq_false fun e => hne ?_).symm,M.go0 A2.mod (by simp)⟩
   subst e
   rw [hx] at hy
   exact Option.some.inj hy
  ·intro w2 A2
   have he:x = y:=Decidable.not_not.1 heq
   subst he
   exact yE5 (l1.length - (k + 1)) (by omega) ⟨k + 1,by rw [yaI (by omega) (by omega)]; omega,by omega,ymI ht hx hy,M.go0 A2.mod (by simp),rfl⟩
 ·have hk:k = l1.length:=by omega
  subst hk
  rw [List.take_length,hlen,List.take_length] at ht
  exact ⟨congrArg Value.bool (decide_eq_true ht).symm,M⟩
theorem yJt:(Tryz.prog.info? 76).map (fun i => (i.zero,i.size,i.bytes)) = some (some (.agg #[.int .i64 0,.bool false,.string ByteArray.empty,.bool false,.string ByteArray.empty]),5,56):=by kernel_rfl
theorem yJu:(Tryz.prog.info? 33).map (fun i => (i.zero,i.size,i.bytes)) = some (some (.agg #[.string ByteArray.empty,.int .i64 0]),2,24):=by kernel_rfl
theorem yxS (x:PFound):∀ u ∈ yjH x,u.oneCell' = true:=by simp [yjH,Value.oneCell']
theorem yp5 (x:PPart):∀ u ∈ yiH x,u.oneCell' = true:=by simp [yiH,Value.oneCell']
theorem ys0 {w:World} {s:Sl} {l:List PFound} (h:ybF w 5 yjH s.a s.n l) (hl:l.length ≤ 1000000) :
  Calls pP 141 #[.slice s.a s.n s.c] w fun e w' => ∃ v,e = .returned v ∧ ∃ s':Sl,v = .slice s'.a s'.n s'.c ∧ Row w' w.heap.size 76 5 yjH s'.a s'.n s'.c l ∧ Mod [] w w':=by
 refine yMt ?_
 refine yaE (fun h0 => ?_) fun _ => ?_
 ·have hl0:l = []:=by
   cases l with
   | nil => rfl
   | cons x r => obtain ⟨ad,ha,_⟩:=h.2 0 x rfl; rw [ha] at h0; cases h0
  subst hl0
  exact ⟨⟨none,0,0⟩,rfl,Row.nil ..,Mod.refl _⟩
 ·refine yd6 fun b w1 c1 M1 f1 => ?_
  obtain ⟨i0,hi,hz0,hz1,hz2⟩:=info_parts yJt
  refine ydE (Row.fresh c1 f1) Tryz.underlying27 hi hz0 hz1 hz2 rfl (by decide) (h.keep0 M1) yd1 yxS (by simp; omega) (by simp; unfold maxLen; omega) M1.size fun a' n' c' w2 hR hM => ?_
  exact ⟨⟨a',n',c'⟩,rfl,by simpa using hR,M1.go0 (hM [b] (by simp)) (by simpa using f1)⟩
def ok0 (r:PRep):Bool:=num r.e && num r.off && num r.n && num r.gen
theorem yE7 {α:Type} {p:α → Bool} {l:List α} {k:Nat} {x:α} (hx:l[k]? = some x):(l.take (k + 1)).all p = ((l.take k).all p && p x):=by
 rw [List.take_add_one,hx]; simp
theorem yMg {b:Bool} (h:(!b) = true):b = false:=by cases b <;> simp_all
theorem yJv {b:Bool} (h:(!b) = false):b = true:=by cases b <;> simp_all
def yJw:Prop:=∀ (s:ByteArray) (w:World),Calls pP 122 #[.string s] w fun e w' => e = .returned (.bool (ybQ s)) ∧ Mod [] w w'
end Go.Proofs.YteldhjiiocmicaaGreat
namespace Go.Proofs
open Go.Shelf
shelf_lay LaysGw.n17 Ggw 17 at Tryz as Tryz.layCF
end Go.Proofs
namespace Go.Proofs.YteldhjiiocmicaaGreat
open Go Go.RowKit
set_option linter.unusedVariables false
set_option linter.unusedSimpArgs false
theorem yJx (c:Int) (w:World):Calls pP 155 #[.int .i32 c] w fun e w' => e = .returned (.bool (!okC c)) ∧ w' = w:=by
 refine ya0 (yMv ?_)
 repeat' (first | refine yaE (fun _ => ?_) (fun _ => ?_) | (intro w' A))
 all_goals
  refine ⟨congrArg Value.bool ?_,rfl⟩
  rw [Bool.eq_iff_iff]
  simp [okC] at *
  try omega
theorem yxT (s:ByteArray):∀ (f pos:Nat),s.size ≤ pos + f → (0 ≤ Lib.idxFuncFrom (fun x => !okC x) true s f pos ↔ ∃ i b,pos ≤ i ∧ s.data.toList[i]? = some b ∧ okC (b.toNat:Int) = false)
 | 0,pos,h => by
  constructor
  ·intro h; simp [Lib.idxFuncFrom] at h
  ·rintro ⟨i,b,h1,h2,_⟩
   have:=(List.getElem?_eq_some_iff.1 h2).1
   simp at this; omega
 | f + 1,pos,h => by
  unfold Lib.idxFuncFrom
  split
  ·rename_i hp
   have hd:s.data.toList[pos]? = some s[pos]:=by
    rw [List.getElem?_eq_getElem (by simpa using hp)]; rfl
   by_cases ha:(s[pos]).toNat < 128
   ·rw [decode_ascii s pos hp ha]
    have ih:=yxT s f (pos + 1) (by omega)
    by_cases ho:okC ((s[pos]).toNat:Int) = true
    ·simp only [ho,Bool.not_true]
     rw [if_neg (by decide),ih]
     constructor
     ·rintro ⟨i,b,h1,h2,h3⟩; exact ⟨i,b,by omega,h2,h3⟩
     ·rintro ⟨i,b,h1,h2,h3⟩
      refine ⟨i,b,?_,h2,h3⟩
      rcases Nat.lt_or_ge pos i with h4 | h4
      ·exact h4
      ·have:i = pos:=by omega
       subst this
       rw [hd] at h2; cases h2
       rw [ho] at h3; cases h3
    ·have ho':okC ((s[pos]).toNat:Int) = false:=by simpa using ho
     simp only [ho',Bool.not_false]
     rw [if_pos trivial]
     exact ⟨fun _ => ⟨pos,_,Nat.le_refl _,hd,ho'⟩,fun _ => by omega⟩
   ·have h1:=decode_high s pos hp (by omega)
    have ho:okC ((Utf8.decode s pos).1:Int) = false:=by simp [okC]; omega
    have ho':okC ((s[pos]).toNat:Int) = false:=by simp [okC]; omega
    simp only [ho,Bool.not_false]
    rw [if_pos trivial]
    exact ⟨fun _ => ⟨pos,_,Nat.le_refl _,hd,ho'⟩,fun _ => by omega⟩
  ·rename_i hp
   constructor
   ·intro h; simp at h
   ·rintro ⟨i,b,h1,h2,_⟩
    have:=(List.getElem?_eq_some_iff.1 h2).1
    simp at this; omega
theorem ygN:yJw:=by
 intro s w
 refine ya0 (yMu ?_)
 rw [yvH]
 refine yaE (fun g1 => ?_) (fun g1 => ⟨?_,Mod.refl _⟩)
 rotate_left
 ·have g1:=yJv g1
  have h0:=(yz9 s).1 (of_decide_eq_true g1)
  simp [ybQ,h0]
 have h1:s.size ≠ 0:=fun e => by rw [decide_eq_true ((yz9 s).2 e)] at g1; cases g1
 refine yaC (fun g2 => ?_) (fun g2 => ⟨by simp [ybQ]; omega,Mod.refl _⟩)
 have hC:=Any.strings_ContainsFunc_grows Tryz.layCF 155 #[] (enters_of Tryz.func155 (by kernel_rfl) rfl) (fun x => !okC x) s w
  (fun W x _ _ => (yJx (x:Int) W).mono fun e w' ⟨h,h'⟩ => ⟨h,by rw [h']; exact Below.refl _ _⟩)
 refine hC.mono ?_
 rintro e w1 ⟨rfl,hb⟩
 refine ⟨_,rfl,?_,Mod.of_below hb⟩
 refine congrArg Value.bool ?_
 have ho:=yxT s s.size 0 (by omega)
 rw [Bool.eq_iff_iff]
 simp only [ybQ,Bool.not_eq_true',decide_eq_false_iff_not,Bool.and_eq_true,decide_eq_true_eq,List.all_eq_true]
 unfold Lib.idxFunc
 rw [ho]
 constructor
 ·intro h
  refine ⟨by omega,fun b hb => ?_⟩
  obtain ⟨i,hi⟩:=List.getElem?_of_mem hb
  by_cases hk:okC (b.toNat:Int) = true
  ·exact hk
  ·exact absurd ⟨i,b,Nat.zero_le _,hi,by simpa using hk⟩ h
 ·rintro ⟨_,h⟩ ⟨i,b,_,hi,hk⟩
  rw [h b (List.mem_of_getElem? hi)] at hk; cases hk
end Go.Proofs.YteldhjiiocmicaaGreat
namespace Go.Proofs.YteldhjiiocmicaaGreat
open Go Go.RowKit
set_option linter.all false
def bs (l:List UInt8):ByteArray:=⟨l.toArray⟩
def yHF (c:Int):Int:=yEP .u32 (Int.fdiv c (2 ^ (min (Int.toNat 1) 32))) (ysD .u32 3988292384 (IntKind.wrap .u32 (0 - (ysD .u32 c 1))))
def yJy (c:Int):Nat → Int
 | 0 => c
 | k + 1 => yHF (yJy c k)
def yMx (j:Nat):Int:=yJy (IntKind.wrap .u32 (j:Nat)) 4
def yHG (c:Int) (b:UInt8):Int :=
 yEP .u32 (Int.fdiv (yEP .u32 (Int.fdiv (yEP .u32 c (IntKind.wrap .u32 (b.toNat:Nat))) (2 ^ (min (Int.toNat 4) 32))) (yMx (Int.tmod (yEP .u32 c (IntKind.wrap .u32 (b.toNat:Nat))) 16).toNat)) (2 ^ (min (Int.toNat 4) 32)))
  (yMx (Int.tmod (yEP .u32 (Int.fdiv (yEP .u32 c (IntKind.wrap .u32 (b.toNat:Nat))) (2 ^ (min (Int.toNat 4) 32))) (yMx (Int.tmod (yEP .u32 c (IntKind.wrap .u32 (b.toNat:Nat))) 16).toNat)) 16).toNat)
def yNh (c:Int) (l:List UInt8):Int:=yEP .u32 4294967295 (l.foldl yHG (yEP .u32 4294967295 c))
def yNi (l:List UInt8):Int:=yNh 0 l
def lbI (n:Int) (k:Nat):Int:=IntKind.wrap .u8 (Int.fdiv n (2 ^ (min (Int.toNat ((8 * k:Nat):Int)) 32)))
def lb (n:Int) (k:Nat):UInt8:=UInt8.ofNat (lbI n k).toNat
def yMy (n:Int):List UInt8:=[lb n 0,lb n 1,lb n 2,lb n 3]
def vg:Nat → List UInt8 → Option (Nat × Nat)
 | _,[] => none
 | k,c :: r => if (k = 9 ∧ 1 < c.toNat) ∨ (0 < k ∧ c.toNat = 0) then none
  else if c.toNat < 128 then some (c.toNat,1)
  else (vg (k + 1) r).map fun p => (c.toNat % 128 + 128 * p.1,p.2 + 1)
def tg (lim:Nat) (l:List UInt8):Option (ByteArray × Nat):=match vg 0 l with
 | none => none
 | some (n,m) => if n ≤ lim ∧ n ≤ l.length - m then some (bs ((l.drop m).take n),m + n) else none
def cg (lim:Nat) (l:List UInt8):Option (ByteArray × Nat):=match tg lim l with
 | none => none
 | some (t,m) => if 4 ≤ l.length - m ∧ (l.drop m).take 4 = yMy (yNi t.data.toList) then some (t,m + 4) else none
theorem ybF.ixW {α:Type} {w:World} {sz:Nat} {enc:α → List Value} {a:Option Addr} {n:Nat} {l:List α} {i:Nat} {x:α} {F:Addr → Prop} (h:ybF w sz enc a n l) (hx:l[i]? = some x)
  (hF:∀ q,(∀ w',Mod [] w w' → ∀ j v,(enc x)[j]? = some v → w'.cell? (q.add j) = some v) → F q):ixA a n (i:Int) sz F:=by
 obtain ⟨ad,ha,hc⟩:=h.2 i x hx
 have hl:=(List.getElem?_eq_some_iff.1 hx).1
 refine ⟨ad,ha,by omega,by rw [h.1]; omega,hF _ fun w' M j v hj => ?_⟩
 obtain ⟨ad',ha',hc'⟩:=(h.keep0 M).2 i x hx
 rw [ha] at ha'; cases ha'
 simpa using hc' j v hj
theorem ybF.take {α:Type} {w:World} {sz:Nat} {enc:α → List Value} {a:Option Addr} {n:Nat} {l:List α} (h:ybF w sz enc a n l) {k:Nat} (hk:k ≤ n):ybF w sz enc a k (l.take k):=by
 refine ⟨by rw [List.length_take,← h.1]; omega,fun i x hx => ?_⟩
 rw [List.getElem?_take] at hx
 split at hx
 ·exact h.2 i x hx
 ·cases hx
theorem ybF.drop {α:Type} {w:World} {sz:Nat} {enc:α → List Value} {ad:Addr} {n:Nat} {l:List α} (h:ybF w sz enc (some ad) n l) {k:Nat} (hk:k ≤ n):ybF w sz enc (some (ad.add (k * sz))) (n - k) (l.drop k):=by
 refine ⟨by rw [List.length_drop,← h.1],fun i x hx => ?_⟩
 rw [List.getElem?_drop] at hx
 obtain ⟨ad',ha,hc⟩:=h.2 _ x hx
 cases ha
 refine ⟨_,rfl,fun j v hj => ?_⟩
 have:=hc j v hj
 rw [yvG] at this ⊢
 rw [yvG]
 rw [show k * sz + (i * sz + j) = (k + i) * sz + j by rw [Nat.add_mul,Nat.add_assoc]]
 exact this
theorem yp6 {α:Type} {w:World} {sz:Nat} {enc:α → List Value} {a:Option Addr} {n c:Nat} {l:List α} {k:Nat} {F:Option Addr → Nat → Nat → Prop} (h:ybF w sz enc a n l) (hk:k ≤ n) (hc:n ≤ c) (hF:∀ a' c',ybF w sz enc a' k (l.take k) → F a' k c'):slV a c 0 (k:Int) ((c:Nat):Int) sz F:=by
 refine ⟨by omega,by omega,by omega,by omega,?_⟩
 have e1:((k:Int) - 0).toNat = k:=by omega
 rw [e1]
 refine hF _ _ ?_
 have h':=h.take hk
 split
 ·exact h'
 ·cases a with
  | none => exact h'
  | some ad => simpa [Addr.add] using h'
theorem yxU {α:Type} {w:World} {sz:Nat} {enc:α → List Value} {a:Option Addr} {n c:Nat} {l:List α} {k:Nat} {F:Option Addr → Nat → Nat → Prop} (h:ybF w sz enc a n l) (hk:k ≤ n) (hc:n ≤ c) (hF:∀ a' c',ybF w sz enc a' (n - k) (l.drop k) → F a' (n - k) c'):slV a c (k:Int) ((n:Nat):Int) (c:Int) sz F:=by
 refine ⟨by omega,by omega,by omega,by omega,?_⟩
 have e1:((n:Int) - k).toNat = n - k:=by omega
 rw [e1]
 refine hF _ _ ?_
 split
 ·rename_i e
  have e:n = k:=by omega
  subst e
  have hl:l.drop n = []:=List.drop_of_length_le (by rw [h.1]; omega)
  rw [hl,Nat.sub_self]
  exact ⟨rfl,fun i x hx => by cases hx⟩
 ·rename_i e
  cases a with
  | none =>
   have hl:l = []:=by
    cases l with
    | nil => rfl
    | cons x r => obtain ⟨ad,ha,_⟩:=h.2 0 x rfl; cases ha
   subst hl
   have:=h.1
   exact ⟨by simp at this; simp; omega,fun i x hx => by simp at hx⟩
  | some ad => simpa using h.drop hk
theorem Row.cap {α:Type} {w:World} {base T sz:Nat} {enc:α → List Value} {a:Option Addr} {n c:Nat} {l:List α} (h:Row w base T sz enc a n c l):n ≤ c:=by
 obtain ⟨hn,hl,ho⟩:=h
 rcases ho with ⟨ho,he⟩ | ⟨g,cap,cur,hv,hb,hh,r⟩
 ·simp only [Value.slice.injEq] at ho; omega
 ·simp only [Value.slice.injEq] at hv
  have:=r.1
  omega
theorem yhZ:∀ (vs:List Value) (c:Array Value) (i j:Nat),i + vs.length ≤ c.size → (ybJ c i vs).toList[j]? = if i ≤ j ∧ j < i + vs.length then vs[j - i]? else c.toList[j]?
 | [],c,i,j,h => by
  rw [if_neg (by simp)]; rfl
 | v :: r,c,i,j,h => by
  simp only [List.length_cons] at h
  rw [ybJ,yhZ r _ _ _ (by simp; omega)]
  simp only [Array.toList_setIfInBounds,List.length_cons]
  by_cases h1:i = j
  ·subst h1
   have hi:i < c.toList.length:=by simp; omega
   rw [if_neg (by omega),if_pos (by omega),List.getElem?_set_self hi,Nat.sub_self]; rfl
  ·by_cases h2:i + 1 ≤ j ∧ j < i + 1 + r.length
   ·rw [if_pos h2,if_pos (by omega),show j - i = (j - (i + 1)) + 1 by omega]; rfl
   ·rw [if_neg h2,if_neg (by omega),List.getElem?_set_ne h1]
theorem Row.store {α:Type} {w:World} {base T sz:Nat} {enc:α → List Value} {a:Option Addr} {n c:Nat} {l:List α} {i:Nat} {x y:α} {F:World → Prop} (h:Row w base T sz enc a n c l) (hs:∀ x,(enc x).length = sz) (hl:(enc y).all yhH = true) (hx:l[i]? = some x)
  (hF:∀ ad w',a = some ad → Row w' base T sz enc a n c (l.set i y) → Mod [ad.block] w w' → F w'):ixA a n (i:Int) sz fun q => st w q (enc y) F:=by
 obtain ⟨hn,hlen,ho⟩:=h
 have hi:i < l.length:=(List.getElem?_eq_some_iff.1 hx).1
 rcases ho with ⟨ho,h0⟩ | ⟨g,cap,cur,hv,hb,hg,hnc,hcm,hsz,htk⟩
 ·omega
 ·simp only [Value.slice.injEq] at hv
  obtain ⟨rfl,_,rfl⟩:=hv
  have hle:(i + 1) * sz ≤ c * sz:=Nat.mul_le_mul_right sz (by omega)
  have hle1:i * sz + sz ≤ cur.size:=by rw [hsz]; rw [Nat.add_mul,Nat.one_mul] at hle; exact hle
  refine ⟨⟨g,0,none⟩,rfl,by omega,by omega,?_⟩
  have ea:(Addr.add ⟨g,0,none⟩ (((i:Int).toNat) * sz)) = ⟨g,i * sz,none⟩:=by
   rw [Int.toNat_natCast]; unfold Addr.add; split <;> simp_all
  rw [ea]
  refine yeY hg hl (by rw [hs]; exact hle1) fun w' h1 h2 => hF ⟨g,0,none⟩ w' rfl ⟨by rw [List.length_set]; exact hn,?_,.inr ⟨g,c,ybJ cur (i * sz) (enc y),rfl,hb,h1,hnc,hcm,by rw [ykU]; exact hsz,?_⟩⟩ h2
  ·rw [ye0 hs,List.length_set,hn]
  ·refine List.ext_getElem? fun j => ?_
   rw [List.getElem?_take]
   by_cases hj:j < n * sz
   ·rw [if_pos hj,yhZ _ _ _ _ (by rw [hs]; exact hle1),hs]
    have hsz0:0 < sz:=Nat.pos_of_ne_zero fun e => by subst e; simp at hj
    have hq:j / sz < l.length:=Nat.div_lt_of_lt_mul (by rw [Nat.mul_comm,← hn]; exact hj)
    have hr:=Nat.mod_lt j hsz0
    have e:j / sz * sz + j % sz = j:=by rw [Nat.mul_comm]; exact Nat.div_add_mod j sz
    by_cases he:j / sz = i
    ·rw [he] at e
     have hm:=ycT hs (l.set i y) i (j % sz) y (List.getElem?_set_self hi) hr
     rw [e] at hm
     rw [hm,if_pos (by omega)]
     congr 1
     omega
    ·have hg':(l.set i y)[j / sz]? = some l[j / sz]:=by rw [List.getElem?_set_ne (Ne.symm he)]; exact List.getElem?_eq_getElem hq
     have hm:=ycT hs (l.set i y) (j / sz) (j % sz) _ hg' hr
     have hm2:=ycT hs l (j / sz) (j % sz) _ (List.getElem?_eq_getElem hq) hr
     rw [e] at hm hm2
     rw [hm,← hm2,if_neg,← htk,List.getElem?_take,if_pos hj]
     rintro ⟨g1,g2⟩
     rcases Nat.lt_or_gt_of_ne he with h3 | h3
     ·have:=Nat.mul_le_mul_right sz (show j / sz + 1 ≤ i by omega)
      rw [Nat.add_mul] at this; omega
     ·have:=Nat.mul_le_mul_right sz (show i + 1 ≤ j / sz by omega)
      rw [Nat.add_mul] at this; omega
   ·rw [if_neg hj]
    rw [List.getElem?_eq_none]
    rw [ye0 hs,List.length_set,← hn]; omega
structure PBatch where
 prod:Int
 epoch:Int
 seq:Int
 recs:List PRec
 deriving DecidableEq
structure POp where
 kind:Int
 part:PPart
 n:Int
 off:Int
 b:PBatch
 g:ByteArray
 m:ByteArray
 gen:Int
 robin:Bool
 topics:List ByteArray
 deriving DecidableEq
structure PCall where
 c:Int
 n:Int
 op:POp
 deriving DecidableEq
def ymJ (r:PRec):List Value:=[.bool r.hk,.string r.key,.bool r.tomb,.string r.val]
def yc8 (s:ByteArray):List Value:=[.string s]
theorem yp7 (r:PRec):(ymJ r).length = 4:=rfl
theorem ydB (s:ByteArray):(yc8 s).length = 1:=rfl
theorem yxV (x:PRec):∀ u ∈ ymJ x,u.oneCell' = true:=by simp [ymJ,Value.oneCell']
theorem yxW (x:ByteArray):∀ u ∈ yc8 x,u.oneCell' = true:=by simp [yc8,Value.oneCell']
def POp.cs (o:POp) (rs ts:Sl):List Value:=[.int .i64 o.kind,.string o.part.t,.int .i64 o.part.n,.int .i64 o.n,.int .i64 o.off,.int .i64 o.b.prod,.int .i64 o.b.epoch,.int .i64 o.b.seq,.slice rs.a rs.n rs.c,.string o.g,.string o.m,.int .i64 o.gen,.bool o.robin,.slice ts.a ts.n ts.c]
def POp.v (o:POp) (rs ts:Sl):Value:=.agg #[.int .i64 o.kind,.string o.part.t,.int .i64 o.part.n,.int .i64 o.n,.int .i64 o.off,.int .i64 o.b.prod,.int .i64 o.b.epoch,.int .i64 o.b.seq,.slice rs.a rs.n rs.c,.string o.g,.string o.m,.int .i64 o.gen,.bool o.robin,.slice ts.a ts.n ts.c]
def ykX:PBatch:=⟨0,0,0,[]⟩
def op0:POp:=⟨0,⟨⟨#[]⟩,0⟩,0,0,ykX,⟨#[]⟩,⟨#[]⟩,0,false,[]⟩
structure OpAt (w:World) (o:POp) (rs ts:Sl):Prop where
 recs:ybF w 4 ymJ rs.a rs.n o.b.recs
 topics:ybF w 1 yc8 ts.a ts.n o.topics
 lr:o.b.recs.length ≤ 1000000
 lt:o.topics.length ≤ 1000000
structure OpOwn (w:World) (base:Nat) (o:POp) (rs ts:Sl):Prop where
 recs:Row w base 65 4 ymJ rs.a rs.n rs.c o.b.recs
 topics:Row w base 9 1 yc8 ts.a ts.n ts.c o.topics
 lr:o.b.recs.length ≤ 1000000
 lt:o.topics.length ≤ 1000000
theorem OpOwn.at {w:World} {base:Nat} {o:POp} {rs ts:Sl} (h:OpOwn w base o rs ts):OpAt w o rs ts:=⟨h.recs.sl yp7,h.topics.sl ydB,h.lr,h.lt⟩
theorem OpAt.keep0 {w w':World} {o:POp} {rs ts:Sl} (h:OpAt w o rs ts) (M:Mod [] w w'):OpAt w' o rs ts:=⟨h.recs.keep0 M,h.topics.keep0 M,h.lr,h.lt⟩
theorem yHH (w:World) (base:Nat):OpOwn w base op0 ⟨none,0,0⟩ ⟨none,0,0⟩:=⟨Row.nil ..,Row.nil ..,by simp [op0,ykX],by simp [op0]⟩
def yfM (b:PBatch):Int :=
 if (num b.prod && num b.epoch && num b.seq) = false then 1 else if b.recs.length = 0 then 30 else if b.recs.length > 16 then 2 else
  match b.recs.find? fun r => yjS r ≠ 0 with
  | none => 0
  | some r => yjS r
def yMh (k:Int):List Nat :=
 if k = 0 then [116,110] else if k = 1 then [110] else if k = 2 then [112,98] else if k = 3 then [112,111,110] else if k = 4 then [112,111] else if k = 5 then [112]
 else if k = 6 then [103,109,110,114,108] else if k = 7 then [103,109,101] else if k = 8 then [103,109,101] else if k = 9 then [103,109,101] else if k = 10 then [103,109,101,112,111] else if k = 11 then [103,112] else [110]
def ha (k:Int) (c:Nat):Bool:=(yMh k).contains c
def yoI (s:ByteArray):Bool:=decide (s.size = 0)
def yb8 (s t:ByteArray):Bool:=Op.bytesLess s.toList t.toList
def ybB:List ByteArray → Bool
 | s :: t :: r => yb8 s t && ybB (t :: r)
 | _ => true
def ykY (l:List ByteArray):Bool:=decide (1 ≤ l.length ∧ l.length ≤ 8) && l.all ybQ && ybB l
def ymK (o:POp):Bool :=
 (ha o.kind 112 || ha o.kind 116 || yoI o.part.t) && (ha o.kind 112 || decide (o.part.n = 0)) && (ha o.kind 110 || decide (o.n = 0)) && (ha o.kind 111 || decide (o.off = 0)) &&
 (ha o.kind 98 || decide (o.b = ykX)) && (ha o.kind 103 || yoI o.g) && (ha o.kind 109 || yoI o.m) && (ha o.kind 101 || decide (o.gen = 0)) && (ha o.kind 114 || (!o.robin && decide (o.topics = [])))
def yvJ (o:POp):Bool :=
 ymK o && (!(ha o.kind 112 || ha o.kind 116) || ybQ o.part.t) && (!ha o.kind 103 || ybQ o.g) && (!ha o.kind 109 || ybQ o.m) && (!ha o.kind 108 || ykY o.topics)
def opE (o:POp):Int :=
 if o.kind < 0 ∨ o.kind > 12 then 41 else if yvJ o = false then 40 else if (num o.part.n && num o.n && num o.off && num o.gen) = false then 1 else if o.kind = 2 then yfM o.b else 0
def chF (o:POp):Bool:=(ha o.kind 103 && !ybQ o.g) || (ha o.kind 109 && !ybQ o.m) || ((ha o.kind 112 || ha o.kind 116) && !ybQ o.part.t) || (ha o.kind 108 && !ykY o.topics)
def chA (o:POp):Bool:=(ha o.kind 112 && !num o.part.n) || (ha o.kind 110 && !num o.n) || (ha o.kind 111 && !num o.off) || (ha o.kind 101 && !num o.gen)
def chE (o:POp):Int:=if ha o.kind 98 then yfM o.b else 0
def es:ByteArray:=⟨#[]⟩
def chO (o:POp):POp:=⟨o.kind,⟨if ha o.kind 112 || ha o.kind 116 then es else o.part.t,if ha o.kind 112 then 0 else o.part.n⟩,if ha o.kind 110 then 0 else o.n,if ha o.kind 111 then 0 else o.off,
 if ha o.kind 98 then ykX else o.b,if ha o.kind 103 then es else o.g,if ha o.kind 109 then es else o.m,if ha o.kind 101 then 0 else o.gen,if ha o.kind 114 then false else o.robin,if ha o.kind 114 then [] else o.topics⟩
theorem ymL (s:ByteArray):yoI s = decide (s = es):=by
 unfold yoI es
 by_cases h:s.size = 0
 ·rw [decide_eq_true h,decide_eq_true ((yz9 s).2 h)]
 ·rw [decide_eq_false h,decide_eq_false fun e => h ((yz9 s).1 e)]
theorem yHI {α:Type} (p:Bool) (x d:α):((if p = true then d else x) = d) ↔ (p = true ∨ x = d):=by cases p <;> simp
theorem yE8 {α:Type} (p t:Bool) (x d:α):((if p = true ∨ t = true then d else x) = d) ↔ (p = true ∨ t = true ∨ x = d):=by cases p <;> cases t <;> simp
theorem yE9 (o:POp):decide ({ chO o with kind:=0 } = op0) = ymK o:=by
 rw [Bool.eq_iff_iff,decide_eq_true_iff]
 unfold ymK
 rw [ymL,ymL,ymL]
 unfold chO op0
 simp only [POp.mk.injEq,PPart.mk.injEq,true_and,Bool.and_eq_true,decide_eq_true_iff,yE8,show (⟨#[]⟩:ByteArray) = es from rfl,yHI,Bool.or_eq_true,or_and_left,Bool.not_eq_true',and_assoc,or_assoc]
theorem yMi {p:Bool} {x:Int} (h:(p || decide (x = 0)) = true):num x = !(p && !num x):=by
 cases p
 ·have:x = 0:=by simpa using h
  subst this; rfl
 ·simp
theorem yNj {k:Int} (h0:¬ (k < 0 ∨ k > 12)):ha k 98 = decide (k = 2):=by
 have:k = 0 ∨ k = 1 ∨ k = 2 ∨ k = 3 ∨ k = 4 ∨ k = 5 ∨ k = 6 ∨ k = 7 ∨ k = 8 ∨ k = 9 ∨ k = 10 ∨ k = 11 ∨ k = 12:=by omega
 rcases this with rfl | rfl | rfl | rfl | rfl | rfl | rfl | rfl | rfl | rfl | rfl | rfl | rfl <;> decide
theorem yCe (o:POp) (h0:¬ (o.kind < 0 ∨ o.kind > 12)):opE o = if (chF o || !decide ({ chO o with kind:=0 } = op0)) = true then 40 else if chA o = true then 1 else chE o:=by
 rw [yE9,opE,if_neg h0]
 have hf:yvJ o = !(chF o || !ymK o):=by
  unfold yvJ chF
  generalize ymK o = a
  generalize ha o.kind 103 = b1
  generalize ha o.kind 109 = b2
  generalize (ha o.kind 112 || ha o.kind 116) = b3
  generalize ha o.kind 108 = b4
  cases a <;> cases b1 <;> cases b2 <;> cases b3 <;> cases b4 <;> simp [Bool.and_comm,Bool.and_assoc,Bool.and_left_comm]
 rw [hf]
 cases h:(chF o || !ymK o)
 ·simp only [Bool.not_false,Bool.true_eq_false,if_false,Bool.false_eq_true]
  have ho:ymK o = true:=by cases hh:ymK o; rw [hh] at h; simp at h; rfl
  unfold ymK at ho
  simp only [Bool.and_eq_true] at ho
  obtain ⟨⟨⟨⟨⟨⟨⟨⟨_,h1⟩,h2⟩,h3⟩,_⟩,_⟩,_⟩,h4⟩,_⟩:=ho
  have e:(num o.part.n && num o.n && num o.off && num o.gen) = !chA o:=by
   rw [yMi h1,yMi h2,yMi h3,yMi h4]
   unfold chA
   simp only [Bool.not_or,Bool.and_assoc]
  rw [e,chE,yNj h0]
  cases chA o <;> simp
 ·simp
section
set_option maxRecDepth 100000
variable {R:VWP} {w w0:World} {m:Nat} {i0 i1 i2 i3 i4 i5 i6 i7 i8 i9 j0 j1 j2 j3 j4 j5 j6 j7 j8 j9 k0 k1 k2 k3 k4 k5 k6 k7 k8 k9 l0 l1 l2 l3 l4 l5 l6 l7 l8 l9:Int} {s0 s1 s2 s3 s4 s5 s6 s7 s8 s9 t0 t1 t2 t3 t4 t5 t6 t7 t8 t9:BA} {n0 n1 n2 n3 n4 n5 n6 n7 n8 n9 o0 o1 o2 o3 o4 o5 o6 o7 o8 o9 p0 p1 p2 p3 p4 p5 p6 p7 p8 p9:Nat} {q0 q1 q2 q3 q4 q5 q6 q7 q8 q9 r0 r1 r2 r3 r4 r5 r6 r7 r8 r9:OA} {B0 B1 B2 B3 B4 B5 B6 B7 B8 B9:Bool} {M0 M1 M2 M3:Option Nat} {V0 V1 V2 V3 V4 V5:Value} {A0 A1 A2:Addr}
theorem yMz (h :
 brB (decide (i0 ≥ 0)) (
 R (.bool (decide (i0 ≤ 1099511627776))) w)
 (
 R (.bool false) w)) :
 CR pP 241 #[.int .i64 i0] w R :=
 yaB Tryz.wide_mixed (an:=[]) Tryz.func241 rfl rfl (by kernel_rfl) rfl (Eq.mpr (by kernel_rfl) h)
def yCf:LA:=⟨[0,0,1,0,1,1],[34,35,36],[],1,[]⟩
def yFa:List LA:=[yCf]
abbrev yMN:=dnF pP yFa (code Tryz.f237)
abbrev yNR:=yaR pP yFa (code Tryz.f237)
abbrev yMO (p:List Nat) (K:List Kh) (R:VWP):=yaR pP yFa (code Tryz.f237) p K (ybE pP Tryz.f237 [] R)
def yAc (a6:OA) (a8 a7:Nat) (a9:Int) (bm0:Nat) (a3 a4 a5:Int) (a0:OA) (a2 a1:Nat):Int → List Value × List TB:=fun b0 => ([.slice a6 a8 a7,.int .i64 a9,.int .i64 b0],[⟨bm0,36,[.int .i64 a3,.int .i64 a4,.int .i64 a5,.slice a0 a2 a1],false⟩])
abbrev yJz (a6:OA) (a8 a7:Nat) (a9:Int) (bm0:Nat) (a3 a4 a5:Int) (a0:OA) (a2 a1:Nat) (I:Nat → Int → World → Prop) (m:Nat):Kh:=KG (yAc a6 a8 a7 a9 bm0 a3 a4 a5 a0 a2 a1) (U1 I) m
theorem yFb {I:Nat → Int → World → Prop} (m':Nat) (h1:m' < m) (h2:I m' i4 w):KS (yJz q0 n0 n1 i0 n2 i1 i2 i3 q1 n3 n4 I m) (yAc q0 n0 n1 i0 n2 i1 i2 i3 q1 n3 n4 i4) w:=⟨m',h1,_,rfl,rfl,h2⟩
theorem yFc (I:Nat → Int → World → Prop) (m0:Nat) (h0:I m0 i4 w0)
 (hr:∀ m a6 w,I m a6 w →
 brB (decide (a6 < i0)) (
 ixA q0 n0 a6 4 fun b1 =>
 yb9 w b1 fun b9 => ya7 w (Addr.add b1 1) fun b7 => yb9 w (Addr.add b1 2) fun c0 => ya7 w (Addr.add b1 3) fun b8 =>
 ∀ b3,w.heap.size ≤ b3 →
 ∀ b4,Adv [] [b3] w b4 →
 Calls pP 93 #[(.agg (Z8 b9 b7 c0 b8))] b4 fun e b5 => ∃ b6,e = .returned (.int .i64 b6) ∧ yaF [n2,b3] b4 b5 ∧
 brB (b6 != 0) (
 R (.int .i64 b6) b5)
 (
 KS (yJz q0 n0 n1 i0 n2 i1 i2 i3 q1 n3 n4 I m) (yAc q0 n0 n1 i0 n2 i1 i2 i3 q1 n3 n4 (IntKind.wrap .i64 (a6 + 1))) b5))
 (
 R (.int .i64 0) w)) :
 yaO yCf (yMN 396 [0,0,1,0,1,1]) (yMO [1,1,0,1,0] [] R) (yAc q0 n0 n1 i0 n2 i1 i2 i3 q1 n3 n4 i4) w0 :=
 lrule (yAc q0 n0 n1 i0 n2 i1 i2 i3 q1 n3 n4) (U1 I) h0 (by rintro m a6 w h; exact ⟨by kernel_rfl,by kernel_rfl,fun js => Eq.mpr (by kernel_rfl) (hr m a6 w h)⟩)
theorem yMA (h :
 ∀ b2,w.heap.size ≤ b2 →
 ∀ a9,Adv [] [b2] w a9 →
 Calls pP 241 #[.int .i64 i0] a9 fun e a7 => ∃ b0,e = .returned (.bool b0) ∧ yaF [b2] a9 a7 ∧
 brB (!b0) (
 R (.int .i64 1) a7)
 (
 Calls pP 241 #[.int .i64 i1] a7 fun e a8 => ∃ b1,e = .returned (.bool b1) ∧ yaF [b2] a7 a8 ∧
 brB (!b1) (
 R (.int .i64 1) a8)
 (
 Calls pP 241 #[.int .i64 i2] a8 fun e a6 => ∃ b3,e = .returned (.bool b3) ∧ yaF [b2] a8 a6 ∧
 brB (!b3) (
 R (.int .i64 1) a6)
 (
 brB ((n0:Int) == 0) (
 R (.int .i64 30) a6)
 (
 brB (decide ((n0:Int) > 16)) (
 R (.int .i64 2) a6)
 (
 yaO yCf (yMN 396 [0,0,1,0,1,1]) (yMO [1,1,0,1,0] [] R) (yAc q0 n0 n1 (n0:Int) b2 i0 i1 i2 q0 n0 n1 0) a6)))))) :
 CR pP 237 #[(.agg (Z5 i0 i1 i2 q0 n0 n1))] w R :=
 yaB Tryz.wide_mixed (an:=yFa) Tryz.func237 rfl rfl (by kernel_rfl) rfl (Eq.mpr (by kernel_rfl) h)
theorem yMB (h :
 ∀ b3,w.heap.size ≤ b3 →
 ∀ b4,w.heap.size ≤ b4 →
 brB (i0 == i3) (
 brB (i1 == i4) (
 brB (i2 == i5) (
 ∀ w8,Adv [] [b4,b3] w w8 →
 Calls pP 135 #[.slice q0 n0 n1,.slice q1 n2 n3] w8 fun e w9 => ∃ b2,e = .returned (.bool b2) ∧ yaF [b3,b4] w8 w9 ∧
 R (.bool b2) w9)
 (
 ∀ b5,Adv [] [b4,b3] w b5 →
 R (.bool false) b5))
 (
 ∀ b6,Adv [] [b4,b3] w b6 →
 R (.bool false) b6))
 (
 ∀ b7,Adv [] [b4,b3] w b7 →
 R (.bool false) b7)) :
 CR pP 81 #[(.agg (Z5 i0 i1 i2 q0 n0 n1)),(.agg (Z5 i3 i4 i5 q1 n2 n3))] w R :=
 yaB Tryz.wide_mixed (an:=[]) Tryz.func81 rfl rfl (by kernel_rfl) rfl (Eq.mpr (by kernel_rfl) h)
theorem yMC {a6:BA} {d0 b8:BA} {b1:BA} {d7 c1:BA} (h :
 ∀ b3,w.heap.size ≤ b3 →
 ∀ b4,w.heap.size ≤ b4 →
 brB (i0 == i8) (
 ∀ w7,Adv [] [b4,b3] w w7 →
 ∃ t8,(∀ w',Mod [] w7 w' → Sem.run pP (do eqGuard .eql 33 (.tmp 13) (.tmp 15) (.agg #[.string a6,.int .i64 i1]) (.agg #[.string b1,.int .i64 i9]); Go.binOp .eql 33 (.agg #[.string a6,.int .i64 i1]) (.agg #[.string b1,.int .i64 i9])) w' = .ok (.bool t8) w') ∧
 brB t8 (
 brB (i2 == j0) (
 brB (i3 == j1) (
 brB (d0.toList == d7.toList) (
 brB (b8.toList == c1.toList) (
 brB (i7 == j5) (
 brB (B0 == B1) (
 Calls pP 81 #[(.agg (Z5 i4 i5 i6 q0 n0 n1)),(.agg (Z5 j2 j3 j4 q2 n4 n5))] w7 fun e d8 => ∃ d9,e = .returned (.bool d9) ∧ yaF [b3,b4] w7 d8 ∧
 brB d9 (
 Calls pP 82 #[.slice q1 n2 n3,.slice q3 n6 n7] d8 fun e e1 => ∃ e0,e = .returned (.bool e0) ∧ yaF [b3,b4] d8 e1 ∧
 R (.bool e0) e1)
 (
 R (.bool false) d8))
 (
 R (.bool false) w7))
 (
 R (.bool false) w7))
 (
 R (.bool false) w7))
 (
 R (.bool false) w7))
 (
 R (.bool false) w7))
 (
 R (.bool false) w7))
 (
 R (.bool false) w7))
 (
 ∀ e2,Adv [] [b4,b3] w e2 →
 R (.bool false) e2)) :
 CR pP 37 #[(.agg (Z0 i0 a6 i1 i2 i3 i4 i5 i6 q0 n0 n1 d0 b8 i7 B0 q1 n2 n3)),(.agg (Z0 i8 b1 i9 j0 j1 j2 j3 j4 q2 n4 n5 d7 c1 j5 B1 q3 n6 n7))] w R :=
 yaB Tryz.wide_mixed (an:=[]) Tryz.func37 rfl rfl (by kernel_rfl) rfl (Eq.mpr (by kernel_rfl) h)
def yvK:LA:=⟨[0,0,1,0,1,1],[0,1,12,13],[],0,[]⟩
def yxX:List LA:=[yvK]
abbrev yJA:=dnF pP yxX (code Tryz.f82)
abbrev yNk:=yaR pP yxX (code Tryz.f82)
abbrev yJB (p:List Nat) (K:List Kh) (R:VWP):=yaR pP yxX (code Tryz.f82) p K (ybE pP Tryz.f82 [] R)
def yoJ (a2:OA) (a6 a4:Nat) (a3:OA) (a7 a5:Nat) (a0:Int):Int → List Value × List TB:=fun a1 => ([.slice a2 a6 a4,.slice a3 a7 a5,.int .i64 a0,.int .i64 a1],[])
abbrev yF8 (a1:OA) (a5 a3:Nat) (a2:OA) (a6 a4:Nat) (a0:Int) (I:Nat → Int → World → Prop) (m:Nat):Kh:=KG (yoJ a1 a5 a3 a2 a6 a4 a0) (U1 I) m
theorem yCg {I:Nat → Int → World → Prop} (m':Nat) (h1:m' < m) (h2:I m' i1 w):KS (yF8 q0 n0 n1 q1 n2 n3 i0 I m) (yoJ q0 n0 n1 q1 n2 n3 i0 i1) w:=⟨m',h1,_,rfl,rfl,h2⟩
theorem yCh {a2:OA} {a3:OA} (I:Nat → Int → World → Prop) (m0:Nat) (h0:I m0 i1 w0)
 (hr:∀ m a0 w,I m a0 w →
 brB (decide (a0 < i0)) (
 ixA a2 n0 a0 1 fun q1 =>
 ya7 w q1 fun s2 =>
 ixA a3 n2 a0 1 fun q3 =>
 ya7 w q3 fun s4 =>
 brB (!(s2.toList == s4.toList)) (
 ∀ w5,Adv [] [] w w5 →
 R (.bool false) w5)
 (
 ∀ w6,Adv [] [] w w6 →
 KS (yF8 a2 n0 n1 a3 n2 n3 i0 I m) (yoJ a2 n0 n1 a3 n2 n3 i0 (IntKind.wrap .i64 (a0 + 1))) w6))
 (
 R (.bool true) w)) :
 yaO yvK (yJA 396 [0,0,1,0,1,1]) (yJB [1,1,0,1,0] [] R) (yoJ a2 n0 n1 a3 n2 n3 i0 i1) w0 :=
 lrule (yoJ a2 n0 n1 a3 n2 n3 i0) (U1 I) h0 (by rintro m a0 w h; exact ⟨by kernel_rfl,by kernel_rfl,fun js => Eq.mpr (by kernel_rfl) (hr m a0 w h)⟩)
theorem yJC (h :
 brB ((n0:Int) != (n2:Int)) (
 R (.bool false) w)
 (
 yaO yvK (yJA 396 [0,0,1,0,1,1]) (yJB [1,1,0,1,0] [] R) (yoJ q0 n0 n1 q1 n2 n3 (n0:Int) 0) w)) :
 CR pP 82 #[.slice q0 n0 n1,.slice q1 n2 n3] w R :=
 yaB Tryz.wide_mixed (an:=yxX) Tryz.func82 rfl rfl (by kernel_rfl) rfl (Eq.mpr (by kernel_rfl) h)
def yvL:LA:=⟨[0,0,1,0,1,1],[0,1,12,13],[],0,[]⟩
def yxY:List LA:=[yvL]
abbrev yJD:=dnF pP yxY (code Tryz.f135)
abbrev yNl:=yaR pP yxY (code Tryz.f135)
abbrev yJE (p:List Nat) (K:List Kh) (R:VWP):=yaR pP yxY (code Tryz.f135) p K (ybE pP Tryz.f135 [] R)
def yoK (a2:OA) (a6 a4:Nat) (a3:OA) (a7 a5:Nat) (a0:Int):Int → List Value × List TB:=fun a1 => ([.slice a2 a6 a4,.slice a3 a7 a5,.int .i64 a0,.int .i64 a1],[])
abbrev yF9 (a1:OA) (a5 a3:Nat) (a2:OA) (a6 a4:Nat) (a0:Int) (I:Nat → Int → World → Prop) (m:Nat):Kh:=KG (yoK a1 a5 a3 a2 a6 a4 a0) (U1 I) m
theorem yCi {I:Nat → Int → World → Prop} (m':Nat) (h1:m' < m) (h2:I m' i1 w):KS (yF9 q0 n0 n1 q1 n2 n3 i0 I m) (yoK q0 n0 n1 q1 n2 n3 i0 i1) w:=⟨m',h1,_,rfl,rfl,h2⟩
theorem yCj {a2:OA} {a3:OA} (I:Nat → Int → World → Prop) (m0:Nat) (h0:I m0 i1 w0)
 (hr:∀ m a0 w,I m a0 w →
 brB (decide (a0 < i0)) (
 ixA a2 n0 a0 4 fun q1 =>
 yb9 w q1 fun t2 => ya7 w (Addr.add q1 1) fun s3 => yb9 w (Addr.add q1 2) fun t4 => ya7 w (Addr.add q1 3) fun s5 =>
 ixA a3 n2 a0 4 fun q6 =>
 yb9 w q6 fun t7 => ya7 w (Addr.add q6 1) fun s8 => yb9 w (Addr.add q6 2) fun t9 => ya7 w (Addr.add q6 3) fun a9 =>
 ∃ b0,(∀ w',Mod [] w w' → Sem.run pP (do eqGuard .neq 65 (.tmp 19) (.tmp 23) (.agg (Z8 t2 s3 t4 s5)) (.agg (Z8 t7 s8 t9 a9)); Go.binOp .neq 65 (.agg (Z8 t2 s3 t4 s5)) (.agg (Z8 t7 s8 t9 a9))) w' = .ok (.bool b0) w') ∧
 brB b0 (
 ∀ b1,Adv [] [] w b1 →
 R (.bool false) b1)
 (
 ∀ b2,Adv [] [] w b2 →
 KS (yF9 a2 n0 n1 a3 n2 n3 i0 I m) (yoK a2 n0 n1 a3 n2 n3 i0 (IntKind.wrap .i64 (a0 + 1))) b2))
 (
 R (.bool true) w)) :
 yaO yvL (yJD 396 [0,0,1,0,1,1]) (yJE [1,1,0,1,0] [] R) (yoK a2 n0 n1 a3 n2 n3 i0 i1) w0 :=
 lrule (yoK a2 n0 n1 a3 n2 n3 i0) (U1 I) h0 (by rintro m a0 w h; exact ⟨by kernel_rfl,by kernel_rfl,fun js => Eq.mpr (by kernel_rfl) (hr m a0 w h)⟩)
theorem yJF (h :
 brB ((n0:Int) != (n2:Int)) (
 R (.bool false) w)
 (
 yaO yvL (yJD 396 [0,0,1,0,1,1]) (yJE [1,1,0,1,0] [] R) (yoK q0 n0 n1 q1 n2 n3 (n0:Int) 0) w)) :
 CR pP 135 #[.slice q0 n0 n1,.slice q1 n2 n3] w R :=
 yaB Tryz.wide_mixed (an:=yxY) Tryz.func135 rfl rfl (by kernel_rfl) rfl (Eq.mpr (by kernel_rfl) h)
theorem yJG (h :
 brB (Option.isNone q0) (
 R (.slice none 0 0) w)
 (
 al w (.cells #[] 9) fun b7 w8 =>
 ybC pP (Builtin.append_ #[37,37] 37 #[(.slice (some ⟨b7,0,none⟩) 0 0),.slice q0 n0 n1]) w8 fun a3 a5 a4 w9 =>
 R (.slice a3 a5 a4) w9)) :
 CR pP 144 #[.slice q0 n0 n1] w R :=
 yaB Tryz.wide_mixed (an:=[]) Tryz.func144 rfl rfl (by kernel_rfl) rfl (Eq.mpr (by kernel_rfl) h)
end
section
set_option maxRecDepth 100000
variable {R:VWP} {w w0:World} {m:Nat} {i0 i1 i2 i3 i4 i5 i6 i7 i8 i9 j0 j1 j2 j3 j4 j5 j6 j7 j8 j9 k0 k1 k2 k3 k4 k5 k6 k7 k8 k9 l0 l1 l2 l3 l4 l5 l6 l7 l8 l9:Int} {s0 s1 s2 s3 s4 s5 s6 s7 s8 s9 t0 t1 t2 t3 t4 t5 t6 t7 t8 t9:BA} {n0 n1 n2 n3 n4 n5 n6 n7 n8 n9 o0 o1 o2 o3 o4 o5 o6 o7 o8 o9 p0 p1 p2 p3 p4 p5 p6 p7 p8 p9:Nat} {q0 q1 q2 q3 q4 q5 q6 q7 q8 q9 r0 r1 r2 r3 r4 r5 r6 r7 r8 r9:OA} {B0 B1 B2 B3 B4 B5 B6 B7 B8 B9:Bool} {M0 M1 M2 M3:Option Nat} {V0 V1 V2 V3 V4 V5:Value} {A0 A1 A2:Addr}
theorem yJH (h :
 yb9 w (Addr.add A0 1) fun t7 =>
 brB t7 (
 st w (Addr.add A0 1) [.bool true] fun w8 =>
 st w8 A1 [.int .i64 0] fun a3 =>
 R (.tuple #[]) a3)
 (
 ya1 .i64 w A1 fun a7 =>
 Calls pP 240 #[.int .i64 a7] w fun e a4 => ∃ a2,e = .returned (.bool a2) ∧
 st a4 (Addr.add A0 1) [(.bool (!a2))] fun a5 =>
 st a5 A1 [.int .i64 0] fun a6 =>
 R (.tuple #[]) a6)) :
 CR pP 236 #[(.pointer (some A0)),(.pointer (some A1))] w R :=
 yaB Tryz.wide_mixed (an:=[]) Tryz.func236 rfl rfl (by kernel_rfl) rfl (Eq.mpr (by kernel_rfl) h)
theorem yJI (h :
 yb9 w A0 fun t7 =>
 brB t7 (
 st w A0 [.bool true] fun w8 =>
 st w8 A1 [(.string (⟨#[]⟩:BA))] fun a4 =>
 R (.tuple #[]) a4)
 (
 ya7 w A1 fun a3 =>
 Calls pP 122 #[.string a3] w fun e a5 => ∃ a2,e = .returned (.bool a2) ∧
 st a5 A0 [(.bool (!a2))] fun a6 =>
 st a6 A1 [(.string (⟨#[]⟩:BA))] fun a7 =>
 R (.tuple #[]) a7)) :
 CR pP 234 #[(.pointer (some A0)),(.pointer (some A1))] w R :=
 yaB Tryz.wide_mixed (an:=[]) Tryz.func234 rfl rfl (by kernel_rfl) rfl (Eq.mpr (by kernel_rfl) h)
theorem yJJ (h :
 st w A1 [.bool false] fun w2 =>
 R (.tuple #[]) w2) :
 CR pP 233 #[(.pointer (some A0)),(.pointer (some A1))] w R :=
 yaB Tryz.wide_mixed (an:=[]) Tryz.func233 rfl rfl (by kernel_rfl) rfl (Eq.mpr (by kernel_rfl) h)
theorem yJK (h :
 ya1 .i64 w A1 fun a9 => ya1 .i64 w (Addr.add A1 1) fun b0 => ya1 .i64 w (Addr.add A1 2) fun b1 => ya2 w (Addr.add A1 3) fun a3 a5 a4 =>
 Calls pP 237 #[(.agg (Z5 a9 b0 b1 a3 a5 a4))] w fun e a6 => ∃ a2,e = .returned (.int .i64 a2) ∧
 st a6 (Addr.add A0 2) [.int .i64 a2] fun a7 =>
 st a7 A1 [.int .i64 0,.int .i64 0,.int .i64 0,.slice none 0 0] fun a8 =>
 R (.tuple #[]) a8) :
 CR pP 232 #[(.pointer (some A0)),(.pointer (some A1))] w R :=
 yaB Tryz.wide_mixed (an:=[]) Tryz.func232 rfl rfl (by kernel_rfl) rfl (Eq.mpr (by kernel_rfl) h)
def yvM:LA:=⟨[0,0,1,0,1],[0,1,4,5],[],0,[]⟩
def yxZ:List LA:=[yvM]
abbrev yJL:=dnF pP yxZ (code Tryz.f235)
abbrev yNm:=yaR pP yxZ (code Tryz.f235)
abbrev yJM (p:List Nat) (K:List Kh) (R:VWP):=yaR pP yxZ (code Tryz.f235) p K (ybE pP Tryz.f235 [] R)
def ymM (a0:Addr) (a1:Addr):Bool × Int → List Value × List TB:=fun (a2,a3) => ([(.pointer (some a0)),(.pointer (some a1)),.bool a2,.int .i64 a3],[])
abbrev yCk (a0:Addr) (a1:Addr) (I:Nat → Bool → Int → World → Prop) (m:Nat):Kh:=KG (ymM a0 a1) (U2 I) m
theorem ys1 {I:Nat → Bool → Int → World → Prop} (m':Nat) (h1:m' < m) (h2:I m' B0 i0 w):KS (yCk A0 A1 I m) (ymM A0 A1 (B0,i0)) w:=⟨m',h1,_,rfl,rfl,h2⟩
theorem yCl (I:Nat → Bool → Int → World → Prop) (m0:Nat) (h0:I m0 B0 i0 w0)
 (hr:∀ m a5 a3 w,I m a5 a3 w →
 ya2 w A1 fun a4 n5 c6 =>
 brB (decide (a3 < (n5:Int))) (
 brB a5 (
 ya2 w A1 fun a7 n8 c9 =>
 ixA a7 n8 (IntKind.wrap .i64 (a3 - 1)) 1 fun b9 =>
 ya7 w b9 fun c1 =>
 ya2 w A1 fun b2 b5 d8 =>
 ixA b2 b5 a3 1 fun c0 =>
 ya7 w c0 fun c2 =>
 ∀ b0,Adv [] [] w b0 →
 KS (yCk A0 A1 I m) (ymM A0 A1 ((Op.bytesLess c1.toList c2.toList),(IntKind.wrap .i64 (a3 + 1)))) b0)
 (
 ∀ b1,Adv [] [] w b1 →
 KS (yCk A0 A1 I m) (ymM A0 A1 (false,(IntKind.wrap .i64 (a3 + 1)))) b1))
 (
 ya2 w A1 fun b3 b6 b4 =>
 Calls pP 238 #[.slice b3 b6 b4,(.func (.func 239) #[] #[])] w fun e a2 => ∃ a9,e = .returned (.bool a9) ∧
 yb9 a2 A0 fun c3 =>
 brB c3 (
 st a2 A0 [.bool true] fun c4 =>
 st c4 A1 [.slice none 0 0] fun c5 =>
 R (.tuple #[]) c5)
 (
 ya2 a2 A1 fun d6 b7 d9 =>
 brB ((b7:Int) == 0) (
 st a2 A0 [.bool true] fun c7 =>
 st c7 A1 [.slice none 0 0] fun c8 =>
 R (.tuple #[]) c8)
 (
 ya2 a2 A1 fun d7 b8 e0 =>
 brB (decide ((b8:Int) > 8)) (
 st a2 A0 [.bool true] fun d0 =>
 st d0 A1 [.slice none 0 0] fun d1 =>
 R (.tuple #[]) d1)
 (
 brB a9 (
 st a2 A0 [.bool true] fun d2 =>
 st d2 A1 [.slice none 0 0] fun d3 =>
 R (.tuple #[]) d3)
 (
 st a2 A0 [(.bool (!a5))] fun d4 =>
 st d4 A1 [.slice none 0 0] fun d5 =>
 R (.tuple #[]) d5)))))) :
 yaO yvM (yJL 397 [0,0,1,0,1]) (yJM [1,0,1,0] [] R) (ymM A0 A1 (B0,i0)) w0 :=
 lrule (ymM A0 A1) (U2 I) h0 (by rintro m ⟨a5,a3⟩ w h; exact ⟨by kernel_rfl,by kernel_rfl,fun js => Eq.mpr (by kernel_rfl) (hr m a5 a3 w h)⟩)
theorem yJN (h :
 yaO yvM (yJL 397 [0,0,1,0,1]) (yJM [1,0,1,0] [] R) (ymM A0 A1 (true,1)) w) :
 CR pP 235 #[(.pointer (some A0)),(.pointer (some A1))] w R :=
 yaB Tryz.wide_mixed (an:=yxZ) Tryz.func235 rfl rfl (by kernel_rfl) rfl (Eq.mpr (by kernel_rfl) h)
theorem yJO {a0:BA} (h :
 Calls pP 122 #[.string a0] w fun e w3 => ∃ t4,e = .returned (.bool t4) ∧
 R (.bool (!t4)) w3) :
 CR pP 239 #[.string a0] w R :=
 yaB Tryz.wide_mixed (an:=[]) Tryz.func239 rfl rfl (by kernel_rfl) rfl (Eq.mpr (by kernel_rfl) h)
theorem yJP (h :
 Calls pP 136 #[.slice q0 n0 n1,(.func (.func 239) #[] #[])] w fun e w3 => ∃ x4,e = .returned (.int .i64 x4) ∧
 R (.bool (decide (x4 ≥ 0))) w3) :
 CR pP 238 #[.slice q0 n0 n1,(.func (.func 239) #[] #[])] w R :=
 yaB Tryz.wide_mixed (an:=[]) Tryz.func238 rfl rfl (by kernel_rfl) rfl (Eq.mpr (by kernel_rfl) h)
def yvN:LA:=⟨[0,0,1,0,1],[0,1,7,8],[],0,[]⟩
def yx0:List LA:=[yvN]
abbrev yJQ:=dnF pP yx0 (code Tryz.f136)
abbrev yNn:=yaR pP yx0 (code Tryz.f136)
abbrev yJR (p:List Nat) (K:List Kh) (R:VWP):=yaR pP yx0 (code Tryz.f136) p K (ybE pP Tryz.f136 [] R)
def yoL (a0:OA) (a2 a1:Nat) (a3:Int):Int → List Value × List TB:=fun a4 => ([.slice a0 a2 a1,(.func (.func 239) #[] #[]),.int .i64 a3,.int .i64 a4],[])
abbrev yGa (a0:OA) (a2 a1:Nat) (a3:Int) (I:Nat → Int → World → Prop) (m:Nat):Kh:=KG (yoL a0 a2 a1 a3) (U1 I) m
theorem yCm {I:Nat → Int → World → Prop} (m':Nat) (h1:m' < m) (h2:I m' i1 w):KS (yGa q0 n0 n1 i0 I m) (yoL q0 n0 n1 i0 i1) w:=⟨m',h1,_,rfl,rfl,h2⟩
theorem yCn {a1:OA} (I:Nat → Int → World → Prop) (m0:Nat) (h0:I m0 i1 w0)
 (hr:∀ m a0 w,I m a0 w →
 brB (decide (a0 < i0)) (
 ixA a1 n0 a0 1 fun q5 =>
 ya7 w q5 fun s6 =>
 Calls pP 239 #[.string s6] w fun e w7 => ∃ t8,e = .returned (.bool t8) ∧
 brB t8 (
 R (.int .i64 a0) w7)
 (
 KS (yGa a1 n0 n1 i0 I m) (yoL a1 n0 n1 i0 (IntKind.wrap .i64 (a0 + 1))) w7))
 (
 R (.int .i64 (-1)) w)) :
 yaO yvN (yJQ 397 [0,0,1,0,1]) (yJR [1,0,1,0] [] R) (yoL a1 n0 n1 i0 i1) w0 :=
 lrule (yoL a1 n0 n1 i0) (U1 I) h0 (by rintro m a0 w h; exact ⟨by kernel_rfl,by kernel_rfl,fun js => Eq.mpr (by kernel_rfl) (hr m a0 w h)⟩)
theorem yJS (h :
 yaO yvN (yJQ 397 [0,0,1,0,1]) (yJR [1,0,1,0] [] R) (yoL q0 n0 n1 (n0:Int) 0) w) :
 CR pP 136 #[.slice q0 n0 n1,(.func (.func 239) #[] #[])] w R :=
 yaB Tryz.wide_mixed (an:=yx0) Tryz.func136 rfl rfl (by kernel_rfl) rfl (Eq.mpr (by kernel_rfl) h)
theorem yJT (h :
 ∀ w1,Adv [] [] w w1 →
 Calls pP 234 #[(.pointer (some A1)),(.pointer (some A0))] w1 fun e w2 => e = .returned (.tuple #[]) ∧
 ∀ w3,Adv [] [] w2 w3 →
 Calls pP 236 #[(.pointer (some A1)),(.pointer (some (Addr.add A0 1)))] w3 fun e w4 => e = .returned (.tuple #[]) ∧
 R (.tuple #[]) w4) :
 CR pP 79 #[(.iface 93 (.pointer (some A1))),(.pointer (some A0))] w R :=
 yaB Tryz.wide_mixed (an:=[]) Tryz.func79 rfl rfl (by kernel_rfl) rfl (Eq.mpr (by kernel_rfl) h)
theorem yJU (h :
 ∀ w1,Adv [] [] w w1 →
 Calls pP 234 #[(.pointer (some A1)),(.pointer (some (Addr.add A0 9)))] w1 fun e w2 => e = .returned (.tuple #[]) ∧
 ∀ w3,Adv [] [] w2 w3 →
 Calls pP 234 #[(.pointer (some A1)),(.pointer (some (Addr.add A0 10)))] w3 fun e w4 => e = .returned (.tuple #[]) ∧
 R (.tuple #[]) w4) :
 CR pP 80 #[(.iface 93 (.pointer (some A1))),(.pointer (some A0))] w R :=
 yaB Tryz.wide_mixed (an:=[]) Tryz.func80 rfl rfl (by kernel_rfl) rfl (Eq.mpr (by kernel_rfl) h)
theorem yJV (h :
 ya1 .i64 w A0 fun x2 =>
 brB (x2 == 0) (
 ∀ w3,Adv [] [] w w3 →
 Calls pP 234 #[(.pointer (some A1)),(.pointer (some (Addr.add A0 1)))] w3 fun e w4 => e = .returned (.tuple #[]) ∧
 ∀ w5,Adv [] [] w4 w5 →
 Calls pP 236 #[(.pointer (some A1)),(.pointer (some (Addr.add A0 3)))] w5 fun e w6 => e = .returned (.tuple #[]) ∧
 R (.tuple #[]) w6)
 (
 brB (x2 == 1) (
 brB (x2 == 1) (
 ∀ w7,Adv [] [] w w7 →
 Calls pP 236 #[(.pointer (some A1)),(.pointer (some (Addr.add A0 3)))] w7 fun e w8 => e = .returned (.tuple #[]) ∧
 R (.tuple #[]) w8)
 (
 brB (x2 == 2) (
 Calls pP 79 #[(.iface 93 (.pointer (some A1))),(.pointer (some (Addr.add A0 1)))] w fun e g9 => e = .returned (.tuple #[]) ∧
 ∀ b7,Adv [] [] g9 b7 →
 Calls pP 232 #[(.pointer (some A1)),(.pointer (some (Addr.add A0 5)))] b7 fun e h0 => e = .returned (.tuple #[]) ∧
 R (.tuple #[]) h0)
 (
 brB (x2 == 3) (
 Calls pP 79 #[(.iface 93 (.pointer (some A1))),(.pointer (some (Addr.add A0 1)))] w fun e h1 => e = .returned (.tuple #[]) ∧
 ∀ b8,Adv [] [] h1 b8 →
 Calls pP 236 #[(.pointer (some A1)),(.pointer (some (Addr.add A0 4)))] b8 fun e h2 => e = .returned (.tuple #[]) ∧
 ∀ b9,Adv [] [] h2 b9 →
 Calls pP 236 #[(.pointer (some A1)),(.pointer (some (Addr.add A0 3)))] b9 fun e h3 => e = .returned (.tuple #[]) ∧
 R (.tuple #[]) h3)
 (
 brB (x2 == 4) (
 Calls pP 79 #[(.iface 93 (.pointer (some A1))),(.pointer (some (Addr.add A0 1)))] w fun e h4 => e = .returned (.tuple #[]) ∧
 ∀ c0,Adv [] [] h4 c0 →
 Calls pP 236 #[(.pointer (some A1)),(.pointer (some (Addr.add A0 4)))] c0 fun e h5 => e = .returned (.tuple #[]) ∧
 R (.tuple #[]) h5)
 (
 brB (x2 == 5) (
 Calls pP 79 #[(.iface 93 (.pointer (some A1))),(.pointer (some (Addr.add A0 1)))] w fun e h6 => e = .returned (.tuple #[]) ∧
 R (.tuple #[]) h6)
 (
 brB (x2 == 6) (
 Calls pP 80 #[(.iface 93 (.pointer (some A1))),(.pointer (some A0))] w fun e h7 => e = .returned (.tuple #[]) ∧
 ∀ c1,Adv [] [] h7 c1 →
 Calls pP 236 #[(.pointer (some A1)),(.pointer (some (Addr.add A0 3)))] c1 fun e h8 => e = .returned (.tuple #[]) ∧
 ∀ c2,Adv [] [] h8 c2 →
 Calls pP 233 #[(.pointer (some A1)),(.pointer (some (Addr.add A0 12)))] c2 fun e h9 => e = .returned (.tuple #[]) ∧
 ∀ c3,Adv [] [] h9 c3 →
 Calls pP 235 #[(.pointer (some A1)),(.pointer (some (Addr.add A0 13)))] c3 fun e u0 => e = .returned (.tuple #[]) ∧
 R (.tuple #[]) u0)
 (
 brB (x2 == 7) (
 brB (x2 == 7) (
 Calls pP 80 #[(.iface 93 (.pointer (some A1))),(.pointer (some A0))] w fun e u1 => e = .returned (.tuple #[]) ∧
 ∀ c4,Adv [] [] u1 c4 →
 Calls pP 236 #[(.pointer (some A1)),(.pointer (some (Addr.add A0 11)))] c4 fun e u2 => e = .returned (.tuple #[]) ∧
 R (.tuple #[]) u2)
 (
 brB (x2 == 10) (
 Calls pP 80 #[(.iface 93 (.pointer (some A1))),(.pointer (some A0))] w fun e u3 => e = .returned (.tuple #[]) ∧
 ∀ c5,Adv [] [] u3 c5 →
 Calls pP 236 #[(.pointer (some A1)),(.pointer (some (Addr.add A0 11)))] c5 fun e u4 => e = .returned (.tuple #[]) ∧
 Calls pP 79 #[(.iface 93 (.pointer (some A1))),(.pointer (some (Addr.add A0 1)))] u4 fun e u5 => e = .returned (.tuple #[]) ∧
 ∀ c6,Adv [] [] u5 c6 →
 Calls pP 236 #[(.pointer (some A1)),(.pointer (some (Addr.add A0 4)))] c6 fun e u6 => e = .returned (.tuple #[]) ∧
 R (.tuple #[]) u6)
 (
 brB (x2 == 11) (
 ∀ c7,Adv [] [] w c7 →
 Calls pP 234 #[(.pointer (some A1)),(.pointer (some (Addr.add A0 9)))] c7 fun e u7 => e = .returned (.tuple #[]) ∧
 Calls pP 79 #[(.iface 93 (.pointer (some A1))),(.pointer (some (Addr.add A0 1)))] u7 fun e u9 => e = .returned (.tuple #[]) ∧
 R (.tuple #[]) u9)
 (
 R (.tuple #[]) w))))
 (
 brB (x2 == 8) (
 brB (x2 == 8) (
 Calls pP 80 #[(.iface 93 (.pointer (some A1))),(.pointer (some A0))] w fun e v0 => e = .returned (.tuple #[]) ∧
 ∀ c8,Adv [] [] v0 c8 →
 Calls pP 236 #[(.pointer (some A1)),(.pointer (some (Addr.add A0 11)))] c8 fun e v1 => e = .returned (.tuple #[]) ∧
 R (.tuple #[]) v1)
 (
 brB (x2 == 10) (
 Calls pP 80 #[(.iface 93 (.pointer (some A1))),(.pointer (some A0))] w fun e v2 => e = .returned (.tuple #[]) ∧
 ∀ c9,Adv [] [] v2 c9 →
 Calls pP 236 #[(.pointer (some A1)),(.pointer (some (Addr.add A0 11)))] c9 fun e v3 => e = .returned (.tuple #[]) ∧
 Calls pP 79 #[(.iface 93 (.pointer (some A1))),(.pointer (some (Addr.add A0 1)))] v3 fun e v4 => e = .returned (.tuple #[]) ∧
 ∀ d0,Adv [] [] v4 d0 →
 Calls pP 236 #[(.pointer (some A1)),(.pointer (some (Addr.add A0 4)))] d0 fun e v5 => e = .returned (.tuple #[]) ∧
 R (.tuple #[]) v5)
 (
 brB (x2 == 11) (
 ∀ d1,Adv [] [] w d1 →
 Calls pP 234 #[(.pointer (some A1)),(.pointer (some (Addr.add A0 9)))] d1 fun e v6 => e = .returned (.tuple #[]) ∧
 Calls pP 79 #[(.iface 93 (.pointer (some A1))),(.pointer (some (Addr.add A0 1)))] v6 fun e v7 => e = .returned (.tuple #[]) ∧
 R (.tuple #[]) v7)
 (
 R (.tuple #[]) w))))
 (
 brB (x2 == 9) (
 Calls pP 80 #[(.iface 93 (.pointer (some A1))),(.pointer (some A0))] w fun e v8 => e = .returned (.tuple #[]) ∧
 ∀ d2,Adv [] [] v8 d2 →
 Calls pP 236 #[(.pointer (some A1)),(.pointer (some (Addr.add A0 11)))] d2 fun e v9 => e = .returned (.tuple #[]) ∧
 R (.tuple #[]) v9)
 (
 brB (x2 == 10) (
 Calls pP 80 #[(.iface 93 (.pointer (some A1))),(.pointer (some A0))] w fun e w0 => e = .returned (.tuple #[]) ∧
 ∀ d3,Adv [] [] w0 d3 →
 Calls pP 236 #[(.pointer (some A1)),(.pointer (some (Addr.add A0 11)))] d3 fun e w1 => e = .returned (.tuple #[]) ∧
 Calls pP 79 #[(.iface 93 (.pointer (some A1))),(.pointer (some (Addr.add A0 1)))] w1 fun e w2 => e = .returned (.tuple #[]) ∧
 ∀ d4,Adv [] [] w2 d4 →
 Calls pP 236 #[(.pointer (some A1)),(.pointer (some (Addr.add A0 4)))] d4 fun e w9 => e = .returned (.tuple #[]) ∧
 R (.tuple #[]) w9)
 (
 brB (x2 == 11) (
 ∀ d5,Adv [] [] w d5 →
 Calls pP 234 #[(.pointer (some A1)),(.pointer (some (Addr.add A0 9)))] d5 fun e x0 => e = .returned (.tuple #[]) ∧
 Calls pP 79 #[(.iface 93 (.pointer (some A1))),(.pointer (some (Addr.add A0 1)))] x0 fun e x1 => e = .returned (.tuple #[]) ∧
 R (.tuple #[]) x1)
 (
 R (.tuple #[]) w))))))))))))
 (
 brB (x2 == 12) (
 ∀ d6,Adv [] [] w d6 →
 Calls pP 236 #[(.pointer (some A1)),(.pointer (some (Addr.add A0 3)))] d6 fun e x3 => e = .returned (.tuple #[]) ∧
 R (.tuple #[]) x3)
 (
 brB (x2 == 2) (
 Calls pP 79 #[(.iface 93 (.pointer (some A1))),(.pointer (some (Addr.add A0 1)))] w fun e x4 => e = .returned (.tuple #[]) ∧
 ∀ d7,Adv [] [] x4 d7 →
 Calls pP 232 #[(.pointer (some A1)),(.pointer (some (Addr.add A0 5)))] d7 fun e x5 => e = .returned (.tuple #[]) ∧
 R (.tuple #[]) x5)
 (
 brB (x2 == 3) (
 Calls pP 79 #[(.iface 93 (.pointer (some A1))),(.pointer (some (Addr.add A0 1)))] w fun e x6 => e = .returned (.tuple #[]) ∧
 ∀ d8,Adv [] [] x6 d8 →
 Calls pP 236 #[(.pointer (some A1)),(.pointer (some (Addr.add A0 4)))] d8 fun e x7 => e = .returned (.tuple #[]) ∧
 ∀ d9,Adv [] [] x7 d9 →
 Calls pP 236 #[(.pointer (some A1)),(.pointer (some (Addr.add A0 3)))] d9 fun e x8 => e = .returned (.tuple #[]) ∧
 R (.tuple #[]) x8)
 (
 brB (x2 == 4) (
 Calls pP 79 #[(.iface 93 (.pointer (some A1))),(.pointer (some (Addr.add A0 1)))] w fun e x9 => e = .returned (.tuple #[]) ∧
 ∀ e0,Adv [] [] x9 e0 →
 Calls pP 236 #[(.pointer (some A1)),(.pointer (some (Addr.add A0 4)))] e0 fun e y0 => e = .returned (.tuple #[]) ∧
 R (.tuple #[]) y0)
 (
 brB (x2 == 5) (
 Calls pP 79 #[(.iface 93 (.pointer (some A1))),(.pointer (some (Addr.add A0 1)))] w fun e y1 => e = .returned (.tuple #[]) ∧
 R (.tuple #[]) y1)
 (
 brB (x2 == 6) (
 Calls pP 80 #[(.iface 93 (.pointer (some A1))),(.pointer (some A0))] w fun e e1 => e = .returned (.tuple #[]) ∧
 ∀ a2,Adv [] [] e1 a2 →
 Calls pP 236 #[(.pointer (some A1)),(.pointer (some (Addr.add A0 3)))] a2 fun e e2 => e = .returned (.tuple #[]) ∧
 ∀ a3,Adv [] [] e2 a3 →
 Calls pP 233 #[(.pointer (some A1)),(.pointer (some (Addr.add A0 12)))] a3 fun e e3 => e = .returned (.tuple #[]) ∧
 ∀ a4,Adv [] [] e3 a4 →
 Calls pP 235 #[(.pointer (some A1)),(.pointer (some (Addr.add A0 13)))] a4 fun e e4 => e = .returned (.tuple #[]) ∧
 R (.tuple #[]) e4)
 (
 brB (x2 == 7) (
 brB (x2 == 7) (
 Calls pP 80 #[(.iface 93 (.pointer (some A1))),(.pointer (some A0))] w fun e e5 => e = .returned (.tuple #[]) ∧
 ∀ a5,Adv [] [] e5 a5 →
 Calls pP 236 #[(.pointer (some A1)),(.pointer (some (Addr.add A0 11)))] a5 fun e e6 => e = .returned (.tuple #[]) ∧
 R (.tuple #[]) e6)
 (
 brB (x2 == 10) (
 Calls pP 80 #[(.iface 93 (.pointer (some A1))),(.pointer (some A0))] w fun e e7 => e = .returned (.tuple #[]) ∧
 ∀ a6,Adv [] [] e7 a6 →
 Calls pP 236 #[(.pointer (some A1)),(.pointer (some (Addr.add A0 11)))] a6 fun e e8 => e = .returned (.tuple #[]) ∧
 Calls pP 79 #[(.iface 93 (.pointer (some A1))),(.pointer (some (Addr.add A0 1)))] e8 fun e e9 => e = .returned (.tuple #[]) ∧
 ∀ a7,Adv [] [] e9 a7 →
 Calls pP 236 #[(.pointer (some A1)),(.pointer (some (Addr.add A0 4)))] a7 fun e f0 => e = .returned (.tuple #[]) ∧
 R (.tuple #[]) f0)
 (
 brB (x2 == 11) (
 ∀ a8,Adv [] [] w a8 →
 Calls pP 234 #[(.pointer (some A1)),(.pointer (some (Addr.add A0 9)))] a8 fun e f1 => e = .returned (.tuple #[]) ∧
 Calls pP 79 #[(.iface 93 (.pointer (some A1))),(.pointer (some (Addr.add A0 1)))] f1 fun e f2 => e = .returned (.tuple #[]) ∧
 R (.tuple #[]) f2)
 (
 R (.tuple #[]) w))))
 (
 brB (x2 == 8) (
 brB (x2 == 8) (
 Calls pP 80 #[(.iface 93 (.pointer (some A1))),(.pointer (some A0))] w fun e f3 => e = .returned (.tuple #[]) ∧
 ∀ a9,Adv [] [] f3 a9 →
 Calls pP 236 #[(.pointer (some A1)),(.pointer (some (Addr.add A0 11)))] a9 fun e f4 => e = .returned (.tuple #[]) ∧
 R (.tuple #[]) f4)
 (
 brB (x2 == 10) (
 Calls pP 80 #[(.iface 93 (.pointer (some A1))),(.pointer (some A0))] w fun e f5 => e = .returned (.tuple #[]) ∧
 ∀ b0,Adv [] [] f5 b0 →
 Calls pP 236 #[(.pointer (some A1)),(.pointer (some (Addr.add A0 11)))] b0 fun e f6 => e = .returned (.tuple #[]) ∧
 Calls pP 79 #[(.iface 93 (.pointer (some A1))),(.pointer (some (Addr.add A0 1)))] f6 fun e f7 => e = .returned (.tuple #[]) ∧
 ∀ b1,Adv [] [] f7 b1 →
 Calls pP 236 #[(.pointer (some A1)),(.pointer (some (Addr.add A0 4)))] b1 fun e f8 => e = .returned (.tuple #[]) ∧
 R (.tuple #[]) f8)
 (
 brB (x2 == 11) (
 ∀ b2,Adv [] [] w b2 →
 Calls pP 234 #[(.pointer (some A1)),(.pointer (some (Addr.add A0 9)))] b2 fun e f9 => e = .returned (.tuple #[]) ∧
 Calls pP 79 #[(.iface 93 (.pointer (some A1))),(.pointer (some (Addr.add A0 1)))] f9 fun e g0 => e = .returned (.tuple #[]) ∧
 R (.tuple #[]) g0)
 (
 R (.tuple #[]) w))))
 (
 brB (x2 == 9) (
 Calls pP 80 #[(.iface 93 (.pointer (some A1))),(.pointer (some A0))] w fun e g1 => e = .returned (.tuple #[]) ∧
 ∀ b3,Adv [] [] g1 b3 →
 Calls pP 236 #[(.pointer (some A1)),(.pointer (some (Addr.add A0 11)))] b3 fun e g2 => e = .returned (.tuple #[]) ∧
 R (.tuple #[]) g2)
 (
 brB (x2 == 10) (
 Calls pP 80 #[(.iface 93 (.pointer (some A1))),(.pointer (some A0))] w fun e g3 => e = .returned (.tuple #[]) ∧
 ∀ b4,Adv [] [] g3 b4 →
 Calls pP 236 #[(.pointer (some A1)),(.pointer (some (Addr.add A0 11)))] b4 fun e g4 => e = .returned (.tuple #[]) ∧
 Calls pP 79 #[(.iface 93 (.pointer (some A1))),(.pointer (some (Addr.add A0 1)))] g4 fun e g5 => e = .returned (.tuple #[]) ∧
 ∀ b5,Adv [] [] g5 b5 →
 Calls pP 236 #[(.pointer (some A1)),(.pointer (some (Addr.add A0 4)))] b5 fun e g6 => e = .returned (.tuple #[]) ∧
 R (.tuple #[]) g6)
 (
 brB (x2 == 11) (
 ∀ b6,Adv [] [] w b6 →
 Calls pP 234 #[(.pointer (some A1)),(.pointer (some (Addr.add A0 9)))] b6 fun e g7 => e = .returned (.tuple #[]) ∧
 Calls pP 79 #[(.iface 93 (.pointer (some A1))),(.pointer (some (Addr.add A0 1)))] g7 fun e g8 => e = .returned (.tuple #[]) ∧
 R (.tuple #[]) g8)
 (
 R (.tuple #[]) w)))))))))))))) :
 CR pP 36 #[(.iface 93 (.pointer (some A1))),(.pointer (some A0))] w R :=
 yaB Tryz.wide_mixed (an:=[]) Tryz.func36 rfl rfl (by kernel_rfl) rfl (Eq.mpr (by kernel_rfl) h)
theorem yJW (h :
 ∀ b2,w.heap.size ≤ b2 →
 brB (decide (i0 < 0)) (
 ∀ w3,Adv [] [b2] w w3 →
 R (.int .i64 41) w3)
 (
 brB (decide (i0 ≥ 13)) (
 ∀ w4,Adv [] [b2] w w4 →
 R (.int .i64 41) w4)
 (
 ∀ b6,w.heap.size ≤ b6 →
 ∀ d2,Adv [] [b6,b2] w d2 → d2.heap[b2]? = some (.cells (Z0 i0 s0 i1 i2 i3 i4 i5 i6 q0 n0 n1 s1 s2 i7 B0 q1 n2 n3) 39) →
 d2.heap[b6]? = some (.cells #[.bool false,.bool false,.int .i64 0] 95) →
 Calls pP 36 #[(.iface 93 (.pointer (some ⟨b6,0,none⟩))),(.pointer (some ⟨b2,0,none⟩))] d2 fun e d3 => e = .returned (.tuple #[]) ∧ ∃ f9 c7 d6 d7 d8 d9 e0 e1 c1 c5 c3 c8 c9 e2 d0 c2 c6 c4,d3.heap[b2]? = some (.cells (Z0 f9 c7 d6 d7 d8 d9 e0 e1 c1 c5 c3 c8 c9 e2 d0 c2 c6 c4) 39) ∧ ∃ d1 e4 e6,d3.heap[b6]? = some (.cells #[.bool d1,.bool e4,.int .i64 e6] 95) ∧
 brB d1 (
 ∀ d4,Adv [b2] [] d3 d4 → d4.heap[b2]? = some (.cells (Z0 0 c7 d6 d7 d8 d9 e0 e1 c1 c5 c3 c8 c9 e2 d0 c2 c6 c4) 39) →
 d4.heap[b6]? = some (.cells #[.bool d1,.bool e4,.int .i64 e6] 95) →
 R (.int .i64 40) d4)
 (
 ∀ d5,Adv [b2] [] d3 d5 → d5.heap[b2]? = some (.cells (Z0 0 c7 d6 d7 d8 d9 e0 e1 c1 c5 c3 c8 c9 e2 d0 c2 c6 c4) 39) →
 d5.heap[b6]? = some (.cells #[.bool d1,.bool e4,.int .i64 e6] 95) →
 Calls pP 37 #[(.agg (Z0 0 c7 d6 d7 d8 d9 e0 e1 c1 c5 c3 c8 c9 e2 d0 c2 c6 c4)),(.agg (Z0 0 ByteArray.empty 0 0 0 0 0 0 none 0 0 ByteArray.empty ByteArray.empty 0 false none 0 0))] d5 fun e c0 => ∃ e7,e = .returned (.bool e7) ∧ ∃ g0 f4 g1 g2 g3 g4 g5 g6 e8 f2 f0 f5 f6 g7 f7 e9 f3 f1,c0.heap[b2]? = some (.cells (Z0 g0 f4 g1 g2 g3 g4 g5 g6 e8 f2 f0 f5 f6 g7 f7 e9 f3 f1) 39) ∧ ∃ f8 e3 e5,c0.heap[b6]? = some (.cells #[.bool f8,.bool e3,.int .i64 e5] 95) ∧
 brB (!e7) (
 R (.int .i64 40) c0)
 (
 brB e3 (
 R (.int .i64 1) c0)
 (
 R (.int .i64 e5) c0)))))) :
 CR pP 16 #[(.agg (Z0 i0 s0 i1 i2 i3 i4 i5 i6 q0 n0 n1 s1 s2 i7 B0 q1 n2 n3))] w R :=
 yaB Tryz.wide_mixed (an:=[]) Tryz.func16 rfl rfl (by kernel_rfl) rfl (Eq.mpr (by kernel_rfl) h)
end
theorem yJX {w:World} {a1 a2:Option Addr} {n1 c1 n2 c2:Nat} {l1 l2:List ByteArray} (h1:ybF w 1 yc8 a1 n1 l1) (h2:ybF w 1 yc8 a2 n2 l2) (hl:l1.length ≤ 1000000) :
  Calls pP 82 #[.slice a1 n1 c1,.slice a2 n2 c2] w fun e w' => e = .returned (.bool (decide (l1 = l2))) ∧ Mod [] w w':=by
 refine ya0 (yJC ?_)
 have e1:=h1.1
 have e2:=h2.1
 refine yaE (fun h => ⟨congrArg Value.bool (decide_eq_false fun e => ?_).symm,Mod.refl _⟩) fun h => ?_
 ·subst e
  rw [e1,e2] at h
  simp at h
 have hlen:l1.length = l2.length:=by
  simp at h
  omega
 refine yCh (fun mm x w' => ∃ k:Nat,x = k ∧ k ≤ l1.length ∧ l1.take k = l2.take k ∧ Mod [] w w' ∧ mm = l1.length - k) l1.length ⟨0,rfl,by omega,by simp,Mod.refl _,rfl⟩ ?_
 rintro mm x w1 ⟨k,rfl,hk,ht,M,rfl⟩
 refine yaC (fun hlt => ?_) fun hge => ?_
 ·have g1:k < l1.length:=by omega
  have g2:k < l2.length:=by omega
  obtain ⟨x,hx⟩:∃ x,l1[k]? = some x:=⟨_,List.getElem?_eq_getElem g1⟩
  obtain ⟨y,hy⟩:∃ y,l2[k]? = some y:=⟨_,List.getElem?_eq_getElem g2⟩
  refine (h1.keep0 M).ix hx fun q hq => yaL (by simpa [add_zero] using hq 0 _ rfl) ?_
  refine (h2.keep0 M).ix hy fun q hq => yaL (by simpa [add_zero] using hq 0 _ rfl) ?_
  rw [yvH x y]
  refine yaE (fun hne => ?_) fun heq => ?_
  rotate_left
  rotate_right
  ·intro w2 A2
   refine ⟨congrArg Value.bool (decide_eq_false fun e => (show ¬ x = y by simpa using hne) ?_).symm,M.go0 A2.mod (by simp)⟩
   subst e
   rw [hx] at hy
   exact Option.some.inj hy
  ·intro w2 A2
   have he:x = y:=by simpa using heq
   subst he
   exact yCg (l1.length - (k + 1)) (by omega) ⟨k + 1,by rw [yaI (by omega) (by omega)]; omega,by omega,ymI ht hx hy,M.go0 A2.mod (by simp),rfl⟩
 ·have hk:k = l1.length:=by omega
  subst hk
  rw [List.take_length,hlen,List.take_length] at ht
  exact ⟨congrArg Value.bool (decide_eq_true ht).symm,M⟩
theorem neR (x y:PRec) (o1 o2:Operand) (w:World):Sem.run pP (do eqGuard .neq 65 o1 o2 x.v y.v; Go.binOp .neq 65 x.v y.v) w = .ok (.bool (decide (x ≠ y))) w:=by
 obtain ⟨a,b,c,d⟩:=x
 obtain ⟨a',b',c',d'⟩:=y
 simp [go_sem,Sem.run_bind,PRec.v]
 by_cases h1:a = a' <;> by_cases h2:b = b' <;> by_cases h3:c = c' <;> by_cases h4:d = d' <;> simp [h1,h2,h3,h4,yeS]
theorem yMD (x y:PPart) (o1 o2:Operand) (w:World):Sem.run pP (do eqGuard .eql 33 o1 o2 x.v y.v; Go.binOp .eql 33 x.v y.v) w = .ok (.bool (decide (x = y))) w:=by
 obtain ⟨a,b⟩:=x
 obtain ⟨a',b'⟩:=y
 simp [go_sem,Sem.run_bind,PPart.v]
 by_cases h1:a = a' <;> by_cases h2:b = b' <;> simp [h1,h2,yeS]
theorem yJY {w:World} {a1 a2:Option Addr} {n1 c1 n2 c2:Nat} {l1 l2:List PRec} (h1:ybF w 4 ymJ a1 n1 l1) (h2:ybF w 4 ymJ a2 n2 l2) (hl:l1.length ≤ 1000000) :
  Calls pP 135 #[.slice a1 n1 c1,.slice a2 n2 c2] w fun e w' => e = .returned (.bool (decide (l1 = l2))) ∧ Mod [] w w':=by
 refine ya0 (yJF ?_)
 have e1:=h1.1
 have e2:=h2.1
 refine yaE (fun h => ⟨congrArg Value.bool (decide_eq_false fun e => ?_).symm,Mod.refl _⟩) fun h => ?_
 ·subst e
  rw [e1,e2] at h
  simp at h
 have hlen:l1.length = l2.length:=by
  simp at h
  omega
 refine yCj (fun mm x w' => ∃ k:Nat,x = k ∧ k ≤ l1.length ∧ l1.take k = l2.take k ∧ Mod [] w w' ∧ mm = l1.length - k) l1.length ⟨0,rfl,by omega,by simp,Mod.refl _,rfl⟩ ?_
 rintro mm x w1 ⟨k,rfl,hk,ht,M,rfl⟩
 refine yaC (fun hlt => ?_) fun hge => ?_
 ·have g1:k < l1.length:=by omega
  have g2:k < l2.length:=by omega
  obtain ⟨x,hx⟩:∃ x,l1[k]? = some x:=⟨_,List.getElem?_eq_getElem g1⟩
  obtain ⟨y,hy⟩:∃ y,l2[k]? = some y:=⟨_,List.getElem?_eq_getElem g2⟩
  refine (h1.keep0 M).ix hx fun q hq => ybI (by simpa [add_zero] using hq 0 _ rfl) (yaL (hq 1 _ rfl) (ybI (hq 2 _ rfl) (yaL (hq 3 _ rfl) ?_)))
  refine (h2.keep0 M).ix hy fun q hq => ybI (by simpa [add_zero] using hq 0 _ rfl) (yaL (hq 1 _ rfl) (ybI (hq 2 _ rfl) (yaL (hq 3 _ rfl) ?_)))
  refine ⟨_,fun w' _ => neR x y _ _ w',?_⟩
  refine yaC (fun hne => ?_) fun heq => ?_
  ·intro w2 A2
   refine ⟨congrArg Value.bool (decide_eq_false fun e => hne ?_).symm,M.go0 A2.mod (by simp)⟩
   subst e
   rw [hx] at hy
   exact Option.some.inj hy
  ·intro w2 A2
   have he:x = y:=Decidable.not_not.1 heq
   subst he
   exact yCi (l1.length - (k + 1)) (by omega) ⟨k + 1,by rw [yaI (by omega) (by omega)]; omega,by omega,ymI ht hx hy,M.go0 A2.mod (by simp),rfl⟩
 ·have hk:k = l1.length:=by omega
  subst hk
  rw [List.take_length,hlen,List.take_length] at ht
  exact ⟨congrArg Value.bool (decide_eq_true ht).symm,M⟩
def PBatch.v (b:PBatch) (rs:Sl):Value:=.agg #[.int .i64 b.prod,.int .i64 b.epoch,.int .i64 b.seq,.slice rs.a rs.n rs.c]
theorem yAd {w:World} {x y:PBatch} {s t:Sl} (h1:ybF w 4 ymJ s.a s.n x.recs) (h2:ybF w 4 ymJ t.a t.n y.recs) (hl:x.recs.length ≤ 1000000) :
  Calls pP 81 #[x.v s,y.v t] w fun e w' => e = .returned (.bool (decide (x = y))) ∧ Mod [] w w':=by
 obtain ⟨a1,a2,a3,a4⟩:=x
 obtain ⟨b1,b2,b3,b4⟩:=y
 refine ya0 (yMB ?_)
 intro c1 f1 c2 f2
 simp only [PBatch.mk.injEq]
 refine yaE (fun g1 => ?_) fun g1 => ?_
 ·have g1:a1 = b1:=by simpa using g1
  refine yaE (fun g2 => ?_) fun g2 => ?_
  ·have g2:a2 = b2:=by simpa using g2
   refine yaE (fun g3 => ?_) fun g3 => ?_
   ·have g3:a3 = b3:=by simpa using g3
    intro w1 A1
    refine (yJY (h1.keep0 A1.mod) (h2.keep0 A1.mod) hl).mono ?_
    rintro e w2 ⟨rfl,M2⟩
    exact ⟨_,rfl,yaF.of0 M2,by simp [g1,g2,g3],A1.mod.go0 M2 (by simp)⟩
   ·intro w1 A1
    exact ⟨congrArg Value.bool (decide_eq_false (by simp at g3; rintro ⟨_,_,h,_⟩; exact g3 h)).symm,A1.mod⟩
  ·intro w1 A1
   exact ⟨congrArg Value.bool (decide_eq_false (by simp at g2; rintro ⟨_,h,_⟩; exact g2 h)).symm,A1.mod⟩
 ·intro w1 A1
  exact ⟨congrArg Value.bool (decide_eq_false (by simp at g1; rintro ⟨h,_⟩; exact g1 h)).symm,A1.mod⟩
theorem yCo {w:World} {x y:POp} {rs ts rs' ts':Sl} (h1:OpAt w x rs ts) (h2:OpAt w y rs' ts') :
  Calls pP 37 #[x.v rs ts,y.v rs' ts'] w fun e w' => e = .returned (.bool (decide (x = y))) ∧ Mod [] w w':=by
 obtain ⟨k1,p1,n1,o1,b1,g1,m1,e1,r1,t1⟩:=x
 obtain ⟨k2,p2,n2,o2,b2,g2,m2,e2,r2,t2⟩:=y
 refine ya0 (yMC ?_)
 intro c1 f1 c2 f2
 simp only [POp.mk.injEq]
 have no:∀ {P:Prop} [Decidable P] {w':World},¬ P → Mod [] w w' → (Value.bool false = Value.bool (decide P) ∧ Mod [] w w'):=fun hn M => ⟨congrArg Value.bool (decide_eq_false hn).symm,M⟩
 refine yaE (fun q1 => ?_) fun q1 => ?_
 rotate_left
 ·intro w1 A1
  exact no (by simp at q1; rintro ⟨h,_⟩; exact q1 h) A1.mod
 have q1:k1 = k2:=by simpa using q1
 intro w1 A1
 have M1:=A1.mod
 refine ⟨_,fun w' _ => yMD p1 p2 _ _ w',yaE (fun q2 => ?_) fun q2 => no (by simp at q2; rintro ⟨_,h,_⟩; exact q2 h) M1⟩
 have q2:p1 = p2:=by simpa using q2
 refine yaE (fun q3 => ?_) fun q3 => no (by simp at q3; rintro ⟨_,_,h,_⟩; exact q3 h) M1
 have q3:n1 = n2:=by simpa using q3
 refine yaE (fun q4 => ?_) fun q4 => no (by simp at q4; rintro ⟨_,_,_,h,_⟩; exact q4 h) M1
 have q4:o1 = o2:=by simpa using q4
 rw [yvH,yvH]
 refine yaE (fun q5 => ?_) fun q5 => no (by simp at q5; rintro ⟨_,_,_,_,_,h,_⟩; exact q5 h) M1
 have q5:g1 = g2:=by simpa using q5
 refine yaE (fun q6 => ?_) fun q6 => no (by simp at q6; rintro ⟨_,_,_,_,_,_,h,_⟩; exact q6 h) M1
 have q6:m1 = m2:=by simpa using q6
 refine yaE (fun q7 => ?_) fun q7 => no (by simp at q7; rintro ⟨_,_,_,_,_,_,_,h,_⟩; exact q7 h) M1
 have q7:e1 = e2:=by simpa using q7
 refine yaE (fun q8 => ?_) fun q8 => no (by simp at q8; rintro ⟨_,_,_,_,_,_,_,_,h,_⟩; exact q8 h) M1
 have q8:r1 = r2:=by simpa using q8
 refine (yAd (x:=b1) (y:=b2) (s:=rs) (t:=rs') (h1.recs.keep0 M1) (h2.recs.keep0 M1) h1.lr).mono ?_
 rintro e w2 ⟨rfl,M2⟩
 have N2:=M1.go0 M2 (by simp)
 refine ⟨_,rfl,yaF.of0 M2,yaE (fun q9 => ?_) fun q9 => no (by simp at q9; rintro ⟨_,_,_,_,h,_⟩; exact q9 h) N2⟩
 have q9:b1 = b2:=by simpa using q9
 refine (yJX (h1.topics.keep0 N2) (h2.topics.keep0 N2) h1.lt).mono ?_
 rintro e w3 ⟨rfl,M3⟩
 exact ⟨_,rfl,yaF.of0 M3,by simp [q1,q2,q3,q4,q5,q6,q7,q8,q9],N2.go0 M3 (by simp)⟩
theorem ymN (n:Int) (w:World):Calls pP 241 #[.int .i64 n] w fun e w' => e = .returned (.bool (num n)) ∧ w' = w :=
 ya0 (yMz (yaC (fun h => ⟨by simp [num]; omega,rfl⟩) (fun h => ⟨by simp [num]; omega,rfl⟩)))
theorem yCp {l:List PRec} {k:Nat} {x:PRec} (hx:l[k]? = some x) (h:∀ y ∈ l.take k,yjS y = 0) (hne:yjS x ≠ 0):(l.find? fun r => yjS r ≠ 0) = some x:=by
 have hk:k < l.length:=(List.getElem?_eq_some_iff.1 hx).1
 have e:l = l.take k ++ x :: l.drop (k + 1):=by
  have h2:l[k] = x:=(List.getElem?_eq_some_iff.1 hx).2
  conv => lhs; rw [← List.take_append_drop k l,List.drop_eq_getElem_cons hk,h2]
 rw [e,List.find?_append,List.find?_eq_none.2 (by intro y hy; simp [h y hy])]
 simp [hne]
theorem yCq {w:World} {b:PBatch} {rs:Sl} (h:ybF w 4 ymJ rs.a rs.n b.recs) (hl:b.recs.length ≤ 1000000) :
  Calls pP 237 #[b.v rs] w fun e w' => e = .returned (.int .i64 (yfM b)) ∧ Mod [] w w':=by
 refine ya0 (yMA ?_)
 have hn:=h.1
 intro b1 f1 w1 A1
 have l1:=A1.lt b1 (by simp)
 have bad:∀ {k:Int} {w':World},yfM b = k → Mod [] w w' → (Value.int .i64 k = Value.int .i64 (yfM b) ∧ Mod [] w w'):=fun e M => ⟨by rw [e],M⟩
 refine (ymN b.prod w1).mono ?_
 rintro e w2 ⟨rfl,rfl⟩
 refine ⟨_,rfl,yaF.of0 (Mod.refl _),yaE (fun q1 => bad (by rw [yfM,if_pos (by rw [yMg q1]; rfl)]) A1.mod) fun q1 => ?_⟩
 refine (ymN b.epoch w2).mono ?_
 rintro e w3 ⟨rfl,rfl⟩
 refine ⟨_,rfl,yaF.of0 (Mod.refl _),yaE (fun q2 => bad (by rw [yfM,if_pos (by rw [yMg q2]; simp)]) A1.mod) fun q2 => ?_⟩
 refine (ymN b.seq w3).mono ?_
 rintro e w4 ⟨rfl,rfl⟩
 refine ⟨_,rfl,yaF.of0 (Mod.refl _),yaE (fun q3 => bad (by rw [yfM,if_pos (by rw [yMg q3]; simp)]) A1.mod) fun q3 => ?_⟩
 have e0:yfM b = if b.recs.length = 0 then 30 else if b.recs.length > 16 then 2 else match b.recs.find? fun r => yjS r ≠ 0 with | none => 0 | some r => yjS r:=by
  rw [yfM,if_neg (by rw [yJv q1,yJv q2,yJv q3]; decide)] <;> rfl
 refine yaE (fun q4 => bad (by rw [e0,if_pos (by simp at q4; omega)]) A1.mod) fun q4 => ?_
 rw [if_neg (by simp at q4; omega)] at e0
 refine yaC (fun q5 => bad (by rw [e0,if_pos (by omega)]) A1.mod) fun q5 => ?_
 rw [if_neg (by omega)] at e0
 refine yFc (fun mm x w' => ∃ k:Nat,x = k ∧ k ≤ b.recs.length ∧ (∀ y ∈ b.recs.take k,yjS y = 0) ∧ Mod [] w w' ∧ mm = b.recs.length - k) b.recs.length ⟨0,rfl,by omega,by simp,A1.mod,rfl⟩ ?_
 rintro mm x w5 ⟨k,rfl,hk,hz,M5,rfl⟩
 refine yaC (fun hlt => ?_) fun hge => ?_
 ·obtain ⟨y,hy⟩:∃ y,b.recs[k]? = some y:=⟨_,List.getElem?_eq_getElem (by omega)⟩
  refine (h.keep0 M5).ix hy fun q hq => ybI (by simpa [add_zero] using hq 0 _ rfl) (yaL (hq 1 _ rfl) (ybI (hq 2 _ rfl) (yaL (hq 3 _ rfl) ?_)))
  intro b6 f6 w6 A6
  refine (yhY y w6).mono ?_
  rintro e w7 ⟨rfl,M7⟩
  have N7:=(M5.go0 A6.mod (by simp)).go0 M7 (by simp)
  refine ⟨_,rfl,yaF.of0 M7,yaE (fun q6 => ?_) fun q6 => ?_⟩
  ·have q6:yjS y ≠ 0:=by simpa using q6
   exact bad (by rw [e0,yCp hy hz q6]) N7
  ·have q6:yjS y = 0:=by simpa using q6
   refine yFb (b.recs.length - (k + 1)) (by omega) ⟨k + 1,by rw [yaI (by omega) (by omega)]; omega,by omega,?_,N7,rfl⟩
   rw [List.take_add_one,hy]
   intro z hz'
   rcases List.mem_append.1 hz' with h | h
   ·exact hz z h
   ·simp at h; subst h; exact q6
 ·have:k = b.recs.length:=by omega
  subst this
  rw [List.take_length] at hz
  refine bad ?_ M5
  rw [e0,List.find?_eq_none.2 (by intro y hy; simp [hz y hy])]
structure ChSt (w0 w:World) (bc bo:Nat) (F A:Bool) (E:Int) (cs:List Value):Prop where
 c:w.heap[bc]? = some (.cells #[.bool F,.bool A,.int .i64 E] 95)
 o:w.heap[bo]? = some (.cells cs.toArray 39)
 m:Mod [bc,bo] w0 w
 ne:bc ≠ bo
theorem ChSt.adv {w0 w w':World} {bc bo:Nat} {F A:Bool} {E:Int} {cs:List Value} (h:ChSt w0 w bc bo F A E cs) {N:List Nat} (M:Adv [] N w w'):ChSt w0 w' bc bo F A E cs :=
 ⟨M.mod.keep0 h.c,M.mod.keep0 h.o,(h.m.trans M.mod).less (by simp),h.ne⟩
theorem ChSt.m0 {w0 w w':World} {bc bo:Nat} {F A:Bool} {E:Int} {cs:List Value} (h:ChSt w0 w bc bo F A E cs) (M:Mod [] w w'):ChSt w0 w' bc bo F A E cs :=
 ⟨M.keep0 h.c,M.keep0 h.o,(h.m.trans M).less (by simp),h.ne⟩
theorem ChSt.setC {w0 w w':World} {bc bo:Nat} {F A F' A':Bool} {E E':Int} {cs:List Value} (h:ChSt w0 w bc bo F A E cs) (hc:w'.heap[bc]? = some (.cells #[.bool F',.bool A',.int .i64 E'] 95)) (M:Mod [bc] w w'):ChSt w0 w' bc bo F' A' E' cs :=
 ⟨hc,M.keep h.o (by simpa using h.ne.symm),(h.m.trans M).less (by simp),h.ne⟩
theorem ChSt.setO {w0 w w':World} {bc bo:Nat} {F A:Bool} {E:Int} {cs cs':List Value} (h:ChSt w0 w bc bo F A E cs) (ho:w'.heap[bo]? = some (.cells cs'.toArray 39)) (M:Mod [bo] w w'):ChSt w0 w' bc bo F A E cs' :=
 ⟨M.keep h.c (by simpa using h.ne),ho,(h.m.trans M).less (by simp),h.ne⟩
theorem yJa {cs:List Value} {off:Nat} {v:Value}:ybJ cs.toArray off [v] = (cs.set off v).toArray:=by simp [ybJ]
theorem yoM {w0 w:World} {bc bo off:Nat} {F A:Bool} {E x:Int} {cs:List Value} {R:World → Prop} (H:ChSt w0 w bc bo F A E cs) (hc:cs[off]? = some (.int .i64 x)) (k:∀ w',ChSt w0 w' bc bo F (A || !num x) E (cs.set off (.int .i64 0)) → R w') :
  Calls pP 236 #[.pointer (some ⟨bc,0,none⟩),.pointer (some ⟨bo,off,none⟩)] w fun e w' => e = .returned (.tuple #[]) ∧ R w':=by
 have hlt:off < cs.length:=(List.getElem?_eq_some_iff.1 hc).1
 refine ya0 (yJH ?_)
 refine yl0 (b:=bc) (i:=1) H.c rfl ?_
 refine yaE (fun g => ?_) fun g => ?_
 ·subst g
  refine yeY (b:=bc) (o:=1) H.c rfl (by simp) fun w1 h1 M1 => ?_
  have H1:=H.setC (F':=F) (A':=true) (E':=E) h1 M1
  refine yeY (b:=bo) (o:=off) H1.o rfl (by simp; omega) fun w2 h2 M2 => ?_
  exact ⟨rfl,k w2 (H1.setO (by rw [h2,yJa]) M2)⟩
 ·subst g
  refine yiP (b:=bo) (i:=off) H.o (by simpa using hc) ?_
  refine (yAb x w).mono ?_
  rintro e w1 ⟨rfl,rfl⟩
  refine ⟨_,rfl,?_⟩
  refine yeY (b:=bc) (o:=1) H.c rfl (by simp) fun w2 h2 M2 => ?_
  have H2:=H.setC (F':=F) (A':=!num x) (E':=E) h2 M2
  refine yeY (b:=bo) (o:=off) H2.o rfl (by simp; omega) fun w3 h3 M3 => ?_
  exact ⟨rfl,k w3 (H2.setO (by rw [h3,yJa]) M3)⟩
theorem yf3 {w0 w:World} {bc bo off:Nat} {F A:Bool} {E:Int} {x:ByteArray} {cs:List Value} {R:World → Prop} (H:ChSt w0 w bc bo F A E cs) (hc:cs[off]? = some (.string x)) (k:∀ w',ChSt w0 w' bc bo (F || !ybQ x) A E (cs.set off (.string es)) → R w') :
  Calls pP 234 #[.pointer (some ⟨bc,0,none⟩),.pointer (some ⟨bo,off,none⟩)] w fun e w' => e = .returned (.tuple #[]) ∧ R w':=by
 have hlt:off < cs.length:=(List.getElem?_eq_some_iff.1 hc).1
 refine ya0 (yJI ?_)
 refine yl0 (b:=bc) (i:=0) H.c rfl ?_
 refine yaE (fun g => ?_) fun g => ?_
 ·subst g
  refine yeY (b:=bc) (o:=0) H.c rfl (by simp) fun w1 h1 M1 => ?_
  have H1:=H.setC (F':=true) (A':=A) (E':=E) h1 M1
  refine yeY (b:=bo) (o:=off) H1.o rfl (by simp; omega) fun w2 h2 M2 => ?_
  exact ⟨rfl,k w2 (H1.setO (by rw [h2,yJa]; rfl) M2)⟩
 ·subst g
  refine yET (b:=bo) (i:=off) H.o (by simpa using hc) ?_
  refine (ygN x w).mono ?_
  rintro e w1 ⟨rfl,M1⟩
  have H1:=H.m0 M1
  refine ⟨_,rfl,?_⟩
  refine yeY (b:=bc) (o:=0) H1.c rfl (by simp) fun w2 h2 M2 => ?_
  have H2:=H1.setC (F':=!ybQ x) (A':=A) (E':=E) h2 M2
  refine yeY (b:=bo) (o:=off) H2.o rfl (by simp; omega) fun w3 h3 M3 => ?_
  exact ⟨rfl,k w3 (H2.setO (by rw [h3,yJa]; rfl) M3)⟩
theorem yvO {w0 w:World} {bc bo off:Nat} {F A:Bool} {E:Int} {x:Bool} {cs:List Value} {R:World → Prop} (H:ChSt w0 w bc bo F A E cs) (hc:cs[off]? = some (.bool x)) (k:∀ w',ChSt w0 w' bc bo F A E (cs.set off (.bool false)) → R w') :
  Calls pP 233 #[.pointer (some ⟨bc,0,none⟩),.pointer (some ⟨bo,off,none⟩)] w fun e w' => e = .returned (.tuple #[]) ∧ R w':=by
 have hlt:off < cs.length:=(List.getElem?_eq_some_iff.1 hc).1
 refine ya0 (yJJ ?_)
 refine yeY (b:=bo) (o:=off) H.o rfl (by simp; omega) fun w2 h2 M2 => ?_
 exact ⟨rfl,k w2 (H.setO (by rw [h2,yJa]) M2)⟩
theorem ys2 {w0 w:World} {bc bo:Nat} {F A:Bool} {E:Int} {b:PBatch} {rs:Sl} {cs:List Value} {R:World → Prop} (H:ChSt w0 w bc bo F A E cs) (h5:cs[5]? = some (.int .i64 b.prod)) (h6:cs[6]? = some (.int .i64 b.epoch)) (h7:cs[7]? = some (.int .i64 b.seq)) (h8:cs[8]? = some (.slice rs.a rs.n rs.c))
  (hs:ybF w 4 ymJ rs.a rs.n b.recs) (hl:b.recs.length ≤ 1000000) (k:∀ w',ChSt w0 w' bc bo F A (yfM b) ((((cs.set 5 (.int .i64 0)).set 6 (.int .i64 0)).set 7 (.int .i64 0)).set 8 (.slice none 0 0)) → R w') :
  Calls pP 232 #[.pointer (some ⟨bc,0,none⟩),.pointer (some ⟨bo,5,none⟩)] w fun e w' => e = .returned (.tuple #[]) ∧ R w':=by
 have hlt:8 < cs.length:=(List.getElem?_eq_some_iff.1 h8).1
 refine ya0 (yJK ?_)
 refine yiP (b:=bo) (i:=5) H.o (by simpa using h5) (yiP (b:=bo) (i:=6) H.o (by simpa using h6) (yiP (b:=bo) (i:=7) H.o (by simpa using h7) (ydR (b:=bo) (i:=8) H.o (by simpa using h8) ?_)))
 refine (yCq (b:=b) (rs:=rs) hs hl).mono ?_
 rintro e w1 ⟨rfl,M1⟩
 have H1:=H.m0 M1
 refine ⟨_,rfl,?_⟩
 refine yeY (b:=bc) (o:=2) H1.c rfl (by simp) fun w2 h2 M2 => ?_
 have H2:=H1.setC (F':=F) (A':=A) (E':=yfM b) h2 M2
 refine yeY (b:=bo) (o:=5) H2.o rfl (by simp; omega) fun w3 h3 M3 => ?_
 exact ⟨rfl,k w3 (H2.setO (by rw [h3]; simp [ybJ]) M3)⟩
theorem yJZ (s:ByteArray) (w:World):Calls pP 239 #[.string s] w fun e w' => e = .returned (.bool (!ybQ s)) ∧ Mod [] w w':=by
 refine ya0 (yJO ?_)
 refine (ygN s w).mono ?_
 rintro e w1 ⟨rfl,M1⟩
 exact ⟨_,rfl,rfl,M1⟩
theorem yvP {w:World} {a:Option Addr} {n c:Nat} {l:List ByteArray} (h:ybF w 1 yc8 a n l) (hl:l.length ≤ 1000000) :
  Calls pP 136 #[.slice a n c,.func (.func 239) #[] #[]] w fun e w' => ∃ v,e = .returned v ∧ ∃ x:Int,v = .int .i64 x ∧ (0 ≤ x ↔ l.all ybQ = false) ∧ Mod [] w w':=by
 refine yJS ?_
 have hn:=h.1
 refine yCn (fun mm x w' => ∃ k:Nat,x = k ∧ k ≤ l.length ∧ (l.take k).all ybQ = true ∧ Mod [] w w' ∧ mm = l.length - k) l.length ⟨0,rfl,by omega,by simp,Mod.refl _,rfl⟩ ?_
 rintro mm x w1 ⟨k,rfl,hk,ha,M1,rfl⟩
 refine yaC (fun hlt => ?_) fun hge => ?_
 ·obtain ⟨y,hy⟩:∃ y,l[k]? = some y:=⟨_,List.getElem?_eq_getElem (by omega)⟩
  refine (h.keep0 M1).ix hy fun q hq => yaL (by simpa [add_zero] using hq 0 _ rfl) ?_
  refine (yJZ y w1).mono ?_
  rintro e w2 ⟨rfl,M2⟩
  have N2:=M1.go0 M2 (by simp)
  refine ⟨_,rfl,yaE (fun g => ?_) fun g => ?_⟩
  ·refine ⟨_,rfl,⟨fun _ => ?_,fun _ => by omega⟩,N2⟩
   rw [List.all_eq_false]
   exact ⟨y,List.mem_of_getElem? hy,by simpa using g⟩
  ·refine yCm (l.length - (k + 1)) (by omega) ⟨k + 1,by rw [yaI (by omega) (by omega)]; omega,by omega,?_,N2,rfl⟩
   rw [yE7 hy,ha]; simpa using g
 ·have:k = l.length:=by omega
  subst this
  rw [List.take_length] at ha
  exact ⟨_,rfl,⟨fun h => by omega,fun h => by rw [ha] at h; cases h⟩,M1⟩
theorem ynZ {w:World} {a:Option Addr} {n c:Nat} {l:List ByteArray} (h:ybF w 1 yc8 a n l) (hl:l.length ≤ 1000000) :
  Calls pP 238 #[.slice a n c,.func (.func 239) #[] #[]] w fun e w' => e = .returned (.bool (!l.all ybQ)) ∧ Mod [] w w':=by
 refine ya0 (yJP ?_)
 refine (yvP h hl).mono ?_
 rintro e w1 ⟨_,rfl,x,rfl,hx,M1⟩
 refine ⟨_,rfl,congrArg Value.bool ?_,M1⟩
 cases ha:l.all ybQ
 ·exact decide_eq_true (hx.2 ha)
 ·exact decide_eq_false fun h => by have:=hx.1 h; rw [ha] at this; cases this
theorem yoN:∀ (l:List ByteArray) (x y:ByteArray),ybB (l ++ [x,y]) = (ybB (l ++ [x]) && yb8 x y)
 | [],x,y => by simp [ybB]
 | [a],x,y => by simp [ybB,Bool.and_assoc]
 | a :: b :: r,x,y => by
  have:=yoN (b :: r) x y
  simp only [List.cons_append] at this ⊢
  rw [ybB,ybB,this,Bool.and_assoc]
theorem ye1 {l:List ByteArray} {k:Nat} {x y:ByteArray} (hx:l[k]? = some x) (hy:l[k + 1]? = some y):ybB (l.take (k + 2)) = (ybB (l.take (k + 1)) && yb8 x y):=by
 have e1:l.take (k + 1) = l.take k ++ [x]:=by rw [List.take_add_one,hx]; rfl
 have e2:l.take (k + 2) = l.take k ++ [x,y]:=by rw [List.take_add_one,hy,e1]; simp
 rw [e1,e2,yoN]
theorem ys3 {w0 w:World} {bc bo:Nat} {F A:Bool} {E:Int} {l:List ByteArray} {ts:Sl} {cs:List Value} {R:World → Prop} (H:ChSt w0 w bc bo F A E cs) (hc:cs[13]? = some (.slice ts.a ts.n ts.c))
  (hs:ybF w 1 yc8 ts.a ts.n l) (hl:l.length ≤ 1000000) (k:∀ w',ChSt w0 w' bc bo (F || !ykY l) A E (cs.set 13 (.slice none 0 0)) → R w') :
  Calls pP 235 #[.pointer (some ⟨bc,0,none⟩),.pointer (some ⟨bo,13,none⟩)] w fun e w' => e = .returned (.tuple #[]) ∧ R w':=by
 have hlt:13 < cs.length:=(List.getElem?_eq_some_iff.1 hc).1
 have hn:=hs.1
 refine ya0 (yJN ?_)
 refine yCl (fun mm t x w' => ∃ j:Nat,x = ((j + 1:Nat):Int) ∧ j ≤ l.length ∧ t = ybB (l.take (j + 1)) ∧ Mod [] w w' ∧ mm = l.length - j) l.length ⟨0,rfl,by omega,?_,Mod.refl _,rfl⟩ ?_
 ·cases l <;> simp [ybB]
 rintro mm t x w1 ⟨j,rfl,hj,rfl,M1,rfl⟩
 have H1:=H.m0 M1
 have hcell:cs.toArray[13]? = some (.slice ts.a ts.n ts.c):=by simpa using hc
 refine ydR (b:=bo) (i:=13) H1.o hcell ?_
 refine yaC (fun hlt2 => ?_) fun hge => ?_
 ·have g1:j + 1 < l.length:=by omega
  obtain ⟨x,hx⟩:∃ x,l[j]? = some x:=⟨_,List.getElem?_eq_getElem (by omega)⟩
  obtain ⟨y,hy⟩:∃ y,l[j + 1]? = some y:=⟨_,List.getElem?_eq_getElem g1⟩
  have ew:IntKind.wrap .i64 (((j + 1:Nat):Int) + 1) = ((j + 1 + 1:Nat):Int):=by rw [yaI (by omega) (by omega)]; omega
  have em:IntKind.wrap .i64 (((j + 1:Nat):Int) - 1) = (j:Int):=by rw [yaI (by omega) (by omega)]; omega
  refine yaE (fun g => ?_) fun g => ?_
  ·refine ydR (b:=bo) (i:=13) H1.o hcell ?_
   rw [em]
   refine (hs.keep0 M1).ix hx fun q hq => yaL (x:=x) (by simpa [add_zero] using hq 0 _ rfl) ?_
   refine ydR (b:=bo) (i:=13) H1.o hcell ?_
   refine (hs.keep0 M1).ix hy fun q hq => yaL (x:=y) (by simpa [add_zero] using hq 0 _ rfl) ?_
   intro w2 A2
   refine ys1 (l.length - (j + 1)) (by omega) ⟨j + 1,ew,by omega,?_,M1.go0 A2.mod (by simp),rfl⟩
   rw [ye1 hx hy,g]; rfl
  ·intro w2 A2
   refine ys1 (l.length - (j + 1)) (by omega) ⟨j + 1,ew,by omega,?_,M1.go0 A2.mod (by simp),rfl⟩
   rw [ye1 hx hy,g]; rfl
 ·rw [List.take_of_length_le (by omega)]
  refine ydR (b:=bo) (i:=13) H1.o hcell ?_
  refine (ynZ (hs.keep0 M1) hl).mono ?_
  rintro e w2 ⟨rfl,M2⟩
  have H2:=H1.m0 M2
  refine ⟨_,rfl,?_⟩
  have fin:∀ {f:Bool},(F || !ykY l) = f → st w2 ⟨bc,0,none⟩ [.bool f] fun w3 => st w3 ⟨bo,13,none⟩ [.slice none 0 0] fun w4 => (Value.tuple #[] = Value.tuple #[] ∧ R w4):=fun {f} hf => by
   refine yeY (b:=bc) (o:=0) H2.c rfl (by simp) fun w3 h3 M3 => ?_
   have H3:=H2.setC (F':=f) (A':=A) (E':=E) h3 M3
   refine yeY (b:=bo) (o:=13) H3.o rfl (by simp; omega) fun w4 h4 M4 => ?_
   refine ⟨rfl,k w4 ?_⟩
   rw [hf]
   exact H3.setO (by rw [h4,yJa]) M4
  refine yl0 (b:=bc) (i:=0) H2.c rfl ?_
  refine yaE (fun g => fin (by rw [g]; rfl)) fun g => ?_
  subst g
  refine ydR (b:=bo) (i:=13) H2.o hcell ?_
  refine yaE (fun g => fin ?_) fun g => ?_
  ·have:l.length = 0:=by simp at g; omega
   simp [ykY,this]
  refine ydR (b:=bo) (i:=13) H2.o hcell ?_
  refine yaC (fun g2 => fin ?_) fun g2 => ?_
  ·have:¬ (l.length ≤ 8):=by omega
   simp [ykY,this]
  have hl8:decide (1 ≤ l.length ∧ l.length ≤ 8) = true:=decide_eq_true (by simp at g; omega)
  refine yaE (fun g3 => fin ?_) fun g3 => fin ?_
  ·rw [ykY,yMg g3]; simp
  ·rw [ykY,yJv g3,hl8]; simp
theorem yvQ {w0 w:World} {bc bo:Nat} {F A:Bool} {E x:Int} {t:ByteArray} {cs:List Value} {R:World → Prop} (H:ChSt w0 w bc bo F A E cs) (h1:cs[1]? = some (.string t)) (h2:cs[2]? = some (.int .i64 x)) (k:∀ w',ChSt w0 w' bc bo (F || !ybQ t) (A || !num x) E ((cs.set 1 (.string es)).set 2 (.int .i64 0)) → R w') :
  Calls pP 79 #[.iface 93 (.pointer (some ⟨bc,0,none⟩)),.pointer (some ⟨bo,1,none⟩)] w fun e w' => e = .returned (.tuple #[]) ∧ R w':=by
 refine ya0 (yJT ?_)
 intro w1 A1
 refine yf3 (off:=1) (H.adv A1) h1 fun w2 H => ?_
 intro w3 A3
 refine yoM (off:=2) (x:=x) (H.adv A3) (by rw [List.getElem?_set_ne (by decide)]; exact h2) fun w4 H => ?_
 exact ⟨rfl,k w4 H⟩
theorem yp8 {w0 w:World} {bc bo:Nat} {F A:Bool} {E:Int} {g m:ByteArray} {cs:List Value} {R:World → Prop} (H:ChSt w0 w bc bo F A E cs) (h1:cs[9]? = some (.string g)) (h2:cs[10]? = some (.string m)) (k:∀ w',ChSt w0 w' bc bo ((F || !ybQ g) || !ybQ m) A E ((cs.set 9 (.string es)).set 10 (.string es)) → R w') :
  Calls pP 80 #[.iface 93 (.pointer (some ⟨bc,0,none⟩)),.pointer (some ⟨bo,0,none⟩)] w fun e w' => e = .returned (.tuple #[]) ∧ R w':=by
 refine ya0 (yJU ?_)
 intro w1 A1
 refine yf3 (off:=9) (H.adv A1) h1 fun w2 H => ?_
 intro w3 A3
 refine yf3 (off:=10) (x:=m) (H.adv A3) (by rw [List.getElem?_set_ne (by decide)]; exact h2) fun w4 H => ?_
 exact ⟨rfl,k w4 H⟩
def ya8:Sl:=⟨none,0,0⟩
def chR (o:POp) (rs:Sl):Sl:=if ha o.kind 98 then ya8 else rs
def chT (o:POp) (ts:Sl):Sl:=if ha o.kind 114 then ya8 else ts
set_option maxHeartbeats 2000000 in
theorem ys4 {w0 w:World} {bc bo:Nat} {o:POp} {rs ts:Sl} {R:World → Prop} (H:ChSt w0 w bc bo false false 0 (o.cs rs ts)) (h0:¬ (o.kind < 0 ∨ o.kind > 12))
  (hop:∀ w',Mod [bc,bo] w0 w' → OpAt w' o rs ts) (k:∀ w',ChSt w0 w' bc bo (chF o) (chA o) (chE o) ((chO o).cs (chR o rs) (chT o ts)) → R w') :
  Calls pP 36 #[.iface 93 (.pointer (some ⟨bc,0,none⟩)),.pointer (some ⟨bo,0,none⟩)] w fun e w' => e = .returned (.tuple #[]) ∧ R w':=by
 refine ya0 (yJV ?_)
 obtain ⟨kd,pt,n,off,b,g,m,gen,robin,topics⟩:=o
 obtain ⟨b1,b2,b3,b4⟩:=b
 simp only at h0
 refine yiP (b:=bo) (i:=0) H.o rfl ?_
 have hk:kd = 0 ∨ kd = 1 ∨ kd = 2 ∨ kd = 3 ∨ kd = 4 ∨ kd = 5 ∨ kd = 6 ∨ kd = 7 ∨ kd = 8 ∨ kd = 9 ∨ kd = 10 ∨ kd = 11 ∨ kd = 12:=by omega
 rcases hk with rfl | rfl | rfl | rfl | rfl | rfl | rfl | rfl | rfl | rfl | rfl | rfl | rfl
 all_goals
  repeat (first
   | refine brT rfl ?_
   | refine brF rfl ?_
   | (intro w' A'; have H:=H.adv A'; clear A')
   | refine yoM H rfl fun w' H => ?_
   | refine yf3 H rfl fun w' H => ?_
   | refine yvO H rfl fun w' H => ?_
   | refine yvQ H rfl rfl fun w' H => ?_
   | refine yp8 H rfl rfl fun w' H => ?_
   | refine ys2 (b:=⟨b1,b2,b3,b4⟩) (rs:=rs) H rfl rfl rfl rfl (hop _ H.m).recs (hop _ H.m).lr fun w' H => ?_
   | refine ys3 (ts:=ts) H rfl (hop _ H.m).topics (hop _ H.m).lt fun w' H => ?_)
  refine ⟨rfl,k _ ?_⟩
  simpa [chF,chA,chE,chO,chR,chT,ha,yMh,POp.cs,ya8,ykX,Bool.or_comm,Bool.or_left_comm,Bool.or_assoc] using H
theorem yFd {w:World} {o:POp} {rs ts:Sl} (h:OpAt w o rs ts) :
  Calls pP 16 #[o.v rs ts] w fun e w' => e = .returned (.int .i64 (opE o)) ∧ Mod [] w w':=by
 refine ya0 (yJW ?_)
 intro b1 f1
 refine yaC (fun q1 => ?_) fun q1 => ?_
 ·intro w1 A1
  exact ⟨by rw [opE,if_pos (.inl q1)],A1.mod⟩
 refine yaC (fun q2 => ?_) fun q2 => ?_
 ·intro w1 A1
  exact ⟨by rw [opE,if_pos (.inr (by omega))],A1.mod⟩
 have h0:¬ (o.kind < 0 ∨ o.kind > 12):=by omega
 intro b4 f4 w5 A5 c1 c4
 have hne:b4 ≠ b1:=by
  rintro rfl
  rw [c1] at c4; cases c4
 have l1:=A5.lt b1 (by simp)
 have l4:=A5.lt b4 (by simp)
 have hop:∀ w',Mod [b4,b1] w5 w' → OpAt w' o rs ts:=fun w' M => h.keep0 (A5.mod.go0 M (by simp; omega))
 refine ys4 (o:=o) (rs:=rs) (ts:=ts) ⟨c4,c1,(Mod.refl _).less (by simp),hne⟩ h0 hop fun w6 H => ?_
 have M6:Mod [] w w6:=A5.mod.go0 H.m (by simp; omega)
 refine ⟨_,_,_,_,_,_,_,_,_,_,_,_,_,_,_,_,_,_,H.o,_,_,_,H.c,?_⟩
 have law:=yCe o h0
 refine yaE (fun q3 => ?_) fun q3 => ?_
 ·intro w7 A7 _ _
  exact ⟨by rw [law,q3]; rfl,M6.go0 A7.mod (by simpa using f1)⟩
 intro w7 A7 d1 d4
 have M7:Mod [] w w7:=M6.go0 A7.mod (by simpa using f1)
 have hop7:=h.keep0 M7
 have hA:OpAt w7 { chO o with kind:=0 } (chR o rs) (chT o ts):=by
  refine ⟨?_,?_,?_,?_⟩
  ·unfold chR chO; simp only; split
   ·exact ⟨rfl,fun i x hx => by simp [ykX] at hx⟩
   ·exact hop7.recs
  ·unfold chT chO; simp only; split
   ·exact ⟨rfl,fun i x hx => by simp at hx⟩
   ·exact hop7.topics
  ·unfold chO; simp only; split
   ·simp [ykX]
   ·exact hop7.lr
  ·unfold chO; simp only; split
   ·simp
   ·exact hop7.lt
 have h00:OpAt w7 op0 ya8 ya8:=(yHH w7 0).at
 refine (yCo (x:={ chO o with kind:=0 }) (y:=op0) hA h00).mono ?_
 rintro e w8 ⟨rfl,M8⟩
 have c8:=M8.keep0 d1
 have e8:=M8.keep0 d4
 refine ⟨_,rfl,_,_,_,_,_,_,_,_,_,_,_,_,_,_,_,_,_,_,c8,_,_,_,e8,?_⟩
 have M9:=M7.go0 M8 (by simp)
 refine yaE (fun q4 => ?_) fun q4 => ?_
 ·exact ⟨by rw [law,q3,q4]; rfl,M9⟩
 refine yaE (fun q5 => ?_) fun q5 => ?_
 ·exact ⟨by rw [law,q3,q4,q5]; rfl,M9⟩
 ·exact ⟨by rw [law,q3,q4,q5]; rfl,M9⟩
structure CV where
 x:PCall
 rs:Sl
 ts:Sl
theorem yJ0:(Tryz.prog.info? 65).map (fun i => (i.zero,i.size,i.bytes)) = some (some (.agg #[.bool false,.string ByteArray.empty,.bool false,.string ByteArray.empty]),4,48):=by kernel_rfl
theorem yJ1:(Tryz.prog.info? 9).map (fun i => (i.zero,i.size,i.bytes)) = some (some (.string ByteArray.empty),1,16):=by kernel_rfl
theorem yCr {w:World} {s:Sl} {l:List ByteArray} (h:ybF w 1 yc8 s.a s.n l) (hl:l.length ≤ 1000000) :
  Calls pP 144 #[.slice s.a s.n s.c] w fun e w' => ∃ v,e = .returned v ∧ ∃ s':Sl,v = .slice s'.a s'.n s'.c ∧ Row w' w.heap.size 9 1 yc8 s'.a s'.n s'.c l ∧ Mod [] w w':=by
 refine yJG ?_
 refine yaE (fun h0 => ?_) fun _ => ?_
 ·have hl0:l = []:=by
   cases l with
   | nil => rfl
   | cons x r => obtain ⟨ad,ha,_⟩:=h.2 0 x rfl; rw [ha] at h0; cases h0
  subst hl0
  exact ⟨⟨none,0,0⟩,rfl,Row.nil ..,Mod.refl _⟩
 ·refine yd6 fun b w1 c1 M1 f1 => ?_
  obtain ⟨i0,hi,hz0,hz1,hz2⟩:=info_parts yJ1
  refine ydE (Row.fresh c1 f1) Tryz.underlying37 hi hz0 hz1 hz2 rfl (by decide) (h.keep0 M1) ydB yxW (by simp; omega) (by simp; unfold maxLen; omega) M1.size fun a' n' c' w2 hR hM => ?_
  exact ⟨⟨a',n',c'⟩,rfl,by simpa using hR,M1.go0 (hM [b] (by simp)) (by simpa using f1)⟩
theorem yaP {α:Type} {w:World} {base T sz:Nat} {enc:α → List Value} {a:Option Addr} {n c:Nat} {l:List α} (h:Row w base T sz enc a n c l):∀ k ∈ yaN a,base ≤ k ∧ k < w.heap.size ∧ ∃ cur,w.heap[k]? = some (.cells cur T):=by
 cases a with
 | none => simp [yaN]
 | some ad => intro k hk; simp [yaN] at hk; subst hk; obtain ⟨h1,cur,h2⟩:=h.block ad rfl; exact ⟨h1,yaH h2,cur,h2⟩
theorem ya6 {a:Addr} {F:Addr → Prop} (h:F a):yb7 (some a) F:=h
theorem Row.one {α:Type} {w:World} {base T sz b:Nat} {enc:α → List Value} {x:α} (hs:(enc x).length = sz) (hb:base ≤ b) (h:w.heap[b]? = some (.cells (enc x).toArray T)):Row w base T sz enc (some ⟨b,0,none⟩) 1 1 [x] :=
 ⟨rfl,by simp [hs],.inr ⟨b,1,(enc x).toArray,rfl,hb,h,by simp,by unfold maxLen; omega,by simp [hs],by subst hs; simp⟩⟩
end Go.Proofs.YteldhjiiocmicaaGreat
namespace Go.Proofs.YteldhjiiocmicaaGreat
open Go Go.RowKit Go.ChangeShapes Go.WideShapes Go.ChangeAt
set_option linter.unusedVariables false
set_option linter.unusedSimpArgs false
def yCs:Option TypeDesc → Bool
 | some (.int _) | some .bool | some .string | some (.slice _) | some (.struct _) => true
 | _ => false
inductive OkT (P:Program) (w:World):TypeId → List Value → Prop
 | int {t:TypeId} {k:IntKind} {x:Int} (h:P.underlying t = some (.int k)) (hw:(Lit.int k x).wf = true):OkT P w t [.int k x]
 | bool {t:TypeId} {b:Bool} (h:P.underlying t = some .bool):OkT P w t [.bool b]
 | string {t:TypeId} {s:ByteArray} (h:P.underlying t = some .string) (hs:s.size ≤ maxLen):OkT P w t [.string s]
 | nilSlice {t e:TypeId} (h:P.underlying t = some (.slice e)):OkT P w t [.slice none 0 0]
 | slice {t e:TypeId} {ad:Addr} {len cap:Nat} (rows:Nat → List Value) (h:P.underlying t = some (.slice e)) (hl:len ≤ cap) (hc:cap ≤ maxLen) (h1:∀ i,i < len → (rows i).length = P.cellsOf e)
  (h2:∀ i,i < len → ∀ j v,(rows i)[j]? = some v → w.cell? ((ad.add (i * P.cellsOf e)).add j) = some v) (h3:∀ i,i < len → OkT P w e (rows i)):OkT P w t [.slice (some ad) len cap]
 | struct {t:TypeId} {fs:Array Field} {cs:List Value} (h:P.underlying t = some (.struct fs)) (hn:cs.length = P.cellsOf t) (hf:∀ f ∈ fs.toList,OkT P w f.type ((cs.drop f.offset).take (P.cellsOf f.type))):OkT P w t cs
 | other {t:TypeId} {cs:List Value} (h:yCs (P.underlying t) = false):OkT P w t cs
theorem ymO {α β:Type} {f:α → Option β}:∀ {l:List α} {r:List β},l.mapM f = some r → ∀ a ∈ l,∃ b,f a = some b
 | [],_,_,a,ha => by cases ha
 | x :: l,r,h,a,ha => by
  rw [List.mapM_cons] at h
  simp only [Option.pure_def,Option.bind_eq_bind,Option.bind_eq_some_iff] at h
  obtain ⟨b,hb,r',hr,_⟩:=h
  rcases List.mem_cons.1 ha with rfl | ha
  ·exact ⟨b,hb⟩
  ·exact ymO hr a ha
theorem yx1 {α β:Type} {f:α → Option β}:∀ {l:List α} {r:List β},l.mapM f = some r → ∀ (j:Nat) (b:β),r[j]? = some b → ∃ a,l[j]? = some a ∧ f a = some b
 | [],r,h,j,b,hb => by simp at h; subst h; simp at hb
 | x :: l,r,h,j,b,hb => by
  rw [List.mapM_cons] at h
  simp only [Option.pure_def,Option.bind_eq_bind,Option.bind_eq_some_iff,Option.some.injEq] at h
  obtain ⟨b',hb',r',hr,rfl⟩:=h
  cases j with
  | zero => simp at hb; subst hb; exact ⟨x,rfl,hb'⟩
  | succ j => obtain ⟨a,h1,h2⟩:=yx1 hr j b (by simpa using hb); exact ⟨a,by simpa using h1,h2⟩
theorem yx2 {α β:Type} {f:α → Option β}:∀ {l:List α} {r:List β},l.mapM f = some r → r.length = l.length
 | [],r,h => by simp at h; subst h; rfl
 | x :: l,r,h => by
  rw [List.mapM_cons] at h
  simp only [Option.pure_def,Option.bind_eq_bind,Option.bind_eq_some_iff,Option.some.injEq] at h
  obtain ⟨b',hb',r',hr,rfl⟩:=h
  simp [yx2 hr]
theorem yCt {w:World} {base n:Nat} {a:Addr} {row:List Value} (h:w.cells? base a n = some row):row.length = n:=by
 unfold World.cells? at h
 split at h
 ·simpa using yx2 h
 ·cases h
theorem yCu {w:World} {base n:Nat} {a:Addr} {row:List Value} (h:w.cells? base a n = some row):∀ j v,row[j]? = some v → w.cell? (a.add j) = some v:=by
 intro j v hv
 unfold World.cells? at h
 split at h
 ·obtain ⟨j',h1,h2⟩:=yx1 h j v hv
  obtain ⟨hj,rfl⟩:j < n ∧ j = j':=by
   obtain ⟨x,y⟩:=List.getElem?_eq_some_iff.1 h1
   simp at x y; exact ⟨x,y⟩
  exact h2
 ·cases h
theorem yHJ {H:Type} {enc:TypeId × Value → H} {P:Program} {w:World} {base:Nat} {sp:Nat → Bool} {held:Bool}:∀ {fuel:Nat} {t:TypeId} {cs:List Value} {x:DataW H × List MemPlace},DataW.trod enc P w base sp held fuel t cs = some x → OkT P w t cs:=by
 intro fuel
 induction fuel with
 | zero => intro t cs x h; cases h
 | succ n ih =>
  intro t cs x h
  cases hu:P.underlying t with
  | none => exact .other (by rw [hu]; rfl)
  | some d =>
   cases d with
   | bool =>
     unfold DataW.trod at h
     rw [hu] at h
     split at h <;> simp_all
     exact .bool hu
   | int k =>
     unfold DataW.trod at h
     rw [hu] at h
     split at h <;> simp_all
     obtain ⟨⟨rfl,hw⟩,_⟩:=h
     exact .int hu hw
   | string =>
     unfold DataW.trod at h
     rw [hu] at h
     split at h <;> simp_all
     exact .string hu h.1
   | slice e =>
     rcases Go.Deep.open_slice hu h with ⟨rfl,_⟩ | ⟨a,len,cap,m,n',D,Pl,rfl,hb,hl,hc,hm,_,hel⟩
     ·exact .nilSlice hu
     ·unfold DataW.trod at h
      rw [hu] at h
      simp only at h
      split at h
      case isFalse => cases h
      rename_i hcond
      simp only [Option.bind_eq_some_iff] at h
      obtain ⟨elems,h1,_⟩:=h
      have key:∀ i,i < len → ∃ row y,w.cells? base (a.add (i * P.cellsOf e)) (P.cellsOf e) = some row ∧ DataW.trod enc P w base sp held n e row = some y:=fun i hi => by
       obtain ⟨y,hy⟩:=ymO h1 i (by simpa using hi)
       simp only [Option.bind_eq_some_iff] at hy
       obtain ⟨row,hr1,hr2⟩:=hy
       exact ⟨row,y,hr1,hr2⟩
      classical
      refine .slice (fun i => if hi:i < len then (key i hi).choose else []) hu hl hc (fun i hi => ?_) (fun i hi j v hv => ?_) (fun i hi => ?_)
      ·simp only [dif_pos hi]
       obtain ⟨y,hr1,hr2⟩:=(key i hi).choose_spec
       exact yCt hr1
      ·simp only [dif_pos hi] at hv
       obtain ⟨y,hr1,hr2⟩:=(key i hi).choose_spec
       exact yCu hr1 j v hv
      ·simp only [dif_pos hi]
       obtain ⟨y,hr1,hr2⟩:=(key i hi).choose_spec
       exact ih hr2
   | struct fs =>
    unfold DataW.trod at h
    rw [hu] at h
    simp only at h
    split at h
    ·rename_i hn
     simp only [Option.map_eq_some_iff] at h
     obtain ⟨xs,h1,_⟩:=h
     refine .struct hu hn fun f hf => ?_
     obtain ⟨y,hy⟩:=ymO h1 f hf
     exact ih hy
    ·cases h
   | _ => exact .other (by rw [hu]; rfl)
theorem OkT.int_inv {P:Program} {w:World} {t:TypeId} {k:IntKind} {cs:List Value} (h:OkT P w t cs) (hu:P.underlying t = some (.int k)):∃ x,cs = [.int k x] ∧ (Lit.int k x).wf = true:=by
 cases h <;> simp_all [yCs]
theorem OkT.slice_inv {P:Program} {w:World} {t e:TypeId} {cs:List Value} {α:Type} {enc:α → List Value} {good:α → Prop} (h:OkT P w t cs) (hu:P.underlying t = some (.slice e))
  (he:∀ row,OkT P w e row → row.length = P.cellsOf e → ∃ x,row = enc x ∧ good x):∃ a len cap l,cs = [.slice a len cap] ∧ ybF w (P.cellsOf e) enc a len l ∧ (∀ x ∈ l,good x) ∧ len ≤ cap ∧ cap ≤ maxLen:=by
 cases h with
 | nilSlice h => exact ⟨none,0,0,[],rfl,⟨rfl,by simp⟩,by simp,Nat.le_refl _,by decide⟩
 | @slice _ _ ad len cap rows h hl hc h1 h2 h3 =>
  rw [hu] at h; cases h
  have key:∀ i,i < len → ∃ x,rows i = enc x ∧ good x:=fun i hi => he _ (h3 i hi) (h1 i hi)
  classical
  by_cases h0:len = 0
  ·subst h0
   exact ⟨_,_,_,[],rfl,⟨rfl,by simp⟩,by simp,hl,hc⟩
  have x0:α:=(key 0 (by omega)).choose
  refine ⟨some ad,len,cap,(List.range len).map (fun i => if hi:i < len then (key i hi).choose else x0),rfl,⟨by simp,fun i x hx => ⟨ad,rfl,fun j v hv => ?_⟩⟩,fun x hx => ?_,hl,hc⟩
  ·rw [List.getElem?_map] at hx
   simp only [Option.map_eq_some_iff] at hx
   obtain ⟨i',hi',rfl⟩:=hx
   obtain ⟨hil,rfl⟩:i < len ∧ i = i':=by
    obtain ⟨a,b⟩:=List.getElem?_eq_some_iff.1 hi'
    simp at a b; exact ⟨a,b⟩
   simp only [dif_pos hil] at hv
   rw [← (key i hil).choose_spec.1] at hv
   exact h2 i hil j v hv
  ·simp only [List.mem_map,List.mem_range] at hx
   obtain ⟨i,hi,rfl⟩:=hx
   simp only [dif_pos hi]
   exact (key i hi).choose_spec.2
 | _ => simp_all [yCs]
end Go.Proofs.YteldhjiiocmicaaGreat
namespace Go.Proofs.YteldhjiiocmicaaGreat
open Go Go.RowKit Go.Maps Go.MapKept
set_option linter.unusedVariables false
set_option linter.unusedSimpArgs false
theorem cS:Tryz.prog.cellsOf 9 = 1:=by kernel_rfl
end Go.Proofs.YteldhjiiocmicaaGreat
namespace Go.Proofs.YteldhjiiocmicaaGreat
open Go Go.RowKit
set_option linter.all false
theorem ybF.flatB {α:Type} {w:World} {sz:Nat} {enc:α → List Value} {b:Nat} {T:TypeId} {l:List α} (hs:∀ x,(enc x).length = sz) (h:w.heap[b]? = some (.cells (l.flatMap enc).toArray T)):ybF w sz enc (some ⟨b,0,none⟩) l.length l :=
 ⟨rfl,fun i x hx => ⟨_,rfl,fun j v hv => by
  have hj:j < sz:=by rw [← hs x]; exact (List.getElem?_eq_some_iff.1 hv).1
  rw [ycC,ycC,yaM h]
  have:=ycT hs l i j x hx hj
  simp only [Nat.zero_add]
  rw [List.getElem?_toArray,this]
  exact hv⟩⟩
end Go.Proofs.YteldhjiiocmicaaGreat
namespace Go.Proofs.YteldhjiiocmicaaGreat
open Go Go.RowKit Go.Maps Go.MapKept
open Go.ChangeMaps (setBlock)
set_option linter.unusedVariables false
set_option linter.unusedSimpArgs false
set_option linter.unusedSectionVars false
section
variable {κ β:Type} [DecidableEq κ]
def yeJ (L:List (κ × β)) (k:κ):List (κ × β):=L.filter fun p => decide (p.1 ≠ k)
theorem yGb {L:List (κ × β)} {k:κ} (hn:(L.map (·.1)).Nodup):del L k = yeJ L k:=by
 induction L with
 | nil => rfl
 | cons p r ih =>
  simp only [List.map_cons,List.nodup_cons] at hn
  by_cases h:p.1 = k
  ·simp only [del,if_pos h,yeJ]
   rw [List.filter_cons_of_neg (by simpa using h)]
   refine (List.filter_eq_self.2 fun q hq => ?_).symm
   have:q.1 ≠ k:=fun e => hn.1 (by rw [h,← e]; exact List.mem_map.2 ⟨q,hq,rfl⟩)
   simpa using this
  ·simp only [del,if_neg h,yeJ]
   rw [List.filter_cons_of_pos (by simpa using h),ih hn.2]; rfl
theorem yg8 {α γ δ:Type} {f:α → δ} {g:γ → δ} {p:α → Bool} {q:γ → Bool}:∀ {A:List α} {B:List γ},A.map f = B.map g → (∀ a b,a ∈ A → b ∈ B → f a = g b → p a = q b) → (A.filter p).map f = (B.filter q).map g
 | [],[],_,_ => rfl
 | [],_ :: _,h,_ => by simp at h
 | _ :: _,[],h,_ => by simp at h
 | a :: A,b :: B,h,hp => by
  simp only [List.map_cons,List.cons.injEq] at h
  have ih:=yg8 h.2 (fun a b ha hb => hp a b (by simp [ha]) (by simp [hb]))
  have e:=hp a b (by simp) (by simp) h.1
  cases hb:q b with
  | true => rw [hb] at e; rw [List.filter_cons_of_pos e,List.filter_cons_of_pos hb]; simp [h.1,ih]
  | false => rw [hb] at e; rw [List.filter_cons_of_neg (by simp [e]),List.filter_cons_of_neg (by simp [hb])]; exact ih
theorem ys5 {l:List MapEntry} (hp:l.Pairwise (fun x y => x.key ≠ y.key)) {j:Nat} {e:MapEntry} {q:MapEntry → Bool} (hj:l[j]? = some e) (hq:∀ x ∈ l,q x = true ↔ x.key ≠ e.key):l.eraseIdx j = l.filter q:=by
 induction l generalizing j with
 | nil => simp at hj
 | cons x r ih =>
  obtain ⟨h1,h2⟩:=List.pairwise_cons.1 hp
  cases j with
  | zero =>
   simp at hj; subst hj
   rw [List.eraseIdx_cons_zero,List.filter_cons_of_neg (by rw [hq x (by simp)]; simp)]
   exact (List.filter_eq_self.2 fun y hy => (hq y (by simp [hy])).2 (h1 y hy).symm).symm
  | succ j =>
   have hj':r[j]? = some e:=by simpa using hj
   rw [List.eraseIdx_cons_succ,List.filter_cons_of_pos ((hq x (by simp)).2 (h1 e (List.mem_of_getElem? hj')))]
   rw [ih h2 hj' (fun y hy => hq y (by simp [hy]))]
def ybW (P:Program) (t:TypeId) (ek:κ → Value) (ev:β → Value) (w:World) (r b:Nat) (L left:List (κ × β)):Prop :=
 ∃ es clock since seen c0,w.heap[r]? = some (.mapIter (some b) since seen c0) ∧ w.heap[b]? = some (.map es clock) ∧
  es.toList.map (fun e => (e.key,e.val)) = L.map (fun p => (ek p.1,ev p.2)) ∧ (∀ p ∈ L,∃ l,keyOf P t (ek p.1) = some l) ∧ Stamped es clock ∧
  (∀ x ∈ es.toList,x.born < since) ∧ since ≤ c0 ∧ since ≤ clock ∧ (es.toList.filter (fun e => !seen.contains e.born)).map (fun e => (e.key,e.val)) = left.map (fun p => (ek p.1,ev p.2))
variable {P:Program} {t:TypeId} {ek:κ → Value} {ev:β → Value} {w w':World} {r b:Nat} {L left:List (κ × β)}
theorem ybW.map (h:ybW P t ek ev w r b L left):yaS P t ek ev w b L:=by
 obtain ⟨es,clock,since,seen,c0,h1,h2,h3,h4,h5,_⟩:=h
 exact ⟨es,clock,h2,h3,h4,h5⟩
theorem ybW.keep {S:List Nat} (h:ybW P t ek ev w r b L left) (hm:Mod S w w') (h1:r ∉ S) (h2:b ∉ S):ybW P t ek ev w' r b L left:=by
 obtain ⟨es,clock,since,seen,c0,e1,e2,h⟩:=h
 exact ⟨es,clock,since,seen,c0,hm.keep e1 h1,hm.keep e2 h2,h⟩
theorem ybW.ne (h:ybW P t ek ev w r b L left):r ≠ b:=by
 rintro rfl
 obtain ⟨es,clock,since,seen,c0,h1,h2,_⟩:=h
 rw [h1] at h2; cases h2
theorem ybW.start {T e:TypeId} (h:yaS P t ek ev w b L) (ht:P.underlying T = some (.map t e)):∃ w',(Instr.range T (.map (some b))).run P w = .ok (.pointer (some ⟨w.heap.size,0,none⟩)) w' ∧ Mod [] w w' ∧ ybW P t ek ev w' w.heap.size b L L:=by
 obtain ⟨es,clock,hb,he,hk,hs⟩:=h
 have hlt:=(Array.getElem?_eq_some_iff.1 hb).1
 refine ⟨w.alloc (.mapIter (some b) clock #[] clock),?_,Mod.of_below ((Below.refl _ _).alloc (Nat.le_refl _) _),es,clock,clock,#[],clock,(MapKept.heap_alloc w _).1,?_,he,hk,hs,?_,Nat.le_refl _,?_,?_⟩
 ·simp [Instr.range,run_underlying ht,MapKept.run_getObj_map hb,Result.andThen,newObj,Sem.run]
 ·rw [Below.heap_alloc w _ b hlt]; exact hb
 ·exact ((stamped_iff es clock).1 hs).1
 ·exact Nat.le_refl _
 ·have:(es.toList.filter fun e => !(#[]:Array Nat).contains e.born) = es.toList:=List.filter_eq_self.2 (by simp)
  rw [this]; exact he
theorem ybW.step {ty:TypeId} (hi:∀ a b,ek a = ek b → a = b) (h:ybW P t ek ev w r b L left) :
  (left = [] ∧ (Instr.next (.pointer (some ⟨r,0,none⟩)) false ty).run P w = .ok (.tuple #[.bool false]) w) ∨
  ∃ p ∈ left,∃ w',(Instr.next (.pointer (some ⟨r,0,none⟩)) false ty).run P w = .ok (.tuple #[.bool true,ek p.1,ev p.2]) w' ∧ Mod [r] w w' ∧ ybW P t ek ev w' r b L (yeJ left p.1) ∧
   (∀ w'',Mod [] w' w'' → (Instr.entry (.pointer (some ⟨r,0,none⟩))).run P w'' = .ok (.tuple #[ek p.1,ev p.2]) w''):=by
 have hne:=h.ne
 obtain ⟨es,clock,since,seen,c0,h1,h2,he,hk,hs,hb,hc,hcl,hl⟩:=h
 classical
 obtain ⟨s1,s2,s3⟩:=(stamped_iff es clock).1 hs
 rcases run_next_at (P:=P) w ty r b since c0 seen es clock h1 h2 hb hc with ⟨h0,hrun⟩ | ⟨e,hmem,w1,hw1,hrun⟩
 ·refine .inl ⟨?_,hrun⟩
  have:(es.toList.filter fun e => !seen.contains e.born) = []:=by
   have:=congrArg Array.toList (Array.eq_empty_of_size_eq_zero h0)
   simpa [leftOf] using this
  rw [this] at hl
  simpa using hl.symm
 ·right
  have hm:e ∈ es.toList ∧ seen.contains e.born = false:=by
   have:e ∈ (leftOf es seen).toList:=hmem
   simp [leftOf] at this
   exact ⟨by simpa using this.1,by simpa using this.2⟩
  have hp:(e.key,e.val) ∈ left.map (fun p => (ek p.1,ev p.2)):=hl ▸ List.mem_map.2 ⟨e,List.mem_filter.2 ⟨hm.1,by rw [hm.2]; rfl⟩,rfl⟩
  obtain ⟨p,hpl,hpe⟩:=List.mem_map.1 hp
  simp only [Prod.mk.injEq] at hpe
  have W1:Mod [] w w1:=by
   rcases hw1 with rfl | rfl
   ·exact Mod.refl _
   ·exact Mod.drewN w 1
  have g1:=W1.keep0 h1
  have g2:=W1.keep0 h2
  have B1:(setBlock w1 r (.mapIter (some b) since (seen.push e.born) clock)).heap[r]? = some (.mapIter (some b) since (seen.push e.born) clock):=yb0 g1
  have B2:(setBlock w1 r (.mapIter (some b) since (seen.push e.born) clock)).heap[b]? = some (.map es clock):=by rw [yb1 (Ne.symm hne)]; exact g2
  refine ⟨p,hpl,_,by rw [hrun,hpe.1,hpe.2],?_,⟨es,clock,since,_,clock,B1,B2,he,hk,hs,hb,hcl,hcl,?_⟩,fun w'' hm'' => ?_⟩
  ·have M2:Mod [r] w1 (setBlock w1 r (.mapIter (some b) since (seen.push e.born) clock)):=⟨rfl,rfl,rfl,by simp [setBlock],fun k hk hS => yb1 (by simpa using hS)⟩
   simpa using W1.trans M2
  ·have e1:(es.toList.filter fun x => !(seen.push e.born).contains x.born) = (es.toList.filter fun x => !seen.contains x.born).filter fun x => decide (x.key ≠ e.key):=by
    rw [List.filter_filter]
    refine List.filter_congr fun x hx => ?_
    have:(x.born = e.born) ↔ (x.key = e.key):=by
     constructor
     ·intro hb'
      have:=find_born x es.toList s2 hx
      have h':=find_born e es.toList s2 hm.1
      rw [hb'] at this
      rw [this] at h'
      cases h'; rfl
     ·intro hk'
      by_cases hxe:x = e
      ·rw [hxe]
      ·exfalso
       obtain ⟨i,hi1,hi2⟩:=List.getElem_of_mem hx
       obtain ⟨j,hj1,hj2⟩:=List.getElem_of_mem hm.1
       rcases Nat.lt_trichotomy i j with hij | hij | hij
       ·have:=List.pairwise_iff_getElem.1 s3 i j hi1 hj1 hij
        rw [hi2,hj2] at this; exact this hk'
       ·subst hij; rw [hi2] at hj2; exact hxe hj2
       ·have:=List.pairwise_iff_getElem.1 s3 j i hj1 hi1 hij
        rw [hi2,hj2] at this; exact this hk'.symm
    by_cases hk':x.key = e.key
    ·simp [hk',this.2 hk']
    ·have hb':¬ x.born = e.born:=fun h => hk' (this.1 h)
     simp [hk',hb']
   rw [e1]
   refine yg8 hl fun a q ha hq haq => ?_
   simp only [Prod.mk.injEq] at haq
   have:(a.key = e.key) ↔ q.1 = p.1:=by
    rw [haq.1,← hpe.1]
    exact ⟨fun h => hi _ _ h,fun h => by rw [h]⟩
   by_cases hq':q.1 = p.1
   ·simp [hq',this.2 hq']
   ·have:¬ a.key = e.key:=fun h => hq' (this.1 h)
    simp [hq',this]
  ·rw [hpe.1,hpe.2]
   exact run_entry_at w'' r b since seen es clock e (hm''.keep0 B1) (hm''.keep0 B2) hm.1 s2
theorem ybW.delete {T e:TypeId} (h:ybW P t ek ev w r b L left) (K:Keyed P t) (hi:∀ a b,ek a = ek b → a = b) (ht:P.underlying T = some (.map t e)) {k:κ} {l:Lit} (hk:keyOf P t (ek k) = some l) (ty:TypeId) :
  ∃ w',(Builtin.delete_ #[T,t] ty #[.map (some b),ek k]).run P w = .ok (.tuple #[]) w' ∧ Mod [b] w w' ∧ ybW P t ek ev w' r b (yeJ L k) (yeJ left k):=by
 have hM:=h.map
 have hn:=hM.nodup
 have hne:=h.ne
 obtain ⟨es,clock,since,seen,c0,h1,hb,he,hkk,hs,hbn,hc,hcl,hl⟩:=h
 have MB:∀ o,Mod [b] w (setBlock w b o):=fun o => ⟨rfl,rfl,rfl,by simp [setBlock],fun k hk hS => yb1 (by simpa using hS)⟩
 rcases hM.find K hi hb hk w with ⟨f1,f2⟩ | ⟨j,x,f1,hj,f2⟩
 ·have e1:yeJ L k = L:=by rw [← yGb hn,yhW f1]
  have e2:yeJ left k = left:=by
   refine List.filter_eq_self.2 fun q hq => ?_
   have:(ek q.1,ev q.2) ∈ (es.toList.filter fun e => !seen.contains e.born).map (fun e => (e.key,e.val)):=hl ▸ List.mem_map.2 ⟨q,hq,rfl⟩
   obtain ⟨a,ha,hae⟩:=List.mem_map.1 this
   have:(a.key,a.val) ∈ L.map (fun p => (ek p.1,ev p.2)):=he ▸ List.mem_map.2 ⟨a,(List.mem_filter.1 ha).1,rfl⟩
   obtain ⟨p,hp,hpe⟩:=List.mem_map.1 this
   simp only [Prod.mk.injEq] at hae hpe
   have h3:=yc1.1 f1 p hp
   have h4:p.1 = q.1:=hi _ _ (by rw [hpe.1,hae.1])
   simpa using (h4 ▸ h3:q.1 ≠ k)
  rw [e1,e2]
  refine ⟨_,?_,MB (.map es clock),es,clock,since,seen,c0,by rw [yb1 hne]; exact h1,yb0 hb,he,hkk,hs,hbn,hc,hcl,hl⟩
  simp [Builtin.delete_,run_underlying ht,MapKept.run_getObj_map hb,K.check w _ hk,f2,Result.andThen,MapKept.run_setObj_map _ hb,setBlock]
 ·have hjl:j < es.size:=by
   have:=(List.getElem?_eq_some_iff.1 hj).1
   have e3:=congrArg List.length he
   simp at e3; omega
  have g:(es.toList.map (fun e => (e.key,e.val)))[j]? = some (ek k,ev x):=by rw [he,List.getElem?_map,hj]; rfl
  rw [List.getElem?_map,Option.map_eq_some_iff] at g
  obtain ⟨e0,he0,e2⟩:=g
  simp only [Prod.mk.injEq] at e2
  have s3:=((stamped_iff es clock).1 hs).2.2
  classical
  have er:(es.eraseIdxIfInBounds j).toList = es.toList.filter fun x => decide (x.key ≠ ek k):=by
   rw [← ys5 s3 he0 (fun x _ => by rw [e2.1]; simp)]
   simp [Array.eraseIdxIfInBounds,hjl]
  have pe:∀ (a:MapEntry) (q:κ × β),(a.key,a.val) = (ek q.1,ev q.2) → decide (a.key ≠ ek k) = decide (q.1 ≠ k):=fun a q haq => by
   simp only [Prod.mk.injEq] at haq
   rw [haq.1]
   by_cases hq:q.1 = k
   ·simp [hq]
   ·have:¬ ek q.1 = ek k:=fun h => hq (hi _ _ h)
    simp [hq,this]
  refine ⟨_,?_,MB (.map (es.eraseIdxIfInBounds j) clock),es.eraseIdxIfInBounds j,clock,since,seen,c0,by rw [yb1 hne]; exact h1,yb0 hb,?_,?_,stamped_erase hs j,?_,hc,hcl,?_⟩
  ·simp [Builtin.delete_,run_underlying ht,MapKept.run_getObj_map hb,K.check w _ hk,f2,Result.andThen,MapKept.run_setObj_map _ hb,setBlock]
  ·rw [er]; exact yg8 he fun a q _ _ haq => pe a q haq
  ·exact fun p hp => hkk p (List.mem_filter.1 hp).1
  ·rw [er]; exact fun x hx => hbn x (List.mem_filter.1 hx).1
  ·rw [er,List.filter_filter]
   have:(es.toList.filter fun a => !seen.contains a.born && decide (a.key ≠ ek k)) = (es.toList.filter fun e => !seen.contains e.born).filter fun x => decide (x.key ≠ ek k):=by
    rw [List.filter_filter]
    exact List.filter_congr fun x _ => by rw [Bool.and_comm]
   rw [this]
   exact yg8 hl fun a q _ _ haq => pe a q haq
end
end Go.Proofs.YteldhjiiocmicaaGreat
namespace Go.Proofs.YteldhjiiocmicaaGreat
open Go Go.RowKit
set_option linter.all false
section
set_option maxRecDepth 100000
variable {R:VWP} {w w0:World} {m:Nat} {i0 i1 i2 i3 i4 i5 i6 i7 i8 i9 j0 j1 j2 j3 j4 j5 j6 j7 j8 j9 k0 k1 k2 k3 k4 k5 k6 k7 k8 k9 l0 l1 l2 l3 l4 l5 l6 l7 l8 l9:Int} {s0 s1 s2 s3 s4 s5 s6 s7 s8 s9 t0 t1 t2 t3 t4 t5 t6 t7 t8 t9:BA} {n0 n1 n2 n3 n4 n5 n6 n7 n8 n9 o0 o1 o2 o3 o4 o5 o6 o7 o8 o9 p0 p1 p2 p3 p4 p5 p6 p7 p8 p9:Nat} {q0 q1 q2 q3 q4 q5 q6 q7 q8 q9 r0 r1 r2 r3 r4 r5 r6 r7 r8 r9:OA} {B0 B1 B2 B3 B4 B5 B6 B7 B8 B9:Bool} {M0 M1 M2 M3:Option Nat} {V0 V1 V2 V3 V4 V5:Value} {A0 A1 A2:Addr}
theorem yJ2 (h :
 brB (decide (i0 ≥ 0)) (
 R (.bool (decide (i0 ≤ 1099511627776))) w)
 (
 R (.bool false) w)) :
 CR pP 78 #[.int .i64 i0] w R :=
 yaB Tryz.wide_mixed (an:=[]) Tryz.func78 rfl rfl (by kernel_rfl) rfl (Eq.mpr (by kernel_rfl) h)
theorem yJ3 (h :
 Calls pP 78 #[.int .i64 i0] w fun e w3 => ∃ t4,e = .returned (.bool t4) ∧
 brB (!t4) (
 R (.tuple #[.pointer none,.int .i64 1]) w3)
 (
 ∀ b6,w3.heap.size ≤ b6 →
 ∀ w7,Adv [] [b6] w3 w7 → w7.heap[b6]? = some (.cells (Z2 i0 i0 none 0 0 none 0 0) 168) →
 R (.tuple #[(.pointer (some ⟨b6,0,none⟩)),.int .i64 0]) w7)) :
 CR pP 35 #[.int .i64 i0] w R :=
 yaB Tryz.wide_mixed (an:=[]) Tryz.func35 rfl rfl (by kernel_rfl) rfl (Eq.mpr (by kernel_rfl) h)
theorem yJ4 (h :
 brB (decide (i0 ≥ 1)) (
 R (.bool (decide (i0 ≤ 64))) w)
 (
 R (.bool false) w)) :
 CR pP 34 #[.int .i64 i0] w R :=
 yaB Tryz.wide_mixed (an:=[]) Tryz.func34 rfl rfl (by kernel_rfl) rfl (Eq.mpr (by kernel_rfl) h)
theorem yJ5 (h :
 Calls pP 34 #[.int .i64 i0] w fun e w3 => ∃ t4,e = .returned (.bool t4) ∧
 brB (!t4) (
 R (.tuple #[.pointer none,.int .i64 1]) w3)
 (
 Calls pP 35 #[.int .i64 0] w3 fun e w8 => ∃ p9 a5,e = .returned (.tuple #[.pointer p9,.int .i64 a5]) ∧
 al w8 (.cells #[.pointer p9] 78) fun a4 a3 =>
 ∀ a1,a3.heap.size ≤ a1 →
 ∀ a2,Adv [] [a1] a3 a2 → a2.heap[a1]? = some (.cells #[.int .i64 i0,(.slice (some ⟨a4,0,none⟩) 1 1)] 83) →
 R (.tuple #[(.pointer (some ⟨a1,0,none⟩)),.int .i64 0]) a2)) :
 CR pP 12 #[.int .i64 i0] w R :=
 yaB Tryz.wide_mixed (an:=[]) Tryz.func12 rfl rfl (by kernel_rfl) rfl (Eq.mpr (by kernel_rfl) h)
theorem yJ6 (h :
 al w (.map #[] 0) fun b4 w5 =>
 ∀ b6,w5.heap.size ≤ b6 →
 ∀ w7,Adv [] [b6] w5 w7 → w7.heap[b6]? = some (.cells #[(.map (some b4))] 86) →
 R (.pointer (some ⟨b6,0,none⟩)) w7) :
 CR pP 13 #[] w R :=
 yaB Tryz.wide_mixed (an:=[]) Tryz.func13 rfl rfl (by kernel_rfl) rfl (Eq.mpr (by kernel_rfl) h)
theorem yJ7 (h :
 al w (.map #[] 0) fun b4 w5 =>
 ∀ b6,w5.heap.size ≤ b6 →
 ∀ w7,Adv [] [b6] w5 w7 → w7.heap[b6]? = some (.cells #[.slice none 0 0,(.map (some b4))] 89) →
 R (.pointer (some ⟨b6,0,none⟩)) w7) :
 CR pP 14 #[] w R :=
 yaB Tryz.wide_mixed (an:=[]) Tryz.func14 rfl rfl (by kernel_rfl) rfl (Eq.mpr (by kernel_rfl) h)
theorem yJ8 (h :
 al w (.map #[] 0) fun b4 w5 =>
 ∀ b6,w5.heap.size ≤ b6 →
 ∀ w7,Adv [] [b6] w5 w7 → w7.heap[b6]? = some (.cells #[(.map (some b4))] 92) →
 R (.pointer (some ⟨b6,0,none⟩)) w7) :
 CR pP 15 #[] w R :=
 yaB Tryz.wide_mixed (an:=[]) Tryz.func15 rfl rfl (by kernel_rfl) rfl (Eq.mpr (by kernel_rfl) h)
theorem yJ9 (h :
 Calls pP 12 #[.int .i64 i0] w fun e w4 => ∃ p5 x6,e = .returned (.tuple #[.pointer p5,.int .i64 x6]) ∧
 brB (x6 != 0) (
 R (.tuple #[.pointer none,.int .i64 x6]) w4)
 (
 Calls pP 13 #[] w4 fun e a9 => ∃ a3,e = .returned (.pointer a3) ∧
 al a9 (.map #[] 0) fun a7 b0 =>
 Calls pP 14 #[] b0 fun e b1 => ∃ a4,e = .returned (.pointer a4) ∧
 al b1 (.map #[] 0) fun a8 b2 =>
 Calls pP 15 #[] b2 fun e a6 => ∃ a5,e = .returned (.pointer a5) ∧
 ∀ a1,a6.heap.size ≤ a1 →
 ∀ a2,Adv [] [a1] a6 a2 → a2.heap[a1]? = some (.cells #[.int .i64 i0,.int .i64 0,.pointer a3,(.map (some a7)),.pointer a4,(.map (some a8)),.pointer a5] 58) →
 R (.tuple #[(.pointer (some ⟨a1,0,none⟩)),.int .i64 0]) a2)) :
 CR pP 5 #[.int .i64 i0] w R :=
 yaB Tryz.wide_mixed (an:=[]) Tryz.func5 rfl rfl (by kernel_rfl) rfl (Eq.mpr (by kernel_rfl) h)
def yvR:LA:=⟨[0,0,1,0,1,1,1,1],[0,4,5,30],[(0,0,0),(4,2,0)],3,[]⟩
def yx3:List LA:=[yvR]
abbrev yKa:=dnF pP yx3 (code Tryz.f20)
abbrev yNo:=yaR pP yx3 (code Tryz.f20)
abbrev yKb (p:List Nat) (K:List Kh) (R:VWP):=yaR pP yx3 (code Tryz.f20) p K (ybE pP Tryz.f20 [0] R)
def yoO (c5:Addr) (bm0:Nat) (b6 b7:Int) (b1:OA) (a8:Option Nat) (b2:OA) (a9:Option Nat) (b3:OA) (bm1:Nat) (b8:Int) (b4:BA) (b9 c0 c1 c2 c3 c4:Int) (a6:OA) (b0 a7:Nat) (b5 a3:BA) (a5:Int) (a4:Bool) (a0:OA) (a2 a1 bm2:Nat):Int → List Value × List TB:=fun c6 => ([(.pointer (some ⟨bm0,0,none⟩)),(.pointer (some ⟨bm2,0,none⟩)),.int .i64 c6,(.pointer (some c5))],[⟨bm0,58,[.int .i64 b6,.int .i64 b7,.pointer b1,(.map a8),.pointer b2,(.map a9),.pointer b3],false⟩,⟨bm1,39,[.int .i64 b8,.string b4,.int .i64 b9,.int .i64 c0,.int .i64 c1,.int .i64 c2,.int .i64 c3,.int .i64 c4,.slice a6 b0 a7,.string b5,.string a3,.int .i64 a5,.bool a4,.slice a0 a2 a1],false⟩,⟨bm2,30,[.int .i64 0,.int .i64 0,.int .i64 0,.int .i64 0,.slice none 0 0,.slice none 0 0],false⟩])
abbrev yGc (c5:Addr) (bm0:Nat) (b6 b7:Int) (b1:OA) (a8:Option Nat) (b2:OA) (a9:Option Nat) (b3:OA) (bm1:Nat) (b8:Int) (b4:BA) (b9 c0 c1 c2 c3 c4:Int) (a6:OA) (b0 a7:Nat) (b5 a3:BA) (a5:Int) (a4:Bool) (a0:OA) (a2 a1 bm2:Nat) (I:Nat → Int → World → Prop) (m:Nat):Kh:=KG (yoO c5 bm0 b6 b7 b1 a8 b2 a9 b3 bm1 b8 b4 b9 c0 c1 c2 c3 c4 a6 b0 a7 b5 a3 a5 a4 a0 a2 a1 bm2) (U1 I) m
theorem yCv {I:Nat → Int → World → Prop} (m':Nat) (h1:m' < m) (h2:I m' j0 w):KS (yGc A0 n0 i0 i1 q0 M0 q1 M1 q2 n1 i2 s0 i3 i4 i5 i6 i7 i8 q3 n2 n3 s1 s2 i9 B0 q4 n4 n5 n6 I m) (yoO A0 n0 i0 i1 q0 M0 q1 M1 q2 n1 i2 s0 i3 i4 i5 i6 i7 i8 q3 n2 n3 s1 s2 i9 B0 q4 n4 n5 n6 j0) w:=⟨m',h1,_,rfl,rfl,h2⟩
theorem yCw (I:Nat → Int → World → Prop) (m0:Nat) (h0:I m0 j0 w0)
 (hr:∀ m c6 w,I m c6 w →
 yz0 pP (.pointer (some A0)) 0 w (fun d3 => yaF [n0,n1,n6] w d3 ∧
 ∀ c9,Adv [n6] [] d3 c9 → c9.heap[n0]? = some (.cells #[.int .i64 i0,.int .i64 i1,.pointer q0,(.map M0),.pointer q1,(.map M1),.pointer q2] 58) →
 R (.agg (Z1 0 i1 c6 0 none 0 0 none 0 0)) c9)
 (fun d8 d9 c8 => yaF [n0,n1,n6] w c8 ∧
 ∃ d7 d2,∃ c7,(Instr.entry (.pointer (some A0))).run pP c8 = .ok (.tuple #[d7,.pointer d2]) c7 ∧ yaF [n0,n1,n6] c8 c7 ∧
 Calls pP 40 #[.pointer d2,.int .i64 i1] c7 fun e d4 => ∃ d5 d1 d6,e = .returned (.slice d5 d1 d6) ∧ yaF [n0,n1,n6] c7 d4 ∧
 KS (yGc A0 n0 i0 i1 q0 M0 q1 M1 q2 n1 i2 s0 i3 i4 i5 i6 i7 i8 q3 n2 n3 s1 s2 i9 B0 q4 n4 n5 n6 I m) (yoO A0 n0 i0 i1 q0 M0 q1 M1 q2 n1 i2 s0 i3 i4 i5 i6 i7 i8 q3 n2 n3 s1 s2 i9 B0 q4 n4 n5 n6 (IntKind.wrap .i64 (c6 + (d1:Int)))) d4)) :
 yaO yvR (yKa 394 [0,0,1,0,1,1,1,1]) (yKb [1,1,1,1,0,1,0] [] R) (yoO A0 n0 i0 i1 q0 M0 q1 M1 q2 n1 i2 s0 i3 i4 i5 i6 i7 i8 q3 n2 n3 s1 s2 i9 B0 q4 n4 n5 n6 j0) w0 :=
 lrule (yoO A0 n0 i0 i1 q0 M0 q1 M1 q2 n1 i2 s0 i3 i4 i5 i6 i7 i8 q3 n2 n3 s1 s2 i9 B0 q4 n4 n5 n6) (U1 I) h0 (by rintro m c6 w h; exact ⟨by kernel_rfl,by kernel_rfl,fun js => Eq.mpr (by kernel_rfl) (hr m c6 w h)⟩)
theorem yKc {b0:Nat} {a6 a5:Nat} {a3 a2:Nat} (hb:w.heap[b0]? = some (.cells #[.int .i64 i0,.int .i64 i1,.pointer q0,(.map M0),.pointer q1,(.map M1),.pointer q2] 58)) (h :
 ∀ b3,w.heap.size ≤ b3 →
 ∀ b4,w.heap.size ≤ b4 →
 brB (decide ((IntKind.wrap .i64 (i1 + i4)) > 1099511627776)) (
 ∀ c1,Adv [] [b4,b3] w c1 →
 Calls pP 17 #[.int .i64 2] c1 fun e d0 => ∃ d2 d3 d4 d5 c4 c8 c6 c5 c9 c7,e = .returned (.agg (Z1 d2 d3 d4 d5 c4 c8 c6 c5 c9 c7)) ∧ yaF [b0,b3,b4] c1 d0 ∧
 ∀ c2,Adv [b4] [] d0 c2 → c2.heap[b0]? = some (.cells #[.int .i64 i0,.int .i64 i1,.pointer q0,(.map M0),.pointer q1,(.map M1),.pointer q2] 58) →
 R (.agg (Z1 d2 d3 d4 d5 c4 c8 c6 c5 c9 c7)) c2)
 (
 ∀ c3,Adv [b0] [b4,b3] w c3 →
 ylU pP (Instr.range 54 (.map M1)) c3 fun d6 d1 => yaF [b0,b3,b4] c3 d1 ∧
 yaO yvR (yKa 394 [0,0,1,0,1,1,1,1]) (yKb [1,1,1,1,0,1,0] [] R) (yoO d6 b0 i0 (IntKind.wrap .i64 (i1 + i4)) q0 M0 q1 M1 q2 b3 i2 s0 i3 i4 i5 i6 i7 i8 q3 a6 a5 s1 s2 i9 B0 q4 a3 a2 b4 0) d1)) :
 CR pP 20 #[(.pointer (some ⟨b0,0,none⟩)),(.agg (Z0 i2 s0 i3 i4 i5 i6 i7 i8 q3 a6 a5 s1 s2 i9 B0 q4 a3 a2))] w R :=
 yaJ Tryz.wide_mixed (an:=yx3) Tryz.func20 rfl rfl (by kernel_rfl) rfl hb (Eq.mpr (by kernel_rfl) h)
theorem yKd (h :
 ∀ b2,w.heap.size ≤ b2 →
 ∀ w3,Adv [] [b2] w w3 →
 R (.agg (Z1 i0 0 0 0 none 0 0 none 0 0)) w3) :
 CR pP 17 #[.int .i64 i0] w R :=
 yaB Tryz.wide_mixed (an:=[]) Tryz.func17 rfl rfl (by kernel_rfl) rfl (Eq.mpr (by kernel_rfl) h)
end
end Go.Proofs.YteldhjiiocmicaaGreat
namespace Go.Proofs.YteldhjiiocmicaaGreat
open Go Go.RowKit Go.Maps Go.MapKept
set_option linter.unusedVariables false
set_option linter.unusedSimpArgs false
abbrev hki:Int → Value:=fun k => .int .i64 k
theorem yp9:∀ a b:Int,hki a = hki b → a = b:=by intro a b h; simpa [hki] using h
def s64 (n:Int):Prop:=-9223372036854775808 ≤ n ∧ n ≤ 9223372036854775807
theorem hfr {n:Int} (h:s64 n):(Lit.int .i64 n).wf = true:=by
 simp [Lit.wf,IntKind.min,IntKind.max,IntKind.signed,IntKind.bits]; exact h
theorem yFe:Keyed pP 3:=int_keyed Tryz.underlying3
theorem yqA {k:Int} (h:s64 k):keyOf pP 3 (hki k) = some (.int .i64 k):=keyOf_int_mk Tryz.underlying3 (hfr h)
theorem yeK {w:World} {b:Nat} {o:Obj}:Mod [b] w (Go.ChangeMaps.setBlock w b o) :=
 ⟨rfl,rfl,rfl,by simp [Go.ChangeMaps.setBlock],fun k hk hS => yb1 (by simpa using hS)⟩
theorem yCx (room:Int) (w:World):Calls pP 34 #[.int .i64 room] w fun e w' => e = .returned (.bool (decide (1 ≤ room ∧ room ≤ 64))) ∧ w' = w:=by
 refine ya0 (yJ4 ?_)
 refine yaC (fun g => ⟨congrArg Value.bool ?_,rfl⟩) fun g => ⟨congrArg Value.bool (decide_eq_false (by omega)).symm,rfl⟩
 exact decide_eq_decide.2 ⟨fun h => ⟨by omega,h⟩,fun h => h.2⟩
theorem yjT {w:World} {bm:Nat} {L:List (Int × Value)} {k:Int} {v:Value} {bs:List Nat} {F:World → Prop} (h:yaS pP 3 hki (fun v:Value => v) w bm L) (hk:s64 k) (hbs:∀ b ∈ bs,b ≠ bm)
  (hF:∀ w',yaS pP 3 hki (fun v:Value => v) w' bm (put L k v) → Mod [bm] w w' → F w'):ydM pP (Instr.mapUpdate 61 (.map (some bm)) (.int .i64 k) v) w fun w' => yaF bs w w' ∧ F w':=by
 obtain ⟨o,ho1,ho2⟩:=h.update yFe yp9 Tryz.underlying61 v (yqA hk)
 exact ⟨_,ho1,yaF.of yeK (fun b hb _ hc => hbs b hb (by simpa using hc)),hF _ ho2 yeK⟩
theorem yKe (w:World):(zeroValue 31).run pP w = .ok (.nilFunc) w:=by kernel_rfl
end Go.Proofs.YteldhjiiocmicaaGreat
namespace Go.Proofs.YteldhjiiocmicaaGreat
open Go Go.RowKit Go.Maps Go.MapKept
set_option linter.unusedVariables false
set_option linter.unusedSimpArgs false
theorem ybO {α:Type} {l:List α} {k:Nat} {q:α} (h:l[k]? = some q):l.take (k + 1) = l.take k ++ [q]:=by rw [List.take_add_one,h]; rfl
theorem yfB {κ β:Type} [DecidableEq κ] (L:List (κ × β)) (k:κ) (v:β) (x:κ):lkp (put L k v) x = if x = k then some v else lkp L x:=by
 induction L with
 | nil => simp [put,lkp,eq_comm]
 | cons q r ih =>
  rw [put]
  by_cases h:q.1 = k
  ·rw [if_pos h,lkp,lkp]
   by_cases hx:x = k
   ·simp [hx,h]
   ·have:¬ k = x:=fun e => hx e.symm
    simp [hx,h,this]
  ·rw [if_neg h,lkp,lkp,ih]
   by_cases hx:x = k
   ·subst hx; simp [h]
   ·simp [hx]
end Go.Proofs.YteldhjiiocmicaaGreat
namespace Go.Proofs.YteldhjiiocmicaaGreat
open Go Go.RowKit Go.Maps Go.MapKept
set_option linter.unusedVariables false
set_option linter.unusedSimpArgs false
structure HV where
 x:PRep
 f:Sl
 p:Sl
theorem yaG {α:Type} {w:World} {base T sz:Nat} {enc:α → List Value} {a:Option Addr} {n c:Nat} {l:List α} (h:Row w base T sz enc a n c l):∀ i ∈ yaN a,base ≤ i ∧ i < w.heap.size:=fun i hi => ⟨(yaP h i hi).1,(yaP h i hi).2.1⟩
theorem yc5 {α:Type} {w:World} {base T sz:Nat} {enc:α → List Value} {a:Option Addr} {n c:Nat} {l:List α} (h:Row w base T sz enc a n c l) {b:Nat} {cs:Array Value} {T':TypeId} (hb:w.heap[b]? = some (.cells cs T')) (hT:T' ≠ T):b ∉ yaN a:=fun hi => by
 obtain ⟨_,_,cur,hc⟩:=yaP h b hi
 rw [hb] at hc; cases hc; exact hT rfl
theorem yaA {α:Type} {w w':World} {base T sz:Nat} {enc:α → List Value} {a:Option Addr} {n c:Nat} {l:List α} {S:List Nat} (h:Row w base T sz enc a n c l) (M:Mod S w w') (hS:∀ k ∈ S,k ∉ yaN a):Row w' base T sz enc a n c l :=
 h.keep M fun ad ha hk => hS _ hk (by rw [ha]; simp [yaN])
end Go.Proofs.YteldhjiiocmicaaGreat
