/- BrokerReads, for every input. No conditions. -/
import Derived.Test.YteldhjiiocmicaaGreatPBReadsK6
namespace Go.Proofs.YteldhjiiocmicaaGreat
open Go Go.RowKit Go.Maps Go.MapKept Go.Sort Go.Shelf
set_option linter.unusedVariables false
set_option linter.unusedSimpArgs false
def yMJ (d:PGrpd):ByteArray × PGrp:=(d.name,⟨d.gen,d.robin,gL d.seats⟩)
structure GrpsIn (w:World) (B mg:Nat) (gs:List PGrpd) (GV:List (ByteArray × GrpV)):Prop where
 m:yaS pP 9 hks GrpV.v w mg GV
 e:GV.map (fun q => (q.1,q.2.x)) = gs.map yMJ
 a:∀ q ∈ GV,ycP w q.2.p q.2.gen q.2.robin q.2.G q.2.F ∧ ∀ k ∈ q.2.F,B ≤ k
 p:GV.Pairwise fun a b => ydN a.2.F b.2.F
theorem GrpsIn.keep {w w':World} {B mg:Nat} {gs:List PGrpd} {GV:List (ByteArray × GrpV)} {S:List Nat} (h:GrpsIn w B mg gs GV) (M:Mod S w w') (hS:∀ k ∈ S,k < B ∧ k ≠ mg):GrpsIn w' B mg gs GV :=
 ⟨h.m.keepM M fun hk => (hS _ hk).2 rfl,h.e,fun q hq => ⟨(h.a q hq).1.keep M fun k hk hk' => by have:=(h.a q hq).2 k hk'; have:=(hS k hk).1; omega,(h.a q hq).2⟩,h.p⟩
def GOk (l:List PGrpd):Prop:=(∀ d ∈ l,yFU d.gen d.seats ∧ ybQ d.name = true) ∧ ybB (l.map (·.name)) = true
theorem GOk.take {l:List PGrpd} (h:GOk l) (k:Nat):GOk (l.take k):=⟨fun d hd => h.1 d (List.mem_of_mem_take hd),by rw [List.map_take]; exact yhB h.2⟩
theorem GOk.step {l:List PGrpd} {k:Nat} {y:PGrpd} (hy:l[k]? = some y):GOk (l.take (k + 1)) ↔ GOk (l.take k) ∧ yFU y.gen y.seats ∧ ybQ y.name = true ∧ ∀ p,0 < k → l[k - 1]? = some p → yb8 p.name y.name = true:=by
 have em:∀ j,(l.take j).map (·.name) = (l.map (·.name)).take j:=fun j => List.map_take ..
 have hyn:(l.map (·.name))[k]? = some y.name:=by simp [hy]
 have hrt:∀ p,0 < k → l[k - 1]? = some p → ybB ((l.take (k + 1)).map (·.name)) = (ybB ((l.take k).map (·.name)) && yb8 p.name y.name):=fun p h0 hp => by
  have:=ye1 (l:=l.map (·.name)) (k:=k - 1) (x:=p.name) (y:=y.name) (by simp [hp]) (by rw [show k - 1 + 1 = k by omega]; exact hyn)
  rw [show k - 1 + 2 = k + 1 by omega,show k - 1 + 1 = k by omega,← em,← em] at this
  exact this
 have hkl:=(List.getElem?_eq_some_iff.1 hy).1
 constructor
 ·intro h
  have h1:=h.1 y (by rw [ybO hy]; simp)
  have h2:=h.take k
  rw [List.take_take,show min k (k + 1) = k by omega] at h2
  refine ⟨h2,h1.1,h1.2,fun p h0 hp => ?_⟩
  have:=hrt p h0 hp
  rw [h.2,h2.2,Bool.true_and] at this
  exact this.symm
 ·rintro ⟨h1,h2,h3,h4⟩
  refine ⟨fun d hd => ?_,?_⟩
  ·rw [ybO hy] at hd
   rcases List.mem_append.1 hd with hd | hd
   ·exact h1.1 d hd
   ·simp at hd; subst hd; exact ⟨h2,h3⟩
  ·rcases Nat.eq_zero_or_pos k with e | h0
   ·subst e; rw [ybO hy]; simp [ybB]
   ·obtain ⟨p,hp⟩:∃ p,l[k - 1]? = some p:=⟨_,List.getElem?_eq_getElem (by omega)⟩
    rw [hrt p h0 hp,h1.2,h4 p h0 hp]; rfl
set_option maxHeartbeats 2000000 in
theorem yBz {w:World} {b12 b pc ml pm mg po:Nat} {rm now:Int} {t0:Bool} {x:PSt} {q:StS} {lv:List LgV} {mv:List MkV} {gv:List GdV} (hI:StIn w x q lv mv gv) (hl:w.heap[b12]? = some (ldC b t0)) (hb:w.heap[b]? = some (brC rm now pc ml pm mg po)) (hm:yaS pP 9 hks GrpV.v w mg [])
  (n1:mg ≠ b12) (n2:b ≠ mg) (n3:b ≠ b12) (n6:∀ w',Mod [b12,mg] w w' → StIn w' x q lv mv gv) :
  Calls pP 60 #[.pointer (some ⟨b12,0,none⟩),stV x q] w fun e w' => e = .returned (.tuple #[]) ∧ Mod [b12,mg] w w' ∧ ∃ t',w'.heap[b12]? = some (ldC b t') ∧
   (t' = false ↔ t0 = false ∧ x.groups.length ≤ 8 ∧ GOk x.groups) ∧ (t' = false → ∃ GV,GrpsIn w' w.heap.size mg x.groups GV):=by
 have hgn:=hI.g.1
 have hng:=hI.ng
 have lb12:=yaH hl
 have lb:=yaH hb
 have lmg:=hm.lt
 have hgx:x.groups = gv.map (·.x):=hI.eg.symm
 refine ya0 (yIT hl ?_)
 intro b2 f2 w7 A7 hc7
 have s7:=A7.mod.size
 have l2:=A7.lt b2 (by simp)
 refine (yb6 hc7 _).mono ?_
 rintro _ w8 ⟨rfl,hc8,M8⟩
 have s8:=M8.size
 have M08:Mod [b12] w w8:=(A7.mod.trans M8).less fun z hz _ => by simpa using hz
 refine ⟨rfl,yaF.of M8 fun z hz _ hz' => by simp at hz hz'; omega,_,_,hc8,?_⟩
 have hm8:=hm.keepM M08 (by simpa using n1)
 obtain ⟨t1,et1⟩:∃ t1,t1 = (t0 || decide ((q.sg.n:Int) > 8)):=⟨_,rfl⟩
 rw [← et1] at hc8 ⊢
 refine yBy (fun mm ix p t w' => ∃ k:Nat,ix = k ∧ k ≤ gv.length ∧ p = some ⟨b,0,none⟩ ∧
   ((t = false ∧ t1 = false ∧ GOk (x.groups.take k) ∧ ∃ GV,GrpsIn w' w8.heap.size mg (x.groups.take k) GV) ∨ (t = true ∧ (t1 = true ∨ ¬ GOk (x.groups.take k)) ∧ ∃ LX:List (ByteArray × Option Addr),yaS pP 9 hks Value.pointer w' mg LX)) ∧ w8.heap.size ≤ w'.heap.size ∧ Mod [b12,mg] w w' ∧ mm = gv.length - k) gv.length
  ⟨0,rfl,by omega,rfl,?_,Nat.le_refl _,M08.less (by simp),rfl⟩ ?_
 ·cases t1 with
  | false => exact .inl ⟨rfl,rfl,⟨by simp,by simp [ybB]⟩,[],hm8,rfl,by simp,by simp⟩
  | true => exact .inr ⟨rfl,.inl rfl,[],hm8.sameV (by rfl)⟩
 rintro mm ix p0 t w1 ⟨k,rfl,hk,rfl,hD,w81,M1,rfl⟩ hcw
 have s1:=M1.size
 have h1:=n6 w1 M1
 have hb1:=M1.keep hb (by simp; exact ⟨n3,n2⟩)
 refine yaC (fun hlt => ?_) fun hge => ?_
 ·obtain ⟨y,hy⟩:∃ y,gv[k]? = some y:=⟨_,List.getElem?_eq_getElem (by omega)⟩
  have hym:=List.mem_of_getElem? hy
  have hyx:x.groups[k]? = some y.x:=by rw [hgx]; simp [hy]
  refine h1.g.ix hy fun q hq => yaL (x:=y.x.name) (by simpa [add_zero] using hq 0 _ rfl) (yaK (x:=y.x.gen) (hq 1 _ rfl) (ybI (x:=y.x.robin) (hq 2 _ rfl) (yaU (hq 3 _ rfl) ?_)))
  intro b26 f26 w33 A33 hc33
  have l26:=A33.lt b26 (by simp)
  have s33:=A33.mod.size
  obtain ⟨qs,g1,g2,g3⟩:=(h1.keep0 A33.mod).gs y hym
  refine (yBt g1 g2 y.x.gen y.x.robin).mono ?_
  rintro _ w34 ⟨_,rfl,pp,er,rfl,M34,hE,hG⟩
  rw [g3] at hE hG
  have s34:=M34.size
  have K34:Mod [] w1 w34:=A33.mod.go0 M34 (by simp)
  have hc34:=M34.keep0 hc33
  refine ⟨_,_,rfl,yaF.of0 M34,_,_,hc34,?_⟩
  have ek:=ye5 (k:=k) (by omega)
  have bs:mg ∉ [b12,b2,b26]:=by simp; exact ⟨n1,by omega,by omega⟩
  have tk:x.groups.take (k + 1) = x.groups.take k ++ [y.x]:=ybO hyx
  have hsz:=hI.kg y hym
  have fin:∀ {w34' w40:World} {bk:Bool},Mod [] w34 w34' → Mod [b12] w34' w40 → w40.heap[b12]? = some (ldC b (t || bk)) → (bk = false ↔ yFU y.x.gen y.x.seats ∧ ybQ y.x.name = true ∧ ∀ p,0 < k → x.groups[k - 1]? = some p → yb8 p.name y.x.name = true) → ∀ w44,Adv [] [] w40 w44 → w44.cell? (Addr.add ⟨b,0,none⟩ 5) = some (.map (some mg)) ∧
    ydM pP (Instr.mapUpdate 54 (.map (some mg)) (.string y.x.name) (.pointer pp)) w44 fun w' => yaF [b12,b2,b26] w44 w' ∧ ∃ k':Nat,IntKind.wrap .i64 ((k:Int) + 1) = k' ∧ k' ≤ gv.length ∧ (some ⟨b,0,none⟩:Option Addr) = some ⟨b,0,none⟩ ∧
   (((t || bk) = false ∧ t1 = false ∧ GOk (x.groups.take k') ∧ ∃ GV,GrpsIn w' w8.heap.size mg (x.groups.take k') GV) ∨ ((t || bk) = true ∧ (t1 = true ∨ ¬ GOk (x.groups.take k')) ∧ ∃ LX:List (ByteArray × Option Addr),yaS pP 9 hks Value.pointer w' mg LX)) ∧ w8.heap.size ≤ w'.heap.size ∧ Mod [b12,mg] w w' ∧ gv.length - (k + 1) = gv.length - k':=by
   intro w34' w40 bk Ma Mb hc40 hbk w44 A44
   have sa:=Ma.size
   have sb:=Mb.size
   have s44:=A44.mod.size
   have K44:Mod [b12] w1 w44:=(((K34.trans Ma).trans Mb).trans A44.mod).less fun z hz _ => by simpa using hz
   have M44:Mod [b12,mg] w w44:=(M1.trans K44).less fun z hz _ => by simp at hz ⊢; omega
   refine ⟨by rw [show (Addr.add ⟨b,0,none⟩ 5) = ⟨b,5,none⟩ from rfl,yaM (K44.keep hb1 (by simpa using n3))]; rfl,?_⟩
   have done:∀ {w46:World},Mod [mg] w44 w46 → w8.heap.size ≤ w46.heap.size ∧ Mod [b12,mg] w w46:=fun M46 => ⟨by have:=M46.size; omega,(M44.trans M46).less fun z hz _ => by simp at hz ⊢; omega⟩
   rcases hD with ⟨rfl,e2,e3,GV,hGV⟩ | ⟨rfl,e2,LX,hLX⟩
   ·have hG44:GrpsIn w44 w8.heap.size mg (x.groups.take k) GV:=hGV.keep K44 fun z hz => by simp at hz; subst hz; exact ⟨by omega,fun e => n1 e.symm⟩
    cases bk with
    | false =>
     have hok:=hbk.1 rfl
     obtain ⟨bl,F,rfl,hLF,hF⟩:=hG (hE.2 hok.1)
     have hok2:=(GOk.step hyx).2 ⟨e3,hok⟩
     have hnone:lkp GV y.x.name = none:=yc1.2 fun p hp e => by
      have hp':(p.1,p.2.x) ∈ (x.groups.take k).map yMJ:=by rw [← hGV.e]; exact List.mem_map.2 ⟨p,hp,rfl⟩
      obtain ⟨d,hd,ed⟩:=List.mem_map.1 hp'
      have hnd:=yj3 hok2.2
      rw [tk,List.map_append,List.nodup_append] at hnd
      exact hnd.2.2 _ (List.mem_map.2 ⟨d,hd,rfl⟩) y.x.name (by simp) ((congrArg Prod.fst ed).trans e)
     have hF44:∀ z ∈ F,w1.heap.size ≤ z:=fun z hz => by have:=hF z hz; omega
     have hLF44:ycP w44 bl y.x.gen y.x.robin (gL y.x.seats) F:=((hLF.keep Ma (by simp)).keep Mb fun z hz hz' => by simp at hz; subst hz; have:=hF44 _ hz'; omega).keep A44.mod (by simp)
     refine hG44.m.setU (k:=y.x.name) ydT ybH Tryz.underlying54 (v:=(⟨bl,y.x.gen,y.x.robin,gL y.x.seats,F⟩:GrpV)) (ybK hsz) bs fun w46 hm46 M46 => ?_
     rw [ycB hnone] at hm46
     obtain ⟨d1,d2⟩:=done M46
     refine ⟨k + 1,ek,by omega,rfl,.inl ⟨rfl,e2,hok2,GV ++ [(y.x.name,⟨bl,y.x.gen,y.x.robin,gL y.x.seats,F⟩)],hm46,?_,fun q hq => ?_,List.pairwise_append.2 ⟨hGV.p,by simp,fun q hq q' hq' z hz hz' => ?_⟩⟩,d1,d2,rfl⟩
     ·rw [tk,List.map_append,List.map_append,hGV.e]; rfl
     ·rcases List.mem_append.1 hq with hq | hq
      ·exact ⟨(hG44.a q hq).1.keep M46 fun z hz hz' => by simp at hz; subst hz; have:=(hG44.a q hq).2 _ hz'; omega,(hG44.a q hq).2⟩
      ·simp at hq; subst hq
       exact ⟨hLF44.keep M46 fun z hz hz' => by simp at hz; subst hz; have:=hF44 _ hz'; omega,fun z hz => by have:=hF44 z hz; omega⟩
     ·simp at hq'; subst hq'
      have:=(hGV.a q hq).1.lt z hz; have:=hF44 z hz'; omega
    | true =>
     have hX:yaS pP 9 hks Value.pointer w44 mg (GV.map fun q => (q.1,(some ⟨q.2.p,0,none⟩:Option Addr))):=hG44.m.sameV (by rw [List.map_map]; rfl)
     refine hX.setU (k:=y.x.name) ydT ybH Tryz.underlying54 (v:=pp) (ybK hsz) bs fun w46 hm46 M46 => ?_
     obtain ⟨d1,d2⟩:=done M46
     exact ⟨k + 1,ek,by omega,rfl,.inr ⟨rfl,.inr (fun h => by have:=hbk.2 ((GOk.step hyx).1 h).2; cases this),_,hm46⟩,d1,d2,rfl⟩
   ·have hX:=hLX.keepM K44 (by simpa using n1)
    refine hX.setU (k:=y.x.name) ydT ybH Tryz.underlying54 (v:=pp) (ybK hsz) bs fun w46 hm46 M46 => ?_
    obtain ⟨d1,d2⟩:=done M46
    exact ⟨k + 1,ek,by omega,rfl,.inr ⟨rfl,e2.imp_right (fun h h' => h ((GOk.step hyx).1 h').1),_,hm46⟩,d1,d2,rfl⟩
  refine yaE (fun g => ?_) fun g => ?_
  ·have g:er ≠ 0:=by simpa using g
   intro w39 A39 hc39
   refine (yb6 hc39 true).mono ?_
   rintro _ w40 ⟨rfl,hc40,M40⟩
   refine ⟨rfl,yaF.of M40 fun z hz _ hz' => by simp at hz hz'; omega,_,_,hc40,ya6 ?_⟩
   intro w44 A44 _
   obtain ⟨z1,z2⟩:=fin A39.mod M40 hc40 ⟨fun e => (by cases e),fun h => absurd (hE.2 h.1) g⟩ w44 A44
   exact yb2 z1 (ye4 z2 fun w' h => ⟨h.1,yhF (gv.length - (k + 1)) (by omega) h.2⟩)
  have g:er = 0:=by simpa using g
  have hy1:=hE.1 g
  intro w47 A47 hc47
  refine (ygN y.x.name w47).mono ?_
  rintro _ w48 ⟨rfl,M48⟩
  have K48:Mod [] w34 w48:=A47.mod.go0 M48 (by simp)
  have hc48:=M48.keep0 hc47
  refine ⟨_,rfl,yaF.of0 M48,_,_,hc48,yaE (fun g => ?_) fun g => ?_⟩
  ·have g:ybQ y.x.name = false:=by simpa using g
   refine (yb6 hc48 true).mono ?_
   rintro _ w40 ⟨rfl,hc40,M40⟩
   refine ⟨rfl,yaF.of M40 fun z hz _ hz' => by simp at hz hz'; omega,_,_,hc40,ya6 ?_⟩
   intro w44 A44 _
   obtain ⟨z1,z2⟩:=fin K48 M40 hc40 ⟨fun e => (by cases e),fun h => (by rw [h.2.1] at g; cases g)⟩ w44 A44
   exact yb2 z1 (ye4 z2 fun w' h => ⟨h.1,yhF (gv.length - (k + 1)) (by omega) h.2⟩)
  have g:ybQ y.x.name = true:=by simpa using g
  refine yaC (fun g2 => ?_) fun g2 => ?_
  ·rw [yr1 (by omega) (by omega)]
   obtain ⟨p,hp⟩:∃ p,gv[k - 1]? = some p:=⟨_,List.getElem?_eq_getElem (by omega)⟩
   refine ((h1.keep0 K34).keep0 K48).g.ix hp fun q hq => yaL (x:=p.x.name) (by simpa [add_zero] using hq 0 _ rfl) ?_
   rw [yd9]
   refine (yb6 hc48 _).mono ?_
   rintro _ w40 ⟨rfl,hc40,M40⟩
   refine ⟨rfl,yaF.of M40 fun z hz _ hz' => by simp at hz hz'; omega,_,_,hc40,ya6 ?_⟩
   intro w44 A44 _
   obtain ⟨z1,z2⟩:=fin K48 M40 hc40 ⟨fun e => ⟨hy1,g,fun p' _ hp' => by
    rw [hgx,List.getElem?_map,hp] at hp'; cases hp'
    simpa using e⟩,fun h => by
    have:=h.2.2 p.x (by omega) (by rw [hgx,List.getElem?_map,hp]; rfl)
    rw [this]; rfl⟩ w44 A44
   exact yb2 z1 (ye4 z2 fun w' h => ⟨h.1,yhF (gv.length - (k + 1)) (by omega) h.2⟩)
  ·refine (yb6 hc48 false).mono ?_
   rintro _ w40 ⟨rfl,hc40,M40⟩
   refine ⟨rfl,yaF.of M40 fun z hz _ hz' => by simp at hz hz'; omega,_,_,hc40,ya6 ?_⟩
   intro w44 A44 _
   obtain ⟨z1,z2⟩:=fin K48 M40 hc40 ⟨fun e => ⟨hy1,g,fun p' h0 _ => by omega⟩,fun h => rfl⟩ w44 A44
   exact yb2 z1 (ye4 z2 fun w' h => ⟨h.1,yhF (gv.length - (k + 1)) (by omega) h.2⟩)
 ·have hk:k = gv.length:=by omega
  subst hk
  have ht:x.groups.take gv.length = x.groups:=List.take_of_length_le (by rw [hgx]; simp)
  rw [ht] at hD
  have hlen:(decide ((q.sg.n:Int) > 8) = false) ↔ x.groups.length ≤ 8:=by rw [hgx]; simp; omega
  refine ⟨rfl,M1,t,hcw,?_,?_⟩
  ·rw [← hlen]
   rcases hD with ⟨rfl,e2,e3,_⟩ | ⟨rfl,e2,_⟩
   ·rw [e2] at et1
    have:=Bool.or_eq_false_iff.1 et1.symm
    exact ⟨fun _ => ⟨this.1,this.2,e3⟩,fun _ => rfl⟩
   ·refine ⟨fun h => (by cases h),fun ⟨h1,h2,h3⟩ => ?_⟩
    rcases e2 with e2 | e2
    ·rw [et1,h1,h2] at e2; cases e2
    ·exact absurd h3 e2
  ·intro h
   rcases hD with ⟨rfl,_,_,GV,hGV⟩ | ⟨rfl,_,_⟩
   ·exact ⟨GV,hGV.m,hGV.e,fun q hq => ⟨(hGV.a q hq).1,fun z hz => by have:=(hGV.a q hq).2 z hz; omega⟩,hGV.p⟩
   ·cases h
end Go.Proofs.YteldhjiiocmicaaGreat
namespace Go.Proofs.YteldhjiiocmicaaGreat
open Go Go.RowKit Go.Maps Go.MapKept Go.Sort Go.Shelf
set_option linter.unusedVariables false
set_option linter.unusedSimpArgs false
theorem yFW {w:World} {pc b22:Nat} {cat:TL} {Fc:List Nat} (hT:ydO w pc cat Fc) (hb:w.heap[b22]? = some (.cells #[.pointer (some ⟨pc,0,none⟩)] 49)) {a:Option Addr} {n c:Nat} {l:List MkV} (h:ybF w 5 MkV.cs a n l) (hl:l.length ≤ 1000000) (hk:∀ q ∈ l,q.x.part.t.size ≤ maxLen) :
  Calls pP 63 #[.slice a n c,.func (.func 64) #[] #[.pointer (some ⟨b22,0,none⟩)]] w fun e w' => e = .returned (.bool (l.any fun q => !ygP cat q.x.part)) ∧ Mod [] w w':=by
 have hn:=h.1
 refine ya0 (yIL ?_)
 refine Calls.mono (R:=fun e w' => ∃ v,e = .returned v ∧ ∃ r:Int,v = .int .i64 r ∧ decide (r ≥ 0) = (l.any fun q => !ygP cat q.x.part) ∧ Mod [] w w') ?_ ?_
 case refine_2 =>
  rintro _ w' ⟨_,rfl,r,rfl,e,M⟩
  exact ⟨r,rfl,by rw [e],M⟩
 refine yIM ?_
 refine yBq (fun mm x w' => ∃ k:Nat,x = k ∧ k ≤ l.length ∧ (∀ y ∈ l.take k,ygP cat y.x.part = true) ∧ Mod [] w w' ∧ mm = l.length - k) l.length ⟨0,rfl,by omega,by simp,Mod.refl _,rfl⟩ ?_
 rintro mm x w1 ⟨k,rfl,hk1,hb0,M1,rfl⟩
 refine yaC (fun hlt => ?_) fun hge => ?_
 ·obtain ⟨d,hd⟩:∃ d,l[k]? = some d:=⟨_,List.getElem?_eq_getElem (by omega)⟩
  refine (h.keep0 M1).ix hd fun q hq => yaK (x:=d.x.id) (by simpa [add_zero] using hq 0 _ rfl) (yaK (x:=d.x.epoch) (hq 1 _ rfl) (yaL (x:=d.x.part.t) (hq 2 _ rfl) (yaK (x:=d.x.part.n) (hq 3 _ rfl) (yaU (hq 4 _ rfl) ?_))))
  refine Calls.mono (R:=fun e w' => e = .returned (.bool (!ygP cat d.x.part)) ∧ Mod [] w1 w') ?_ ?_
  ·refine ya0 (yIV ?_)
   intro b2 f2 w7 A7
   have K7:=M1.go0 A7.mod (by simp)
   refine ydA (x:=some ⟨pc,0,none⟩) (by rw [yaM (K7.keep0 hb)]; rfl) ?_
   refine (ymY (hT.keep0 K7) (p:=d.x.part) (hk d (List.mem_of_getElem? hd))).mono ?_
   rintro _ w9 ⟨rfl,M9⟩
   exact ⟨_,rfl,yaF.of0 M9,rfl,A7.mod.go0 M9 (by simp)⟩
  rintro _ w7 ⟨rfl,M7⟩
  have N7:=M1.go0 M7 (by simp)
  refine ⟨_,rfl,yaE (fun g => ?_) fun g => ?_⟩
  ·refine ⟨_,rfl,?_,N7⟩
   rw [decide_eq_true (by omega)]
   exact (List.any_eq_true.2 ⟨d,List.mem_of_getElem? hd,g⟩).symm
  ·refine yBp (l.length - (k + 1)) (by omega) ⟨k + 1,ye5 (by omega),by omega,fun y hy => ?_,N7,rfl⟩
   rw [ybO hd] at hy
   rcases List.mem_append.1 hy with hy | hy
   ·exact hb0 y hy
   ·simp at hy; subst hy; simpa using g
 ·have hk:k = l.length:=by omega
  subst hk
  rw [List.take_length] at hb0
  refine ⟨_,rfl,?_,M1⟩
  rw [decide_eq_false (by omega)]
  exact (List.any_eq_false.2 fun y hy => by simp [hb0 y hy]).symm
theorem yzV {w:World} {pc b22:Nat} {cat:TL} {Fc:List Nat} (hT:ydO w pc cat Fc) (hb:w.heap[b22]? = some (.cells #[.pointer (some ⟨pc,0,none⟩)] 49)) {a:Option Addr} {n c:Nat} {l:List PMark} (h:ybF w 4 yfX a n l) (hl:l.length ≤ 1000000) (hk:∀ q ∈ l,q.p.t.size ≤ maxLen) :
  Calls pP 66 #[.slice a n c,.func (.func 67) #[] #[.pointer (some ⟨b22,0,none⟩)]] w fun e w' => e = .returned (.bool (l.any fun q => !ygP cat q.p)) ∧ Mod [] w w':=by
 have hn:=h.1
 refine ya0 (yIN ?_)
 refine Calls.mono (R:=fun e w' => ∃ v,e = .returned v ∧ ∃ r:Int,v = .int .i64 r ∧ decide (r ≥ 0) = (l.any fun q => !ygP cat q.p) ∧ Mod [] w w') ?_ ?_
 case refine_2 =>
  rintro _ w' ⟨_,rfl,r,rfl,e,M⟩
  exact ⟨r,rfl,by rw [e],M⟩
 refine yIO ?_
 refine yBs (fun mm x w' => ∃ k:Nat,x = k ∧ k ≤ l.length ∧ (∀ y ∈ l.take k,ygP cat y.p = true) ∧ Mod [] w w' ∧ mm = l.length - k) l.length ⟨0,rfl,by omega,by simp,Mod.refl _,rfl⟩ ?_
 rintro mm x w1 ⟨k,rfl,hk1,hb0,M1,rfl⟩
 refine yaC (fun hlt => ?_) fun hge => ?_
 ·obtain ⟨d,hd⟩:∃ d,l[k]? = some d:=⟨_,List.getElem?_eq_getElem (by omega)⟩
  refine (h.keep0 M1).ix hd fun q hq => yaL (x:=d.g) (by simpa [add_zero] using hq 0 _ rfl) (yaL (x:=d.p.t) (hq 1 _ rfl) (yaK (x:=d.p.n) (hq 2 _ rfl) (yaK (x:=d.off) (hq 3 _ rfl) ?_)))
  refine Calls.mono (R:=fun e w' => e = .returned (.bool (!ygP cat d.p)) ∧ Mod [] w1 w') ?_ ?_
  ·refine ya0 (yIW ?_)
   intro b2 f2 w7 A7
   have K7:=M1.go0 A7.mod (by simp)
   refine ydA (x:=some ⟨pc,0,none⟩) (by rw [yaM (K7.keep0 hb)]; rfl) ?_
   refine (ymY (hT.keep0 K7) (p:=d.p) (hk d (List.mem_of_getElem? hd))).mono ?_
   rintro _ w9 ⟨rfl,M9⟩
   exact ⟨_,rfl,yaF.of0 M9,rfl,A7.mod.go0 M9 (by simp)⟩
  rintro _ w7 ⟨rfl,M7⟩
  have N7:=M1.go0 M7 (by simp)
  refine ⟨_,rfl,yaE (fun g => ?_) fun g => ?_⟩
  ·refine ⟨_,rfl,?_,N7⟩
   rw [decide_eq_true (by omega)]
   exact (List.any_eq_true.2 ⟨d,List.mem_of_getElem? hd,g⟩).symm
  ·refine yBr (l.length - (k + 1)) (by omega) ⟨k + 1,ye5 (by omega),by omega,fun y hy => ?_,N7,rfl⟩
   rw [ybO hd] at hy
   rcases List.mem_append.1 hy with hy | hy
   ·exact hb0 y hy
   ·simp at hy; subst hy; simpa using g
 ·have hk:k = l.length:=by omega
  subst hk
  rw [List.take_length] at hb0
  refine ⟨_,rfl,?_,M1⟩
  rw [decide_eq_false (by omega)]
  exact (List.any_eq_false.2 fun y hy => by simp [hb0 y hy]).symm
structure StLd (x:PSt):Prop where
 room:1 ≤ x.room ∧ x.room ≤ 64
 now:0 ≤ x.now ∧ x.now ≤ 1099511627776
 tops:ydJ x.topics = 0
 logs:∀ l ∈ x.logs,yrU x.room l.segs
 parts:x.logs.map (·.p) = yg3 (yqN x.topics)
 ng:x.groups.length ≤ 8
 grps:GOk x.groups
 ded:yIP x.eps x.makers
 mh:∀ m ∈ x.makers,ygP (yqN x.topics) m.part = true
 off:yIQ x.marks
 oh:∀ m ∈ x.marks,ygP (yqN x.topics) m.p = true
def ldF (x:PSt):PBr:=⟨x.room,x.now,yqN x.topics,x.eps,mkD x.makers,x.logs.map fun l => (l.p,l.segs),x.groups.map yMJ,mkO x.marks⟩
def yg4 (w:World) (x:PSt) (v:Value) (w':World):Prop :=
 ∃ (p:Option Addr) (er:Int),v = .tuple #[.pointer p,.int .i64 er] ∧ Mod [] w w' ∧ (er = 0 ↔ StLd x) ∧ (er ≠ 0 → er = 131 ∧ p = none) ∧ (er = 0 → ∃ b V,p = some ⟨b,0,none⟩ ∧ yc3 w' b V ∧ V.st = ldF x ∧ ∀ k ∈ V.foot b,w.heap.size ≤ k)
theorem yg4.bad {w w':World} {x:PSt} (M:Mod [] w w') (h:¬ StLd x):yg4 w x (.tuple #[.pointer none,.int .i64 131]) w' :=
 ⟨none,131,rfl,M,⟨fun e => (by cases e),fun e => absurd e h⟩,fun _ => ⟨rfl,rfl⟩,fun e => (by cases e)⟩
theorem ykO {α:Type} {fp:α → List Nat} {k:Nat}:∀ {l:List α} {q:α},l.Pairwise (fun a b => ydN (fp a) (fp b)) → q ∈ l → k ∈ fp q → l.find? (fun q => decide (k ∈ fp q)) = some q
 | [],_,_,h,_ => by cases h
 | x :: r,q,hp,hq,hk => by
  rcases List.mem_cons.1 hq with rfl | hq
  ·rw [List.find?_cons_of_pos (by simpa using hk)]
  ·rw [List.find?_cons_of_neg]
   ·exact ykO (List.pairwise_cons.1 hp).2 hq hk
   ·simpa using fun h => (List.pairwise_cons.1 hp).1 q hq k h hk
theorem yEJ {α:Type} {fp:α → List Nat} {k:Nat} {l:List α} (h:∀ q ∈ l,k ∉ fp q):l.find? (fun q => decide (k ∈ fp q)) = none:=List.find?_eq_none.2 fun q hq => by simpa using h q hq
def yuW (b ml mg:Nat) (Fc Fm Fo:List Nat) (LV:List (PPart × LogV)) (GV:List (ByteArray × GrpV)) (k:Nat):BLab :=
 if k = b then .br else if k = ml then .lm else if k = mg then .gm else if k ∈ Fc then .cat else if k ∈ Fm then .mk else if k ∈ Fo then .off else
 match LV.find? fun q => decide (k ∈ q.2.F) with
 | some q => .log q.1
 | none => match GV.find? fun q => decide (k ∈ q.2.F) with
  | some q => .grp q.1
  | none => .no
theorem yxH {L:TL} (h:(L.map (·.1)).Nodup):((ycR L).map (·.t)).Nodup:=by
 unfold ycR
 rw [List.map_map,show ((fun t:PTop => t.t) ∘ fun k => (⟨k,(lkp L k).getD 0⟩:PTop)) = id from rfl,List.map_id]
 exact ((ybX _).nodup_iff).2 h
theorem ypN {names:List ByteArray}:∀ {l:List PTop},(l.map (·.t)).Nodup → (yuT names l).Nodup
 | [],_ => by simp [yuT]
 | t :: r,h => by
  have h:=List.nodup_cons.1 (show (t.t :: r.map (·.t)).Nodup from h)
  have e:yuT names (t :: r) = yrH names t t.n.toNat ++ yuT names r:=by simp [yuT]
  have ht:∀ {t:PTop} {p:PPart},p ∈ yrH names t t.n.toNat → p.t = t.t:=fun {t p} hp => by
   unfold yrH at hp
   split at hp
   ·obtain ⟨j,_,rfl⟩:=List.mem_map.1 hp; rfl
   ·cases hp
  rw [e,List.nodup_append]
  refine ⟨?_,ypN h.2,fun p hp q hq e => ?_⟩
  ·unfold yrH
   split
   ·refine List.pairwise_map.2 (List.nodup_range.imp fun {a b} hab e => hab ?_)
    have:=congrArg PPart.n e
    simp only [ptN] at this; omega
   ·exact List.nodup_nil
  ·subst e
   obtain ⟨t',ht',hp'⟩:=List.mem_flatMap.1 hq
   exact h.1 (List.mem_map.2 ⟨t',ht',(ht hp').symm.trans (ht hp)⟩)
set_option maxHeartbeats 4000000 in
theorem yFX {w:World} {x:PSt} {q:StS} {lv:List LgV} {mv:List MkV} {gv:List GdV} (hI:StIn w x q lv mv gv) :
  Calls pP 32 #[stV x q] w fun e w' => ∃ v,e = .returned v ∧ yg4 w x v w':=by
 refine yIU ?_
 intro b2 f2 w7 A7
 have s7:=A7.mod.size
 have l2:=A7.lt b2 (by simp)
 refine (yqZ x.room w7).mono ?_
 rintro _ w8 ⟨_,rfl,M8,hif⟩
 have N8:=A7.mod.go0 M8 (by simp)
 by_cases g:1 ≤ x.room ∧ x.room ≤ 64
 case neg =>
  rw [if_neg g] at hif
  subst hif
  exact ⟨_,_,rfl,yaF.of0 M8,brT rfl (yg4.bad N8 fun h => g h.room)⟩
 rw [if_pos g] at hif
 obtain ⟨b,V0,rfl,h0,hst,hf0⟩:=hif
 refine ⟨_,_,rfl,yaF.of0 M8,brF rfl ?_⟩
 refine yaC (fun g1 => yg4.bad N8 fun h => by have:=h.now.1; omega) fun g1 => ?_
 refine yaC (fun g2 => yg4.bad N8 fun h => by have:=h.now.2; omega) fun g2 => ?_
 intro b12 f12 w18 A18
 have s8:=M8.size
 have l12:=A18.lt b12 (by simp)
 have N18:=N8.go0 A18.mod (by simp)
 refine (ypB (hI.keep0 N18).t).mono ?_
 rintro _ w19 ⟨_,rfl,pp,rfl,M19,hTL⟩
 have N19:=N18.go0 M19 (by simp)
 have s18:=A18.mod.size
 have s19:=M19.size
 refine ⟨_,_,rfl,yaF.of0 M19,?_⟩
 intro b22 f22
 refine yaE (fun g3 => ?_) fun g3 => ?_
 ·have g3:ydJ x.topics ≠ 0:=by simpa using g3
  intro w23 A23
  exact yg4.bad (N19.go0 A23.mod (by simp)) fun h => g3 h.tops
 have g3:ydJ x.topics = 0:=by simpa using g3
 obtain ⟨pc,Fc,rfl,hT,hFc⟩:=hTL g3
 obtain ⟨hcl,hct⟩:(yqN x.topics).length ≤ 8 ∧ ∀ q ∈ yqN x.topics,1 ≤ q.2 ∧ q.2 ≤ 8:=by
  unfold ydJ at g3
  split at g3
  ·cases g3
  split at g3
  ·rename_i h8 hb
   rw [Bool.and_eq_true] at hb
   refine ⟨by simp [yqN]; omega,fun q hq => ?_⟩
   obtain ⟨t,ht,rfl⟩:=List.mem_map.1 hq
   have:=List.all_eq_true.1 hb.1 t ht
   simp only [yj2,ye2,Bool.and_eq_true,decide_eq_true_eq] at this
   exact this.2
  ·cases g3
 have e0:V0.room = x.room ∧ V0.now = 0 ∧ V0.LP = [] ∧ V0.GP = []:=by
  refine ⟨congrArg PBr.room hst,congrArg PBr.now hst,?_,?_⟩
  ·have:=congrArg PBr.logs hst; simpa [BrV.st,br0] using this
  ·have:=congrArg PBr.groups hst; simpa [BrV.st,br0] using this
 obtain ⟨er,en,eL,eG⟩:=e0
 have hc0:=h0.cell nofun
 have hml0:=h0.logs nofun
 have hmg0:=h0.gs nofun
 rw [eL] at hml0
 rw [eG] at hmg0
 rw [er,en] at hc0
 have fb:w7.heap.size ≤ b:=hf0 b (yaD.2 (.inl rfl))
 have fml:w7.heap.size ≤ V0.ml:=hf0 _ (yaD.2 (.inr (.inl rfl)))
 have fmg:w7.heap.size ≤ V0.mg:=hf0 _ (yaD.2 (.inr (.inr (.inl rfl))))
 have lb:=yaH hc0
 have lml:=hml0.lt
 have lmg:=hmg0.lt
 have nbl:b ≠ V0.ml:=fun e => hml0.notCells (e ▸ hc0)
 have nbg:b ≠ V0.mg:=fun e => hmg0.notCells (e ▸ hc0)
 have nlg:V0.ml ≠ V0.mg:=fun e => by have h1:=h0.lm; have h2:=h0.lg; rw [e,h2] at h1; cases h1
 generalize V0.ml = ml at *
 generalize V0.mg = mg at *
 generalize V0.pc = pc0 at *
 generalize V0.pm = pm0 at *
 generalize V0.po = po0 at *
 clear hst h0 hf0 eL eG er en
 refine ya6 ?_
 intro w25 A25
 have s25:=A25.mod.size
 have l22:=A25.lt b22 (by simp)
 have K25:Mod [] w8 w25:=(A18.mod.go0 M19 (by simp)).go0 A25.mod (by simp)
 refine yeY (o:=1) (K25.keep0 hc0) (by simp [yhH]) (by simp) fun w26 hc26 M26 => ?_
 refine ⟨yaF.of M26 fun z hz _ hz' => by simp at hz hz'; omega,rfl,ya6 (yeY (o:=2) hc26 (by simp [yhH]) (by simp [ybJ]) fun w28 hc28 M28 => ⟨yaF.of M28 fun z hz _ hz' => by simp at hz hz'; omega,?_⟩)⟩
 have hc28:w28.heap[b]? = some (brC x.room x.now pc ml pm0 mg po0):=by simpa [ybJ] using hc28
 intro w33 A33 hc33
 have s26:=M26.size
 have s28:=M28.size
 have s33:=A33.mod.size
 have K33:Mod [b] w25 w33:=((M26.trans M28).trans A33.mod).less fun z hz _ => by simpa using hz
 have hb33:=A33.mod.keep0 hc28
 have N33:Mod [] w w33:=(N19.go0 A25.mod (by simp)).go0 K33 (by simp; omega)
 have hT33:ydO w33 pc (yqN x.topics) Fc:=(hT.keep0 A25.mod).keep K33 fun z hz hz' => by simp at hz; subst hz; have:=hFc _ hz'; omega
 have lFc:∀ k ∈ Fc,k < w19.heap.size:=hT.lt
 have hml33:=(hml0.keepM0 K25).keepM K33 (by simp; exact fun e => nbl e.symm)
 have hmg33:=(hmg0.keepM0 K25).keepM K33 (by simp; exact fun e => nbg e.symm)
 refine (yEI (hI.keep0 N33) hc33 hb33 hT33 hml33 hcl hct (by omega) nbl (by omega) (fun hz => by have:=hFc _ hz; omega) (fun hz => by have:=hFc _ hz; omega) fun w' M => hI.keep0 (N33.go0 M (by simp; omega))).mono ?_
 rintro _ w34 ⟨rfl,M34,t1,hc34,ht1,hLV⟩
 have s34:=M34.size
 refine ⟨rfl,yaF.of M34 fun z hz _ hz' => by simp at hz hz'; omega,_,_,hc34,?_⟩
 have N34:=N33.go0 M34 (by simp; omega)
 have hb34:=M34.keep hb33 (by simp; omega)
 refine (yBz (hI.keep0 N34) hc34 hb34 (hmg33.keepM M34 (by simp; omega)) (by omega) nbg (by omega) fun w' M => hI.keep0 (N34.go0 M (by simp; omega))).mono ?_
 rintro _ w40 ⟨rfl,M40,t2,hc40,ht2,hGV⟩
 have s40:=M40.size
 refine ⟨rfl,yaF.of M40 fun z hz _ hz' => by simp at hz hz'; omega,_,_,hc40,?_⟩
 have N40:=N34.go0 M40 (by simp; omega)
 have hI40:=hI.keep0 N40
 refine (yBu hI40.e hI40.m hI.nm hI40.d hI.km).mono ?_
 rintro _ w48 ⟨_,rfl,pm,x50,rfl,M48,hE,hDD⟩
 rw [hI.em] at hE hDD
 have s48:=M48.size
 have N48:=N40.go0 M48 (by simp)
 have hc48:=M48.keep0 hc40
 have hb40:=M40.keep hb34 (by simp; omega)
 refine ⟨_,_,rfl,yaF.of0 M48,_,_,hc48,?_⟩
 refine yaE (fun g4 => ?_) fun g4 => ?_
 ·have g4:¬ yIP x.eps x.makers:=fun h => by rw [hE.2 h] at g4; simp at g4
  have no:¬ StLd x:=fun h => g4 h.ded
  refine (yb6 hc48 true).mono ?_
  rintro _ w66 ⟨rfl,hc66,M66⟩
  rw [Bool.or_true] at hc66
  have N66:=N48.go0 M66 (by simp; omega)
  have s66:=M66.size
  refine ⟨rfl,yaF.of M66 fun z hz _ hz' => by simp at hz hz'; omega,_,_,hc66,?_⟩
  refine (ypM (hI.keep0 N66).o hI.no).mono ?_
  rintro _ w74 ⟨_,rfl,po,x76,rfl,M74,hO,hOD⟩
  have N74:=N66.go0 M74 (by simp)
  have s74:=M74.size
  have hc74:=M74.keep0 hc66
  refine ⟨_,_,rfl,yaF.of0 M74,_,_,hc74,yaE (fun g5 => ?_) fun g5 => ?_⟩
  ·refine (yb6 hc74 true).mono ?_
   rintro _ w92 ⟨rfl,hc92,M92⟩
   refine ⟨rfl,yaF.of M92 fun z hz _ hz' => by simp at hz hz'; omega,_,_,hc92,brT rfl (yg4.bad (N74.go0 M92 (by simp; omega)) no)⟩
  ·intro w111 A111 hc111 hb111
   have K111:Mod [b,b12,ml,mg] w19 w111:=((((((((A25.mod.trans K33).trans M34).trans M40).trans M48).trans M66).trans M74).trans A111.mod)).less fun z hz _ => by simp at hz ⊢; omega
   have N111:=N74.go0 A111.mod (by simp)
   refine (yzV (hT.keep K111 fun z hz hz' => by have:=hFc _ hz'; simp at hz; omega) hb111 (hI.keep0 N111).o hI.no hI.ko).mono ?_
   rintro _ w112 ⟨rfl,M112⟩
   have s112:=M112.size
   have s111:=A111.mod.size
   refine ⟨_,rfl,yaF.of0 M112,_,_,M112.keep0 hc111,_,M112.keep0 hb111,?_⟩
   refine (yb6 (M112.keep0 hc111) _).mono ?_
   rintro _ w117 ⟨rfl,hc117,M117⟩
   rw [Bool.true_or] at hc117
   exact ⟨rfl,yaF.of M117 fun z hz _ hz' => by simp at hz hz'; omega,_,_,hc117,_,M117.keep (M112.keep0 hb111) (by simp; omega),brT rfl (yg4.bad ((N111.go0 M112 (by simp)).go0 M117 (by simp; omega)) no)⟩
 have g4:x50 = 0:=by simpa using g4
 subst g4
 have hded:=hE.1 rfl
 obtain ⟨pm1,Fm,rfl,hM,hFm⟩:=hDD rfl
 intro w141 A141 hc141 hb141
 have s141:=A141.mod.size
 have N141:=N48.go0 A141.mod (by simp)
 have K141:Mod [b,b12,ml,mg] w19 w141:=(((((A25.mod.trans K33).trans M34).trans M40).trans M48).trans A141.mod).less fun z hz _ => by simp at hz ⊢; omega
 have hT141:ydO w141 pc (yqN x.topics) Fc:=hT.keep K141 fun z hz hz' => by have:=hFc _ hz'; simp at hz; omega
 refine (yFW hT141 hb141 (hI.keep0 N141).m hI.nm fun p hp => (hI.km p hp).1).mono ?_
 rintro _ w142 ⟨rfl,M142⟩
 have s142:=M142.size
 have N142:=N141.go0 M142 (by simp)
 refine ⟨_,rfl,yaF.of0 M142,_,_,M142.keep0 hc141,_,M142.keep0 hb141,?_⟩
 refine (yb6 (M142.keep0 hc141) _).mono ?_
 rintro _ w147 ⟨rfl,hc147,M147⟩
 have s147:=M147.size
 have N147:=N142.go0 M147 (by simp; omega)
 have hb147:=M147.keep (M142.keep0 hb141) (by simp; omega)
 refine ⟨rfl,yaF.of M147 fun z hz _ hz' => by simp at hz hz'; omega,_,_,hc147,_,hb147,?_⟩
 refine (ypM (hI.keep0 N147).o hI.no).mono ?_
 rintro _ w157 ⟨_,rfl,po,x159,rfl,M157,hO,hOD⟩
 have N157:=N147.go0 M157 (by simp)
 have s157:=M157.size
 have hc157:=M157.keep0 hc147
 have hb157:=M157.keep0 hb147
 refine ⟨_,_,rfl,yaF.of0 M157,_,_,hc157,_,hb157,yaE (fun g5 => ?_) fun g5 => ?_⟩
 ·have g5:¬ yIQ x.marks:=fun h => by rw [hO.2 h] at g5; simp at g5
  refine (yb6 hc157 true).mono ?_
  rintro _ w176 ⟨rfl,hc176,M176⟩
  rw [Bool.or_true] at hc176
  exact ⟨rfl,yaF.of M176 fun z hz _ hz' => by simp at hz hz'; omega,_,_,hc176,_,M176.keep hb157 (by simp; omega),brT rfl (yg4.bad (N157.go0 M176 (by simp; omega)) fun h => g5 h.off)⟩
 have g5:x159 = 0:=by simpa using g5
 subst g5
 have hoff:=hO.1 rfl
 obtain ⟨po1,Fo,rfl,hOf,hFo⟩:=hOD rfl
 have K157:Mod [b12] w141 w157:=((M142.trans M147).trans M157).less fun z hz _ => by simpa using hz
 refine (yzV (hT141.keep K157 fun z hz hz' => by have:=hFc _ hz'; simp at hz; omega) hb157 (hI.keep0 N157).o hI.no hI.ko).mono ?_
 rintro _ w200 ⟨rfl,M200⟩
 have s200:=M200.size
 refine ⟨_,rfl,yaF.of0 M200,_,_,M200.keep0 hc157,_,M200.keep0 hb157,?_⟩
 refine (yb6 (M200.keep0 hc157) _).mono ?_
 rintro _ w205 ⟨rfl,hc205,M205⟩
 have s205:=M205.size
 have N205:=(N157.go0 M200 (by simp)).go0 M205 (by simp; omega)
 have hb205:=M205.keep (M200.keep0 hb157) (by simp; omega)
 have K205:Mod [b12] w141 w205:=((K157.trans M200).trans M205).less fun z hz _ => by simpa using hz
 refine ⟨rfl,yaF.of M205 fun z hz _ hz' => by simp at hz hz'; omega,_,_,hc205,_,hb205,yaE (fun g6 => ?_) fun g6 => ?_⟩
 ·refine yg4.bad N205 fun h => ?_
  have e1:t2 = false:=ht2.2 ⟨ht1.2 ⟨rfl,h.logs,h.parts⟩,h.ng,h.grps⟩
  have e2:(mv.any fun q => !ygP (yqN x.topics) q.x.part) = false:=List.any_eq_false.2 fun q hq => by
   have:=h.mh q.x (by rw [← hI.em]; exact List.mem_map.2 ⟨q,hq,rfl⟩)
   simp [this]
  have e3:(x.marks.any fun q => !ygP (yqN x.topics) q.p) = false:=List.any_eq_false.2 fun q hq => by simp [h.oh q hq]
  rw [e1,e2,e3] at g6; cases g6
 obtain ⟨g7,g8⟩:=Bool.or_eq_false_iff.1 g6
 obtain ⟨g9,g10⟩:=Bool.or_eq_false_iff.1 g7
 obtain ⟨ht1',hng,hgok⟩:=ht2.1 g9
 obtain ⟨_,hlogs,hparts⟩:=ht1.1 ht1'
 have hld:StLd x:=⟨g,⟨by omega,by omega⟩,g3,hlogs,hparts,hng,hgok,hded,fun m hm => by
  rw [← hI.em] at hm
  obtain ⟨p,hp,rfl⟩:=List.mem_map.1 hm
  have:=List.any_eq_false.1 g10 p hp
  simpa using this,hoff,fun m hm => by
  have:=List.any_eq_false.1 g8 m hm
  simpa using this⟩
 obtain ⟨LV,hLV⟩:=hLV ht1'
 obtain ⟨GV,hGV⟩:=hGV g9
 have K40:Mod [b12] w40 w205:=((M48.trans A141.mod).trans K205).less fun z hz _ => by simpa using hz
 have hb205':=K40.keep hb40 (by simp; omega)
 refine ya6 (yeY (o:=4) hb205' (by simp [yhH]) (by simp) fun w220 hc220 M220 => ⟨yaF.of M220 fun z hz _ hz' => by simp at hz hz'; omega,_,_,M220.keep hc205 (by simp; omega),_,M220.keep hb205 (by simp; omega),ya6 (yeY (o:=6) hc220 (by simp [yhH]) (by simp [ybJ]) fun w225 hc225 M225 => ?_)⟩)
 have hcf:w225.heap[b]? = some (brC x.room x.now pc ml pm1 mg po1):=by simpa [ybJ] using hc225
 have s220:=M220.size
 have s225:=M225.size
 have Kf:Mod [b,b12] w40 w225:=((K40.trans M220).trans M225).less fun z hz _ => by simp at hz ⊢; omega
 have Ke:Mod [b] w205 w225:=(M220.trans M225).less fun z hz _ => by simpa using hz
 refine ⟨yaF.of M225 fun z hz _ hz' => by simp at hz hz'; omega,_,_,M225.keep (M220.keep hc205 (by simp; omega)) (by simp; omega),_,M225.keep (M220.keep hb205 (by simp; omega)) (by simp; omega),?_⟩
 have hlab:∀ k,k ∈ [b,ml,mg] → k < w8.heap.size:=fun k hk => by simp at hk; omega
 have hL34:LogsIn w34 w33.heap.size ml x.room x.logs LV:=hLV
 have hLf:LogsIn w225 w33.heap.size ml x.room x.logs LV:=(hLV.keep M40 fun z hz => by simp at hz; omega).keep Kf fun z hz => by simp at hz; omega
 have hGf:GrpsIn w225 w34.heap.size mg x.groups GV:=hGV.keep Kf fun z hz => by simp at hz; omega
 have hnd:(LV.map (·.1)).Nodup:=by
  have e:LV.map (·.1) = x.logs.map (·.p):=by rw [← hLV.e,List.map_map]; rfl
  rw [e,hparts]
  obtain ⟨m,_,hm,_⟩:=hT
  exact ypN (yxH hm.nodup)
 have hpa:yjE LV = LV:=by
  have:=yuV (L:=LV) (M:=[]) (by simpa using hnd)
  simpa [yjE] using this
 have hTf:ydO w225 pc (yqN x.topics) Fc:=(hT141.keep K205 fun z hz hz' => by have:=hFc _ hz'; have:=lFc _ hz'; simp at hz; omega).keep Ke fun z hz hz' => by have:=hFc _ hz'; simp at hz; omega
 have K48:Mod [b,b12] w48 w225:=((A141.mod.trans K205).trans Ke).less fun z hz _ => by simp at hz ⊢; omega
 have hMf:yeO w225 pm1 x.eps (mkD x.makers) Fm:=hM.keep K48 fun z hz hz' => by have:=hFm _ hz'; simp at hz; omega
 have K57:Mod [b,b12] w157 w225:=((M200.trans M205).trans Ke).less fun z hz _ => by simp at hz ⊢; omega
 have hOff:yf5 w225 po1 (mkO x.marks) Fo:=hOf.keep K57 fun z hz hz' => by have:=hFo _ hz'; simp at hz; omega
 have lFm:=hM.lt
 have lFo:=hOf.lt
 have lLV:∀ q ∈ LV,∀ k ∈ q.2.F,w33.heap.size ≤ k ∧ k < w34.heap.size:=fun q hq k hk => ⟨(hLV.a q hq).2 k hk,(hLV.a q hq).1.lt k hk⟩
 have lGV:∀ q ∈ GV,∀ k ∈ q.2.F,w34.heap.size ≤ k ∧ k < w40.heap.size:=fun q hq k hk => ⟨(hGV.a q hq).2 k hk,(hGV.a q hq).1.lt k hk⟩
 have nin:∀ {F:List Nat} {k lo:Nat},(∀ z ∈ F,lo ≤ z) → k < lo → k ∉ F:=fun h hk hz => by have:=h _ hz; omega
 have nin':∀ {F:List Nat} {k hi:Nat},(∀ z ∈ F,z < hi) → hi ≤ k → k ∉ F:=fun h hk hz => by have:=h _ hz; omega
 refine ⟨some ⟨b,0,none⟩,0,rfl,N205.go0 Ke (by simp; omega),⟨fun _ => hld,fun _ => rfl⟩,fun h => absurd rfl h,fun _ => ⟨b,⟨x.room,x.now,yqN x.topics,x.eps,mkD x.makers,mkO x.marks,LV,GV,pc,ml,pm1,mg,po1,Fc,Fm,Fo,yuW b ml mg Fc Fm Fo LV GV⟩,rfl,?_,?_,fun k hk => ?_⟩⟩
 ·exact {
   cell:=fun _ => hcf
   lb:=by show yuW b ml mg Fc Fm Fo LV GV b = _; rw [yuW,if_pos rfl]
   cat:=fun _ => hTf
   lc:=fun k hk => by
    have h1:=hFc k hk
    show yuW b ml mg Fc Fm Fo LV GV k = _
    rw [yuW,if_neg (by omega),if_neg (by omega),if_neg (by omega),if_pos hk]
   logs:=fun _ => by have:=hLf.m; rw [hpa] at this; exact this
   lm:=by
    show yuW b ml mg Fc Fm Fo LV GV ml = _
    rw [yuW,if_neg (by omega),if_pos rfl]
   log:=fun q hq _ => (hLf.a q hq).1
   ll:=fun q hq k hk => by
    have h1:=lLV q hq k hk
    show yuW b ml mg Fc Fm Fo LV GV k = _
    rw [yuW,if_neg (by omega),if_neg (by omega),if_neg (by omega),if_neg (nin' lFc (by omega)),if_neg (nin hFm (by omega)),if_neg (nin hFo (by omega)),ykO (fp:=fun q:PPart × LogV => q.2.F) hLV.p hq hk]
   ded:=fun _ => hMf
   lk:=fun k hk => by
    have h1:=hFm k hk
    show yuW b ml mg Fc Fm Fo LV GV k = _
    rw [yuW,if_neg (by omega),if_neg (by omega),if_neg (by omega),if_neg (nin' lFc (by omega)),if_pos hk]
   gs:=fun _ => hGf.m
   lg:=by
    show yuW b ml mg Fc Fm Fo LV GV mg = _
    rw [yuW,if_neg (by omega),if_neg (by omega),if_pos rfl]
   grp:=fun q hq _ => (hGf.a q hq).1
   lgr:=fun q hq k hk => by
    have h1:=lGV q hq k hk
    show yuW b ml mg Fc Fm Fo LV GV k = _
    rw [yuW,if_neg (by omega),if_neg (by omega),if_neg (by omega),if_neg (nin' lFc (by omega)),if_neg (nin hFm (by omega)),if_neg (nin hFo (by omega)),yEJ (fp:=fun q:PPart × LogV => q.2.F) fun q' hq' hk' => by have:=lLV q' hq' k hk'; omega]
    simp only []
    rw [ykO (fp:=fun q:ByteArray × GrpV => q.2.F) hGV.p hq hk]
   off:=fun _ => hOff
   lo:=fun k hk => by
    have h1:=hFo k hk
    show yuW b ml mg Fc Fm Fo LV GV k = _
    rw [yuW,if_neg (by omega),if_neg (by omega),if_neg (by omega),if_neg (nin' lFc (by omega)),if_neg (nin' lFm (by omega)),if_pos hk]
   low:=⟨by show b < _; omega,by show ml < _; omega,by show mg < _; omega,fun k hk => by have:=lFc k hk; omega,fun k hk => by have:=lFm k hk; omega,fun k hk => by have:=lFo k hk; omega,fun q hq k hk => by have:=lLV q hq k hk; omega,fun q hq k hk => by have:=lGV q hq k hk; omega⟩ }
 ·have e1:LV.map (fun q => (q.1,q.2.L)) = x.logs.map fun l => (l.p,l.segs):=by rw [← hLV.e,List.map_map]; rfl
  simp only [BrV.st,ldF,e1,hGV.e]
 ·rcases yaD.1 hk with rfl | rfl | rfl | hk | hk | hk | ⟨q,hq,hk⟩ | ⟨q,hq,hk⟩
  ·omega
  ·show w.heap.size ≤ _; omega
  ·show w.heap.size ≤ _; omega
  ·have:=hFc k hk; omega
  ·have:=hFm k hk; omega
  ·have:=hFo k hk; omega
  ·have:=lLV q hq k hk; omega
  ·have:=lGV q hq k hk; omega
end Go.Proofs.YteldhjiiocmicaaGreat
namespace Go.Proofs.YteldhjiiocmicaaGreat
open Go Go.RowKit
set_option linter.all false
section
set_option maxRecDepth 100000
variable {R:VWP} {w w0:World} {m:Nat} {i0 i1 i2 i3 i4 i5 i6 i7 i8 i9 j0 j1 j2 j3 j4 j5 j6 j7 j8 j9 k0 k1 k2 k3 k4 k5 k6 k7 k8 k9 l0 l1 l2 l3 l4 l5 l6 l7 l8 l9:Int} {s0 s1 s2 s3 s4 s5 s6 s7 s8 s9 t0 t1 t2 t3 t4 t5 t6 t7 t8 t9:BA} {n0 n1 n2 n3 n4 n5 n6 n7 n8 n9 o0 o1 o2 o3 o4 o5 o6 o7 o8 o9 p0 p1 p2 p3 p4 p5 p6 p7 p8 p9:Nat} {q0 q1 q2 q3 q4 q5 q6 q7 q8 q9 r0 r1 r2 r3 r4 r5 r6 r7 r8 r9:OA} {B0 B1 B2 B3 B4 B5 B6 B7 B8 B9:Bool} {M0 M1 M2 M3:Option Nat} {V0 V1 V2 V3 V4 V5:Value} {A0 A1 A2:Addr}
def yr6:LA:=⟨[0,0,1,0,1,1],[3,8,9,10],[(8,0,0),(9,1,0)],2,[]⟩
def yr7:List LA:=[yr6]
abbrev yHl:=dnF pP yr7 (code Tryz.f8)
abbrev yM9:=yaR pP yr7 (code Tryz.f8)
abbrev yHm (p:List Nat) (K:List Kh) (R:VWP):=yaR pP yr7 (code Tryz.f8) p K (ybE pP Tryz.f8 [] R)
def ykP (a7:Int) (bm0 bm1:Nat) (a3 a4 a5:Int):Int × (Option Addr) × Nat × Nat → List Value × List TB:=fun (a6,a0,a2,a1) => ([.int .i64 a7,(.pointer (some ⟨bm0,0,none⟩)),(.pointer (some ⟨bm1,0,none⟩)),.int .i64 a6],[⟨bm0,39,[.int .i64 0,.string ByteArray.empty,.int .i64 0,.int .i64 0,.int .i64 0,.int .i64 0,.int .i64 0,.int .i64 0,.slice none 0 0,.string ByteArray.empty,.string ByteArray.empty,.int .i64 0,.bool false,.slice none 0 0],false⟩,⟨bm1,39,[.int .i64 2,(.string (⟨#[116]⟩:BA)),.int .i64 0,.int .i64 0,.int .i64 0,.int .i64 a3,.int .i64 a4,.int .i64 a5,.slice a0 a2 a1,.string ByteArray.empty,.string ByteArray.empty,.int .i64 0,.bool false,.slice none 0 0],false⟩])
abbrev yEK (a3:Int) (bm0 bm1:Nat) (a0 a1 a2:Int) (I:Nat → Int → Option Addr → Nat → Nat → World → Prop) (m:Nat):Kh:=KG (ykP a3 bm0 bm1 a0 a1 a2) (U4 I) m
theorem yBA {I:Nat → Int → Option Addr → Nat → Nat → World → Prop} (m':Nat) (h1:m' < m) (h2:I m' i4 q0 n2 n3 w):KS (yEK i0 n0 n1 i1 i2 i3 I m) (ykP i0 n0 n1 i1 i2 i3 (i4,q0,n2,n3)) w:=⟨m',h1,_,rfl,rfl,h2⟩
theorem yBB (I:Nat → Int → Option Addr → Nat → Nat → World → Prop) (m0:Nat) (h0:I m0 i4 q0 n2 n3 w0)
 (hr:∀ m a6 a0 a2 a1 w,I m a6 a0 a2 a1 w →
 brB (decide (a6 < i0)) (
 al w (.cells (Z8 false ByteArray.empty false (⟨#[118]⟩:BA)) 65) fun b7 b2 =>
 ybC pP (Builtin.append_ #[34,34] 34 #[.slice a0 a2 a1,(.slice (some ⟨b7,0,none⟩) 1 1)]) b2 fun b6 b9 b8 b3 => yaF [n0,n1] b2 b3 ∧
 ∀ b4,Adv [n1] [] b3 b4 →
 KS (yEK i0 n0 n1 i1 i2 i3 I m) (ykP i0 n0 n1 i1 i2 i3 ((IntKind.wrap .i64 (a6 + 1)),b6,b9,b8)) b4)
 (
 ∀ b5,Adv [n0] [] w b5 →
 R (.agg (Z0 2 (⟨#[116]⟩:BA) 0 0 0 i1 i2 i3 a0 a2 a1 ByteArray.empty ByteArray.empty 0 false none 0 0)) b5)) :
 yaO yr6 (yHl 396 [0,0,1,0,1,1]) (yHm [1,1,0,1,0] [] R) (ykP i0 n0 n1 i1 i2 i3 (i4,q0,n2,n3)) w0 :=
 lrule (ykP i0 n0 n1 i1 i2 i3) (U4 I) h0 (by rintro m ⟨a6,a0,a2,a1⟩ w h; exact ⟨by kernel_rfl,by kernel_rfl,fun js => Eq.mpr (by kernel_rfl) (hr m a6 a0 a2 a1 w h)⟩)
theorem yIX (h :
 ∀ b2,w.heap.size ≤ b2 →
 ∀ b4,w.heap.size ≤ b4 →
 ∀ a4,Adv [] [b4,b2] w a4 →
 yaO yr6 (yHl 396 [0,0,1,0,1,1]) (yHm [1,1,0,1,0] [] R) (ykP i3 b2 b4 i0 i1 i2 (0,none,0,0)) a4) :
 CR pP 8 (Z15 i0 i1 i2 i3) w R :=
 yaB Tryz.wide_mixed (an:=yr7) Tryz.func8 rfl rfl (by kernel_rfl) rfl (Eq.mpr (by kernel_rfl) h)
theorem yIY (h :
 ∀ b2,w.heap.size ≤ b2 →
 ∀ w3,Adv [] [b2] w w3 →
 R (.agg (Z0 3 (⟨#[116]⟩:BA) 0 i1 i0 0 0 0 none 0 0 ByteArray.empty ByteArray.empty 0 false none 0 0)) w3) :
 CR pP 9 #[.int .i64 i0,.int .i64 i1] w R :=
 yaB Tryz.wide_mixed (an:=[]) Tryz.func9 rfl rfl (by kernel_rfl) rfl (Eq.mpr (by kernel_rfl) h)
theorem yIZ (h :
 ∀ b2,w.heap.size ≤ b2 →
 ∀ w3,Adv [] [b2] w w3 →
 R (.agg (Z0 0 (⟨#[116]⟩:BA) 0 i0 0 0 0 0 none 0 0 ByteArray.empty ByteArray.empty 0 false none 0 0)) w3) :
 CR pP 7 #[.int .i64 i0] w R :=
 yaB Tryz.wide_mixed (an:=[]) Tryz.func7 rfl rfl (by kernel_rfl) rfl (Eq.mpr (by kernel_rfl) h)
theorem yI0 (h :
 ∀ b2,w.heap.size ≤ b2 →
 ∀ w6,Adv [] [b2] w w6 →
 al w6 (.cells #[(.string (⟨#[116]⟩:BA))] 9) fun b7 w8 =>
 ∀ w9,Adv [b2] [] w8 w9 →
 R (.agg (Z0 6 ByteArray.empty 0 5 0 0 0 0 none 0 0 (⟨#[103]⟩:BA) s0 0 false (some ⟨b7,0,none⟩) 1 1)) w9) :
 CR pP 11 #[.string s0] w R :=
 yaB Tryz.wide_mixed (an:=[]) Tryz.func11 rfl rfl (by kernel_rfl) rfl (Eq.mpr (by kernel_rfl) h)
def yr8:LA:=⟨[0,0,1,0,1,1,1,1,1,1,1,1,1,1],[0,1,5,7,8,9,10,11],[(7,0,0),(8,1,0),(9,2,0)],3,[]⟩
def yhG:LA:=⟨[1,1,1,1,0,0,1,0,0,1,0,1,1,1,1,1,1,1,1,1,1],[0,1,5,7,8,9,10,11,12,13],[(7,0,0),(8,1,0),(9,2,0),(12,3,0)],4,[]⟩
def yr9:List LA:=[yr8,yhG]
abbrev ynR:=dnF pP yr9 (code Tryz.f4)
abbrev yNa:=yaR pP yr9 (code Tryz.f4)
abbrev ynS (p:List Nat) (K:List Kh) (R:VWP):=yaR pP yr9 (code Tryz.f4) p K (ybE pP Tryz.f4 [] R)
def ykQ (b4:OA) (b6 b5:Nat) (b8:Int) (b7:OA) (bm0:Nat) (a7 a8 a9 b0:Int) (a1:OA) (a5 a3:Nat) (a2:OA) (a6 a4 bm1 bm2:Nat) (a0:Int):Int × Int × Int → List Value × List TB:=fun (b2,b3,b1) => ([.slice b4 b6 b5,.int .i64 b8,.pointer b7,(.pointer (some ⟨bm0,0,none⟩)),(.pointer (some ⟨bm1,0,none⟩)),(.pointer (some ⟨bm2,0,none⟩)),.int .i64 b2,.int .i64 b3],[⟨bm0,30,[.int .i64 a7,.int .i64 a8,.int .i64 a9,.int .i64 b0,.slice a1 a5 a3,.slice a2 a6 a4],false⟩,⟨bm1,39,[.int .i64 11,(.string (⟨#[116]⟩:BA)),.int .i64 0,.int .i64 0,.int .i64 0,.int .i64 0,.int .i64 0,.int .i64 0,.slice none 0 0,(.string (⟨#[103]⟩:BA)),.string ByteArray.empty,.int .i64 0,.bool false,.slice none 0 0],false⟩,⟨bm2,39,[.int .i64 10,(.string (⟨#[116]⟩:BA)),.int .i64 0,.int .i64 0,.int .i64 b1,.int .i64 0,.int .i64 0,.int .i64 0,.slice none 0 0,(.string (⟨#[103]⟩:BA)),(.string (⟨#[109]⟩:BA)),.int .i64 a0,.bool false,.slice none 0 0],false⟩])
def ykR:(Option Addr) × Nat × Nat × Int × (Option Addr) × Int × Int × Int × Nat × Int × Int × Int × Int × (Option Addr) × Nat × Nat × (Option Addr) × Nat × Nat × Nat × Nat × Int × Int × Nat × Int × Int × Int × Int × (Option Addr) × Nat × Nat × (Option Addr) × Nat × Nat → List Value × List TB:=fun (c5,c7,c6,c9,c8,c2,c3,c4,bm0,b3,b4,b5,b6,a1,a9,a5,a2,b0,a6,bm1,bm2,b7,a0,bm3,b8,b9,c0,c1,a3,b1,a7,a4,b2,a8) => ([.slice c5 c7 c6,.int .i64 c9,.pointer c8,(.pointer (some ⟨bm0,0,none⟩)),(.pointer (some ⟨bm1,0,none⟩)),(.pointer (some ⟨bm2,0,none⟩)),.int .i64 c2,.int .i64 c3,(.pointer (some ⟨bm3,0,none⟩)),.int .i64 c4],[⟨bm0,30,[.int .i64 b3,.int .i64 b4,.int .i64 b5,.int .i64 b6,.slice a1 a9 a5,.slice a2 b0 a6],false⟩,⟨bm1,39,[.int .i64 11,(.string (⟨#[116]⟩:BA)),.int .i64 0,.int .i64 0,.int .i64 0,.int .i64 0,.int .i64 0,.int .i64 0,.slice none 0 0,(.string (⟨#[103]⟩:BA)),.string ByteArray.empty,.int .i64 0,.bool false,.slice none 0 0],false⟩,⟨bm2,39,[.int .i64 10,(.string (⟨#[116]⟩:BA)),.int .i64 0,.int .i64 0,.int .i64 b7,.int .i64 0,.int .i64 0,.int .i64 0,.slice none 0 0,(.string (⟨#[103]⟩:BA)),(.string (⟨#[109]⟩:BA)),.int .i64 a0,.bool false,.slice none 0 0],false⟩,⟨bm3,30,[.int .i64 b8,.int .i64 b9,.int .i64 c0,.int .i64 c1,.slice a3 b1 a7,.slice a4 b2 a8],false⟩])
abbrev ysA (b1:OA) (b3 b2:Nat) (b5:Int) (b4:OA) (bm0:Nat) (a7 a8 a9 b0:Int) (a1:OA) (a5 a3:Nat) (a2:OA) (a6 a4 bm1 bm2:Nat) (a0:Int) (I:Nat → Int → Int → Int → World → Prop) (m:Nat):Kh:=KG (ykQ b1 b3 b2 b5 b4 bm0 a7 a8 a9 b0 a1 a5 a3 a2 a6 a4 bm1 bm2 a0) (U3 I) m
theorem yBC {I:Nat → Int → Int → Int → World → Prop} (m':Nat) (h1:m' < m) (h2:I m' i6 i7 i8 w):KS (ysA q0 n0 n1 i0 q1 n2 i1 i2 i3 i4 q2 n3 n4 q3 n5 n6 n7 n8 i5 I m) (ykQ q0 n0 n1 i0 q1 n2 i1 i2 i3 i4 q2 n3 n4 q3 n5 n6 n7 n8 i5 (i6,i7,i8)) w:=⟨m',h1,_,rfl,rfl,h2⟩
theorem yBD (I:Nat → Int → Int → Int → World → Prop) (m0:Nat) (h0:I m0 i6 i7 i8 w0)
 (hr:∀ m b7 b1 c1 w,I m b7 b1 c1 w →
 brB (decide (b1 < (n0:Int))) (
 brB (decide (b1 < 20)) (
 ixA q0 n0 b1 1 fun e3 =>
 ya1 .i64 w e3 fun b4 =>
 ∀ d3,Adv [n8] [] w d3 →
 Calls pP 6 #[.pointer q1,(.agg (Z0 10 (⟨#[116]⟩:BA) 0 0 (ysD .i64 b4 15) 0 0 0 none 0 0 (⟨#[103]⟩:BA) (⟨#[109]⟩:BA) i5 false none 0 0))] d3 fun e c0 => ∃ c9 d0 d1 d2 c3 c7 c5 c4 c8 c6,e = .returned (.agg (Z1 c9 d0 d1 d2 c3 c7 c5 c4 c8 c6)) ∧ yaF [n2,n7,n8] d3 c0 ∧
 ∀ b3,c0.heap.size ≤ b3 →
 brB (decide ((ysD .i64 b4 15) > 10)) (
 ∀ d8,Adv [] [b3] c0 d8 →
 yf2 yhG ((ynR 383 [1,1,1,1,0,0,1,0,0,1,0,1,1,1,1,1,1,1,1,1,1]) (ynS [1,1,1,1,1,1,1,1,1,1,0,1,0,0,1,0,0,1,1,1] [(ysA q0 n0 n1 i0 q1 n2 i1 i2 i3 i4 q2 n3 n4 q3 n5 n6 n7 n8 i5 I m)] R)) (ykR (q0,n0,n1,i0,q1,b7,b1,61,n2,i1,i2,i3,i4,q2,n3,n4,q3,n5,n6,n7,n8,(ysD .i64 b4 15),i5,b3,c9,d0,d1,d2,c3,c7,c5,c4,c8,c6)) d8)
 (
 brB (decide ((ysD .i64 b4 15) < b7)) (
 ∀ d9,Adv [] [b3] c0 d9 →
 yf2 yhG ((ynR 383 [1,1,1,1,0,0,1,0,0,1,0,1,1,1,1,1,1,1,1,1,1]) (ynS [1,1,1,1,1,1,1,1,1,1,0,1,0,0,1,0,0,1,1,1] [(ysA q0 n0 n1 i0 q1 n2 i1 i2 i3 i4 q2 n3 n4 q3 n5 n6 n7 n8 i5 I m)] R)) (ykR (q0,n0,n1,i0,q1,b7,b1,120,n2,i1,i2,i3,i4,q2,n3,n4,q3,n5,n6,n7,n8,(ysD .i64 b4 15),i5,b3,c9,d0,d1,d2,c3,c7,c5,c4,c8,c6)) d9)
 (
 ∀ e0,Adv [] [b3] c0 e0 →
 yf2 yhG ((ynR 383 [1,1,1,1,0,0,1,0,0,1,0,1,1,1,1,1,1,1,1,1,1]) (ynS [1,1,1,1,1,1,1,1,1,1,0,1,0,0,1,0,0,1,1,1] [(ysA q0 n0 n1 i0 q1 n2 i1 i2 i3 i4 q2 n3 n4 q3 n5 n6 n7 n8 i5 I m)] R)) (ykR (q0,n0,n1,i0,q1,(ysD .i64 b4 15),b1,0,n2,i1,i2,i3,i4,q2,n3,n4,q3,n5,n6,n7,n8,(ysD .i64 b4 15),i5,b3,c9,d0,d1,d2,c3,c7,c5,c4,c8,c6)) e0)))
 (
 Calls pP 10 #[] w fun e e1 => ∃ d6,e = .returned (.bool d6) ∧ yaF [n2,n7,n8] w e1 ∧
 R (.bool d6) e1))
 (
 Calls pP 10 #[] w fun e e2 => ∃ d7,e = .returned (.bool d7) ∧ yaF [n2,n7,n8] w e2 ∧
 R (.bool d7) e2)) :
 yaO yr8 (ynR 388 [0,0,1,0,1,1,1,1,1,1,1,1,1,1]) (ynS [1,1,1,1,1,1,1,1,1,1,0,1,0] [] R) (ykQ q0 n0 n1 i0 q1 n2 i1 i2 i3 i4 q2 n3 n4 q3 n5 n6 n7 n8 i5 (i6,i7,i8)) w0 :=
 lrule (ykQ q0 n0 n1 i0 q1 n2 i1 i2 i3 i4 q2 n3 n4 q3 n5 n6 n7 n8 i5) (U3 I) h0 (by rintro m ⟨b7,b1,c1⟩ w h; exact ⟨by kernel_rfl,by kernel_rfl,fun js => Eq.mpr (by kernel_rfl) (hr m b7 b1 c1 w h)⟩)
def yEL (g4:OA) (h0 g7:Nat) (d5:Int) (b4:OA) (a6 g2 g3:Int) (bm0:Nat) (d1 d2 d3 a7:Int) (b5:OA) (b9 b7:Nat) (b6:OA) (c0 b8 bm1 bm2:Nat) (a3 a4:Int) (bm3:Nat) (d4 h3 h4 h5:Int) (g5:OA) (h1 g8:Nat) (g6:OA) (h2 g9:Nat) (K1:Kh) (R:VWP) (w:World):Prop :=
 ∀ a2,w.heap.size ≤ a2 →
 ∀ a9,Adv [] [a2] w a9 →
 Calls pP 6 #[.pointer b4,(.agg (Z0 10 (⟨#[116]⟩:BA) 0 0 a3 0 0 0 none 0 0 (⟨#[103]⟩:BA) (⟨#[110]⟩:BA) a4 false none 0 0))] a9 fun e b0 => ∃ c7 f4 f5 f6 d6 e8 e2 d7 e9 e3,e = .returned (.agg (Z1 c7 f4 f5 f6 d6 e8 e2 d7 e9 e3)) ∧ yaF [bm0,bm1,bm2,bm3,a2] a9 b0 ∧
 ∀ a5,b0.heap.size ≤ a5 →
 ∀ b1,Adv [a2] [a5] b0 b1 →
 Calls pP 6 #[.pointer b4,(.agg (Z0 10 (⟨#[116]⟩:BA) 0 0 a3 0 0 0 none 0 0 (⟨#[103]⟩:BA) (⟨#[110]⟩:BA) (IntKind.wrap .i64 ((IntKind.wrap .i64 (a7 + 1)) + (ysD .i64 d5 7))) false none 0 0))] b1 fun e b2 => ∃ c8 f7 f8 f9 d8 f0 e4 d9 f1 e5,e = .returned (.agg (Z1 c8 f7 f8 f9 d8 f0 e4 d9 f1 e5)) ∧ yaF [bm0,bm1,bm2,bm3,a2,a5] b1 b2 ∧
 ∀ a8,b2.heap.size ≤ a8 →
 ∀ b3,Adv [] [a8] b2 b3 →
 Calls pP 6 #[.pointer b4,(.agg (Z0 11 (⟨#[116]⟩:BA) 0 0 0 0 0 0 none 0 0 (⟨#[103]⟩:BA) ByteArray.empty 0 false none 0 0))] b3 fun e a0 => ∃ g0 c9 d0 g1 e0 f2 e6 e1 f3 e7,e = .returned (.agg (Z1 g0 c9 d0 g1 e0 f2 e6 e1 f3 e7)) ∧ yaF [bm0,bm1,bm2,bm3,a2,a5,a8] b3 a0 ∧
 ∀ a1,a0.heap.size ≤ a1 →
 brB (d4 != g3) (
 ∀ c1,Adv [] [a1] a0 c1 →
 R (.bool false) c1)
 (
 brB (c7 != 130) (
 ∀ c2,Adv [] [a1] a0 c2 →
 R (.bool false) c2)
 (
 brB (c8 != 111) (
 ∀ c3,Adv [] [a1] a0 c3 →
 R (.bool false) c3)
 (
 brB (c9 != (if a6 > 0 then a6 else 0)) (
 ∀ c4,Adv [] [a1] a0 c4 →
 R (.bool false) c4)
 (
 brB (!((d0 == 1) == (decide (a6 ≥ 0)))) (
 ∀ c5,Adv [] [a1] a0 c5 →
 R (.bool false) c5)
 (
 ∀ c6,Adv [] [a1] a0 c6 →
 KS K1 (ykQ g4 h0 g7 d5 b4 bm0 d1 d2 d3 a7 b5 b9 b7 b6 c0 b8 bm1 bm2 a4 (a6,(IntKind.wrap .i64 (g2 + 1)),a3)) c6)))))
theorem yEM {K1:Kh} (J:Option Addr → Nat → Nat → Int → Option Addr → Int → Int → Int → Nat → Int → Int → Int → Int → Option Addr → Nat → Nat → Option Addr → Nat → Nat → Nat → Nat → Int → Int → Nat → Int → Int → Int → Int → Option Addr → Nat → Nat → Option Addr → Nat → Nat → World → Prop) (h0:J q0 n0 n1 i0 q1 i1 i2 i3 n2 i4 i5 i6 i7 q2 n3 n4 q3 n5 n6 n7 n8 i8 i9 n9 j0 j1 j2 j3 q4 o0 o1 q5 o2 o3 w0)
 (hr:∀ e7 e9 e8 f1 f0 i0 e5 e6 bm0 b4 b5 b6 b7 a2 b0 a6 a3 b1 a7 bm1 bm2 b8 a0 bm3 b9 c0 c1 c2 a4 b2 a8 a5 b3 a9 w,J e7 e9 e8 f1 f0 i0 e5 e6 bm0 b4 b5 b6 b7 a2 b0 a6 a3 b1 a7 bm1 bm2 b8 a0 bm3 b9 c0 c1 c2 a4 b2 a8 a5 b3 a9 w → yEL e7 e9 e8 f1 f0 i0 e5 e6 bm0 b4 b5 b6 b7 a2 b0 a6 a3 b1 a7 bm1 bm2 b8 a0 bm3 b9 c0 c1 c2 a4 b2 a8 a5 b3 a9 K1 R w) :
 yf2 yhG ((ynR 383 [1,1,1,1,0,0,1,0,0,1,0,1,1,1,1,1,1,1,1,1,1]) (ynS [1,1,1,1,1,1,1,1,1,1,0,1,0,0,1,0,0,1,1,1] [K1] R)) (ykR (q0,n0,n1,i0,q1,i1,i2,i3,n2,i4,i5,i6,i7,q2,n3,n4,q3,n5,n6,n7,n8,i8,i9,n9,j0,j1,j2,j3,q4,o0,o1,q5,o2,o3)) w0 :=
 crule (ykR) (V34 J) h0 (by rintro ⟨e7,e9,e8,f1,f0,i0,e5,e6,bm0,b4,b5,b6,b7,a2,b0,a6,a3,b1,a7,bm1,bm2,b8,a0,bm3,b9,c0,c1,c2,a4,b2,a8,a5,b3,a9⟩ w h; exact ⟨by kernel_rfl,by kernel_rfl,fun js => Eq.mpr (by kernel_rfl) (hr e7 e9 e8 f1 f0 i0 e5 e6 bm0 b4 b5 b6 b7 a2 b0 a6 a3 b1 a7 bm1 bm2 b8 a0 bm3 b9 c0 c1 c2 a4 b2 a8 a5 b3 a9 w h)⟩)
theorem yFY {K1:Kh} (h:yEL q0 n0 n1 i0 q1 i1 i2 i3 n2 i4 i5 i6 i7 q2 n3 n4 q3 n5 n6 n7 n8 i8 i9 n9 j0 j1 j2 j3 q4 o0 o1 q5 o2 o3 K1 R w) :
 yf2 yhG ((ynR 383 [1,1,1,1,0,0,1,0,0,1,0,1,1,1,1,1,1,1,1,1,1]) (ynS [1,1,1,1,1,1,1,1,1,1,0,1,0,0,1,0,0,1,1,1] [K1] R)) (ykR (q0,n0,n1,i0,q1,i1,i2,i3,n2,i4,i5,i6,i7,q2,n3,n4,q3,n5,n6,n7,n8,i8,i9,n9,j0,j1,j2,j3,q4,o0,o1,q5,o2,o3)) w :=
 yEM (fun f1 f6 f3 g0 f8 e7 e8 e9 bm0' d5 d6 d7 d8 c3 d1 c7 c4 d2 c8 bm1' bm2' d9 b7 bm3' e0 e1 e2 e3 c5 d3 c9 c6 d4 d0 w' => f1 = q0 ∧ f6 = n0 ∧ f3 = n1 ∧ g0 = i0 ∧ f8 = q1 ∧ e7 = i1 ∧ e8 = i2 ∧ e9 = i3 ∧ bm0' = n2 ∧ d5 = i4 ∧ d6 = i5 ∧ d7 = i6 ∧ d8 = i7 ∧ c3 = q2 ∧ d1 = n3 ∧ c7 = n4 ∧ c4 = q3 ∧ d2 = n5 ∧ c8 = n6 ∧ bm1' = n7 ∧ bm2' = n8 ∧ d9 = i8 ∧ b7 = i9 ∧ bm3' = n9 ∧ e0 = j0 ∧ e1 = j1 ∧ e2 = j2 ∧ e3 = j3 ∧ c5 = q4 ∧ d3 = o0 ∧ c9 = o1 ∧ c6 = q5 ∧ d4 = o2 ∧ d0 = o3 ∧ w' = w) ⟨rfl,rfl,rfl,rfl,rfl,rfl,rfl,rfl,rfl,rfl,rfl,rfl,rfl,rfl,rfl,rfl,rfl,rfl,rfl,rfl,rfl,rfl,rfl,rfl,rfl,rfl,rfl,rfl,rfl,rfl,rfl,rfl,rfl,rfl,rfl⟩ (by rintro f1 f6 f3 g0 f8 e7 e8 e9 bm0' d5 d6 d7 d8 c3 d1 c7 c4 d2 c8 bm1' bm2' d9 b7 bm3' e0 e1 e2 e3 c5 d3 c9 c6 d4 d0 w' ⟨rfl,rfl,rfl,rfl,rfl,rfl,rfl,rfl,rfl,rfl,rfl,rfl,rfl,rfl,rfl,rfl,rfl,rfl,rfl,rfl,rfl,rfl,rfl,rfl,rfl,rfl,rfl,rfl,rfl,rfl,rfl,rfl,rfl,rfl,rfl⟩; exact h)
theorem yI1 {a4 a3:Nat} (h :
 Calls pP 5 #[.int .i64 16] w fun e w4 => ∃ p5 x6,e = .returned (.tuple #[.pointer p5,.int .i64 x6]) ∧
 brB (Option.isNone p5) (
 R (.bool false) w4)
 (
 brB (x6 != 0) (
 R (.bool false) w4)
 (
 Calls pP 7 #[.int .i64 2] w4 fun e y5 => ∃ u3 h8 u4 u5 u6 u7 u9 v0 h2 h6 h4 h9 u0 v1 u2 h3 h7 h5,e = .returned (.agg (Z0 u3 h8 u4 u5 u6 u7 u9 v0 h2 h6 h4 h9 u0 v1 u2 h3 h7 h5)) ∧
 Calls pP 6 #[.pointer p5,(.agg (Z0 u3 h8 u4 u5 u6 u7 u9 v0 h2 h6 h4 h9 u0 v1 u2 h3 h7 h5))] y5 fun e y6 => ∃ y8 y9 z0 z1 x9 y3 y1 y0 y4 y2,e = .returned (.agg (Z1 y8 y9 z0 z1 x9 y3 y1 y0 y4 y2)) ∧
 Calls pP 8 (Z15 0 0 0 10) y6 fun e y7 => ∃ v2 u1 e5 e6 e7 e8 e9 f0 a9 c5 b7 d3 d4 f1 e1 b0 c6 b8,e = .returned (.agg (Z0 v2 u1 e5 e6 e7 e8 e9 f0 a9 c5 b7 d3 d4 f1 e1 b0 c6 b8)) ∧
 Calls pP 6 #[.pointer p5,(.agg (Z0 v2 u1 e5 e6 e7 e8 e9 f0 a9 c5 b7 d3 d4 f1 e1 b0 c6 b8))] y7 fun e w6 => ∃ x0 x1 x2 x3 v3 w1 v7 v4 w2 v8,e = .returned (.agg (Z1 x0 x1 x2 x3 v3 w1 v7 v4 w2 v8)) ∧
 Calls pP 11 #[(.string (⟨#[109]⟩:BA))] w6 fun e w7 => ∃ f2 d5 f3 f5 f6 f7 f8 f9 b1 c7 b9 d6 d7 g0 e2 b2 c8 c0,e = .returned (.agg (Z0 f2 d5 f3 f5 f6 f7 f8 f9 b1 c7 b9 d6 d7 g0 e2 b2 c8 c0)) ∧
 Calls pP 6 #[.pointer p5,(.agg (Z0 f2 d5 f3 f5 f6 f7 f8 f9 b1 c7 b9 d6 d7 g0 e2 b2 c8 c0))] w7 fun e w8 => ∃ x4 x5 x7 x8 v5 w3 v9 v6 w5 w0,e = .returned (.agg (Z1 x4 x5 x7 x8 v5 w3 v9 v6 w5 w0)) ∧
 Calls pP 11 #[(.string (⟨#[110]⟩:BA))] w8 fun e w9 => ∃ g1 d8 g2 g3 g4 g5 g6 g7 b3 c9 c1 d9 e0 g8 e3 b4 d0 c2,e = .returned (.agg (Z0 g1 d8 g2 g3 g4 g5 g6 g7 b3 c9 c1 d9 e0 g8 e3 b4 d0 c2)) ∧
 Calls pP 6 #[.pointer p5,(.agg (Z0 g1 d8 g2 g3 g4 g5 g6 g7 b3 c9 c1 d9 e0 g8 e3 b4 d0 c2))] w9 fun e a1 => ∃ g9 h0 h1 a8 b5 d1 c3 b6 d2 c4,e = .returned (.agg (Z1 g9 h0 h1 a8 b5 d1 c3 b6 d2 c4)) ∧
 ∀ a5,a1.heap.size ≤ a5 →
 ∀ a6,a1.heap.size ≤ a6 →
 ∀ a7,a1.heap.size ≤ a7 →
 ∀ e4,Adv [] [a7,a6,a5] a1 e4 →
 yaO yr8 (ynR 388 [0,0,1,0,1,1,1,1,1,1,1,1,1,1]) (ynS [1,1,1,1,1,1,1,1,1,1,0,1,0] [] R) (ykQ q0 a4 a3 i0 p5 a5 g9 h0 h1 a8 b5 d1 c3 b6 d2 c4 a6 a7 a8 ((-1),0,0)) e4))) :
 CR pP 4 #[.slice q0 a4 a3,.int .i64 i0] w R :=
 yaB Tryz.wide_mixed (an:=yr9) Tryz.func4 rfl rfl (by kernel_rfl) rfl (Eq.mpr (by kernel_rfl) h)
end
end Go.Proofs.YteldhjiiocmicaaGreat
namespace Go.Proofs.YteldhjiiocmicaaGreat
open Go Go.RowKit Go.Maps Go.MapKept Go.Sort Go.Shelf
set_option linter.unusedVariables false
set_option linter.unusedSimpArgs false
structure BSt (w0 w:World) (b:Nat) (s:PBr) (N:Nat) (F:List Nat):Prop where
 ex:∃ V,yc3 w b V ∧ V.st = s ∧ F = V.foot b
 g:BrGood s N
 lo:∀ k ∈ F,w0.heap.size ≤ k ∧ k < w.heap.size
theorem BSt.keep {w0 w w':World} {b N:Nat} {s:PBr} {F S:List Nat} (h:BSt w0 w b s N F) (M:Mod S w w') (hS:∀ k ∈ S,k ∉ F):BSt w0 w' b s N F:=by
 obtain ⟨⟨V,hV,hs,rfl⟩,g,lo⟩:=h
 exact ⟨⟨V,hV.keep M hS,hs,rfl⟩,g,fun k hk => ⟨(lo k hk).1,by have:=(lo k hk).2; have:=M.size; omega⟩⟩
theorem BSt.keep0 {w0 w w':World} {b N:Nat} {s:PBr} {F:List Nat} (h:BSt w0 w b s N F) (M:Mod [] w w'):BSt w0 w' b s N F:=h.keep M (by simp)
theorem BSt.new {w0 w:World} (M0:Mod [] w0 w) {room:Int} (hr:1 ≤ room ∧ room ≤ 64):Calls pP 5 #[.int .i64 room] w fun e w' => ∃ b F,e = .returned (.tuple #[.pointer (some ⟨b,0,none⟩),.int .i64 0]) ∧ Mod [] w w' ∧ BSt w0 w' b (br0 room) 0 F:=by
 refine (yqZ room w).mono ?_
 rintro _ w' ⟨_,rfl,M,hif⟩
 rw [if_pos hr] at hif
 obtain ⟨b,V,rfl,hV,hs,hF⟩:=hif
 exact ⟨b,V.foot b,rfl,M,⟨V,hV,hs,rfl⟩,yFK hr,fun k hk => ⟨by have:=hF k hk; have:=M0.size; omega,hV.lt k hk⟩⟩
theorem BSt.do {w0 w:World} {b N:Nat} {s:PBr} {F:List Nat} (h:BSt w0 w b s N F) (hN:N + 1 ≤ 900) {o:POp} {rs ts:Sl} (hO:∀ w',Mod F w w' → OpAt w' o rs ts) :
  Calls pP 6 #[.pointer (some ⟨b,0,none⟩),o.v rs ts] w fun e w' => ∃ (fs ps:Sl) (F':List Nat),e = .returned ((doF s o).2.v fs ps) ∧ BSt w0 w' b (doF s o).1 (N + 1) F' ∧ Mod F w w' ∧ ybG w F F' ∧
   Row w' w.heap.size 76 5 yjH fs.a fs.n fs.c (doF s o).2.found ∧ Row w' w.heap.size 33 2 yiH ps.a ps.n ps.c (doF s o).2.parts ∧ ∀ z ∈ F',z ∉ yaN fs.a ∧ z ∉ yaN ps.a:=by
 obtain ⟨⟨V,hV,rfl,rfl⟩,g,lo⟩:=h
 refine (yIl hV g hO).mono ?_
 rintro _ w' ⟨_,rfl,V',fs,ps,rfl,S,hs,hf,hp,ho⟩
 refine ⟨fs,ps,V'.foot b,rfl,⟨⟨V',S.ok,hs,rfl⟩,by have:=g.do o hN; rw [← hs] at this ⊢; exact this,fun k hk => ⟨?_,S.ok.lt k hk⟩⟩,S.mod,S.gr,hf,hp,ho⟩
 rcases S.gr k hk with h1 | h1
 ·exact (lo k h1).1
 ·have:=(lo b (yaD.2 (.inl rfl))).1
  have:=hV.low.1; omega
def yjJ (T F:List Nat) (w:World):Prop:=∀ b ∈ T,b < w.heap.size ∧ b ∉ F
theorem yjJ.nil {F:List Nat} {w:World}:yjJ [] F w:=fun b hb => by cases hb
theorem yjJ.grow {T F F':List Nat} {w w':World} (h:yjJ T F w) (G:ybG w F F') (hs:w.heap.size ≤ w'.heap.size):yjJ T F' w':=fun b hb => ⟨by have:=(h b hb).1; omega,fun hf => by
 rcases G b hf with h1 | h1
 ·exact (h b hb).2 h1
 ·have:=(h b hb).1; omega⟩
theorem yjJ.step {T F:List Nat} {w w':World} (h:yjJ T F w) (hs:w.heap.size ≤ w'.heap.size):yjJ T F w':=fun b hb => ⟨by have:=(h b hb).1; omega,(h b hb).2⟩
theorem yjJ.add {T F:List Nat} {w w':World} {b:Nat} (h:yjJ T F w) (hF:∀ k ∈ F,k < w.heap.size) (hb:w.heap.size ≤ b) (hl:b < w'.heap.size) (hs:w.heap.size ≤ w'.heap.size):yjJ (T ++ [b]) F w':=fun x hx => by
 rcases List.mem_append.1 hx with hx | hx
 ·exact h.step hs x hx
 ·simp at hx; subst hx
  exact ⟨hl,fun hf => by have:=hF _ hf; omega⟩
theorem yjJ.kept {T F es:List Nat} {ts:List (Nat × TypeId)} {w w':World} (h:yjJ T F w) (M:Mod F w w'):yaV es ts T w w':=yaF.of M fun b hb _ => (h b hb).2
def tS:ByteArray:=⟨#[116]⟩
def gS:ByteArray:=⟨#[103]⟩
def mS:ByteArray:=⟨#[109]⟩
def nS:ByteArray:=⟨#[110]⟩
def eS:ByteArray:=ByteArray.empty
def bt0:PBatch:=⟨0,0,0,[]⟩
def ypO (n:Int):POp:=⟨0,⟨tS,0⟩,n,0,bt0,eS,eS,0,false,[]⟩
def yuX (f n:Int):POp:=⟨3,⟨tS,0⟩,n,f,bt0,eS,eS,0,false,[]⟩
def vR:PRec:=⟨false,ByteArray.empty,false,⟨#[118]⟩⟩
def ykS (id ep sq:Int) (n:Nat):POp:=⟨2,⟨tS,0⟩,0,0,⟨id,ep,sq,List.replicate n vR⟩,eS,eS,0,false,[]⟩
def yjF (m:ByteArray):POp:=⟨6,⟨eS,0⟩,5,0,bt0,gS,m,0,false,[tS]⟩
def ycL (m:ByteArray) (gen off:Int):POp:=⟨10,⟨tS,0⟩,0,off,bt0,gS,m,gen,false,[]⟩
def yHn:POp:=⟨11,⟨tS,0⟩,0,0,bt0,gS,eS,0,false,[]⟩
def yBE (k n:Int):POp:=⟨k,⟨eS,0⟩,n,0,bt0,eS,eS,0,false,[]⟩
theorem OpAt.nil {w:World} {o:POp} (h1:o.b.recs = []) (h2:o.topics = []):OpAt w o ya8 ya8 :=
 ⟨by rw [h1]; exact ⟨rfl,by simp⟩,by rw [h2]; exact ⟨rfl,by simp⟩,by rw [h1]; simp,by rw [h2]; simp⟩
theorem yuY (n:Int) (w:World):Calls pP 7 #[.int .i64 n] w fun e w' => e = .returned ((ypO n).v ya8 ya8) ∧ Mod [] w w' :=
 ya0 (yIZ fun b2 f2 w3 A3 => ⟨rfl,A3.mod⟩)
theorem yuZ (f n:Int) (w:World):Calls pP 9 #[.int .i64 f,.int .i64 n] w fun e w' => e = .returned ((yuX f n).v ya8 ya8) ∧ Mod [] w w' :=
 ya0 (yIY fun b2 f2 w3 A3 => ⟨rfl,A3.mod⟩)
theorem ysB (m:ByteArray) (w:World):Calls pP 11 #[.string m] w fun e w' => ∃ ts:Sl,e = .returned ((yjF m).v ya8 ts) ∧ Mod [] w w' ∧ Row w' w.heap.size 9 1 yc8 ts.a ts.n ts.c [tS]:=by
 refine Calls.mono (R:=fun e w' => ∃ v,e = .returned v ∧ ∃ ts:Sl,v = ((yjF m).v ya8 ts) ∧ Mod [] w w' ∧ Row w' w.heap.size 9 1 yc8 ts.a ts.n ts.c [tS]) ?_ (by
  rintro _ w' ⟨_,rfl,ts,rfl,h1,h2⟩
  exact ⟨ts,rfl,h1,h2⟩)
 refine yI0 ?_
 intro b2 f2 w6 A6
 refine yd6 fun b7 w8 c8 M8 f8 => ?_
 intro w9 A9
 have s6:=A6.mod.size
 have l2:=A6.lt b2 (by simp)
 have l7:=yaH c8
 refine ⟨⟨some ⟨b7,0,none⟩,1,1⟩,rfl,((A6.mod.go0 M8 (by simp)).go0 A9.mod (by simp; omega)),?_⟩
 exact Row.one (x:=tS) rfl (by omega) (A9.mod.keep c8 (by simp; omega))
theorem ysC (id ep sq:Int) {k:Int} {n:Nat} (hk:k = n) (hn:n ≤ 1000) (w:World):Calls pP 8 #[.int .i64 id,.int .i64 ep,.int .i64 sq,.int .i64 k] w fun e w' => ∃ rs:Sl,e = .returned ((ykS id ep sq n).v rs ya8) ∧ Mod [] w w' ∧ Row w' w.heap.size 65 4 ymJ rs.a rs.n rs.c (List.replicate n vR):=by
 subst hk
 refine Calls.mono (R:=fun e w' => ∃ v,e = .returned v ∧ ∃ rs:Sl,v = ((ykS id ep sq n).v rs ya8) ∧ Mod [] w w' ∧ Row w' w.heap.size 65 4 ymJ rs.a rs.n rs.c (List.replicate n vR)) ?_ (by
  rintro _ w' ⟨_,rfl,ts,rfl,h1,h2⟩
  exact ⟨ts,rfl,h1,h2⟩)
 refine yIX ?_
 intro b2 f2 b4 f4 w19 A19
 have l2:=A19.lt b2 (by simp)
 have l4:=A19.lt b4 (by simp)
 have s19:=A19.mod.size
 refine yBB (fun mm x a n' c w' => ∃ i:Nat,x = i ∧ i ≤ n ∧ Row w' w19.heap.size 65 4 ymJ a n' c (List.replicate i vR) ∧ w19.heap.size ≤ w'.heap.size ∧ Mod [] w w' ∧ mm = n - i) n ⟨0,rfl,by omega,Row.nil ..,Nat.le_refl _,A19.mod,rfl⟩ ?_
 rintro mm x a n' c w1 ⟨i,rfl,hi,hR,s1,M1,rfl⟩
 have lk:=yaG hR
 refine yaC (fun hlt => ?_) fun hge => ?_
 ·refine yg2 (T:=65) (S:=34) (enc:=ymJ) (y:=vR) (f:=⟨a,n',c⟩) yJ0 Tryz.underlying34 rfl (by decide) (by decide) hR rfl (yxV _) (by simp; omega) (by omega) (fun z hz hz' => ?_) fun a4 c4 w13 hR13 M13 hk13 => ?_
  ·have:=(lk z hz').1
   simp at hz; omega
  intro w17 A17
  have s13:=M13.size
  refine yBA (n - (i + 1)) (by omega) ⟨i + 1,ye5 (by omega),by omega,?_,by have:=A17.mod.size; omega,(M1.go0 M13 fun z hz => by have:=(lk z hz).1; omega).go0 A17.mod (by simp; omega),rfl⟩
  rw [List.replicate_succ']
  refine yaA hR13 A17.mod fun z hz hz' => ?_
  simp at hz; subst hz
  have:=(yaG hR13 _ hz').1; omega
 ·have hi:i = n:=by omega
  subst hi
  intro w18 A18
  exact ⟨⟨a,n',c⟩,rfl,M1.go0 A18.mod (by simp; omega),(yaA hR A18.mod fun z hz hz' => by simp at hz; subst hz; have:=(lk _ hz').1; omega).rebase s19⟩
end Go.Proofs.YteldhjiiocmicaaGreat
namespace Go.Proofs.YteldhjiiocmicaaGreat
open Go Go.RowKit
set_option linter.all false
section
set_option maxRecDepth 100000
variable {R:VWP} {w w0:World} {m:Nat} {i0 i1 i2 i3 i4 i5 i6 i7 i8 i9 j0 j1 j2 j3 j4 j5 j6 j7 j8 j9 k0 k1 k2 k3 k4 k5 k6 k7 k8 k9 l0 l1 l2 l3 l4 l5 l6 l7 l8 l9:Int} {s0 s1 s2 s3 s4 s5 s6 s7 s8 s9 t0 t1 t2 t3 t4 t5 t6 t7 t8 t9:BA} {n0 n1 n2 n3 n4 n5 n6 n7 n8 n9 o0 o1 o2 o3 o4 o5 o6 o7 o8 o9 p0 p1 p2 p3 p4 p5 p6 p7 p8 p9:Nat} {q0 q1 q2 q3 q4 q5 q6 q7 q8 q9 r0 r1 r2 r3 r4 r5 r6 r7 r8 r9:OA} {B0 B1 B2 B3 B4 B5 B6 B7 B8 B9:Bool} {M0 M1 M2 M3:Option Nat} {V0 V1 V2 V3 V4 V5:Value} {A0 A1 A2:Addr}
theorem yI2 (h :
 Calls pP 5 #[.int .i64 4] w fun e w4 => ∃ p5 x6,e = .returned (.tuple #[.pointer p5,.int .i64 x6]) ∧
 brB (Option.isNone p5) (
 R (.bool false) w4)
 (
 brB (x6 != 0) (
 R (.bool false) w4)
 (
 Calls pP 9 #[.int .i64 0,.int .i64 1] w4 fun e gj => ∃ bv bp bw bx bz ca cb cc bj bn bl bq br cd bt bk bo bm,e = .returned (.agg (Z0 bv bp bw bx bz ca cb cc bj bn bl bq br cd bt bk bo bm)) ∧
 Calls pP 6 #[.pointer p5,(.agg (Z0 bv bp bw bx bz ca cb cc bj bn bl bq br cd bt bk bo bm))] gj fun e bu => ∃ ce gk gl gm gd gh gf ge gi gg,e = .returned (.agg (Z1 ce gk gl gm gd gh gf ge gi gg)) ∧
 ∀ a1,bu.heap.size ≤ a1 →
 ∀ b5,Adv [] [a1] bu b5 →
 Calls pP 7 #[.int .i64 1] b5 fun e b6 => ∃ x2 v1 x3 x4 x5 x7 x8 x9 e0 h3 f7 v2 v3 y0 w7 e1 h4 f8,e = .returned (.agg (Z0 x2 v1 x3 x4 x5 x7 x8 x9 e0 h3 f7 v2 v3 y0 w7 e1 h4 f8)) ∧ yaF [a1] b5 b6 ∧
 Calls pP 6 #[.pointer p5,(.agg (Z0 x2 v1 x3 x4 x5 x7 x8 x9 e0 h3 f7 v2 v3 y0 w7 e1 h4 f8))] b6 fun e b7 => ∃ ex ey ez fa cf dy db ch dz dc,e = .returned (.agg (Z1 ex ey ez fa cf dy db ch dz dc)) ∧ yaF [a1] b6 b7 ∧
 Calls pP 6 #[.pointer p5,(.agg (Z0 1 ByteArray.empty 0 0 0 0 0 0 none 0 0 ByteArray.empty ByteArray.empty 0 false none 0 0))] b7 fun e b8 => ∃ fc fd fe ff ci ea dd cj eb de,e = .returned (.agg (Z1 fc fd fe ff ci ea dd cj eb de)) ∧ yaF [a1] b7 b8 ∧
 Calls pP 8 (Z15 1 0 0 2) b8 fun e b9 => ∃ y1 v4 y2 y3 y4 y5 y6 y7 e2 h5 f9 v5 v6 y8 w8 e3 h6 g0,e = .returned (.agg (Z0 y1 v4 y2 y3 y4 y5 y6 y7 e2 h5 f9 v5 v6 y8 w8 e3 h6 g0)) ∧ yaF [a1] b8 b9 ∧
 Calls pP 6 #[.pointer p5,(.agg (Z0 y1 v4 y2 y3 y4 y5 y6 y7 e2 h5 f9 v5 v6 y8 w8 e3 h6 g0))] b9 fun e c0 => ∃ y9 z0 z1 fg ck ec df cl ed dg,e = .returned (.agg (Z1 y9 z0 z1 fg ck ec df cl ed dg)) ∧ yaF [a1] b9 c0 ∧
 Calls pP 8 (Z15 1 0 0 2) c0 fun e c1 => ∃ z2 v7 z3 z4 z5 z6 z7 z8 e4 h7 g1 v8 v9 z9 w9 e5 h8 g2,e = .returned (.agg (Z0 z2 v7 z3 z4 z5 z6 z7 z8 e4 h7 g1 v8 v9 z9 w9 e5 h8 g2)) ∧ yaF [a1] c0 c1 ∧
 Calls pP 6 #[.pointer p5,(.agg (Z0 z2 v7 z3 z4 z5 z6 z7 z8 e4 h7 g1 v8 v9 z9 w9 e5 h8 g2))] c1 fun e b2 => ∃ fh aa ab fi cm ee dh cn ef di,e = .returned (.agg (Z1 fh aa ab fi cm ee dh cn ef di)) ∧ yaF [a1] c1 b2 ∧
 ∀ a2,b2.heap.size ≤ a2 →
 ∀ a3,b2.heap.size ≤ a3 →
 ∀ c2,Adv [] [a3,a2] b2 c2 →
 Calls pP 9 #[.int .i64 1,.int .i64 9] c2 fun e c3 => ∃ ac w0 ad ae af ag ah ai e6 h9 g3 w1 w2 aj x0 e7 u0 g4,e = .returned (.agg (Z0 ac w0 ad ae af ag ah ai e6 h9 g3 w1 w2 aj x0 e7 u0 g4)) ∧ yaF [a1,a2,a3] c2 c3 ∧
 Calls pP 6 #[.pointer p5,(.agg (Z0 ac w0 ad ae af ag ah ai e6 h9 g3 w1 w2 aj x0 e7 u0 g4))] c3 fun e c4 => ∃ fj ak fk fl e8 b4 dj co eg dk,e = .returned (.agg (Z1 fj ak fk fl e8 b4 dj co eg dk)) ∧ yaF [a1,a2,a3] c3 c4 ∧
 ∀ a4,c4.heap.size ≤ a4 →
 ∀ c5,Adv [] [a4] c4 c5 →
 Calls pP 11 #[(.string (⟨#[109]⟩:BA))] c5 fun e c6 => ∃ am w3 ao ap aq ar au av e9 u1 g5 w5 w6 aw x1 f0 u2 g6,e = .returned (.agg (Z0 am w3 ao ap aq ar au av e9 u1 g5 w5 w6 aw x1 f0 u2 g6)) ∧ yaF [a1,a2,a3,a4] c5 c6 ∧
 Calls pP 6 #[.pointer p5,(.agg (Z0 am w3 ao ap aq ar au av e9 u1 g5 w5 w6 aw x1 f0 u2 g6))] c6 fun e b3 => ∃ fm fn fo ax cp eh dl cq ei dm,e = .returned (.agg (Z1 fm fn fo ax cp eh dl cq ei dm)) ∧ yaF [a1,a2,a3,a4] c6 b3 ∧
 ∀ a6,b3.heap.size ≤ a6 →
 ∀ a5,b3.heap.size ≤ a5 →
 ∀ c7,Adv [] [a5,a6] b3 c7 →
 Calls pP 6 #[.pointer p5,(.agg (Z0 10 (⟨#[116]⟩:BA) 0 0 2 0 0 0 none 0 0 (⟨#[103]⟩:BA) (⟨#[109]⟩:BA) 1 false none 0 0))] c7 fun e c8 => ∃ ay fp fq fr cr ej dn cs ek dp,e = .returned (.agg (Z1 ay fp fq fr cr ej dn cs ek dp)) ∧ yaF [a1,a2,a3,a4,a6,a5] c7 c8 ∧
 ∀ a7,c8.heap.size ≤ a7 →
 ∀ c9,Adv [a5] [a7] c8 c9 →
 Calls pP 6 #[.pointer p5,(.agg (Z0 10 (⟨#[116]⟩:BA) 0 0 3 0 0 0 none 0 0 (⟨#[103]⟩:BA) (⟨#[109]⟩:BA) 1 false none 0 0))] c9 fun e d0 => ∃ az fs ft fu ct el dq cu em dr,e = .returned (.agg (Z1 az fs ft fu ct el dq cu em dr)) ∧ yaF [a1,a2,a3,a4,a6,a5,a7] c9 d0 ∧
 ∀ a8,d0.heap.size ≤ a8 →
 ∀ d1,Adv [] [a8] d0 d1 →
 Calls pP 6 #[.pointer p5,(.agg (Z0 11 (⟨#[116]⟩:BA) 0 0 0 0 0 0 none 0 0 (⟨#[103]⟩:BA) ByteArray.empty 0 false none 0 0))] d1 fun e d2 => ∃ fv ba bb fw cv en ds cw eo dt,e = .returned (.agg (Z1 fv ba bb fw cv en ds cw eo dt)) ∧ yaF [a1,a2,a3,a4,a6,a5,a7,a8] d1 d2 ∧
 ∀ a9,d2.heap.size ≤ a9 →
 ∀ d3,Adv [] [a9] d2 d3 →
 Calls pP 6 #[.pointer p5,(.agg (Z0 12 ByteArray.empty 0 5 0 0 0 0 none 0 0 ByteArray.empty ByteArray.empty 0 false none 0 0))] d3 fun e d4 => ∃ fx bc bd fy cx ep du cy eq dv,e = .returned (.agg (Z1 fx bc bd fy cx ep du cy eq dv)) ∧ yaF [a1,a2,a3,a4,a6,a5,a7,a8,a9] d3 d4 ∧
 ∀ b0,d4.heap.size ≤ b0 →
 ∀ d5,Adv [] [b0] d4 d5 →
 Calls pP 6 #[.pointer p5,(.agg (Z0 13 ByteArray.empty 0 0 0 0 0 0 none 0 0 ByteArray.empty ByteArray.empty 0 false none 0 0))] d5 fun e d6 => ∃ be fz ga gb cz er dw da et dx,e = .returned (.agg (Z1 be fz ga gb cz er dw da et dx)) ∧ yaF [a1,a2,a3,a4,a6,a5,a7,a8,a9,b0] d5 d6 ∧
 ∀ b1,d6.heap.size ≤ b1 →
 ∀ d7,Adv [] [b1] d6 d7 →
 Calls pP 33 #[.pointer p5] d7 fun e d8 => ∃ bf bg f1 u3 g7 f2 u4 g8 f3 u5 g9 f4 u6 h0 f5 u7 h1 f6 u9 h2,e = .returned (.agg (Z4 bf bg f1 u3 g7 f2 u4 g8 f3 u5 g9 f4 u6 h0 f5 u7 h1 f6 u9 h2)) ∧ yaF [a1,a2,a3,a4,a6,a5,a7,a8,a9,b0,b1] d7 d8 ∧
 Calls pP 32 #[(.agg (Z4 bf bg f1 u3 g7 f2 u4 g8 f3 u5 g9 f4 u6 h0 f5 u7 h1 f6 u9 h2))] d8 fun e d9 => ∃ v0 bh,e = .returned (.tuple #[.pointer v0,.int .i64 bh]) ∧ yaF [a1,a2,a3,a4,a6,a5,a7,a8,a9,b0,b1] d8 d9 ∧
 Calls pP 5 #[.int .i64 0] d9 fun e a0 => ∃ eu bi,e = .returned (.tuple #[.pointer eu,.int .i64 bi]) ∧ yaF [a1,a2,a3,a4,a6,a5,a7,a8,a9,b0,b1] d9 a0 ∧
 brB (ce == 91) (
 brB (y9 == 0) (
 brB (z0 == 0) (
 brB (z1 == 0) (
 brB (aa == 0) (
 brB (ab == 1) (
 brB (ak == 2) (
 brB ((b4:Int) == 1) (
 ixA e8 b4 0 5 fun ew =>
 ya1 .i64 a0 ew fun gc =>
 brB (gc == 1) (
 brB (ax == 1) (
 brB (ay == 0) (
 brB (az == 61) (
 brB (ba == 2) (
 brB (bb == 1) (
 brB (bc == 5) (
 brB (bd == 1) (
 brB (be == 41) (
 brB (!(Option.isNone v0)) (
 brB (bh == 0) (
 R (.bool (bi == 1)) a0)
 (
 R (.bool false) a0))
 (
 R (.bool false) a0))
 (
 R (.bool false) a0))
 (
 R (.bool false) a0))
 (
 R (.bool false) a0))
 (
 R (.bool false) a0))
 (
 R (.bool false) a0))
 (
 R (.bool false) a0))
 (
 R (.bool false) a0))
 (
 R (.bool false) a0))
 (
 R (.bool false) a0))
 (
 R (.bool false) a0))
 (
 R (.bool false) a0))
 (
 R (.bool false) a0))
 (
 R (.bool false) a0))
 (
 R (.bool false) a0))
 (
 R (.bool false) a0))
 (
 R (.bool false) a0))
 (
 R (.bool false) a0)))) :
 CR pP 10 #[] w R :=
 yaB Tryz.wide_mixed (an:=[]) Tryz.func10 rfl rfl (by kernel_rfl) rfl (Eq.mpr (by kernel_rfl) h)
end
end Go.Proofs.YteldhjiiocmicaaGreat
namespace Go.Proofs.YteldhjiiocmicaaGreat
open Go Go.RowKit Go.Maps Go.MapKept Go.Sort Go.Shelf
set_option linter.unusedVariables false
set_option linter.unusedSimpArgs false
theorem BSt.prod {w0 w w':World} {b N:Nat} {s:PBr} {F:List Nat} (h:BSt w0 w b s N F) {id ep sq:Int} {n:Nat} {rs:Sl} (hR:Row w' w.heap.size 65 4 ymJ rs.a rs.n rs.c (List.replicate n vR)) (hn:n ≤ 1000):∀ w'',Mod F w' w'' → OpAt w'' (ykS id ep sq n) rs ya8:=fun w'' M =>
 ⟨(yaA hR M fun k hk hk' => by have:=(h.lo k hk).2; have:=(yaG hR k hk').1; omega).sl yp7,⟨rfl,by simp [ykS]⟩,by simp [ykS]; omega,by simp [ykS]⟩
theorem BSt.join {w0 w w':World} {b N:Nat} {s:PBr} {F:List Nat} (h:BSt w0 w b s N F) {m:ByteArray} {ts:Sl} (hR:Row w' w.heap.size 9 1 yc8 ts.a ts.n ts.c [tS]):∀ w'',Mod F w' w'' → OpAt w'' (yjF m) ya8 ts:=fun w'' M =>
 ⟨⟨rfl,by simp [yjF,bt0]⟩,(yaA hR M fun k hk hk' => by have:=(h.lo k hk).2; have:=(yaG hR k hk').1; omega).sl ydB,by simp [yjF,bt0],by simp [yjF]⟩
theorem BSt.state {w0 w:World} {b N:Nat} {s:PBr} {F:List Nat} (h:BSt w0 w b s N F) (gm:BrMay s):Calls pP 33 #[.pointer (some ⟨b,0,none⟩)] w fun e w' => ∃ v,e = .returned v ∧ yEz w s v w':=by
 obtain ⟨⟨V,hV,rfl,rfl⟩,g,lo⟩:=h
 exact yEG hV g gm
structure StSm (x:PSt):Prop where
 nl:x.logs.length ≤ 1000000
 ns:∀ l ∈ x.logs,l.segs.length ≤ 1000000
 ng:x.groups.length ≤ 1000000
 nt:∀ g ∈ x.groups,∀ s ∈ g.seats,s.topics.length ≤ 1000000
 nm:x.makers.length ≤ 1000000
 no:x.marks.length ≤ 1000000
 kl:∀ l ∈ x.logs,l.p.t.size ≤ maxLen ∧ s64 l.p.n
 kg:∀ g ∈ x.groups,g.name.size ≤ maxLen
 km:∀ m ∈ x.makers,m.part.t.size ≤ maxLen ∧ s64 m.part.n
 ko:∀ m ∈ x.marks,m.p.t.size ≤ maxLen
theorem StAt.in {w:World} {B:Nat} {x:PSt} {q:StS} {lv:List LgV} {mv:List MkV} {gv:List GdV} (h:StAt w B x q lv mv gv) (sm:StSm x):StIn w x q lv mv gv:=by
 have el:=h.logs.eq
 have eg:=h.grps.eq
 have em:=h.mks
 have lm:∀ {p:LgV},p ∈ lv → p.x ∈ x.logs:=fun hp => by rw [← el]; exact List.mem_map.2 ⟨_,hp,rfl⟩
 have gm:∀ {p:GdV},p ∈ gv → p.x ∈ x.groups:=fun hp => by rw [← eg]; exact List.mem_map.2 ⟨_,hp,rfl⟩
 have mm:∀ {p:MkV},p ∈ mv → p.x ∈ x.makers:=fun hp => by rw [← em]; exact List.mem_map.2 ⟨_,hp,rfl⟩
 have cap:∀ {α:Type} {B T sz:Nat} {enc:α → List Value} {a:Option Addr} {n c:Nat} {l:List α},Row w B T sz enc a n c l → n ≤ c:=fun h => h.cap
 refine { t:=h.four.t.sl ylM,e:=h.four.e.sl yb4,m:=h.four.m.sl MkV.cs_len,d:=fun p hp => ⟨(h.four.d p hp).sl yg9,cap (h.four.d p hp)⟩,o:=h.four.o.sl yjB,l:=h.logs.row.sl LgV.cs_len,ls:=fun p hp => ?_,g:=h.grps.row.sl GdV.cs_len,gs:=fun p hp => ?_,em:=em,el:=el,eg:=eg,nl:=by have:=sm.nl; rw [← el] at this; simpa using this,ng:=by have:=sm.ng; rw [← eg] at this; simpa using this,nm:=by have:=sm.nm; rw [← em] at this; simpa using this,no:=sm.no,kl:=fun p hp => sm.kl _ (lm hp),kg:=fun p hp => sm.kg _ (gm hp),km:=fun p hp => sm.km _ (mm hp),ko:=sm.ko }
 ·obtain ⟨qs,hq⟩:=h.logs.segs p hp
  refine ⟨qs,hq.row.sl SgV.cs_len,fun r hr => (hq.found r hr).sl yd1,hq.eq,?_⟩
  have:=sm.ns _ (lm hp)
  rw [← hq.eq] at this; simpa using this
 ·obtain ⟨qs,hq,e⟩:=h.grps.seats p hp
  refine ⟨qs,hq.row.sl ynC,fun r hr => ⟨(hq.ts r hr).sl ydB,?_⟩,e⟩
  exact sm.nt _ (gm hp) r.x (by rw [← e]; exact List.mem_map.2 ⟨r,hr,rfl⟩)
def xk0:PBr:=br0 4
def xk1:PBr:=(doF xk0 (yuX 0 1)).1
def xk2:PBr:=(doF xk1 (ypO 1)).1
def xk3:PBr:=(doF xk2 (yBE 1 0)).1
def xk4:PBr:=(doF xk3 (ykS 1 0 0 2)).1
def xk5:PBr:=(doF xk4 (ykS 1 0 0 2)).1
def xk6:PBr:=(doF xk5 (yuX 1 9)).1
def xk7:PBr:=(doF xk6 (yjF mS)).1
def xk8:PBr:=(doF xk7 (ycL mS 1 2)).1
def xk9:PBr:=(doF xk8 (ycL mS 1 3)).1
def yNb:PBr:=(doF xk9 (yHn)).1
def yNc:PBr:=(doF yNb (yBE 12 5)).1
def yNd:PBr:=(doF yNc (yBE 13 0)).1
def xkS:PBr:=⟨4,5,[(tS,1)],[0],[((1,⟨tS,0⟩),[⟨0,2,0⟩])],[(⟨tS,0⟩,[⟨0,2,[⟨0,vR⟩,⟨1,vR⟩]⟩])],[(gS,⟨2,false,[]⟩)],[((gS,⟨tS,0⟩),2)]⟩
theorem yL9:yNd = xkS:=by kernel_rfl
def xkX:PSt:=⟨4,5,[⟨tS,1⟩],[⟨⟨tS,0⟩,[⟨0,2,[⟨0,vR⟩,⟨1,vR⟩]⟩]⟩],[0],[⟨1,0,⟨tS,0⟩,[⟨0,2,0⟩]⟩],[⟨gS,2,false,[]⟩],[⟨gS,⟨tS,0⟩,2⟩]⟩
theorem yMa:BrMay xkS:=⟨by simp [xkS],by simp [xkS]⟩
theorem yI3 {x:PSt} (h:Told xkS x):x = xkX:=by
 obtain ⟨h1,h2,h3,h4,h5,h6,_,h8,h9,_⟩:=h
 obtain ⟨a,b,c,d,e,f,g,i⟩:=x
 have e3:c = [⟨tS,1⟩]:=h3.trans (by kernel_rfl)
 have e4:d = [⟨⟨tS,0⟩,[⟨0,2,[⟨0,vR⟩,⟨1,vR⟩]⟩]⟩]:=h4.trans (by kernel_rfl)
 have e6:f = [⟨1,0,⟨tS,0⟩,[⟨0,2,0⟩]⟩]:=List.perm_singleton.1 h6
 have e8:g = [⟨gS,2,false,[]⟩]:=h8.trans (by kernel_rfl)
 have e9:i = [⟨gS,⟨tS,0⟩,2⟩]:=List.perm_singleton.1 h9
 subst e3 e4 e6 e8 e9
 simp only at h1 h2 h5
 subst h1 h2 h5
 rfl
theorem yFZ:StSm xkX:=by
 constructor <;> simp [xkX,tS,gS,maxLen,s64] <;> decide
theorem yI4:StLd xkX where
 room:=by decide
 now:=by decide
 tops:=by kernel_rfl
 logs:=by
  intro l hl
  simp [xkX] at hl; subst hl
  refine ⟨⟨by simp,by decide,by decide,fun s hs => ?_,fun i s t hs ht => ?_⟩,fun s hs => ?_⟩
  ·simp at hs; subst hs
   exact ⟨by decide,by decide,by decide,by decide,by decide,by simp⟩
  ·cases i <;> simp at ht
  ·simp at hs; subst hs; kernel_rfl
 parts:=by kernel_rfl
 ng:=by decide
 grps:=⟨by simp [xkX]; exact ⟨⟨by decide,by decide,by decide,by decide⟩,by kernel_rfl⟩,by kernel_rfl⟩
 ded:=⟨by decide,by simp [xkX,num],by
  intro m hm
  simp [xkX] at hm; subst hm
  refine ⟨by kernel_rfl,by kernel_rfl,by decide,by decide,by simp [yzS,num],fun i d e hd he => ?_⟩
  cases i <;> simp at he,by simp [xkX]⟩
 mh:=by simp [xkX]; kernel_rfl
 off:=⟨by simp [xkX]; kernel_rfl,by simp [xkX]⟩
 oh:=by simp [xkX]; kernel_rfl
set_option maxHeartbeats 4000000 in
theorem yBF (w:World):Calls pP 10 #[] w fun e w' => e = .returned (.bool true) ∧ Mod [] w w':=by
 refine ya0 (yI2 ?_)
 refine (BSt.new (Mod.refl w) (room:=4) (by decide)).mono ?_
 rintro _ w1 ⟨b,F0,rfl,M,h⟩
 refine ⟨_,_,rfl,brF rfl (brF rfl ?_)⟩
 have hO:yjJ [] F0 w1:=yjJ.nil
 have N:Mod [] w w1:=M
 replace h:BSt w w1 b xk0 0 F0:=h
 have hW:=h
 refine (yuZ 0 1 w1).mono ?_
 rintro _ w2 ⟨rfl,M⟩
 replace h:=h.keep0 M
 replace N:Mod [] w w2:=N.go0 M (by simp)
 replace hO:=hO.step M.size
 refine ⟨_,_,_,_,_,_,_,_,_,_,_,_,_,_,_,_,_,_,rfl,?_⟩
 refine (h.do (by omega) (o:=yuX 0 1) (rs:=ya8) (ts:=ya8) (fun w' _ => OpAt.nil rfl rfl)).mono ?_
 rintro _ w3 ⟨fs0,ps0,F1,rfl,h',M,G,hf0,-,ho0⟩
 have hK:=fun es ts => hO.kept (es:=es) (ts:=ts) M
 replace N:Mod [] w w3:=N.go0 M fun k hk => (h.lo k hk).1
 replace hO:=hO.grow G M.size
 clear h
 have h:BSt w w3 b xk1 1 F1:=h'
 clear h'
 refine ⟨_,_,_,_,_,_,_,_,_,_,rfl,?_⟩
 intro bw4_0 fw4_0 w4 A
 have sA:=A.mod.size
 have l0:=A.lt bw4_0 (by simp)
 have hO2:=hO.add (fun k hk => (h.lo k hk).2) fw4_0 l0 sA
 replace hO:=hO2
 clear hO2
 replace h:=h.keep0 A.mod
 replace N:Mod [] w w4:=N.go0 A.mod (by simp)
 have hW:=h
 refine (yuY 1 w4).mono ?_
 rintro _ w5 ⟨rfl,M⟩
 replace h:=h.keep0 M
 replace N:Mod [] w w5:=N.go0 M (by simp)
 replace hO:=hO.step M.size
 refine ⟨_,_,_,_,_,_,_,_,_,_,_,_,_,_,_,_,_,_,rfl,yaF.of0 M,?_⟩
 refine (h.do (by omega) (o:=ypO 1) (rs:=ya8) (ts:=ya8) (fun w' _ => OpAt.nil rfl rfl)).mono ?_
 rintro _ w6 ⟨fs1,ps1,F2,rfl,h',M,G,hf1,-,ho1⟩
 have hK:=fun es ts => hO.kept (es:=es) (ts:=ts) M
 replace N:Mod [] w w6:=N.go0 M fun k hk => (h.lo k hk).1
 replace hO:=hO.grow G M.size
 clear h
 have h:BSt w w6 b xk2 2 F2:=h'
 clear h'
 refine ⟨_,_,_,_,_,_,_,_,_,_,rfl,hK _ _,?_⟩
 refine (h.do (by omega) (o:=yBE 1 0) (rs:=ya8) (ts:=ya8) (fun w' _ => OpAt.nil rfl rfl)).mono ?_
 rintro _ w7 ⟨fs2,ps2,F3,rfl,h',M,G,hf2,-,ho2⟩
 have hK:=fun es ts => hO.kept (es:=es) (ts:=ts) M
 replace N:Mod [] w w7:=N.go0 M fun k hk => (h.lo k hk).1
 replace hO:=hO.grow G M.size
 clear h
 have h:BSt w w7 b xk3 3 F3:=h'
 clear h'
 refine ⟨_,_,_,_,_,_,_,_,_,_,rfl,hK _ _,?_⟩
 have hW:=h
 refine (ysC 1 0 0 (n:=2) (by rfl) (by omega) w7).mono ?_
 rintro _ w8 ⟨rs,rfl,M,hR⟩
 replace h:=h.keep0 M
 replace N:Mod [] w w8:=N.go0 M (by simp)
 replace hO:=hO.step M.size
 refine ⟨_,_,_,_,_,_,_,_,_,_,_,_,_,_,_,_,_,_,rfl,yaF.of0 M,?_⟩
 refine (h.do (by omega) (o:=ykS 1 0 0 2) (rs:=rs) (ts:=ya8) (hW.prod hR (by omega))).mono ?_
 rintro _ w9 ⟨fs3,ps3,F4,rfl,h',M,G,hf3,-,ho3⟩
 have hK:=fun es ts => hO.kept (es:=es) (ts:=ts) M
 replace N:Mod [] w w9:=N.go0 M fun k hk => (h.lo k hk).1
 replace hO:=hO.grow G M.size
 clear h
 have h:BSt w w9 b xk4 4 F4:=h'
 clear h'
 refine ⟨_,_,_,_,_,_,_,_,_,_,rfl,hK _ _,?_⟩
 clear hR hW
 have hW:=h
 refine (ysC 1 0 0 (n:=2) (by rfl) (by omega) w9).mono ?_
 rintro _ w10 ⟨rs,rfl,M,hR⟩
 replace h:=h.keep0 M
 replace N:Mod [] w w10:=N.go0 M (by simp)
 replace hO:=hO.step M.size
 refine ⟨_,_,_,_,_,_,_,_,_,_,_,_,_,_,_,_,_,_,rfl,yaF.of0 M,?_⟩
 refine (h.do (by omega) (o:=ykS 1 0 0 2) (rs:=rs) (ts:=ya8) (hW.prod hR (by omega))).mono ?_
 rintro _ w11 ⟨fs4,ps4,F5,rfl,h',M,G,hf4,-,ho4⟩
 have hK:=fun es ts => hO.kept (es:=es) (ts:=ts) M
 replace N:Mod [] w w11:=N.go0 M fun k hk => (h.lo k hk).1
 replace hO:=hO.grow G M.size
 clear h
 have h:BSt w w11 b xk5 5 F5:=h'
 clear h'
 refine ⟨_,_,_,_,_,_,_,_,_,_,rfl,hK _ _,?_⟩
 clear hR hW
 intro bw12_0 fw12_0 bw12_1 fw12_1 w12 A
 have sA:=A.mod.size
 have l0:=A.lt bw12_0 (by simp)
 have l1:=A.lt bw12_1 (by simp)
 have hO2:yjJ (_ ++ [bw12_0,bw12_1]) F5 w12:=fun z hz => by
  rcases List.mem_append.1 hz with hz | hz
  ·exact hO.step sA z hz
  ·simp at hz
   rcases hz with rfl | rfl
   ·exact ⟨l0,fun hf => by have:=(h.lo _ hf).2; omega⟩
   ·exact ⟨l1,fun hf => by have:=(h.lo _ hf).2; omega⟩
 replace hO:=hO2
 clear hO2
 replace h:=h.keep0 A.mod
 replace N:Mod [] w w12:=N.go0 A.mod (by simp)
 have hW:=h
 refine (yuZ 1 9 w12).mono ?_
 rintro _ w13 ⟨rfl,M⟩
 replace h:=h.keep0 M
 replace N:Mod [] w w13:=N.go0 M (by simp)
 replace hO:=hO.step M.size
 refine ⟨_,_,_,_,_,_,_,_,_,_,_,_,_,_,_,_,_,_,rfl,yaF.of0 M,?_⟩
 refine (h.do (by omega) (o:=yuX 1 9) (rs:=ya8) (ts:=ya8) (fun w' _ => OpAt.nil rfl rfl)).mono ?_
 rintro _ w14 ⟨fs5,ps5,F6,rfl,h',M,G,hf5,-,ho5⟩
 have hK:=fun es ts => hO.kept (es:=es) (ts:=ts) M
 replace N:Mod [] w w14:=N.go0 M fun k hk => (h.lo k hk).1
 replace hO:=hO.grow G M.size
 clear h
 have h:BSt w w14 b xk6 6 F6:=h'
 clear h'
 refine ⟨_,_,_,_,_,_,_,_,_,_,rfl,hK _ _,?_⟩
 have hfr:=hf5
 have hfo:yjJ (yaN fs5.a) F6 w14:=fun z hz => ⟨(yaG hf5 z hz).2,fun hz' => (ho5 z hz').1 hz⟩
 intro bw15_0 fw15_0 w15 A
 have sA:=A.mod.size
 have l0:=A.lt bw15_0 (by simp)
 have hO2:=hO.add (fun k hk => (h.lo k hk).2) fw15_0 l0 sA
 replace hO:=hO2
 clear hO2
 replace h:=h.keep0 A.mod
 replace N:Mod [] w w15:=N.go0 A.mod (by simp)
 replace hfr:=hfr.keep0 A.mod
 replace hfo:=hfo.step sA
 have hW:=h
 refine (ysB mS w15).mono ?_
 rintro _ w16 ⟨ts,rfl,M,hR⟩
 replace h:=h.keep0 M
 replace N:Mod [] w w16:=N.go0 M (by simp)
 replace hO:=hO.step M.size
 replace hfr:=hfr.keep0 M
 replace hfo:=hfo.step M.size
 refine ⟨_,_,_,_,_,_,_,_,_,_,_,_,_,_,_,_,_,_,rfl,yaF.of0 M,?_⟩
 refine (h.do (by omega) (o:=yjF mS) (rs:=ya8) (ts:=ts) (hW.join hR)).mono ?_
 rintro _ w17 ⟨fs6,ps6,F7,rfl,h',M,G,hf6,-,ho6⟩
 have hK:=fun es ts => hO.kept (es:=es) (ts:=ts) M
 replace N:Mod [] w w17:=N.go0 M fun k hk => (h.lo k hk).1
 replace hfr:=yaA hfr M fun k hk hk' => (hfo k hk').2 hk
 replace hfo:=hfo.grow G M.size
 replace hO:=hO.grow G M.size
 clear h
 have h:BSt w w17 b xk7 7 F7:=h'
 clear h'
 refine ⟨_,_,_,_,_,_,_,_,_,_,rfl,hK _ _,?_⟩
 clear hR hW
 have hfl:=yaG hfr
 have sN:=N.size
 intro bw18_0 fw18_0 bw18_1 fw18_1 w18 A
 have sA:=A.mod.size
 have l0:=A.lt bw18_0 (by simp)
 have l1:=A.lt bw18_1 (by simp)
 have hO2:yjJ (_ ++ [bw18_0,bw18_1]) F7 w18:=fun z hz => by
  rcases List.mem_append.1 hz with hz | hz
  ·exact hO.step sA z hz
  ·simp at hz
   rcases hz with rfl | rfl
   ·exact ⟨l0,fun hf => by have:=(h.lo _ hf).2; omega⟩
   ·exact ⟨l1,fun hf => by have:=(h.lo _ hf).2; omega⟩
 replace hO:=hO2
 clear hO2
 replace h:=h.keep0 A.mod
 replace N:Mod [] w w18:=N.go0 A.mod (by simp)
 replace hfr:=hfr.keep0 A.mod
 replace hfo:=hfo.step sA
 have hlo:w.heap.size ≤ bw18_1:=by have:=fw18_1; omega
 have hnf:bw18_1 ∉ yaN fs5.a:=fun hz => by have:=(hfl _ hz).2; omega
 refine (h.do (by omega) (o:=ycL mS 1 2) (rs:=ya8) (ts:=ya8) (fun w' _ => OpAt.nil rfl rfl)).mono ?_
 rintro _ w19 ⟨fs7,ps7,F8,rfl,h',M,G,hf7,-,ho7⟩
 have hK:=fun es ts => hO.kept (es:=es) (ts:=ts) M
 replace N:Mod [] w w19:=N.go0 M fun k hk => (h.lo k hk).1
 replace hfr:=yaA hfr M fun k hk hk' => (hfo k hk').2 hk
 replace hfo:=hfo.grow G M.size
 replace hO:=hO.grow G M.size
 clear h
 have h:BSt w w19 b xk8 8 F8:=h'
 clear h'
 refine ⟨_,_,_,_,_,_,_,_,_,_,rfl,hK _ _,?_⟩
 intro bw20_0 fw20_0 w20 A
 have sA:=A.mod.size
 have hS:∀ z ∈ [bw18_1],z ∉ F8:=fun z hz => (hO z (by simp at hz ⊢; simp [hz])).2
 have l0:=A.lt bw20_0 (by simp)
 have hO2:=hO.add (fun k hk => (h.lo k hk).2) fw20_0 l0 sA
 replace hO:=hO2
 clear hO2
 replace h:=h.keep A.mod hS
 replace N:Mod [] w w20:=N.go0 A.mod fun z hz => by simp at hz; subst hz; exact hlo
 replace hfr:=yaA hfr A.mod fun z hz hz' => by simp at hz; subst hz; exact hnf hz'
 replace hfo:=hfo.step sA
 refine (h.do (by omega) (o:=ycL mS 1 3) (rs:=ya8) (ts:=ya8) (fun w' _ => OpAt.nil rfl rfl)).mono ?_
 rintro _ w21 ⟨fs8,ps8,F9,rfl,h',M,G,hf8,-,ho8⟩
 have hK:=fun es ts => hO.kept (es:=es) (ts:=ts) M
 replace N:Mod [] w w21:=N.go0 M fun k hk => (h.lo k hk).1
 replace hfr:=yaA hfr M fun k hk hk' => (hfo k hk').2 hk
 replace hfo:=hfo.grow G M.size
 replace hO:=hO.grow G M.size
 clear h
 have h:BSt w w21 b xk9 9 F9:=h'
 clear h'
 refine ⟨_,_,_,_,_,_,_,_,_,_,rfl,hK _ _,?_⟩
 intro bw22_0 fw22_0 w22 A
 have sA:=A.mod.size
 have l0:=A.lt bw22_0 (by simp)
 have hO2:=hO.add (fun k hk => (h.lo k hk).2) fw22_0 l0 sA
 replace hO:=hO2
 clear hO2
 replace h:=h.keep0 A.mod
 replace N:Mod [] w w22:=N.go0 A.mod (by simp)
 replace hfr:=hfr.keep0 A.mod
 replace hfo:=hfo.step sA
 refine (h.do (by omega) (o:=yHn) (rs:=ya8) (ts:=ya8) (fun w' _ => OpAt.nil rfl rfl)).mono ?_
 rintro _ w23 ⟨fs9,ps9,F10,rfl,h',M,G,hf9,-,ho9⟩
 have hK:=fun es ts => hO.kept (es:=es) (ts:=ts) M
 replace N:Mod [] w w23:=N.go0 M fun k hk => (h.lo k hk).1
 replace hfr:=yaA hfr M fun k hk hk' => (hfo k hk').2 hk
 replace hfo:=hfo.grow G M.size
 replace hO:=hO.grow G M.size
 clear h
 have h:BSt w w23 b yNb 10 F10:=h'
 clear h'
 refine ⟨_,_,_,_,_,_,_,_,_,_,rfl,hK _ _,?_⟩
 intro bw24_0 fw24_0 w24 A
 have sA:=A.mod.size
 have l0:=A.lt bw24_0 (by simp)
 have hO2:=hO.add (fun k hk => (h.lo k hk).2) fw24_0 l0 sA
 replace hO:=hO2
 clear hO2
 replace h:=h.keep0 A.mod
 replace N:Mod [] w w24:=N.go0 A.mod (by simp)
 replace hfr:=hfr.keep0 A.mod
 replace hfo:=hfo.step sA
 refine (h.do (by omega) (o:=yBE 12 5) (rs:=ya8) (ts:=ya8) (fun w' _ => OpAt.nil rfl rfl)).mono ?_
 rintro _ w25 ⟨fs10,ps10,F11,rfl,h',M,G,hf10,-,ho10⟩
 have hK:=fun es ts => hO.kept (es:=es) (ts:=ts) M
 replace N:Mod [] w w25:=N.go0 M fun k hk => (h.lo k hk).1
 replace hfr:=yaA hfr M fun k hk hk' => (hfo k hk').2 hk
 replace hfo:=hfo.grow G M.size
 replace hO:=hO.grow G M.size
 clear h
 have h:BSt w w25 b yNc 11 F11:=h'
 clear h'
 refine ⟨_,_,_,_,_,_,_,_,_,_,rfl,hK _ _,?_⟩
 intro bw26_0 fw26_0 w26 A
 have sA:=A.mod.size
 have l0:=A.lt bw26_0 (by simp)
 have hO2:=hO.add (fun k hk => (h.lo k hk).2) fw26_0 l0 sA
 replace hO:=hO2
 clear hO2
 replace h:=h.keep0 A.mod
 replace N:Mod [] w w26:=N.go0 A.mod (by simp)
 replace hfr:=hfr.keep0 A.mod
 replace hfo:=hfo.step sA
 refine (h.do (by omega) (o:=yBE 13 0) (rs:=ya8) (ts:=ya8) (fun w' _ => OpAt.nil rfl rfl)).mono ?_
 rintro _ w27 ⟨fs11,ps11,F12,rfl,h',M,G,hf11,-,ho11⟩
 have hK:=fun es ts => hO.kept (es:=es) (ts:=ts) M
 replace N:Mod [] w w27:=N.go0 M fun k hk => (h.lo k hk).1
 replace hfr:=yaA hfr M fun k hk hk' => (hfo k hk').2 hk
 replace hfo:=hfo.grow G M.size
 replace hO:=hO.grow G M.size
 clear h
 have h:BSt w w27 b yNd 12 F12:=h'
 clear h'
 refine ⟨_,_,_,_,_,_,_,_,_,_,rfl,hK _ _,?_⟩
 intro bw28_0 fw28_0 w28 A
 have sA:=A.mod.size
 have l0:=A.lt bw28_0 (by simp)
 have hO2:=hO.add (fun k hk => (h.lo k hk).2) fw28_0 l0 sA
 replace hO:=hO2
 clear hO2
 replace h:=h.keep0 A.mod
 replace N:Mod [] w w28:=N.go0 A.mod (by simp)
 replace hfr:=hfr.keep0 A.mod
 replace hfo:=hfo.step sA
 rw [yL9] at h
 refine (h.state yMa).mono ?_
 rintro _ w29 ⟨_,rfl,x,q,lv,mv,gv,rfl,hx,ht,M⟩
 have ex:=yI3 ht
 subst ex
 replace hfr:=hfr.keep0 M
 replace N:Mod [] w w29:=N.go0 M (by simp)
 refine ⟨_,_,_,_,_,_,_,_,_,_,_,_,_,_,_,_,_,_,_,_,rfl,yaF.of0 M,?_⟩
 refine (yFX (hx.in yFZ)).mono ?_
 rintro _ w30 ⟨_,rfl,pp,er,rfl,M,hE,_,hG⟩
 have er0:=hE.2 yI4
 subst er0
 obtain ⟨b2,_,rfl,_⟩:=hG rfl
 replace hfr:=hfr.keep0 M
 replace N:Mod [] w w30:=N.go0 M (by simp)
 refine ⟨_,_,rfl,yaF.of0 M,?_⟩
 refine (yqZ 0 w30).mono ?_
 rintro _ w31 ⟨_,rfl,M,hif⟩
 rw [if_neg (by decide)] at hif
 subst hif
 replace hfr:=hfr.keep0 M
 replace N:Mod [] w w31:=N.go0 M (by simp)
 refine ⟨_,_,rfl,yaF.of0 M,?_⟩
 refine brT (by kernel_rfl) (brT (by kernel_rfl) (brT (by kernel_rfl) (brT (by kernel_rfl) (brT (by kernel_rfl) (brT (by kernel_rfl) (brT (by kernel_rfl) (brT (by rw [hfr.1]; kernel_rfl) ?_)))))))
 refine (hfr.sl yd1).ix (i:=0) (x:=⟨1,vR⟩) (by kernel_rfl) fun q hq => yaK (x:=1) (by simpa [add_zero] using hq 0 _ rfl) ?_
 exact brT (by kernel_rfl) (brT (by kernel_rfl) (brT (by kernel_rfl) (brT (by kernel_rfl) (brT (by kernel_rfl) (brT (by kernel_rfl) (brT (by kernel_rfl) (brT (by kernel_rfl) (brT (by kernel_rfl) (brT (by kernel_rfl) (brT (by kernel_rfl) ⟨rfl,N⟩))))))))))
end Go.Proofs.YteldhjiiocmicaaGreat
namespace Go.Proofs.YteldhjiiocmicaaGreat
open Go Go.RowKit Go.ChangeShapes Go.WideShapes Go.ChangeAt
set_option linter.unusedVariables false
set_option linter.unusedSimpArgs false
theorem yF0 (w:World) (row:List Value) (h:OkT pP w 3 row) (_:row.length = Tryz.prog.cellsOf 3):∃ x:Int,row = (fun x:Int => [Value.int .i64 x]) x ∧ True:=by
 obtain ⟨x,e,_⟩:=h.int_inv Tryz.underlying3
 exact ⟨x,e,trivial⟩
end Go.Proofs.YteldhjiiocmicaaGreat
namespace Go.Proofs.YteldhjiiocmicaaGreat
open Go Go.RowKit Go.Maps Go.MapKept Go.Sort Go.Shelf
set_option linter.unusedVariables false
set_option linter.unusedSimpArgs false
theorem yzW {x m:Int} (h0:0 ≤ m) (h1:m ≤ 9223372036854775807):0 ≤ ysD .i64 x m ∧ ysD .i64 x m ≤ m:=by
 unfold ysD
 have e:(BitVec.ofInt IntKind.i64.bits m).toNat = m.toNat:=by
  show (BitVec.ofInt 64 m).toNat = _
  rw [BitVec.toNat_ofInt]
  have:m % ((2 ^ 64:Nat):Int) = m:=Int.emod_eq_of_lt h0 (by omega)
  rw [this]
 have h:(BitVec.ofInt IntKind.i64.bits x &&& BitVec.ofInt IntKind.i64.bits m).toNat ≤ m.toNat:=by
  rw [BitVec.toNat_and,← e]; exact Nat.and_le_right
 rw [yaI (by omega) (by omega)]
 omega
end Go.Proofs.YteldhjiiocmicaaGreat
namespace Go.Proofs.YteldhjiiocmicaaGreat
open Go Go.RowKit Go.Maps Go.MapKept Go.Sort Go.Shelf
set_option linter.unusedVariables false
set_option linter.unusedSimpArgs false
theorem yBG {l:List ByteArray} (h:ybB l = true):ycW l = l:=by
 have hp:=ywS h
 have e:yeQ (l.map kb) = l.map kb:=by
  unfold yeQ
  refine List.mergeSort_of_pairwise (List.pairwise_map.2 (hp.imp fun {a b} hab => ?_))
  unfold yb8 at hab
  rw [bytesLess_eq,decide_eq_true_eq,Lib.toList_data,Lib.toList_data] at hab
  exact decide_eq_true (List.le_of_lt hab)
 unfold ycW
 rw [e,List.map_map,show (fb ∘ kb) = id from funext yHV,List.map_id]
theorem yEN:ycW [mS,nS] = [mS,nS]:=yBG (by kernel_rfl)
def yNe:List SegS:=[⟨0,10,ynT 0 (List.replicate 10 vR)⟩]
def yu0 (m:ByteArray):PSeat:=⟨m,[tS],5,0⟩
def rG:GL:=[(mS,yu0 mS),(nS,yu0 nS)]
def rS (ms:OL):PBr:=⟨16,0,[(tS,2)],[],[],[(⟨tS,0⟩,yNe),(⟨tS,1⟩,ytH)],[(gS,⟨2,false,rG⟩)],ms⟩
theorem rS0:(doF (doF (doF (doF (br0 16) (ypO 2)).1 (ykS 0 0 0 10)).1 (yjF mS)).1 (yjF nS)).1 = rS []:=by kernel_rfl
theorem yNN:(doF (doF (doF (doF (br0 16) (ypO 2)).1 (ykS 0 0 0 10)).1 (yjF mS)).1 (yjF nS)).2.gen = 2:=by kernel_rfl
theorem yMb:ydK rG = [yu0 mS,yu0 nS]:=by
 unfold ydK
 rw [show rG.map (·.1) = [mS,nS] by rfl,yEN]
 kernel_rfl
theorem yNO (m:ByteArray) (g:Int):ycF 2 false rG (ycR [(tS,2)]) m g = if ybM 2 rG m g ≠ 0 then (ybM 2 rG m g,[]) else (0,([[⟨tS,0⟩],[⟨tS,1⟩]]:List (List PPart)).getD ([mS,nS].findIdx (eqS m)) []):=by
 unfold ycF
 rw [yMb,show rG.map (·.1) = [mS,nS] by rfl,yEN]
 rw [show ycR [(tS,2)] = [⟨tS,2⟩] by kernel_rfl]
 rw [if_neg (by rw [show ycQ [⟨tS,2⟩] ([yu0 mS,yu0 nS].map yn4) = 0 by kernel_rfl]; simp)]
 rw [show ywW false [⟨tS,2⟩] ([yu0 mS,yu0 nS].map yn4) = [[⟨tS,0⟩],[⟨tS,1⟩]] by kernel_rfl]
def rM (t:Int):OL:=if t < 0 then [] else [((gS,⟨tS,0⟩),t)]
theorem yF1 {m:ByteArray} (hm:ybQ m = true) {g off:Int} (hg:num g = true) (ho:num off = true):opE (ycL m g off) = 0:=by
 unfold opE
 rw [if_neg (by simp [ycL])]
 have h1:ybQ tS = true:=by kernel_rfl
 have h2:ybQ gS = true:=by kernel_rfl
 have hf:yvJ (ycL m g off) = true:=by
  unfold yvJ ymK
  simp [ycL,ha,yMh,hm,h1,h2]
  kernel_rfl
 rw [if_neg (by rw [hf]; decide),if_neg (by
  show ¬ (num 0 && num 0 && num off && num g) = false
  rw [hg,ho,show num 0 = true by kernel_rfl]; decide),if_neg (by simp [ycL])]
theorem rdo {ms:OL} {m:ByteArray} {g off:Int} (hm:ybQ m = true) (hg:num g = true) (ho:num off = true):doF (rS ms) (ycL m g off) = ygV (rS ms) (ycL m g off):=by
 unfold doF ylD
 rw [if_neg (fun h => h (yF1 hm hg ho)),if_neg (by simp [ycL,ygW]),if_neg (by rw [show (lkp (rS ms).groups (ycL m g off).g).isSome = true by rfl]; simp)]
 simp [ycL]
theorem yHo {ms:OL} {m:ByteArray} {g off:Int}:ycY (rS ms) (ycL m g off) = if ybM 2 rG m g ≠ 0 then (ybM 2 rG m g,[]) else (0,([[⟨tS,0⟩],[⟨tS,1⟩]]:List (List PPart)).getD ([mS,nS].findIdx (eqS m)) []):=by
 unfold ycY
 rw [show ya5 (rS ms) (ycL m g off).g = ⟨2,false,rG⟩ by rfl]
 exact yNO m g
theorem yNP (t:Int):(lkp (rM t) (gS,⟨tS,0⟩)).getD 0 = if t > 0 then t else 0:=by
 unfold rM
 split
 ·simp [lkp]; omega
 ·simp [lkp]; omega
theorem yMK {t off:Int} (ht:-1 ≤ t ∧ t ≤ 10) (ho:0 ≤ off ∧ off ≤ 15):doF (rS (rM t)) (ycL mS 2 off) = if off > 10 then (rS (rM t),ygE 61) else if off < t then (rS (rM t),ygE 120) else (rS (rM off),ygE 0):=by
 rw [rdo (by kernel_rfl) (by kernel_rfl) (by simp [num]; omega)]
 have hg:ycY (rS (rM t)) (ycL mS 2 off) = (0,[⟨tS,0⟩]):=by
  rw [yHo,if_neg (by rw [show ybM 2 rG mS 2 = 0 by kernel_rfl]; simp)]
  rw [show ([[⟨tS,0⟩],[⟨tS,1⟩]]:List (List PPart)).getD ([mS,nS].findIdx (eqS mS)) [] = [⟨tS,0⟩] by kernel_rfl]
 have he:yfO (ycG (rS (rM t)) (ycL mS 2 off).part) = 10:=by
  rw [show ycG (rS (rM t)) (ycL mS 2 off).part = yNe by rfl]; kernel_rfl
 unfold ygV
 rw [hg,he,if_neg (by simp),if_neg (by simp [ycL])]
 by_cases h1:off > 10
 ·rw [if_pos (show (ycL mS 2 off).off > 10 from h1),if_pos h1]
 rw [if_neg (show ¬ (ycL mS 2 off).off > 10 from h1),if_neg h1]
 have hmay:ydD ⟨(ycL mS 2 off).g,(ycL mS 2 off).part,(ycL mS 2 off).off⟩ = true:=by
  have h1:ybQ tS = true:=by kernel_rfl
  have h2:ybQ gS = true:=by kernel_rfl
  have hn:num off = true:=by simp [num]; omega
  show (ybQ gS && ybQ tS && num 0 && num off) = true
  rw [h2,h1,hn]; kernel_rfl
 have hput:ymZ (rS (rM t)).marks ⟨(ycL mS 2 off).g,(ycL mS 2 off).part,(ycL mS 2 off).off⟩ = if off < t then 120 else 0:=by
  unfold ymZ
  rw [hmay,if_neg (by simp)]
  rw [show (lkp (rS (rM t)).marks ((ycL mS 2 off).g,(ycL mS 2 off).part)).getD 0 = if t > 0 then t else 0 from yNP t]
  show (if _ > off then (120:Int) else 0) = _
  by_cases h2:off < t
  ·rw [if_pos h2,if_pos (by split <;> omega)]
  ·rw [if_neg h2,if_neg (by split <;> omega)]
 rw [hput]
 by_cases h2:off < t
 ·simp only [if_pos h2]; rfl
 ·simp only [if_neg h2,if_true]
  refine congrArg (fun x => (x,ygE 0)) ?_
  show ({ rS (rM t) with marks:=put (rM t) (gS,⟨tS,0⟩) off }:PBr) = rS (rM off)
  have:put (rM t) (gS,⟨tS,0⟩) off = rM off:=by
   unfold rM
   rw [if_neg (show ¬ off < 0 by omega)]
   split <;> simp [put]
  rw [this]; rfl
theorem yzX {t off g:Int} (ho:0 ≤ off ∧ off ≤ 15) (hg:0 ≤ g ∧ g ≤ 100):doF (rS (rM t)) (ycL nS g off) = (rS (rM t),ygE (if g = 2 then 130 else 111)):=by
 rw [rdo (by kernel_rfl) (by simp [num]; omega) (by simp [num]; omega)]
 unfold ygV
 rw [yHo]
 have hf:ybM 2 rG nS g = if g ≠ 2 then 111 else 0:=by
  unfold ybM
  rw [if_neg (by rw [show (lkp rG nS).isSome = true by kernel_rfl]; simp)]
 rw [hf]
 by_cases h:g = 2
 ·subst h
  simp only [ne_eq,not_true_eq_false,if_false,if_true]
  rw [show ([[⟨tS,0⟩],[⟨tS,1⟩]]:List (List PPart)).getD ([mS,nS].findIdx (eqS nS)) [] = [⟨tS,1⟩] by kernel_rfl]
  rw [if_pos (by simp [ycL])]
 ·simp [h]
theorem yI5 {t:Int}:doF (rS (rM t)) yHn = (rS (rM t),if t ≥ 0 then ⟨0,t,1,0,[],[]⟩ else ygE 0):=by
 have hE:opE yHn = 0:=by kernel_rfl
 unfold doF ylD
 rw [if_neg (fun h => h hE),if_neg (by rw [show ygP (rS (rM t)).cat yHn.part = true by kernel_rfl]; simp),if_neg (by simp [yHn,yu1])]
 rw [show yHn.kind = 11 from rfl]
 simp only [show ¬ ((11:Int) = 0) by decide,show ¬ ((11:Int) = 1) by decide,show ¬ ((11:Int) = 2) by decide,show ¬ ((11:Int) = 3) by decide,show ¬ ((11:Int) = 4) by decide,show ¬ ((11:Int) = 5) by decide,show ¬ ((11:Int) = 6) by decide,show ¬ ((11:Int) = 7) by decide,show ¬ ((11:Int) = 8) by decide,show ¬ ((11:Int) = 9) by decide,show ¬ ((11:Int) = 10) by decide,if_false,if_true]
 unfold yfU
 refine congrArg (fun x => (rS (rM t),x)) ?_
 show (if (lkp (rM t) (gS,⟨tS,0⟩)).isSome = true then (⟨0,(lkp (rM t) (gS,⟨tS,0⟩)).getD 0,1,0,[],[]⟩:PRep) else ygE 0) = _
 unfold rM
 by_cases h:t < 0
 ·rw [if_pos h,if_neg (show ¬ t ≥ 0 by omega)]; rfl
 ·rw [if_neg h,if_pos (show t ≥ 0 by omega)]; simp [lkp]
theorem BSt.do0 {w0 w:World} {b N:Nat} {s:PBr} {F T:List Nat} (h:BSt w0 w b s N F) (hN:N + 1 ≤ 900) (hO:yjJ T F w) (M0:Mod [] w0 w) {o:POp} (h1:o.b.recs = []) (h2:o.topics = []) :
  Calls pP 6 #[.pointer (some ⟨b,0,none⟩),o.v ya8 ya8] w fun e w' => ∃ (fs ps:Sl) (F':List Nat),e = .returned ((doF s o).2.v fs ps) ∧ BSt w0 w' b (doF s o).1 (N + 1) F' ∧ yjJ T F' w' ∧ (∀ es ts,yaV es ts T w w') ∧ Mod [] w0 w':=by
 refine (h.do hN (o:=o) (rs:=ya8) (ts:=ya8) fun w' _ => OpAt.nil h1 h2).mono ?_
 rintro _ w' ⟨fs,ps,F',rfl,h',M,G,_,_,_⟩
 exact ⟨fs,ps,F',rfl,h',hO.grow G M.size,fun es ts => hO.kept M,M0.go0 M fun k hk => (h.lo k hk).1⟩
theorem BSt.var {w0 w w':World} {b N:Nat} {s:PBr} {F T:List Nat} (h:BSt w0 w b s N F) (hO:yjJ T F w) (M0:Mod [] w0 w) {x:Nat} {S:List Nat} (A:Adv S [x] w w') (hx:w.heap.size ≤ x) (hS:∀ k ∈ S,k ∈ T ∧ w0.heap.size ≤ k):BSt w0 w' b s N F ∧ yjJ (T ++ [x]) F w' ∧ Mod [] w0 w' :=
 ⟨h.keep A.mod fun k hk => (hO k (hS k hk).1).2,hO.add (fun k hk => (h.lo k hk).2) hx (A.lt x (by simp)) A.mod.size,M0.go0 A.mod fun k hk => (hS k hk).2⟩
set_option maxHeartbeats 4000000 in
theorem yBH {w:World} {a:Option Addr} {n c:Nat} {l:List Int} (hl:ybF w 1 ycO a n l) (other:Int) :
  Calls pP 4 #[.slice a n c,.int .i64 other] w fun e w' => e = .returned (.bool true) ∧ Mod [] w w':=by
 have hn:=hl.1
 refine ya0 (yI1 ?_)
 refine (BSt.new (Mod.refl w) (room:=16) (by decide)).mono ?_
 rintro _ w4 ⟨b,F0,rfl,M4,h⟩
 refine ⟨_,_,rfl,brF rfl (brF rfl ?_)⟩
 refine (yuY 2 w4).mono ?_
 rintro _ w5 ⟨rfl,M5⟩
 replace h:=h.keep0 M5
 have N5:=M4.go0 M5 (by simp)
 refine ⟨_,_,_,_,_,_,_,_,_,_,_,_,_,_,_,_,_,_,rfl,?_⟩
 refine (h.do0 (by omega) yjJ.nil N5 (o:=ypO 2) rfl rfl).mono ?_
 rintro _ w6 ⟨fs,ps,F1,rfl,h6,-,-,N6⟩
 refine ⟨_,_,_,_,_,_,_,_,_,_,rfl,?_⟩
 refine (ysC 0 0 0 (n:=10) (by rfl) (by omega) w6).mono ?_
 rintro _ w7 ⟨rs,rfl,M7,hR⟩
 have h7:=h6.keep0 M7
 have N7:=N6.go0 M7 (by simp)
 refine ⟨_,_,_,_,_,_,_,_,_,_,_,_,_,_,_,_,_,_,rfl,?_⟩
 refine (h7.do (by omega) (o:=ykS 0 0 0 10) (rs:=rs) (ts:=ya8) (h6.prod hR (by omega))).mono ?_
 rintro _ w8 ⟨fs,ps,F2,rfl,h8,M8,G8,-,-,-⟩
 have N8:=N7.go0 M8 fun k hk => (h7.lo k hk).1
 refine ⟨_,_,_,_,_,_,_,_,_,_,rfl,?_⟩
 refine (ysB mS w8).mono ?_
 rintro _ w9 ⟨ts,rfl,M9,hR9⟩
 have h9:=h8.keep0 M9
 have N9:=N8.go0 M9 (by simp)
 refine ⟨_,_,_,_,_,_,_,_,_,_,_,_,_,_,_,_,_,_,rfl,?_⟩
 refine (h9.do (by omega) (o:=yjF mS) (rs:=ya8) (ts:=ts) (h8.join hR9)).mono ?_
 rintro _ w10 ⟨fs,ps,F3,rfl,h10,M10,G10,-,-,-⟩
 have N10:=N9.go0 M10 fun k hk => (h9.lo k hk).1
 refine ⟨_,_,_,_,_,_,_,_,_,_,rfl,?_⟩
 refine (ysB nS w10).mono ?_
 rintro _ w11 ⟨ts2,rfl,M11,hR11⟩
 have h11:=h10.keep0 M11
 have N11:=N10.go0 M11 (by simp)
 refine ⟨_,_,_,_,_,_,_,_,_,_,_,_,_,_,_,_,_,_,rfl,?_⟩
 refine (h11.do (by omega) (o:=yjF nS) (rs:=ya8) (ts:=ts2) (h10.join hR11)).mono ?_
 rintro _ w12 ⟨fs,ps,F4,rfl,h12,M12,G12,-,-,-⟩
 have N12:=N11.go0 M12 fun k hk => (h11.lo k hk).1
 refine ⟨_,_,_,_,_,_,_,_,_,_,rfl,?_⟩
 intro b1 f1 b2 f2 b3 f3 w13 A13
 rw [rS0] at h12
 rw [yNN]
 have h13:=h12.keep0 A13.mod
 have N13:=N12.go0 A13.mod (by simp)
 have s12:=N12.size
 have l1:=A13.lt b1 (by simp)
 have l2:=A13.lt b2 (by simp)
 have l3:=A13.lt b3 (by simp)
 have hO13:yjJ [b1,b2,b3] F4 w13:=fun x hx => by
  have hF:x ∉ F4:=fun hf => by have:=(h12.lo x hf).2; simp at hx; omega
  refine ⟨?_,hF⟩
  simp at hx; omega
 refine yBD (fun mm x10 x11 _ w' => ∃ (k N:Nat) (F:List Nat),x11 = k ∧ k ≤ 20 ∧ -1 ≤ x10 ∧ x10 ≤ 10 ∧ BSt w w' b (rS (rM x10)) N F ∧ N ≤ 5 + 4 * k ∧ yjJ [b1,b2,b3] F w' ∧ Mod [] w w' ∧ mm = 20 - k) 20
  ⟨0,4,F4,rfl,by omega,by omega,by omega,h13,by omega,hO13,N13,rfl⟩ ?_
 rintro mm t x11 y w1 ⟨k,N,F,rfl,hk,ht0,ht1,hb,hN,hO,M1,rfl⟩
 have fin:∀ {G:List Nat},yjJ [b1,b2,b3] G w1 → Calls pP 10 #[] w1 fun e w2 => ∃ t:Bool,e = .returned (.bool t) ∧ yaF [b1,b2,b3] w1 w2 ∧ (Value.bool t = .bool true ∧ Mod [] w w2):=fun _ => by
  refine (yBF w1).mono ?_
  rintro _ w2 ⟨rfl,M2⟩
  exact ⟨true,rfl,yaF.of0 M2,rfl,M1.go0 M2 (by simp)⟩
 refine yaC (fun hlt => ?_) fun hge => fin hO
 refine yaC (fun hlt2 => ?_) fun hge2 => fin hO
 obtain ⟨z,hz⟩:∃ z,l[k]? = some z:=⟨_,List.getElem?_eq_getElem (by omega)⟩
 refine (hl.keep0 M1).ix hz fun q hq => yaK (x:=z) (by simpa [add_zero] using hq 0 _ rfl) ?_
 obtain ⟨r1,r2⟩:=yzW (x:=z) (m:=15) (by omega) (by omega)
 generalize ysD .i64 z 15 = off at r1 r2 ⊢
 have fb3:w.heap.size ≤ b3:=by omega
 intro w270 A270
 have s270:=A270.mod.size
 have hb270:=hb.keep A270.mod fun x hx => by simp at hx; subst hx; exact (hO _ (by simp)).2
 have N270:=M1.go0 A270.mod fun x hx => by simp at hx; subst hx; exact fb3
 refine (hb270.do0 (by omega) (hO.step s270) N270 (o:=ycL mS 2 off) rfl rfl).mono ?_
 rintro _ w271 ⟨fs,ps,F5,rfl,h5,hO5,K5,N5'⟩
 refine ⟨_,_,_,_,_,_,_,_,_,_,rfl,K5 _ _,?_⟩
 have hc:=yMK (t:=t) (off:=off) ⟨ht0,ht1⟩ ⟨r1,r2⟩
 intro b4 f4
 have rest:∀ {t' want:Int} {w2:World},-1 ≤ t' → t' ≤ 10 → doF (rS (rM t)) (ycL mS 2 off) = (rS (rM t'),ygE want) → Adv [] [b4] w271 w2 → ∃ F6,BSt w w2 b (rS (rM t')) (N + 1) F6 ∧ yjJ ([b1,b2,b3] ++ [b4]) F6 w2 ∧ Mod [] w w2 ∧ (doF (rS (rM t)) (ycL mS 2 off)).2.e = want:=fun h1 h2 e A => by
  rw [e] at h5
  obtain ⟨z1,z2,z3⟩:=h5.var hO5 N5' A f4 (by simp)
  exact ⟨_,z1,z2,z3,by rw [e]; rfl⟩
 refine yaC (fun g1 => ?_) fun g1 => ?_
 case' refine_1 =>
  intro w369 A369
  rw [if_pos g1] at hc
  obtain ⟨F6,h6,hO6,N6',he⟩:=rest ht0 ht1 hc A369
 case' refine_2 => refine yaC (fun g2 => ?_) fun g2 => ?_
 case' refine_2.refine_1 =>
  intro w369 A369
  rw [if_neg g1,if_pos g2] at hc
  obtain ⟨F6,h6,hO6,N6',he⟩:=rest ht0 ht1 hc A369
 case' refine_2.refine_2 =>
  intro w369 A369
  rw [if_neg g1,if_neg g2] at hc
  have ht0:-1 ≤ off:=by omega
  have ht1:off ≤ 10:=by omega
  obtain ⟨F6,h6,hO6,N6',he⟩:=rest ht0 ht1 hc A369
 all_goals
  refine yFY ?_
  intro b284 f284 w298 A298
  obtain ⟨h7,hO7,N7'⟩:=h6.var hO6 N6' A298 f284 (by simp)
  refine (h7.do0 (by omega) hO7 N7' (o:=ycL nS 2 off) rfl rfl).mono ?_
  rintro _ w299 ⟨fs,ps,F8,rfl,h8,hO8,K8,N8'⟩
  rw [yzX ⟨r1,r2⟩ ⟨by omega,by omega⟩] at h8
  refine ⟨_,_,_,_,_,_,_,_,_,_,rfl,K8 _ _,?_⟩
  intro b310 f310 w324 A324
  obtain ⟨h9,hO9,N9'⟩:=h8.var hO8 N8' A324 f310 (fun x hx => by simp at hx; subst hx; exact ⟨by simp,by have:=N6'.size; omega⟩)
  obtain ⟨q1,q2⟩:=yzW (x:=other) (m:=7) (by omega) (by omega)
  have hg:IntKind.wrap .i64 (IntKind.wrap .i64 (2 + 1) + ysD .i64 other 7) = 3 + ysD .i64 other 7:=by
   rw [show IntKind.wrap .i64 (2 + 1) = 3 by kernel_rfl,yaI (by omega) (by omega)]
  rw [hg]
  refine (h9.do0 (by omega) hO9 N9' (o:=ycL nS (3 + ysD .i64 other 7) off) rfl rfl).mono ?_
  rintro _ w325 ⟨fs,ps,F10,rfl,h10,hO10,K10,N10'⟩
  rw [yzX ⟨r1,r2⟩ ⟨by omega,by omega⟩] at h10
  refine ⟨_,_,_,_,_,_,_,_,_,_,rfl,K10 _ _,?_⟩
  intro b336 f336 w350 A350
  obtain ⟨h11,hO11,N11'⟩:=h10.var hO10 N10' A350 f336 (by simp)
  refine (h11.do0 (by omega) hO11 N11' (o:=yHn) rfl rfl).mono ?_
  rintro _ w351 ⟨fs,ps,F12,rfl,h12,hO12,K12,N12'⟩
  rw [yI5] at h12
  refine ⟨_,_,_,_,_,_,_,_,_,_,rfl,K12 _ _,?_⟩
  intro b362 f362
  refine brF (by rw [he]; simp) (brF (by rw [yzX ⟨r1,r2⟩ ⟨by omega,by omega⟩]; simp [ygE]) (brF (by rw [yzX ⟨r1,r2⟩ ⟨by omega,by omega⟩,if_neg (by omega)]; simp [ygE]) (brF ?_ (brF ?_ ?_))))
  ·rw [yI5]
   split <;> split <;> simp [ygE] <;> omega
  ·rw [yI5]
   split <;> simp [ygE] <;> omega
  intro w368 A368
  have hO13:yjJ [b1,b2,b3] F12 w368:=fun x hx => (hO12.step A368.mod.size) x (by simp at hx ⊢; omega)
  exact yBC (20 - (k + 1)) (by omega) ⟨k + 1,_,F12,ye5 (by omega),by omega,by omega,by omega,h12.keep0 A368.mod,by omega,hO13,N12'.go0 A368.mod (by simp),rfl⟩
end Go.Proofs.YteldhjiiocmicaaGreat
namespace Go.Proofs.YteldhjiiocmicaaGreat.brokerReads
open Go.ChangeShapes Go.WideShapes Go.ChangeAt Go.RowKit
open Go.ChangeMaps (open_string shut_string)
set_option linter.unusedVariables false
theorem own:ownKnob Tryz.prog.godebug = none:=by kernel_rfl
theorem laidOut:laidOutB Tryz.prog = true:=by kernel_rfl
set_option maxRecDepth 100000 in
theorem lifted (os:Os) (started:os.Started) (H:Type) (enc:TypeId × Value → H) :
    ReturnsInHanded {} Tryz.checked os 4 .any (Rows.brokerReadsSpec.pre6 enc Tryz.prog Tryz.f4 Rows.brokerReadsRow.domain false) (Rows.brokerReadsSpec.post enc Tryz.prog Tryz.f4 false true false false):=by
  refine returnsInHanded_of_change (C:=Tryz.checked) own started (by kernel_rfl) Tryz.func4
    (ChangeSpec.witness6 (enc:=enc) (C:=Tryz.checked) false ⟨#[],#[.slice none 0 0,.int .i64 0],[]⟩ 8 (by kernel_rfl) (by kernel_rfl) (by kernel_rfl) (by kernel_rfl)) ?_
  intro W base args ds gs before hval0 hW hcnd _
  have hval:∀ (j:Nat) t v,Tryz.f4.params[j]? = some t → args[j]? = some v → Value.okWide Tryz.prog W .any base t v:=hval0
  have hW':=hW
  obtain ⟨p,q,hA0,hV,rfl,hfz,hnd⟩:=hW
  have hA:DataW.TrodAll enc Tryz.prog W 0 (fun _ => true) true Tryz.f4.params.toList args.toList ds p:=hA0
  rw [Tryz.params4] at hA hval
  obtain ⟨v0,vs0,d0,ds0,p0,q0,hargs,rfl,rfl,h0,r0⟩:=trodAll_cons hA
  obtain ⟨v1,vs1,d1,ds1,p1,q1,rfl,rfl,rfl,h1,r1⟩:=trodAll_cons r0
  obtain ⟨rfl,rfl,rfl⟩:=trodAll_nil r1
  obtain rfl:args = #[v0,v1]:=by cases args; simp_all
  obtain ⟨rfl,rfl⟩:=trodVars_none hV
  have k0:=h0
  have lt0:∀ x ∈ p0,x.block < W.heap.size:=by obtain ⟨m,hm⟩:=k0; exact DataW.trod_lt m _ _ _ hm
  have k1:=h1
  have lt1:∀ x ∈ p1,x.block < W.heap.size:=by obtain ⟨m,hm⟩:=k1; exact DataW.trod_lt m _ _ _ hm
  obtain ⟨b0,len0,cap0,rfl⟩:=okWide_slice Tryz.underlying22 (hval 0 22 v0 rfl rfl)
  obtain ⟨fuel0,hf0⟩:=h0
  obtain ⟨b0',len0',cap0',l0,e0,s0,g0,u0,c0⟩:=(yHJ hf0).slice_inv Tryz.underlying22 (yF0 W)
  simp [Value.cells] at e0
  obtain ⟨rfl,rfl,rfl⟩:=e0
  rw [show Tryz.prog.cellsOf 3 = 1 by kernel_rfl] at s0
  obtain ⟨a1,rfl,_,_,w1⟩:=open_int Tryz.underlying3 (hval 1 3 v1 rfl rfl) h1
  clear hA0 hval0
  refine ((yBH (l:=l0) s0 a1 (c:=cap0))).mono fun e W' ⟨he,hM⟩ => ?_
  have bel:Below W.heap.size W W':=hM.below (by simp)
  subst he
  exact ⟨_,rfl,_,_,_,[],_,[],hW',trodAll_mk1 (shut_bool Tryz.underlying4 _),(trodAll_cons_mk (Below.trod laidOut (by kernel_rfl) (of_decide_eq_true (by kernel_rfl)) k0 bel lt0) (trodAll_cons_mk (Below.trod laidOut (by kernel_rfl) (of_decide_eq_true (by kernel_rfl)) k1 bel lt1) trodAll_mk0)),rfl,bel.frame _,fun h => by cases h⟩
theorem j0:(Rows.brokerReadsRow.wf (OpenSpec.ofChange Rows.brokerReadsSpec)) = true:=by kernel_rfl
theorem j1:(laidOutB Tryz.prog) = true:=by kernel_rfl
theorem j2:(mapsRowed Tryz.prog) = true:=by kernel_rfl
theorem j3:(Tryz.f4.params.all (Tryz.prog.readableRec ·)) = true:=by kernel_rfl
theorem j4:(namedTie Tryz.prog Rows.brokerReadsRow.named Rows.brokerReadsSpec.vars) = true:=by kernel_rfl
theorem j5:((Rows.brokerReadsRow.stops == [])) = true:=by kernel_rfl
theorem j6:((Tryz.prog.stops == [])) = true:=by kernel_rfl
theorem j7:((Rows.brokerReadsRow.knobs == [])) = true:=by kernel_rfl
theorem j8:((Tryz.prog.stopKnobs == [])) = true:=by kernel_rfl
theorem j9:((Rows.brokerReadsRow.inPlace == Tryz.prog.inPlace 4)) = true:=by kernel_rfl
theorem j10:((Rows.brokerReadsRow.unfollowed == Tryz.prog.unfollowed 4)) = true:=by kernel_rfl
theorem j11:((Rows.brokerReadsRow.recurses == Tryz.prog.recurses 4)) = true:=by kernel_rfl
theorem j12:((Rows.brokerReadsRow.named == Tryz.prog.varsNamed 4)) = true:=by kernel_rfl
theorem j13:((Rows.brokerReadsRow.maps == (Tryz.f4.params.toList ++ Rows.brokerReadsSpec.plain.varTypes Tryz.prog).any (Tryz.prog.mapsRec ·))) = true:=by kernel_rfl
theorem j14:((Rows.brokerReadsRow.ifaces == (Tryz.f4.params.toList ++ Rows.brokerReadsSpec.plain.varTypes Tryz.prog).any (Tryz.prog.ifacesRec ·))) = true:=by kernel_rfl
theorem j15:((Rows.brokerReadsRow.mapsOut == Tryz.prog.mapsAmong Tryz.f4.resultTypes.toList)) = true:=by kernel_rfl
theorem j16:((Rows.brokerReadsRow.loops == (Tryz.f4.params.toList ++ Rows.brokerReadsSpec.plain.varTypes Tryz.prog).any (Tryz.prog.loopsFrom ·))) = true:=by kernel_rfl
theorem j17:((Rows.brokerReadsRow.wideKeys == (Tryz.f4.params.toList ++ Rows.brokerReadsSpec.plain.varTypes Tryz.prog ++ Tryz.f4.resultTypes.toList).any (Tryz.prog.wideKeysFrom ·))) = true:=by kernel_rfl
theorem j18:(Rows.brokerReadsSpec.vars.all (Tryz.prog.varReadable ·)) = true:=by kernel_rfl
theorem j19:(Tryz.f4.resultTypes.all (fun t => Tryz.prog.readableRec t && decide (t < Tryz.prog.types.size))) = true:=by kernel_rfl
theorem j20:((Rows.brokerReadsRow.ifacesOut == Tryz.f4.resultTypes.toList.any (Tryz.prog.ifacesRec ·))) = true:=by kernel_rfl
theorem j21:((Rows.brokerReadsRow.loopsOut == Tryz.f4.resultTypes.toList.any (Tryz.prog.loopsFrom ·))) = true:=by kernel_rfl
theorem j22:((Rows.brokerReadsRow.plainKeys == Tryz.prog.plainKeys)) = true:=by kernel_rfl
theorem j23:(Rows.brokerReadsRow.shortTexts.isNone) = true:=by kernel_rfl
theorem j24:(Tryz.prog.stopsHeard) = true:=by kernel_rfl
theorem j25:(Tryz.prog.mayEnter) = true:=by kernel_rfl
theorem j26:((Rows.brokerReadsRow.lifted == Tryz.prog.liftsFinal)) = true:=by kernel_rfl
theorem j27:((Tryz.prog.make == some Rows.brokerReadsRow.make)) = true:=by kernel_rfl
theorem j28:((Rows.brokerReadsRow.kinds == (if Rows.brokerReadsRow.domain.isEmpty then [] else Tryz.f4.params.toList.map fun t => match Tryz.prog.underlying t with | some (.int k) => some k | _ => none))) = true:=by kernel_rfl
theorem j29:((Rows.brokerReadsRow.pinned == Rows.brokerReadsRow.pinnedBy)) = true:=by kernel_rfl
theorem j30:((Rows.brokerReadsRow.veiled == (Tryz.f4.params.toList ++ Rows.brokerReadsSpec.plain.varTypes Tryz.prog ++ Tryz.f4.resultTypes.toList).any (Tryz.prog.veiledRec ·))) = true:=by kernel_rfl
theorem j31:(Rows.brokerReadsRow.veiledFits Tryz.prog Tryz.f4.params.toList (Tryz.f4.params.toList ++ Rows.brokerReadsSpec.plain.varTypes Tryz.prog ++ Tryz.f4.resultTypes.toList)) = true:=by kernel_rfl
theorem yiG {a b:Bool} (h:a = true) (k:b = true):(a && b) = true:=by rw [h,k]; rfl
set_option maxRecDepth 100000 in
theorem over:Rows.brokerReadsRow.holds Tryz.pinned (OpenSpec.ofChange Rows.brokerReadsSpec) :=
  OpenClaim.holds_of_wide 4 Tryz.f4 rfl rfl rfl rfl rfl rfl rfl ⟨rfl,rfl,rfl,rfl,rfl⟩ rfl rfl rfl rfl rfl (by kernel_rfl) Tryz.func4 (by unfold joinedFacts; exact yiG (yiG (yiG (yiG (yiG (yiG (yiG (yiG (yiG (yiG (yiG (yiG (yiG (yiG (yiG (yiG (yiG (yiG (yiG (yiG (yiG (yiG (yiG (yiG (yiG (yiG (yiG (yiG (yiG (yiG (yiG j0 j1) j2) j3) j4) j5) j6) j7) j8) j9) j10) j11) j12) j13) j14) j15) j16) j17) j18) j19) j20) j21) j22) j23) j24) j25) j26) j27) j28) j29) j30) j31)
    (of_decide_eq_true (by kernel_rfl)) (by unfold Func.isWrapper; first | (rw [if_pos (by decide +kernel)]; kernel_rfl) | (rw [if_neg (by decide +kernel)]; exact ⟨rfl,rfl⟩))
    (fun os started H enc _ => lifted os started H enc)
theorem proved:Rows.BrokerReadsSaid:=over
#print axioms proved
end Go.Proofs.YteldhjiiocmicaaGreat.brokerReads
