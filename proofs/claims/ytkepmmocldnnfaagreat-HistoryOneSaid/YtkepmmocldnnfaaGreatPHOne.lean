/- HistoryOne, for every input. No conditions. -/
import Derived.Test.YtkepmmocldnnfaaGreatPHOneK6
namespace Go.Proofs.YtkepmmocldnnfaaGreat
open Go Go.RowKit Go.Maps Go.MapKept
set_option linter.unusedVariables false
set_option linter.unusedSimpArgs false
theorem ygU {κ β:Type} [DecidableEq κ]:∀ {L:List (κ × β)} {k:κ} {v:β},lkp L k = some v → put L k v = L
 | [],_,_,h => by cases h
 | p :: r,k,v,h => by
  unfold lkp at h
  unfold put
  split at h
  ·rename_i e
   rw [if_pos e]
   cases h; subst e; rfl
  ·rename_i e
   rw [if_neg e,ygU h]
def yhU (e:Int):PRep:=⟨e,0,0,0,[],[]⟩
def ycK (s:PBr) (p:PPart):List SegS:=(lkp s.logs p).getD []
def ya8 (s:PBr) (g:ByteArray):PGrp:=(lkp s.groups g).getD ⟨0,false,[]⟩
def yvZ (s:PBr) (p:PPart) (L:List SegS):PBr:={ s with logs:=put s.logs p L }
def ygV (s:PBr) (g:ByteArray) (x:PGrp):PBr:={ s with groups:=put s.groups g x }
def ydT (t:ByteArray):Nat → List (PPart × List SegS) → List (PPart × List SegS)
 | 0,L => L
 | n + 1,L => put (ydT t n L) ⟨t,(n:Int)⟩ yt2
def ynA (s:PBr) (o:POp):PBr × PRep :=
 if yh5 s.cat o.part.t o.n = 0 then ({ s with cat:=put s.cat o.part.t o.n,logs:=ydT o.part.t o.n.toNat s.logs },yhU 0) else (s,yhU (yh5 s.cat o.part.t o.n))
def yfQ (s:PBr) (o:POp):PBr × PRep :=
 ({ s with eps:=yf7 s.eps o.n,dd:=ym0 s.eps s.dd o.n },if (yeK s.eps o.n).2.2 = 0 then ⟨0,0,(yeK s.eps o.n).1,(yeK s.eps o.n).2.1,[],[]⟩ else yhU (yeK s.eps o.n).2.2)
def yhA (s:PBr) (o:POp):PBr × PRep :=
 if (yhK s.eps s.dd o.part o.b).2.2 ≠ 0 then (s,yhU (yhK s.eps s.dd o.part o.b).2.2)
 else if (yhK s.eps s.dd o.part o.b).2.1 = true then (s,⟨0,(yhK s.eps s.dd o.part o.b).1,1,0,[],[]⟩)
 else if ynR s.room (ycK s o.part) o.b.recs ≠ 0 then (s,yhU (ynR s.room (ycK s o.part) o.b.recs))
 else ({ s with logs:=put s.logs o.part (ygO s.room (ycK s o.part) o.b.recs),dd:=ym1 s.eps s.dd o.part o.b (yfU (ycK s o.part)) },⟨0,yfU (ycK s o.part),0,0,[],[]⟩)
def ytV (s:PBr) (o:POp):PBr × PRep :=
 (s,if yc3 (ycK s o.part) o.off = 0 then ⟨0,yfU (ycK s o.part),ykP (ycK s o.part),0,yjV (ycK s o.part) o.off (if 64 < o.n then 64 else o.n),[]⟩ else yhU (yc3 (ycK s o.part) o.off))
def ynB (s:PBr) (o:POp):PBr × PRep :=
 ({ s with logs:=put s.logs o.part ((ycK s o.part).drop (yvF (ycK s o.part) o.off)),marks:=yo4 s.marks o.part (ykP ((ycK s o.part).drop (yvF (ycK s o.part) o.off))) },
  ⟨0,ykP ((ycK s o.part).drop (yvF (ycK s o.part) o.off)),(yvF (ycK s o.part) o.off:Nat),0,[],[]⟩)
def yi9 (s:PBr) (o:POp):PBr × PRep:=(yvZ s o.part (ynY (ycK s o.part)).2.2,⟨0,0,(ynY (ycK s o.part)).2.1,0,[],[]⟩)
def yfR (s:PBr) (o:POp):PBr × PRep:=(s,if (lkp s.marks (o.g,o.part)).isSome = true then ⟨0,(lkp s.marks (o.g,o.part)).getD 0,1,0,[],[]⟩ else yhU 0)
def yc2 (s:PBr) (o:POp):PSeat:=⟨o.m,o.topics,o.n,s.now⟩
def yAy (s:PBr) (o:POp):PBr × PRep :=
 if (lkp s.groups o.g).isSome = false ∧ 8 ≤ s.groups.length then (s,yhU 2)
 else if ybF (ya8 s o.g).gen (ya8 s o.g).robin (ya8 s o.g).G (yc2 s o) o.robin ≠ 0 then (s,yhU (ybF (ya8 s o.g).gen (ya8 s o.g).robin (ya8 s o.g).G (yc2 s o) o.robin))
 else (ygV s o.g ⟨IntKind.wrap .i64 ((ya8 s o.g).gen + 1),o.robin,put (ya8 s o.g).G o.m (yc2 s o)⟩,⟨0,0,0,IntKind.wrap .i64 ((ya8 s o.g).gen + 1),[],[]⟩)
def yDw (s:PBr) (o:POp):PBr × PRep :=
 (ygV s o.g ⟨(ya8 s o.g).gen,(ya8 s o.g).robin,if ynU (ya8 s o.g).gen (ya8 s o.g).G o.m o.gen s.now = 0 then yzX (ya8 s o.g).G o.m s.now else (ya8 s o.g).G⟩,yhU (ynU (ya8 s o.g).gen (ya8 s o.g).G o.m o.gen s.now))
def ytW (s:PBr) (o:POp):PBr × PRep :=
 (ygV s o.g ⟨if yb8 (ya8 s o.g).gen (ya8 s o.g).G o.m o.gen = 0 then ynT (ya8 s o.g).gen else (ya8 s o.g).gen,(ya8 s o.g).robin,if yb8 (ya8 s o.g).gen (ya8 s o.g).G o.m o.gen = 0 then del (ya8 s o.g).G o.m else (ya8 s o.g).G⟩,yhU (yb8 (ya8 s o.g).gen (ya8 s o.g).G o.m o.gen))
def ycZ (s:PBr) (o:POp):Int × List PPart:=ycN (ya8 s o.g).gen (ya8 s o.g).robin (ya8 s o.g).G (yj8 s.cat) o.m o.gen
def ybX (s:PBr) (o:POp):PRep:=if (ycZ s o).1 = 0 then ⟨0,0,0,0,[],(ycZ s o).2⟩ else yhU (ycZ s o).1
def ykA (s:PBr) (o:POp):PBr × PRep :=
 if (ycZ s o).1 ≠ 0 then (s,yhU (ycZ s o).1) else if (ycZ s o).2.any (fun q => decide (o.part = q)) = false then (s,yhU 130)
 else if o.off > yfU (ycK s o.part) then (s,yhU 61)
 else ({ s with marks:=if yqG s.marks ⟨o.g,o.part,o.off⟩ = 0 then put s.marks (o.g,o.part) o.off else s.marks },yhU (yqG s.marks ⟨o.g,o.part,o.off⟩))
def yHY (now:Int) (x:PGrp):PGrp:=⟨if 0 < yfP now x.G then ynT x.gen else x.gen,x.robin,ynV now x.G⟩
def yDx (now:Int) (l:List (ByteArray × PGrp)):Nat:=(l.map fun q => yfP now q.2.G).sum
def yAz (s:PBr) (o:POp):PBr × PRep :=
 if s.now + o.n > 1099511627776 then (s,yhU 2)
 else ({ s with now:=s.now + o.n,groups:=s.groups.map fun q => (q.1,yHY (s.now + o.n) q.2) },⟨0,s.now + o.n,(yDx (s.now + o.n) s.groups:Nat),0,[],[]⟩)
def ynC (s:PBr) (o:POp):PBr × PRep :=
 if o.kind = 0 then ynA s o else if o.kind = 1 then yfQ s o else if o.kind = 2 then yhA s o else if o.kind = 3 then ytV s o else if o.kind = 4 then ynB s o else if o.kind = 5 then yi9 s o
 else if o.kind = 6 then yAy s o else if o.kind = 7 then yDw s o else if o.kind = 8 then ytW s o else if o.kind = 9 then (s,ybX s o) else if o.kind = 10 then ykA s o else if o.kind = 11 then yfR s o else yAz s o
def yhL (k:Int):Bool:=decide (k = 2 ∨ k = 3 ∨ k = 4 ∨ k = 5 ∨ k = 11)
def yv0 (k:Int):Bool:=decide (k = 7 ∨ k = 8 ∨ k = 9 ∨ k = 10)
def doF (s:PBr) (o:POp):PBr × PRep :=
 if opE o ≠ 0 then (s,yhU (opE o)) else if yhL o.kind = true ∧ ynS s.cat o.part = false then (s,yhU 91) else if yv0 o.kind = true ∧ (lkp s.groups o.g).isSome = false then (s,yhU 110) else ynC s o
structure BrGood (s:PBr) (N:Nat):Prop where
 r1:1 ≤ s.room
 r2:s.room ≤ 64
 n0:0 ≤ s.now
 n1:s.now ≤ 1099511627776
 cl:s.cat.length ≤ 8
 ce:s.eps.length ≤ N
 cd:s.dd.length ≤ N
 cq:∀ q ∈ s.dd,q.2.length ≤ 5
 cg:s.groups.length ≤ 8
 gg:∀ q ∈ s.groups,q.2.G.length ≤ 8 ∧ ∀ x ∈ q.2.G,x.2.topics.length ≤ 8
 lg:∀ q ∈ s.logs,LogOk s.room q.2 ∧ q.2.length ≤ N + 1 ∧ ∀ x ∈ q.2,∀ f ∈ x.l,f.r.key.size ≤ 64
 cm:s.marks.length ≤ N
 has:∀ p,ynS s.cat p = true → (lkp s.logs p).isSome = true
 cat:∀ p,(lkp s.logs p).isSome = true → (lkp s.cat p.t).isSome = true
 nN:N ≤ 900
structure OpFine (o:POp):Prop where
 pt:o.part.t.size ≤ 16
 g:o.g.size ≤ 16
 m:o.m.size ≤ 16
 pn:num o.part.n = true
 n:num o.n = true
 off:num o.off = true
 gen:num o.gen = true
 bp:s64 o.b.prod
theorem OpFine.s {o:POp} (h:OpFine o):o.part.t.size ≤ maxLen ∧ o.g.size ≤ maxLen ∧ o.m.size ≤ maxLen:=by
 have:=h.pt; have:=h.g; have:=h.m
 unfold maxLen; omega
def ya4 (w:World) (b:Nat) (V:BrV) (r:PBr × PRep) (v:Value) (w':World):Prop :=
 ∃ (V':BrV) (fs ps:Sl),v = r.2.v fs ps ∧ BrStep w w' b V V' ∧ V'.st = r.1 ∧ Row w' w.heap.size 165 5 yk0 fs.a fs.n fs.c r.2.found ∧ Row w' w.heap.size 26 2 ylG ps.a ps.n ps.c r.2.parts ∧ ∀ z ∈ V'.foot b,z ∉ yaP fs.a ∧ z ∉ yaP ps.a
theorem yDy {b:Nat} {V:BrV}:∀ z ∈ V.foot b,z ∉ yaP ybM.a ∧ z ∉ yaP ybM.a:=fun z _ => by simp [ybM,yaP]
theorem ya4.plain {w w':World} {b:Nat} {V V':BrV} {s:PBr} {r:PRep} {v:Value} (hv:v = r.v ybM ybM) (hS:BrStep w w' b V V') (hst:V'.st = s) (h1:r.found = []) (h2:r.parts = []):ya4 w b V (s,r) v w' :=
 ⟨V',ybM,ybM,hv,hS,hst,by rw [h1]; exact Row.nil ..,by rw [h2]; exact Row.nil ..,yDy⟩
theorem ybZ (e:Int) (w:World):Calls pP 38 #[.int .i64 e] w fun x w' => x = .returned ((yhU e).v ybM ybM) ∧ Mod [] w w' :=
 ya2 (yJC fun b2 f2 w3 A3 => ⟨rfl,A3.mod⟩)
structure Own2 (w w5:World) (b3 b4:Nat):Prop where
 m:Mod [] w w5
 f3:w.heap.size ≤ b3
 l3:b3 < w5.heap.size
 f4:w.heap.size ≤ b4
 l4:b4 < w5.heap.size
theorem Own2.of {w w5:World} {b3 b4:Nat} (f3:w.heap.size ≤ b3) (f4:w.heap.size ≤ b4) (A:Adv [] [b4,b3] w w5):Own2 w w5 b3 b4:=⟨A.mod,f3,A.lt b3 (by simp),f4,A.lt b4 (by simp)⟩
theorem Own2.out {w w5:World} {b3 b4 b:Nat} {V V':BrV} (q:Own2 w w5 b3 b4) (h:ydH w b V) (gr:ybJ w5 (V.foot b) (V'.foot b)):b3 ∉ V'.foot b ∧ b4 ∉ V'.foot b:=by
 have:=q.f3; have:=q.f4; have:=q.l3; have:=q.l4
 refine ⟨fun hk => ?_,fun hk => ?_⟩ <;> rcases gr _ hk with hk | hk
 ·have:=h.lt _ hk; omega
 ·omega
 ·have:=h.lt _ hk; omega
 ·omega
theorem Own2.keep {w w5 w6 w7:World} {b3 b4 b:Nat} {V V':BrV} (q:Own2 w w5 b3 b4) (h:ydH w b V) (S:BrStep w5 w6 b V V') {F es:List Nat} {ts:List (Nat × TypeId)} (M:Mod F w6 w7) (hF:∀ k ∈ F,k ∈ V'.foot b) {i:BLab} (hl:∀ k ∈ F,V'.lab k = i) (hi:i ≠ .br):yb9 es ts [b,b3,b4] w6 w7 :=
 yaG.of M fun z hz _ hz' => by
  have ⟨o3,o4⟩:=q.out h S.gr
  simp only [List.mem_cons,List.not_mem_nil,or_false] at hz
  rcases hz with rfl | rfl | rfl
  ·exact hi ((hl _ hz').symm.trans S.ok.lb)
  ·exact o3 (hF _ hz')
  ·exact o4 (hF _ hz')
theorem ya4.fin {w w5 w6 w7:World} {b b3 b4:Nat} {V V':BrV} {s:PBr} {r:PRep} {v:Value} (q:Own2 w w5 b3 b4) (h:ydH w b V) (S:BrStep w5 w6 b V V') (M:Mod [b4] w6 w7) (hst:V'.st = s) (fs ps:Sl) (hv:v = r.v fs ps)
  (hf:Row w6 w5.heap.size 165 5 yk0 fs.a fs.n fs.c r.found) (hp:Row w6 w5.heap.size 26 2 ylG ps.a ps.n ps.c r.parts) (hx:∀ z ∈ V'.foot b,z ∉ yaP fs.a ∧ z ∉ yaP ps.a):ya4 w b V (s,r) v w7:=by
 have ⟨o3,o4⟩:=q.out h S.gr
 have f4:=q.f4
 have l4:=q.l4
 have s5:=q.m.size
 have out:∀ {a:Option Addr},(∀ z ∈ yaP a,w5.heap.size ≤ z) → ∀ z ∈ [b4],z ∉ yaP a:=fun ha z hz hz' => by simp at hz; subst hz; have:=ha _ hz'; omega
 refine ⟨V',fs,ps,hv,⟨S.ok.keep M (by simp; exact o4),((q.m.trans S.mod).trans M).less fun z hz hl => ?_,fun z hz => ?_⟩,hst,(yaE hf M (out fun z hz => (yaQ hf z hz).1)).rebase s5,(yaE hp M (out fun z hz => (yaQ hp z hz).1)).rebase s5,hx⟩
 ·simp only [List.nil_append,List.mem_append,List.mem_cons,List.not_mem_nil,or_false] at hz
  rcases hz with hz | hz
  ·exact hz
  ·omega
 ·rcases S.gr z hz with hz | hz
  ·exact .inl hz
  ·exact .inr (by omega)
theorem ya4.fin0 {w w5 w6 w7:World} {b b3 b4:Nat} {V V':BrV} {s:PBr} {r:PRep} {v:Value} (q:Own2 w w5 b3 b4) (h:ydH w b V) (S:BrStep w5 w6 b V V') (M:Mod [b4] w6 w7) (hst:V'.st = s) (hv:v = r.v ybM ybM) (h1:r.found = []) (h2:r.parts = []):ya4 w b V (s,r) v w7 :=
 ya4.fin q h S M hst ybM ybM hv (by rw [h1]; exact Row.nil ..) (by rw [h2]; exact Row.nil ..) yDy
theorem yyG {V:BrV} {p:PPart}:lkp V.st.logs p = (lkp V.LP p).map (·.L):=ydX (fun q:LogV => q.L) V.LP p
theorem ypG {V:BrV} {g:ByteArray}:lkp V.st.groups g = (lkp V.GP g).map (·.x):=ydX (fun q:GrpV => q.x) V.GP g
theorem yhB {V:BrV} {p:PPart} {v:LogV} (h:lkp V.LP p = some v):ycK V.st p = v.L:=by rw [ycK,yyG,h]; rfl
theorem yhC {V:BrV} {g:ByteArray} {v:GrpV} (h:lkp V.GP g = some v):ya8 V.st g = v.x:=by rw [ya8,ypG,h]; rfl
theorem ygW {V:BrV} {p:PPart} {v:LogV}:(put V.LP p v).map (fun q => (q.1,q.2.L)) = put V.st.logs p v.L:=(yeJ (fun q:LogV => q.L) V.LP p v).symm
theorem ygX {V:BrV} {g:ByteArray} {v:GrpV}:(put V.GP g v).map (fun q => (q.1,q.2.x)) = put V.st.groups g v.x:=(yeJ (fun q:GrpV => q.x) V.GP g v).symm
theorem yEZ (w:World):(zeroValue 84).run pP w = .ok (.pointer none) w:=by kernel_rfl
theorem yE0 (w:World):(zeroValue 101).run pP w = .ok (.pointer none) w:=by kernel_rfl
theorem ydH.lkLog {w:World} {b:Nat} {V:BrV} (h:ydH w b V) {p:PPart} {v:LogV} (hp:lkp V.LP p = some v) (h1:p.t.size ≤ maxLen) (h2:s64 p.n) :
  ∀ w',Mod [] w w' → (Instr.lookup 89 (.map (some V.ml)) (hkp p) false).run pP w' = .ok (.pointer (some ⟨v.p,0,none⟩)) w':=by
 obtain ⟨l,hl⟩:=yCp h1 h2
 have:=(h.logs nofun).lkP (k:=p) (T:=89) yKo yCo Tryz.underlying89 yEZ hl
 rw [hp] at this
 exact this
theorem ydH.logAt {w:World} {b:Nat} {V:BrV} (h:ydH w b V) {p:PPart} {x:LogV} (hx:lkp V.LP p = some x):ydR w x.p V.room x.L x.F:=h.log _ (yaW hx) nofun
theorem ydH.grpAt {w:World} {b:Nat} {V:BrV} (h:ydH w b V) {g:ByteArray} {x:GrpV} (hx:lkp V.GP g = some x):yc0 w x.p x.gen x.robin x.G x.F:=h.grp _ (yaW hx) nofun
theorem ydH.lkGrp {w:World} {b:Nat} {V:BrV} (h:ydH w b V) {g:ByteArray} (h1:g.size ≤ maxLen) :
  ∀ w',Mod [] w w' → (Instr.lookup 92 (.map (some V.mg)) (hks g) false).run pP w' = .ok ((lkp V.GP g).elim (.pointer none) GrpV.v) w' :=
 (h.gs nofun).lkP (k:=g) (T:=92) ye0 ybW Tryz.underlying92 yE0 (yb1 h1)
theorem yLh {V:BrV} {b:Nat}:∀ k ∈ V.Fm,k ∈ V.foot b:=fun k hk => yaF.2 (.inr (.inr (.inr (.inr (.inl hk)))))
theorem yL1 {V:BrV} {b:Nat}:∀ k ∈ V.Fc,k ∈ V.foot b:=fun k hk => yaF.2 (.inr (.inr (.inr (.inl hk))))
theorem yLi {V:BrV} {b:Nat}:∀ k ∈ V.Fo,k ∈ V.foot b:=fun k hk => yaF.2 (.inr (.inr (.inr (.inr (.inr (.inl hk))))))
theorem yyH {V:BrV} {b:Nat} {p:PPart} {v:LogV} (h:lkp V.LP p = some v):∀ k ∈ v.F,k ∈ V.foot b:=fun k hk => yaF.2 (.inr (.inr (.inr (.inr (.inr (.inr (.inl ⟨_,yaW h,hk⟩)))))))
theorem yyI {V:BrV} {b:Nat} {g:ByteArray} {v:GrpV} (h:lkp V.GP g = some v):∀ k ∈ v.F,k ∈ V.foot b:=fun k hk => yaF.2 (.inr (.inr (.inr (.inr (.inr (.inr (.inr ⟨_,yaW h,hk⟩)))))))
theorem ytX {w:World} {b N:Nat} {V:BrV} (h:ydH w b V) (g:BrGood V.st N) (o:POp) (rs ts:Sl) :
  Calls pP 40 #[.pointer (some ⟨b,0,none⟩),o.v rs ts] w fun e w' => ∃ v,e = .returned v ∧ ya4 w b V (yfQ V.st o) v w':=by
 refine yHN (h.cell nofun) ?_
 intro b3 f3 b4 f4 w5 A5
 have q:=Own2.of f3 f4 A5
 have h5:=h.keep0 A5.mod
 have hce:V.eps.length ≤ N:=g.ce
 have hcd:V.dd.length ≤ N:=g.cd
 have hN:=g.nN
 refine (yzM (h5.ded nofun) (by omega) (by omega) o.n).mono ?_
 rintro _ w6 ⟨rfl,F',hD,M6,G6⟩
 have S:=h5.setMk M6 hD G6
 refine ⟨_,_,_,rfl,q.keep h (BrStep.refl h5 (Mod.refl _)) M6 yLh h.lk nofun,yaD (fun g1 => ?_) fun g1 => ?_⟩
 ·have g1:(yeK V.eps o.n).2.2 ≠ 0:=by simpa using g1
  refine (ybZ _ w6).mono ?_
  rintro _ w21 ⟨rfl,M21⟩
  refine ⟨_,_,_,_,_,_,_,_,_,_,rfl,yaG.of0 M21,?_⟩
  intro w32 A32 _
  unfold yfQ
  rw [if_neg (show ¬ (yeK V.st.eps o.n).2.2 = 0 from g1)]
  exact ya4.fin0 q h (S.after0 M21) A32.mod rfl rfl rfl rfl
 ·have g1:(yeK V.eps o.n).2.2 = 0:=by simpa using g1
  intro w33 A33 _
  unfold yfQ
  rw [if_pos (show (yeK V.st.eps o.n).2.2 = 0 from g1)]
  exact ya4.fin0 q h S A33.mod rfl rfl rfl rfl
theorem yrH {w:World} {b N:Nat} {V:BrV} (h:ydH w b V) (g:BrGood V.st N) {o:POp} (ho:OpFine o) (rs ts:Sl) :
  Calls pP 46 #[.pointer (some ⟨b,0,none⟩),o.v rs ts] w fun e w' => ∃ v,e = .returned v ∧ ya4 w b V (yfR V.st o) v w':=by
 obtain ⟨z1,z2,z3⟩:=ho.s
 refine yHS (h.cell nofun) ?_
 intro b3 f3 b4 f4 w5 A5
 have q:=Own2.of f3 f4 A5
 have h5:=h.keep0 A5.mod
 refine (yCL (h5.off nofun) z2 z1 (yeX ho.pn)).mono ?_
 rintro _ w6 ⟨rfl,M6⟩
 have S:=BrStep.refl h5 M6
 refine ⟨_,_,rfl,yaG.of0 M6,yaD (fun g1 => ?_) fun g1 => ?_⟩
 ·have g1:(lkp V.marks (o.g,o.part)).isSome = false:=by simpa using g1
  intro w9 A9 _
  unfold yfR
  rw [if_neg (show ¬ (lkp V.st.marks (o.g,o.part)).isSome = true by rw [show V.st.marks = V.marks from rfl,g1]; decide)]
  exact ya4.fin0 q h S A9.mod rfl rfl rfl rfl
 ·have g1:(lkp V.marks (o.g,o.part)).isSome = true:=by simpa using g1
  intro w10 A10 _
  unfold yfR
  rw [if_pos (show (lkp V.st.marks (o.g,o.part)).isSome = true from g1)]
  exact ya4.fin0 q h S A10.mod rfl rfl rfl rfl
theorem BrGood.log {V:BrV} {N:Nat} (g:BrGood V.st N) {p:PPart} {v:LogV} (hp:lkp V.LP p = some v):LogOk V.room v.L ∧ v.L.length ≤ N + 1 ∧ ∀ x ∈ v.L,∀ f ∈ x.l,f.r.key.size ≤ 64 :=
 g.lg (p,v.L) (List.mem_map.2 ⟨_,yaW hp,rfl⟩)
theorem yDz {w:World} {b N:Nat} {V:BrV} (h:ydH w b V) (g:BrGood V.st N) {o:POp} (ho:OpFine o) {x:LogV} (hx:lkp V.LP o.part = some x) (rs ts:Sl) :
  Calls pP 43 #[.pointer (some ⟨b,0,none⟩),o.v rs ts] w fun e w' => ∃ v,e = .returned v ∧ ya4 w b V (ytV V.st o) v w':=by
 obtain ⟨z1,z2,z3⟩:=ho.s
 have hN:=g.nN
 obtain ⟨k1,k2,k3⟩:=g.log hx
 have hon:=yeX ho.n
 unfold s64 at hon
 refine yHP (h.cell nofun) ?_
 intro b3 f3 b4 f4 w5 A5
 have q:=Own2.of f3 f4 A5
 have h5:=h.keep0 A5.mod
 refine ⟨_,h5.lkLog hx z1 (yeX ho.pn),?_⟩
 intro w13 A13
 have h13:=h5.keep0 A13.mod
 have s13:=A13.mod.size
 refine (yzJ (h13.logAt hx) k1 (by omega) o.off (if 64 < o.n then 64 else o.n) (by split <;> omega)).mono ?_
 rintro _ w14 ⟨_,rfl,s',rfl,hR,M14⟩
 have h14:=h13.keep0 M14
 refine ⟨_,_,_,_,rfl,yaG.of0 M14,yaD (fun g1 => ?_) fun g1 => ?_⟩
 ·have g1:yc3 x.L o.off ≠ 0:=by simpa using g1
  refine (ybZ _ w14).mono ?_
  rintro _ w30 ⟨rfl,M30⟩
  refine ⟨_,_,_,_,_,_,_,_,_,_,rfl,yaG.of0 M30,?_⟩
  intro w41 A41 _
  unfold ytV
  rw [yhB hx,if_neg g1]
  exact ya4.fin0 q h (((BrStep.refl h5 A13.mod).after0 M14).after0 M30) A41.mod rfl rfl rfl rfl
 ·have g1:yc3 x.L o.off = 0:=by simpa using g1
  rw [if_pos g1] at hR
  refine (yfN (h14.logAt hx) k1 (by omega)).mono ?_
  rintro _ w45 ⟨rfl,M45⟩
  refine ⟨_,_,rfl,yaG.of0 M45,?_⟩
  intro w48 A48 _
  unfold ytV
  rw [yhB hx,if_pos g1]
  exact ya4.fin q h (((BrStep.refl h5 A13.mod).after0 M14).after0 M45) A48.mod rfl s' ybM rfl ((hR.keep0 M45).rebase s13) (Row.nil ..) fun z hz => ⟨fun hz' => by have:=(yaQ hR z hz').1; have:=h13.lt z hz; omega,by simp [ybM,yaP]⟩
theorem yAA {w:World} {b N:Nat} {V:BrV} (h:ydH w b V) (g:BrGood V.st N) {o:POp} (ho:OpFine o) {x:LogV} (hx:lkp V.LP o.part = some x) (rs ts:Sl) :
  Calls pP 44 #[.pointer (some ⟨b,0,none⟩),o.v rs ts] w fun e w' => ∃ v,e = .returned v ∧ ya4 w b V (ynB V.st o) v w':=by
 obtain ⟨z1,z2,z3⟩:=ho.s
 have hN:=g.nN
 have hmk:V.marks.length ≤ N:=g.cm
 obtain ⟨k1,k2,k3⟩:=g.log hx
 refine yHQ (h.cell nofun) ?_
 intro b3 f3 b4 f4 w5 A5
 have q:=Own2.of f3 f4 A5
 have h5:=h.keep0 A5.mod
 refine ⟨_,h5.lkLog hx z1 (yeX ho.pn),?_⟩
 intro w10 A10
 have h10:=h5.keep0 A10.mod
 refine (ys6 (h10.logAt hx) k1 (by omega) o.off).mono ?_
 rintro _ w11 ⟨rfl,F',hL,M11,G11⟩
 have S11:=(BrStep.refl h5 A10.mod).trans (h10.setLog hx M11 hL G11)
 refine ⟨_,rfl,q.keep h (BrStep.refl h5 A10.mod) M11 (yyH hx) (h.ll _ (yaW hx)) nofun,?_⟩
 have kd:=k1.drop (k:=yvF x.L o.off) (by have:=yCA x.L o.off; have:=List.length_pos_iff.2 k1.ne; omega)
 refine (yfN hL kd (by rw [List.length_drop]; omega)).mono ?_
 rintro _ w16 ⟨rfl,M16⟩
 refine ⟨_,_,rfl,yaG.of0 M16,?_⟩
 intro w19 A19
 have S19:=(S11.after0 M16).after0 A19.mod
 refine (yvK (S19.ok.off nofun) (by show V.marks.length ≤ 1000000; omega) o.part _).mono ?_
 rintro _ w20 ⟨_,rfl,n,rfl,hO,M20⟩
 have S20:=S19.trans (S19.ok.setOff M20 hO (ybJ.refl _ _))
 refine ⟨_,rfl,q.keep h S19 M20 yLi S19.ok.lo nofun,?_⟩
 intro w22 A22 _
 unfold ynB
 rw [yhB hx]
 refine ya4.fin0 q h S20 A22.mod ?_ rfl rfl rfl
 simp only [BrV.st]
 rw [ygW]; rfl
theorem yv1 {w:World} {b N:Nat} {V:BrV} (h:ydH w b V) (g:BrGood V.st N) {o:POp} (ho:OpFine o) {x:LogV} (hx:lkp V.LP o.part = some x) (rs ts:Sl) :
  Calls pP 45 #[.pointer (some ⟨b,0,none⟩),o.v rs ts] w fun e w' => ∃ v,e = .returned v ∧ ya4 w b V (yi9 V.st o) v w':=by
 obtain ⟨z1,z2,z3⟩:=ho.s
 have hN:=g.nN
 obtain ⟨k1,k2,k3⟩:=g.log hx
 refine yHR (h.cell nofun) ?_
 intro b3 f3 b4 f4 w5 A5
 have q:=Own2.of f3 f4 A5
 have h5:=h.keep0 A5.mod
 refine ⟨_,h5.lkLog hx z1 (yeX ho.pn),?_⟩
 refine (yrE (h5.logAt hx) k1 (by omega) fun s hs f hf => by have:=k3 s hs f hf; unfold maxLen; omega).mono ?_
 rintro _ w7 ⟨rfl,F',hL,M7,G7⟩
 have S7:=h5.setLog hx M7 hL G7
 refine ⟨_,rfl,q.keep h (BrStep.refl h5 (Mod.refl _)) M7 (yyH hx) (h.ll _ (yaW hx)) nofun,?_⟩
 intro w9 A9 _
 unfold yi9
 rw [yhB hx]
 refine ya4.fin0 q h S7 A9.mod ?_ rfl rfl rfl
 unfold yvZ
 simp only [BrV.st]
 rw [ygW]; rfl
theorem yv2 {w:World} {b N:Nat} {V:BrV} (h:ydH w b V) (g:BrGood V.st N) {o:POp} (ho:OpFine o) {x:LogV} (hx:lkp V.LP o.part = some x) {rs ts:Sl} (hr:∀ w',Mod (V.foot b) w w' → ybD w' 4 yhI rs.a rs.n o.b.recs) (hrl:o.b.recs.length ≤ 1000000) :
  Calls pP 42 #[.pointer (some ⟨b,0,none⟩),o.v rs ts] w fun e w' => ∃ v,e = .returned v ∧ ya4 w b V (yhA V.st o) v w':=by
 obtain ⟨z1,z2,z3⟩:=ho.s
 have hN:=g.nN
 obtain ⟨k1,k2,k3⟩:=g.log hx
 have hcq:∀ y ∈ V.dd,y.2.length ≤ 5:=g.cq
 have hrn:rs.n = o.b.recs.length:=(hr w ((Mod.refl _).less (by simp))).1
 refine yHO (h.cell nofun) ?_
 intro b3 f3 b4 f4 w5 A5
 have q:=Own2.of f3 f4 A5
 have h5:=h.keep0 A5.mod
 refine (ytC (h5.ded nofun) (fun y hy => by have:=hcq y hy; omega) (p:=o.part) (x:=o.b) (rs:=rs) hrn z1 (yeX ho.pn) ho.bp).mono ?_
 rintro _ w6 ⟨rfl,M6⟩
 have S6:=BrStep.refl h5 M6
 unfold yhA
 rw [yhB hx]
 refine ⟨_,_,_,rfl,yaG.of0 M6,yaD (fun g1 => ?_) fun g1 => ?_⟩
 ·have g1:(yhK V.eps V.dd o.part o.b).2.2 ≠ 0:=by simpa using g1
  refine (ybZ _ w6).mono ?_
  rintro _ w21 ⟨rfl,M21⟩
  refine ⟨_,_,_,_,_,_,_,_,_,_,rfl,yaG.of0 M21,?_⟩
  intro w32 A32 _
  rw [if_pos (show (yhK V.st.eps V.st.dd o.part o.b).2.2 ≠ 0 from g1)]
  exact ya4.fin0 q h (S6.after0 M21) A32.mod rfl rfl rfl rfl
 have g1:(yhK V.eps V.dd o.part o.b).2.2 = 0:=by simpa using g1
 have g1:¬ (yhK V.st.eps V.st.dd o.part o.b).2.2 ≠ 0:=fun hh => hh g1
 rw [if_neg g1]
 refine yaD (fun g2 => ?_) fun g2 => ?_
 ·intro w33 A33 _
  rw [if_pos (show (yhK V.st.eps V.st.dd o.part o.b).2.1 = true from g2)]
  exact ya4.fin0 q h S6 A33.mod rfl rfl rfl rfl
 rw [if_neg (show ¬ (yhK V.st.eps V.st.dd o.part o.b).2.1 = true from fun hh => by rw [show (yhK V.st.eps V.st.dd o.part o.b).2.1 = false from g2] at hh; cases hh)]
 intro w34 A34
 have S34:=S6.after0 A34.mod
 refine ⟨_,S34.ok.lkLog hx z1 (yeX ho.pn),?_⟩
 have N34:Mod [] w w34:=(A5.mod.go0 M6 (by simp)).go0 A34.mod (by simp)
 refine (ys4 (S34.ok.logAt hx) k1 (by omega) (rs:=o.b.recs) (fun w' M' => hr w' ((N34.trans M').less fun z hz _ => yyH hx z (by simpa using hz))) hrl).mono ?_
 rintro _ w36 ⟨rfl,F',hL,M36,G36⟩
 have S36:=S34.trans (S34.ok.setLog hx M36 hL G36)
 refine ⟨_,_,rfl,q.keep h S34 M36 (yyH hx) (h.ll _ (yaW hx)) nofun,yaD (fun g3 => ?_) fun g3 => ?_⟩
 ·have g3:ynR V.room x.L o.b.recs ≠ 0:=by simpa using g3
  refine (ybZ _ w36).mono ?_
  rintro _ w50 ⟨rfl,M50⟩
  refine ⟨_,_,_,_,_,_,_,_,_,_,rfl,yaG.of0 M50,?_⟩
  intro w61 A61 _
  rw [if_pos (show ynR V.st.room x.L o.b.recs ≠ 0 from g3)]
  refine ya4.fin0 q h (S36.after0 M50) A61.mod ?_ rfl rfl rfl
  simp only [BrV.st]
  rw [ygW]
  simp only [if_neg g3,BrV.st]
  congr 1
  exact ygU (by rw [ydX (fun q:LogV => q.L),hx]; rfl)
 have g3:ynR V.room x.L o.b.recs = 0:=by simpa using g3
 rw [if_neg (show ¬ ynR V.st.room x.L o.b.recs ≠ 0 from fun hh => hh g3)]
 intro w62 A62
 have S62:=S36.after0 A62.mod
 refine (yzN (S62.ok.ded nofun) (fun y hy => by have:=hcq y hy; omega) (p:=o.part) (x:=o.b) (rs:=rs) hrn z1 (yeX ho.pn) ho.bp _).mono ?_
 rintro _ w63 ⟨rfl,F2,hD,M63,G63⟩
 have S63:=S62.trans (S62.ok.setMk M63 hD G63)
 refine ⟨_,rfl,q.keep h S62 M63 yLh S62.ok.lk nofun,?_⟩
 intro w65 A65 _
 rw [if_pos g3] at *
 refine ya4.fin0 q h S63 A65.mod ?_ ?_ rfl rfl
 ·simp only [BrV.st]
  rw [ygW]
  simp only [if_pos g3]
  rfl
 ·rfl
end Go.Proofs.YtkepmmocldnnfaaGreat
namespace Go.Proofs.YtkepmmocldnnfaaGreat
open Go Go.RowKit
set_option linter.all false
section
set_option maxRecDepth 100000
variable {R:VWP} {w w0:World} {m:Nat} {i0 i1 i2 i3 i4 i5 i6 i7 i8 i9 j0 j1 j2 j3 j4 j5 j6 j7 j8 j9 k0 k1 k2 k3 k4 k5 k6 k7 k8 k9 l0 l1 l2 l3 l4 l5 l6 l7 l8 l9:Int} {s0 s1 s2 s3 s4 s5 s6 s7 s8 s9 t0 t1 t2 t3 t4 t5 t6 t7 t8 t9:BA} {n0 n1 n2 n3 n4 n5 n6 n7 n8 n9 o0 o1 o2 o3 o4 o5 o6 o7 o8 o9 p0 p1 p2 p3 p4 p5 p6 p7 p8 p9:Nat} {q0 q1 q2 q3 q4 q5 q6 q7 q8 q9 r0 r1 r2 r3 r4 r5 r6 r7 r8 r9:OA} {B0 B1 B2 B3 B4 B5 B6 B7 B8 B9:Bool} {M0 M1 M2 M3:Option Nat} {V0 V1 V2 V3 V4 V5:Value} {A0 A1 A2:Addr}
theorem yHZ (h :
 ∀ b2,w.heap.size ≤ b2 →
 ∀ w6,Adv [] [b2] w w6 →
 Calls pP 136 #[.slice q0 n0 n1,(.agg #[.string s0,.int .i64 i0])] w6 fun e w7 => ∃ x8,e = .returned (.int .i64 x8) ∧ yaG [b2] w6 w7 ∧
 R (.bool (decide (x8 ≥ 0))) w7) :
 CR pP 81 #[.slice q0 n0 n1,(.agg #[.string s0,.int .i64 i0])] w R :=
 yaB Tryz.wide_mixed (an:=[]) Tryz.func81 rfl rfl (by kernel_rfl) rfl (Eq.mpr (by kernel_rfl) h)
def yrI:LA:=⟨[0,0,1,0,1],[0,3,7,8],[(3,0,0)],1,[]⟩
def yrJ:List LA:=[yrI]
abbrev yGp:=dnF pP yrJ (code Tryz.f136)
abbrev yMj:=ya0 pP yrJ (code Tryz.f136)
abbrev yGq (p:List Nat) (K:List Kh) (R:VWP):=ya0 pP yrJ (code Tryz.f136) p K (ybO pP Tryz.f136 [] R)
def ykB (a2:OA) (a4 a3:Nat) (a5:Int) (bm0:Nat) (a0:BA) (a1:Int):Int → List Value × List TB:=fun a6 => ([.slice a2 a4 a3,(.pointer (some ⟨bm0,0,none⟩)),.int .i64 a5,.int .i64 a6],[⟨bm0,26,[.string a0,.int .i64 a1],false⟩])
abbrev yDA (a2:OA) (a4 a3:Nat) (a5:Int) (bm0:Nat) (a0:BA) (a1:Int) (I:Nat → Int → World → Prop) (m:Nat):Kh:=KG (ykB a2 a4 a3 a5 bm0 a0 a1) (U1 I) m
theorem yAB {I:Nat → Int → World → Prop} (m':Nat) (h1:m' < m) (h2:I m' i2 w):KS (yDA q0 n0 n1 i0 n2 s0 i1 I m) (ykB q0 n0 n1 i0 n2 s0 i1 i2) w:=⟨m',h1,_,rfl,rfl,h2⟩
theorem yAC {a3:OA} {a0:BA} (I:Nat → Int → World → Prop) (m0:Nat) (h0:I m0 i2 w0)
 (hr:∀ m a2 w,I m a2 w →
 brB (decide (a2 < i0)) (
 ixA a3 n0 a2 2 fun q3 =>
 yaK w q3 fun s4 => yaA .i64 w (Addr.add q3 1) fun x5 =>
 ∃ t6,(∀ w',Mod [] w w' → Sem.run pP (do eqGuard .eql 26 (.tmp 11) (.tmp 15) (.agg #[.string a0,.int .i64 i1]) (.agg #[.string s4,.int .i64 x5]); Go.binOp .eql 26 (.agg #[.string a0,.int .i64 i1]) (.agg #[.string s4,.int .i64 x5])) w' = .ok (.bool t6) w') ∧
 brB t6 (
 ∀ w7,Adv [] [] w w7 →
 R (.int .i64 a2) w7)
 (
 ∀ w8,Adv [] [] w w8 →
 KS (yDA a3 n0 n1 i0 n2 a0 i1 I m) (ykB a3 n0 n1 i0 n2 a0 i1 (IntKind.wrap .i64 (a2 + 1))) w8))
 (
 R (.int .i64 (-1)) w)) :
 yaU yrI (yGp 397 [0,0,1,0,1]) (yGq [1,0,1,0] [] R) (ykB a3 n0 n1 i0 n2 a0 i1 i2) w0 :=
 lrule (ykB a3 n0 n1 i0 n2 a0 i1) (U1 I) h0 (by rintro m a2 w h; exact ⟨by kernel_rfl,by kernel_rfl,fun js => Eq.mpr (by kernel_rfl) (hr m a2 w h)⟩)
theorem yH0 (h :
 ∀ b2,w.heap.size ≤ b2 →
 ∀ w9,Adv [] [b2] w w9 →
 yaU yrI (yGp 397 [0,0,1,0,1]) (yGq [1,0,1,0] [] R) (ykB q0 n0 n1 (n0:Int) b2 s0 i0 0) w9) :
 CR pP 136 #[.slice q0 n0 n1,(.agg #[.string s0,.int .i64 i0])] w R :=
 yaB Tryz.wide_mixed (an:=yrJ) Tryz.func136 rfl rfl (by kernel_rfl) rfl (Eq.mpr (by kernel_rfl) h)
end
end Go.Proofs.YtkepmmocldnnfaaGreat
namespace Go.Proofs.YtkepmmocldnnfaaGreat
open Go Go.RowKit Go.Maps Go.MapKept
set_option linter.unusedVariables false
set_option linter.unusedSimpArgs false
set_option maxHeartbeats 1000000
theorem yAD {w:World} {a:Option Addr} {n c:Nat} {l:List PPart} (h:ybD w 2 ylG a n l) (hl:l.length ≤ 9223372036854775807) (p:PPart) :
  Calls pP 136 #[.slice a n c,p.v] w fun e w' => ∃ v,e = .returned v ∧ ∃ r:Int,v = .int .i64 r ∧ Mod [] w w' ∧ decide (r ≥ 0) = l.any (fun q => decide (p = q)):=by
 have hn:=h.1
 refine yH0 ?_
 intro b2 f2 w3 A3
 refine yAC (fun mm x w' => ∃ k:Nat,x = k ∧ k ≤ l.length ∧ (l.take k).any (fun q => decide (p = q)) = false ∧ Mod [] w w' ∧ mm = l.length - k) l.length ⟨0,rfl,by omega,by simp,A3.mod,rfl⟩ ?_
 rintro mm x w1 ⟨k,rfl,hk,hb,M1,rfl⟩
 refine yaH (fun hlt => ?_) fun hge => ?_
 ·obtain ⟨y,hy⟩:∃ y,l[k]? = some y:=⟨_,List.getElem?_eq_getElem (by omega)⟩
  refine (h.keep0 M1).ix hy fun q hq => yaN (x:=y.t) (by simpa [add_zero,ylG] using hq 0 _ rfl) (yaI (x:=y.n) (by simpa [ylG] using hq 1 _ rfl) ?_)
  refine ⟨_,fun w' _ => yLr p y _ _ w',yaH (fun g => ?_) fun g => ?_⟩
  ·intro w7 A7
   refine ⟨_,rfl,M1.go0 A7.mod (by simp),?_⟩
   rw [decide_eq_true (by omega),eq_comm,List.any_eq_true]
   exact ⟨y,List.mem_of_getElem? hy,by simp [g]⟩
  ·intro w8 A8
   refine yAB (l.length - (k + 1)) (by omega) ⟨k + 1,by rw [yaJ (by omega) (by omega)]; omega,by omega,?_,M1.go0 A8.mod (by simp),rfl⟩
   rw [yd2 hy,List.any_append,hb]
   simp [g]
 ·have hk:k = l.length:=by omega
  subst hk
  rw [List.take_length] at hb
  exact ⟨_,rfl,M1,by rw [hb]; rfl⟩
theorem yE1 {w:World} {a:Option Addr} {n c:Nat} {l:List PPart} (h:ybD w 2 ylG a n l) (hl:l.length ≤ 9223372036854775807) (p:PPart) :
  Calls pP 81 #[.slice a n c,p.v] w fun e w' => e = .returned (.bool (l.any fun q => decide (p = q))) ∧ Mod [] w w':=by
 refine ya2 (yHZ ?_)
 intro b2 f2 w6 A6
 refine (yAD (h.keep0 A6.mod) hl p).mono ?_
 rintro _ w7 ⟨_,rfl,r,rfl,M7,hr⟩
 exact ⟨_,rfl,yaG.of0 M7,congrArg Value.bool hr,A6.mod.go0 M7 (by simp)⟩
theorem yLj {L:TL} {name:ByteArray} {n:Int} (h:yh5 L name n = 0):lkp L name = none ∧ 1 ≤ n ∧ n ≤ 8 ∧ L.length < 8:=by
 unfold yh5 at h
 split at h
 ·cases h
 rename_i h1
 split at h
 ·cases h
 rename_i h2
 split at h
 ·cases h
 rename_i h3
 have h1:ye9 name n = true:=by simpa using h1
 simp only [ye9,Bool.and_eq_true,decide_eq_true_eq] at h1
 refine ⟨?_,h1.2.1,h1.2.2,by omega⟩
 cases e:lkp L name with
 | none => rfl
 | some y => rw [e] at h2; exact absurd rfl h2
set_option maxRecDepth 100000 in
theorem yDB {w:World} {b N:Nat} {V:BrV} (h:ydH w b V) (g:BrGood V.st N) {o:POp} (ho:OpFine o) (rs ts:Sl) :
  Calls pP 39 #[.pointer (some ⟨b,0,none⟩),o.v rs ts] w fun e w' => ∃ v,e = .returned v ∧ ya4 w b V (ynA V.st o) v w':=by
 obtain ⟨z1,z2,z3⟩:=ho.s
 refine yHM (h.cell nofun) ?_
 intro b3 f3 b4 f4 w5 A5
 have q:=Own2.of f3 f4 A5
 have h5:=h.keep0 A5.mod
 refine (yzK (h5.cat nofun) z1 o.n).mono ?_
 rintro _ w6 ⟨rfl,hT,M6⟩
 have S6:=h5.setCat M6 hT (ybJ.refl _ _)
 refine ⟨_,rfl,q.keep h (BrStep.refl h5 (Mod.refl _)) M6 yL1 h.lc nofun,yaD (fun g1 => ?_) fun g1 => ?_⟩
 ·have g1:yh5 V.cat o.part.t o.n ≠ 0:=by simpa using g1
  refine (ybZ _ w6).mono ?_
  rintro _ w19 ⟨rfl,M19⟩
  refine ⟨_,_,_,_,_,_,_,_,_,_,rfl,yaG.of0 M19,?_⟩
  intro w30 A30 _
  unfold ynA
  rw [if_neg (show ¬ yh5 V.st.cat o.part.t o.n = 0 from g1)]
  refine ya4.fin0 q h (S6.after0 M19) A30.mod ?_ rfl rfl rfl
  simp only [BrV.st,if_neg g1]
 have g1:yh5 V.cat o.part.t o.n = 0:=by simpa using g1
 obtain ⟨hno,hn1,hn8,hcl⟩:=yLj g1
 unfold ynA
 rw [if_pos (show yh5 V.st.cat o.part.t o.n = 0 from g1)]
 obtain ⟨n,hn⟩:∃ n:Nat,o.n = n:=⟨o.n.toNat,by omega⟩
 have hold:∀ k:Int,lkp V.LP ⟨o.part.t,k⟩ = none:=fun k => by
  cases e:lkp V.LP ⟨o.part.t,k⟩ with
  | none => rfl
  | some y =>
   have:=g.cat ⟨o.part.t,k⟩ (by rw [yyG,e]; rfl)
   rw [show V.st.cat = V.cat from rfl,hno] at this; cases this
 have s5:=q.m.size
 have hml:=h5.lm
 have lml:V.ml < w.heap.size:=h.low.2.1
 refine yAx (fun m x w' => ∃ (k:Nat) (V':BrV),x = k ∧ k ≤ n ∧ BrStep w5 w' b V V' ∧ V'.st = { V.st with cat:=put V.st.cat o.part.t o.n,logs:=ydT o.part.t k V.st.logs } ∧ V'.ml = V.ml ∧ (∀ j:Int,(k:Int) ≤ j → lkp V'.LP ⟨o.part.t,j⟩ = none) ∧ m = n - k) n
  ⟨0,_,rfl,by omega,S6,by simp only [BrV.st,if_pos g1,ydT],rfl,fun j _ => hold j,rfl⟩ ?_
 rintro m x w1 ⟨k,V',rfl,hk,S1,hst,hVm,hfr,rfl⟩
 have ⟨o3,o4⟩:=q.out h S1.gr
 refine yaH (fun hlt => ?_) fun hge => ?_
 ·refine (ys1 V.room w1).mono ?_
  rintro _ w34 ⟨_,rfl,M34,hif⟩
  rw [if_pos ⟨g.r1,g.r2⟩] at hif
  obtain ⟨pb,F,rfl,hL,hF⟩:=hif
  refine ⟨_,_,rfl,yaG.of0 M34,?_⟩
  intro w37 A37
  have M37:=M34.go0 A37.mod (by simp)
  have hroom:V'.room = V.room:=congrArg PBr.room hst
  have hm:=(S1.ok.logs nofun).keepM0 M37
  rw [hVm] at hm
  obtain ⟨l,hkl⟩:=yCp (p:=⟨o.part.t,(k:Int)⟩) z1 (show s64 (k:Int) by unfold s64; omega)
  have hbml:V.ml ∉ [b,b3,b4]:=fun hz => by
   simp only [List.mem_cons,List.not_mem_nil,or_false] at hz
   have:=q.f3; have:=q.f4
   rcases hz with e | e | e
   ·have:=h.lm; rw [e,h.lb] at this; cases this
   ·omega
   ·omega
  refine hm.setU (k:=⟨o.part.t,(k:Int)⟩) yKo yCo Tryz.underlying89 (v:=(⟨pb,yt2,F⟩:LogV)) hkl hbml fun w38 hm38 M38 => ?_
  have ex:IntKind.wrap .i64 ((k:Int) + 1) = ((k + 1:Nat):Int):=by rw [yaJ (by omega) (by omega)]; omega
  rw [ex]
  have hT2:ydR w37 pb V'.room yt2 F:=by rw [hroom]; exact hL.keep0 A37.mod
  have hM2:Mod [V'.ml] w37 w38:=by rw [hVm]; exact M38
  rw [← hVm] at hm38
  have hfk:lkp V'.LP ⟨o.part.t,(k:Int)⟩ = none:=hfr (k:Int) (Int.le_refl _)
  have S2:=S1.ok.addLog (v:=⟨pb,yt2,F⟩) hfk M37 hT2 hF hM2 hm38
  refine yAw (n - (k + 1)) (by omega) ⟨k + 1,_,rfl,by omega,S1.trans S2,?_,hVm,fun j hj => ?_,rfl⟩
  ·have e1:V'.LP.map (fun q => (q.1,q.2.L)) = ydT o.part.t k V.st.logs:=congrArg PBr.logs hst
   have e2:=ygW (V:=V') (p:=⟨o.part.t,(k:Int)⟩) (v:=⟨pb,yt2,F⟩)
   rw [show V'.st.logs = ydT o.part.t k V.st.logs from congrArg PBr.logs hst] at e2
   have e3:({ V' with LP:=put V'.LP ⟨o.part.t,(k:Int)⟩ ⟨pb,yt2,F⟩,lab:=relab w1 V'.lab (.log ⟨o.part.t,(k:Int)⟩) }:BrV).st = { V'.st with logs:=ydT o.part.t (k + 1) V.st.logs }:=by
    simp only [BrV.st] at e2 ⊢
    rw [e2]; rfl
   rw [e3,hst]
  ·rw [ycP,if_neg (fun e => by injection e with _ e; omega)]
   exact hfr j (by omega)
 ·have hk':k = n:=by omega
  subst hk'
  intro w39 A39 _
  refine ya4.fin0 q h S1 A39.mod ?_ rfl rfl rfl
  rw [hst,hn,Int.toNat_natCast]
theorem ydH.touchGm {w w':World} {b:Nat} {V:BrV} (h:ydH w b V) (M:Mod [V.mg] w w') (hM:yaX pP 9 hks GrpV.v w' V.mg V.GP):BrStep w w' b V { V with lab:=relab w V.lab .gm }:=by
 have r:=BrRest.step (i:=.gm) h M (by simp [h.lg])
 exact ⟨{ r with cell:=fun _ => r.cell nofun,cat:=fun _ => r.cat nofun,logs:=fun _ => r.logs nofun,log:=fun q hq _ => r.log q hq nofun,ded:=fun _ => r.ded nofun,gs:=fun _ => hM,grp:=fun q hq _ => r.grp q hq nofun,off:=fun _ => r.off nofun },M.less fun z hz _ => yaF.2 (.inr (.inr (.inl (by simpa using hz)))),fun z hz => .inl hz⟩
theorem BrGood.grp {V:BrV} {N:Nat} (g:BrGood V.st N) {gn:ByteArray} {v:GrpV} (hp:lkp V.GP gn = some v):v.G.length ≤ 8 ∧ ∀ x ∈ v.G,x.2.topics.length ≤ 8 :=
 g.gg (gn,v.x) (List.mem_map.2 ⟨_,yaW hp,rfl⟩)
theorem yE2 {w:World} {b N:Nat} {V:BrV} (h:ydH w b V) (g:BrGood V.st N) {o:POp} (ho:OpFine o) {x:GrpV} (hx:lkp V.GP o.g = some x) (rs ts:Sl) :
  Calls pP 48 #[.pointer (some ⟨b,0,none⟩),o.v rs ts] w fun e w' => ∃ v,e = .returned v ∧ ya4 w b V (yDw V.st o) v w':=by
 obtain ⟨z1,z2,z3⟩:=ho.s
 refine yHU (h.cell nofun) ?_
 intro b3 f3 b4 f4 w5 A5
 have q:=Own2.of f3 f4 A5
 have h5:=h.keep0 A5.mod
 have hlk:=h5.lkGrp z2
 rw [hx] at hlk
 refine ⟨_,hlk,?_⟩
 refine (yEN (h5.grpAt hx) z3 o.gen V.now).mono ?_
 rintro _ w7 ⟨rfl,F',hG,M7,G7⟩
 have S7:=h5.setGrp hx M7 hG G7
 refine ⟨_,rfl,q.keep h (BrStep.refl h5 (Mod.refl _)) M7 (yyI hx) (h.lgr _ (yaW hx)) nofun,?_⟩
 refine (ybZ _ w7).mono ?_
 rintro _ w9 ⟨rfl,M9⟩
 refine ⟨_,_,_,_,_,_,_,_,_,_,rfl,yaG.of0 M9,?_⟩
 intro w20 A20 _
 unfold yDw
 rw [yhC hx]
 refine ya4.fin0 q h (S7.after0 M9) A20.mod ?_ rfl rfl rfl
 unfold ygV
 simp only [BrV.st]
 rw [ygX]; rfl
theorem yDC {w:World} {b N:Nat} {V:BrV} (h:ydH w b V) (g:BrGood V.st N) {o:POp} (ho:OpFine o) {x:GrpV} (hx:lkp V.GP o.g = some x) (rs ts:Sl) :
  Calls pP 49 #[.pointer (some ⟨b,0,none⟩),o.v rs ts] w fun e w' => ∃ v,e = .returned v ∧ ya4 w b V (ytW V.st o) v w':=by
 obtain ⟨z1,z2,z3⟩:=ho.s
 refine yHV (h.cell nofun) ?_
 intro b3 f3 b4 f4 w5 A5
 have q:=Own2.of f3 f4 A5
 have h5:=h.keep0 A5.mod
 have hlk:=h5.lkGrp z2
 rw [hx] at hlk
 refine ⟨_,hlk,?_⟩
 refine (yC4 (h5.grpAt hx) z3 o.gen).mono ?_
 rintro _ w7 ⟨rfl,F',hG,M7,G7⟩
 have S7:=h5.setGrp hx M7 hG G7
 refine ⟨_,rfl,q.keep h (BrStep.refl h5 (Mod.refl _)) M7 (yyI hx) (h.lgr _ (yaW hx)) nofun,?_⟩
 refine (ybZ _ w7).mono ?_
 rintro _ w9 ⟨rfl,M9⟩
 refine ⟨_,_,_,_,_,_,_,_,_,_,rfl,yaG.of0 M9,?_⟩
 intro w20 A20 _
 unfold ytW
 rw [yhC hx]
 refine ya4.fin0 q h (S7.after0 M9) A20.mod ?_ rfl rfl rfl
 unfold ygV
 simp only [BrV.st]
 rw [ygX]; rfl
theorem ykW {w:World} {b N:Nat} {V:BrV} (h:ydH w b V) (g:BrGood V.st N) {o:POp} (ho:OpFine o) {x:GrpV} (hx:lkp V.GP o.g = some x) (rs ts:Sl) :
  Calls pP 50 #[.pointer (some ⟨b,0,none⟩),o.v rs ts] w fun e w' => ∃ v,e = .returned v ∧ ∃ ps:Sl,v = (ybX V.st o).v ybM ps ∧ Row w' w.heap.size 26 2 ylG ps.a ps.n ps.c (ybX V.st o).parts ∧ Mod [] w w':=by
 obtain ⟨z1,z2,z3⟩:=ho.s
 obtain ⟨k1,k2⟩:=g.grp hx
 have hcl:V.cat.length ≤ 8:=g.cl
 refine yHW (h.cell nofun) ?_
 intro b3 f3 b4 f4 w5 A5
 have q:=Own2.of f3 f4 A5
 have h5:=h.keep0 A5.mod
 have hlk:=h5.lkGrp z2
 rw [hx] at hlk
 refine ⟨_,hlk,?_⟩
 refine (yAt (h5.cat nofun) (by omega)).mono ?_
 rintro _ w7 ⟨s,rfl,hR,M7⟩
 refine ⟨_,_,_,rfl,yaG.of0 M7,rfl,rfl,fun w' M => hlk w' (M7.go0 M (by simp)),rfl,rfl,?_⟩
 have h7:=h5.keep0 M7
 refine (ytM (h7.grpAt hx) (by omega) (fun y hy => by have:=k2 y hy; omega) (hR.sl yEQ) z3 o.gen).mono ?_
 rintro _ w11 ⟨_,rfl,M11,s2,rfl,hR2⟩
 have N11:=(q.m.go0 M7 (by simp)).go0 M11 (by simp)
 have e:ycN x.gen x.robin x.G (yj8 V.cat) o.m o.gen = ycZ V.st o:=by unfold ycZ; rw [yhC hx]; rfl
 rw [e] at hR2 ⊢
 have f4':∀ z ∈ [b4],w.heap.size ≤ z:=by simpa using f4
 have s7:=M7.size
 have s5:=q.m.size
 have l4:=q.l4
 refine ⟨_,_,_,_,rfl,yaG.of0 M11,yaD (fun g1 => ?_) fun g1 => ?_⟩
 ·have g1:(ycZ V.st o).1 ≠ 0:=by simpa using g1
  refine (ybZ _ w11).mono ?_
  rintro _ w27 ⟨rfl,M27⟩
  refine ⟨_,_,_,_,_,_,_,_,_,_,rfl,yaG.of0 M27,?_⟩
  intro w38 A38 _
  unfold ybX
  rw [if_neg g1]
  exact ⟨ybM,rfl,Row.nil ..,(N11.go0 M27 (by simp)).go0 A38.mod f4'⟩
 ·have g1:(ycZ V.st o).1 = 0:=by simpa using g1
  intro w39 A39 _
  unfold ybX
  rw [if_pos g1]
  exact ⟨s2,rfl,(yaE hR2 A39.mod fun z hz hz' => by simp at hz; subst hz; have:=(yaQ hR2 _ hz').1; omega).rebase (by omega),N11.go0 A39.mod f4'⟩
end Go.Proofs.YtkepmmocldnnfaaGreat
namespace Go.Proofs.YtkepmmocldnnfaaGreat
open Go Go.RowKit Go.Maps Go.MapKept
set_option linter.unusedVariables false
set_option linter.unusedSimpArgs false
set_option maxHeartbeats 1000000
theorem ypH {V:BrV} {g:ByteArray} (h:lkp V.GP g = none):ya8 V.st g = ⟨0,false,[]⟩:=by rw [ya8,ypG,h]; rfl
set_option maxRecDepth 100000 in
theorem yE3 {w:World} {b N:Nat} {V:BrV} (h:ydH w b V) (g:BrGood V.st N) {o:POp} (ho:OpFine o) {rs ts:Sl} (ht:∀ w',Mod (V.foot b) w w' → ybD w' 1 ydC ts.a ts.n o.topics) (htl:o.topics.length ≤ 1000000) :
  Calls pP 47 #[.pointer (some ⟨b,0,none⟩),o.v rs ts] w fun e w' => ∃ v,e = .returned v ∧ ya4 w b V (yAy V.st o) v w':=by
 obtain ⟨z1,z2,z3⟩:=ho.s
 refine yHT (h.cell nofun) ?_
 intro b3 f3 b4 f4 w5 A5
 have q:=Own2.of f3 f4 A5
 have h5:=h.keep0 A5.mod
 have s5:=q.m.size
 have hlk:=h5.lkGrp z2
 have hmg:V.mg ∉ [b,b3,b4]:=fun hz => by
  simp only [List.mem_cons,List.not_mem_nil,or_false] at hz
  have:=q.f3; have:=q.f4
  have:V.mg < w.heap.size:=h.low.2.2.1
  rcases hz with e | e | e
  ·have:=h.lg; rw [e,h.lb] at this; cases this
  ·omega
  ·omega
 have hlen:V.st.groups.length = V.GP.length:=by simp [BrV.st]
 have hnow:V.st.now = V.now:=rfl
 unfold yAy
 cases hx:lkp V.GP o.g with
 | none =>
  rw [hx] at hlk
  have e0:(lkp V.st.groups o.g).isSome = false:=by rw [ypG,hx]; rfl
  rw [ypH hx]
  refine ⟨none,hlk,yaD (fun _ => ?_) fun g => by cases g⟩
  intro w9 A9
  have h9:=h5.keep0 A9.mod
  have s9:=A9.mod.size
  refine ⟨_,fun w' M => ((h9.gs nofun).keepM0 M).len Tryz.underlying92 _,yaH (fun g1 => ?_) fun g1 => ?_⟩
  ·refine (ybZ _ w9).mono ?_
   rintro _ w22 ⟨rfl,M22⟩
   refine ⟨_,_,_,_,_,_,_,_,_,_,rfl,yaG.of0 M22,?_⟩
   intro w33 A33 _
   rw [if_pos ⟨e0,by rw [hlen]; omega⟩]
   exact ya4.fin0 q h ((BrStep.refl h5 A9.mod).after0 M22) A33.mod rfl rfl rfl rfl
  rw [if_neg (fun hh => g1 (by have:=hh.2; rw [hlen] at this; omega))]
  refine (yC2 w9).mono ?_
  rintro _ w36 ⟨_,rfl,pb,F,rfl,hG,hF,M36⟩
  refine ⟨_,rfl,yaG.of0 M36,?_⟩
  intro w38 A38
  have s36:=M36.size
  have s38:=A38.mod.size
  have N38:Mod [] w5 w38:=(A9.mod.go0 M36 (by simp)).go0 A38.mod (by simp)
  refine (yx6 (hG.keep0 A38.mod) (x:=yc2 V.st o) (ts:=ts) (fun w' M' => ht w' (((q.m.trans N38).trans M').less fun z hz hl => by
   simp at hz
   have:=hF z hz; omega)) htl z3 o.robin).mono ?_
  rintro _ w39 ⟨rfl,F',hG',M39,G39⟩
  have N39:Mod [] w5 w39:=N38.go0 M39 fun z hz => by have:=hF z hz; omega
  have hbF:∀ z ∈ [b,b3,b4],z < w38.heap.size → z ∉ F:=fun z hz _ hz' => by
   have:=hF z hz'
   have:=q.l3; have:=q.l4; have:=h5.lt b (yaF.2 (.inl rfl))
   simp only [List.mem_cons,List.not_mem_nil,or_false] at hz
   rcases hz with rfl | rfl | rfl <;> omega
  refine ⟨_,_,rfl,yaG.of M39 hbF,yaD (fun g2 => ?_) fun g2 => ?_⟩
  ·have g2:ybF 0 false [] (yc2 V.st o) o.robin ≠ 0:=by simpa using g2
   refine (ybZ _ w39).mono ?_
   rintro _ w53 ⟨rfl,M53⟩
   refine ⟨_,_,_,_,_,_,_,_,_,_,rfl,yaG.of0 M53,?_⟩
   intro w64 A64 _
   rw [if_pos g2]
   exact ya4.fin0 q h ((BrStep.refl h5 N39).after0 M53) A64.mod rfl rfl rfl rfl
  ·have g2:ybF 0 false [] (yc2 V.st o) o.robin = 0:=by simpa using g2
   rw [if_neg (fun hh => hh g2)]
   intro w65 A65
   have N65:=N39.go0 A65.mod (by simp)
   simp only [if_pos g2] at hG' ⊢
   have hm:=(h5.gs nofun).keepM0 N65
   have hT1:=hG'.keep0 A65.mod
   obtain ⟨v,hv⟩:∃ v:GrpV,v = ⟨pb,_,_,_,F'⟩:=⟨⟨pb,_,_,_,F'⟩,rfl⟩
   have hT2:yc0 w65 v.p v.gen v.robin v.G v.F:=by rw [hv]; exact hT1
   have hvp:v.v = .pointer (some ⟨pb,0,none⟩):=by rw [hv]; rfl
   have hvF:v.F = F':=by rw [hv]
   rw [← hvp]
   refine hm.setU (k:=o.g) ye0 ybW Tryz.underlying92 (v:=v) (yb1 z2) hmg fun w66 hm66 M66 => ?_
   have S:=h5.addGrp (v:=v) hx N65 hT2 (fun z hz => by
    rw [hvF] at hz
    rcases G39 z hz with hz | hz
    ·have:=hF z hz; omega
    ·omega) M66 hm66
   intro w67 A67 _
   refine ya4.fin0 q h S A67.mod ?_ rfl rfl rfl
   unfold ygV
   simp only [BrV.st]
   rw [ygX,hv]; rfl
 | some x =>
  rw [hx] at hlk
  have e0:(lkp V.st.groups o.g).isSome = true:=by rw [ypG,hx]; rfl
  rw [yhC hx,if_neg (fun hh => by rw [e0] at hh; cases hh.1)]
  refine ⟨some ⟨x.p,0,none⟩,hlk,yaD (fun g => by cases g) fun _ => ?_⟩
  intro w68 A68
  have h68:=h5.keep0 A68.mod
  refine (yx6 (h68.grpAt hx) (x:=yc2 V.st o) (ts:=ts) (fun w' M' => ht w' (((q.m.trans A68.mod).trans M').less fun z hz hl => by
   simp at hz
   exact yyI hx z hz)) htl z3 o.robin).mono ?_
  rintro _ w69 ⟨rfl,F',hG',M69,G69⟩
  have S69:=(BrStep.refl h5 A68.mod).trans (h68.setGrp hx M69 hG' G69)
  refine ⟨_,_,rfl,q.keep h (BrStep.refl h5 A68.mod) M69 (yyI hx) (h.lgr _ (yaW hx)) nofun,yaD (fun g2 => ?_) fun g2 => ?_⟩
  ·have g2:ybF x.gen x.robin x.G (yc2 V.st o) o.robin ≠ 0:=by simpa using g2
   refine (ybZ _ w69).mono ?_
   rintro _ w83 ⟨rfl,M83⟩
   refine ⟨_,_,_,_,_,_,_,_,_,_,rfl,yaG.of0 M83,?_⟩
   intro w94 A94 _
   rw [if_pos (show ybF x.x.gen x.x.robin x.x.G (yc2 V.st o) o.robin ≠ 0 from g2)]
   simp only [if_neg g2] at S69
   refine ya4.fin0 q h (S69.after0 M83) A94.mod ?_ rfl rfl rfl
   simp only [BrV.st]
   rw [ygX]
   simp only [BrV.st]
   congr 1
   exact ygU (by rw [ydX (fun q:GrpV => q.x),hx]; rfl)
  ·have g2:ybF x.gen x.robin x.G (yc2 V.st o) o.robin = 0:=by simpa using g2
   rw [if_neg (show ¬ ybF x.x.gen x.x.robin x.x.G (yc2 V.st o) o.robin ≠ 0 from fun hh => hh g2)]
   intro w95 A95
   have S95:=S69.after0 A95.mod
   simp only [if_pos g2] at S95 ⊢
   have hm:=S95.ok.gs nofun
   have hlk2:lkp (put V.GP o.g (⟨x.p,IntKind.wrap .i64 (x.gen + 1),o.robin,put x.G (yc2 V.st o).name (yc2 V.st o),F'⟩:GrpV)) o.g = some ⟨x.p,IntKind.wrap .i64 (x.gen + 1),o.robin,put x.G (yc2 V.st o).name (yc2 V.st o),F'⟩:=by rw [ycP,if_pos rfl]
   refine hm.setU (k:=o.g) ye0 ybW Tryz.underlying92 (v:=(⟨x.p,IntKind.wrap .i64 (x.gen + 1),o.robin,put x.G (yc2 V.st o).name (yc2 V.st o),F'⟩:GrpV)) (yb1 z2) hmg fun w96 hm96 M96 => ?_
   rw [ygU hlk2] at hm96
   have S96:=S95.trans (S95.ok.touchGm M96 hm96)
   intro w97 A97 _
   refine ya4.fin0 q h S96 A97.mod ?_ rfl rfl rfl
   unfold ygV
   simp only [BrV.st]
   rw [ygX]; rfl
theorem Row.len_max {α:Type} {w:World} {base T sz:Nat} {enc:α → List Value} {a:Option Addr} {n c:Nat} {l:List α} (h:Row w base T sz enc a n c l):l.length ≤ 9223372036854775807:=by
 obtain ⟨hn,hlen,ho⟩:=h
 rcases ho with ⟨ho,h0⟩ | ⟨g,cap,cur,hv,hb,hg,hnc,hcm,hsz,htk⟩
 ·omega
 ·unfold maxLen at hcm; omega
set_option maxRecDepth 100000 in
theorem yAE {w:World} {b N:Nat} {V:BrV} (h:ydH w b V) (g:BrGood V.st N) {o:POp} (ho:OpFine o) {x:GrpV} (hx:lkp V.GP o.g = some x) (hlogs:∀ q ∈ (ycZ V.st o).2,(lkp V.LP q).isSome = true) (rs ts:Sl) :
  Calls pP 51 #[.pointer (some ⟨b,0,none⟩),o.v rs ts] w fun e w' => ∃ v,e = .returned v ∧ ya4 w b V (ykA V.st o) v w':=by
 obtain ⟨z1,z2,z3⟩:=ho.s
 have hN:=g.nN
 refine yHX (h.cell nofun) ?_
 intro b3 f3 b4 f4 w25 A25 _
 have q:=Own2.of f3 f4 A25
 have h25:=h.keep0 A25.mod
 refine (ykW h25 g ho hx rs ts).mono ?_
 rintro _ w26 ⟨_,rfl,ps,rfl,hR,M26⟩
 have h26:=h25.keep0 M26
 have hA:(ybX V.st o).e = (ycZ V.st o).1:=by
  unfold ybX
  split
  ·rename_i hh; exact hh.symm
  ·rfl
 unfold ykA
 refine ⟨_,_,_,_,_,_,_,_,_,_,rfl,yaG.of0 M26,_,_,_,_,_,_,_,h26.cell nofun,?_⟩
 intro b44 f44
 refine yaD (fun g1 => ?_) fun g1 => ?_
 ·have g1:(ycZ V.st o).1 ≠ 0:=by rw [← hA]; simpa using g1
  intro w45 A45 _
  rw [if_pos g1]
  have eA:ybX V.st o = yhU (ycZ V.st o).1:=by unfold ybX; rw [if_neg g1]
  rw [eA] at hR ⊢
  exact ya4.fin q h (BrStep.refl h25 M26) A45.mod rfl ybM ps rfl (Row.nil ..) hR fun z hz => ⟨by simp [ybM,yaP],fun hz' => by have:=(yaQ hR z hz').1; have:=h25.lt z hz; omega⟩
 have g1:(ycZ V.st o).1 = 0:=by rw [← hA]; simpa using g1
 rw [if_neg (fun hh => hh g1)]
 have hps:(ybX V.st o).parts = (ycZ V.st o).2:=by unfold ybX; rw [if_pos g1]
 rw [hps] at hR
 have hpl:=hR.len_max
 intro w56 A56 _
 have h56:=h26.keep0 A56.mod
 refine (yE1 ((hR.keep0 A56.mod).sl ywG) hpl o.part).mono ?_
 rintro _ w57 ⟨rfl,M57⟩
 have h57:=h56.keep0 M57
 have S57:=((BrStep.refl h25 M26).after0 A56.mod).after0 M57
 refine ⟨_,rfl,yaG.of0 M57,_,_,_,_,_,_,_,h57.cell nofun,yaD (fun g2 => ?_) fun g2 => ?_⟩
 ·have g2:(ycZ V.st o).2.any (fun q => decide (o.part = q)) = false:=by simpa using g2
  refine (ybZ _ w57).mono ?_
  rintro _ w84 ⟨rfl,M84⟩
  refine ⟨_,_,_,_,_,_,_,_,_,_,rfl,yaG.of0 M84,_,_,_,_,_,_,_,(h57.keep0 M84).cell nofun,?_⟩
  intro w102 A102 _
  rw [if_pos g2]
  exact ya4.fin0 q h (S57.after0 M84) A102.mod rfl rfl rfl rfl
 have g2:(ycZ V.st o).2.any (fun q => decide (o.part = q)) = true:=by simpa using g2
 rw [if_neg (by rw [g2]; decide)]
 obtain ⟨y,hy⟩:∃ y,lkp V.LP o.part = some y:=by
  obtain ⟨p,hp,e⟩:=List.any_eq_true.1 g2
  have e:o.part = p:=by simpa using e
  rw [e]
  exact Option.isSome_iff_exists.1 (hlogs p hp)
 obtain ⟨k1,k2,k3⟩:=g.log hy
 intro w103 A103 _
 have h103:=h57.keep0 A103.mod
 have S103:=S57.after0 A103.mod
 refine ⟨_,h103.lkLog hy z1 (yeX ho.pn),?_⟩
 refine (yfN (h103.logAt hy) k1 (by omega)).mono ?_
 rintro _ w105 ⟨rfl,M105⟩
 have S105:=S103.after0 M105
 rw [yhB hy]
 refine ⟨_,_,rfl,yaG.of0 M105,_,_,_,_,_,_,_,S105.ok.cell nofun,yaH (fun g3 => ?_) fun g3 => ?_⟩
 ·refine (ybZ _ w105).mono ?_
  rintro _ w133 ⟨rfl,M133⟩
  refine ⟨_,_,_,_,_,_,_,_,_,_,rfl,yaG.of0 M133,_,_,_,_,_,_,_,(S105.ok.keep0 M133).cell nofun,?_⟩
  intro w151 A151 _
  rw [if_pos g3]
  exact ya4.fin0 q h (S105.after0 M133) A151.mod rfl rfl rfl rfl
 rw [if_neg g3]
 intro w152 A152 _
 have S152:=S105.after0 A152.mod
 refine (yCK (S152.ok.off nofun) ⟨o.g,o.part,o.off⟩).mono ?_
 rintro _ w153 ⟨rfl,hO,M153⟩
 have S153:=S152.trans (S152.ok.setOff M153 hO (ybJ.refl _ _))
 have ⟨o3,o4⟩:=q.out h S152.gr
 have kp:∀ z ∈ [b3,b4,b44],z < w152.heap.size → z ∉ V.Fo:=fun z hz _ hz' => by
  simp only [List.mem_cons,List.not_mem_nil,or_false] at hz
  have hlt:=h.lt z (yLi z hz')
  have:=q.f3; have:=q.f4
  have:=q.m.size; have:=M26.size
  rcases hz with rfl | rfl | rfl <;> omega
 refine ⟨_,rfl,yaG.ofE M153 (fun z hz hl _ => kp z hz hl),_,_,_,_,_,_,_,S153.ok.cell nofun,?_⟩
 refine (ybZ _ w153).mono ?_
 rintro _ w162 ⟨rfl,M162⟩
 refine ⟨_,_,_,_,_,_,_,_,_,_,rfl,yaG.of0 M162,_,_,_,_,_,_,_,(S153.ok.keep0 M162).cell nofun,?_⟩
 intro w180 A180 _
 exact ya4.fin0 q h (S153.after0 M162) A180.mod rfl rfl rfl rfl
end Go.Proofs.YtkepmmocldnnfaaGreat
namespace Go.Proofs.YtkepmmocldnnfaaGreat
open Go Go.RowKit Go.Maps Go.MapKept
set_option linter.unusedVariables false
set_option linter.unusedSimpArgs false
set_option maxHeartbeats 1000000
theorem ydH.setGrps {w w':World} {b:Nat} {V:BrV} (h:ydH w b V) {S:List Nat} (M:Mod S w w') (hS:∀ k ∈ S,k ∈ V.foot b) (hS2:∀ k ∈ S,V.lab k = .br ∨ ∃ g,V.lab k = .grp g) {now':Int} {GP':List (ByteArray × GrpV)} {lab':Nat → BLab}
  (hc:w'.heap[b]? = some (.cells #[.int .i64 V.room,.int .i64 now',.pointer (some ⟨V.pc,0,none⟩),.map (some V.ml),.pointer (some ⟨V.pm,0,none⟩),.map (some V.mg),.pointer (some ⟨V.po,0,none⟩)] 96))
  (hk:GP'.map (fun q => (q.1,q.2.p)) = V.GP.map (fun q => (q.1,q.2.p))) (hG:∀ q ∈ GP',yc0 w' q.2.p q.2.gen q.2.robin q.2.G q.2.F) (hl:∀ q ∈ GP',∀ k ∈ q.2.F,lab' k = .grp q.1) (ho:∀ k,k < w.heap.size → lab' k = V.lab k)
  (hg:∀ q ∈ GP',∀ k ∈ q.2.F,k ∈ V.foot b ∨ w.heap.size ≤ k):BrStep w w' b V { V with now:=now',GP:=GP',lab:=lab' }:=by
 obtain ⟨l1,l2,l3,l4,l5,l6,l7,l8⟩:=h.low
 have hs:=M.size
 have nl:∀ {k:Nat} {j:BLab},V.lab k = j → j ≠ .br → (∀ g,j ≠ .grp g) → k ∉ S:=fun hk h1 h2 hm => by
  rcases hS2 _ hm with e | ⟨g,e⟩
  ·exact h1 (hk.symm.trans e)
  ·exact h2 g (hk.symm.trans e)
 refine ⟨{ cell:=fun _ => hc,lb:=(ho b l1).trans h.lb,cat:=fun _ => (h.cat nofun).keep M fun k hk hk' => nl (h.lc k hk') nofun nofun hk,lc:=fun k hk => (ho k (l4 k hk)).trans (h.lc k hk),logs:=fun _ => (h.logs nofun).keepM M (nl h.lm nofun nofun),lm:=(ho _ l2).trans h.lm,log:=fun q hq _ => (h.log q hq nofun).keep M fun k hk hk' => nl (h.ll q hq k hk') nofun nofun hk,ll:=fun q hq k hk => (ho k (l7 q hq k hk)).trans (h.ll q hq k hk),ded:=fun _ => (h.ded nofun).keep M fun k hk hk' => nl (h.lk k hk') nofun nofun hk,lk:=fun k hk => (ho k (l5 k hk)).trans (h.lk k hk),gs:=fun _ => ((h.gs nofun).keepM M (nl h.lg nofun nofun)).sameV ?_,lg:=(ho _ l3).trans h.lg,grp:=fun q hq _ => hG q hq,lgr:=hl,off:=fun _ => (h.off nofun).keep M fun k hk hk' => nl (h.lo k hk') nofun nofun hk,lo:=fun k hk => (ho k (l6 k hk)).trans (h.lo k hk),low:=⟨by omega,by show V.ml < _; omega,by show V.mg < _; omega,fun k hk => by have:=l4 k hk; omega,fun k hk => by have:=l5 k hk; omega,fun k hk => by have:=l6 k hk; omega,fun q hq k hk => by have:=l7 q hq k hk; omega,fun q hq k hk => (hG q hq).lt k hk⟩ },M.less fun z hz _ => hS z hz,fun z hz => ?_⟩
 ·have:=congrArg (List.map fun q:ByteArray × Nat => (q.1,Value.pointer (some ⟨q.2,0,none⟩))) hk
  rw [List.map_map,List.map_map] at this
  exact this
 ·rcases yaF.1 hz with h1 | h1 | h1 | h1 | h1 | h1 | h1 | ⟨q,hq',h1⟩
  ·exact .inl (yaF.2 (.inl h1))
  ·exact .inl (yaF.2 (.inr (.inl h1)))
  ·exact .inl (yaF.2 (.inr (.inr (.inl h1))))
  ·exact .inl (yaF.2 (.inr (.inr (.inr (.inl h1)))))
  ·exact .inl (yaF.2 (.inr (.inr (.inr (.inr (.inl h1))))))
  ·exact .inl (yaF.2 (.inr (.inr (.inr (.inr (.inr (.inl h1)))))))
  ·exact .inl (yaF.2 (.inr (.inr (.inr (.inr (.inr (.inr (.inl h1))))))))
  ·exact hg q hq' z h1
def inL {β:Type} (left:List (ByteArray × β)) (k:ByteArray):Bool:=left.any fun p => decide (p.1 = k)
theorem yrK {β:Type} {left:List (ByteArray × β)} {k:ByteArray}:inL left k = true ↔ k ∈ left.map (·.1):=by
 simp only [inL,List.any_eq_true,decide_eq_true_eq,List.mem_map]
theorem yDD {β:Type} {left:List (ByteArray × β)} {k j:ByteArray}:inL (yeE left k) j = (inL left j && decide (j ≠ k)):=by
 rw [Bool.eq_iff_iff,Bool.and_eq_true,decide_eq_true_eq,yrK,yrK,List.mem_map,List.mem_map]
 constructor
 ·rintro ⟨p,hp,rfl⟩
  exact ⟨⟨p,(ydE.1 hp).1,rfl⟩,(ydE.1 hp).2⟩
 ·rintro ⟨⟨p,hp,rfl⟩,h⟩
  exact ⟨p,ydE.2 ⟨hp,h⟩,rfl⟩
def ykX {β:Type} (now:Int) (left:List (ByteArray × β)) (L:List (ByteArray × PGrp)):List (ByteArray × PGrp):=L.map fun q => if inL left q.1 = true then q else (q.1,yHY now q.2)
structure TickI (w0 w35:World) (b r:Nat) (V:BrV) (now:Int) (left:List (ByteArray × Nat)) (GP':List (ByteArray × GrpV)) (lab':Nat → BLab) (w':World):Prop where
 keys:GP'.map (fun q => (q.1,q.2.p)) = V.GP.map (fun q => (q.1,q.2.p))
 grp:∀ q ∈ GP',yc0 w' q.2.p q.2.gen q.2.robin q.2.G q.2.F
 lbl:∀ q ∈ GP',∀ k ∈ q.2.F,lab' k = .grp q.1
 old:∀ k,k < w0.heap.size → lab' k = V.lab k
 gr:∀ q ∈ GP',∀ k ∈ q.2.F,k ∈ V.GP.flatMap (fun q => q.2.F) ∨ w35.heap.size ≤ k
 xs:GP'.map (fun q => (q.1,q.2.x)) = ykX now left V.st.groups
 mod:Mod (r :: V.GP.flatMap fun q => q.2.F) w35 w'
 sub:∀ p ∈ left,p ∈ V.GP.map fun q => (q.1,q.2.p)
 nd:(left.map (·.1)).Nodup
set_option maxRecDepth 100000 in
theorem yDE {w:World} {b N:Nat} {V:BrV} (h:ydH w b V) (g:BrGood V.st N) {o:POp} (ho:OpFine o) (rs ts:Sl) :
  Calls pP 41 #[.pointer (some ⟨b,0,none⟩),o.v rs ts] w fun e w' => ∃ v,e = .returned v ∧ ya4 w b V (yAz V.st o) v w':=by
 have hon:=ho.n
 simp only [num,decide_eq_true_eq] at hon
 have n0:0 ≤ V.now:=g.n0
 have n1:V.now ≤ 1099511627776:=g.n1
 have ew:IntKind.wrap .i64 (V.now + o.n) = V.now + o.n:=yaJ (by omega) (by omega)
 refine yFA (h.cell nofun) ?_
 intro b3 f3 b4 f4
 rw [ew]
 unfold yAz
 refine yaH (fun g1 => ?_) fun g1 => ?_
 ·intro w17 A17
  have q:=Own2.of f3 f4 A17
  have h17:=h.keep0 A17.mod
  refine (ybZ _ w17).mono ?_
  rintro _ w18 ⟨rfl,M18⟩
  refine ⟨_,_,_,_,_,_,_,_,_,_,rfl,yaG.of0 M18,?_⟩
  intro w29 A29 _
  rw [if_pos (show V.st.now + o.n > 1099511627776 from g1)]
  exact ya4.fin0 q h (BrStep.refl h17 M18) A29.mod rfl rfl rfl rfl
 rw [if_neg (show ¬ V.st.now + o.n > 1099511627776 from g1)]
 intro w33 A33
 have M33:Mod [b] w w33:=A33.mod
 have s33:=M33.size
 have l3:=A33.lt b3 (by simp)
 have l4:=A33.lt b4 (by simp)
 have lb:b < w.heap.size:=h.low.1
 have lmg:V.mg < w.heap.size:=h.low.2.2.1
 have hmgb:V.mg ≠ b:=fun e => by have:=h.lg; rw [e,h.lb] at this; cases this
 have hm33:yaX pP 9 hks (fun n:Nat => Value.pointer (some ⟨n,0,none⟩)) w33 V.mg (V.GP.map fun q => (q.1,q.2.p)):=((h.gs nofun).keepM M33 (by simpa using hmgb)).sameV (by rw [List.map_map]; rfl)
 have hnd:(V.GP.map (·.1)).Nodup:=(h.gs nofun).nodup
 obtain ⟨w35,h35,M35,I35⟩:=yb3.start (T:=92) hm33 Tryz.underlying92
 have s35:=M35.size
 refine ⟨_,w35,h35,yaG.of0 M35,?_⟩
 generalize hr:w33.heap.size = r at I35 ⊢
 have lr:r < w35.heap.size:=by
  obtain ⟨es,clock,since,seen,c0,e1,_⟩:=I35
  exact (Array.getElem?_eq_some_iff.1 e1).1
 have N35:Mod [b] w w35:=(M33.trans M35).less (by simp)
 have hGl:∀ k ∈ V.GP.flatMap (fun q => q.2.F),k < w.heap.size:=fun k hk => by
  obtain ⟨q,hq,hk⟩:=List.mem_flatMap.1 hk
  exact h.low.2.2.2.2.2.2.2 q hq k hk
 have hGlab:∀ k ∈ V.GP.flatMap (fun q => q.2.F),∃ g,V.lab k = .grp g:=fun k hk => by
  obtain ⟨q,hq,hk⟩:=List.mem_flatMap.1 hk
  exact ⟨q.1,h.lgr q hq k hk⟩
 have hbG:b ∉ V.GP.flatMap (fun q => q.2.F):=fun hk => by obtain ⟨g,e⟩:=hGlab b hk; rw [h.lb] at e; cases e
 have hin:∀ q ∈ V.GP.map (fun q => (q.1,q.2.p)),q.1 ∈ V.GP.map (·.1):=fun q hq => by
  obtain ⟨p,hp,rfl⟩:=List.mem_map.1 hq
  exact List.mem_map.2 ⟨p,hp,rfl⟩
 have hcg:V.st.groups.length ≤ 8:=g.cg
 have cnt8:∀ k,yfP (V.now + o.n) (ya8 V.st k).G ≤ 8:=fun k => by
  refine Nat.le_trans (List.length_filter_le _ _) ?_
  cases e:lkp V.GP k with
  | none => rw [ypH e]; simp
  | some x => rw [yhC e]; exact (g.grp e).1
 have tot:∀ l:List (ByteArray × Nat),(l.map fun p => yfP (V.now + o.n) (ya8 V.st p.1).G).sum ≤ 8 * l.length:=fun l => by
  induction l with
  | nil => simp
  | cons p r ih => have:=cnt8 p.1; simp only [List.map_cons,List.sum_cons,List.length_cons]; omega
 have htot:=tot (V.GP.map fun q => (q.1,q.2.p))
 have hGlen:V.GP.length ≤ 8:=by simpa [BrV.st] using hcg
 rw [List.length_map] at htot
 refine ysK (fun mm x w' => ∃ (left:List (ByteArray × Nat)) (GP':List (ByteArray × GrpV)) (lab':Nat → BLab),yb3 pP 9 hks (fun n:Nat => Value.pointer (some ⟨n,0,none⟩)) w' r V.mg (V.GP.map fun q => (q.1,q.2.p)) left ∧ TickI w w35 b r V (V.now + o.n) left GP' lab' w' ∧ (∃ d:Nat,x = d ∧ d + (left.map fun p => yfP (V.now + o.n) (ya8 V.st p.1).G).sum = ((V.GP.map fun q => (q.1,q.2.p)).map fun p:ByteArray × Nat => yfP (V.now + o.n) (ya8 V.st p.1).G).sum) ∧ mm = left.length) (V.GP.map fun q => (q.1,q.2.p)).length
  ⟨_,V.GP,V.lab,I35,⟨rfl,fun q hq => (h.grp q hq nofun).keep N35 fun k hk hk' => by simp at hk; subst hk; exact hbG (List.mem_flatMap.2 ⟨q,hq,hk'⟩),h.lgr,fun _ _ => rfl,fun q hq k hk => .inl (List.mem_flatMap.2 ⟨q,hq,hk⟩),?_,(Mod.refl _).less (by simp),fun p hp => hp,by rw [List.map_map]; exact hnd⟩,⟨0,rfl,by omega⟩,rfl⟩ ?_
 ·rw [ykX]
  have:V.st.groups.map (fun q => if inL (V.GP.map fun q => (q.1,q.2.p)) q.1 = true then q else (q.1,yHY (V.now + o.n) q.2)) = V.st.groups.map id:=List.map_congr_left fun q hq => by
   rw [if_pos]; · rfl
   rw [yrK,List.map_map]
   obtain ⟨p,hp,rfl⟩:=List.mem_map.1 hq
   exact List.mem_map.2 ⟨p,hp,rfl⟩
  rw [this,List.map_id]; rfl
 rintro mm x w1 ⟨left,GP',lab',I1,T,⟨d,rfl,hd⟩,rfl⟩
 have sT:=T.mod.size
 have tl:=tot left
 have hK3:∀ {F:List Nat},(∀ k ∈ F,k ∈ V.GP.flatMap (fun q => q.2.F) ∨ w35.heap.size ≤ k) → ∀ z ∈ [b,b3,b4],z < w35.heap.size → z ∉ F:=fun hF z hz hzl hz' => by
  simp only [List.mem_cons,List.not_mem_nil,or_false] at hz
  rcases hF z hz' with hk | hk
  ·rcases hz with rfl | rfl | rfl
   ·exact hbG hk
   ·have:=hGl _ hk; omega
   ·have:=hGl _ hk; omega
  ·omega
 have hz35:∀ z ∈ [b,b3,b4],z < w35.heap.size:=fun z hz => by
  simp only [List.mem_cons,List.not_mem_nil,or_false] at hz
  rcases hz with rfl | rfl | rfl <;> omega
 rcases I1.step (ty:=0) ybW with ⟨hl0,hs⟩ | ⟨p,hp,w4,hs,M4,I4,hen⟩
 ·subst hl0
  refine .inl ⟨_,hs,yaG.of0 (Mod.refl _),?_⟩
  intro w42 A42 h42
  have M42:Mod [b4] w1 w42:=A42.mod
  have hb4:∀ q ∈ GP',b4 ∉ q.2.F:=fun q hq => hK3 (T.gr q hq) b4 (by simp) (hz35 b4 (by simp))
  have S:=ydH.setGrps h (S:=b :: V.GP.flatMap fun q => q.2.F) (((N35.trans T.mod).trans M42).less fun z hz hl => by
    simp only [List.mem_append,List.mem_cons,List.not_mem_nil,or_false] at hz ⊢
    rcases hz with (hz | hz | hz) | hz
    ·exact .inl hz
    ·omega
    ·exact .inr hz
    ·omega) (fun k hk => by
    rcases List.mem_cons.1 hk with rfl | hk
    ·exact yaF.2 (.inl rfl)
    ·obtain ⟨q,hq,hk⟩:=List.mem_flatMap.1 hk
     exact yaF.2 (.inr (.inr (.inr (.inr (.inr (.inr (.inr ⟨q,hq,hk⟩))))))))
   (fun k hk => by
    rcases List.mem_cons.1 hk with rfl | hk
    ·exact .inl h.lb
    ·exact .inr (hGlab k hk)) h42 T.keys (fun q hq => (T.grp q hq).keep M42 fun k hk hk' => by simp at hk; subst hk; exact hb4 q hq hk') T.lbl T.old (fun q hq k hk => by
    rcases T.gr q hq k hk with hk | hk
    ·obtain ⟨q',hq',hk⟩:=List.mem_flatMap.1 hk
     exact .inl (yaF.2 (.inr (.inr (.inr (.inr (.inr (.inr (.inr ⟨q',hq',hk⟩))))))))
    ·exact .inr (by omega))
  simp only [List.map_nil,List.sum_nil,Nat.add_zero] at hd
  have hdd:d = yDx (V.now + o.n) V.st.groups:=by
   rw [hd,yDx,List.map_map]
   show _ = ((V.GP.map fun q => (q.1,q.2.x)).map fun q => yfP (V.now + o.n) q.2.G).sum
   rw [List.map_map]
   refine congrArg List.sum (List.map_congr_left fun q hq => ?_)
   simp only [Function.comp_apply]
   rw [yhC (yc8 hnd (show (q.1,q.2) ∈ V.GP from hq))]
  rw [hdd]
  refine ya4.plain rfl S ?_ rfl rfl
  have hxs:=T.xs
  simp only [BrV.st] at hxs ⊢
  rw [hxs,ykX]
  congr 1
 ·have hpL:=T.sub p hp
  have hpG:=hin p hpL
  have hkeysf:GP'.map (·.1) = V.GP.map (·.1):=by
   have:=congrArg (List.map Prod.fst) T.keys
   rw [List.map_map,List.map_map] at this; exact this
  have hnd':(GP'.map (·.1)).Nodup:=by rw [hkeysf]; exact hnd
  obtain ⟨x,hxm⟩:∃ x,(p.1,x) ∈ GP':=by
   have:p.1 ∈ GP'.map (·.1):=by rw [hkeysf]; exact hpG
   obtain ⟨z,hz,e⟩:=List.mem_map.1 this
   exact ⟨z.2,by rw [← e]; exact hz⟩
  have hlx:=yc8 hnd' hxm
  have hxp:x.p = p.2:=by
   have h1:(p.1,x.p) ∈ V.GP.map (fun q => (q.1,q.2.p)):=by rw [← T.keys]; exact List.mem_map.2 ⟨_,hxm,rfl⟩
   have hpL2:(p.1,p.2) ∈ V.GP.map (fun q => (q.1,q.2.p)):=hpL
   have:=yjX (L:=V.GP.map fun q => (q.1,q.2.p)) (p:=(p.1,x.p)) (q:=(p.1,p.2)) (by rw [List.map_map]; exact hnd) h1 hpL2 rfl
   exact congrArg Prod.snd this
  have hpin:inL left p.1 = true:=yrK.2 (List.mem_map.2 ⟨p,hp,rfl⟩)
  have hgnd:(V.st.groups.map (·.1)).Nodup:=by simp only [BrV.st]; rw [List.map_map]; exact hnd
  have hxg:(p.1,x.x) ∈ V.st.groups:=by
   have h1:(p.1,x.x) ∈ ykX (V.now + o.n) left V.st.groups:=by rw [← T.xs]; exact List.mem_map.2 ⟨_,hxm,rfl⟩
   obtain ⟨q,hq,e⟩:=List.mem_map.1 h1
   have e1:q.1 = p.1:=by
    have:=congrArg Prod.fst e
    split at this <;> exact this
   rw [if_pos (by rw [e1]; exact hpin)] at e
   rw [← e]; exact hq
  have hxx:ya8 V.st p.1 = x.x:=by rw [ya8,yc8 hgnd hxg]; rfl
  have s4:=M4.size
  have hxF:=T.gr _ hxm
  have hrF:∀ q ∈ GP',r ∉ q.2.F:=fun q hq hk => by
   rcases T.gr q hq r hk with hk | hk
   ·have:=hGl r hk; omega
   ·omega
  have G4:∀ q ∈ GP',yc0 w4 q.2.p q.2.gen q.2.robin q.2.G q.2.F:=fun q hq => (T.grp q hq).keep M4 fun k hk hk' => by simp at hk; subst hk; exact hrF q hq hk'
  have hxG8:x.G.length ≤ 8:=(g.gg _ hxg).1
  refine .inr ⟨_,_,w4,hs,yaG.of M4 (fun z hz _ hz' => by
   simp only [List.mem_cons,List.not_mem_nil,or_false] at hz hz'
   rcases hz with rfl | rfl | rfl <;> omega),_,_,w4,hen w4 (Mod.refl _),yaG.of0 (Mod.refl _),?_⟩
  rw [← hxp]
  refine (yz6 (G4 _ hxm) (by show x.G.length ≤ 1000000; omega) (V.now + o.n)).mono ?_
  rintro _ w5 ⟨_,rfl,s',rfl,hsn,F',hG',M5,G5⟩
  have s5:=M5.size
  refine ⟨_,_,_,rfl,yaG.of M5 (fun z hz _ => hK3 hxF z hz (hz35 z hz)),?_⟩
  have hperm:=yg8 hp T.nd
  have hsum:(left.map fun p => yfP (V.now + o.n) (ya8 V.st p.1).G).sum = yfP (V.now + o.n) x.G + ((yeE left p.1).map fun p => yfP (V.now + o.n) (ya8 V.st p.1).G).sum:=by
   rw [(hperm.map _).sum_nat,List.map_cons,List.sum_cons,hxx]; rfl
  have hlen:(yeE left p.1).length + 1 = left.length:=by
   have:=hperm.length_eq; simpa using this.symm
  have hsn':s'.n = yfP (V.now + o.n) x.G:=hsn
  have ex:IntKind.wrap .i64 ((d:Int) + (s'.n:Int)) = ((d + s'.n:Nat):Int):=by rw [yaJ (by omega) (by omega)]; omega
  rw [ex]
  have hmF:V.mg ∉ x.F:=fun hk => by
   have h1:=T.lbl _ hxm _ hk
   rw [T.old _ lmg,h.lg] at h1; cases h1
  have hl2:∀ q ∈ put GP' p.1 ⟨x.p,(if 0 < yfP (V.now + o.n) x.G then ynT x.gen else x.gen),x.robin,ynV (V.now + o.n) x.G,F'⟩,q = (p.1,⟨x.p,(if 0 < yfP (V.now + o.n) x.G then ynT x.gen else x.gen),x.robin,ynV (V.now + o.n) x.G,F'⟩) ∨ q ∈ GP' ∧ q.1 ≠ p.1:=fun q hq => yqI hnd' hq
  refine yBK (yeE left p.1).length (by omega) ⟨yeE left p.1,put GP' p.1 ⟨x.p,(if 0 < yfP (V.now + o.n) x.G then ynT x.gen else x.gen),x.robin,ynV (V.now + o.n) x.G,F'⟩,relab w4 lab' (.grp p.1),I4.keep M5 (hrF _ hxm) hmF,⟨?_,fun q hq => ?_,fun q hq => ?_,fun k hk => ?_,fun q hq => ?_,?_,?_,fun q hq => T.sub q (ydE.1 hq).1,yeN T.nd⟩,⟨d + s'.n,rfl,by omega⟩,rfl⟩
  ·have e:=yeJ (fun q:GrpV => q.p) GP' p.1 ⟨x.p,(if 0 < yfP (V.now + o.n) x.G then ynT x.gen else x.gen),x.robin,ynV (V.now + o.n) x.G,F'⟩
   rw [← e,ygU (by rw [ydX (fun q:GrpV => q.p),hlx]; rfl)]
   exact T.keys
  ·rcases hl2 q hq with rfl | ⟨h1,h2⟩
   ·exact hG'
   ·refine (G4 q h1).keep M5 fun k hk hk' => h2 ?_
    have e1:=T.lbl _ hxm k hk
    have e2:=T.lbl q h1 k hk'
    rw [e1] at e2
    injection e2 with e2
    exact e2.symm
  ·rcases hl2 q hq with rfl | ⟨h1,h2⟩
   ·exact yeP (T.lbl _ hxm) G5
   ·exact fun k hk => (ycJ ((G4 q h1).lt k hk)).trans (T.lbl q h1 k hk)
  ·exact (ycJ (by omega)).trans (T.old k hk)
  ·rcases hl2 q hq with rfl | ⟨h1,h2⟩
   ·intro k hk
    rcases G5 k hk with hk | hk
    ·exact hxF k hk
    ·exact .inr (by omega)
   ·exact T.gr q h1
  ·have e:=yeJ (fun q:GrpV => q.x) GP' p.1 ⟨x.p,(if 0 < yfP (V.now + o.n) x.G then ynT x.gen else x.gen),x.robin,ynV (V.now + o.n) x.G,F'⟩
   rw [← e]
   have hnp:((ykX (V.now + o.n) left V.st.groups).map (·.1)).Nodup:=by
    rw [← T.xs,List.map_map]; exact hnd'
   have hxs:=T.xs
   rw [show (GP'.map fun p => (p.1,(fun q:GrpV => q.x) p.2)) = ykX (V.now + o.n) left V.st.groups from hxs]
   rw [yjW hnp (by rw [← hxs,List.map_map]; exact List.mem_map.2 ⟨_,hxm,rfl⟩),ykX,ykX,List.map_map]
   refine List.map_congr_left fun q hq => ?_
   simp only [Function.comp_apply]
   by_cases e1:q.1 = p.1
   ·have hqx:q = (p.1,x.x):=yjX hgnd hq hxg e1
    have h0:inL (yeE left p.1) q.1 = false:=by rw [yDD,e1]; simp
    rw [if_pos (show inL left q.1 = true by rw [e1]; exact hpin),if_pos e1,h0]
    simp only [Bool.false_eq_true,if_false]
    rw [hqx]; rfl
   ·have hi:inL (yeE left p.1) q.1 = inL left q.1:=by rw [yDD]; simp [e1]
    rw [hi]
    split <;> first | rfl | rw [if_neg e1]
  ·refine ((T.mod.trans M4).trans M5).less fun z hz hl => ?_
   simp only [List.mem_append,List.mem_cons,List.not_mem_nil,or_false] at hz ⊢
   rcases hz with (hz | hz) | hz
   ·exact hz
   ·exact .inl hz
   ·rcases hxF z hz with hz | hz
    ·exact .inr hz
    ·omega
end Go.Proofs.YtkepmmocldnnfaaGreat
namespace Go.Proofs.YtkepmmocldnnfaaGreat
open Go Go.RowKit Go.Maps Go.MapKept
set_option linter.unusedVariables false
set_option linter.unusedSimpArgs false
def ydA (P:PPart → Prop) (L:List (List PPart)):Prop:=∀ l ∈ L,∀ p ∈ l,P p
theorem ydA.give {P:PPart → Prop} {L:List (List PPart)} (h:ydA P L) {i:Nat} {p:PPart} (hp:P p):ydA P (ynW L i p):=fun l hl q hq => by
 rcases List.mem_or_eq_of_mem_set hl with hl | rfl
 ·exact h l hl q hq
 ·rcases List.mem_append.1 hq with hq | hq
  ·rw [List.getD_eq_getElem?_getD] at hq
   cases e:L[i]? with
   | none => rw [e] at hq; cases hq
   | some l => rw [e] at hq; exact h l (List.mem_of_getElem? e) q hq
  ·simp at hq; subst hq; exact hp
theorem ydA.fill {P:PPart → Prop} {t:ByteArray} {i:Nat}:∀ (n k:Nat) {L:List (List PPart)},ydA P L → (∀ j:Nat,k ≤ j → j < k + n → P ⟨t,(j:Int)⟩) → ydA P (yq9 t i k n L)
 | 0,_,_,h,_ => h
 | n + 1,k,L,h,hp => ydA.fill n (k + 1) (h.give (hp k (Nat.le_refl _) (by omega))) fun j h1 h2 => hp j (by omega) (by omega)
theorem yH1 {N tot k:Nat} (hk:k < tot):k * (N / tot) + min k (N % tot) + ytI N tot k = (k + 1) * (N / tot) + min (k + 1) (N % tot):=by
 have e:(k + 1) * (N / tot) = k * (N / tot) + N / tot:=Nat.succ_mul _ _
 unfold ytI
 rw [e]
 split <;> omega
theorem yH2 {N tot k:Nat} (hk:k ≤ tot) (h0:0 < tot):k * (N / tot) + min k (N % tot) ≤ N:=by
 have h1:k * (N / tot) ≤ tot * (N / tot):=Nat.mul_le_mul_right _ hk
 have h2:=Nat.div_add_mod N tot
 omega
theorem ydA.share {P:PPart → Prop} {t:ByteArray} {N tot:Nat} (hP:∀ j:Nat,j < N → P ⟨t,(j:Int)⟩):∀ (W:List Nat) (k c:Nat) {L:List (List PPart)},ydA P L → c = k * (N / tot) + min k (N % tot) → k + W.length ≤ tot → ydA P (ygR t N tot W k c L)
 | [],_,_,_,h,_,_ => h
 | i :: r,k,c,L,h,hc,hk => by
  rw [List.length_cons] at hk
  have e:=yH1 (N:=N) (tot:=tot) (k:=k) (by omega)
  have t:=yH2 (N:=N) (tot:=tot) (k:=k + 1) (by omega) (by omega)
  exact ydA.share hP r (k + 1) _ (ydA.fill _ _ h fun j h1 h2 => hP j (by omega)) (by omega) (by omega)
theorem ydA.range {P:PPart → Prop} {ms:List PMem}:∀ (l:List PTop) {L:List (List PPart)},(∀ x ∈ l,∀ j:Nat,j < x.n.toNat → P ⟨x.t,(j:Int)⟩) → ydA P L → ydA P (ygE ms l L)
 | [],_,_,h => h
 | x :: r,L,hP,h => ydA.range r (fun y hy => hP y (by simp [hy])) (ydA.share (hP x (by simp)) _ 0 0 h (by simp) (by simp))
theorem ydA.deal {P:PPart → Prop} {ms:List PMem} {t:ByteArray}:∀ (r p place:Nat) {L:List (List PPart)},(∀ j:Nat,p ≤ j → j < p + r → P ⟨t,(j:Int)⟩) → ydA P L → ydA P (ygS ms t p r place L).1
 | 0,_,_,_,_,h => h
 | r + 1,p,place,L,hP,h => by
  rw [ygS]
  cases yrB ms t place with
  | none => exact h
  | some i => exact ydA.deal r _ _ (fun j h1 h2 => hP j (by omega) (by omega)) (h.give (hP p (Nat.le_refl _) (by omega)))
theorem ydA.robin {P:PPart → Prop} {ms:List PMem}:∀ (l:List PTop) (place:Nat) {L:List (List PPart)},(∀ x ∈ l,∀ j:Nat,j < x.n.toNat → P ⟨x.t,(j:Int)⟩) → ydA P L → ydA P (yhT ms l place L)
 | [],_,_,_,h => h
 | x :: r,place,L,hP,h => ydA.robin r _ (fun y hy => hP y (by simp [hy])) (ydA.deal _ _ _ (fun j h1 h2 => hP x (by simp) j (by omega)) h)
theorem yDF {s:PBr} {o:POp}:∀ p ∈ (ycZ s o).2,ynS s.cat p = true:=by
 intro p hp
 unfold ycZ ycN at hp
 split at hp
 ·cases hp
 split at hp
 ·cases hp
 have h0:ydA (fun p => ynS s.cat p = true) (List.replicate ((yd8 (ya8 s o.g).G).map yk6).length []):=fun l hl q hq => by
  rw [List.eq_of_mem_replicate hl] at hq; cases hq
 have hx:∀ x ∈ yj8 s.cat,∀ j:Nat,j < x.n.toNat → ynS s.cat ⟨x.t,(j:Int)⟩ = true:=fun x hx j hj => by
  obtain ⟨k,_,rfl⟩:=List.mem_map.1 hx
  simp only [ynS,decide_eq_true_eq]
  simp only at hj
  omega
 have hA:ydA (fun p => ynS s.cat p = true) (yrC (ya8 s o.g).robin (yj8 s.cat) ((yd8 (ya8 s o.g).G).map yk6)):=by
  unfold yrC
  split
  ·exact ydA.robin _ _ hx h0
  ·exact ydA.range _ hx h0
 rw [List.getD_eq_getElem?_getD] at hp
 cases e:(yrC (ya8 s o.g).robin (yj8 s.cat) ((yd8 (ya8 s o.g).G).map yk6))[(ydK ((ya8 s o.g).G.map (·.1))).findIdx (eqS o.m)]? with
 | none => rw [e] at hp; cases hp
 | some l => rw [e] at hp; exact hA l (List.mem_of_getElem? e) p hp
theorem BrGood.more {s:PBr} {N:Nat} (g:BrGood s N) (h:N + 1 ≤ 900):BrGood s (N + 1) :=
 { g with cd:=Nat.le_succ_of_le g.cd,ce:=Nat.le_succ_of_le g.ce,cm:=Nat.le_succ_of_le g.cm,lg:=fun q hq => ⟨(g.lg q hq).1,by have:=(g.lg q hq).2.1; omega,(g.lg q hq).2.2⟩,nN:=h }
theorem yjA {κ β:Type} [DecidableEq κ]:∀ {L:List (κ × β)} {k:κ} {v:β},(lkp L k).isSome = true → (put L k v).length = L.length
 | [],_,_,h => by cases h
 | p :: r,k,v,h => by
  unfold lkp at h
  unfold put
  split
  ·rfl
  ·rename_i e
   rw [if_neg e] at h
   rw [List.length_cons,yjA h,List.length_cons]
theorem yiD {t:ByteArray} (p:PPart):∀ (n:Nat) (L:List (PPart × List SegS)),lkp (ydT t n L) p = if p.t = t ∧ 0 ≤ p.n ∧ p.n < n then some yt2 else lkp L p
 | 0,L => by rw [ydT,if_neg (by omega)]
 | n + 1,L => by
  rw [ydT,ycP,yiD p n L]
  by_cases e:p = ⟨t,(n:Int)⟩
  ·rw [if_pos e,if_pos (by subst e; exact ⟨rfl,by simp,by simp; omega⟩)]
  ·rw [if_neg e]
   have:¬ (p.t = t ∧ p.n = n):=fun h => e (by obtain ⟨a,b⟩:=p; simp at h; rw [h.1,h.2])
   by_cases h2:p.t = t ∧ 0 ≤ p.n ∧ p.n < n
   ·rw [if_pos h2,if_pos ⟨h2.1,h2.2.1,by omega⟩]
   ·rw [if_neg h2,if_neg (fun h3 => h2 ⟨h3.1,h3.2.1,by have:p.n ≠ n:=fun e => this ⟨h3.1,e⟩; omega⟩)]
theorem ynD {t:ByteArray} {q:PPart × List SegS}:∀ {n:Nat} {L:List (PPart × List SegS)},q ∈ ydT t n L → q.2 = yt2 ∨ q ∈ L
 | 0,_,h => .inr h
 | n + 1,L,h => by
  rcases ycG h with rfl | h
  ·exact .inl rfl
  ·exact ynD h
theorem yE4:∀ x ∈ yt2,∀ f ∈ x.l,f.r.key.size ≤ 64:=by simp [yt2]
theorem BrGood.topicG {s:PBr} {N:Nat} (g:BrGood s N) (o:POp) (h:N + 1 ≤ 900):BrGood (ynA s o).1 (N + 1):=by
 have g':=g.more h
 unfold ynA
 split
 case isFalse => exact g'
 rename_i h0
 obtain ⟨hno,h1,h8,hl⟩:=yLj h0
 exact { g' with
  cl:=by have:=yg4 s.cat o.part.t o.n; show (put s.cat o.part.t o.n).length ≤ 8; omega
  lg:=fun q hq => by
   rcases ynD hq with e | hq
   ·rw [e]; exact ⟨yG8 g.r1 g.r2,by simp [yt2],yE4⟩
   ·exact g'.lg q hq
  has:=fun p hp => by
   show (lkp (ydT o.part.t o.n.toNat s.logs) p).isSome = true
   rw [yiD]
   split
   ·rfl
   ·rename_i hn
    refine g.has p ?_
    simp only [ynS,decide_eq_true_eq] at hp ⊢
    rw [ycP] at hp
    by_cases e:p.t = o.part.t
    ·rw [if_pos e] at hp
     simp only [Option.getD_some] at hp
     exact absurd ⟨e,hp.1,by omega⟩ hn
    ·rw [if_neg e] at hp; exact hp
  cat:=fun p hp => by
   show (lkp (put s.cat o.part.t o.n) p.t).isSome = true
   have hp:(lkp (ydT o.part.t o.n.toNat s.logs) p).isSome = true:=hp
   rw [yiD] at hp
   rw [ycP]
   split
   ·rfl
   ·rename_i e
    rw [if_neg (fun hh => e hh.1)] at hp
    exact g.cat p hp }
theorem BrGood.producerG {s:PBr} {N:Nat} (g:BrGood s N) (o:POp) (h:N + 1 ≤ 900):BrGood (yfQ s o).1 (N + 1):=by
 have g':=g.more h
 have hd:∀ q ∈ ym0 s.eps s.dd o.n,q ∈ s.dd:=fun q hq => by
  unfold ym0 at hq
  split at hq
  ·exact hq
  split at hq
  ·exact hq
  ·exact (List.mem_filter.1 hq).1
 have hdl:(ym0 s.eps s.dd o.n).length ≤ s.dd.length:=by
  unfold ym0
  split
  ·exact Nat.le_refl _
  split
  ·exact Nat.le_refl _
  ·exact List.length_filter_le _ _
 have hel:(yf7 s.eps o.n).length ≤ s.eps.length + 1:=by
  unfold yf7
  split
  ·omega
  split <;> simp
 exact { g' with
  ce:=by have:=g.ce; show (yf7 s.eps o.n).length ≤ N + 1; omega
  cd:=by have:=g.cd; show (ym0 s.eps s.dd o.n).length ≤ N + 1; omega
  cq:=fun q hq => g.cq q (hd q hq) }
theorem yGr {s:PBr} {N:Nat} (g:BrGood s (N + 1)) {p:PPart} {L:List SegS} (h1:LogOk s.room L) (h2:L.length ≤ N + 2) (h3:∀ x ∈ L,∀ f ∈ x.l,f.r.key.size ≤ 64):∀ q ∈ put s.logs p L,LogOk s.room q.2 ∧ q.2.length ≤ N + 1 + 1 ∧ ∀ x ∈ q.2,∀ f ∈ x.l,f.r.key.size ≤ 64:=fun q hq => by
 rcases ycG hq with rfl | hq
 ·exact ⟨h1,h2,h3⟩
 ·exact g.lg q hq
theorem yyJ {κ β:Type} [DecidableEq κ] {L:List (κ × β)} {k x:κ} {v:β} (h:(lkp L x).isSome = true):(lkp (put L k v) x).isSome = true:=by
 rw [ycP]; split
 ·rfl
 ·exact h
theorem ytY {κ β:Type} [DecidableEq κ] {L:List (κ × β)} {k x:κ} {v:β} (hk:(lkp L k).isSome = true) (h:(lkp (put L k v) x).isSome = true):(lkp L x).isSome = true:=by
 rw [ycP] at h
 split at h
 ·rename_i e; rw [e]; exact hk
 ·exact h
theorem ykC {s:PBr} {N:Nat} (g:BrGood s N) {p:PPart} (hp:(lkp s.logs p).isSome = true):LogOk s.room (ycK s p) ∧ (ycK s p).length ≤ N + 1 ∧ ∀ x ∈ ycK s p,∀ f ∈ x.l,f.r.key.size ≤ 64:=by
 obtain ⟨L,hL⟩:=Option.isSome_iff_exists.1 hp
 have e:ycK s p = L:=by rw [ycK,hL]; rfl
 rw [e]
 exact g.lg (p,L) (yaW hL)
theorem yyK:∀ (n:Int) (rs:List PRec),∀ f ∈ ynQ n rs,f.r ∈ rs
 | _,[],f,h => by cases h
 | n,r :: rs,f,h => by
  rcases List.mem_cons.1 h with rfl | h
  ·simp
  ·exact List.mem_cons_of_mem _ (yyK _ rs f h)
theorem yE5 {rs:List PRec} (h:yt1 rs = 0):∀ r ∈ rs,r.key.size ≤ 64:=fun r hr => by
 have h2:yjO r = 0:=by
  unfold yt1 at h
  cases e:rs.find? fun r => decide (yjO r ≠ 0) with
  | none =>
   have:=List.find?_eq_none.1 e r hr
   simpa using this
  | some x =>
   rw [e] at h
   have:=List.find?_some e
   simp at this
   exact absurd h this
 unfold yjO yLH at h2
 by_cases hh:r.key.size ≤ 64
 ·exact hh
 ·exfalso
  revert h2
  split <;> simp_all <;> omega
theorem yAF {room:Int} {L:List SegS} {rs:List PRec} (hL:∀ x ∈ L,∀ f ∈ x.l,f.r.key.size ≤ 64) (hr:∀ r ∈ rs,r.key.size ≤ 64):∀ x ∈ ygO room L rs,∀ f ∈ x.l,f.r.key.size ≤ 64:=by
 have hseg:∀ s:SegS,(∀ f ∈ s.l,f.r.key.size ≤ 64) → ∀ f ∈ (ye8 s rs).l,f.r.key.size ≤ 64:=fun s hs f hf => by
  rcases List.mem_append.1 hf with hf | hf
  ·exact hs f hf
  ·exact hr _ (yyK _ _ f hf)
 intro x hx
 unfold ygO at hx
 split at hx
 ·exact hL x hx
 rename_i s hs
 split at hx
 ·rcases List.mem_append.1 hx with hx | hx
  ·exact hL x hx
  ·simp at hx; subst hx; exact hseg _ (by simp)
 ·rcases List.mem_or_eq_of_mem_set hx with hx | rfl
  ·exact hL x hx
  ·exact hseg s (hL s (List.mem_of_getElem? hs))
theorem BrGood.produceG {s:PBr} {N:Nat} (g:BrGood s N) (o:POp) (hp:(lkp s.logs o.part).isSome = true) (h:N + 1 ≤ 900):BrGood (yhA s o).1 (N + 1):=by
 have g':=g.more h
 unfold yhA
 split
 ·exact g'
 split
 ·exact g'
 split
 ·exact g'
 rename_i h3
 have h3:ynR s.room (ycK s o.part) o.b.recs = 0:=by simpa using h3
 obtain ⟨k1,k2,k3⟩:=ykC g hp
 have hchk:yt1 o.b.recs = 0:=by
  unfold ynR at h3
  split at h3
  ·rename_i h4; exact absurd h3 h4
  ·rename_i h4; simpa using h4
 have hdl:(ym1 s.eps s.dd o.part o.b (yfU (ycK s o.part))).length ≤ s.dd.length + 1:=by
  unfold ym1
  split
  ·omega
  ·exact yg4 _ _ _
 have hdq:∀ q ∈ ym1 s.eps s.dd o.part o.b (yfU (ycK s o.part)),q.2.length ≤ 5:=fun q hq => by
  unfold ym1 at hq
  split at hq
  ·exact g.cq q hq
  ·rcases ycG hq with rfl | hq
   ·simp only [yk4,List.length_drop]; omega
   ·exact g.cq q hq
 exact { g' with
  cd:=by have:=g.cd; show (ym1 s.eps s.dd o.part o.b (yfU (ycK s o.part))).length ≤ N + 1; omega
  cq:=hdq
  lg:=yGr g' (k1.app h3) (by have:=yzH s.room (ycK s o.part) o.b.recs; omega) (yAF k3 (yE5 hchk))
  has:=fun p hpp => yyJ (g.has p hpp)
  cat:=fun p hpp => g.cat p (ytY hp hpp) }
theorem BrGood.setLogG {s:PBr} {N:Nat} (g:BrGood s (N + 1)) {p:PPart} (hp:(lkp s.logs p).isSome = true) {L:List SegS} (h1:LogOk s.room L) (h2:L.length ≤ N + 2) (h3:∀ x ∈ L,∀ f ∈ x.l,f.r.key.size ≤ 64):BrGood (yvZ s p L) (N + 1) :=
 { g with lg:=yGr g h1 h2 h3,has:=fun p hpp => yyJ (g.has p hpp),cat:=fun p hpp => g.cat p (ytY hp hpp) }
theorem BrGood.retainG {s:PBr} {N:Nat} (g:BrGood s N) (o:POp) (hp:(lkp s.logs o.part).isSome = true) (h:N + 1 ≤ 900):BrGood (ynB s o).1 (N + 1):=by
 have g':=g.more h
 obtain ⟨k1,k2,k3⟩:=ykC g hp
 have kd:=k1.drop (k:=yvF (ycK s o.part) o.off) (by have:=yCA (ycK s o.part) o.off; have:=List.length_pos_iff.2 k1.ne; omega)
 have g2:=g'.setLogG hp kd (by rw [List.length_drop]; omega) (fun x hx => k3 x (List.mem_of_mem_drop hx))
 have hcm:(yo4 s.marks o.part (ykP ((ycK s o.part).drop (yvF (ycK s o.part) o.off)))).length ≤ N + 1:=by
  have:=g.cm
  unfold yo4
  split
  ·omega
  ·rw [List.length_map]; omega
 exact { g2 with cm:=hcm }
theorem BrGood.compactG {s:PBr} {N:Nat} (g:BrGood s N) (o:POp) (hp:(lkp s.logs o.part).isSome = true) (h:N + 1 ≤ 900):BrGood (yi9 s o).1 (N + 1):=by
 obtain ⟨k1,k2,k3⟩:=ykC g hp
 have hs:=ytS (ycK s o.part)
 refine (g.more h).setLogG hp k1.comp (by rw [hs.1]; omega) fun x hx f hf => ?_
 obtain ⟨i,hi⟩:=List.getElem?_of_mem hx
 obtain ⟨s0,h0,_,_,h3⟩:=hs.2 i x hi
 exact k3 s0 (List.mem_of_getElem? h0) f (h3.subset hf)
def yE6 (G:GL):Prop:=G.length ≤ 8 ∧ ∀ x ∈ G,x.2.topics.length ≤ 8
theorem ykD {s:PBr} {N:Nat} (g:BrGood s N) (k:ByteArray):yE6 (ya8 s k).G:=by
 cases e:lkp s.groups k with
 | none => rw [ya8,e]; exact ⟨by simp,by simp⟩
 | some x =>
  have:ya8 s k = x:=by rw [ya8,e]; rfl
  rw [this]
  exact g.gg (k,x) (yaW e)
theorem BrGood.setGrpG {s:PBr} {N:Nat} (g:BrGood s (N + 1)) {k:ByteArray} {x:PGrp} (hl:(lkp s.groups k).isSome = true ∨ s.groups.length < 8) (hx:yE6 x.G):BrGood (ygV s k x) (N + 1) :=
 { g with
  cg:=by
   show (put s.groups k x).length ≤ 8
   rcases hl with hl | hl
   ·rw [yjA hl]; exact g.cg
   ·have:=yg4 s.groups k x; omega
  gg:=fun q hq => by
   rcases ycG hq with rfl | hq
   ·exact hx
   ·exact g.gg q hq }
theorem BrGood.joinG {s:PBr} {N:Nat} (g:BrGood s N) (o:POp) (h:N + 1 ≤ 900):BrGood (yAy s o).1 (N + 1):=by
 have g':=g.more h
 unfold yAy
 split
 ·exact g'
 rename_i h1
 split
 ·exact g'
 rename_i h2
 have h2:ybF (ya8 s o.g).gen (ya8 s o.g).robin (ya8 s o.g).G (yc2 s o) o.robin = 0:=by simpa using h2
 have hg:=ykD g o.g
 refine g'.setGrpG ?_ ⟨?_,fun x hx => ?_⟩
 ·cases e:(lkp s.groups o.g).isSome with
  | true => exact .inl rfl
  | false => exact .inr (by by_cases hh:8 ≤ s.groups.length; exact absurd ⟨e,hh⟩ h1; omega)
 ·unfold ybF at h2
  split at h2
  ·cases h2
  split at h2
  ·cases h2
  split at h2
  ·cases h2
  rename_i h5
  show (put (ya8 s o.g).G o.m (yc2 s o)).length ≤ 8
  cases e:(lkp (ya8 s o.g).G o.m).isSome with
  | true => rw [yjA e]; exact hg.1
  | false =>
   have:=yg4 (ya8 s o.g).G o.m (yc2 s o)
   have h6:¬ 8 ≤ (ya8 s o.g).G.length:=fun hh => h5 (.inl ⟨hh,e⟩)
   omega
 ·rcases ycG hx with rfl | hx
  ·unfold ybF at h2
   split at h2
   ·cases h2
   rename_i h5
   have h5:ydF (yc2 s o) = true:=by simpa using h5
   simp only [ydF,Bool.and_eq_true,decide_eq_true_eq] at h5
   exact h5.2.2.1.2
  ·exact hg.2 x hx
theorem BrGood.beatG2 {s:PBr} {N:Nat} (g:BrGood s N) (o:POp) (hl:(lkp s.groups o.g).isSome = true) (h:N + 1 ≤ 900):BrGood (yDw s o).1 (N + 1):=by
 have hg:=ykD g o.g
 refine (g.more h).setGrpG (.inl hl) ?_
 show yE6 (if ynU (ya8 s o.g).gen (ya8 s o.g).G o.m o.gen s.now = 0 then yzX (ya8 s o.g).G o.m s.now else (ya8 s o.g).G)
 split
 case isFalse => exact hg
 rename_i h0
 have hs:(lkp (ya8 s o.g).G o.m).isSome = true:=by
  cases e:(lkp (ya8 s o.g).G o.m).isSome with
  | true => rfl
  | false =>
   exfalso
   unfold ynU yb8 at h0
   split at h0
   ·cases h0
   ·first
     | (rw [if_pos e] at h0; cases h0)
     | exact absurd h0 (by decide)
 obtain ⟨y,hy⟩:=Option.isSome_iff_exists.1 hs
 refine ⟨by unfold yzX; rw [yjA hs]; exact hg.1,fun x hx => ?_⟩
 unfold yzX at hx
 rcases ycG hx with rfl | hx
 ·rw [hy]; exact hg.2 (o.m,y) (yaW hy)
 ·exact hg.2 x hx
theorem BrGood.leaveG {s:PBr} {N:Nat} (g:BrGood s N) (o:POp) (hl:(lkp s.groups o.g).isSome = true) (h:N + 1 ≤ 900):BrGood (ytW s o).1 (N + 1):=by
 have hg:=ykD g o.g
 refine (g.more h).setGrpG (.inl hl) ?_
 show yE6 (if yb8 (ya8 s o.g).gen (ya8 s o.g).G o.m o.gen = 0 then del (ya8 s o.g).G o.m else (ya8 s o.g).G)
 split
 case isFalse => exact hg
 exact ⟨Nat.le_trans (yxC _ _) hg.1,fun x hx => hg.2 x (yp7 hx)⟩
theorem BrGood.commitG {s:PBr} {N:Nat} (g:BrGood s N) (o:POp) (h:N + 1 ≤ 900):BrGood (ykA s o).1 (N + 1):=by
 have g':=g.more h
 unfold ykA
 split
 ·exact g'
 split
 ·exact g'
 split
 ·exact g'
 have hcm:(if yqG s.marks ⟨o.g,o.part,o.off⟩ = 0 then put s.marks (o.g,o.part) o.off else s.marks).length ≤ N + 1:=by
  have:=g.cm
  split
  ·have:=yg4 s.marks (o.g,o.part) o.off; omega
  ·omega
 exact { g' with cm:=hcm }
theorem BrGood.tickG2 {s:PBr} {N:Nat} (g:BrGood s N) (o:POp) (ho:num o.n = true) (h:N + 1 ≤ 900):BrGood (yAz s o).1 (N + 1):=by
 have g':=g.more h
 simp only [num,decide_eq_true_eq] at ho
 have n0:=g.n0
 unfold yAz
 split
 ·exact g'
 rename_i h1
 exact { g' with
  n0:=by show 0 ≤ s.now + o.n; omega
  n1:=by show s.now + o.n ≤ _; omega
  cg:=by show (s.groups.map _).length ≤ 8; rw [List.length_map]; exact g.cg
  gg:=fun q hq => by
   obtain ⟨p,hp,rfl⟩:=List.mem_map.1 hq
   have hg:=g.gg p hp
   exact ⟨Nat.le_trans (List.length_filter_le _ _) hg.1,fun x hx => hg.2 x (List.mem_filter.1 hx).1⟩ }
set_option maxHeartbeats 4000000 in
theorem BrGood.do {s:PBr} {N:Nat} (g:BrGood s N) (o:POp) (h:N + 1 ≤ 900):BrGood (doF s o).1 (N + 1):=by
 have g':=g.more h
 unfold doF
 split
 ·exact g'
 rename_i h1
 have hnum:num o.n = true:=by
  have h1:opE o = 0:=by simpa using h1
  unfold opE at h1
  split at h1
  ·cases h1
  split at h1
  ·cases h1
  split at h1
  ·cases h1
  rename_i h3
  have h3:num o.part.n = true ∧ num o.n = true ∧ num o.off = true ∧ num o.gen = true:=by simpa using h3
  exact h3.2.1
 split
 ·exact g'
 rename_i h2
 split
 ·exact g'
 rename_i h3
 have hp:yhL o.kind = true → (lkp s.logs o.part).isSome = true:=fun hk => g.has _ (by
  cases e:ynS s.cat o.part with
  | true => rfl
  | false => exact absurd ⟨hk,e⟩ h2)
 have hgr:yv0 o.kind = true → (lkp s.groups o.g).isSome = true:=fun hk => by
  cases e:(lkp s.groups o.g).isSome with
  | true => rfl
  | false => exact absurd ⟨hk,e⟩ h3
 unfold ynC
 split
 ·exact g.topicG o h
 split
 ·exact g.producerG o h
 split
 ·rename_i e; exact g.produceG o (hp (by rw [e]; decide)) h
 split
 ·exact g'
 split
 ·rename_i e; exact g.retainG o (hp (by rw [e]; decide)) h
 split
 ·rename_i e; exact g.compactG o (hp (by rw [e]; decide)) h
 split
 ·exact g.joinG o h
 split
 ·rename_i e; exact g.beatG2 o (hgr (by rw [e]; decide)) h
 split
 ·rename_i e; exact g.leaveG o (hgr (by rw [e]; decide)) h
 split
 ·exact g'
 split
 ·exact g.commitG o h
 split
 ·exact g'
 ·exact g.tickG2 o hnum h
end Go.Proofs.YtkepmmocldnnfaaGreat
namespace Go.Proofs.YtkepmmocldnnfaaGreat
open Go Go.RowKit
set_option linter.all false
section
set_option maxRecDepth 100000
variable {R:VWP} {w w0:World} {m:Nat} {i0 i1 i2 i3 i4 i5 i6 i7 i8 i9 j0 j1 j2 j3 j4 j5 j6 j7 j8 j9 k0 k1 k2 k3 k4 k5 k6 k7 k8 k9 l0 l1 l2 l3 l4 l5 l6 l7 l8 l9:Int} {s0 s1 s2 s3 s4 s5 s6 s7 s8 s9 t0 t1 t2 t3 t4 t5 t6 t7 t8 t9:BA} {n0 n1 n2 n3 n4 n5 n6 n7 n8 n9 o0 o1 o2 o3 o4 o5 o6 o7 o8 o9 p0 p1 p2 p3 p4 p5 p6 p7 p8 p9:Nat} {q0 q1 q2 q3 q4 q5 q6 q7 q8 q9 r0 r1 r2 r3 r4 r5 r6 r7 r8 r9:OA} {B0 B1 B2 B3 B4 B5 B6 B7 B8 B9:Bool} {M0 M1 M2 M3:Option Nat} {V0 V1 V2 V3 V4 V5:Value} {A0 A1 A2:Addr}
def yfA:LA:=⟨[1,0,1,0,1,1,1],[0,3,4,6,42,43],[(0,0,0),(3,1,0),(4,2,0)],3,[0]⟩
def ygA:LA:=⟨[1,1,1,0,1,0,1,1,1],[0,3,4,6,58],[(0,0,0),(3,1,0),(4,2,0)],3,[0]⟩
def yrL:List LA:=[yfA,ygA,⟨9 :: [0,1,1,1,1],[75,39,40,42,43,44,45,47,48,49,50,51,46,41],[],0,[]⟩]
abbrev yfS:=dnF pP yrL (code Tryz.f21)
abbrev yMk:=ya0 pP yrL (code Tryz.f21)
abbrev yfT (p:List Nat) (K:List Kh) (R:VWP):=ya0 pP yrL (code Tryz.f21) p K (ybO pP Tryz.f21 [0] R)
def ygY:(Option Nat) × Int × Bool × Nat × Int × Int × (Option Addr) × (Option Nat) × (Option Addr) × (Option Nat) × (Option Addr) × Nat × Int × ByteArray × Int × Int × Int × Int × Int × Int × (Option Addr) × Nat × Nat × ByteArray × ByteArray × Int × Bool × (Option Addr) × Nat × Nat × Nat → List Value × List TB:=fun (c7,c6,c5,bm0,b6,b7,b1,a8,b2,a9,b3,bm1,b8,b4,b9,c0,c1,c2,c3,c4,a6,b0,a7,b5,a3,a5,a4,a0,a2,a1,bm2) => ([(.pointer (some ⟨bm0,0,none⟩)),(.pointer (some ⟨bm1,0,none⟩)),(.pointer (some ⟨bm2,0,none⟩)),(.map c7),.int .i64 c6,.bool c5],[⟨bm0,96,[.int .i64 b6,.int .i64 b7,.pointer b1,(.map a8),.pointer b2,(.map a9),.pointer b3],true⟩,⟨bm1,32,[.int .i64 b8,.string b4,.int .i64 b9,.int .i64 c0,.int .i64 c1,.int .i64 c2,.int .i64 c3,.int .i64 c4,.slice a6 b0 a7,.string b5,.string a3,.int .i64 a5,.bool a4,.slice a0 a2 a1],false⟩,⟨bm2,44,[.int .i64 0,.int .i64 0,.int .i64 0,.int .i64 0,.slice none 0 0,.slice none 0 0],false⟩])
def yiE:(Option Nat) × Bool × Nat × Int × Int × (Option Addr) × (Option Nat) × (Option Addr) × (Option Nat) × (Option Addr) × Nat × Int × ByteArray × Int × Int × Int × Int × Int × Int × (Option Addr) × Nat × Nat × ByteArray × ByteArray × Int × Bool × (Option Addr) × Nat × Nat × Nat → List Value × List TB:=fun (c6,c5,bm0,b6,b7,b1,a8,b2,a9,b3,bm1,b8,b4,b9,c0,c1,c2,c3,c4,a6,b0,a7,b5,a3,a5,a4,a0,a2,a1,bm2) => ([(.pointer (some ⟨bm0,0,none⟩)),(.pointer (some ⟨bm1,0,none⟩)),(.pointer (some ⟨bm2,0,none⟩)),(.map c6),.bool c5],[⟨bm0,96,[.int .i64 b6,.int .i64 b7,.pointer b1,(.map a8),.pointer b2,(.map a9),.pointer b3],true⟩,⟨bm1,32,[.int .i64 b8,.string b4,.int .i64 b9,.int .i64 c0,.int .i64 c1,.int .i64 c2,.int .i64 c3,.int .i64 c4,.slice a6 b0 a7,.string b5,.string a3,.int .i64 a5,.bool a4,.slice a0 a2 a1],false⟩,⟨bm2,44,[.int .i64 0,.int .i64 0,.int .i64 0,.int .i64 0,.slice none 0 0,.slice none 0 0],false⟩])
def yv3 (c7:Option Nat) (c5:Int) (g6:Bool) (bm0:Nat) (b1 b2:Int) (a0:OA) (a3:Option Nat) (a6:OA) (a4:Option Nat) (a7:OA) (bm1:Nat) (b3:Int) (a8:BA) (b5 c0 c1 c2 c3 c4:Int) (b6:OA) (b8 b7:Nat) (b9 a9:BA) (b4:Int) (b0:Bool) (a1:OA) (a5 a2 bm2:Nat) (R:VWP) (w:World):Prop :=
 w.heap[bm0]? = some (.cells #[.int .i64 b1,.int .i64 b2,.pointer a0,(.map a3),.pointer a6,(.map a4),.pointer a7] 96) →
 brB g6 (
 ∀ d1,Adv [] [] w d1 → d1.heap[bm0]? = some (.cells #[.int .i64 b1,.int .i64 b2,.pointer a0,(.map a3),.pointer a6,(.map a4),.pointer a7] 96) →
 Calls pP 52 #[.pointer a0,(.agg #[.string a8,.int .i64 b5])] d1 fun e c6 => ∃ g1,e = .returned (.bool g1) ∧ yb9 [bm0] [(bm1,32),(bm2,44)] [bm1,bm2] d1 c6 ∧ ∃ h0 h1 g7,∃ m72:Option Nat,∃ g8,∃ m74:Option Nat,∃ g9,c6.heap[bm0]? = some (.cells #[.int .i64 h0,.int .i64 h1,.pointer g7,(.map m72),.pointer g8,(.map m74),.pointer g9] 96) ∧
 brB (!g1) (
 Calls pP 38 #[.int .i64 91] c6 fun e f1 => ∃ g2 g3 g4 g5 g0 d9 d5 d2 e0 d6,e = .returned (.agg (Z3 g2 g3 g4 g5 g0 d9 d5 d2 e0 d6)) ∧ yb9 [bm0] [(bm1,32),(bm2,44)] [bm1,bm2] c6 f1 ∧ ∃ f2 f3 e3,∃ m108:Option Nat,∃ e4,∃ m110:Option Nat,∃ e5,f1.heap[bm0]? = some (.cells #[.int .i64 f2,.int .i64 f3,.pointer e3,(.map m108),.pointer e4,(.map m110),.pointer e5] 96) ∧
 ∀ c8,Adv [bm2] [] f1 c8 → c8.heap[bm0]? = some (.cells #[.int .i64 f2,.int .i64 f3,.pointer e3,(.map m108),.pointer e4,(.map m110),.pointer e5] 96) →
 R (.agg (Z3 g2 g3 g4 g5 g0 d9 d5 d2 e0 d6)) c8)
 (
 yGA (fun gf =>
 ∃ e6:Option Addr,
 ∃ f0,(∀ w',Mod [] c6 w' → (Instr.lookup 99 (.map c7) (.int .i64 b3) false).run pP w' = .ok f0 w') ∧ f0 = (.func (.func gf) #[.pointer e6] #[]) ∧
 Calls pP gf #[.pointer e6,(.agg (Z2 b3 a8 b5 c0 c1 c2 c3 c4 b6 b8 b7 b9 a9 b4 b0 a1 a5 a2))] c6 fun e c9 => ∃ f4 f5 f6 f7 d3 e1 d7 d4 e2 d8,e = .returned (.agg (Z3 f4 f5 f6 f7 d3 e1 d7 d4 e2 d8)) ∧ yb9 [bm0] [(bm1,32),(bm2,44)] [bm1,bm2] c6 c9 ∧ ∃ f8 f9 e7,∃ m149:Option Nat,∃ e8,∃ m151:Option Nat,∃ e9,c9.heap[bm0]? = some (.cells #[.int .i64 f8,.int .i64 f9,.pointer e7,(.map m149),.pointer e8,(.map m151),.pointer e9] 96) ∧
 ∀ d0,Adv [bm2] [] c9 d0 → d0.heap[bm0]? = some (.cells #[.int .i64 f8,.int .i64 f9,.pointer e7,(.map m149),.pointer e8,(.map m151),.pointer e9] 96) →
 R (.agg (Z3 f4 f5 f6 f7 d3 e1 d7 d4 e2 d8)) d0) [39,40,42,43,44,45,47,48,49,50,51,46,41]))
 (
 brB (c5 == 7) (
 ybI ygA ((yfS 394 [1,1,1,0,1,0,1,1,1]) (yfT [1,1,1,0,1,0,1,1] [] R)) (yiE (c7,(c5 == 7),bm0,b1,b2,a0,a3,a6,a4,a7,bm1,b3,a8,b5,c0,c1,c2,c3,c4,b6,b8,b7,b9,a9,b4,b0,a1,a5,a2,bm2)) w)
 (
 brB (c5 == 8) (
 ybI ygA ((yfS 394 [1,1,1,0,1,0,1,1,1]) (yfT [1,1,1,0,1,0,1,1] [] R)) (yiE (c7,(c5 == 8),bm0,b1,b2,a0,a3,a6,a4,a7,bm1,b3,a8,b5,c0,c1,c2,c3,c4,b6,b8,b7,b9,a9,b4,b0,a1,a5,a2,bm2)) w)
 (
 brB (c5 == 9) (
 ybI ygA ((yfS 394 [1,1,1,0,1,0,1,1,1]) (yfT [1,1,1,0,1,0,1,1] [] R)) (yiE (c7,(c5 == 9),bm0,b1,b2,a0,a3,a6,a4,a7,bm1,b3,a8,b5,c0,c1,c2,c3,c4,b6,b8,b7,b9,a9,b4,b0,a1,a5,a2,bm2)) w)
 (
 ybI ygA ((yfS 394 [1,1,1,0,1,0,1,1,1]) (yfT [1,1,1,0,1,0,1,1] [] R)) (yiE (c7,(c5 == 10),bm0,b1,b2,a0,a3,a6,a4,a7,bm1,b3,a8,b5,c0,c1,c2,c3,c4,b6,b8,b7,b9,a9,b4,b0,a1,a5,a2,bm2)) w))))
theorem yDG (J:Option Nat → Int → Bool → Nat → Int → Int → Option Addr → Option Nat → Option Addr → Option Nat → Option Addr → Nat → Int → ByteArray → Int → Int → Int → Int → Int → Int → Option Addr → Nat → Nat → ByteArray → ByteArray → Int → Bool → Option Addr → Nat → Nat → Nat → World → Prop) (h0:J M0 i0 B0 n0 i1 i2 q0 M1 q1 M2 q2 n1 i3 s0 i4 i5 i6 i7 i8 i9 q3 n2 n3 s1 s2 j0 B1 q4 n4 n5 n6 w0)
 (hr:∀ (f1:Option Nat) (f0:Int) (e9:Bool) (bm0:Nat) (b6 b7:Int) (b1:OA) (a8:Option Nat) (b2:OA) (a9:Option Nat) (b3:OA) (bm1:Nat) (b8:Int) (b4:BA) (b9 c0 c1 c2 c3 c4:Int) (a6:OA) (b0 a7:Nat) (b5 s0:BA) (a5:Int) (a4:Bool) (a1:OA) (a3 a2 bm2:Nat) (w:World),J f1 f0 e9 bm0 b6 b7 b1 a8 b2 a9 b3 bm1 b8 b4 b9 c0 c1 c2 c3 c4 a6 b0 a7 b5 s0 a5 a4 a1 a3 a2 bm2 w → yv3 f1 f0 e9 bm0 b6 b7 b1 a8 b2 a9 b3 bm1 b8 b4 b9 c0 c1 c2 c3 c4 a6 b0 a7 b5 s0 a5 a4 a1 a3 a2 bm2 R w) :
 ybI yfA ((yfS 395 [1,0,1,0,1,1,1]) (yfT [1,1,1,0,1,0] [] R)) (ygY (M0,i0,B0,n0,i1,i2,q0,M1,q1,M2,q2,n1,i3,s0,i4,i5,i6,i7,i8,i9,q3,n2,n3,s1,s2,j0,B1,q4,n4,n5,n6)) w0 :=
 crule (ygY) (V31 J) h0 (by rintro ⟨f1,f0,e9,bm0,b6,b7,b1,a8,b2,a9,b3,bm1,b8,b4,b9,c0,c1,c2,c3,c4,a6,b0,a7,b5,s0,a5,a4,a1,a3,a2,bm2⟩ w h; exact ⟨by kernel_rfl,by kernel_rfl,fun js => Eq.mpr (by kernel_rfl) (hr f1 f0 e9 bm0 b6 b7 b1 a8 b2 a9 b3 bm1 b8 b4 b9 c0 c1 c2 c3 c4 a6 b0 a7 b5 s0 a5 a4 a1 a3 a2 bm2 w h)⟩)
theorem yjB (h:yv3 M0 i0 B0 n0 i1 i2 q0 M1 q1 M2 q2 n1 i3 s0 i4 i5 i6 i7 i8 i9 q3 n2 n3 s1 s2 j0 B1 q4 n4 n5 n6 R w) :
 ybI yfA ((yfS 395 [1,0,1,0,1,1,1]) (yfT [1,1,1,0,1,0] [] R)) (ygY (M0,i0,B0,n0,i1,i2,q0,M1,q1,M2,q2,n1,i3,s0,i4,i5,i6,i7,i8,i9,q3,n2,n3,s1,s2,j0,B1,q4,n4,n5,n6)) w :=
 yDG (fun f5 f3 f2 bm0' e1 e2 d6 d3 d7 d4 d8 bm1' e3 d9 e4 e5 e6 e7 e8 e9 d1 d5 d2 e0 b8 c4 c0 a6 b2 a8 bm2' w' => f5 = M0 ∧ f3 = i0 ∧ f2 = B0 ∧ bm0' = n0 ∧ e1 = i1 ∧ e2 = i2 ∧ d6 = q0 ∧ d3 = M1 ∧ d7 = q1 ∧ d4 = M2 ∧ d8 = q2 ∧ bm1' = n1 ∧ e3 = i3 ∧ d9 = s0 ∧ e4 = i4 ∧ e5 = i5 ∧ e6 = i6 ∧ e7 = i7 ∧ e8 = i8 ∧ e9 = i9 ∧ d1 = q3 ∧ d5 = n2 ∧ d2 = n3 ∧ e0 = s1 ∧ b8 = s2 ∧ c4 = j0 ∧ c0 = B1 ∧ a6 = q4 ∧ b2 = n4 ∧ a8 = n5 ∧ bm2' = n6 ∧ w' = w) ⟨rfl,rfl,rfl,rfl,rfl,rfl,rfl,rfl,rfl,rfl,rfl,rfl,rfl,rfl,rfl,rfl,rfl,rfl,rfl,rfl,rfl,rfl,rfl,rfl,rfl,rfl,rfl,rfl,rfl,rfl,rfl,rfl⟩ (by rintro f5 f3 f2 bm0' e1 e2 d6 d3 d7 d4 d8 bm1' e3 d9 e4 e5 e6 e7 e8 e9 d1 d5 d2 e0 b8 c4 c0 a6 b2 a8 bm2' w' ⟨rfl,rfl,rfl,rfl,rfl,rfl,rfl,rfl,rfl,rfl,rfl,rfl,rfl,rfl,rfl,rfl,rfl,rfl,rfl,rfl,rfl,rfl,rfl,rfl,rfl,rfl,rfl,rfl,rfl,rfl,rfl,rfl⟩; exact h)
def yv4 (u3:Option Nat) (u4:Bool) (bm0:Nat) (a8 a9:Int) (a3:OA) (a2:Option Nat) (a4:OA) (a0:Option Nat) (a5:OA) (bm1:Nat) (a1:Int) (c0:BA) (c1 c2 c3 c4 c5 c6:Int) (b7:OA) (b9 b8:Nat) (a6 b3:BA) (b5:Int) (b4:Bool) (b0:OA) (b2 b1 bm2:Nat) (R:VWP) (w:World):Prop :=
 w.heap[bm0]? = some (.cells #[.int .i64 a8,.int .i64 a9,.pointer a3,(.map a2),.pointer a4,(.map a0),.pointer a5] 96) →
 brB u4 (
 ∃ f1,(∀ w',Mod [] w w' → (Instr.lookup 92 (.map a0) (.string a6) false).run pP w' = .ok (.pointer f1) w') ∧
 brB (Option.isNone f1) (
 ∀ b6,Adv [] [] w b6 → b6.heap[bm0]? = some (.cells #[.int .i64 a8,.int .i64 a9,.pointer a3,(.map a2),.pointer a4,(.map a0),.pointer a5] 96) →
 Calls pP 38 #[.int .i64 110] b6 fun e c7 => ∃ g5 g6 g7 g8 d3 e5 d9 d4 e6 e0,e = .returned (.agg (Z3 g5 g6 g7 g8 d3 e5 d9 d4 e6 e0)) ∧ yb9 [bm0] [(bm1,32),(bm2,44)] [bm1,bm2] b6 c7 ∧ ∃ g9 h0 f2,∃ m189:Option Nat,∃ f3,∃ m191:Option Nat,∃ f4,c7.heap[bm0]? = some (.cells #[.int .i64 g9,.int .i64 h0,.pointer f2,(.map m189),.pointer f3,(.map m191),.pointer f4] 96) ∧
 ∀ c8,Adv [bm2] [] c7 c8 → c8.heap[bm0]? = some (.cells #[.int .i64 g9,.int .i64 h0,.pointer f2,(.map m189),.pointer f3,(.map m191),.pointer f4] 96) →
 R (.agg (Z3 g5 g6 g7 g8 d3 e5 d9 d4 e6 e0)) c8)
 (
 yGA (fun gf =>
 ∃ f5:Option Addr,
 ∀ a7,Adv [] [] w a7 → a7.heap[bm0]? = some (.cells #[.int .i64 a8,.int .i64 a9,.pointer a3,(.map a2),.pointer a4,(.map a0),.pointer a5] 96) →
 ∃ g3,(∀ w',Mod [] a7 w' → (Instr.lookup 99 (.map u3) (.int .i64 a1) false).run pP w' = .ok g3 w') ∧ g3 = (.func (.func gf) #[.pointer f5] #[]) ∧
 Calls pP gf #[.pointer f5,(.agg (Z2 a1 c0 c1 c2 c3 c4 c5 c6 b7 b9 b8 a6 b3 b5 b4 b0 b2 b1))] a7 fun e c9 => ∃ h1 h2 h3 h4 d5 e7 e1 d6 e8 e2,e = .returned (.agg (Z3 h1 h2 h3 h4 d5 e7 e1 d6 e8 e2)) ∧ yb9 [bm0] [(bm1,32),(bm2,44)] [bm1,bm2] a7 c9 ∧ ∃ h5 h6 f6,∃ m232:Option Nat,∃ f7,∃ m234:Option Nat,∃ f8,c9.heap[bm0]? = some (.cells #[.int .i64 h5,.int .i64 h6,.pointer f6,(.map m232),.pointer f7,(.map m234),.pointer f8] 96) ∧
 ∀ d0,Adv [bm2] [] c9 d0 → d0.heap[bm0]? = some (.cells #[.int .i64 h5,.int .i64 h6,.pointer f6,(.map m232),.pointer f7,(.map m234),.pointer f8] 96) →
 R (.agg (Z3 h1 h2 h3 h4 d5 e7 e1 d6 e8 e2)) d0) [39,40,42,43,44,45,47,48,49,50,51,46,41]))
 (
 yGA (fun gf =>
 ∃ f9:Option Addr,
 ∃ g4,(∀ w',Mod [] w w' → (Instr.lookup 99 (.map u3) (.int .i64 a1) false).run pP w' = .ok g4 w') ∧ g4 = (.func (.func gf) #[.pointer f9] #[]) ∧
 Calls pP gf #[.pointer f9,(.agg (Z2 a1 c0 c1 c2 c3 c4 c5 c6 b7 b9 b8 a6 b3 b5 b4 b0 b2 b1))] w fun e d1 => ∃ h7 h8 h9 u0 d7 e9 e3 d8 f0 e4,e = .returned (.agg (Z3 h7 h8 h9 u0 d7 e9 e3 d8 f0 e4)) ∧ yb9 [bm0] [(bm1,32),(bm2,44)] [bm1,bm2] w d1 ∧ ∃ u1 u2 g0,∃ m273:Option Nat,∃ g1,∃ m275:Option Nat,∃ g2,d1.heap[bm0]? = some (.cells #[.int .i64 u1,.int .i64 u2,.pointer g0,(.map m273),.pointer g1,(.map m275),.pointer g2] 96) ∧
 ∀ d2,Adv [bm2] [] d1 d2 → d2.heap[bm0]? = some (.cells #[.int .i64 u1,.int .i64 u2,.pointer g0,(.map m273),.pointer g1,(.map m275),.pointer g2] 96) →
 R (.agg (Z3 h7 h8 h9 u0 d7 e9 e3 d8 f0 e4)) d2) [39,40,42,43,44,45,47,48,49,50,51,46,41])
theorem yDH (J:Option Nat → Bool → Nat → Int → Int → Option Addr → Option Nat → Option Addr → Option Nat → Option Addr → Nat → Int → ByteArray → Int → Int → Int → Int → Int → Int → Option Addr → Nat → Nat → ByteArray → ByteArray → Int → Bool → Option Addr → Nat → Nat → Nat → World → Prop) (h0:J M0 B0 n0 i0 i1 q0 M1 q1 M2 q2 n1 i2 s0 i3 i4 i5 i6 i7 i8 q3 n2 n3 s1 s2 i9 B1 q4 n4 n5 n6 w0)
 (hr:∀ (f0:Option Nat) (e9:Bool) (bm0:Nat) (b6 b7:Int) (b1:OA) (a8:Option Nat) (b2:OA) (a9:Option Nat) (b3:OA) (bm1:Nat) (b8:Int) (b4:BA) (b9 c0 c1 c2 c3 c4:Int) (a6:OA) (b0 a7:Nat) (b5 s0:BA) (a5:Int) (a4:Bool) (a1:OA) (a3 a2 bm2:Nat) (w:World),J f0 e9 bm0 b6 b7 b1 a8 b2 a9 b3 bm1 b8 b4 b9 c0 c1 c2 c3 c4 a6 b0 a7 b5 s0 a5 a4 a1 a3 a2 bm2 w → yv4 f0 e9 bm0 b6 b7 b1 a8 b2 a9 b3 bm1 b8 b4 b9 c0 c1 c2 c3 c4 a6 b0 a7 b5 s0 a5 a4 a1 a3 a2 bm2 R w) :
 ybI ygA ((yfS 394 [1,1,1,0,1,0,1,1,1]) (yfT [1,1,1,0,1,0,1,1] [] R)) (yiE (M0,B0,n0,i0,i1,q0,M1,q1,M2,q2,n1,i2,s0,i3,i4,i5,i6,i7,i8,q3,n2,n3,s1,s2,i9,B1,q4,n4,n5,n6)) w0 :=
 crule (yiE) (V30 J) h0 (by rintro ⟨f0,e9,bm0,b6,b7,b1,a8,b2,a9,b3,bm1,b8,b4,b9,c0,c1,c2,c3,c4,a6,b0,a7,b5,s0,a5,a4,a1,a3,a2,bm2⟩ w h; exact ⟨by kernel_rfl,by kernel_rfl,fun js => Eq.mpr (by kernel_rfl) (hr f0 e9 bm0 b6 b7 b1 a8 b2 a9 b3 bm1 b8 b4 b9 c0 c1 c2 c3 c4 a6 b0 a7 b5 s0 a5 a4 a1 a3 a2 bm2 w h)⟩)
theorem ylP (h:yv4 M0 B0 n0 i0 i1 q0 M1 q1 M2 q2 n1 i2 s0 i3 i4 i5 i6 i7 i8 q3 n2 n3 s1 s2 i9 B1 q4 n4 n5 n6 R w) :
 ybI ygA ((yfS 394 [1,1,1,0,1,0,1,1,1]) (yfT [1,1,1,0,1,0,1,1] [] R)) (yiE (M0,B0,n0,i0,i1,q0,M1,q1,M2,q2,n1,i2,s0,i3,i4,i5,i6,i7,i8,q3,n2,n3,s1,s2,i9,B1,q4,n4,n5,n6)) w :=
 yDH (fun f3 f1 bm0' e1 e2 d6 d3 d7 d4 d8 bm1' e3 d9 e4 e5 e6 e7 e8 e9 d1 d5 d2 e0 b8 c4 c0 a6 b2 a8 bm2' w' => f3 = M0 ∧ f1 = B0 ∧ bm0' = n0 ∧ e1 = i0 ∧ e2 = i1 ∧ d6 = q0 ∧ d3 = M1 ∧ d7 = q1 ∧ d4 = M2 ∧ d8 = q2 ∧ bm1' = n1 ∧ e3 = i2 ∧ d9 = s0 ∧ e4 = i3 ∧ e5 = i4 ∧ e6 = i5 ∧ e7 = i6 ∧ e8 = i7 ∧ e9 = i8 ∧ d1 = q3 ∧ d5 = n2 ∧ d2 = n3 ∧ e0 = s1 ∧ b8 = s2 ∧ c4 = i9 ∧ c0 = B1 ∧ a6 = q4 ∧ b2 = n4 ∧ a8 = n5 ∧ bm2' = n6 ∧ w' = w) ⟨rfl,rfl,rfl,rfl,rfl,rfl,rfl,rfl,rfl,rfl,rfl,rfl,rfl,rfl,rfl,rfl,rfl,rfl,rfl,rfl,rfl,rfl,rfl,rfl,rfl,rfl,rfl,rfl,rfl,rfl,rfl⟩ (by rintro f3 f1 bm0' e1 e2 d6 d3 d7 d4 d8 bm1' e3 d9 e4 e5 e6 e7 e8 e9 d1 d5 d2 e0 b8 c4 c0 a6 b2 a8 bm2' w' ⟨rfl,rfl,rfl,rfl,rfl,rfl,rfl,rfl,rfl,rfl,rfl,rfl,rfl,rfl,rfl,rfl,rfl,rfl,rfl,rfl,rfl,rfl,rfl,rfl,rfl,rfl,rfl,rfl,rfl,rfl,rfl⟩; exact h)
theorem yH3 {b0:Nat} {a6 a5:Nat} {a3 a2:Nat} (hb:w.heap[b0]? = some (.cells #[.int .i64 i0,.int .i64 i1,.pointer q0,(.map M0),.pointer q1,(.map M1),.pointer q2] 96)) (h :
 ∀ b3,w.heap.size ≤ b3 →
 ∀ b4,w.heap.size ≤ b4 →
 ∀ w8,Adv [] [b4,b3] w w8 →
 Calls pP 37 #[(.agg (Z2 i2 s0 i3 i4 i5 i6 i7 i8 q3 a6 a5 s1 s2 i9 B0 q4 a3 a2))] w8 fun e w9 => ∃ d7,e = .returned (.int .i64 d7) ∧ yaG [b0,b3,b4] w8 w9 ∧
 brB (d7 != 0) (
 Calls pP 38 #[.int .i64 d7] w9 fun e e4 => ∃ e5 e6 e7 e8 d8 e2 e0 d9 e3 e1,e = .returned (.agg (Z3 e5 e6 e7 e8 d8 e2 e0 d9 e3 e1)) ∧ yaG [b0,b3,b4] w9 e4 ∧
 ∀ c4,Adv [b4] [] e4 c4 → c4.heap[b0]? = some (.cells #[.int .i64 i0,.int .i64 i1,.pointer q0,(.map M0),.pointer q1,(.map M1),.pointer q2] 96) →
 R (.agg (Z3 e5 e6 e7 e8 d8 e2 e0 d9 e3 e1)) c4)
 (
 al w9 (.map #[] 0) fun a7 e9 =>
 ∀ c3,Adv [] [] e9 c3 → c3.heap[b0]? = some (.cells #[.int .i64 i0,.int .i64 i1,.pointer q0,(.map M0),.pointer q1,(.map M1),.pointer q2] 96) →
 yc7 pP (Instr.mapUpdate 99 (.map (some a7)) (.int .i64 0) (.func (.func 39) #[(.pointer (some ⟨b0,0,none⟩))] #[])) c3 fun c5 => yaG [b0,b3,b4] c3 c5 ∧
 yc7 pP (Instr.mapUpdate 99 (.map (some a7)) (.int .i64 1) (.func (.func 40) #[(.pointer (some ⟨b0,0,none⟩))] #[])) c5 fun c6 => yaG [b0,b3,b4] c5 c6 ∧
 yc7 pP (Instr.mapUpdate 99 (.map (some a7)) (.int .i64 12) (.func (.func 41) #[(.pointer (some ⟨b0,0,none⟩))] #[])) c6 fun c7 => yaG [b0,b3,b4] c6 c7 ∧
 yc7 pP (Instr.mapUpdate 99 (.map (some a7)) (.int .i64 2) (.func (.func 42) #[(.pointer (some ⟨b0,0,none⟩))] #[])) c7 fun c8 => yaG [b0,b3,b4] c7 c8 ∧
 yc7 pP (Instr.mapUpdate 99 (.map (some a7)) (.int .i64 3) (.func (.func 43) #[(.pointer (some ⟨b0,0,none⟩))] #[])) c8 fun c9 => yaG [b0,b3,b4] c8 c9 ∧
 yc7 pP (Instr.mapUpdate 99 (.map (some a7)) (.int .i64 4) (.func (.func 44) #[(.pointer (some ⟨b0,0,none⟩))] #[])) c9 fun d0 => yaG [b0,b3,b4] c9 d0 ∧
 yc7 pP (Instr.mapUpdate 99 (.map (some a7)) (.int .i64 5) (.func (.func 45) #[(.pointer (some ⟨b0,0,none⟩))] #[])) d0 fun d1 => yaG [b0,b3,b4] d0 d1 ∧
 yc7 pP (Instr.mapUpdate 99 (.map (some a7)) (.int .i64 11) (.func (.func 46) #[(.pointer (some ⟨b0,0,none⟩))] #[])) d1 fun d2 => yaG [b0,b3,b4] d1 d2 ∧
 yc7 pP (Instr.mapUpdate 99 (.map (some a7)) (.int .i64 6) (.func (.func 47) #[(.pointer (some ⟨b0,0,none⟩))] #[])) d2 fun d3 => yaG [b0,b3,b4] d2 d3 ∧
 yc7 pP (Instr.mapUpdate 99 (.map (some a7)) (.int .i64 7) (.func (.func 48) #[(.pointer (some ⟨b0,0,none⟩))] #[])) d3 fun d4 => yaG [b0,b3,b4] d3 d4 ∧
 yc7 pP (Instr.mapUpdate 99 (.map (some a7)) (.int .i64 8) (.func (.func 49) #[(.pointer (some ⟨b0,0,none⟩))] #[])) d4 fun d5 => yaG [b0,b3,b4] d4 d5 ∧
 yc7 pP (Instr.mapUpdate 99 (.map (some a7)) (.int .i64 9) (.func (.func 50) #[(.pointer (some ⟨b0,0,none⟩))] #[])) d5 fun d6 => yaG [b0,b3,b4] d5 d6 ∧
 yc7 pP (Instr.mapUpdate 99 (.map (some a7)) (.int .i64 10) (.func (.func 51) #[(.pointer (some ⟨b0,0,none⟩))] #[])) d6 fun c2 => yaG [b0,b3,b4] d6 c2 ∧
 brB (i2 == 2) (
 ybI yfA ((yfS 395 [1,0,1,0,1,1,1]) (yfT [1,1,1,0,1,0] [] R)) (ygY ((some a7),i2,(i2 == 2),b0,i0,i1,q0,M0,q1,M1,q2,b3,i2,s0,i3,i4,i5,i6,i7,i8,q3,a6,a5,s1,s2,i9,B0,q4,a3,a2,b4)) c2)
 (
 brB (i2 == 3) (
 ybI yfA ((yfS 395 [1,0,1,0,1,1,1]) (yfT [1,1,1,0,1,0] [] R)) (ygY ((some a7),i2,(i2 == 3),b0,i0,i1,q0,M0,q1,M1,q2,b3,i2,s0,i3,i4,i5,i6,i7,i8,q3,a6,a5,s1,s2,i9,B0,q4,a3,a2,b4)) c2)
 (
 brB (i2 == 4) (
 ybI yfA ((yfS 395 [1,0,1,0,1,1,1]) (yfT [1,1,1,0,1,0] [] R)) (ygY ((some a7),i2,(i2 == 4),b0,i0,i1,q0,M0,q1,M1,q2,b3,i2,s0,i3,i4,i5,i6,i7,i8,q3,a6,a5,s1,s2,i9,B0,q4,a3,a2,b4)) c2)
 (
 brB (i2 == 5) (
 ybI yfA ((yfS 395 [1,0,1,0,1,1,1]) (yfT [1,1,1,0,1,0] [] R)) (ygY ((some a7),i2,(i2 == 5),b0,i0,i1,q0,M0,q1,M1,q2,b3,i2,s0,i3,i4,i5,i6,i7,i8,q3,a6,a5,s1,s2,i9,B0,q4,a3,a2,b4)) c2)
 (
 ybI yfA ((yfS 395 [1,0,1,0,1,1,1]) (yfT [1,1,1,0,1,0] [] R)) (ygY ((some a7),i2,(i2 == 11),b0,i0,i1,q0,M0,q1,M1,q2,b3,i2,s0,i3,i4,i5,i6,i7,i8,q3,a6,a5,s1,s2,i9,B0,q4,a3,a2,b4)) c2)))))) :
 CR pP 21 #[(.pointer (some ⟨b0,0,none⟩)),(.agg (Z2 i2 s0 i3 i4 i5 i6 i7 i8 q3 a6 a5 s1 s2 i9 B0 q4 a3 a2))] w R :=
 yaO Tryz.wide_mixed (an:=yrL) Tryz.func21 rfl rfl (by kernel_rfl) rfl hb (Eq.mpr (by kernel_rfl) h)
end
end Go.Proofs.YtkepmmocldnnfaaGreat
namespace Go.Proofs.YtkepmmocldnnfaaGreat
open Go Go.RowKit Go.Maps Go.MapKept
set_option linter.unusedVariables false
set_option linter.unusedSimpArgs false
set_option maxHeartbeats 2000000
theorem yyL {o:POp} (h:opE o = 0):0 ≤ o.kind ∧ o.kind ≤ 12:=by
 unfold opE at h
 split at h
 ·cases h
 ·omega
theorem ykE {s:ByteArray} (h:yoC s = true):s.size ≤ 16:=by have:s.size = 0:=of_decide_eq_true h; omega
theorem yyM {o:POp} (h:opE o = 0):OpFine o:=by
 unfold opE at h
 split at h
 ·cases h
 split at h
 ·cases h
 rename_i hf
 split at h
 ·cases h
 rename_i hn
 have hn:num o.part.n = true ∧ num o.n = true ∧ num o.off = true ∧ num o.gen = true:=by simpa using hn
 have hf:yBg o = true:=by simpa using hf
 simp only [yBg,Bool.and_eq_true,Bool.or_eq_true,Bool.not_eq_true'] at hf
 obtain ⟨⟨⟨⟨h1,h2⟩,h3⟩,h4⟩,h5⟩:=hf
 simp only [ynN,Bool.and_eq_true,Bool.or_eq_true] at h1
 obtain ⟨⟨⟨⟨⟨⟨⟨⟨a1,a2⟩,a3⟩,a4⟩,a5⟩,a6⟩,a7⟩,a8⟩,a9⟩:=h1
 refine ⟨?_,?_,?_,hn.1,hn.2.1,hn.2.2.1,hn.2.2.2,?_⟩
 ·rcases h2 with h2 | h2
  ·rcases a1 with (a1 | a1) | a1
   ·rw [a1] at h2; simp at h2
   ·rw [a1] at h2; simp at h2
   ·exact ykE a1
  ·exact yeM h2
 ·rcases h3 with h3 | h3
  ·rcases a6 with a6 | a6
   ·rw [a6] at h3; cases h3
   ·exact ykE a6
  ·exact yeM h3
 ·rcases h4 with h4 | h4
  ·rcases a7 with a7 | a7
   ·rw [a7] at h4; cases h4
   ·exact ykE a7
  ·exact yeM h4
 ·split at h
  ·unfold yfK at h
   split at h
   ·cases h
   rename_i hb
   have hb:num o.b.prod = true ∧ num o.b.epoch = true ∧ num o.b.seq = true:=by simpa using hb
   exact yeX hb.1
  ·rename_i hk
   rcases a5 with a5 | a5
   ·exfalso
    unfold ha yLL at a5
    by_cases k0:o.kind = 0
    ·rw [if_pos k0] at a5; revert a5; decide
    rw [if_neg k0] at a5
    by_cases k1:o.kind = 1
    ·rw [if_pos k1] at a5; revert a5; decide
    rw [if_neg k1,if_neg hk] at a5
    by_cases k3:o.kind = 3
    ·rw [if_pos k3] at a5; revert a5; decide
    rw [if_neg k3] at a5
    by_cases k4:o.kind = 4
    ·rw [if_pos k4] at a5; revert a5; decide
    rw [if_neg k4] at a5
    by_cases k5:o.kind = 5
    ·rw [if_pos k5] at a5; revert a5; decide
    rw [if_neg k5] at a5
    by_cases k6:o.kind = 6
    ·rw [if_pos k6] at a5; revert a5; decide
    rw [if_neg k6] at a5
    by_cases k7:o.kind = 7
    ·rw [if_pos k7] at a5; revert a5; decide
    rw [if_neg k7] at a5
    by_cases k8:o.kind = 8
    ·rw [if_pos k8] at a5; revert a5; decide
    rw [if_neg k8] at a5
    by_cases k9:o.kind = 9
    ·rw [if_pos k9] at a5; revert a5; decide
    rw [if_neg k9] at a5
    by_cases k10:o.kind = 10
    ·rw [if_pos k10] at a5; revert a5; decide
    rw [if_neg k10] at a5
    by_cases k11:o.kind = 11
    ·rw [if_pos k11] at a5; revert a5; decide
    rw [if_neg k11] at a5
    revert a5; decide
   ·have a5:o.b = ygL:=by simpa using a5
    rw [a5]; unfold s64; decide
def yhM (b gf:Nat):Value:=.func (.func gf) #[.pointer (some ⟨b,0,none⟩)] #[]
def yLk (b:Nat):List (Int × Value):=put (put (put (put (put (put (put (put (put (put (put (put (put [] 0 (yhM b 39)) 1 (yhM b 40)) 12 (yhM b 41)) 2 (yhM b 42)) 3 (yhM b 43)) 4 (yhM b 44)) 5 (yhM b 45)) 11 (yhM b 46)) 6 (yhM b 47)) 7 (yhM b 48)) 8 (yhM b 49)) 9 (yhM b 50)) 10 (yhM b 51)
def yiF:List Nat:=[39,40,42,43,44,45,47,48,49,50,51,46,41]
theorem yyN {w:World} {b N:Nat} {V:BrV} (h:ydH w b V) (g:BrGood V.st N) {o:POp} {rs ts:Sl} (hE:opE o = 0) (hO:∀ w',Mod (V.foot b) w w' → OpAt w' o rs ts)
  (hp:yhL o.kind = true → ynS V.cat o.part = true) (hg:yv0 o.kind = true → (lkp V.GP o.g).isSome = true) :
  ∃ gf,gf ∈ yiF ∧ lkp (yLk b) o.kind = some (yhM b gf) ∧ Calls pP gf #[.pointer (some ⟨b,0,none⟩),o.v rs ts] w fun e w' => ∃ v,e = .returned v ∧ ya4 w b V (ynC V.st o) v w':=by
 have ho:=yyM hE
 obtain ⟨k0,k12⟩:=yyL hE
 have hA:=hO w ((Mod.refl _).less (by simp))
 have hlog:yhL o.kind = true → ∃ x,lkp V.LP o.part = some x:=fun hk => by
  have:=g.has o.part (hp hk)
  rw [yyG,Option.isSome_map] at this
  exact Option.isSome_iff_exists.1 this
 have hgrp:yv0 o.kind = true → ∃ x,lkp V.GP o.g = some x:=fun hk => Option.isSome_iff_exists.1 (hg hk)
 have hk:o.kind = 0 ∨ o.kind = 1 ∨ o.kind = 2 ∨ o.kind = 3 ∨ o.kind = 4 ∨ o.kind = 5 ∨ o.kind = 6 ∨ o.kind = 7 ∨ o.kind = 8 ∨ o.kind = 9 ∨ o.kind = 10 ∨ o.kind = 11 ∨ o.kind = 12:=by omega
 unfold ynC
 rcases hk with hk | hk | hk | hk | hk | hk | hk | hk | hk | hk | hk | hk | hk
 ·rw [hk]; exact ⟨_,by simp [yiF],rfl,yDB h g ho rs ts⟩
 ·rw [hk]; exact ⟨40,by simp [yiF],rfl,ytX h g o rs ts⟩
 ·obtain ⟨x,hx⟩:=hlog (by rw [hk]; decide)
  rw [hk]; exact ⟨42,by simp [yiF],rfl,yv2 h g ho hx (fun w' M => (hO w' M).recs) hA.lr⟩
 ·obtain ⟨x,hx⟩:=hlog (by rw [hk]; decide)
  rw [hk]; exact ⟨43,by simp [yiF],rfl,yDz h g ho hx rs ts⟩
 ·obtain ⟨x,hx⟩:=hlog (by rw [hk]; decide)
  rw [hk]; exact ⟨44,by simp [yiF],rfl,yAA h g ho hx rs ts⟩
 ·obtain ⟨x,hx⟩:=hlog (by rw [hk]; decide)
  rw [hk]; exact ⟨45,by simp [yiF],rfl,yv1 h g ho hx rs ts⟩
 ·rw [hk]; exact ⟨47,by simp [yiF],rfl,yE3 h g ho (fun w' M => (hO w' M).topics) hA.lt⟩
 ·obtain ⟨x,hx⟩:=hgrp (by rw [hk]; decide)
  rw [hk]; exact ⟨48,by simp [yiF],rfl,yE2 h g ho hx rs ts⟩
 ·obtain ⟨x,hx⟩:=hgrp (by rw [hk]; decide)
  rw [hk]; exact ⟨49,by simp [yiF],rfl,yDC h g ho hx rs ts⟩
 ·obtain ⟨x,hx⟩:=hgrp (by rw [hk]; decide)
  rw [hk]
  refine ⟨50,by simp [yiF],rfl,(ykW h g ho hx rs ts).mono ?_⟩
  rintro _ w' ⟨v,rfl,ps,rfl,hR,M⟩
  have e:(ybX V.st o).found = []:=by unfold ybX; split <;> rfl
  refine ⟨_,rfl,V,ybM,ps,rfl,BrStep.refl h M,rfl,?_,hR,fun z hz => ⟨by simp [ybM,yaP],fun hz' => by have:=(yaQ hR z hz').1; have:=h.lt z hz; omega⟩⟩
  show Row _ _ _ _ _ _ _ _ (ybX V.st o).found
  rw [e]; exact Row.nil ..
 ·obtain ⟨x,hx⟩:=hgrp (by rw [hk]; decide)
  rw [hk]
  refine ⟨51,by simp [yiF],rfl,yAE h g ho hx (fun q hq => ?_) rs ts⟩
  have:=g.has q (yDF q hq)
  rw [yyG,Option.isSome_map] at this
  exact this
 ·rw [hk]; exact ⟨46,by simp [yiF],rfl,yrH h g ho rs ts⟩
 ·rw [hk]; exact ⟨41,by simp [yiF],rfl,yDE h g ho rs ts⟩
end Go.Proofs.YtkepmmocldnnfaaGreat
namespace Go.Proofs.YtkepmmocldnnfaaGreat
open Go Go.RowKit Go.Maps Go.MapKept
set_option linter.unusedVariables false
set_option linter.unusedSimpArgs false
set_option maxHeartbeats 4000000
set_option maxRecDepth 100000 in
theorem yH4 {w:World} {b N:Nat} {V:BrV} (h:ydH w b V) (g:BrGood V.st N) {o:POp} {rs ts:Sl} (hO:∀ w',Mod (V.foot b) w w' → OpAt w' o rs ts) :
  Calls pP 21 #[.pointer (some ⟨b,0,none⟩),o.v rs ts] w fun e w' => ∃ v,e = .returned v ∧ ya4 w b V (doF V.st o) v w':=by
 refine yH3 (h.cell nofun) ?_
 intro b3 f3 b4 f4 w8 A8
 have q8:=Own2.of f3 f4 A8
 have M0:∀ {w'},Mod [] w w' → Mod (V.foot b) w w':=fun M => M.less (by simp)
 have lb:b < w.heap.size:=h.low.1
 refine (ywU (hO w8 (M0 A8.mod))).mono ?_
 rintro _ w9 ⟨rfl,M9⟩
 have s9:=M9.size
 have N9:Mod [] w w9:=A8.mod.go0 M9 (by simp)
 have sN:=N9.size
 have l3:=q8.l3
 have l4:=q8.l4
 unfold doF
 refine ⟨_,rfl,yaG.of0 M9,yaD (fun g1 => ?_) fun g1 => ?_⟩
 ·have g1:opE o ≠ 0:=by simpa using g1
  refine (ybZ _ w9).mono ?_
  rintro _ w22 ⟨rfl,M22⟩
  refine ⟨_,_,_,_,_,_,_,_,_,_,rfl,yaG.of0 M22,?_⟩
  intro w33 A33 _
  rw [if_pos g1]
  exact ya4.fin0 q8 h (BrStep.refl (h.keep0 A8.mod) (M9.go0 M22 (by simp))) A33.mod rfl rfl rfl rfl
 have hE:opE o = 0:=by simpa using g1
 rw [if_neg (fun hh => hh hE)]
 have ho:=yyM hE
 obtain ⟨z1,z2,z3⟩:=ho.s
 refine ybH fun b50 w51 c51 M51 f51 => ?_
 intro w52 A52 h52
 have N52:Mod [] w w52:=(N9.go0 M51 (by simp)).go0 A52.mod (by simp)
 have hbs:∀ i ∈ [b,b3,b4],i ≠ b50:=fun i hi => by simp at hi; omega
 refine yd1 (yaX.of_new (A52.mod.keep0 c51)) (by unfold s64; omega) hbs fun w53 H53 M53 => ?_
 refine yd1 H53 (by unfold s64; omega) hbs fun w54 H54 M54 => ?_
 refine yd1 H54 (by unfold s64; omega) hbs fun w55 H55 M55 => ?_
 refine yd1 H55 (by unfold s64; omega) hbs fun w56 H56 M56 => ?_
 refine yd1 H56 (by unfold s64; omega) hbs fun w57 H57 M57 => ?_
 refine yd1 H57 (by unfold s64; omega) hbs fun w58 H58 M58 => ?_
 refine yd1 H58 (by unfold s64; omega) hbs fun w59 H59 M59 => ?_
 refine yd1 H59 (by unfold s64; omega) hbs fun w60 H60 M60 => ?_
 refine yd1 H60 (by unfold s64; omega) hbs fun w61 H61 M61 => ?_
 refine yd1 H61 (by unfold s64; omega) hbs fun w62 H62 M62 => ?_
 refine yd1 H62 (by unfold s64; omega) hbs fun w63 H63 M63 => ?_
 refine yd1 H63 (by unfold s64; omega) hbs fun w64 H64 M64 => ?_
 refine yd1 H64 (by unfold s64; omega) hbs fun w65 H65 M65 => ?_
 have K65:Mod [b50] w52 w65:=((((((((((((M53.trans M54).trans M55).trans M56).trans M57).trans M58).trans M59).trans M60).trans M61).trans M62).trans M63).trans M64).trans M65).less (by simp)
 have N65:Mod [] w w65:=N52.go0 K65 (by simp; omega)
 have HM:yaX pP 3 hki (fun v:Value => v) w65 b50 (yLk b):=H65
 clear H53 H54 H55 H56 H57 H58 H59 H60 H61 H62 H63 H64 H65 M53 M54 M55 M56 M57 M58 M59 M60 M61 M62 M63 M64 M65
 have h65:=h.keep0 N65
 have s65:=N65.size
 have q65:Own2 w w65 b3 b4:=⟨N65,f3,by have:=(M51.go0 A52.mod (by simp)).size; have:=K65.size; omega,f4,by have:=(M51.go0 A52.mod (by simp)).size; have:=K65.size; omega⟩
 have hcell:=h65.cell nofun
 have call:(yhL o.kind = true → ynS V.cat o.part = true) → (yv0 o.kind = true → (lkp V.GP o.g).isSome = true) → ∃ gf,gf ∈ yiF ∧ ∀ w1:World,Mod [] w65 w1 →
   (∀ w',Mod [] w1 w' → (Instr.lookup 99 (.map (some b50)) (.int .i64 o.kind) false).run pP w' = .ok (yhM b gf) w') ∧
    Calls pP gf #[.pointer (some ⟨b,0,none⟩),o.v rs ts] w1 fun e w' => ∃ v,e = .returned v ∧ ∃ (V':BrV) (fs ps:Sl),v = (ynC V.st o).2.v fs ps ∧ BrStep w1 w' b V V' ∧ V'.st = (ynC V.st o).1 ∧
     Row w' w1.heap.size 165 5 yk0 fs.a fs.n fs.c (ynC V.st o).2.found ∧ Row w' w1.heap.size 26 2 ylG ps.a ps.n ps.c (ynC V.st o).2.parts ∧ ∀ z ∈ V'.foot b,z ∉ yaP fs.a ∧ z ∉ yaP ps.a:=fun hp hg => by
  obtain ⟨gf,hm,hlk,_⟩:=yyN h65 g (rs:=rs) (ts:=ts) hE (fun w' M' => hO w' ((N65.trans M').less fun z hz _ => by simpa using hz)) hp hg
  refine ⟨gf,hm,fun w1 M1 => ?_⟩
  have N1:=N65.go0 M1 (by simp)
  obtain ⟨gf1,hm1,hlk1,hC⟩:=yyN (h65.keep0 M1) g (rs:=rs) (ts:=ts) hE (fun w' M' => hO w' ((N1.trans M').less fun z hz _ => by simpa using hz)) hp hg
  have e:gf1 = gf:=by
   rw [hlk] at hlk1
   simpa [yhM] using hlk1.symm
  subst e
  refine ⟨fun w' M' => ?_,hC⟩
  obtain ⟨k0,k12⟩:=yyL hE
  have:=((HM.keepM0 M1).keepM0 M').look (T:=99) false yiX yc4 Tryz.underlying99 (yFD w') (ydD (k:=o.kind) (by unfold s64; omega))
  refine this.trans ?_
  rw [hlk]; rfl
 have own:∀ {w1:World},Mod [] w65 w1 → Own2 w w1 b3 b4:=fun {w1} M1 => ⟨N65.go0 M1 (by simp),f3,by have:=q65.l3; have:=M1.size; omega,f4,by have:=q65.l4; have:=M1.size; omega⟩
 have kp:∀ {w1 w2:World} {V':BrV} {es:List Nat} {ts:List (Nat × TypeId)},Mod [] w65 w1 → BrStep w1 w2 b V V' → yb9 es ts [b3,b4] w1 w2:=fun {w1 w2 V' es ts} M1 S => yaG.of S.mod fun z hz _ hz' => by
  have:=h.lt z hz'
  simp only [List.mem_cons,List.not_mem_nil,or_false] at hz
  rcases hz with rfl | rfl <;> omega
 have C2:∀ (t:Bool),t = yv0 o.kind → (yhL o.kind = true → ynS V.cat o.part = true) → yv4 (some b50) t b V.room V.now (some ⟨V.pc,0,none⟩) (some V.ml) (some ⟨V.pm,0,none⟩) (some V.mg) (some ⟨V.po,0,none⟩) b3 o.kind o.part.t o.part.n o.n o.off o.b.prod o.b.epoch o.b.seq rs.a rs.n rs.c o.g o.m o.gen o.robin ts.a ts.n ts.c b4 (fun v w' => ya4 w b V (if yhL o.kind = true ∧ ynS V.st.cat o.part = false then (V.st,yhU 91) else if yv0 o.kind = true ∧ (lkp V.st.groups o.g).isSome = false then (V.st,yhU 110) else ynC V.st o) v w') w65:=fun t ht hp => by
  intro _
  rw [if_neg (show ¬ (yhL o.kind = true ∧ ynS V.st.cat o.part = false) from fun hh => by have:=hp hh.1; rw [show V.st.cat = V.cat from rfl,this] at hh; cases hh.2)]
  have hlk:=h65.lkGrp z2
  refine yaD (fun g2 => ?_) fun g2 => ?_
  ·have hgk:yv0 o.kind = true:=by rw [← ht,g2]
   cases hx:lkp V.GP o.g with
   | none =>
    rw [hx] at hlk
    refine ⟨none,hlk,yaD (fun _ => ?_) fun g => by cases g⟩
    intro w174 A174 _
    refine (ybZ _ w174).mono ?_
    rintro _ w175 ⟨rfl,M175⟩
    refine ⟨_,_,_,_,_,_,_,_,_,_,rfl,yaG.of0 M175,_,_,_,_,_,_,_,((h65.keep0 A174.mod).keep0 M175).cell nofun,?_⟩
    intro w193 A193 _
    rw [if_pos ⟨hgk,by rw [ypG,hx]; rfl⟩]
    exact ya4.fin0 q65 h (BrStep.refl h65 (A174.mod.go0 M175 (by simp))) A193.mod rfl rfl rfl rfl
   | some x =>
    rw [hx] at hlk
    refine ⟨some ⟨x.p,0,none⟩,hlk,yaD (fun g => by cases g) fun _ => ?_⟩
    rw [if_neg (fun hh => by have:=hh.2; rw [ypG,hx] at this; cases this)]
    obtain ⟨gf,hm,hgf⟩:=call hp fun _ => by rw [hx]; rfl
    refine ypP hm ⟨some ⟨b,0,none⟩,?_⟩
    intro w216 A216 _
    obtain ⟨hl,hC⟩:=hgf w216 A216.mod
    refine ⟨_,hl,rfl,hC.mono ?_⟩
    rintro _ w218 ⟨_,rfl,V',fs,ps,rfl,S,hst,hf,hps,hzx⟩
    refine ⟨_,_,_,_,_,_,_,_,_,_,rfl,kp A216.mod S,_,_,_,_,_,_,_,S.ok.cell nofun,?_⟩
    intro w236 A236 _
    exact ya4.fin (own A216.mod) h S A236.mod hst fs ps rfl hf hps hzx
  ·have hgk:yv0 o.kind = false:=by rw [← ht,g2]
   rw [if_neg (fun hh => by rw [hgk] at hh; cases hh.1)]
   obtain ⟨gf,hm,hgf⟩:=call hp fun hh => by rw [hgk] at hh; cases hh
   obtain ⟨hl,hC⟩:=hgf w65 (Mod.refl _)
   refine ypP hm ⟨some ⟨b,0,none⟩,_,hl,rfl,hC.mono ?_⟩
   rintro _ w218 ⟨_,rfl,V',fs,ps,rfl,S,hst,hf,hps,hzx⟩
   refine ⟨_,_,_,_,_,_,_,_,_,_,rfl,kp (Mod.refl _) S,_,_,_,_,_,_,_,S.ok.cell nofun,?_⟩
   intro w236 A236 _
   exact ya4.fin q65 h S A236.mod hst fs ps rfl hf hps hzx
 have gk:∀ {k:Int},o.kind = k → yv0 o.kind = yv0 k:=fun e => by rw [e]
 have C1:∀ (t:Bool),t = yhL o.kind → yv3 (some b50) o.kind t b V.room V.now (some ⟨V.pc,0,none⟩) (some V.ml) (some ⟨V.pm,0,none⟩) (some V.mg) (some ⟨V.po,0,none⟩) b3 o.kind o.part.t o.part.n o.n o.off o.b.prod o.b.epoch o.b.seq rs.a rs.n rs.c o.g o.m o.gen o.robin ts.a ts.n ts.c b4 (fun v w' => ya4 w b V (if yhL o.kind = true ∧ ynS V.st.cat o.part = false then (V.st,yhU 91) else if yv0 o.kind = true ∧ (lkp V.st.groups o.g).isSome = false then (V.st,yhU 110) else ynC V.st o) v w') w65:=fun t ht => by
  intro _
  refine yaD (fun g2 => ?_) fun g2 => ?_
  ·have hpk:yhL o.kind = true:=by rw [← ht,g2]
   have hgk:yv0 o.kind = false:=by
    unfold yhL at hpk
    unfold yv0
    have hpk:=of_decide_eq_true hpk
    exact decide_eq_false (by omega)
   intro w66 A66 _
   have h66:=h65.keep0 A66.mod
   refine (yCH (h66.cat nofun) (p:=o.part) z1).mono ?_
   rintro _ w67 ⟨rfl,M67⟩
   have N67:=A66.mod.go0 M67 (by simp)
   have h67:=h66.keep0 M67
   refine ⟨_,rfl,yaG.of0 M67,_,_,_,_,_,_,_,h67.cell nofun,yaD (fun g3 => ?_) fun g3 => ?_⟩
   ·have g3:ynS V.cat o.part = false:=by simpa using g3
    refine (ybZ _ w67).mono ?_
    rintro _ w94 ⟨rfl,M94⟩
    refine ⟨_,_,_,_,_,_,_,_,_,_,rfl,yaG.of0 M94,_,_,_,_,_,_,_,(h67.keep0 M94).cell nofun,?_⟩
    intro w112 A112 _
    rw [if_pos ⟨hpk,g3⟩]
    exact ya4.fin0 q65 h (BrStep.refl h65 (N67.go0 M94 (by simp))) A112.mod rfl rfl rfl rfl
   ·have g3:ynS V.cat o.part = true:=by simpa using g3
    rw [if_neg (show ¬ (yhL o.kind = true ∧ ynS V.st.cat o.part = false) from fun hh => by rw [show V.st.cat = V.cat from rfl,g3] at hh; cases hh.2),if_neg (fun hh => by rw [hgk] at hh; cases hh.1)]
    obtain ⟨gf,hm,hgf⟩:=call (fun _ => g3) fun hh => by rw [hgk] at hh; cases hh
    obtain ⟨hl,hC⟩:=hgf w67 N67
    refine ypP hm ⟨some ⟨b,0,none⟩,_,hl,rfl,hC.mono ?_⟩
    rintro _ w135 ⟨_,rfl,V',fs,ps,rfl,S,hst,hf,hps,hzx⟩
    refine ⟨_,_,_,_,_,_,_,_,_,_,rfl,kp N67 S,_,_,_,_,_,_,_,S.ok.cell nofun,?_⟩
    intro w153 A153 _
    exact ya4.fin (own N67) h S A153.mod hst fs ps rfl hf hps hzx
  ·have hpk:yhL o.kind = false:=by rw [← ht,g2]
   have hnp:yhL o.kind = true → ynS V.cat o.part = true:=fun hh => by rw [hpk] at hh; cases hh
   refine yaD (fun g7 => ?_) fun g7 => ?_
   ·have e:o.kind = 7:=by simpa using g7
    exact ylP (C2 _ (by rw [g7,e]; decide) hnp)
   refine yaD (fun g8 => ?_) fun g8 => ?_
   ·have e:o.kind = 8:=by simpa using g8
    exact ylP (C2 _ (by rw [g8,e]; decide) hnp)
   refine yaD (fun g9 => ?_) fun g9 => ?_
   ·have e:o.kind = 9:=by simpa using g9
    exact ylP (C2 _ (by rw [g9,e]; decide) hnp)
   ·refine ylP (C2 _ ?_ hnp)
    have e7:o.kind ≠ 7:=by simpa using g7
    have e8:o.kind ≠ 8:=by simpa using g8
    have e9:o.kind ≠ 9:=by simpa using g9
    unfold yv0
    by_cases e:o.kind = 10
    ·rw [e]; decide
    ·rw [show (o.kind == 10) = false by simpa using e]; exact (decide_eq_false (by omega)).symm
 refine yaD (fun g2 => ?_) fun g2 => ?_
 ·have e:o.kind = 2:=by simpa using g2
  exact yjB (C1 _ (by rw [g2,e]; decide))
 refine yaD (fun g3 => ?_) fun g3 => ?_
 ·have e:o.kind = 3:=by simpa using g3
  exact yjB (C1 _ (by rw [g3,e]; decide))
 refine yaD (fun g4 => ?_) fun g4 => ?_
 ·have e:o.kind = 4:=by simpa using g4
  exact yjB (C1 _ (by rw [g4,e]; decide))
 refine yaD (fun g5 => ?_) fun g5 => ?_
 ·have e:o.kind = 5:=by simpa using g5
  exact yjB (C1 _ (by rw [g5,e]; decide))
 ·refine yjB (C1 _ ?_)
  have e2:o.kind ≠ 2:=by simpa using g2
  have e3:o.kind ≠ 3:=by simpa using g3
  have e4:o.kind ≠ 4:=by simpa using g4
  have e5:o.kind ≠ 5:=by simpa using g5
  unfold yhL
  by_cases e:o.kind = 11
  ·rw [e]; decide
  ·rw [show (o.kind == 11) = false by simpa using e]; exact (decide_eq_false (by omega)).symm
end Go.Proofs.YtkepmmocldnnfaaGreat
namespace Go.Proofs.YtkepmmocldnnfaaGreat
open Go Go.RowKit Go.Maps Go.MapKept
set_option linter.unusedVariables false
set_option linter.unusedSimpArgs false
set_option maxHeartbeats 1000000
def ybP (n:Nat) (L:List (List PPart)):Prop:=∀ l ∈ L,l.length ≤ n
theorem ybP.give {n:Nat} {L:List (List PPart)} (h:ybP n L) {i:Nat} {p:PPart}:ybP (n + 1) (ynW L i p):=fun l hl => by
 rcases List.mem_or_eq_of_mem_set hl with hl | rfl
 ·have:=h l hl; omega
 ·rw [List.length_append,List.getD_eq_getElem?_getD]
  cases e:L[i]? with
  | none => simp
  | some l => have:=h l (List.mem_of_getElem? e); simp; omega
theorem ybP.fill {t:ByteArray} {i:Nat}:∀ (m k:Nat) {n:Nat} {L:List (List PPart)},ybP n L → ybP (n + m) (yq9 t i k m L)
 | 0,_,_,_,h => h
 | m + 1,k,n,L,h => by
  have:=ybP.fill (t:=t) (i:=i) m (k + 1) (h.give (i:=i) (p:=⟨t,(k:Int)⟩))
  rw [show n + 1 + m = n + (m + 1) by omega] at this
  exact this
theorem ybP.mono {n m:Nat} {L:List (List PPart)} (h:ybP n L) (hm:n ≤ m):ybP m L:=fun l hl => Nat.le_trans (h l hl) hm
theorem ybP.share {t:ByteArray} {N tot:Nat} (hN:N ≤ 8):∀ (W:List Nat) (k c:Nat) {n:Nat} {L:List (List PPart)},ybP n L → ybP (n + 9 * W.length) (ygR t N tot W k c L)
 | [],_,_,_,_,h => h
 | i :: r,k,c,n,L,h => by
  have h1:=yGg (N:=N) (tot:=tot) (k:=k) hN
  have h2:=ybP.share (t:=t) (tot:=tot) hN r (k + 1) (c + ytI N tot k) (ybP.fill (t:=t) (i:=i) (ytI N tot k) c h)
  exact h2.mono (by simp only [List.length_cons]; omega)
theorem ybP.range {ms:List PMem} (hm:ms.length ≤ 8):∀ (l:List PTop) {n:Nat} {L:List (List PPart)},(∀ x ∈ l,x.n ≤ 8) → ybP n L → ybP (n + 72 * l.length) (ygE ms l L)
 | [],_,_,_,h => h
 | x :: r,n,L,hx,h => by
  have hW:(ynX ms x.t).length ≤ 8:=Nat.le_trans (List.length_filter_le _ _) (by simpa using hm)
  have h1:=ybP.share (t:=x.t) (N:=x.n.toNat) (tot:=(ynX ms x.t).length) (by have:=hx x (by simp); omega) (ynX ms x.t) 0 0 h
  have h2:=ybP.range hm r (fun y hy => hx y (by simp [hy])) h1
  exact h2.mono (by simp only [List.length_cons]; omega)
theorem ybP.deal {ms:List PMem} {t:ByteArray}:∀ (r p place:Nat) {n:Nat} {L:List (List PPart)},ybP n L → ybP (n + r) (ygS ms t p r place L).1
 | 0,_,_,_,_,h => h
 | r + 1,p,place,n,L,h => by
  rw [ygS]
  cases yrB ms t place with
  | none => exact h.mono (by omega)
  | some i => exact (ybP.deal r _ _ (h.give (i:=i) (p:=⟨t,(p:Int)⟩))).mono (by omega)
theorem ybP.robin {ms:List PMem}:∀ (l:List PTop) (place:Nat) {n:Nat} {L:List (List PPart)},(∀ x ∈ l,x.n ≤ 8) → ybP n L → ybP (n + 8 * l.length) (yhT ms l place L)
 | [],_,_,_,_,h => h
 | x :: r,place,n,L,hx,h => by
  have h1:=ybP.deal (ms:=ms) (t:=x.t) x.n.toNat 0 place h
  have h2:=ybP.robin (ms:=ms) r (ygS ms x.t 0 x.n.toNat place L).2 (fun y hy => hx y (by simp [hy])) h1
  refine h2.mono ?_
  have:=hx x (by simp)
  simp only [List.length_cons]; omega
theorem yDI {s:PBr} {o:POp}:(ycZ s o).2.length ≤ 1000:=by
 unfold ycZ ycN
 split
 ·simp
 rename_i h0
 have h0:ycM (yj8 s.cat) ((yd8 (ya8 s o.g).G).map yk6) = 0:=by simpa using h0
 obtain ⟨h1,h2,h3⟩:=yj7 h0
 split
 ·simp
 have hr:ybP 0 (List.replicate ((yd8 (ya8 s o.g).G).map yk6).length ([]:List PPart)):=fun l hl => by rw [List.eq_of_mem_replicate hl]; simp
 have hx:∀ x ∈ yj8 s.cat,x.n ≤ 8:=fun x hx => (h3 x hx).2
 have hA:ybP 1000 (yrC (ya8 s o.g).robin (yj8 s.cat) ((yd8 (ya8 s o.g).G).map yk6)):=by
  unfold yrC
  split
  ·exact (ybP.robin _ _ hx hr).mono (by omega)
  ·exact (ybP.range h2 _ hx hr).mono (by omega)
 rw [List.getD_eq_getElem?_getD]
 cases e:(yrC (ya8 s o.g).robin (yj8 s.cat) ((yd8 (ya8 s o.g).G).map yk6))[(ydK ((ya8 s o.g).G.map (·.1))).findIdx (eqS o.m)]? with
 | none => simp
 | some l => exact hA l (List.mem_of_getElem? e)
theorem yH5 (s:PBr) (o:POp):(doF s o).2.found.length ≤ 1000 ∧ (doF s o).2.parts.length ≤ 1000:=by
 have e:∀ x,(yhU x).found.length ≤ 1000 ∧ (yhU x).parts.length ≤ 1000:=fun x => ⟨by simp [yhU],by simp [yhU]⟩
 unfold doF
 split
 ·exact e _
 split
 ·exact e _
 split
 ·exact e _
 unfold ynC
 split
 ·unfold ynA; split <;> exact e _
 split
 ·unfold yfQ; dsimp only; split
  ·simp
  ·exact e _
 split
 ·unfold yhA
  split
  ·exact e _
  split
  ·simp
  split
  ·exact e _
  ·simp
 split
 ·unfold ytV
  dsimp only
  split
  ·have:=ymV (ycK s o.part) o.off (if 64 < o.n then 64 else o.n)
   refine ⟨?_,by simp⟩
   rcases this with h | h
   ·split at h <;> rename_i hh <;> simp only [hh,if_true,if_false] <;> omega
   ·dsimp only; rw [h]; simp
  ·exact e _
 split
 ·simp [ynB]
 split
 ·simp [yi9]
 split
 ·unfold yAy
  split
  ·exact e _
  split
  ·exact e _
  ·simp
 split
 ·simp [yDw,yhU]
 split
 ·simp [ytW,yhU]
 split
 ·unfold ybX
  dsimp only
  split
  ·exact ⟨by simp,yDI⟩
  ·exact e _
 split
 ·unfold ykA
  split
  ·exact e _
  split
  ·exact e _
  split
  ·exact e _
  ·exact e _
 split
 ·unfold yfR
  dsimp only
  split
  ·simp
  ·exact e _
 ·unfold yAz
  split
  ·exact e _
  ·simp
def br0 (room:Int):PBr:=⟨room,0,[],[],[],[],[],[]⟩
theorem yE7 {room:Int} (h:1 ≤ room ∧ room ≤ 64):BrGood (br0 room) 0 :=
 ⟨h.1,h.2,by simp [br0],by simp [br0],by simp [br0],by simp [br0],by simp [br0],by simp [br0],by simp [br0],by simp [br0],by simp [br0],by simp [br0],fun p hp => by simp [ynS,br0,lkp] at hp; omega,fun p hp => by simp [br0,lkp] at hp,by omega⟩
theorem yE8 (room:Int) (w:World):Calls pP 20 #[.int .i64 room] w fun e w' => ∃ v,e = .returned v ∧ Mod [] w w' ∧
  if 1 ≤ room ∧ room ≤ 64 then ∃ b V,v = .tuple #[.pointer (some ⟨b,0,none⟩),.int .i64 0] ∧ ydH w' b V ∧ V.st = br0 room ∧ (∀ k ∈ V.foot b,w.heap.size ≤ k) else v = .tuple #[.pointer none,.int .i64 1]:=by
 refine yFy ?_
 refine (ys1 room w).mono ?_
 rintro _ w4 ⟨_,rfl,M4,hif⟩
 by_cases g:1 ≤ room ∧ room ≤ 64
 ·rw [if_pos g] at hif
  obtain ⟨pl,Fl,rfl,_,_⟩:=hif
  refine ⟨_,_,rfl,brF rfl ?_⟩
  refine (ys8 w4).mono ?_
  rintro _ w18 ⟨_,rfl,pc,Fc,rfl,hT,hFc,M18⟩
  refine ⟨_,rfl,ybH fun b20 w21 c21 M21 f21 => ?_⟩
  refine (yCQ w21).mono ?_
  rintro _ w22 ⟨_,rfl,pm,Fm,rfl,hD,hFm,M22⟩
  refine ⟨_,rfl,ybH fun b24 w25 c25 M25 f25 => ?_⟩
  refine (yCI w25).mono ?_
  rintro _ w26 ⟨_,rfl,po,Fo,rfl,hO,hFo,M26⟩
  refine ⟨_,rfl,?_⟩
  intro b28 f28 w29 A29 h29
  have s4:=M4.size
  have s18:=M18.size
  have s21:=M21.size
  have s22:=M22.size
  have s25:=M25.size
  have s26:=M26.size
  have s29:=A29.mod.size
  have l28:=A29.lt b28 (by simp)
  have l20:=yaL c21
  have l24:=yaL c25
  have lFc:=hT.lt
  have lFm:=hD.lt
  have lFo:=hO.lt
  have N25:Mod [] w25 w29:=M26.go0 A29.mod (by simp)
  have N22:Mod [] w22 w29:=M25.go0 N25 (by simp)
  have N21:Mod [] w21 w29:=M22.go0 N22 (by simp)
  have N18:Mod [] w18 w29:=M21.go0 N21 (by simp)
  refine ⟨(M4.go0 M18 (by simp)).go0 N18 (by simp),?_⟩
  rw [if_pos g]
  refine ⟨b28,⟨room,0,[],[],[],[],[],[],pc,b20,pm,b24,po,Fc,Fm,Fo,fun k => if k < w18.heap.size then .cat else if k < w21.heap.size then .lm else if k < w22.heap.size then .mk else if k < w25.heap.size then .gm else if k < w26.heap.size then .off else .br⟩,rfl,?_,rfl,fun k hk => ?_⟩
  ·exact {
    cell:=fun _ => h29
    lb:=by
     show (if b28 < w18.heap.size then BLab.cat else _) = _
     rw [if_neg (by omega),if_neg (by omega),if_neg (by omega),if_neg (by omega),if_neg (by omega)]
    cat:=fun _ => hT.keep0 N18
    lc:=fun k hk => if_pos (lFc k hk)
    logs:=fun _ => yaX.of_new (N21.keep0 c21)
    lm:=by
     show (if b20 < w18.heap.size then BLab.cat else _) = _
     rw [if_neg (by omega),if_pos l20]
    log:=fun q hq => by cases hq
    ll:=fun q hq => by cases hq
    ded:=fun _ => hD.keep0 N22
    lk:=fun k hk => by
     have h1:=hFm k hk
     have h2:=lFm k hk
     show (if k < w18.heap.size then BLab.cat else _) = _
     rw [if_neg (by omega),if_neg (by omega),if_pos h2]
    gs:=fun _ => yaX.of_new (N25.keep0 c25)
    lg:=by
     have a1:¬ b24 < w18.heap.size:=by omega
     have a2:¬ b24 < w21.heap.size:=by omega
     have a3:¬ b24 < w22.heap.size:=by omega
     show (if b24 < w18.heap.size then BLab.cat else _) = _
     rw [if_neg a1,if_neg a2,if_neg a3,if_pos l24]
    grp:=fun q hq => by cases hq
    lgr:=fun q hq => by cases hq
    off:=fun _ => hO.keep0 A29.mod
    lo:=fun k hk => by
     have h1:=hFo k hk
     have h2:=lFo k hk
     show (if k < w18.heap.size then BLab.cat else _) = _
     rw [if_neg (by omega),if_neg (by omega),if_neg (by omega),if_neg (by omega),if_pos h2]
    low:=⟨l28,by show b20 < _; omega,by show b24 < _; omega,fun k hk => by have:=lFc k hk; omega,fun k hk => by have:=lFm k hk; omega,fun k hk => by have:=lFo k hk; omega,fun q hq => (List.not_mem_nil hq).elim,fun q hq => (List.not_mem_nil hq).elim⟩ }
  ·rcases yaF.1 hk with rfl | rfl | rfl | hk | hk | hk | ⟨q,hq,_⟩ | ⟨q,hq,_⟩
   ·omega
   ·show w.heap.size ≤ _; omega
   ·show w.heap.size ≤ _; omega
   ·have:=hFc k hk; omega
   ·have:=hFm k hk; omega
   ·have:=hFo k hk; omega
   ·cases hq
   ·cases hq
 ·rw [if_neg g] at hif
  subst hif
  refine ⟨_,_,rfl,brT rfl ⟨M4,?_⟩⟩
  rw [if_neg g]
def yyO:PBr → List POp → List PRep
 | _,[] => []
 | s,o :: r => (doF s o).2 :: yyO (doF s o).1 r
theorem yjC:∀ (l:List POp) (s:PBr),(yyO s l).length = l.length
 | [],_ => rfl
 | o :: r,s => by rw [yyO,List.length_cons,yjC r,List.length_cons]
theorem yE9 {w:World} {B:Nat} {f:Sl} {l:List HV} {y:HV} {bs:List Nat} {F:Option Addr → Nat → Nat → World → Prop} (hR:Row w B 44 6 HV.cs f.a f.n f.c l) (hl:l.length ≤ 1000000) (hB:B ≤ w.heap.size) (hbs:∀ b ∈ bs,b ∉ yaP f.a)
  (hF:∀ a' c' w',Row w' B 44 6 HV.cs a' (f.n + 1) c' (l ++ [y]) → Mod (yaP f.a) w w' → (∀ k ∈ yaP a',k ∈ yaP f.a ∨ w.heap.size ≤ k) → F a' (f.n + 1) c' w') :
  al w (.cells (HV.cs y).toArray 44) fun b w1 => ybN pP (Builtin.append_ #[36,36] 36 #[.slice f.a f.n f.c,.slice (some ⟨b,0,none⟩) 1 1]) w1 fun a n c w2 => yaG bs w1 w2 ∧ F a n c w2:=by
 refine ybH fun b w1 c1 M1 f1 => ?_
 have s1:=M1.size
 obtain ⟨i0,hi0,hz0,hz1,hz2⟩:=info_parts yFH
 refine ydQ (x:=y) (hR.keep0 M1) Tryz.underlying36 hi0 hz0 hz1 hz2 rfl (by decide) c1 rfl (HV.cs_one _) (by omega) (by unfold maxLen; omega) (by omega) fun a' c' w8 hR8 hM8 hk8 => ?_
 have M8:=hM8 _ (yb0 f.a)
 refine ⟨yaG.of M8 fun b hb _ => hbs b hb,hF a' c' w8 hR8 ?_ fun k hk => ?_⟩
 ·exact (M1.trans M8).less fun k hk _ => by simpa using hk
 ·rcases hk8 k hk with h | h
  ·exact .inl h
  ·exact .inr (by omega)
theorem ynE {w:World} {s:Sl} {xs:List PCall} (h:ybV w s xs) (hl:xs.length ≤ 800) (room:Int) :
  Calls pP 8 #[.int .i64 room,.slice s.a s.n s.c] w fun e w' => ∃ v,e = .returned v ∧ ∃ s':Sl,v = .tuple #[.slice s'.a s'.n s'.c,.int .i64 (if 1 ≤ room ∧ room ≤ 64 then 0 else 1)] ∧ Mod [] w w' ∧
   (1 ≤ room ∧ room ≤ 64 → ∃ reps:List HV,Row w' w.heap.size 44 6 HV.cs s'.a s'.n s'.c reps ∧ (∀ r ∈ reps,RepAt w' r.x r.f r.p) ∧ reps.map (·.x) = yyO (br0 room) (xs.map (·.op))):=by
 obtain ⟨ll,hS,hO,rfl⟩:=h
 have hl:ll.length ≤ 800:=by simpa using hl
 have hn:=hS.1
 refine yFF ?_
 refine (yE8 room w).mono ?_
 rintro _ w4 ⟨_,rfl,M4,hv⟩
 by_cases g:1 ≤ room ∧ room ≤ 64
 ·rw [if_pos g] at hv
  obtain ⟨b,V0,rfl,h4,hst,hfoot⟩:=hv
  refine ⟨_,_,rfl,brF rfl ?_⟩
  rw [if_pos g]
  rw [List.map_map]
  refine ysM (fun mm a n c x w' => ∃ (k:Nat) (V:BrV) (reps:List HV),x = k ∧ k ≤ ll.length ∧ Row w' w.heap.size 44 6 HV.cs a n c reps ∧ (∀ r ∈ reps,RepOwn w' w.heap.size r.x r.f r.p) ∧ ydH w' b V ∧ BrGood V.st k ∧ (∀ z ∈ V.foot b,w.heap.size ≤ z ∧ z ∉ yaP a ∧ ∀ r ∈ reps,z ∉ yaP r.f.a ∧ z ∉ yaP r.p.a) ∧ reps.length = k ∧ reps.map (·.x) ++ yyO V.st ((ll.drop k).map fun q => q.x.op) = yyO (br0 room) (ll.map fun q => q.x.op) ∧ Mod [] w w' ∧ mm = ll.length - k) ll.length
   ⟨0,V0,[],rfl,by omega,Row.nil ..,by simp,h4,by rw [hst]; exact yE7 g,fun z hz => ⟨hfoot z hz,by simp [yaP],by simp⟩,rfl,by rw [hst]; rfl,M4,rfl⟩ ?_
  rintro mm a n c x w1 ⟨k,V,reps,rfl,hk,hR,hRO,hB,hG,hF,hrl,hrun,M1,rfl⟩
  have s1:=M1.size
  refine yaH (fun hlt => ?_) fun hge => ?_
  ·obtain ⟨q,hq⟩:∃ q,ll[k]? = some q:=⟨_,List.getElem?_eq_getElem (by omega)⟩
   have hqm:=List.mem_of_getElem? hq
   refine (hS.keep0 M1).ix hq fun ad had => ybB had ?_
   intro b50 f50 w69 A69
   have l50:=A69.lt b50 (by simp)
   have s69:=A69.mod.size
   have N69:=M1.go0 A69.mod (by simp)
   have hB69:=hB.keep0 A69.mod
   have hf0:∀ z ∈ V.foot b,w.heap.size ≤ z:=fun z hz => (hF z hz).1
   refine (yH4 hB69 hG (o:=q.x.op) (rs:=q.rs) (ts:=q.ts) (fun w' M' => (hO q hqm).keep0 (N69.go0 M' hf0))).mono ?_
   rintro _ w70 ⟨_,rfl,V',fs,ps,rfl,hSt,hst',hfr,hpr,hout⟩
   have s70:=hSt.mod.size
   refine ⟨_,_,_,_,_,_,_,_,_,_,rfl,yaG.of hSt.mod (fun i hi _ hc => by
    have:=hB.lt i hc
    simp at hi; omega),?_⟩
   have hR69:=hR.keep0 A69.mod
   have hR70:Row w70 w.heap.size 44 6 HV.cs a n c reps:=yaE hR69 hSt.mod fun z hz => (hF z hz).2.1
   have N70:Mod [] w w70:=N69.go0 hSt.mod hf0
   have hRO70:∀ r ∈ reps,RepOwn w70 w.heap.size r.x r.f r.p:=fun r hr =>
    ⟨yaE ((hRO r hr).found.keep0 A69.mod) hSt.mod fun z hz => ((hF z hz).2.2 r hr).1,yaE ((hRO r hr).parts.keep0 A69.mod) hSt.mod fun z hz => ((hF z hz).2.2 r hr).2,(hRO r hr).lf,(hRO r hr).lp⟩
   have lk:=yaQ hR69
   have hlens:=yH5 V.st q.x.op
   have hnewR:RepOwn w70 w.heap.size (doF V.st q.x.op).2 fs ps:=⟨hfr.rebase (by omega),hpr.rebase (by omega),by omega,by omega⟩
   have hF':∀ z ∈ V'.foot b,w.heap.size ≤ z ∧ z ∉ yaP a ∧ (∀ r ∈ reps,z ∉ yaP r.f.a ∧ z ∉ yaP r.p.a):=fun z hz => by
    rcases hSt.gr z hz with hz | hz
    ·exact hF z hz
    ·refine ⟨by omega,fun hz' => by have:=(lk z hz').2; omega,fun r hr => ⟨fun hz' => ?_,fun hz' => ?_⟩⟩
     ·have:=(yaQ ((hRO r hr).found.keep0 A69.mod) z hz').2; omega
     ·have:=(yaQ ((hRO r hr).parts.keep0 A69.mod) z hz').2; omega
   refine yE9 (y:=⟨(doF V.st q.x.op).2,fs,ps⟩) (f:=⟨a,n,c⟩) hR70 (by omega) (by omega) (fun i hi hi' => ?_) fun a' c' w83 hR83 M83 hrow' => ?_
   ·have:=lk i hi'
    have:=(yaQ hR i hi').2
    simp at hi; omega
   ·have s83:=M83.size
    refine ysL (ll.length - (k + 1)) (by omega) ⟨k + 1,V',reps ++ [⟨(doF V.st q.x.op).2,fs,ps⟩],by rw [yaJ (by omega) (by omega)]; omega,by omega,hR83,fun r hr => ?_,hSt.ok.keep M83 fun z hz hz' => (hF' z hz').2.1 hz,by rw [hst']; exact hG.do q.x.op (by omega),fun z hz => ?_,by simp; omega,?_,N70.go0 M83 fun i hi => (lk i hi).1,rfl⟩
    ·rcases List.mem_append.1 hr with hr | hr
     ·exact ⟨yaE (hRO70 r hr).found M83 (ybA hR70 (hRO70 r hr).found (by decide)),yaE (hRO70 r hr).parts M83 (ybA hR70 (hRO70 r hr).parts (by decide)),(hRO r hr).lf,(hRO r hr).lp⟩
     ·simp at hr; subst hr
      exact ⟨yaE hnewR.found M83 (ybA hR70 hnewR.found (by decide)),yaE hnewR.parts M83 (ybA hR70 hnewR.parts (by decide)),hnewR.lf,hnewR.lp⟩
    ·refine ⟨(hF' z hz).1,fun hz' => ?_,fun r hr => ?_⟩
     ·rcases hrow' z hz' with h1 | h1
      ·exact (hF' z hz).2.1 h1
      ·have:=hSt.ok.lt z hz; omega
     ·rcases List.mem_append.1 hr with hr | hr
      ·exact (hF' z hz).2.2 r hr
      ·simp at hr; subst hr; exact hout z hz
    ·rw [List.map_append,List.append_assoc]
     rw [yDg hq,List.map_cons,yyO] at hrun
     rw [hst']
     exact hrun
  ·have hk:k = ll.length:=by omega
   subst hk
   refine ⟨⟨a,n,c⟩,rfl,M1,fun _ => ⟨reps,hR,fun r hr => (hRO r hr).at,?_⟩⟩
   rw [List.drop_length] at hrun
   simp only [List.map_nil,yyO,List.append_nil] at hrun
   exact hrun
 ·rw [if_neg g] at hv
  subst hv
  refine ⟨_,_,rfl,brT rfl ?_⟩
  rw [if_neg g]
  exact ⟨⟨none,0,0⟩,rfl,M4,fun h => absurd h g⟩
end Go.Proofs.YtkepmmocldnnfaaGreat
namespace Go.Proofs.YtkepmmocldnnfaaGreat
open Go Go.RowKit Go.Maps Go.MapKept
set_option linter.unusedVariables false
set_option linter.unusedSimpArgs false
set_option maxHeartbeats 1000000 in
theorem yDJ {w:World} {s t:Sl} {calls:List PCall} {evs:List EV} {room er:Int} {R:List PRep}
  (hRep:Calls pP 8 #[.int .i64 room,.slice s.a s.n s.c] w fun e w' => ∃ v,e = .returned v ∧ ∃ s':Sl,v = .tuple #[.slice s'.a s'.n s'.c,.int .i64 er] ∧ Mod [] w w' ∧ (er = 0 → ∃ reps:List HV,reps.map (·.x) = R ∧ ybD w' 6 HV.cs s'.a s'.n reps ∧ ∀ r ∈ reps,RepAt w' r.x r.f r.p))
  (hC:ybV w s calls) (hl:calls.length ≤ 1000000) (hlen:R.length = calls.length) (hE:ybD w 23 EV.cs t.a t.n evs) (hEO:∀ q ∈ evs,EvAt w q ∧ s64 q.x.c) (hle:evs.length ≤ 1000000) :
  Calls pP 11 #[.int .i64 room,.slice s.a s.n s.c,.slice t.a t.n t.c] w fun e w' => e = .returned (.int .i64 (ycC er calls R (evs.map (·.x)))) ∧ Mod [] w w':=by
 refine ya2 (yFK ?_)
 refine hRep.mono ?_
 rintro _ w6 ⟨_,rfl,sr,rfl,M6,hr⟩
 refine ⟨_,_,_,_,rfl,ybH fun b14 w15 c15 M15 f15 => ?_⟩
 intro b16 f16 w129 A129 h129
 have s15:=M15.size
 have hn:=hE.1
 have B129:Mod [] w6 w129:=M15.go0 A129.mod (by simp)
 have hE6:=hE.keep0 M6
 have hEO6:∀ q ∈ evs,EvAt w6 q ∧ s64 q.x.c:=fun q hq => ⟨(hEO q hq).1.keep0 M6,(hEO q hq).2⟩
 have hC6:=hC.keep0 M6
 clear hE hEO hC
 have h0:WtAt w6 w129 b16 s sr b14 (-1) []:=⟨h129,yaX.of_new (A129.mod.keep0 c15),by simp,B129,by omega,f15,by simp,by omega⟩
 refine ysP (fun mm x a0 n0 c0 a1 n1 c1 m2 x3 w' => ∃ (k:Nat) (L:List (Int × KnV)),x = k ∧ k ≤ evs.length ∧ (a0 = s.a ∧ n0 = s.n ∧ c0 = s.c) ∧ (a1 = sr.a ∧ n1 = sr.n ∧ c1 = sr.c) ∧ m2 = some b14 ∧ WtAt w6 w' b16 s sr b14 x3 L ∧
   (er = 0 → goF calls R 0 [] (-1) (evs.map (·.x)) = goF calls R k (knL L) x3 ((evs.map (·.x)).drop k)) ∧ (er ≠ 0 → k = 0) ∧ mm = evs.length - k) evs.length
  ⟨0,[],rfl,by omega,⟨rfl,rfl,rfl⟩,⟨rfl,rfl,rfl⟩,rfl,h0,fun _ => rfl,fun _ => rfl,rfl⟩ ?_
 rintro mm x a0 n0 c0 a1 n1 c1 m2 x3 w1 ⟨k,L,rfl,hk,⟨rfl,rfl,rfl⟩,⟨rfl,rfl,rfl⟩,rfl,hW,hf,he,rfl⟩
 intro _
 have hne:=hW.ne
 have N1:Mod [] w w1:=M6.go0 hW.base (by simp)
 have lb:=yaL hW.cells
 have lm:=hW.mp.lt
 have s6:=M6.size
 have sb:=hW.fb
 have sm:=hW.fm
 refine yaH (fun hlt => ?_) fun hge => ?_
 ·obtain ⟨q,hq⟩:∃ q,evs[k]? = some q:=⟨_,List.getElem?_eq_getElem (by omega)⟩
  have hqm:=List.mem_of_getElem? hq
  have hq':(evs.map (·.x))[k]? = some q.x:=by simp [hq]
  have hd:(evs.map (·.x)).drop k = q.x :: (evs.map (·.x)).drop (k + 1):=by
   obtain ⟨h1,h2⟩:=List.getElem?_eq_some_iff.1 hq'
   rw [List.drop_eq_getElem_cons h1,h2]
  rw [hd] at hf
  simp only [goF] at hf
  obtain ⟨hqE,hqc⟩:=hEO6 q hqm
  have bad:∀ {w'},er ≠ 0 → Mod [] w1 w' → Value.int .i64 (k:Int) = .int .i64 (ycC er calls R (evs.map (·.x))) ∧ Mod [] w w':=fun hne M => by
   refine ⟨?_,N1.go0 M (by simp)⟩
   rw [ycC,if_neg hne,if_neg (by rw [List.length_map]; omega),he hne]
   rfl
  refine (hE6.keep0 hW.base).ix hq fun ad had => yp6 had ?_
  intro b82 f82
  refine yaD (fun ga => ?_) fun ga => ?_
  ·rw [if_pos ga] at hf
   refine yaD (fun g => ?_) fun g => ?_
   ·intro w94 A94 _
    exact bad (by simpa using g) A94.mod
   have g:er = 0:=by simpa using g
   have hf:=hf g
   obtain ⟨reps,hRe,hr1,hr2⟩:=hr g
   intro w95 A95 _
   have l82:=A95.lt b82 (by simp)
   have hA:=yBV (hW.keep0 A95.mod) q hqE hqc hC6 hl hr1 hr2 (by rw [← hlen,← hRe,List.length_map])
   rw [hRe] at hA
   refine hA.mono ?_
   rintro _ w96 ⟨_,rfl,t,rfl,M96,hm⟩
   refine ⟨_,rfl,yaG.of M96 (fun i hi _ hc => by simp at hi hc; omega),?_⟩
   have N96:Mod [] w w96:=N1.go0 ((A95.mod.trans M96).less (T:=[b16,b14]) (by simp)) (by simp; omega)
   cases hx:yu1 calls R (knL L) x3 q.x with
   | none =>
    rw [hx] at hm hf
    obtain ⟨rfl,hW96⟩:=hm
    refine ⟨_,_,_,_,_,_,_,_,hW96.cells,brT rfl ⟨?_,N96⟩⟩
    rw [ycC,if_pos g,hf]
   | some p =>
    obtain ⟨L',ans'⟩:=p
    rw [hx] at hm hf
    obtain ⟨rfl,L2,rfl,hW96⟩:=hm
    refine ⟨_,_,_,_,_,_,_,_,hW96.cells,brF rfl ?_⟩
    exact yiY (evs.length - (k + 1)) (by omega) ⟨k + 1,L2,by rw [yaJ (by omega) (by omega)]; omega,by omega,⟨rfl,rfl,rfl⟩,⟨rfl,rfl,rfl⟩,rfl,hW96,fun _ => hf,fun h => absurd g h,rfl⟩
  ·rw [if_neg (by rw [ga]; simp)] at hf
   refine yaD (fun g => ?_) fun g => ?_
   ·intro w94 A94 _
    exact bad (by simpa using g) A94.mod
   have g:er = 0:=by simpa using g
   have hf:=hf g
   intro w95 A95 _
   have l82:=A95.lt b82 (by simp)
   refine (ysO (hW.keep0 A95.mod) q hqE.op hqc).mono ?_
   rintro _ w96 ⟨_,rfl,t,rfl,M96,hm⟩
   refine ⟨_,rfl,yaG.of M96 (fun i hi _ hc => by simp at hi hc; omega),?_⟩
   have N96:Mod [] w w96:=N1.go0 ((A95.mod.trans M96).less (T:=[b16,b14]) (by simp)) (by simp; omega)
   cases hx:yu0 (knL L) x3 q.x with
   | none =>
    rw [hx] at hm hf
    obtain ⟨rfl,hW96⟩:=hm
    refine ⟨_,_,_,_,_,_,_,_,hW96.cells,brT rfl ⟨?_,N96⟩⟩
    rw [ycC,if_pos g,hf]
   | some L' =>
    rw [hx] at hm hf
    obtain ⟨rfl,L2,rfl,hW96⟩:=hm
    refine ⟨_,_,_,_,_,_,_,_,hW96.cells,brF rfl ?_⟩
    exact yiY (evs.length - (k + 1)) (by omega) ⟨k + 1,L2,by rw [yaJ (by omega) (by omega)]; omega,by omega,⟨rfl,rfl,rfl⟩,⟨rfl,rfl,rfl⟩,rfl,hW96,fun _ => hf,fun h => absurd g h,rfl⟩
 ·have hk:k = evs.length:=by omega
  subst hk
  refine ⟨?_,N1⟩
  rw [ycC]
  by_cases g:er = 0
  ·rw [if_pos g,hf g,List.drop_of_length_le (by simp)]
   rfl
  ·rw [if_neg g,if_pos (by rw [List.length_map,he g])]
theorem yDK {w:World} {s t:Sl} {calls:List PCall} {evs:List EV} (room:Int) (hC:ybV w s calls) (hl:calls.length ≤ 800) (hE:ybD w 23 EV.cs t.a t.n evs) (hEO:∀ q ∈ evs,EvAt w q ∧ s64 q.x.c) (hle:evs.length ≤ 1000000) :
  Calls pP 11 #[.int .i64 room,.slice s.a s.n s.c,.slice t.a t.n t.c] w fun e w' => e = .returned (.int .i64 (ycC (if 1 ≤ room ∧ room ≤ 64 then 0 else 1) calls (yyO (br0 room) (calls.map (·.op))) (evs.map (·.x)))) ∧ Mod [] w w':=by
 have hR:=ynE hC hl room
 refine yDJ (hR.mono ?_) hC (by omega) (by rw [yjC _ _,List.length_map]) hE hEO hle
 rintro _ w' ⟨v,rfl,s',rfl,M,hr⟩
 refine ⟨_,rfl,s',rfl,M,fun h => ?_⟩
 have g:1 ≤ room ∧ room ≤ 64:=by
  by_cases g:1 ≤ room ∧ room ≤ 64
  ·exact g
  ·rw [if_neg g] at h; cases h
 obtain ⟨reps,h1,h2,h3⟩:=hr g
 exact ⟨reps,h3,h1.sl HV.cs_len,h2⟩
end Go.Proofs.YtkepmmocldnnfaaGreat
namespace Go.Proofs.YtkepmmocldnnfaaGreat
open Go Go.RowKit Go.Maps Go.MapKept
set_option linter.unusedVariables false
set_option linter.unusedSimpArgs false
theorem yv5 {x m:Int} (h0:0 ≤ m) (h1:m ≤ 9223372036854775807):0 ≤ yAG .i64 x m ∧ yAG .i64 x m ≤ m:=by
 unfold yAG
 have e:(BitVec.ofInt IntKind.i64.bits m).toNat = m.toNat:=by
  show (BitVec.ofInt 64 m).toNat = _
  rw [BitVec.toNat_ofInt]
  have:m % ((2 ^ 64:Nat):Int) = m:=Int.emod_eq_of_lt h0 (by omega)
  rw [this]
 have h:(BitVec.ofInt IntKind.i64.bits x &&& BitVec.ofInt IntKind.i64.bits m).toNat ≤ m.toNat:=by
  rw [BitVec.toNat_and,← e]; exact Nat.and_le_right
 rw [yaJ (by omega) (by omega)]
 omega
theorem yFa {w:World} {B:Nat} {f:Sl} {l:List CV} {y:CV} {F:Option Addr → Nat → Nat → World → Prop} (hR:Row w B 35 16 CV.cs f.a f.n f.c l) (hl:l.length ≤ 1000000) (hB:B ≤ w.heap.size)
  (hF:∀ a' c' w',Row w' B 35 16 CV.cs a' (f.n + 1) c' (l ++ [y]) → Mod (yaP f.a) w w' → F a' (f.n + 1) c' w') :
  al w (.cells (CV.cs y).toArray 35) fun b w1 => ybN pP (Builtin.append_ #[23,23] 23 #[.slice f.a f.n f.c,.slice (some ⟨b,0,none⟩) 1 1]) w1 F:=by
 refine ybH fun b w1 c1 M1 f1 => ?_
 have s1:=M1.size
 obtain ⟨i0,hi0,hz0,hz1,hz2⟩:=info_parts ywW
 refine ydZ (x:=y) (hR.keep0 M1) Tryz.underlying23 hi0 hz0 hz1 hz2 rfl (by decide) c1 rfl (CV.cs_one _) (by omega) (by unfold maxLen; omega) (by omega) fun a' c' w8 hR8 hM8 => ?_
 exact hF a' c' w8 hR8 ((M1.trans (hM8 _ (yb0 f.a))).less fun k hk _ => by simpa using hk)
end Go.Proofs.YtkepmmocldnnfaaGreat
namespace Go.Proofs.YtkepmmocldnnfaaGreat
open Go Go.RowKit Go.Maps Go.MapKept
set_option linter.unusedVariables false
set_option linter.unusedSimpArgs false
def yaV (i:Nat) (o:POp):PCall:=⟨1 + ((i % 3:Nat):Int),((i / 3:Nat):Int) + 1,o⟩
def yhN:Nat → List POp → List PCall
 | _,[] => []
 | i,o :: r => yaV i o :: yhN (i + 1) r
theorem yrM:∀ (l:List POp) (i:Nat),(yhN i l).length = l.length
 | [],_ => rfl
 | o :: r,i => by rw [yhN,List.length_cons,List.length_cons,yrM r]
theorem yjD:∀ (l:List POp) (i j:Nat),(yhN i l)[j]? = l[j]?.map (yaV (i + j))
 | [],_,_ => by simp [yhN]
 | o :: r,i,0 => by simp [yhN]
 | o :: r,i,j + 1 => by
  rw [yhN,List.getElem?_cons_succ,List.getElem?_cons_succ,yjD r (i + 1) j]
  congr 2
  omega
theorem yyP:∀ (l:List POp) (i:Nat) (o:POp),yhN i (l ++ [o]) = yhN i l ++ [yaV (i + l.length) o]
 | [],i,o => rfl
 | q :: r,i,o => by
  rw [List.cons_append,yhN,yhN,yyP r,List.cons_append,List.length_cons]
  congr 4
  omega
theorem yH6 (l:List POp) (i:Nat):(yhN i l).map (·.op) = l:=by
 induction l generalizing i with
 | nil => rfl
 | cons o r ih => rw [yhN,List.map_cons,ih]; rfl
theorem yrN:∀ (l:List POp) (i:Nat) (q:PCall),q ∈ yhN i l → ∃ j:Nat,i ≤ j ∧ j < i + l.length ∧ q.c = 1 + ((j % 3:Nat):Int) ∧ q.n = ((j / 3:Nat):Int) + 1
 | [],i,q,h => by cases h
 | o :: r,i,q,h => by
  rw [yhN] at h
  rcases List.mem_cons.1 h with rfl | h
  ·exact ⟨i,by omega,by simp,rfl,rfl⟩
  ·obtain ⟨j,h1,h2,h3,h4⟩:=yrN r (i + 1) q h
   exact ⟨j,by omega,by simp; omega,h3,h4⟩
theorem yyQ:∀ (l:List PCall) (L:List (Int × Int)),(∀ q ∈ l,∀ n,lkp L q.c = some n → n < q.n) → (l.Pairwise fun a b => a.c = b.c → a.n < b.n) → yoR L l = true
 | [],L,_,_ => rfl
 | y :: r,L,h,hp => by
  rw [List.pairwise_cons] at hp
  have k:yoR (put L y.c y.n) r = true:=yyQ r _ (fun q hq n hn => by
   rw [ycP] at hn
   split at hn
   ·rename_i e
    cases hn
    exact hp.1 q hq e.symm
   ·exact h q (by simp [hq]) n hn) hp.2
  rw [yoR]
  cases hx:lkp L y.c with
  | some n =>
   have:=h y (by simp) n hx
   simp only
   rw [if_neg (by omega),k]
  | none => exact k
theorem ytZ:∀ (l:List POp) (i:Nat),(yhN i l).Pairwise fun a b => a.c = b.c → a.n < b.n
 | [],i => List.Pairwise.nil
 | o :: r,i => by
  rw [yhN,List.pairwise_cons]
  refine ⟨fun q hq e => ?_,ytZ r (i + 1)⟩
  obtain ⟨j,h1,h2,h3,h4⟩:=yrN r (i + 1) q hq
  rw [h3] at e
  rw [h4]
  have e':(1:Int) + ((i % 3:Nat):Int) = 1 + ((j % 3:Nat):Int):=e
  show ((i / 3:Nat):Int) + 1 < ((j / 3:Nat):Int) + 1
  omega
theorem yyR (l:List POp):yoR [] (yhN 0 l) = true:=yyQ _ _ (fun q hq n hn => by simp [lkp] at hn) (ytZ l 0)
theorem ypI {l:List POp} {k:Nat} {o:POp} (h:l[k]? = some o):ycY (yhN 0 l) (yaV k o).c (yaV k o).n = k :=
 yBR (yyR l) (by rw [yjD,h]; simp)
def ynG (q:PCall):PEv:=⟨q.c,q.n,false,q.op,yFO⟩
def yk9 (q:PCall) (r:PRep):PEv:=⟨q.c,q.n,true,op0,r⟩
def evP (Z:List (PCall × PRep)):List PEv:=Z.flatMap fun p => [ynG p.1,yk9 p.1 p.2]
def yGs (k:Nat) (L:KL):Prop:=∀ j,k ≤ j → j < k + 3 → ((lkp L (1 + ((j % 3:Nat):Int))).getD kn0).waits = false ∧ ((lkp L (1 + ((j % 3:Nat):Int))).getD kn0).last = ((j / 3:Nat):Int)
theorem yGs.nil:yGs 0 []:=fun j _ h => ⟨rfl,by
 show (0:Int) = _
 omega⟩
theorem yyS {k:Nat} {L:KL} (h:yGs k L) (hk:k ≤ 1000) (o:POp) (ans:Int):yu0 L ans (ynG (yaV k o)) = some (put L (yaV k o).c ⟨true,(yaV k o).n,o,ans⟩):=by
 obtain ⟨h1,h2⟩:=h k (by omega) (by omega)
 unfold yu0
 have e1:((lkp L (ynG (yaV k o)).c).getD kn0).waits = false:=h1
 have e2:((lkp L (ynG (yaV k o)).c).getD kn0).last = ((k / 3:Nat):Int):=h2
 rw [e1,e2,if_neg (by decide),if_neg]
 ·rfl
 ·intro hn
  apply hn
  show ((k / 3:Nat):Int) + 1 = _
  rw [yaJ (by omega) (by omega)]
def yLt (L:KL) (k:Nat) (o:POp):KL:=put (put L (yaV k o).c ⟨true,(yaV k o).n,o,(k:Int) - 1⟩) (yaV k o).c ⟨false,(yaV k o).n,o,(k:Int) - 1⟩
theorem yDL {C:List PCall} {R:List PRep} {k:Nat} {L:KL} {o:POp} {r r':PRep} (hC:C[k]? = some (yaV k o)) (hR:R[k]? = some r) (hp:ycY C (yaV k o).c (yaV k o).n = k) :
  yu1 C R (put L (yaV k o).c ⟨true,(yaV k o).n,o,(k:Int) - 1⟩) ((k:Int) - 1) (yk9 (yaV k o) r') = if r' = r then some (yLt L k o,(k:Int)) else none:=by
 unfold yu1
 have e:(lkp (put L (yaV k o).c ⟨true,(yaV k o).n,o,(k:Int) - 1⟩) (yk9 (yaV k o) r').c).getD kn0 = ⟨true,(yaV k o).n,o,(k:Int) - 1⟩:=by
  show (lkp (put L (yaV k o).c ⟨true,(yaV k o).n,o,(k:Int) - 1⟩) (yaV k o).c).getD kn0 = _
  rw [ycP,if_pos rfl]; rfl
 have ep:ycY C (yk9 (yaV k o) r').c (yk9 (yaV k o) r').n = k:=hp
 rw [e,ep,if_neg (show ¬ (true = false) by decide),if_neg (show ¬ (yk9 (yaV k o) r').n ≠ (yaV k o).n from fun h => h rfl),if_neg (by show ¬ (k:Int) ≤ (k:Int) - 1; omega),Int.toNat_natCast,hC,hR]
 simp only
 rw [if_neg (show ¬ (yaV k o).op ≠ o from fun h => h rfl)]
 by_cases g:r' = r
 ·subst g
  rw [if_neg (show ¬ (yk9 (yaV k o) r').r ≠ r' from fun h => h rfl),if_pos rfl,if_pos (by omega)]
  rfl
 ·rw [if_pos (show (yk9 (yaV k o) r').r ≠ r from g),if_neg g]
theorem yGs.next {k:Nat} {L:KL} (h:yGs k L) (o:POp):yGs (k + 1) (yLt L k o):=fun j h1 h2 => by
 unfold yLt
 rw [ycP]
 by_cases e:(1:Int) + ((j % 3:Nat):Int) = (yaV k o).c
 ·have e':(1:Int) + ((j % 3:Nat):Int) = 1 + ((k % 3:Nat):Int):=e
  rw [if_pos e]
  refine ⟨rfl,?_⟩
  show ((k / 3:Nat):Int) + 1 = _
  omega
 ·have e':¬ (1:Int) + ((j % 3:Nat):Int) = 1 + ((k % 3:Nat):Int):=e
  rw [if_neg e,ycP,if_neg e]
  exact h j (by omega) (by omega)
theorem yGt {l:List POp} {R:List PRep} (hR:R.length = l.length) (hl:l.length ≤ 1000) (tail:List PEv):∀ k,k ≤ l.length → ∃ L,yGs k L ∧ goF (yhN 0 l) R 0 [] (-1) (evP (((yhN 0 l).zip R).take k) ++ tail) = goF (yhN 0 l) R (2 * k) L ((k:Int) - 1) tail:=by
 intro k
 induction k generalizing tail with
 | zero => exact fun _ => ⟨[],yGs.nil,rfl⟩
 | succ k ih =>
  intro hk
  obtain ⟨o,ho⟩:∃ o,l[k]? = some o:=⟨_,List.getElem?_eq_getElem (by omega)⟩
  obtain ⟨r,hr⟩:∃ r,R[k]? = some r:=⟨_,List.getElem?_eq_getElem (by omega)⟩
  have hC:(yhN 0 l)[k]? = some (yaV k o):=by rw [yjD,ho]; simp
  have hz:((yhN 0 l).zip R)[k]? = some (yaV k o,r):=by rw [List.getElem?_zip_eq_some]; exact ⟨hC,hr⟩
  obtain ⟨L,h1,h2⟩:=ih (ynG (yaV k o) :: yk9 (yaV k o) r :: tail) (by omega)
  refine ⟨yLt L k o,h1.next o,?_⟩
  rw [yd2 hz]
  unfold evP at h2 ⊢
  rw [List.flatMap_append,List.append_assoc]
  refine h2.trans ?_
  rw [goF,if_neg (show ¬ (ynG (yaV k o)).a = true by simp [ynG]),yyS h1 (by omega) o]
  simp only
  rw [goF,if_pos (show (yk9 (yaV k o) r).a = true by rfl),yDL hC hr (ypI ho),if_pos rfl]
  simp only
  congr 1
  omega
theorem yDM {l:List POp} {R:List PRep} (hR:R.length = l.length) (hl:l.length ≤ 1000):ycC 0 (yhN 0 l) R (evP ((yhN 0 l).zip R)) = -1:=by
 obtain ⟨L,_,h⟩:=yGt hR hl [] l.length (by omega)
 rw [List.append_nil,List.take_of_length_le (by rw [List.length_zip,yrM]; omega)] at h
 rw [ycC,if_pos rfl,h]
 rfl
theorem yH7 {l:List POp} {R:List PRep} (hR:R.length = l.length) (hl:l.length ≤ 1000) {k:Nat} {o:POp} {r r':PRep} (ho:l[k]? = some o) (hr:R[k]? = some r) (hne:r' ≠ r) (rest:List PEv) :
  ycC 0 (yhN 0 l) R (evP (((yhN 0 l).zip R).take k) ++ ynG (yaV k o) :: yk9 (yaV k o) r' :: rest) = ((2 * k + 1:Nat):Int):=by
 have hC:(yhN 0 l)[k]? = some (yaV k o):=by rw [yjD,ho]; simp
 have hkl:=(List.getElem?_eq_some_iff.1 ho).1
 obtain ⟨L,h1,h⟩:=yGt hR hl (ynG (yaV k o) :: yk9 (yaV k o) r' :: rest) k (by omega)
 rw [ycC,if_pos rfl,h,goF,if_neg (show ¬ (ynG (yaV k o)).a = true by simp [ynG]),yyS h1 (by omega) o]
 simp only
 rw [goF,if_pos (show (yk9 (yaV k o) r').a = true by rfl),yDL hC hr (ypI ho),if_neg hne]
theorem yyT:∀ (Z:List (PCall × PRep)),yk2 [] (evP Z) = []
 | [] => rfl
 | p :: r => by
  have e:evP (p :: r) = ynG p.1 :: yk9 p.1 p.2 :: evP r:=rfl
  rw [e,yk2,yk2]
  have h1:(if (ynG p.1).a = false then put [] (ynG p.1).c ⟨(ynG p.1).c,(ynG p.1).n,(ynG p.1).op⟩ else if ((lkp ([]:List (Int × PCall)) (ynG p.1).c).getD yIh).n = (ynG p.1).n then del [] (ynG p.1).c else []) = [(p.1.c,p.1)]:=rfl
  rw [h1]
  have h2:(if (yk9 p.1 p.2).a = false then put [(p.1.c,p.1)] (yk9 p.1 p.2).c ⟨(yk9 p.1 p.2).c,(yk9 p.1 p.2).n,(yk9 p.1 p.2).op⟩ else if ((lkp [(p.1.c,p.1)] (yk9 p.1 p.2).c).getD yIh).n = (yk9 p.1 p.2).n then del [(p.1.c,p.1)] (yk9 p.1 p.2).c else [(p.1.c,p.1)]) = []:=by
   rw [if_neg (by simp [yk9])]
   show (if ((lkp [(p.1.c,p.1)] p.1.c).getD yIh).n = p.1.n then del [(p.1.c,p.1)] p.1.c else _) = _
   rw [lkp,if_pos rfl,del,if_pos rfl]
   exact if_pos rfl
  rw [h2]
  exact yyT r
theorem yDN (g:Int):IntKind.wrap .i64 (g + 1) ≠ g:=by
 intro e
 unfold IntKind.wrap at e
 simp [IntKind.bits,IntKind.signed] at e
 omega
def ntF (i:Nat):List Int:=[(((i + 2) / 3:Nat):Int),(((i + 1) / 3:Nat):Int),((i / 3:Nat):Int)]
theorem yDO (i:Nat):(ntF i)[i % 3]? = some ((i / 3:Nat):Int):=by
 unfold ntF
 have:i % 3 = 0 ∨ i % 3 = 1 ∨ i % 3 = 2:=by omega
 rcases this with e | e | e <;> rw [e] <;> simp <;> omega
theorem yDP (i:Nat):(ntF i).set (i % 3) (((i / 3:Nat):Int) + 1) = ntF (i + 1):=by
 unfold ntF
 have:i % 3 = 0 ∨ i % 3 = 1 ∨ i % 3 = 2:=by omega
 rcases this with e | e | e <;> rw [e] <;> simp <;> omega
end Go.Proofs.YtkepmmocldnnfaaGreat
namespace Go.Proofs.YtkepmmocldnnfaaGreat
open Go Go.RowKit Go.Maps Go.MapKept
set_option linter.unusedVariables false
set_option linter.unusedSimpArgs false
theorem yH8 {a b:Bool} {A B:Prop} (h1:a = true → b = true → A) (h2:(a = true → b = false) → B):brB a (brB b A B) B:=by
 refine yaD (fun ha => yaD (fun hb => h1 ha hb) fun hb => h2 fun _ => hb) fun ha => h2 fun h => ?_
 rw [ha] at h; cases h
def yDQ (x:Int):List Value:=[.int .i64 x]
theorem ynF (x:Int):(yDQ x).length = 1:=rfl
def evV (Z:List (CV × HV)):List EV:=Z.flatMap fun p => [yaM p.1,ya7 p.1 p.2]
theorem yrO (Z:List (CV × HV)):(evV Z).map (·.x) = evP (Z.map fun p => (p.1.x,p.2.x)):=by
 induction Z with
 | nil => rfl
 | cons p r ih =>
  have e1:evV (p :: r) = yaM p.1 :: ya7 p.1 p.2 :: evV r:=rfl
  have e2:evP ((p :: r).map fun p => (p.1.x,p.2.x)) = ynG p.1.x :: yk9 p.1.x p.2.x :: evP (r.map fun p => (p.1.x,p.2.x)):=rfl
  rw [e1,e2,List.map_cons,List.map_cons,ih]
  rfl
theorem yiG (Z:List (CV × HV)):(evV Z).length = 2 * Z.length:=by
 induction Z with
 | nil => rfl
 | cons p r ih =>
  have e1:evV (p :: r) = yaM p.1 :: ya7 p.1 p.2 :: evV r:=rfl
  rw [e1,List.length_cons,List.length_cons,List.length_cons,ih]
  omega
theorem yFb {Z:List (CV × HV)} {i:Nat} {p:CV × HV} (h:Z[i]? = some p):evV (Z.take (i + 1)) = (evV (Z.take i) ++ [yaM p.1]) ++ [ya7 p.1 p.2]:=by
 rw [yd2 h]; unfold evV; rw [List.flatMap_append,List.append_assoc]; rfl
theorem yt0 {Z:List (CV × HV)} {i:Nat} {p:CV × HV} (h:Z[i]? = some p):evV Z = evV (Z.take i) ++ yaM p.1 :: ya7 p.1 p.2 :: evV (Z.drop (i + 1)):=by
 conv => lhs; rw [← List.take_append_drop i Z,yDg h]
 unfold evV
 rw [List.flatMap_append]
 rfl
theorem yDR {Z:List (CV × HV)} {i:Nat} {p:CV × HV} (h:Z[i]? = some p):(evV Z)[2 * i + 1]? = some (ya7 p.1 p.2):=by
 have hl:=(List.getElem?_eq_some_iff.1 h).1
 have e:(evV (Z.take i)).length = 2 * i:=by rw [yiG,List.length_take]; omega
 rw [yt0 h,List.getElem?_append_right (by omega),e,show 2 * i + 1 - 2 * i = 1 by omega]
 rfl
theorem yH9 {Z:List (CV × HV)} {i:Nat} {p:CV × HV} (h:Z[i]? = some p) (y:EV):(evV Z).set (2 * i + 1) y = evV (Z.take i) ++ yaM p.1 :: y :: evV (Z.drop (i + 1)):=by
 have hl:=(List.getElem?_eq_some_iff.1 h).1
 have e:(evV (Z.take i)).length = 2 * i:=by rw [yiG,List.length_take]; omega
 rw [yt0 h,List.set_append_right _ _ (by omega),e,show 2 * i + 1 - 2 * i = 1 by omega]
 rfl
theorem yIa {Z:List (CV × HV)} {e:EV} (h:e ∈ evV Z):∃ p ∈ Z,e = yaM p.1 ∨ e = ya7 p.1 p.2:=by
 unfold evV at h
 obtain ⟨p,hp,he⟩:=List.mem_flatMap.1 h
 exact ⟨p,hp,by simpa using he⟩
theorem Row.storeA {α:Type} {w:World} {base T sz:Nat} {enc:α → List Value} {a:Option Addr} {n c:Nat} {l:List α} {i:Nat} {x y:α} {N:List Nat} {F:World → World → Prop} (h:Row w base T sz enc a n c l) (hs:∀ x,(enc x).length = sz) (hl:(enc y).all ynH = true) (hx:l[i]? = some x)
  (hF:∀ ad w1 w',Adv [] N w w1 → a = some ad → Row w' base T sz enc a n c (l.set i y) → Mod [ad.block] w1 w' → F w1 w'):ixA a n (i:Int) sz fun q => ∀ w1,Adv [] N w w1 → st w1 q (enc y) (F w1):=by
 obtain ⟨ad,ha,h1,h2,_⟩:=(h.sl hs).ix (F:=fun _ => True) hx fun _ _ => trivial
 refine ⟨ad,ha,h1,h2,fun w1 A => ?_⟩
 obtain ⟨ad',ha',_,_,hst⟩:=(h.keep0 A.mod).store (F:=F w1) hs hl hx fun ad w' h1 h2 h3 => hF ad w1 w' A h1 h2 h3
 rw [ha] at ha'; cases ha'; exact hst
def yhD (q:CV) (r:HV):EV:=⟨⟨q.x.c,q.x.n,true,op0,⟨r.x.e,r.x.off,r.x.n,IntKind.wrap .i64 (r.x.gen + 1),r.x.found,r.x.parts⟩⟩,ybM,ybM,r.f,r.p⟩
set_option maxHeartbeats 4000000 in
theorem yIb {kk:Int} {w:World} {a:Option Addr} {n c:Nat} {os:List OV} (h:ybD w 14 OV.cs a n os) (hO:∀ q ∈ os,OpRd w q.o q.rs q.ts) (hm:n ≤ maxLen) :
  Calls pP 3 #[.slice a n c,.int .i64 kk] w fun e w' => e = .returned (.bool true) ∧ Mod [] w w':=by
 have hmn:=h.1
 unfold maxLen at hm
 refine ya2 (yJZ ?_)
 refine ybH fun b5 w6 c6 M6 f6 => ybH fun b7 w8 c8 M8 f8 => ?_
 have s6:=M6.size
 have s8:=M8.size
 have N8:=M6.go0 M8 (by simp)
 have hT0:Row w8 w.heap.size 3 1 yDQ (some ⟨b7,0,none⟩) 3 3 (ntF 0):=⟨rfl,by simp [yDQ,ntF],.inr ⟨b7,3,#[.int .i64 0,.int .i64 0,.int .i64 0],rfl,by omega,c8,by simp,by unfold maxLen; omega,by simp,by simp [yDQ,ntF]⟩⟩
 refine yB4 (fun mm a5 n5 c5 x w' => ∃ (i:Nat) (L:List CV),x = i ∧ i ≤ os.length ∧ i ≤ 20 ∧ L.map (·.x) = yhN 0 ((os.take i).map fun q => yEn q.o) ∧ Row w' w.heap.size 35 16 CV.cs a5 n5 c5 L ∧ (∀ q ∈ L,OpOwn w' w.heap.size q.x.op q.rs q.ts) ∧ Row w' w.heap.size 3 1 yDQ (some ⟨b7,0,none⟩) 3 3 (ntF i) ∧ Mod [] w w' ∧ mm = 20 - i) 20
  ⟨0,[],rfl,by omega,by omega,rfl,Row.fresh (M8.keep0 c6) f6,by simp,hT0,N8,rfl⟩ ?_
 clear hT0
 rintro mm a5 n5 c5 x w1 ⟨i,L,rfl,hi,hi20,hLx,hL,hLO,hT,N,rfl⟩
 have s1:=N.size
 have hLl:L.length = i:=by have:=congrArg List.length hLx; rw [List.length_map,yrM,List.length_map,List.length_take] at this; omega
 refine yH8 (fun g1 g2 => ?_) fun g => ?_
 ·have g1:=of_decide_eq_true g1
  have g2:=of_decide_eq_true g2
  have e3:Int.tmod (i:Int) 3 = ((i % 3:Nat):Int):=by rw [Int.tmod_eq_emod_of_nonneg (by omega)]; omega
  rw [e3]
  refine ⟨by decide,?_⟩
  refine (hT.sl ynF).ix (yDO i) fun q hq => yaI (x:=((i / 3:Nat):Int)) (by simpa [add_zero] using hq 0 _ rfl) ?_
  have ew:IntKind.wrap .i64 (((i / 3:Nat):Int) + 1) = ((i / 3:Nat):Int) + 1:=yaJ (by omega) (by omega)
  rw [ew]
  refine hT.store ynF (y:=((i / 3:Nat):Int) + 1) rfl (yDO i) fun ad w16 had hT16 M16 => ⟨by decide,by decide,?_⟩
  cases had
  rw [yDP] at hT16
  have hL16:Row w16 w.heap.size 35 16 CV.cs a5 n5 c5 L:=yaE hL M16 fun z hz => ybA hT hL (by decide) z (by simpa [yaP] using hz)
  have kp16:∀ {o rs ts},OpOwn w1 w.heap.size o rs ts → OpOwn w16 w.heap.size o rs ts:=fun hh => hh.keep M16 fun z hz cs T hc => by
   obtain ⟨_,_,cur,hcur⟩:=yaS hT z (by simpa [yaP] using hz)
   rw [hcur] at hc; cases hc; decide
  have N16:=N.go0 M16 fun z hz => by simp at hz; omega
  have hg3:(ntF (i + 1))[i % 3]? = some (((i / 3:Nat):Int) + 1):=by
   rw [← yDP,List.getElem?_set_self (by simp [ntF]; omega)]
  refine (hT16.sl ynF).ixW hg3 fun q17 h17 => ?_
  intro w18 A18
  refine yaI (x:=((i / 3:Nat):Int) + 1) (by simpa [add_zero] using h17 w18 A18.mod 0 _ rfl) ?_
  have N18:=N16.go0 A18.mod (by simp)
  obtain ⟨q,hq⟩:∃ q,os[i]? = some q:=⟨_,List.getElem?_eq_getElem (by omega)⟩
  refine (h.keep0 N18).ix hq fun ad had => yp3 (o:=q.o) (rs:=q.rs) (ts:=q.ts) had ?_
  refine (yGP ((hO q (List.mem_of_getElem? hq)).keep0 N18)).mono ?_
  rintro _ w39 ⟨_,rfl,rs',ts',rfl,hO',M39⟩
  have s39:=M39.size
  have s18:=A18.mod.size
  have s16:=M16.size
  refine ⟨_,_,_,_,_,_,_,_,_,_,_,_,_,_,_,_,_,_,rfl,yaI (x:=((i / 3:Nat):Int) + 1) (by simpa [add_zero] using h17 w39 (A18.mod.go0 M39 (by simp)) 0 _ rfl) rfl,?_⟩
  have K39:=A18.mod.go0 M39 (by simp)
  have ec:IntKind.wrap .i64 (1 + ((i % 3:Nat):Int)) = 1 + ((i % 3:Nat):Int):=yaJ (by omega) (by omega)
  rw [ec]
  have hL39:=hL16.keep0 K39
  have lL:=yaQ hL39
  refine yFa (y:=⟨yaV i (yEn q.o),rs',ts'⟩) (f:=⟨a5,n5,c5⟩) hL39 (by omega) (by omega) fun a' c' w61 hL61 M61 => ?_
  have kp:∀ {o rs ts},OpOwn w39 w.heap.size o rs ts → OpOwn w61 w.heap.size o rs ts:=fun hh => hh.keep M61 fun z hz cs T hc => by
   obtain ⟨_,_,cur,hcur⟩:=yaS hL39 z hz
   rw [hcur] at hc; cases hc; decide
  refine yB3 (20 - (i + 1)) (by omega) ⟨i + 1,_,by rw [yaJ (by omega) (by omega)]; omega,by omega,by omega,?_,hL61,fun y hy => ?_,yaE (hT16.keep0 K39) M61 (ybA hL39 (hT16.keep0 K39) (by decide)),(N16.go0 K39 (by simp)).go0 M61 fun z hz => (lL z hz).1,rfl⟩
  ·rw [yd2 hq,List.map_append,List.map_append,hLx,List.map_cons,List.map_nil,List.map_cons,List.map_nil,yyP,List.length_map,List.length_take,show 0 + min i os.length = i by omega]
  ·rcases List.mem_append.1 hy with hy | hy
   ·exact kp ((kp16 (hLO y hy)).keep0 K39)
   ·simp at hy; subst hy; exact kp (hO'.rebase (by omega))
 clear g
 have hCA:ybV w1 ⟨a5,n5,c5⟩ (L.map (·.x)):=⟨L,hL.sl CV.cs_len,fun q hq => (hLO q hq).at,rfl⟩
 generalize hP:(os.take i).map (fun q => yEn q.o) = P at hLx
 have hPl:P.length = i:=by rw [← hP,List.length_map,List.length_take]; omega
 have hR:=ynE (s:=⟨a5,n5,c5⟩) hCA (by rw [List.length_map]; omega) 4
 refine hR.mono ?_
 rintro _ w2 ⟨_,rfl,sr,rfl,M2,hr⟩
 clear hR
 obtain ⟨reps,hRp,hRO,hRx⟩:=hr (by decide)
 have hRl:reps.length = i:=by have:=congrArg List.length hRx; rw [List.length_map,yjC,List.length_map,List.length_map] at this; omega
 have hrn:sr.n = i:=by rw [hRp.1,hRl]
 have hn5:n5 = i:=by rw [hL.1,hLl]
 obtain ⟨sra,srn,src⟩:=sr
 have hrn:srn = i:=hrn
 have s2:=M2.size
 refine ⟨_,_,_,_,rfl,brF (by decide) (brF (by rw [hrn,hn5]; simp) ?_)⟩
 have hL2:=(hL.keep0 M2).sl CV.cs_len
 have hLO2:∀ q ∈ L,OpAt w2 q.x.op q.rs q.ts:=fun q hq => (hLO q hq).at.keep0 M2
 have hR2:=hRp.sl HV.cs_len
 have hCA2:=hCA.keep0 M2
 have N2:=N.go0 M2 (by simp)
 clear hT hL hLO hRp hCA
 subst hrn
 refine ybH fun b77 w78 c78 M78 f78 => ?_
 have hLc:∀ q ∈ L,s64 q.x.c:=fun q hq => by
  obtain ⟨j,_,_,hj,_⟩:=yrN P 0 q.x (by rw [← hLx]; exact List.mem_map_of_mem hq)
  rw [hj]
  exact yB7 (by omega) (by omega)
 have evO:∀ {w':World} {Z:List (CV × HV)},Mod [] w2 w' → (∀ p ∈ Z,p ∈ L.zip reps) → ∀ e ∈ evV Z,EvAt w' e ∧ s64 e.x.c:=fun {w' Z} M hZ e he => by
  obtain ⟨p,hp,hpe⟩:=yIa he
  obtain ⟨hp1,hp2⟩:=List.of_mem_zip (hZ p hp)
  rcases hpe with rfl | rfl
  ·exact ⟨yg6 ((hLO2 _ hp1).keep0 M),hLc _ hp1⟩
  ·exact ⟨ylH ((hRO _ hp2).keep0 M),hLc _ hp1⟩
 have hZl:(L.zip reps).length = srn:=by rw [List.length_zip]; omega
 have hPo:(L.map (·.x)).map (·.op) = P:=by rw [hLx,yH6]
 rw [hPo] at hRx
 have hZx:(L.zip reps).map (fun p => (p.1.x,p.2.x)) = (yhN 0 P).zip (yyO (br0 4) P):=by
  rw [← hLx,← hRx,List.zip_map]; rfl
 have hFirst:∀ {w':World} {s:Sl} {l:List EV},ybV w' ⟨a5,n5,c5⟩ (L.map (·.x)) → ybD w' 23 EV.cs s.a s.n l → (∀ e ∈ l,EvAt w' e ∧ s64 e.x.c) → l.length ≤ 1000 → Calls pP 11 #[.int .i64 4,.slice a5 n5 c5,.slice s.a s.n s.c] w' fun e w'' => e = .returned (.int .i64 (ycC 0 (yhN 0 P) (yyO (br0 4) P) (l.map (·.x)))) ∧ Mod [] w' w'':=fun {w' s l} h1 h2 h3 h4 => by
  have F:=yDK (s:=⟨a5,n5,c5⟩) 4 h1 (by rw [List.length_map]; omega) h2 h3 (by omega)
  rw [hPo,hLx,if_pos (by decide)] at F
  exact F
 refine yB6 (fun mm a10 n10 c10 x w' => ∃ i:Nat,x = i ∧ i ≤ srn ∧ Row w' w2.heap.size 46 23 EV.cs a10 n10 c10 (evV ((L.zip reps).take i)) ∧ Mod [] w2 w' ∧ mm = srn - i) srn
  ⟨0,rfl,by omega,Row.fresh c78 f78,M78,rfl⟩ ?_
 rintro mm a10 n10 c10 x w3 ⟨j,rfl,hj,hE,M3,rfl⟩
 have s3:=M3.size
 refine yaH (fun hlt => ?_) fun hge => ?_
 ·have hjl:j < srn:=by omega
  obtain ⟨q,hq⟩:∃ q,L[j]? = some q:=⟨_,List.getElem?_eq_getElem (by omega)⟩
  obtain ⟨r,hr⟩:∃ r,reps[j]? = some r:=⟨_,List.getElem?_eq_getElem (by omega)⟩
  have hz:(L.zip reps)[j]? = some (q,r):=by rw [List.getElem?_zip_eq_some]; exact ⟨hq,hr⟩
  refine (hL2.keep0 M3).ix hq fun ad had => ybB had ?_
  refine (ybE q w3).mono ?_
  rintro _ w4 ⟨rfl,M4⟩
  have s4:=M4.size
  refine ⟨_,_,_,_,_,_,_,_,_,_,_,_,_,_,_,_,_,_,_,_,_,_,_,_,_,_,_,_,_,_,_,rfl,?_⟩
  have hE4:=hE.keep0 M4
  have lE:=yaQ hE4
  have hEl:(evV ((L.zip reps).take j)).length ≤ 40:=by rw [yiG,List.length_take]; omega
  refine yxI (y:=yaM q) (f:=⟨a10,n10,c10⟩) hE4 (by omega) (by omega) fun a5' c5' w5 hE5 M5 _ => ?_
  have s5:=M5.size
  have N5:=(M3.go0 M4 (by simp)).go0 M5 fun z hz => (lE z hz).1
  refine (hL2.keep0 N5).ixW hq fun q1 g1 => ?_
  intro w6 A6
  have s6':=A6.mod.size
  refine ybB (g1 _ A6.mod) ?_
  have N6:=N5.go0 A6.mod (by simp)
  have hE6:=hE5.keep0 A6.mod
  refine (hR2.keep0 N6).ix hr fun q2 g2 => yf4 g2 ?_
  refine (ybY q r w6).mono ?_
  rintro _ w7 ⟨rfl,M7⟩
  have s7:=M7.size
  refine ⟨_,_,_,_,_,_,_,_,_,_,_,_,_,_,_,_,_,_,_,_,_,_,_,_,_,_,_,_,_,_,_,rfl,?_⟩
  have hE7:=hE6.keep0 M7
  have lE7:=yaQ hE7
  refine yxI (y:=ya7 q r) (f:=⟨a5',n10 + 1,c5'⟩) hE7 (by rw [List.length_append]; simp; omega) (by omega) fun a8' c8' w8 hE8 M8 _ => ?_
  refine yB5 (srn - (j + 1)) (by omega) ⟨j + 1,by rw [yaJ (by omega) (by omega)]; omega,by omega,?_,(N6.go0 M7 (by simp)).go0 M8 fun z hz => (lE7 z hz).1,rfl⟩
  rw [yFb hz]
  exact hE8
 have hjs:j = srn:=by omega
 subst hjs
 rw [List.take_of_length_le (by omega)] at hE
 have hEn:n10 = 2 * j:=by rw [hE.1,yiG,hZl]
 have hEl:(evV (L.zip reps)).length = 2 * j:=by rw [yiG,hZl]
 have hEO:∀ {w':World},Mod [] w2 w' → ∀ e ∈ evV (L.zip reps),EvAt w' e ∧ s64 e.x.c:=fun {w'} M => evO M fun p hp => hp
 have F1:=hFirst (s:=⟨a10,n10,c10⟩) (hCA2.keep0 M3) (hE.sl EV.cs_len) (hEO M3) (by omega)
 rw [yrO,hZx,yDM (by rw [yjC]) (by omega)] at F1
 refine F1.mono ?_
 rintro _ w4 ⟨rfl,M4⟩
 have s4:=M4.size
 refine ⟨_,rfl,brF rfl ?_⟩
 have hE4:=hE.keep0 M4
 have N4:=M3.go0 M4 (by simp)
 clear F1 M4
 refine (yB0 (t:=⟨a10,n10,c10⟩) (hE4.sl EV.cs_len) (fun q hq => ⟨(hEO N4 q hq).1.op,(hEO N4 q hq).2⟩) (by omega)).mono ?_
 rw [yrO,yyT]
 rintro _ w5 ⟨_,rfl,so,out,rfl,hout,hperm,_,M5⟩
 have hout0:out = []:=List.Perm.eq_nil hperm
 obtain ⟨ll,hll,_,hlx⟩:=hout
 have hon:so.n = 0:=by
  rw [hout0] at hlx
  rw [hll.1,List.map_eq_nil_iff.1 hlx]; rfl
 obtain ⟨soa,son,soc⟩:=so
 have hon:son = 0:=hon
 subst hon
 have hE5:=hE4.keep0 M5
 have N5:=N4.go0 M5 (by simp)
 refine ⟨_,_,_,rfl,brF (by simp) ?_⟩
 refine (yf3 (s:=⟨a5,n5,c5⟩) (hCA2.keep0 N5) (by rw [List.length_map]; omega) fun q hq => by
  obtain ⟨v,hv,rfl⟩:=List.mem_map.1 hq
  exact hLc v hv).mono ?_
 rw [hLx,yyR]
 rintro _ w6 ⟨rfl,M6'⟩
 refine ⟨_,rfl,brF rfl ?_⟩
 have hE6:=hE5.keep0 M6'
 have N6:=N5.go0 M6' (by simp)
 have Nw:=N2.go0 N6 (by simp)
 rw [hn5]
 refine yaD (fun g => yJ2 Nw) fun g => ?_
 have hj0:0 < j:=by
  rcases Nat.eq_zero_or_pos j with e | e
  ·subst e; simp at g
  ·exact e
 refine ⟨by omega,?_⟩
 obtain ⟨z,hz,hzj⟩:∃ z:Nat,Int.tmod (yAG .i64 kk 65535) (j:Int) = (z:Int) ∧ z < j:=by
  have h1:=yv5 (x:=kk) (m:=65535) (by decide) (by decide)
  have h2:=Int.tmod_nonneg (j:Int) h1.1
  have h3:=Int.tmod_lt_of_pos (yAG .i64 kk 65535) (b:=(j:Int)) (by omega)
  exact ⟨(Int.tmod (yAG .i64 kk 65535) (j:Int)).toNat,by omega,by omega⟩
 rw [hz]
 have e1:IntKind.wrap .i64 (2 * (z:Int)) = 2 * (z:Int):=yaJ (by omega) (by omega)
 have e2:IntKind.wrap .i64 (2 * (z:Int) + 1) = ((2 * z + 1:Nat):Int):=by rw [yaJ (by omega) (by omega)]; omega
 rw [e1,e2]
 obtain ⟨q,hq⟩:∃ q,L[z]? = some q:=⟨_,List.getElem?_eq_getElem (by omega)⟩
 obtain ⟨r,hr⟩:∃ r,reps[z]? = some r:=⟨_,List.getElem?_eq_getElem (by omega)⟩
 have hzz:(L.zip reps)[z]? = some (q,r):=by rw [List.getElem?_zip_eq_some]; exact ⟨hq,hr⟩
 refine (hE6.sl EV.cs_len).ix (yDR hzz) fun q1 g1 => yp6 g1 ?_
 intro b353 f353
 refine hE6.storeA EV.cs_len (y:=yhD q r) rfl (yDR hzz) fun ad w7 w8 A7 had hE8 M8 => ?_
 have lE:=yaQ hE6
 have hadb:=lE ad.block (by rw [had]; simp [yaP])
 have s7:=A7.mod.size
 have s8':=M8.size
 have N8':=(N6.go0 A7.mod (by simp)).go0 M8 fun i hi => by simp at hi; omega
 refine ⟨yaG.of M8 fun b hb _ hb' => by simp at hb hb'; omega,?_⟩
 rw [yH9 hzz] at hE8
 obtain ⟨o,ho⟩:∃ o,P[z]? = some o:=⟨_,List.getElem?_eq_getElem (by omega)⟩
 have hqx:q.x = yaV z o:=by
  have e:(L.map (·.x))[z]? = some q.x:=by rw [List.getElem?_map,hq]; rfl
  rw [hLx,yjD,ho] at e
  simp at e
  exact e.symm
 have hrx:(yyO (br0 4) P)[z]? = some r.x:=by rw [← hRx,List.getElem?_map,hr]; rfl
 have hqm:=List.mem_of_getElem? hq
 have hrm:=List.mem_of_getElem? hr
 have hmem:∀ e ∈ evV ((L.zip reps).take z) ++ yaM q :: yhD q r :: evV ((L.zip reps).drop (z + 1)),EvAt w8 e ∧ s64 e.x.c:=fun e he => by
  rcases List.mem_append.1 he with he | he
  ·exact evO N8' (fun p hp => List.mem_of_mem_take hp) e he
  ·rcases List.mem_cons.1 he with rfl | he
   ·exact ⟨yg6 ((hLO2 _ hqm).keep0 N8'),hLc _ hqm⟩
   ·rcases List.mem_cons.1 he with rfl | he
    ·have hra:=(hRO r hrm).keep0 N8'
     exact ⟨⟨(yp0 w8 0).at,⟨hra.found,hra.parts,hra.lf,hra.lp⟩⟩,hLc _ hqm⟩
    ·exact evO N8' (fun p hp => List.mem_of_mem_drop hp) e he
 have hlen8:(evV ((L.zip reps).take z) ++ yaM q :: yhD q r :: evV ((L.zip reps).drop (z + 1))).length ≤ 1000:=by
  rw [List.length_append,List.length_cons,List.length_cons,yiG,yiG,List.length_take,List.length_drop]; omega
 have F2:=hFirst (s:=⟨a10,n10,c10⟩) (hCA2.keep0 N8') (hE8.sl EV.cs_len) hmem hlen8
 have hne:(yhD q r).x.r ≠ r.x:=fun e => yDN r.x.gen (congrArg PRep.gen e)
 have hbad:=yH7 (l:=P) (R:=yyO (br0 4) P) (by rw [yjC]) (by omega) ho hrx hne (evP (((L.zip reps).drop (z + 1)).map fun p => (p.1.x,p.2.x)))
 have hev:(evV ((L.zip reps).take z) ++ yaM q :: yhD q r :: evV ((L.zip reps).drop (z + 1))).map (·.x) = evP (((yhN 0 P).zip (yyO (br0 4) P)).take z) ++ ynG (yaV z o) :: yk9 (yaV z o) (yhD q r).x.r :: evP (((L.zip reps).drop (z + 1)).map fun p => (p.1.x,p.2.x)):=by
  rw [List.map_append,List.map_cons,List.map_cons,yrO,yrO,List.map_take,hZx,← hqx]
  rfl
 rw [hev,hbad,hn5] at F2
 refine F2.mono fun e9 w9 h9 => ?_
 obtain ⟨he9,M9⟩:=h9
 subst he9
 refine ⟨_,rfl,yaG.of M9 (fun b hb _ hb' => by simp at hb'),brT (by simp) ?_⟩
 refine (yoW w9).mono ?_
 rintro _ w10 ⟨rfl,M10⟩
 have K:=M9.go0 M10 (by simp)
 have K2:=(N2.go0 N8' (by simp)).go0 K (by simp)
 refine ⟨true,rfl,yaG.of M10 (fun b hb _ hb' => by simp at hb'),?_⟩
 exact ⟨rfl,K2⟩
end Go.Proofs.YtkepmmocldnnfaaGreat
namespace Go.Proofs.YtkepmmocldnnfaaGreat.historyOne
open Go.ChangeShapes Go.WideShapes Go.ChangeAt Go.RowKit
open Go.ChangeMaps (open_string shut_string)
set_option linter.unusedVariables false
theorem own:ownKnob Tryz.prog.godebug = none:=by kernel_rfl
theorem laidOut:laidOutB Tryz.prog = true:=by kernel_rfl
set_option maxRecDepth 100000 in
theorem lifted (os:Os) (started:os.Started) (H:Type) (enc:TypeId × Value → H) :
    ReturnsInHanded {} Tryz.checked os 3 .any (Rows.historyOneSpec.pre6 enc Tryz.prog Tryz.f3 Rows.historyOneRow.domain false) (Rows.historyOneSpec.post enc Tryz.prog Tryz.f3 false true false false):=by
  refine returnsInHanded_of_change (C:=Tryz.checked) own started (by kernel_rfl) Tryz.func3
    (ChangeSpec.witness6 (enc:=enc) (C:=Tryz.checked) false ⟨#[],#[.slice none 0 0,.int .i64 0],[]⟩ 8 (by kernel_rfl) (by kernel_rfl) (by kernel_rfl) (by kernel_rfl)) ?_
  intro W base args ds gs before hval0 hW hcnd _
  have hval:∀ (j:Nat) t v,Tryz.f3.params[j]? = some t → args[j]? = some v → Value.okWide Tryz.prog W .any base t v:=hval0
  have hW':=hW
  obtain ⟨p,q,hA0,hV,rfl,hfz,hnd⟩:=hW
  have hA:DataW.TrodAll enc Tryz.prog W 0 (fun _ => true) true Tryz.f3.params.toList args.toList ds p:=hA0
  rw [Tryz.params3] at hA hval
  obtain ⟨v0,vs0,d0,ds0,p0,q0,hargs,rfl,rfl,h0,r0⟩:=trodAll_cons hA
  obtain ⟨v1,vs1,d1,ds1,p1,q1,rfl,rfl,rfl,h1,r1⟩:=trodAll_cons r0
  obtain ⟨rfl,rfl,rfl⟩:=trodAll_nil r1
  obtain rfl:args = #[v0,v1]:=by cases args; simp_all
  obtain ⟨rfl,rfl⟩:=trodVars_none hV
  have k0:=h0
  have lt0:∀ x ∈ p0,x.block < W.heap.size:=by obtain ⟨m,hm⟩:=k0; exact DataW.trod_lt m _ _ _ hm
  have k1:=h1
  have lt1:∀ x ∈ p1,x.block < W.heap.size:=by obtain ⟨m,hm⟩:=k1; exact DataW.trod_lt m _ _ _ hm
  obtain ⟨b0,len0,cap0,rfl⟩:=okWide_slice Tryz.underlying22 (hval 0 22 v0 rfl rfl)
  obtain ⟨fuel0,hf0⟩:=h0
  obtain ⟨b0',len0',cap0',l0,e0,s0,g0,u0,c0⟩:=(yGM hf0).slice_inv Tryz.underlying22 (yJq W)
  simp [Value.cells] at e0
  obtain ⟨rfl,rfl,rfl⟩:=e0
  rw [show Tryz.prog.cellsOf 32 = 14 by kernel_rfl] at s0
  obtain ⟨a1,rfl,_,_,w1⟩:=open_int Tryz.underlying3 (hval 1 3 v1 rfl rfl) h1
  clear hA0 hval0
  refine ((yIb (kk:=a1) s0 g0 (by omega))).mono fun e W' ⟨he,hM⟩ => ?_
  have bel:Below W.heap.size W W':=hM.below (by simp)
  subst he
  exact ⟨_,rfl,_,_,_,[],_,[],hW',trodAll_mk1 (shut_bool Tryz.underlying4 _),(trodAll_cons_mk (Below.trod laidOut (by kernel_rfl) (of_decide_eq_true (by kernel_rfl)) k0 bel lt0) (trodAll_cons_mk (Below.trod laidOut (by kernel_rfl) (of_decide_eq_true (by kernel_rfl)) k1 bel lt1) trodAll_mk0)),rfl,bel.frame _,fun h => by cases h⟩
theorem j0:(Rows.historyOneRow.wf (OpenSpec.ofChange Rows.historyOneSpec)) = true:=by kernel_rfl
theorem j1:(laidOutB Tryz.prog) = true:=by kernel_rfl
theorem j2:(mapsRowed Tryz.prog) = true:=by kernel_rfl
theorem j3:(Tryz.f3.params.all (Tryz.prog.readableRec ·)) = true:=by kernel_rfl
theorem j4:(namedTie Tryz.prog Rows.historyOneRow.named Rows.historyOneSpec.vars) = true:=by kernel_rfl
theorem j5:((Rows.historyOneRow.stops == [])) = true:=by kernel_rfl
theorem j6:((Tryz.prog.stops == [])) = true:=by kernel_rfl
theorem j7:((Rows.historyOneRow.knobs == [])) = true:=by kernel_rfl
theorem j8:((Tryz.prog.stopKnobs == [])) = true:=by kernel_rfl
theorem j9:((Rows.historyOneRow.inPlace == Tryz.prog.inPlace 3)) = true:=by kernel_rfl
theorem j10:((Rows.historyOneRow.unfollowed == Tryz.prog.unfollowed 3)) = true:=by kernel_rfl
theorem j11:((Rows.historyOneRow.recurses == Tryz.prog.recurses 3)) = true:=by kernel_rfl
theorem j12:((Rows.historyOneRow.named == Tryz.prog.varsNamed 3)) = true:=by kernel_rfl
theorem j13:((Rows.historyOneRow.maps == (Tryz.f3.params.toList ++ Rows.historyOneSpec.plain.varTypes Tryz.prog).any (Tryz.prog.mapsRec ·))) = true:=by kernel_rfl
theorem j14:((Rows.historyOneRow.ifaces == (Tryz.f3.params.toList ++ Rows.historyOneSpec.plain.varTypes Tryz.prog).any (Tryz.prog.ifacesRec ·))) = true:=by kernel_rfl
theorem j15:((Rows.historyOneRow.mapsOut == Tryz.prog.mapsAmong Tryz.f3.resultTypes.toList)) = true:=by kernel_rfl
theorem j16:((Rows.historyOneRow.loops == (Tryz.f3.params.toList ++ Rows.historyOneSpec.plain.varTypes Tryz.prog).any (Tryz.prog.loopsFrom ·))) = true:=by kernel_rfl
theorem j17:((Rows.historyOneRow.wideKeys == (Tryz.f3.params.toList ++ Rows.historyOneSpec.plain.varTypes Tryz.prog ++ Tryz.f3.resultTypes.toList).any (Tryz.prog.wideKeysFrom ·))) = true:=by kernel_rfl
theorem j18:(Rows.historyOneSpec.vars.all (Tryz.prog.varReadable ·)) = true:=by kernel_rfl
theorem j19:(Tryz.f3.resultTypes.all (fun t => Tryz.prog.readableRec t && decide (t < Tryz.prog.types.size))) = true:=by kernel_rfl
theorem j20:((Rows.historyOneRow.ifacesOut == Tryz.f3.resultTypes.toList.any (Tryz.prog.ifacesRec ·))) = true:=by kernel_rfl
theorem j21:((Rows.historyOneRow.loopsOut == Tryz.f3.resultTypes.toList.any (Tryz.prog.loopsFrom ·))) = true:=by kernel_rfl
theorem j22:((Rows.historyOneRow.plainKeys == Tryz.prog.plainKeys)) = true:=by kernel_rfl
theorem j23:(Rows.historyOneRow.shortTexts.isNone) = true:=by kernel_rfl
theorem j24:(Tryz.prog.stopsHeard) = true:=by kernel_rfl
theorem j25:(Tryz.prog.mayEnter) = true:=by kernel_rfl
theorem j26:((Rows.historyOneRow.lifted == Tryz.prog.liftsFinal)) = true:=by kernel_rfl
theorem j27:((Tryz.prog.make == some Rows.historyOneRow.make)) = true:=by kernel_rfl
theorem j28:((Rows.historyOneRow.kinds == (if Rows.historyOneRow.domain.isEmpty then [] else Tryz.f3.params.toList.map fun t => match Tryz.prog.underlying t with | some (.int k) => some k | _ => none))) = true:=by kernel_rfl
theorem j29:((Rows.historyOneRow.pinned == Rows.historyOneRow.pinnedBy)) = true:=by kernel_rfl
theorem j30:((Rows.historyOneRow.veiled == (Tryz.f3.params.toList ++ Rows.historyOneSpec.plain.varTypes Tryz.prog ++ Tryz.f3.resultTypes.toList).any (Tryz.prog.veiledRec ·))) = true:=by kernel_rfl
theorem j31:(Rows.historyOneRow.veiledFits Tryz.prog Tryz.f3.params.toList (Tryz.f3.params.toList ++ Rows.historyOneSpec.plain.varTypes Tryz.prog ++ Tryz.f3.resultTypes.toList)) = true:=by kernel_rfl
theorem yiH {a b:Bool} (h:a = true) (k:b = true):(a && b) = true:=by rw [h,k]; rfl
set_option maxRecDepth 100000 in
theorem over:Rows.historyOneRow.holds Tryz.pinned (OpenSpec.ofChange Rows.historyOneSpec) :=
  OpenClaim.holds_of_wide 3 Tryz.f3 rfl rfl rfl rfl rfl rfl rfl ⟨rfl,rfl,rfl,rfl,rfl⟩ rfl rfl rfl rfl rfl (by kernel_rfl) Tryz.func3 (by unfold joinedFacts; exact yiH (yiH (yiH (yiH (yiH (yiH (yiH (yiH (yiH (yiH (yiH (yiH (yiH (yiH (yiH (yiH (yiH (yiH (yiH (yiH (yiH (yiH (yiH (yiH (yiH (yiH (yiH (yiH (yiH (yiH (yiH j0 j1) j2) j3) j4) j5) j6) j7) j8) j9) j10) j11) j12) j13) j14) j15) j16) j17) j18) j19) j20) j21) j22) j23) j24) j25) j26) j27) j28) j29) j30) j31)
    (of_decide_eq_true (by kernel_rfl)) (by unfold Func.isWrapper; first | (rw [if_pos (by decide +kernel)]; kernel_rfl) | (rw [if_neg (by decide +kernel)]; exact ⟨rfl,rfl⟩))
    (fun os started H enc _ => lifted os started H enc)
theorem proved:Rows.HistoryOneSaid:=over
#print axioms proved
end Go.Proofs.YtkepmmocldnnfaaGreat.historyOne
