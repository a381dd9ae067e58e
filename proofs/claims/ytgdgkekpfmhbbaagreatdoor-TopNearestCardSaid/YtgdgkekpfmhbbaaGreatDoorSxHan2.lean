/- Part of a symbolic executor over the model, proved sound, with plain laws: SxHan2. Written for this claim. -/
import Derived.Test.YtgdgkekpfmhbbaaGreatDoorSxTabB
set_option linter.unusedVariables false
set_option linter.unusedSimpArgs false
namespace Go.Sx
open Go
end Go.Sx
namespace Go.Sx
section
variable {f t:bC}
end
end Go.Sx
namespace Go.Sx
section
variable {f t:bC}{bk:List UInt8}{bt:Bool}{side VU to_:Int}
end
end Go.Sx
namespace Go.Sx
open Go
structure HSt where
 rng:jl
 out:jL
 inn:jL
 took:Int
 src:Int
def hst(c:bD):HSt:=⟨c.rng,c.out,c.inn,c.took,c.src⟩
def ak3(n:Nat)(cs:Nat->HSt)(i:Nat):Prop:= ∃j:Nat,j<n∧(cs i).out.dst=(j:Int)+1∧(cs j).took=(cs i).out.serial
def ah8(n:Nat)(cs:Nat->HSt)(k:List UInt8)(p:Nat×Bool):Prop:=
 p.1<n∧(p.2=false->mY (cs p.1).rng k=true)∧(p.2=true->(cs p.1).out.serial≠0∧¬ak3 n cs p.1∧mY (cs p.1).out.rng k=true)
structure Z7 (n:Nat) (N:Int) (cs:Nat->HSt):Prop where
 one: ∀k:List UInt8,(k.length:Int)<=64-> ∃p,ah8 n cs k p∧∀q,ah8 n cs k q->q=p
 ex1: ∀i,i<n->(cs i).out.serial≠0->(cs i).inn.serial=0∧(cs i).took=0
 ex2: ∀i,i<n->(cs i).inn.serial≠0->(cs i).took=0
 out: ∀i:Nat,i<n->(cs i).out.serial≠0->(cs i).out.src=(i:Int)+1∧(cs i).out.serial<=N
 tk: ∀i,i<n->(cs i).took<=N
 inn: ∀i:Nat,i<n->(cs i).inn.serial≠0->(cs i).inn.dst=(i:Int)+1∧∃m:Nat,m<n∧(cs i).inn.src=(m:Int)+1∧(cs m).out=(cs i).inn
 took: ∀i j:Nat,i<n->j<n->(cs i).out.serial≠0->(cs i).out.serial=(cs j).took->(cs i).out.dst=(j:Int)+1∧(cs j).src=(i:Int)+1
 uniq: ∀i j,i<n->j<n->(cs i).out.serial≠0->(cs i).out.serial=(cs j).out.serial->i=j
theorem Z7.mono{n:Nat}{N M:Int}{cs:Nat->HSt}(h:Z7 n N cs)(hm:N<=M):Z7 n M cs:=
 ⟨h.one,h.ex1,h.ex2,fun i hi ho=>⟨(h.out i hi ho).1,by have:=(h.out i hi ho).2;omega⟩,fun i hi=>by have:=h.tk i hi;omega,h.inn,h.took,h.uniq⟩
section
variable {n:Nat}{N:Int}{cs:Nat->HSt}{i:Nat}
end
end Go.Sx
namespace Go.Sx
open Go
theorem low_mono{k:List UInt8}{a b:dQ}(h:aV a.1 a.2 b.1 b.2<=0)(hk:aV k false a.1 a.2<0):aV k false b.1 b.2<0:=by
 rw[Rj]at hk⊢
 rw[DW]at h
 refine⟨rfl,?_⟩
 rcases h with h|⟨h1,h2⟩
 ·exact .inl h
 ·rcases hk.2 with h3|h3
  ·rw[h1]at h3;cases h3
  ·cases h4:Op.bytesLess k b.1 with
   |true=>exact .inr rfl
   |false=>
    by_cases e:k=b.1
    ·rw[<-e]at h2;rw[h2]at h3;cases h3
    ·have:=jy (Hq h4 e) h3
     rw[h2]at this;cases this
theorem kF{a b c:dQ}(h1:aV a.1 a.2 b.1 b.2<=0)(h2:aV b.1 b.2 c.1 c.2<=0):aV a.1 a.2 c.1 c.2<=0:=by
 rw[DW]at*
 rcases h2 with h2|⟨h2,h3⟩
 ·exact .inl h2
 ·rcases h1 with h1|⟨h1,h4⟩
  ·rw[h2]at h1;cases h1
  ·cases hc:c.2 with
   |true=>exact .inl rfl
   |false=>
    refine .inr ⟨h1,?_⟩
    cases h5:Op.bytesLess c.1 a.1 with
    |false=>rfl
    |true=>
     by_cases e:c.1=b.1
     ·rw[e]at h5;rw[h4]at h5;cases h5
     ·have:=jy (Hq h3 e) h5
      rw[h4]at this;cases this
def gB(a b:dQ):jl:=(a.1,a.2,b.1,b.2)
theorem uG{a b:dQ}:iM (gB a b)=true↔aP a.1 a.2=true∧aP b.1 b.2=true∧aV a.1 a.2 b.1 b.2<=0:=by
 show mJ a.1 a.2 b.1 b.2=true↔_
 simp only[mJ,Bool.and_eq_true,decide_eq_true_eq,and_assoc]
theorem sO{a b:dQ}{k:List UInt8}(hv:iM (gB a b)=true):mY (gB a b) k=true↔(k.length:Int)<=64∧¬aV k false a.1 a.2<0∧aV k false b.1 b.2<0:=by
 have hv':mJ a.1 a.2 b.1 b.2=true:=hv
 show fF a.1 a.2 b.1 b.2 k=true↔_
 simp only[fF,eH,hv',Bool.not_true,Bool.false_or,Bool.and_eq_true,Bool.not_eq_true',beq_eq_false_iff_ne,ne_eq,decide_eq_true_eq]
 rw[LK]
 constructor
 ·rintro⟨⟨⟨_,h1⟩,h2⟩,h3⟩;exact⟨h1,h2,h3⟩
 ·rintro⟨h1,h2,h3⟩
  refine⟨⟨⟨fun h0=> ?_,h1⟩,h2⟩,h3⟩
  obtain⟨g1,g2,_⟩:=uG.1 hv
  have:=cmp_eq (a:=a) (b:=b) g1 g2 h0
  subst this
  exact h2 h3
theorem xQ{a b c:dQ}{k:List UInt8}(h1:iM (gB a b)=true)(h2:iM (gB b c)=true):(mY (gB a c) k=true↔mY (gB a b) k=true∨mY (gB b c) k=true)∧¬(mY (gB a b) k=true∧mY (gB b c) k=true):=by
 obtain⟨g1,g2,g3⟩:=uG.1 h1
 obtain⟨_,g5,g6⟩:=uG.1 h2
 have h3:iM (gB a c)=true:=uG.2 ⟨g1,g5,kF g3 g6⟩
 rw[sO h1,sO h2,sO h3]
 refine⟨⟨?_,?_⟩,?_⟩
 ·rintro⟨l1,l2,l3⟩
  by_cases e:aV k false b.1 b.2<0
  ·exact .inl ⟨l1,l2,e⟩
  ·exact .inr ⟨l1,e,l3⟩
 ·rintro(⟨l1,l2,l3⟩|⟨l1,l2,l3⟩)
  ·exact⟨l1,l2,low_mono g6 l3⟩
  ·exact⟨l1,fun h=>l2 (low_mono g3 h),l3⟩
 ·rintro⟨⟨_,_,l1⟩,_,l2,_⟩;exact l2 l1
abbrev bD.lo(c:bD):dQ:=(c.lk,c.lt)
abbrev bD.hi(c:bD):dQ:=(c.hk,c.ht)
abbrev jL.lo(p:jL):dQ:=(p.lk,p.lt)
abbrev jL.hi(p:jL):dQ:=(p.hk,p.ht)
theorem akS{c:bD}:c.rng=gB c.lo c.hi:=rfl
structure Cn (c:bD):Prop where
 v:gJ c=true
 small:D8 c
 out:c.out.serial=0->c.out=jh
 inn:c.inn.serial=0->c.inn=jh
structure WfN (i:Nat) (g:bC):Prop where
 num:g.num=(i:Int)+1
 n1:1<=g.mem.length
 n5:g.mem.length<=5
 uniq:Uniq g.mem
 all: ∀m∈g.mem,Cn m.copy
 up: ∃p,p<g.mem.length∧(g.mem.getD p default).up=true
def afA(g:bC):Prop:=g.opn=true-> ∀p,p<g.mem.length->(g.mem.getD p default).up=true->hst (g.mem.getD p default).copy=hst (pW g).copy
def Yx(g h:bC):Prop:= ∀p,p<h.mem.length->(h.mem.getD p default).up=true-> ∃q,q<g.mem.length∧(g.mem.getD q default).up=true∧hst (h.mem.getD p default).copy=hst (g.mem.getD q default).copy
theorem Yx.refl(g:bC):Yx g g:=fun p hp hu=>⟨p,hp,hu,rfl⟩
theorem Yx.trans{g h k:bC}(h1:Yx g h)(h2:Yx h k):Yx g k:=fun p hp hu=>by
 obtain⟨q,hq,hqu,e⟩:=h2 p hp hu
 obtain⟨r,hr,hru,e2⟩:=h1 q hq hqu
 exact⟨r,hr,hru,e.trans e2⟩
theorem WfN.at{i:Nat}{g:bC}(h:WfN i g){p:Nat}(hp:p<g.mem.length):Cn (g.mem.getD p default).copy:=h.all _ (getD_mem hp)
theorem WfN.own{i:Nat}{g:bC}(h:WfN i g):Cn (pW g).copy:=h.at (p:=0) (by have:=h.n1;omega)
theorem WfN.b{i:Nat}{g:bC}(h:WfN i g):MP 1000 g:=⟨by have:=h.n5;omega,fun m hm=>⟨(h.all m hm).small,by have:=F7 (h.all m hm).v;unfold I64;omega⟩⟩
structure Z4 (i:Nat) (g h:bC):Prop where
 wf:WfN i h
 oeq:afA h
 sub:Yx g h
theorem Z4.trans{i:Nat}{g h k:bC}(h1:Z4 i g h)(h2:Z4 i h k):Z4 i g k:=⟨h2.wf,h2.oeq,h1.sub.trans h2.sub⟩
section
variable {i:Nat}{g:bC}
end
end Go.Sx
namespace Go.Sx
open Go
def ChN(gs:List bC)(cs:Nat->HSt):Prop:= ∀i,i<gs.length-> ∃p,p<(gs.getD i default).mem.length∧((gs.getD i default).mem.getD p default).up=true∧cs i=hst ((gs.getD i default).mem.getD p default).copy
structure afB (N:Int) (gs:List bC):Prop where
 N0:0<=N
 wf: ∀i,i<gs.length->WfN i (gs.getD i default)
 oeq: ∀i,i<gs.length->afA (gs.getD i default)
 good: ∀cs,ChN gs cs->Z7 gs.length N cs
theorem afB.ch{N:Int}{gs:List bC}(h:afB N gs): ∃cs,ChN gs cs:=by
 have: ∀i,∃s:HSt,i<gs.length-> ∃p,p<(gs.getD i default).mem.length∧((gs.getD i default).mem.getD p default).up=true∧s=hst ((gs.getD i default).mem.getD p default).copy:=by
  intro i
  by_cases hi:i<gs.length
  ·obtain⟨p,hp,hu⟩:=(h.wf i hi).up
   exact⟨_,fun _=>⟨p,hp,hu,rfl⟩⟩
  ·exact⟨hst default,fun h=>absurd h hi⟩
 exact⟨fun i=>(this i).choose,fun i hi=>(this i).choose_spec hi⟩
theorem ah2{c:bD}(h:iM c.rng=true):iM (gB c.lo c.hi)=true:=h
section
variable {N:Int}{gs:List bC}{i j:Nat}
end
theorem afB.mono{N M:Int}{gs:List bC}(h:afB N gs)(hm:N<=M):afB M gs:=⟨by have:=h.N0;omega,h.wf,h.oeq,fun cs hc=>(h.good cs hc).mono hm⟩
end Go.Sx
namespace Go.Sx
open Go
structure Ea (T0:List Row) (c:bD) (a b:dQ):Prop where
 v:gJ c=true
 small:D8 c
 lo:c.lo=a
 hi:c.hi=b
 ne:aK c.rng=false
 pend:c.pend=[]
 out:c.out=jh
 inn:c.inn=jh
 took:c.took=0
 src:c.src=0
 se:0<=c.se∧c.se<=5
 sv:0<=c.sv∧c.sv<=1
 rows:c.rows=dw T0 (gB a b)
structure D_ (T0:List Row) (i:Nat) (g:bC) (a b:dQ):Prop where
 num:g.num=(i:Int)+1
 opn:g.opn=true
 n1:1<=g.mem.length
 n3:g.mem.length<=3
 uniq:Uniq g.mem
 up: ∀m∈g.mem,m.up=true
 ids: ∀m∈g.mem,gQ m.id=true
 same: ∀m∈g.mem,m.copy=(pW g).copy
 c:Ea T0 (pW g).copy a b
structure ZT (T0:List Row) (gs:List bC) (bs:Nat->dQ):Prop where
 b0:bs 0=([],false)
 all: ∀i,i<gs.length->D_ T0 i (gs.getD i default) (bs i) (bs (i+1))
theorem ZT.vr{T0:List Row}{gs:List bC}{bs:Nat->dQ}(h:ZT T0 gs bs){i:Nat}(hi:i<gs.length):iM (gB (bs i) (bs (i+1)))=true:=by
 have hc:=(h.all i hi).c
 rw[<-hc.lo,<-hc.hi]
 exact ah2 (uF hc.v).1
theorem ZT.mono{T0:List Row}{gs:List bC}{bs:Nat->dQ}(h:ZT T0 gs bs){i:Nat}: ∀{d:Nat},i+d<=gs.length->aV (bs i).1 (bs i).2 (bs (i+d)).1 (bs (i+d)).2<=0
 |0,_=>by rw[Nat.add_zero,iH];omega
 |d+1,hd=>by
  have h1:=h.mono (i:=i) (d:=d) Om
  have h2:=(uG.1 (h.vr (i:=i+d) Om)).2.2
  exact kF h1 h2
theorem Ea.cn{T0:List Row}{c:bD}{a b:dQ}(h:Ea T0 c a b):Cn c:=⟨h.v,h.small,fun _=>h.out,fun _=>h.inn⟩
theorem D_.at{T0:List Row}{i:Nat}{g:bC}{a b:dQ}(h:D_ T0 i g a b){p:Nat}(hp:p<g.mem.length):(g.mem.getD p default).up=true∧(g.mem.getD p default).copy=(pW g).copy:=⟨h.up _ (getD_mem hp),h.same _ (getD_mem hp)⟩
theorem D_.wf{T0:List Row}{i:Nat}{g:bC}{a b:dQ}(h:D_ T0 i g a b):WfN i g:=
 ⟨h.num,h.n1,by have:=h.n3;omega,h.uniq,fun m hm=>by rw[h.same m hm];exact h.c.cn,0,h.n1,(h.at h.n1).1⟩
theorem D_.st{T0:List Row}{i:Nat}{g:bC}{a b:dQ}(h:D_ T0 i g a b){p:Nat}(hp:p<g.mem.length):hst (g.mem.getD p default).copy=⟨gB a b,jh,jh,0,0⟩:=by
 rw[(h.at hp).2]
 unfold hst
 rw[h.c.out,h.c.inn,h.c.took,h.c.src,akS,h.c.lo,h.c.hi]
end Go.Sx
namespace Go.Sx
open Go
theorem Later.trans{a b c:gV}(h1:Later a b)(h2:Later b c):Later a c:=by
 unfold Later at*
 rcases h1 with h1|h1|rfl
 ·rcases h2 with h2|h2|rfl
  ·exact .inl Om
  ·exact .inl Om
  ·exact .inl h1
 ·rcases h2 with h2|h2|rfl
  ·exact .inl Om
  ·exact .inr (.inl Om)
  ·exact .inr (.inl h1)
 ·exact h2
theorem Later.se{a b:gV}(h:Later a b):a.se<=b.se:=by
 rcases h with h|h|rfl<;>omega
def ah5(g:bC):Prop:=g.opn=true-> ∀p,p<g.mem.length->(g.mem.getD p default).up=true->(g.mem.getD p default).copy.se=(pW g).copy.se
def Own3(g h:bC):Prop:=
 (g.opn=true∧h.opn=true∧(pW g).up=true∧hst (pW g).copy=hst (pW h).copy∧Later (yA (pW g)) (yA (pW h)))∨
 (g.opn=false∧(pW g).up=true∧hst (pW g).copy=hst (pW h).copy∧(pW g).copy.se<=(pW h).copy.se)∨
 (∃q,q<g.mem.length∧(g.mem.getD q default).up=true∧hst (g.mem.getD q default).copy=hst (pW h).copy∧(g.mem.getD q default).copy.se<(pW h).copy.se)
structure Pz (g h:bC):Prop where
 s1:ah5 g->ah5 h
 mem: ∀p,p<h.mem.length->(h.mem.getD p default).up=true-> ∃q,q<g.mem.length∧(g.mem.getD q default).up=true∧hst (g.mem.getD q default).copy=hst (h.mem.getD p default).copy∧(g.mem.getD q default).copy.se<=(h.mem.getD p default).copy.se
 own:(pW h).up=true->Own3 g h
theorem Pz.trans{g h k:bC}(h1:Pz g h)(h2:Pz h k):Pz g k:=by
 refine⟨fun h=>h2.s1 (h1.s1 h),fun p hp hu=> ?_,fun hu=> ?_⟩
 ·obtain⟨q,a1,a2,a3,a4⟩:=h2.mem p hp hu
  obtain⟨r,b1,b2,b3,b4⟩:=h1.mem q a1 a2
  exact⟨r,b1,b2,b3.trans a3,Om⟩
 ·rcases h2.own hu with⟨a1,a2,a3,a4,a5⟩|⟨a1,a2,a3,a4⟩|⟨q,a1,a2,a3,a4⟩
  ·have hse:=a5.se
   simp only[yA]at hse
   rcases h1.own a3 with⟨b1,b2,b3,b4,b5⟩|⟨b1,b2,b3,b4⟩|⟨q,b1,b2,b3,b4⟩
   ·exact .inl ⟨b1,a2,b3,b4.trans a4,b5.trans a5⟩
   ·exact .inr (.inl ⟨b1,b2,b3.trans a4,Om⟩)
   ·exact .inr (.inr ⟨q,b1,b2,b3.trans a4,Om⟩)
  ·rcases h1.own a2 with⟨b1,b2,b3,b4,b5⟩|⟨b1,b2,b3,b4⟩|⟨q,b1,b2,b3,b4⟩
   ·rw[a1]at b2;cases b2
   ·exact .inr (.inl ⟨b1,b2,b3.trans a3,Om⟩)
   ·exact .inr (.inr ⟨q,b1,b2,b3.trans a3,Om⟩)
  ·obtain⟨r,b1,b2,b3,b4⟩:=h1.mem q a1 a2
   exact .inr (.inr ⟨r,b1,b2,b3.trans a3,Om⟩)
theorem aaS{g h:bC}(ho:h.opn=g.opn)(hu:(pW g).up=true)(hs:hst (pW g).copy=hst (pW h).copy)(hl:Later (yA (pW g)) (yA (pW h))):Own3 g h:=by
 cases e:g.opn with
 |true=>exact .inl ⟨e,by rw[ho,e],hu,hs,hl⟩
 |false=>exact .inr (.inl ⟨e,hu,hs,by have:=hl.se;simpa only[yA]using this⟩)
section
variable {i:Nat}{g:bC}
theorem Pz.refl(g:bC):Pz g g:=⟨id,fun p hp hu=>⟨p,hp,hu,rfl,Int.le_refl _⟩,fun hu=>aaS rfl hu rfl (.inr (.inr rfl))⟩
end
end Go.Sx
namespace Go.Sx
open Go
section
variable {n:Nat}{cs:Nat->HSt}{i j:Nat}{k:List UInt8}
end
section
variable {N:Int}{gs:List bC}{i j:Nat}
end
end Go.Sx
namespace Go.Sx
open Go
structure afJ (T0:List Row) (B:Int) (c:bD):Prop where
 rows: ∀r,r∈c.rows↔r∈T0∧mY c.rng r.1=true
 out:c.out.serial≠0-> ∀r,r∈c.out.rows↔r∈T0∧mY c.out.rng r.1=true
 inn:c.inn.serial≠0-> ∀r,r∈c.inn.rows↔r∈T0∧mY c.inn.rng r.1=true
 pend:c.pend=[]
 se:c.se<=B
 oe:c.out.serial≠0->c.out.se<=B
 ie:c.inn.serial≠0->c.inn.se<=B
 sv:c.sv<=1
theorem afJ.mono{T0:List Row}{B B':Int}{c:bD}(h:afJ T0 B c)(hb:B<=B'):afJ T0 B' c:=
 ⟨h.rows,h.out,h.inn,h.pend,by have:=h.se;omega,fun h0=>by have:=h.oe h0;omega,fun h0=>by have:=h.ie h0;omega,h.sv⟩
def VT(P:bD->Prop)(g:bC):Prop:= ∀m∈g.mem,P m.copy
theorem VT.at{P:bD->Prop}{g:bC}(h:VT P g){p:Nat}(hp:p<g.mem.length):P (g.mem.getD p default).copy:=h _ (getD_mem hp)
theorem VT.imp{P Q:bD->Prop}{g:bC}(h:VT P g)(hq: ∀c,P c->Q c):VT Q g:=fun m hm=>hq _ (h m hm)
theorem VT.set{P:bD->Prop}{g:bC}{p:Nat}{x:jF}(h:VT P g)(hx:P x.copy):VT P {g with mem:=g.mem.set p x}:=fun m hm=>by
 rcases List.mem_or_eq_of_mem_set hm with hm|rfl
 ·exact h m hm
 ·exact hx
theorem BK{rows:List Row}{r:jl}{x:Row}:x∈dw rows r↔x∈rows∧mY r x.1=true:=by
 unfold dw iJ
 rw[List.mem_filter]
 exact Iff.rfl
section
variable {T0:List Row}{B:Int}{g f t:bC}{i:Nat}
end
end Go.Sx
namespace Go.Sx
open Go
theorem SH{x:Row}{l:List Row}(h:Sorted (x::l)):Sorted l∧∀y∈l,Op.bytesLess x.1 y.1=true:=by
 have:=List.pairwise_cons.1 h
 exact⟨this.2,this.1⟩
theorem r_{a b c:dQ}(h1:iM (gB a b)=true)(h2:iM (gB b c)=true): ∀{T:List Row},Sorted T->dw T (gB a b)++dw T (gB b c)=dw T (gB a c)
 |[],_=>rfl
 |x::l,hs=>by
  obtain⟨hs1,hs2⟩:=SH hs
  have ih:=r_ h1 h2 hs1
  obtain⟨s1,s2⟩:=xQ (k:=x.1) h1 h2
  have hc: ∀(r:jl)(l:List Row),dw (x::l) r=if mY r x.1=true then x::dw l r else dw l r:=fun r l=>by
   unfold dw iJ
   rw[List.filter_cons]
   rfl
  rw[hc,hc,hc]
  by_cases e1:mY (gB a b) x.1=true
  ·rw[if_pos e1,if_neg (fun e=>s2 ⟨e1,e⟩),if_pos (s1.2 (.inl e1)),List.cons_append,ih]
  ·by_cases e2:mY (gB b c) x.1=true
   ·have hn:dw l (gB a b)=[]:=by
     unfold dw iJ
     rw[List.filter_eq_nil_iff]
     intro y hy hh
     obtain⟨_,k1,_⟩:=(sO h2).1 e2
     obtain⟨_,_,k2⟩:=(sO h1).1 hh
     exact k1 (Vk (hs2 y hy) k2)
    rw[if_neg e1,if_pos e2,if_pos (s1.2 (.inr e2)),<-ih,hn]
    rfl
   ·rw[if_neg e1,if_neg e2,if_neg (fun e=>(s1.1 e).elim e1 e2),ih]
theorem H7{T:List Row}{r s:jl}(h: ∀k,mY s k=true->mY r k=true):dw (dw T r) s=dw T s:=by
 show List.filter _ (List.filter _ T)=List.filter _ T
 rw[List.filter_filter]
 refine List.filter_congr fun x _=> ?_
 have:=h x.1
 show(mY s x.1&&mY r x.1)=mY s x.1
 cases e:mY s x.1 with
 |false=>rfl
 |true=>rw[this e];rfl
theorem oZ{T:List Row}{r:jl}(h:iW T):iW (dw T r):=
 ⟨Nat.le_trans Gj h.len,fun x hx=>h.ok x (BK.1 hx).1,h.sorted.filter _⟩
theorem Aa{T:List Row}{r:jl}:qj r (dw T r)=true:=BN.2 fun _ hx=>(BK.1 hx).2
structure UfG (g:bC) (c:bD):Prop where
 opn:g.opn=true
 n1:1<=g.mem.length
 uniq:Uniq g.mem
 up: ∀m∈g.mem,m.up=true
 same: ∀m∈g.mem,m.copy=c
section
variable {g:bC}{c c0:bD}
theorem UfG.own(h:UfG g c):bV g=(pW g,true):=adn h.n1 (h.up _ (getD_mem (by have:=h.n1;omega)))
theorem UfG.copy(h:UfG g c):(bV g).1.copy=c:=by rw[h.own];exact h.same _ (getD_mem (by have:=h.n1;omega))
end
structure ak6 (T0:List Row) (a b c d:bD) (rl rh ml mh:dQ):Prop where
 vc:gJ c=true
 vd:gJ d=true
 akS:c.rng=gB rl rh
 drng:d.rng=gB ml mh
 crows:c.rows=dw T0 (gB rl rh)
 drows:d.rows=dw T0 (gB ml mh)
 cp:c.pend=[]
 dp:d.pend=[]
 co:c.out=jh
 ci:c.inn=jh
 do_:d.out=jh
 di:d.inn=jh
 dt:d.took=0
 ac:a.se<c.se
 ad:a.se<d.se
 bd:b.se<d.se
end Go.Sx
namespace Go.Sx
open Go
theorem pick{a:dQ}{k:List UInt8}{t:Bool}(h: ¬aV k t a.1 a.2<0):aV a.1 a.2 k t<=0:=LK.2 h
theorem aeQ{a b:dQ}(hv:iM (gB a b)=true):aK (gB a b)=false↔¬aV a.1 a.2 b.1 b.2=0:=by
 have:mJ a.1 a.2 b.1 b.2=true:=hv
 show eH a.1 a.2 b.1 b.2=false↔_
 simp only[eH,this,Bool.not_true,Bool.false_or,beq_eq_false_iff_ne,ne_eq]
section
variable {T0:List Row}{i j:Nat}{f t:bC}{a0 a1 b0 b1:dQ}{k:List UInt8}
theorem Ea.parts{c:bD}{a b:dQ}(h:Ea T0 c a b):c.lk=a.1∧c.lt=a.2∧c.hk=b.1∧c.ht=b.2:=by
 have h1:=h.lo
 have h2:=h.hi
 rw[<-h1,<-h2]
 exact⟨rfl,rfl,rfl,rfl⟩
end
end Go.Sx
namespace Go.Sx
open Go
section
variable {T0:List Row}{i:Nat}{f:bC}{a0 a1:dQ}{c:bD}
end
theorem ak6.small{T0:List Row}{a b c d:bD}{rl rh ml mh:dQ}(h:ak6 T0 a b c d rl rh ml mh):D8 c∧D8 d:=by
 have h1:=(uF h.vc).2.2.2.2.2
 have h2:=(uF h.vd).2.2.2.2.2
 refine⟨⟨Om,Om,by rw[h.co];simp[jh],by rw[h.ci];simp[jh]⟩,Om,Om,by rw[h.do_];simp[jh],by rw[h.di];simp[jh]⟩
section
variable {T0:List Row}{i j:Nat}{f t:bC}{a0 a1 b0 b1:dQ}{k:List UInt8}
theorem Ea.vr{c:bD}{a b:dQ}(h:Ea T0 c a b):iM (gB a b)=true:=by
 have:=ah2 (uF h.v).1
 rw[h.lo,h.hi]at this
 exact this
end
end Go.Sx
namespace Go.Sx
open Go
structure dL where
 own:Int
 lk:List UInt8
 lt:Bool
 hk:List UInt8
 ht:Bool
 se:Int
 sv:Int
 rows:List Row
 pk:List UInt8
 pt:Bool
 qk:List UInt8
 qt:Bool
deriving DecidableEq
instance:Inhabited dL:=⟨⟨0,[],false,[],false,0,0,[],[],false,[],false⟩⟩
instance:Inhabited gV:=⟨⟨0,[],false,[],false,0,0,[]⟩⟩
def dD(v:dL):List D:=[.int .i64 v.own,.str v.lk,.bool v.lt,.str v.hk,.bool v.ht,.int .i64 v.se,.int .i64 v.sv,ay bF 2 v.rows,.str v.pk,.bool v.pt,.str v.qk,.bool v.qt]
def dL.rng(v:dL):jl:=(v.lk,v.lt,v.hk,v.ht)
def dL.part(v:dL):jl:=(v.pk,v.pt,v.qk,v.qt)
def vO(v:gV):jl:=(v.lk,v.lt,v.hk,v.ht)
def aS(vs:List dL):List Row:=vs.flatMap (·.rows)
def yB(v:gV):Bool:=gQ v.own&&(!(aK (vO v))&&(jP v.se v.sv&&jO (vO v) v.rows))
def sJ(dn:Bool):Int:=if dn then 4 else 3
def fitsV(dn:Bool)(v:gV)(r:jl):Bool:=
 if dn then decide (0<=aV v.hk v.ht r.2.2.1 r.2.2.2)&&decide (aV v.lk v.lt r.2.2.1 r.2.2.2<0)else decide (aV v.lk v.lt r.1 r.2.1<=0)&&decide (0<aV v.hk v.ht r.1 r.2.1)
def lg(v:gV)(r:jl):dL:=⟨v.own,v.lk,v.lt,v.hk,v.ht,v.se,v.sv,dw v.rows (gU (vO v) r),(gU (vO v) r).1,(gU (vO v) r).2.1,(gU (vO v) r).2.2.1,(gU (vO v) r).2.2.2⟩
def uM(dn:Bool)(v:gV)(r:jl):jl:=if dn then(r.1,r.2.1,(gU (vO v) r).1,(gU (vO v) r).2.1)else((gU (vO v) r).2.2.1,(gU (vO v) r).2.2.2,r.2.2.1,r.2.2.2)
def iF(r:jl):List jl:=if aK r then []else [r]
abbrev nR:=List jl×List dL
def eX(s:nR):Bool:=s.1.isEmpty|| !((aS s.2).isEmpty)
def iT(dn:Bool)(s:nR)(v:gV):nR:=
 (iF (uM dn v (s.1.headD oV)),if dn then lg v (s.1.headD oV)::s.2 else s.2++[lg v (s.1.headD oV)])
def stepW(dn:Bool)(V:List gV)(s:nR):nR:=match V.find? fun v=>fitsV dn v (s.1.headD oV)with
 |some v=>iT dn s v
 |none=>s
def Gq(dn:Bool)(V:List gV):Nat->nR->nR
 |0,s=>s
 |n+1,s=>stepW dn V (Gq dn V n s)
structure qF (rows:List Row) (c:Nat->dQ) (V:List gV):Prop where
 pos:0<V.length
 c0:c 0=([],false)
 cn:c V.length=([],true)
 ok: ∀i,i<=V.length->aP (c i).1 (c i).2=true
 lt: ∀i,i<V.length->aW (c i) (c (i+1))<0
 rng: ∀i,i<V.length->vO (V.getD i default)=gB (c i) (c (i+1))
 vr: ∀i,i<V.length->(V.getD i default).rows=dw rows (gB (c i) (c (i+1)))
 own: ∀i,i<V.length->gQ (V.getD i default).own=true
 st: ∀i,i<V.length->jP (V.getD i default).se (V.getD i default).sv=true
 tab:iW rows
theorem ad_{a b c:dQ}(h1:aW a b<=0)(h2:aW b c<0):aW a c<0:=by
 rcases Int.lt_or_le (aW a c) 0 with h|h
 ·exact h
 ·have e:=cmp_neg a c
  have h3:aW c a<=0:=Om
  have h4:aW c b<=0:=kF (a:=c) (b:=a) (c:=b) h3 h1
  have:=cmp_neg b c
  omega
theorem QH{a b c:dQ}(h1:aW a b<0)(h2:aW b c<=0):aW a c<0:=by
 rcases Int.lt_or_le (aW a c) 0 with h|h
 ·exact h
 ·have e:=cmp_neg a c
  have h3:aW c a<=0:=Om
  have h4:aW b a<=0:=kF (a:=b) (b:=c) (c:=a) h2 h3
  have:=cmp_neg a b
  omega
theorem qF.mono{rows:List Row}{c:Nat->dQ}{V:List gV}(h:qF rows c V): ∀{i j:Nat},i<=j->j<=V.length->aW (c i) (c j)<=0:=by
 intro i j hij hj
 induction j with
 |zero=>have:i=0:=Om
        subst this;exact Int.le_of_eq iH
 |succ j ih=>
  rcases Nat.lt_or_ge i (j+1)with h1|h1
  ·exact Int.le_of_lt (ad_ (ih Om Om) (h.lt j Om))
  ·have:i=j+1:=Om
   subst this;exact Int.le_of_eq iH
theorem gX{a b:dQ}(ha:aP a.1 a.2=true)(hb:aP b.1 b.2=true)(h:aW a b<=0):iM (gB a b)=true:=by
 show(aP a.1 a.2&&aP b.1 b.2&&decide (aV a.1 a.2 b.1 b.2<=0))=true
 rw[ha,hb];exact decide_eq_true h
theorem jJ{a b:dQ}(ha:aP a.1 a.2=true)(hb:aP b.1 b.2=true)(h:aW a b<0):aK (gB a b)=false:=by
 rw[aeQ (gX ha hb (Int.le_of_lt h))]
 show¬aW a b=0
 omega
theorem empty_eq{a:dQ}:aK (gB a a)=true:=by
 show(!(mJ a.1 a.2 a.1 a.2)||aV a.1 a.2 a.1 a.2==0)=true
 rw[iH];simp
theorem qF.ahc{rows:List Row}{c:Nat->dQ}{V:List gV}(h:qF rows c V){b:dQ}(hb:aW b ([],true)<0): ∃j,j<V.length∧aW (c j) b<=0∧aW b (c (j+1))<0:=by
 have h0:aW (c 0) b<=0:=by
  rw[h.c0]
  show aV [] false b.1 b.2<=0
  rw[DW]
  by_cases e:b.2=true
  ·exact .inl e
  ·exact .inr ⟨rfl,by cases b.1<;>rfl⟩
 have key: ∀n,n<=V.length->aW b (c n)<0-> ∃j,j<n∧aW (c j) b<=0∧aW b (c (j+1))<0:=by
  intro n
  induction n with
  |zero=>intro _ hn;have:=cmp_neg (c 0) b;omega
  |succ n ih=>
   intro hn hlt
   rcases Int.lt_or_le (aW b (c n)) 0 with h1|h1
   ·obtain⟨j,h2,h3⟩:=ih Om h1
    exact⟨j,Om,h3⟩
   ·have:=cmp_neg b (c n)
    exact⟨n,Om,Om,hlt⟩
 exact key V.length (Nat.le_refl _) (by rw[h.cn];exact hb)
theorem qF.ahd{rows:List Row}{c:Nat->dQ}{V:List gV}(h:qF rows c V){b:dQ}(hb:aW ([],false) b<0)(_hv:aP b.1 b.2=true): ∃j,j<V.length∧aW (c j) b<0∧0<=aW (c (j+1)) b:=by
 have hn:0<=aW (c V.length) b:=by
  rw[h.cn]
  have h1:aV b.1 b.2 [] true<=0:=by rw[DW];exact .inl rfl
  have h2:=cmp_neg b ([],true)
  have h3:aW b ([],true)<=0:=h1
  omega
 have key: ∀n,n<=V.length->0<=aW (c n) b-> ∃j,j<n∧aW (c j) b<0∧0<=aW (c (j+1)) b:=by
  intro n
  induction n with
  |zero=>intro _ hn;rw[h.c0]at hn;omega
  |succ n ih=>
   intro hn hle
   rcases Int.lt_or_le (aW (c n) b) 0 with h1|h1
   ·exact⟨n,Om,h1,hle⟩
   ·obtain⟨j,h2,h3⟩:=ih Om h1
    exact⟨j,Om,h3⟩
 exact key V.length (Nat.le_refl _) hn
end Go.Sx
namespace Go.Sx
open Go
structure FX (T:List Row) (v:dL):Prop where
 own:gQ v.own=true
 st:jP v.se v.sv=true
 ne:aK v.rng=false
 pe:aK v.part=false
 sub:aV v.lk v.lt v.pk v.pt<=0∧aV v.qk v.qt v.hk v.ht<=0
 rows:v.rows=dw T v.part
def qH(T:List Row):dQ->List dL->dQ->Prop
 |a,[],b=>a=b
 |a,v::l,b=>(v.pk,v.pt)=a∧FX T v∧qH T (v.qk,v.qt) l b
theorem LW{T:List Row}{v:dL}(hv:FX T v): ∀{l:List dL}{a:dQ},qH T a l (v.pk,v.pt)->qH T a (l++[v]) (v.qk,v.qt)
 |[],a,h=>⟨h.symm,hv,rfl⟩
 |x::l,a,h=>⟨h.1,h.2.1,LW hv h.2.2⟩
theorem FX.lt{T:List Row}{v:dL}(h:FX T v):aP v.pk v.pt=true∧aP v.qk v.qt=true∧aV v.pk v.pt v.qk v.qt<0:=pq h.pe
theorem vH{T:List Row}: ∀{l:List dL}{a b:dQ},qH T a l b->aW a b<=0
 |[],a,b,h=>by rw[show a=b from h];exact Int.le_of_eq iH
 |v::l,a,b,h=>by
  obtain⟨h1,h2,h3⟩:=h
  rw[<-h1]
  exact Int.le_of_lt (QH (a:=(v.pk,v.pt)) (b:=(v.qk,v.qt)) h2.lt.2.2 (vH h3))
theorem JD{T:List Row}{a:dQ}:dw T (gB a a)=[]:=by
 show List.filter _ T=[]
 rw[List.filter_eq_nil_iff]
 intro x _ h
 unfold fF at h
 have e:eH (gB a a).1 (gB a a).2.1 (gB a a).2.2.1 (gB a a).2.2.2=true:=empty_eq
 rw[e]at h
 simp at h
theorem vG{T:List Row}(hT:iW T): ∀{l:List dL}{a b:dQ},aP a.1 a.2=true->aP b.1 b.2=true->qH T a l b->aS l=dw T (gB a b)
 |[],a,b,_,_,h=>by rw[show a=b from h,JD];rfl
 |v::l,a,b,ha,hb,h=>by
  obtain⟨h1,h2,h3⟩:=h
  obtain⟨k1,k2,k3⟩:=h2.lt
  have ih:=vG hT k2 hb h3
  show v.rows++aS l=_
  rw[ih,h2.rows]
  have e:v.part=gB (v.pk,v.pt) (v.qk,v.qt):=rfl
  rw[e,r_ (a:=(v.pk,v.pt)) (b:=(v.qk,v.qt)) (c:=b) (gX k1 k2 (Int.le_of_lt k3)) (gX k2 hb (vH h3)) hT.sorted,h1]
def mF:dQ:=([],true)
def kG:dQ:=([],false)
theorem le_top{b:dQ}(_hb:aP b.1 b.2=true):aW b mF<=0:=by
 show aV b.1 b.2 [] true<=0
 rw[DW];exact .inl rfl
theorem bot_le{b:dQ}:aW kG b<=0:=by
 show aV [] false b.1 b.2<=0
 rw[DW]
 by_cases e:b.2=true
 ·exact .inl e
 ·exact .inr ⟨rfl,by cases b.1<;>rfl⟩
theorem lU:aP mF.1 mF.2=true:=by decide
theorem jU:aP kG.1 kG.2=true:=by decide
structure RQ (T:List Row) (dn:Bool) (k b:dQ) (s:nR):Prop where
 vb:aP b.1 b.2=true
 todo:s.1=if dn then iF (gB kG b)else iF (gB b mF)
 ch:if dn then qH T b s.2 k else qH T k s.2 b
theorem OJ{a b c d:dQ}(ha:aP a.1 a.2=true)(hb:aP b.1 b.2=true)(hc:aP c.1 c.2=true)(hd:aP d.1 d.2=true){x y:dQ}(hab:aW a b<0)(hcd:aW c d<0)(hx:x=vT a c)(hy:y=vS b d)(hxy:aW x y<0):gU (gB a b) (gB c d)=gB x y:=by
 have vx:aP x.1 x.2=true:=by rw[hx];unfold vT;split<;>assumption
 have vy:aP y.1 y.2=true:=by rw[hy];unfold vS;split<;>assumption
 have em:tV (gB a b) (gB c d)=gB x y:=by rw[hx,hy];rfl
 unfold gU
 rw[em,jJ ha hb hab,jJ hc hd hcd,jJ vx vy hxy]
 rfl
theorem abe{a b:dQ}(h:aW a b<=0)(ha:aP a.1 a.2=true)(hb:aP b.1 b.2=true):vT a b=b:=by
 unfold vT
 split
 ·rfl
 ·have:=cmp_neg a b
  exact cmp_eq ha hb Om
theorem adW{a b:dQ}(h:aW a b<=0)(_ha:aP a.1 a.2=true)(_hb:aP b.1 b.2=true):vS a b=a:=by
 unfold vS
 have:=cmp_neg a b
 rw[if_neg Om]
theorem aa_{a b:dQ}(h:0<=aW a b)(ha:aP a.1 a.2=true)(hb:aP b.1 b.2=true):vS a b=b:=by
 unfold vS
 have:=cmp_neg a b
 split
 ·rfl
 ·exact cmp_eq ha hb Om
theorem ad5{a b:dQ}(h:0<=aW a b)(_ha:aP a.1 a.2=true)(_hb:aP b.1 b.2=true):vT a b=a:=by
 unfold vT
 have:=cmp_neg a b
 rw[if_neg Om]
theorem afX{T:List Row}{c:Nat->dQ}{V:List gV}(h:qF T c V){k b:dQ}{s:nR}(ha:RQ T false k b s)(hb:aW b mF<0){j:Nat}(hj:j<V.length)(h1:aW (c j) b<=0)(h2:aW b (c (j+1))<0):
 s.1.headD oV=gB b mF∧fitsV false (V.getD j default) (gB b mF)=true∧RQ T false k (c (j+1)) (iT false s (V.getD j default))∧yB (V.getD j default)=true:=by
 have v1:=h.ok j Om
 have v2:=h.ok (j+1) Om
 have et:s.1.headD oV=gB b mF:=by
  rw[ha.todo,if_neg (by simp),iF,jJ ha.vb lU hb];rfl
 have er:=h.rng j hj
 have ei:gU (vO (V.getD j default)) (gB b mF)=gB b (c (j+1)):=by
  rw[er]
  exact OJ v1 v2 ha.vb lU (h.lt j hj) hb (abe h1 v1 ha.vb).symm (adW (le_top v2) v2 lU).symm h2
 have ef:fitsV false (V.getD j default) (gB b mF)=true:=by
  have e1:(V.getD j default).lk=(c j).1∧(V.getD j default).lt=(c j).2∧(V.getD j default).hk=(c (j+1)).1∧(V.getD j default).ht=(c (j+1)).2:=by
   simpa[vO,gB]using er
  show(decide (aV _ _ b.1 b.2<=0)&&decide (0<aV _ _ b.1 b.2))=true
  rw[e1.1,e1.2.1,e1.2.2.1,e1.2.2.2]
  have:=cmp_neg b (c (j+1))
  have h3:0<aW (c (j+1)) b:=Om
  rw[decide_eq_true (show aV (c j).1 (c j).2 b.1 b.2<=0 from h1),decide_eq_true (show 0<aV (c (j+1)).1 (c (j+1)).2 b.1 b.2 from h3)];rfl
 have hsub: ∀q,mY (gB b (c (j+1))) q=true->mY (gB (c j) (c (j+1))) q=true:=by
  intro q hq
  have w1:=gX v1 ha.vb h1
  have w2:=gX ha.vb v2 (Int.le_of_lt h2)
  exact(xQ (k:=q) w1 w2).1.2 (.inr hq)
 have hne:aK (vO (V.getD j default))=false:=by rw[er];exact jJ v1 v2 (h.lt j hj)
 have hok:FX T (lg (V.getD j default) (gB b mF)):=by
  refine⟨h.own j hj,h.st j hj,hne,?_,?_,?_⟩
  ·show aK (lg _ _).part=false
   have:(lg (V.getD j default) (gB b mF)).part=gB b (c (j+1)):=by unfold lg dL.part;rw[ei]
   rw[this];exact jJ ha.vb v2 h2
  ·have e1:(V.getD j default).lk=(c j).1∧(V.getD j default).lt=(c j).2∧(V.getD j default).hk=(c (j+1)).1∧(V.getD j default).ht=(c (j+1)).2:=by
    simpa[vO,gB]using er
   unfold lg
   rw[ei]
   simp only[e1]
   exact⟨h1,Int.le_of_eq iH⟩
  ·have:(lg (V.getD j default) (gB b mF)).part=gB b (c (j+1)):=by unfold lg dL.part;rw[ei]
   rw[this]
   unfold lg
   simp only
   rw[ei,h.vr j hj]
   exact H7 hsub
 refine⟨et,ef,⟨v2,?_,?_⟩,?_⟩
 ·show iF (uM false _ (s.1.headD oV))=_
  rw[et,if_neg (by simp)]
  unfold uM
  rw[ei];rfl
 ·rw[if_neg (by simp)]
  have hch:=ha.ch
  rw[if_neg (by simp)]at hch
  show qH T k (s.2++[lg _ (s.1.headD oV)]) _
  rw[et]
  have e2:((lg (V.getD j default) (gB b mF)).pk,(lg (V.getD j default) (gB b mF)).pt)=b:=by unfold lg;rw[ei];rfl
  have e3:((lg (V.getD j default) (gB b mF)).qk,(lg (V.getD j default) (gB b mF)).qt)=c (j+1):=by unfold lg;rw[ei];rfl
  rw[<-e3]
  exact LW hok (by rw[e2];exact hch)
 ·unfold yB
  rw[h.own j hj,hne,h.st j hj,h.vr j hj,er]
  have:=oZ (r:=gB (c j) (c (j+1))) h.tab
  simp only[Bool.not_false,Bool.true_and,jO,Aa,Bool.and_true]
  exact jf.2 this
theorem ahk{T:List Row}{c:Nat->dQ}{V:List gV}(h:qF T c V){k b:dQ}{s:nR}(ha:RQ T true k b s)(hb:aW kG b<0){j:Nat}(hj:j<V.length)(h1:aW (c j) b<0)(h2:0<=aW (c (j+1)) b):
 s.1.headD oV=gB kG b∧fitsV true (V.getD j default) (gB kG b)=true∧RQ T true k (c j) (iT true s (V.getD j default))∧yB (V.getD j default)=true:=by
 have v1:=h.ok j Om
 have v2:=h.ok (j+1) Om
 have et:s.1.headD oV=gB kG b:=by
  rw[ha.todo,if_pos rfl,iF,jJ jU ha.vb hb];rfl
 have er:=h.rng j hj
 have hbc:aW b (c (j+1))<=0:=by have:=cmp_neg b (c (j+1));omega
 have h0c:0<=aW (c j) kG:=by have:=cmp_neg kG (c j);have:=bot_le (b:=c j);omega
 have ei:gU (vO (V.getD j default)) (gB kG b)=gB (c j) b:=by
  rw[er]
  exact OJ v1 v2 jU ha.vb (h.lt j hj) hb (ad5 h0c v1 jU).symm (aa_ h2 v2 ha.vb).symm h1
 have e1:(V.getD j default).lk=(c j).1∧(V.getD j default).lt=(c j).2∧(V.getD j default).hk=(c (j+1)).1∧(V.getD j default).ht=(c (j+1)).2:=by
  simpa[vO,gB]using er
 have ef:fitsV true (V.getD j default) (gB kG b)=true:=by
  show(decide (0<=aV _ _ b.1 b.2)&&decide (aV _ _ b.1 b.2<0))=true
  rw[e1.1,e1.2.1,e1.2.2.1,e1.2.2.2]
  rw[decide_eq_true (show 0<=aV (c (j+1)).1 (c (j+1)).2 b.1 b.2 from h2),decide_eq_true (show aV (c j).1 (c j).2 b.1 b.2<0 from h1)];rfl
 have hsub: ∀q,mY (gB (c j) b) q=true->mY (gB (c j) (c (j+1))) q=true:=by
  intro q hq
  have w1:=gX v1 ha.vb (Int.le_of_lt h1)
  have w2:=gX ha.vb v2 hbc
  exact(xQ (k:=q) w1 w2).1.2 (.inl hq)
 have hne:aK (vO (V.getD j default))=false:=by rw[er];exact jJ v1 v2 (h.lt j hj)
 have ahZ:(lg (V.getD j default) (gB kG b)).part=gB (c j) b:=by unfold lg dL.part;rw[ei]
 have hok:FX T (lg (V.getD j default) (gB kG b)):=by
  refine⟨h.own j hj,h.st j hj,hne,?_,?_,?_⟩
  ·rw[ahZ];exact jJ v1 ha.vb h1
  ·unfold lg
   rw[ei]
   simp only[e1]
   exact⟨Int.le_of_eq iH,hbc⟩
  ·rw[ahZ]
   unfold lg
   simp only
   rw[ei,h.vr j hj]
   exact H7 hsub
 refine⟨et,ef,⟨v1,?_,?_⟩,?_⟩
 ·show iF (uM true _ (s.1.headD oV))=_
  rw[et,if_pos rfl]
  unfold uM
  rw[ei];rfl
 ·rw[if_pos rfl]
  have hch:=ha.ch
  rw[if_pos rfl]at hch
  show qH T _ (lg _ (s.1.headD oV)::s.2) _
  rw[et]
  have e2:((lg (V.getD j default) (gB kG b)).pk,(lg (V.getD j default) (gB kG b)).pt)=c j:=by unfold lg;rw[ei];rfl
  have e3:((lg (V.getD j default) (gB kG b)).qk,(lg (V.getD j default) (gB kG b)).qt)=b:=by unfold lg;rw[ei];rfl
  exact⟨e2,hok,by rw[e3];exact hch⟩
 ·unfold yB
  rw[h.own j hj,hne,h.st j hj,h.vr j hj,er]
  have:=oZ (r:=gB (c j) (c (j+1))) h.tab
  simp only[Bool.not_false,Bool.true_and,jO,Aa,Bool.and_true]
  exact jf.2 this
end Go.Sx
