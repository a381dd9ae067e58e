/- Part of a symbolic executor over the model, proved sound, with plain laws: SxSem. Written for this claim. -/
import Derived.Test.YtgdgkekpfmhbbaaGreatDoorSxCore
import Derived.MapKept
set_option linter.unusedVariables false
set_option linter.unusedSimpArgs false
namespace Go.Sx
open Go
structure ajy where
 b:Nat
 cap:Nat
 o:Nat
structure Loc where
 b:Nat
 cap:Nat
 rl:Nat
 sz:Nat
 o:Nat
 nk:Nat
 fam:Nat->ajy
@[simp] abbrev Oz (b cap rl sz o:Nat):Loc:=⟨b,cap,rl,sz,o,0,fun _=>⟨0,0,0⟩⟩
def bM(I:Nat->Prop)(w:World):D->Value->Prop
 | .int k n,v=>v= .int k n
 | .bool b,v=>v= .bool b
 | .str l,v=>v= .string ⟨⟨l⟩⟩
 | .val x,v=>v=x∧x.oneCell'=true
 | .list len sz get,v=> ∃a cap,v= .slice a len cap∧len<=cap∧(0<len-> ∃b o,a=some ⟨b,o,none⟩∧I b∧
    ∀i j,i<len->j<sz-> ∃u,w.cell? ⟨b,o+i*sz+j,none⟩=some u∧bM I w (get i j) u)
 | .nl len sz get,v=> ∃a cap,v= .slice (some a) len cap∧len<=cap∧(0<len-> ∃b o,a=⟨b,o,none⟩∧I b∧
    ∀i j,i<len->j<sz-> ∃u,w.cell? ⟨b,o+i*sz+j,none⟩=some u∧bM I w (get i j) u)
mutual
def aC(I:Nat->Prop)(ρ:Nat->Loc)(w:World):SV->Value->Prop
 | .d x,v=>bM I w x v
 | .ptr n off,v=>v= .pointer (some ⟨(ρ n).b,off,none⟩)
 | .qJ n sz i off,v=>(ρ n).sz=sz∧v= .pointer (some ⟨(ρ n).b,(ρ n).o+(i*sz+off),none⟩)
 | .bW n sz off len,v=>(ρ n).sz=sz∧off+len<=(ρ n).rl∧(ρ n).rl<=(ρ n).cap∧∃a,v= .slice a len ((ρ n).cap-off)∧(a=some ⟨(ρ n).b,(ρ n).o+off*sz,none⟩∨(ρ n).cap-off=0)
 | .qN sz get,v=> ∃b o,v= .pointer (some ⟨b,o,none⟩)∧I b∧∀j,j<sz-> ∃u,w.cell? ⟨b,o+j,none⟩=some u∧bM I w (get j) u
 | .agg cs,v=> ∃us,v= .agg ⟨us⟩∧aT I ρ w cs us∧∀u∈us,u.oneCell'=true
 | .cO cs,v=> ∃us,v= .tuple ⟨us⟩∧aT I ρ w cs us
 | .clo f cs,v=> ∃us,v= .func (.func f) #[] ⟨us⟩∧aT I ρ w cs us
 | .VY T cs,v=> ∃u,v= .iface T u∧aT I ρ w cs [u]
 | .mp n,v=>v= .map (some (ρ n).b)
 | .zG n k _ l,v=>k<(ρ n).nk∧l<=((ρ n).fam k).cap∧∃a,v= .slice a l ((ρ n).fam k).cap∧(a=some ⟨((ρ n).fam k).b,((ρ n).fam k).o,none⟩∨((ρ n).fam k).cap=0)
 | .uZ n k sz i off,v=>k<(ρ n).nk∧v= .pointer (some ⟨((ρ n).fam k).b,((ρ n).fam k).o+(i*sz+off),none⟩)
 | .junk,_=>True
def aT(I:Nat->Prop)(ρ:Nat->Loc)(w:World):List SV->List Value->Prop
 |[],us=>us=[]
 |c::cs,us=> ∃u r,us=u::r∧aC I ρ w c u∧aT I ρ w cs r
end
mutual
def dO(n:Nat):SV->Prop
 | .ptr m _=>m=n
 | .qJ m _ _ _=>m=n
 | .bW m _ _ _=>m=n
 | .agg cs=>jW n cs
 | .cO cs=>jW n cs
 | .clo _ cs=>jW n cs
 | .VY _ cs=>jW n cs
 | .d _=>False
 | .qN _ _=>False
 | .mp m=>m=n
 | .zG m _ _ _=>m=n
 | .uZ m _ _ _ _=>m=n
 | .junk=>False
def jW(n:Nat):List SV->Prop
 |[]=>False
 |c::cs=>dO n c∨jW n cs
end
def inB(n:Nat):bG->Prop
 | .box cs=>jW n cs
 | .arr _ cs=>jW n cs
 | .dP fn _ _ _ _=>n=fn
 | .dW fn _ _ _ _ _ _=>n=fn
 |_=>False
def Cells(I:Nat->Prop)(ρ:Nat->Loc)(w:World)(cs:List SV)(us:List Value):Prop:=aT I ρ w cs us∧∀u∈us,u.oneCell'=true
def kY(w:World)(b:Nat)(arr:Array Value)(E:Nat):Prop:= ∃fr:Nat×Nat,w.heap[b]? =some (.cells arr E fr)∧(fr.1=fr.2∨arr.size<=fr.1)
theorem kY.of{w:World}{b:Nat}{arr:Array Value}{E:Nat}(h:w.heap[b]? =some (.cells arr E (0,0))):kY w b arr E:=⟨_,h,.inl rfl⟩
theorem kY.lt{w:World}{b:Nat}{arr:Array Value}{E:Nat}(h:kY w b arr E):b<w.heap.size:=by
 obtain⟨fr,h,_⟩:=h;exact(Array.getElem?_eq_some_iff.1 h).1
theorem kY.cell{w:World}{b:Nat}{arr:Array Value}{E:Nat}(h:kY w b arr E)(o:Nat):w.cell? ⟨b,o,none⟩=arr[o]? :=by
 obtain⟨fr,h,_⟩:=h;simp[World.cell?,h]
theorem kY.congr{w w':World}{b:Nat}{arr:Array Value}{E:Nat}(h:kY w b arr E)(e:w'.heap[b]? =w.heap[b]?):kY w' b arr E:=by
 obtain⟨fr,h,k⟩:=h;exact⟨fr,by rw[e];exact h,k⟩
theorem kY.frozen{w:World}{b:Nat}{arr:Array Value}{E:Nat}(h:kY w b arr E){o:Nat}(ho:o<arr.size):w.frozen? ⟨b,o,none⟩=false:=by
 obtain⟨⟨lo,hi⟩,h,k⟩:=h
 simp only[World.frozen?,h]
 simp only at k
 by_cases h1:lo<=o
 ·by_cases h2:o<hi
  ·omega
  ·simp[h2]
 ·simp[h1]
theorem kY.set{w:World}{b:Nat}{arr cs:Array Value}{E:Nat}(h:kY w b arr E)(hs:cs.size=arr.size):kY (w.setRow b cs) b cs E:=by
 obtain⟨fr,h,k⟩:=h;exact⟨fr,setRow_heap w b _ _ E _ h,by rw[hs];exact k⟩
theorem jH{P:Program}(g o:Nat)(t:TypeId): ∀(vs:List Value)(i:Nat)(cur:Array Value)(w:World),kY w g cur t->o+i+vs.length<=cur.size->(∀v∈vs,v.oneCell'=true)->
 (storeCells ⟨g,o,none⟩ vs i).run P w= .ok () (w.setRow g (cur.toList.take (o+i)++vs++cur.toList.drop (o+i+vs.length)).toArray)
 |[],i,cur,w,⟨fr,hg,_⟩,_,_=>by
  simp only[storeCells,List.append_nil,List.length_nil,Nat.add_zero,List.take_append_drop,Array.toArray_toList]
  rw[setRow_self w g cur t fr hg]
  rfl
 |v::rest,i,cur,w,hr,hl,h1=>by
  have hi:o+i<cur.size:=by simp at hl;omega
  have hadd:(⟨g,o,none⟩:Addr).add i=⟨g,o+i,none⟩:=by unfold Addr.add;split<;>simp_all
  have hfro:=hr.frozen hi
  have hr':=hr
  obtain⟨fr,hg,hk⟩:=hr'
  have hcell:w.cell? ⟨g,o+i,none⟩=some cur[o+i]:=by simp[World.cell?,hg,hi]
  have hst:(store ((⟨g,o,none⟩:Addr).add i) v).run P w= .ok () (w.setRow g (cur.setIfInBounds (o+i) v)):=by
   rw[hadd,run_store P w _ v _ (h1 v (by simp)),hcell]
   simp[hfro,setCell_eq_setRow w g (o+i) cur t fr v hg]
  have ih:=jH (P:=P) g o t rest (i+1) (cur.setIfInBounds (o+i) v) (w.setRow g (cur.setIfInBounds (o+i) v)) (hr.set (by simp)) (by simp at hl⊢;omega) (fun x hx=>h1 x (by simp[hx]))
  simp only[storeCells,Sem.run_bind,hst,Result.andThen_ok,ih,setRow_setRow]
  congr 3
  have e:=list_seg_step cur.toList (o+i) v rest (by simp at hl⊢;omega)
  simpa[Array.toList_setIfInBounds,Nat.add_assoc]using e
structure yt (es:Array MapEntry) (clock:Nat) (kd:IntKind) (get:List UInt8->Option Int):Prop where
 stamped:MapKept.Stamped es clock
 keys: ∀e∈es.toList,∃k:List UInt8,e.key= .string ⟨⟨k⟩⟩
 has: ∀e∈es.toList,∀s:List UInt8,e.key= .string ⟨⟨s⟩⟩-> ∃d,get s=some d∧e.val= .int kd d
 all: ∀s d,get s=some d-> ∃e∈es.toList,e.key= .string ⟨⟨s⟩⟩
def kU(I:Nat->Prop)(ρ:Nat->Loc)(fn:Nat)(w:World):FC->Value->Prop
 | .d x,v=>bM I w x v
 | .fs k sz l,v=>aC I ρ w (.zG fn k sz l) v
def nS(I:Nat->Prop)(ρ:Nat->Loc)(fn:Nat)(w:World):List FC->List Value->Prop
 |[],us=>us=[]
 |c::cs,us=> ∃u r,us=u::r∧kU I ρ fn w c u∧nS I ρ fn w cs r
def lQ(ka:Bool)(kk:List IntKind)(k:List Int):Value:=
 match ka,kk,k with
 |false,i::_,n::_=> .int i n
 |_,kk,k=> .agg ⟨List.zipWith Value.int kk k⟩
def agQ(va:Bool)(us:List Value):Value:=
 match va,us with
 |false,u::_=>u
 |_,us=> .agg ⟨us⟩
structure nY (I:Nat->Prop) (ρ:Nat->Loc) (fn:Nat) (w:World) (es:Array MapEntry) (clock:Nat) (ka:Bool) (kk:List IntKind) (va:Bool) (sz:Nat) (has:List Int->Bool) (get:List Int->Nat->FC):Prop where
 stamped:MapKept.Stamped es clock
 keys: ∀e∈es.toList,∃k:List Int,k.length=kk.length∧e.key=lQ ka kk k
 ent: ∀e∈es.toList,∀k:List Int,k.length=kk.length->e.key=lQ ka kk k->has k=true∧∃us,e.val=agQ va us∧us.length=sz∧(∀j,j<sz-> ∃u,us[j]? =some u∧kU I ρ fn w (get k j) u)∧∀u∈us,u.oneCell'=true
 all: ∀k:List Int,k.length=kk.length->has k=true-> ∃e∈es.toList,e.key=lQ ka kk k
def dX(I:Nat->Prop)(ρ:Nat->Loc)(w:World)(L:Loc):bG->Prop
 | .box cs=> ∃us E,w.heap[L.b]? =some (.cells ⟨us⟩ E (0,0))∧Cells I ρ w cs us
 | .row E sz len get=>L.rl=len∧L.sz=sz∧len<=L.cap∧(0<L.cap-> ∃arr,kY w L.b arr E∧arr.size=L.o+L.cap*sz∧
    ∀i j,i<len->j<sz-> ∃u,arr[L.o+(i*sz+j)]? =some u∧bM I w (get i j) u)
 | .iter s pos=>w.heap[L.b]? =some (.stringIter ⟨⟨s⟩⟩ pos)
 | .smap kd get=> ∃es clock,w.heap[L.b]? =some (.map es clock)∧yt es clock kd get
 | .arr sz cs=>L.o=0∧L.sz=sz∧∃us E,w.heap[L.b]? =some (.cells ⟨us⟩ E (0,0))∧Cells I ρ w cs us
 | .fam nk rows=>L.nk=nk∧(∀i r,rows i=some r->i<nk∧r.len<=(L.fam i).cap∧(0<(L.fam i).cap-> ∃arr,kY w (L.fam i).b arr r.E∧arr.size=(L.fam i).o+(L.fam i).cap*r.sz∧
    ∀a j,a<r.len->j<r.sz-> ∃u,arr[(L.fam i).o+(a*r.sz+j)]? =some u∧bM I w (r.get a j) u))∧
    ∀i i' r r',rows i=some r->rows i'=some r'->0<(L.fam i).cap->0<(L.fam i').cap->(L.fam i).b=(L.fam i').b->i=i'
 | .dP fn E sz len get=>L.rl=len∧L.sz=sz∧len<=L.cap∧(0<L.cap-> ∃arr,kY w L.b arr E∧arr.size=L.o+L.cap*sz∧
    ∀i j,i<len->j<sz-> ∃u,arr[L.o+(i*sz+j)]? =some u∧kU I ρ fn w (get i j) u)
 | .dW fn ka kk va sz has get=> ∃es clock,w.heap[L.b]? =some (.map es clock)∧nY I ρ fn w es clock ka kk va sz has get
 | .gone=>True
def live(L:Loc):bG->Prop
 | .row _ _ _ _=>0<L.cap
 | .dP _ _ _ _ _=>0<L.cap
 | .fam _ _=>False
 | .gone=>False
 |_=>True
def foot(L:Loc):bG->Nat->Prop
 | .row _ _ _ _,k=>0<L.cap∧k=L.b
 | .dP _ _ _ _ _,k=>0<L.cap∧k=L.b
 | .fam _ rows,k=> ∃i r,rows i=some r∧0<(L.fam i).cap∧k=(L.fam i).b
 | .gone,_=>False
 |_,k=>k=L.b
theorem fZ{L:Loc}{b:bG}(h:live L b):foot L b L.b:=by
 cases b<;>first|rfl|exact⟨h,rfl⟩|exact h.elim
theorem UU{L:Loc}{b:bG}{k:Nat}(h:foot L b k):(live L b∧k=L.b)∨∃nk rows,b= .fam nk rows∧∃i r,rows i=some r∧0<(L.fam i).cap∧k=(L.fam i).b:=by
 cases b with
 |fam nk rows=>exact .inr ⟨nk,rows,rfl,h⟩
 |row E sz len get=>exact .inl h
 |dP fn E sz len get=>exact .inl h
 |gone=>exact h.elim
 |_=>exact .inl ⟨trivial,h⟩
structure Keep (S:Nat->Prop) (w w':World):Prop where
 os:w'.os=w.os
 tape:w'.tape=w.tape
 output:w'.output=w.output
 size:w.heap.size<=w'.heap.size
 block: ∀k,k<w.heap.size-> ¬S k->w'.heap[k]? =w.heap[k]?
 drawn:w.drawn<=w'.drawn
def GOk(G:Nat->Option (Nat×(Nat->D)))(I:Nat->Prop)(w:World):Prop:=
 ∀g sz get,G g=some (sz,get)->I g∧∀j,j<sz-> ∃u,w.cell? ⟨g,j,none⟩=some u∧bM I w (get j) u
structure Ctx where
 I0:Nat->Prop
 ρ0:Nat->Loc
 N0:Nat->Prop
 S0:Nat->Prop
 w0:World
structure Fs where
 s:Nat->Option SV
 o:Nat->Option bG
 nm:Nat->Prop
 n0:Nat->Prop
def oh:bG->Prop
 | .row _ _ _ _=>True
 | .dP _ _ _ _ _=>True
 | .fam _ _=>True
 |_=>False
def GX:bG->Prop
 | .box _=>True
 | .row _ _ _ _=>True
 | .dW _ _ _ _ _ _ _=>True
 |_=>False
def sameKind:bG->bG->Prop
 | .box _,.box _=>True
 | .row _ _ _ _,.row _ _ _ _=>True
 | .dW _ _ _ _ _ _ _,.dW _ _ _ _ _ _ _=>True
 | .row _ _ _ _,.gone=>True
 |_,_=>False
theorem sameKind.live{L:Loc}{b c:bG}(h:sameKind b c):live L c->live L b:=by
 cases b<;>cases c<;>first|exact h.elim|exact id|exact False.elim
theorem sameKind.foot{L:Loc}{b c:bG}(h:sameKind b c)(k:Nat):foot L c k->foot L b k:=by
 cases b<;>cases c<;>first|exact h.elim|exact id|exact False.elim
theorem sameKind.back{L:Loc}{b c:bG}(h:sameKind b c)(hl:Go.Sx.live L b):c= .gone∨Go.Sx.live L c:=by
 cases b<;>cases c<;>first|exact h.elim|exact .inr hl|exact .inl rfl
structure Conc (G:Nat->Option (Nat×(Nat->D))) (nt:Nat) (C:Ctx) (I:Nat->Prop) (ρ:Nat->Loc) (F:Fs) (a:Act) (w:World):Prop where
 defers:a.defers=[]
 size:a.tmps.size=nt
 slots: ∀k sv,F.s k=some sv-> ∃v,a.tmps[k]? =some v∧aC I ρ w sv v
 gK: ∀k sv n,F.s k=some sv->dO n sv->F.nm n
 own: ∀n b,F.o n=some b->dX I ρ w (ρ n) b
 fA: ∀n b m,F.o n=some b->inB m b->F.nm m
 fO: ∀n b,F.o n=some b->F.nm n
 jA: ∀n b k,F.o n=some b->foot (ρ n) b k-> ¬I k∧(C.w0.heap.size<=k∨C.S0 k)
 iE: ∀n m b c k,F.o n=some b->F.o m=some c->foot (ρ n) b k->foot (ρ m) c k->n=m
 nT: ∀b,I b->b<w.heap.size
 i0: ∀b,C.I0 b->I b
 i1: ∀b,I b->C.I0 b∨C.w0.heap.size<=b∨C.S0 b
 old: ∀n,C.N0 n->F.n0 n∧F.nm n∧ρ n=C.ρ0 n
 glob:GOk G I w
 keep:Keep C.S0 C.w0 w
theorem Conc.sep{G:Nat->Option (Nat×(Nat->D))}{nt:Nat}{C:Ctx}{I:Nat->Prop}{ρ:Nat->Loc}{F:Fs}{a:Act}{w:World}(h:Conc G nt C I ρ F a w)(n:Nat)(b:bG)(hb:F.o n=some b)(hl:live (ρ n) b): ¬I (ρ n).b∧(C.w0.heap.size<=(ρ n).b∨C.S0 (ρ n).b):=
 h.jA n b _ hb (fZ hl)
theorem Conc.inj{G:Nat->Option (Nat×(Nat->D))}{nt:Nat}{C:Ctx}{I:Nat->Prop}{ρ:Nat->Loc}{F:Fs}{a:Act}{w:World}(h:Conc G nt C I ρ F a w)(n m:Nat)(b c:bG)(hb:F.o n=some b)(hc:F.o m=some c)(hl:live (ρ n) b)(hl':live (ρ m) c)(e:(ρ n).b=(ρ m).b):n=m:=
 h.iE n m b c _ hb hc (fZ hl) (by rw[e];exact fZ hl')
def aQ(l:List (Nat×bG)):List Nat:=l.map (·.1)
def newP(pre post:List (Nat×bG)):List Nat:=(aQ post).drop pre.length
def oQ(ρ:Nat->Loc)(pre post:List (Nat×bG))(k:Nat):Prop:= ∃m c,(m,c)∈pre∧live (ρ m) c∧(ρ m).b=k∧∀b,(m,b)∈post->b= .gone
theorem oQ.nil{ρ:Nat->Loc}{post:List (Nat×bG)}{k:Nat}{p:Prop}(h:oQ ρ [] post k):p:=by obtain⟨_,_,h,_⟩:=h;cases h
structure After (I:Nat->Prop) (ρ:Nat->Loc) (w:World) (pre:List (Nat×bG)) (res:SV) (post:List (Nat×bG)) (I':Nat->Prop) (ρ':Nat->Loc) (w':World) (v:Value):Prop where
 old: ∀n,n∈aQ pre->ρ' n=ρ n
 res:aC I' ρ' w' res v
 own: ∀n b,(n,b)∈post->dX I' ρ' w' (ρ' n) b
 i0: ∀b,I b->I' b
 i1: ∀b,I' b->I b∨w.heap.size<=b∨oQ ρ pre post b
 nT: ∀b,I' b->b<w'.heap.size
 keep:Keep (fun k=> ∃n b,(n,b)∈pre∧live (ρ n) b∧(ρ n).b=k) w w'
 sep: ∀n b k,(n,b)∈post->n∈newP pre post->foot (ρ' n) b k-> ¬I' k∧(w.heap.size<=k∨oQ ρ pre post k)
 inj: ∀n m b c k,(n,b)∈post->(m,c)∈post->n∈newP pre post->m∈newP pre post->foot (ρ' n) b k->foot (ρ' m) c k->n=m
structure Spec (P:Program) (G:Nat->Option (Nat×(Nat->D))) (f:FuncId) (args:List SV) (pre:List (Nat×bG)) (res:SV) (post:List (Nat×bG)):Prop where
 keys:aQ post=aQ pre++newP pre post
 apart: ∀n,n∈newP pre post->n ∉ aQ pre
 lu: ∀n,dO n res->n∈aQ post
 jI: ∀n b m,(n,b)∈post->inB m b->m∈aQ post
 kind: ∀n b c,(n,b)∈post->(n,c)∈pre->sameKind c b
 enter: ∀(vs:Array Value)(w:World),(callFunc f vs).run P w= .ok (.enter f vs) w
 calls: ∀(w:World)(I:Nat->Prop)(ρ:Nat->Loc)(vs:List Value),aT I ρ w args vs->
  (∀n b,(n,b)∈pre->dX I ρ w (ρ n) b∧(live (ρ n) b-> ¬I (ρ n).b))->
  (∀n b m c,(n,b)∈pre->(m,c)∈pre->live (ρ n) b->live (ρ m) c->(ρ n).b=(ρ m).b->n=m)->
  (∀b,I b->b<w.heap.size)->GOk G I w->
  Calls P f ⟨vs⟩ w fun e w'=> ∃v I' ρ',e= .returned v∧After I ρ w pre res post I' ρ' w' v
theorem add_eq(b o n:Nat):(⟨b,o,none⟩:Addr).add n=⟨b,o+n,none⟩:=by
 unfold Addr.add;split<;>simp_all
def Same(I:Nat->Prop)(w w':World):Prop:= ∀b o,I b->w'.cell? ⟨b,o,none⟩=w.cell? ⟨b,o,none⟩
theorem bM.mono{I I':Nat->Prop}{w w':World}(hI: ∀b,I b->I' b)(hw:Same I w w'): ∀{x:D}{v:Value},bM I w x v->bM I' w' x v
 | .int _ _,_,h=>h
 | .bool _,_,h=>h
 | .str _,_,h=>h
 | .val _,_,h=>h
 | .list len sz get,v,h=>by
   obtain⟨a,cap,hv,hc,h⟩:=h
   refine⟨a,cap,hv,hc,fun hl=> ?_⟩
   obtain⟨b,o,ha,hb,h⟩:=h hl
   refine⟨b,o,ha,hI b hb,fun i j hi hj=> ?_⟩
   obtain⟨u,hu,hr⟩:=h i j hi hj
   exact⟨u,by rw[hw b _ hb];exact hu,bM.mono hI hw hr⟩
 | .nl len sz get,v,h=>by
   obtain⟨a,cap,hv,hc,h⟩:=h
   refine⟨a,cap,hv,hc,fun hl=> ?_⟩
   obtain⟨b,o,ha,hb,h⟩:=h hl
   refine⟨b,o,ha,hI b hb,fun i j hi hj=> ?_⟩
   obtain⟨u,hu,hr⟩:=h i j hi hj
   exact⟨u,by rw[hw b _ hb];exact hu,bM.mono hI hw hr⟩
theorem bM.agI{I:Nat->Prop}{w:World}{len sz:Nat}{get:Nat->Nat->D}{v:Value}(h:bM I w (.nl len sz get) v):bM I w (.list len sz get) v:=by
 simp only[bM]at h⊢
 obtain⟨a,cap,hv,hc,h⟩:=h
 refine⟨some a,cap,hv,hc,fun hl=> ?_⟩
 obtain⟨b,o,ha,hb,h⟩:=h hl
 exact⟨b,o,by rw[ha],hb,h⟩
theorem bM.one{I:Nat->Prop}{w:World}: ∀{x:D}{v:Value},bM I w x v->v.oneCell'=true
 | .int _ _,_,h=>by cases h;rfl
 | .bool _,_,h=>by cases h;rfl
 | .str _,_,h=>by cases h;rfl
 | .val _,_,h=>by obtain⟨rfl,h⟩:=h;exact h
 | .list _ _ _,_,h=>by obtain⟨a,cap,rfl,_⟩:=h;rfl
 | .nl _ _ _,_,h=>by obtain⟨a,cap,rfl,_⟩:=h;rfl
mutual
theorem aC.mono{I I':Nat->Prop}{ρ ρ':Nat->Loc}{w w':World}(hI: ∀b,I b->I' b)(hw:Same I w w'):
 ∀{x:SV}{v:Value},(∀n,dO n x->ρ' n=ρ n)->aC I ρ w x v->aC I' ρ' w' x v
 | .d _,_,_,h=>by simp only[aC]at h⊢;exact bM.mono hI hw h
 | .ptr n _,_,hn,h=>by simp only[aC]at h⊢;rw[hn n (by simp[dO])];exact h
 | .qJ n _ _ _,_,hn,h=>by simp only[aC]at h⊢;rw[hn n (by simp[dO])];exact h
 | .bW n _ _ _,_,hn,h=>by simp only[aC]at h⊢;rw[hn n (by simp[dO])];exact h
 | .qN sz get,_,_,h=>by
   simp only[aC]at h⊢
   obtain⟨b,o,hv,hb,h⟩:=h
   refine⟨b,o,hv,hI b hb,fun j hj=> ?_⟩
   obtain⟨u,hu,hr⟩:=h j hj
   exact⟨u,by rw[hw b _ hb];exact hu,bM.mono hI hw hr⟩
 | .agg cs,_,hn,h=>by
   simp only[aC]at h⊢
   obtain⟨us,hv,h,h1⟩:=h
   exact⟨us,hv,aT.mono hI hw (fun n h=>hn n (by simpa[dO]using h)) h,h1⟩
 | .cO cs,_,hn,h=>by
   simp only[aC]at h⊢
   obtain⟨us,hv,h⟩:=h
   exact⟨us,hv,aT.mono hI hw (fun n h=>hn n (by simpa[dO]using h)) h⟩
 | .clo _ cs,_,hn,h=>by
   simp only[aC]at h⊢
   obtain⟨us,hv,h⟩:=h
   exact⟨us,hv,aT.mono hI hw (fun n h=>hn n (by simpa[dO]using h)) h⟩
 | .VY _ cs,_,hn,h=>by
   simp only[aC]at h⊢
   obtain⟨us,hv,h⟩:=h
   exact⟨us,hv,aT.mono hI hw (fun n h=>hn n (by simpa[dO]using h)) h⟩
 | .mp n,_,hn,h=>by simp only[aC]at h⊢;rw[hn n (by simp[dO])];exact h
 | .zG n _ _ _,_,hn,h=>by simp only[aC]at h⊢;rw[hn n (by simp[dO])];exact h
 | .uZ n _ _ _ _,_,hn,h=>by simp only[aC]at h⊢;rw[hn n (by simp[dO])];exact h
 | .junk,_,_,_=>by simp only[aC]
theorem aT.mono{I I':Nat->Prop}{ρ ρ':Nat->Loc}{w w':World}(hI: ∀b,I b->I' b)(hw:Same I w w'):
 ∀{cs:List SV}{us:List Value},(∀n,jW n cs->ρ' n=ρ n)->aT I ρ w cs us->aT I' ρ' w' cs us
 |[],_,_,h=>by simp only[aT]at h⊢;exact h
 |c::cs,_,hn,h=>by
  simp only[aT]at h⊢
  obtain⟨u,r,rfl,h1,h2⟩:=h
  exact⟨u,r,rfl,aC.mono hI hw (fun n h=>hn n (by simp[jW,h])) h1,aT.mono hI hw (fun n h=>hn n (by simp[jW,h])) h2⟩
end
theorem Cells.mono{I I':Nat->Prop}{ρ ρ':Nat->Loc}{w w':World}(hI: ∀b,I b->I' b)(hw:Same I w w'){cs:List SV}{us:List Value}
 (hn: ∀n,jW n cs->ρ' n=ρ n) (h:Cells I ρ w cs us):Cells I' ρ' w' cs us:=⟨aT.mono hI hw hn h.1,h.2⟩
theorem kU.mono{I I':Nat->Prop}{ρ ρ':Nat->Loc}{w w':World}(hI: ∀b,I b->I' b)(hw:Same I w w'){fn:Nat}(hn:ρ' fn=ρ fn){x:FC}{v:Value}(h:kU I ρ fn w x v):kU I' ρ' fn w' x v:=by
 cases x with
 |d x=>exact bM.mono hI hw h
 |fs k sz l=>exact aC.mono hI hw (fun n hin=>by simp only[dO]at hin;rw[<-hin];exact hn) h
theorem nS.mono{I I':Nat->Prop}{ρ ρ':Nat->Loc}{w w':World}(hI: ∀b,I b->I' b)(hw:Same I w w'){fn:Nat}(hn:ρ' fn=ρ fn): ∀{cs:List FC}{us:List Value},nS I ρ fn w cs us->nS I' ρ' fn w' cs us
 |[],_,h=>h
 |c::cs,_,h=>by
  obtain⟨u,r,rfl,h1,h2⟩:=h
  exact⟨u,r,rfl,h1.mono hI hw hn,nS.mono hI hw hn h2⟩
theorem nY.mono{I I':Nat->Prop}{ρ ρ':Nat->Loc}{w w':World}(hI: ∀b,I b->I' b)(hw:Same I w w'){fn:Nat}(hn:ρ' fn=ρ fn){es:Array MapEntry}{clock:Nat}{ka:Bool}{kk:List IntKind}{va:Bool}{sz:Nat}{has:List Int->Bool}{get:List Int->Nat->FC}
 (h:nY I ρ fn w es clock ka kk va sz has get):nY I' ρ' fn w' es clock ka kk va sz has get where
 stamped:=h.stamped
 keys:=h.keys
 ent:=fun e he k hk hek=>by
  obtain⟨h0,us,h1,h2,h3,h4⟩:=h.ent e he k hk hek
  refine⟨h0,us,h1,h2,fun j hj=> ?_,h4⟩
  obtain⟨u,hu,hr⟩:=h3 j hj
  exact⟨u,hu,hr.mono hI hw hn⟩
 all:=h.all
theorem aT.length{I:Nat->Prop}{ρ:Nat->Loc}{w:World}: ∀{cs:List SV}{us:List Value},aT I ρ w cs us->us.length=cs.length
 |[],_,h=>by simp only[aT]at h;subst h;rfl
 |c::cs,_,h=>by
  simp only[aT]at h
  obtain⟨u,r,rfl,_,h⟩:=h
  simp[aT.length h]
theorem dX.mono{I I':Nat->Prop}{ρ ρ':Nat->Loc}{w w':World}(hI: ∀b,I b->I' b)(hw:Same I w w'){L:Loc}{b:bG}
 (hn: ∀n,inB n b->ρ' n=ρ n) (hb: ∀k,foot L b k->w'.heap[k]? =w.heap[k]?) (h:dX I ρ w L b):dX I' ρ' w' L b:=by
 cases b with
 |box cs=>
  obtain⟨us,E,h1,h2⟩:=h
  exact⟨us,E,by rw[hb _ rfl];exact h1,h2.mono hI hw hn⟩
 |row E sz len get=>
  obtain⟨h0,h0',h1,h2⟩:=h
  refine⟨h0,h0',h1,fun hc=> ?_⟩
  obtain⟨arr,h3,h4,h5⟩:=h2 hc
  refine⟨arr,h3.congr (hb _ ⟨hc,rfl⟩),h4,fun i j hi hj=> ?_⟩
  obtain⟨u,hu,hr⟩:=h5 i j hi hj
  exact⟨u,hu,bM.mono hI hw hr⟩
 |gone=>trivial
 |iter s pos=>show w'.heap[L.b]? =_;rw[hb _ rfl];exact h
 |smap kd get=>
  obtain⟨es,clock,h1,h2⟩:=h
  exact⟨es,clock,by rw[hb _ rfl];exact h1,h2⟩
 |arr sz cs=>
  obtain⟨h0,h1,us,E,h2,h3⟩:=h
  exact⟨h0,h1,us,E,by rw[hb _ rfl];exact h2,h3.mono hI hw hn⟩
 |fam nk rows=>
  obtain⟨h0,h1,h2⟩:=h
  refine⟨h0,fun i r hr=> ?_,h2⟩
  obtain⟨h3,h4,h5⟩:=h1 i r hr
  refine⟨h3,h4,fun hc=> ?_⟩
  obtain⟨arr,h6,h7,h8⟩:=h5 hc
  refine⟨arr,h6.congr (hb _ ⟨i,r,hr,hc,rfl⟩),h7,fun a j ha hj=> ?_⟩
  obtain⟨u,hu,hr⟩:=h8 a j ha hj
  exact⟨u,hu,bM.mono hI hw hr⟩
 |dP fn E sz len get=>
  obtain⟨h0,h0',h1,h2⟩:=h
  refine⟨h0,h0',h1,fun hc=> ?_⟩
  obtain⟨arr,h3,h4,h5⟩:=h2 hc
  refine⟨arr,h3.congr (hb _ ⟨hc,rfl⟩),h4,fun i j hi hj=> ?_⟩
  obtain⟨u,hu,hr⟩:=h5 i j hi hj
  exact⟨u,hu,hr.mono hI hw (hn fn rfl)⟩
 |dW fn ka kk va sz has get=>
  obtain⟨es,clock,h1,h2⟩:=h
  exact⟨es,clock,by rw[hb _ rfl];exact h1,h2.mono hI hw (hn fn rfl)⟩
theorem Keep.refl(S:Nat->Prop)(w:World):Keep S w w:=⟨rfl,rfl,rfl,Nat.le_refl _,fun _ _ _=>rfl,Nat.le_refl _⟩
theorem Keep.trans{S T:Nat->Prop}{a b c:World}(h:Keep S a b)(k:Keep T b c)(hT: ∀i,T i->S i∨a.heap.size<=i):Keep S a c:=
 ⟨k.os.trans h.os,k.tape.trans h.tape,k.output.trans h.output,Nat.le_trans h.size k.size,
  fun i hi hs=>(k.block i (Nat.lt_of_lt_of_le hi h.size) (fun ht=>(hT i ht).elim hs (fun h=>Om))).trans (h.block i hi hs),Nat.le_trans h.drawn k.drawn⟩
theorem Eu{I S:Nat->Prop}{w w':World}(h:Keep S w w')(hI: ∀b,I b->b<w.heap.size∧¬S b):Same I w w':=
 fun b o hb=>World.cell?_of_block (h.block b (hI b hb).1 (hI b hb).2)
theorem GOk.mono{G:Nat->Option (Nat×(Nat->D))}{I I':Nat->Prop}{w w':World}(hI: ∀b,I b->I' b)(hw:Same I w w')(h:GOk G I w):GOk G I' w':=by
 intro g sz get hg
 obtain⟨h1,h2⟩:=h g sz get hg
 refine⟨hI g h1,fun j hj=> ?_⟩
 obtain⟨u,hu,hr⟩:=h2 j hj
 exact⟨u,by rw[hw g _ h1];exact hu,bM.mono hI hw hr⟩
end Go.Sx
namespace Go.Sx
open Go
variable {G:Nat->Option (Nat×(Nat->D))}{nt:Nat}{C:Ctx}{I:Nat->Prop}{ρ:Nat->Loc}{F:Fs}{a:Act}{w:World}
def oH(F:Fs)(dst:Option Nat)(sv:SV):Fs:=
 match dst with
 |none=>F
 |some d=>{F with s:=fun k=>if k=d then some sv else F.s k}
def dJ(nt:Nat):Option Nat->Prop
 |none=>True
 |some d=>d<nt
theorem Conc.put(h:Conc G nt C I ρ F a w){dst:Option Nat}(hd:dJ nt dst){sv:SV}{v:Value}(hv:aC I ρ w sv v)(hn: ∀n,dO n sv->F.nm n):
 Conc G nt C I ρ (oH F dst sv) (a.put dst v) w:=by
 cases dst with
 |none=>exact h
 |some d=>
  have hd':d<a.tmps.size:=by rw[h.size];exact hd
  refine {defers:=h.defers,size:=by simp[Act.put,h.size],slots:= ?_,gK:= ?_,own:=h.own,fA:=h.fA,fO:=h.fO,jA:=h.jA,
          iE:=h.iE,nT:=h.nT,i0:=h.i0,i1:=h.i1,old:=h.old,glob:=h.glob,keep:=h.keep}
  ·intro k sv' hk
   simp only[oH]at hk
   split at hk
   ·rename_i e;subst e
    cases hk
    exact⟨v,by simp[Act.put,hd'],hv⟩
   ·rename_i e
    obtain⟨u,hu,hr⟩:=h.slots k sv' hk
    exact⟨u,by simp only[Act.put];rw[Array.getElem?_setIfInBounds_ne Om];exact hu,hr⟩
  ·intro k sv' n hk hin
   simp only[oH]at hk
   split at hk
   ·cases hk;exact hn n hin
   ·exact h.gK k sv' n hk hin
theorem Conc.world(h:Conc G nt C I ρ F a w){I':Nat->Prop}{w':World}(hI: ∀b,I b->I' b)(hS:Same I w w')
 (hB: ∀m b k,F.o m=some b->foot (ρ m) b k->w'.heap[k]? =w.heap[k]?) (hsep: ∀m b k,F.o m=some b->foot (ρ m) b k-> ¬I' k)
 (hlt: ∀b,I' b->b<w'.heap.size) (hi1: ∀b,I' b->C.I0 b∨C.w0.heap.size<=b∨C.S0 b) (hk:Keep C.S0 C.w0 w'):
 Conc G nt C I' ρ F a w' where
 defers:=h.defers
 size:=h.size
 slots k sv hk:=by
  obtain⟨v,hv,hr⟩:=h.slots k sv hk
  exact⟨v,hv,hr.mono hI hS (fun _ _=>rfl)⟩
 gK:=h.gK
 own n b hb:=(h.own n b hb).mono hI hS (fun _ _=>rfl) (fun k=>hB n b k hb)
 fA:=h.fA
 fO:=h.fO
 jA n b k hb hl:=⟨hsep n b k hb hl,(h.jA n b k hb hl).2⟩
 iE:=h.iE
 nT:=hlt
 i0 b hb:=hI b (h.i0 b hb)
 i1:=hi1
 old:=h.old
 glob:=h.glob.mono hI hS
 keep:=hk
theorem Conc.rho(h:Conc G nt C I ρ F a w){ρ':Nat->Loc}(hρ: ∀n,F.nm n->ρ' n=ρ n):Conc G nt C I ρ' F a w where
 defers:=h.defers
 size:=h.size
 slots k sv hk:=by
  obtain⟨v,hv,hr⟩:=h.slots k sv hk
  exact⟨v,hv,hr.mono (fun _ h=>h) (fun _ _ _=>rfl) (fun n hn=>hρ n (h.gK k sv n hk hn))⟩
 gK:=h.gK
 own n b hb:=by rw[hρ n (h.fO n b hb)];exact(h.own n b hb).mono (fun _ h=>h) (fun _ _ _=>rfl) (fun m hm=>hρ m (h.fA n b m hb hm)) (fun _ _=>rfl)
 fA:=h.fA
 fO:=h.fO
 jA n b k hb:=by rw[hρ n (h.fO n b hb)];exact h.jA n b k hb
 iE n m b c k hb hc:=by rw[hρ n (h.fO n b hb),hρ m (h.fO m c hc)];exact h.iE n m b c k hb hc
 nT:=h.nT
 i0:=h.i0
 i1:=h.i1
 old n hn:=⟨(h.old n hn).1,(h.old n hn).2.1,by rw[hρ n (h.old n hn).2.1];exact(h.old n hn).2.2⟩
 glob:=h.glob
 keep:=h.keep
def kS(F:Fs)(n:Nat)(blk:bG):Fs:=⟨F.s,fun m=>if m=n then some blk else F.o m,fun m=>m=n∨F.nm m,F.n0⟩
def dU(ρ:Nat->Loc)(n:Nat)(L:Loc):Nat->Loc:=fun m=>if m=n then L else ρ m
theorem Conc.new(h:Conc G nt C I ρ F a w){n:Nat}(hn: ¬F.nm n){L:Loc}{blk:bG}{w':World}(hS:Same I w w')
 (hB: ∀m b k,F.o m=some b->foot (ρ m) b k->w'.heap[k]? =w.heap[k]?) (hk:Keep C.S0 C.w0 w') (hlt: ∀b,I b->b<w'.heap.size)
 (hblk:dX I ρ w' L blk) (AV: ∀m,inB m blk->F.nm m)
 (hsep: ∀j,foot L blk j-> ¬I j∧(C.w0.heap.size<=j∨C.S0 j)∧∀m b,F.o m=some b-> ¬foot (ρ m) b j):
 Conc G nt C I (dU ρ n L) (kS F n blk) a w':=by
 have hne: ∀m,F.nm m->dU ρ n L m=ρ m:=fun m hm=>by simp only[dU];rw[if_neg];rintro rfl;exact hn hm
 have h1:=(h.world (fun _ h=>h) hS hB (fun m b k hm hl=>(h.jA m b k hm hl).1) hlt h.i1 hk).rho (ρ':=dU ρ n L) hne
 have hself:dU ρ n L n=L:=by simp[dU]
 exact {
  defers:=h1.defers,size:=h1.size,slots:=h1.slots,gK:=fun k sv m hk hm=> .inr (h1.gK k sv m hk hm)
  own:=by
   intro m b hm
   simp only[kS]at hm
   split at hm
   ·rename_i e;subst e;cases hm
    rw[hself]
    exact hblk.mono (fun _ h=>h) (fun _ _ _=>rfl) (fun m hm=>hne m (AV m hm)) (fun _ _=>rfl)
   ·exact h1.own m b hm
  fA:=by
   intro m b k hm hk
   simp only[kS]at hm
   split at hm
   ·cases hm;exact .inr (AV k hk)
   ·exact .inr (h1.fA m b k hm hk)
  fO:=by
   intro m b hm
   simp only[kS]at hm
   split at hm
   ·exact .inl ‹_›
   ·exact .inr (h1.fO m b hm)
  jA:=by
   intro m b j hm hl
   simp only[kS]at hm
   split at hm
   ·rename_i e;subst e;cases hm
    rw[hself]at hl
    exact⟨(hsep j hl).1,(hsep j hl).2.1⟩
   ·exact h1.jA m b j hm hl
  iE:=by
   intro m k b c j hm hk hl hl'
   simp only[kS]at hm hk
   split at hm
   ·rename_i e1;subst e1;cases hm
    split at hk
    ·rename_i e2;exact e2.symm
    ·rw[hself]at hl
     rw[hne k (h.fO k c hk)]at hl'
     exact absurd hl' ((hsep j hl).2.2 k c hk)
   ·split at hk
    ·rename_i e2;subst e2;cases hk
     rw[hself]at hl'
     rw[hne m (h.fO m b hm)]at hl
     exact absurd hl ((hsep j hl').2.2 m b hm)
    ·exact h1.iE m k b c j hm hk hl hl'
  nT:=h1.nT,i0:=h1.i0,i1:=h1.i1,old:=fun m hm=>⟨(h1.old m hm).1,.inr (h1.old m hm).2.1,(h1.old m hm).2.2⟩,glob:=h1.glob,keep:=h1.keep}
def fE(F:Fs)(n:Nat)(blk:bG):Fs:={F with o:=fun m=>if m=n then some blk else F.o m}
theorem Conc.store(h:Conc G nt C I ρ F a w){n:Nat}{b0 blk:bG}(h0:F.o n=some b0)(hl0: ∀k,foot (ρ n) blk k->foot (ρ n) b0 k)(hr0:oh blk->oh b0){w':World}
 (hS:Same I w w') (hB: ∀m b k,F.o m=some b->m≠n->foot (ρ m) b k->w'.heap[k]? =w.heap[k]?) (hk:Keep C.S0 C.w0 w') (hlt: ∀b,I b->b<w'.heap.size)
 (hblk:dX I ρ w' (ρ n) blk) (AV: ∀m,inB m blk->F.nm m):
 Conc G nt C I ρ (fE F n blk) a w' where
 defers:=h.defers
 size:=h.size
 slots k sv hk:=by
  obtain⟨v,hv,hr⟩:=h.slots k sv hk
  exact⟨v,hv,hr.mono (fun _ h=>h) hS (fun _ _=>rfl)⟩
 gK:=h.gK
 own:=by
  intro m b hm
  simp only[fE]at hm
  split at hm
  ·rename_i e;subst e;cases hm;exact hblk
  ·rename_i e;exact(h.own m b hm).mono (fun _ h=>h) hS (fun _ _=>rfl) (fun k=>hB m b k hm e)
 fA:=by
  intro m b k hm hk
  simp only[fE]at hm
  split at hm
  ·cases hm;exact AV k hk
  ·exact h.fA m b k hm hk
 fO:=by
  intro m b hm
  simp only[fE]at hm
  split at hm
  ·rename_i e;subst e;exact h.fO _ _ h0
  ·exact h.fO m b hm
 jA:=by
  intro m b k hm hl
  simp only[fE]at hm
  split at hm
  ·rename_i e;subst e;cases hm;exact h.jA _ _ k h0 (hl0 k hl)
  ·exact h.jA m b k hm hl
 iE:=by
  intro m k b c j hm hk hl hl'
  have key: ∀m b,(fE F n blk).o m=some b->foot (ρ m) b j-> ∃b',F.o m=some b'∧foot (ρ m) b' j:=by
   intro m b hm hl
   by_cases e:m=n
   ·subst e
    simp only[fE,if_true,Option.some.injEq]at hm
    subst hm
    exact⟨b0,h0,hl0 j hl⟩
   ·simp only[fE,e,if_false]at hm
    exact⟨b,hm,hl⟩
  obtain⟨b',h1,h2⟩:=key m b hm hl
  obtain⟨c',h3,h4⟩:=key k c hk hl'
  exact h.iE m k b' c' j h1 h3 h2 h4
 nT:=hlt
 i0:=h.i0
 i1:=h.i1
 old:=h.old
 glob:=h.glob.mono (fun _ h=>h) hS
 keep:=hk
def jK(F:Fs)(n:Nat):Fs:={F with o:=fun m=>if m=n then none else F.o m}
theorem Conc.del(h:Conc G nt C I ρ F a w)(n:Nat):Conc G nt C I ρ (jK F n) a w:=by
 have key: ∀m b,(jK F n).o m=some b->F.o m=some b:=by
  intro m b hm;simp only[jK]at hm;split at hm
  ·cases hm
  ·exact hm
 exact {defers:=h.defers,size:=h.size,slots:=h.slots,gK:=h.gK,own:=fun m b hm=>h.own m b (key m b hm),fA:=fun m b k hm=>h.fA m b k (key m b hm),
        fO:=fun m b hm=>h.fO m b (key m b hm),jA:=fun m b k hm=>h.jA m b k (key m b hm),
        iE:=fun m k b c j hm hk=>h.iE m k b c j (key m b hm) (key k c hk),nT:=h.nT,i0:=h.i0,i1:=h.i1,old:=h.old,glob:=h.glob,keep:=h.keep}
theorem Conc.akJ(h:Conc G nt C I ρ F a w){n:Nat}(hn:F.nm n):Conc G nt C I ρ (fE F n .gone) a w:=by
 have key: ∀m b,(fE F n .gone).o m=some b->b= .gone∨F.o m=some b:=by
  intro m b hm
  simp only[fE]at hm
  split at hm
  ·cases hm;exact .inl rfl
  ·exact .inr hm
 exact {
  defers:=h.defers,size:=h.size,slots:=h.slots,gK:=h.gK
  own:=fun m b hm=>by rcases key m b hm with rfl|h1;exact trivial;exact h.own m b h1
  fA:=fun m b k hm hk=>by rcases key m b hm with rfl|h1;exact hk.elim;exact h.fA m b k h1 hk
  fO:=fun m b hm=>by
   simp only[fE]at hm
   split at hm
   ·rename_i e;rw[e];exact hn
   ·exact h.fO m b hm
  jA:=fun m b k hm hf=>by rcases key m b hm with rfl|h1;exact hf.elim;exact h.jA m b k h1 hf
  iE:=fun m k b c j hm hk hf hf'=>by
   rcases key m b hm with rfl|h1
   ·exact hf.elim
   ·rcases key k c hk with rfl|h2
    ·exact hf'.elim
    ·exact h.iE m k b c j h1 h2 hf hf'
  nT:=h.nT,i0:=h.i0,i1:=h.i1,old:=h.old,glob:=h.glob,keep:=h.keep}
def Aj(n sz:Nat)(get:Nat->Nat->D):List SV->List SV
 |[]=>[]
 | .bW m s off len::l=>(match Nat.beq m n with
   |true=> .d (.list len sz fun i j=>get (off+i) j)
   |false=> .bW m s off len)::Aj n sz get l
 |x::l=>x::Aj n sz get l
def pV(n sz:Nat)(get:Nat->Nat->D):SV->SV
 | .bW m s off len=>match Nat.beq m n with
   |true=> .d (.list len sz fun i j=>get (off+i) j)
   |false=> .bW m s off len
 | .agg cs=> .agg (Aj n sz get cs)
 | .cO cs=> .cO (Aj n sz get cs)
 |x=>x
def J8(n sz:Nat)(get:Nat->Nat->D):bG->bG
 | .box cs=> .box (Aj n sz get cs)
 | .arr s cs=> .arr s (Aj n sz get cs)
 |b=>b
def xH(F:Fs)(n sz:Nat)(get:Nat->Nat->D):Fs:=
 ⟨fun k=>(F.s k).map (pV n sz get),fun m=>if m=n then none else(F.o m).map (J8 n sz get),F.nm,F.n0⟩
theorem BF{sz:Nat}{get:Nat->Nat->D}{n E len:Nat}{I':Nat->Prop}(hI':0<(ρ n).cap->I' (ρ n).b)
 (hb:dX I' ρ w (ρ n) (.row E sz len get)) {s off l:Nat} {v:Value} (h:aC I' ρ w (.bW n s off l) v):
 bM I' w (.list l sz fun i j=>get (off+i) j) v:=by
 simp only[aC]at h
 obtain⟨rfl,h1,h2,a,rfl,h4⟩:=h
 obtain⟨h5,h6,h7,h8⟩:=hb
 refine⟨a,_,rfl,Om,fun hl=> ?_⟩
 have ha:a=some ⟨(ρ n).b,(ρ n).o+off*(ρ n).sz,none⟩:=h4.resolve_right Om
 have hc:0<(ρ n).cap:=Om
 refine⟨_,_,ha,hI' hc,fun i j hi hj=> ?_⟩
 obtain⟨arr,h9,h10,h11⟩:=h8 hc
 obtain⟨u,hu,hr⟩:=h11 (off+i) j Om hj
 refine⟨u,?_,hr⟩
 rw[h9.cell,h6]
 rw[Nat.add_mul]at hu
 rw[<-hu];congr 1;omega
theorem uN{sz:Nat}{get:Nat->Nat->D}{n E len:Nat}{I':Nat->Prop}(hI':0<(ρ n).cap->I' (ρ n).b)
 (hb:dX I' ρ w (ρ n) (.row E sz len get)): ∀{cs:List SV}{us:List Value},aT I' ρ w cs us->aT I' ρ w (Aj n sz get cs) us
 |[],_,h=>h
 |c::cs,_,h=>by
  simp only[aT]at h
  obtain⟨u,r,rfl,h1,h2⟩:=h
  have ih:=uN hI' hb h2
  cases c with
  |bW m s off l=>
   simp only[Aj,aT]
   refine⟨u,r,rfl,?_,ih⟩
   cases hm:Nat.beq m n with
   |true=>
    have:m=n:=Nat.eq_of_beq_eq_true hm
    subst this
    simp only[aC]
    exact BF hI' hb h1
   |false=>exact h1
  |_=>simp only[Aj,aT];exact⟨u,r,rfl,h1,ih⟩
theorem JW{sz:Nat}{get:Nat->Nat->D}{n E len:Nat}{I':Nat->Prop}(hI':0<(ρ n).cap->I' (ρ n).b)
 (hb:dX I' ρ w (ρ n) (.row E sz len get)) {sv:SV} {v:Value} (h:aC I' ρ w sv v):aC I' ρ w (pV n sz get sv) v:=by
 cases sv with
 |bW m s off l=>
  simp only[pV]
  cases hm:Nat.beq m n with
  |true=>
   have:m=n:=Nat.eq_of_beq_eq_true hm
   subst this
   simp only[aC]
   exact BF hI' hb h
  |false=>exact h
 |agg cs=>
  simp only[pV,aC]at h⊢
  obtain⟨us,hv,h1,h2⟩:=h
  exact⟨us,hv,uN hI' hb h1,h2⟩
 |cO cs=>
  simp only[pV,aC]at h⊢
  obtain⟨us,hv,h1⟩:=h
  exact⟨us,hv,uN hI' hb h1⟩
 |_=>exact h
theorem wH{n sz m:Nat}{get:Nat->Nat->D}: ∀{cs:List SV},jW m (Aj n sz get cs)->jW m cs
 |[],h=>h
 |c::cs,h=>by
  cases c with
  |bW k s off l=>
   simp only[Aj,jW]at h⊢
   rcases h with h|h
   ·left
    cases hk:Nat.beq k n with
    |true=>rw[hk]at h;simp[dO]at h
    |false=>rw[hk]at h;exact h
   ·exact .inr (wH h)
  |_=>simp only[Aj,jW]at h⊢;exact Kt h id wH
theorem Zr{n sz m:Nat}{get:Nat->Nat->D}{sv:SV}(h:dO m (pV n sz get sv)):dO m sv:=by
 cases sv with
 |bW k s off l=>
  simp only[pV]at h
  cases hk:Nat.beq k n with
  |true=>rw[hk]at h;simp[dO]at h
  |false=>rw[hk]at h;exact h
 |agg cs=>simp only[pV,dO]at h⊢;exact wH h
 |cO cs=>simp only[pV,dO]at h⊢;exact wH h
 |_=>exact h
def ags(I:Nat->Prop)(L:Loc):Nat->Prop:=fun b=>I b∨(0<L.cap∧b=L.b)
theorem Conc.pub(h:Conc G nt C I ρ F a w){n E sz len:Nat}{get:Nat->Nat->D}(hn:F.o n=some (.row E sz len get))(hn0: ¬F.n0 n):
 Conc G nt C (ags I (ρ n)) ρ (xH F n sz get) a w:=by
 have hI: ∀b,I b->ags I (ρ n) b:=fun b hb=> .inl hb
 have hI':0<(ρ n).cap->ags I (ρ n) (ρ n).b:=fun hc=> .inr ⟨hc,rfl⟩
 have hS:Same I w w:=fun _ _ _=>rfl
 have hb:dX (ags I (ρ n)) ρ w (ρ n) (.row E sz len get):=(h.own n _ hn).mono hI hS (fun _ _=>rfl) (fun _ _=>rfl)
 have key: ∀m b,(xH F n sz get).o m=some b-> ∃b',F.o m=some b'∧b=J8 n sz get b'∧m≠n∧(∀k,foot (ρ m) b k↔foot (ρ m) b' k)∧(oh b↔oh b'):=by
  intro m b hm
  simp only[xH]at hm
  split at hm
  ·cases hm
  ·rename_i e
   cases hb':F.o m with
   |none=>rw[hb']at hm;cases hm
   |some b'=>
    rw[hb']at hm;cases hm
    exact⟨b',rfl,rfl,e,fun k=>(by cases b'<;>rfl),by cases b'<;>rfl⟩
 exact {
  defers:=h.defers,size:=h.size
  slots:=by
   intro k sv hk
   simp only[xH,Option.map_eq_some_iff]at hk
   obtain⟨sv',hk,rfl⟩:=hk
   obtain⟨v,hv,hr⟩:=h.slots k sv' hk
   exact⟨v,hv,JW hI' hb (hr.mono hI hS (fun _ _=>rfl))⟩
  gK:=by
   intro k sv m hk hm
   simp only[xH,Option.map_eq_some_iff]at hk
   obtain⟨sv',hk,rfl⟩:=hk
   exact h.gK k sv' m hk (Zr hm)
  own:=by
   intro m b hm
   obtain⟨b',h1,rfl,_⟩:=key m b hm
   have h2:=(h.own m b' h1).mono (ρ':=ρ) hI hS (fun _ _=>rfl) (fun _ _=>rfl)
   cases b' with
   |box cs=>
    obtain⟨us,E',h3,h4⟩:=h2
    exact⟨us,E',h3,uN hI' hb h4.1,h4.2⟩
   |arr s cs=>
    obtain⟨g1,g2,us,E',h3,h4⟩:=h2
    exact⟨g1,g2,us,E',h3,uN hI' hb h4.1,h4.2⟩
   |_=>exact h2
  fA:=by
   intro m b k hm hk
   obtain⟨b',h1,rfl,_⟩:=key m b hm
   refine h.fA m b' k h1 ?_
   cases b' with
   |box cs=>exact wH hk
   |arr s cs=>exact wH hk
   |_=>exact hk
  fO:=fun m b hm=>by obtain⟨b',h1,_⟩:=key m b hm;exact h.fO m b' h1
  jA:=by
   intro m b k hm hl
   obtain⟨b',h1,rfl,hne,hll,_⟩:=key m b hm
   have hs:=h.jA m b' k h1 ((hll k).1 hl)
   refine⟨?_,hs.2⟩
   rintro(hi|⟨hc,e⟩)
   ·exact hs.1 hi
   ·exact hne (h.iE m n b' _ k h1 hn ((hll k).1 hl) ⟨hc,e⟩)
  iE:=by
   intro m k b c j hm hk hl hl'
   obtain⟨b',h1,_,_,h2,_⟩:=key m b hm
   obtain⟨c',h3,_,_,h4,_⟩:=key k c hk
   exact h.iE m k b' c' j h1 h3 ((h2 j).1 hl) ((h4 j).1 hl')
  nT:=by
   rintro b (hb'|⟨hc,rfl⟩)
   ·exact h.nT b hb'
   ·obtain⟨_,_,_,h8⟩:=hb
    obtain⟨arr,h9,_⟩:=h8 hc
    exact h9.lt
  i0:=fun b hb=> .inl (h.i0 b hb)
  i1:=by
   rintro b (hb'|⟨hc,rfl⟩)
   ·exact h.i1 b hb'
   ·exact .inr (h.sep n _ hn hc).2
  old:=h.old
  glob:=h.glob.mono hI hS
  keep:=h.keep}
theorem QX{fn nk k sz l:Nat}{rows:Nat->Option fM}{I':Nat->Prop}(hB:dX I' ρ w (ρ fn) (.fam nk rows))(hI: ∀j,foot (ρ fn) (.fam nk rows) j->I' j)(hk:Z9 rows (.fs k sz l)){v:Value}(hv:aC I' ρ w (.zG fn k sz l) v):
 bM I' w (.list l sz (mO rows k)) v:=by
 obtain⟨r,hr,hs,hl⟩:=hk
 obtain⟨f1,f2,f3⟩:=hB
 obtain⟨g1,g2,g3⟩:=f2 k r hr
 simp only[aC]at hv
 obtain⟨h1,h2,ad,rfl,h3⟩:=hv
 simp only[bM]
 refine⟨ad,_,rfl,h2,fun hpos=> ?_⟩
 have hcap:0<((ρ fn).fam k).cap:=Om
 have h3:=h3.resolve_right Om
 subst h3
 obtain⟨arr,q1,q2,q3⟩:=g3 hcap
 refine⟨_,_,rfl,hI _ ⟨k,r,hr,hcap,rfl⟩,fun i j hi hj=> ?_⟩
 obtain⟨u,hu,hr'⟩:=q3 i j Om Om
 refine⟨u,?_,?_⟩
 ·rw[q1.cell,<-hs,Nat.add_assoc];exact hu
 ·simpa[mO,hr]using hr'
theorem UR{fn nk E sz len:Nat}{rows:Nat->Option fM}{get:Nat->Nat->FC}{L:Loc}{I':Nat->Prop}(hB:dX I' ρ w (ρ fn) (.fam nk rows))(hI: ∀j,foot (ρ fn) (.fam nk rows) j->I' j)(hok: ∀i j,i<len->j<sz->Z9 rows (get i j))
 (h:dX I' ρ w L (.dP fn E sz len get)):dX I' ρ w L (.row E sz len fun i j=>Lh rows (get i j)):=by
 obtain⟨h1,h2,h3,h4⟩:=h
 refine⟨h1,h2,h3,fun hc=> ?_⟩
 obtain⟨arr,g1,g2,g3⟩:=h4 hc
 refine⟨arr,g1,g2,fun i j hi hj=> ?_⟩
 obtain⟨u,hu,hr⟩:=g3 i j hi hj
 refine⟨u,hu,?_⟩
 have hk:=hok i j hi hj
 show bM I' w (Lh rows (get i j)) u
 generalize get i j=y at hr hk
 cases y with
 |d x=>exact hr
 |fs kk s0 l=>exact QX hB hI hk hr
theorem Yo{L:Loc}{b:bG}(h:dX I ρ w L b){k:Nat}(hf:foot L b k):k<w.heap.size:=by
 cases b with
 |box cs=>obtain⟨us,Eb,h1,_⟩:=h;cases hf;exact(Array.getElem?_eq_some_iff.1 h1).1
 |row E sz len get=>
  obtain⟨_,_,_,h2⟩:=h
  obtain⟨hc,rfl⟩:=hf
  obtain⟨arr,h3,_⟩:=h2 hc
  exact h3.lt
 |gone=>exact hf.elim
 |iter s pos=>cases hf;exact(Array.getElem?_eq_some_iff.1 h).1
 |smap kd get=>obtain⟨_,_,h1,_⟩:=h;cases hf;exact(Array.getElem?_eq_some_iff.1 h1).1
 |arr sz cs=>obtain⟨_,_,_,_,h1,_⟩:=h;cases hf;exact(Array.getElem?_eq_some_iff.1 h1).1
 |fam nk rows=>
  obtain⟨_,h1,_⟩:=h
  obtain⟨i,r,hr,hc,rfl⟩:=hf
  obtain⟨_,_,h2⟩:=h1 i r hr
  obtain⟨arr,h3,_⟩:=h2 hc
  exact h3.lt
 |dP fn E sz len get=>
  obtain⟨_,_,_,h2⟩:=h
  obtain⟨hc,rfl⟩:=hf
  obtain⟨arr,h3,_⟩:=h2 hc
  exact h3.lt
 |dW fn ka kk va sz has get=>obtain⟨_,_,h1,_⟩:=h;cases hf;exact(Array.getElem?_eq_some_iff.1 h1).1
theorem Conc.kL(hc:Conc G nt C I ρ F a w){m:Nat}{b:bG}(hm:F.o m=some b){k:Nat}(hf:foot (ρ m) b k):k<w.heap.size:=Yo (hc.own m b hm) hf
def adh(I:Nat->Prop)(L M:Loc)(b c:bG):Nat->Prop:=fun k=>I k∨foot L b k∨foot M c k
theorem Conc.aj6(h:Conc G nt C I ρ F a w){n fn E sz len nk:Nat}{get:Nat->Nat->FC}{rows:Nat->Option fM}(hn:F.o n=some (.dP fn E sz len get))(hf:F.o fn=some (.fam nk rows))(hok: ∀i j,i<len->j<sz->Z9 rows (get i j))
 (hn0: ¬F.n0 n) (hf0: ¬F.n0 fn):
 Conc G nt C (adh I (ρ n) (ρ fn) (.dP fn E sz len get) (.fam nk rows)) ρ (jK (xH F n sz fun i j=>Lh rows (get i j)) fn) a w:=by
 have hI: ∀b,I b->adh I (ρ n) (ρ fn) (.dP fn E sz len get) (.fam nk rows) b:=fun b hb=> .inl hb
 have hI':0<(ρ n).cap->adh I (ρ n) (ρ fn) (.dP fn E sz len get) (.fam nk rows) (ρ n).b:=fun hc=> .inr (.inl ⟨hc,rfl⟩)
 have hS:Same I w w:=fun _ _ _=>rfl
 have hb:dX (adh I (ρ n) (ρ fn) (.dP fn E sz len get) (.fam nk rows)) ρ w (ρ n) (.row E sz len fun i j=>Lh rows (get i j)):=
  UR ((h.own fn _ hf).mono hI hS (fun _ _=>rfl) (fun _ _=>rfl)) (fun j hj=> .inr (.inr hj)) hok ((h.own n _ hn).mono hI hS (fun _ _=>rfl) (fun _ _=>rfl))
 have key: ∀m b,(jK (xH F n sz fun i j=>Lh rows (get i j)) fn).o m=some b-> ∃b',F.o m=some b'∧b=J8 n sz (fun i j=>Lh rows (get i j)) b'∧(m≠n∧m≠fn)∧(∀k,foot (ρ m) b k↔foot (ρ m) b' k)∧(oh b↔oh b'):=by
  intro m b hm
  simp only[jK]at hm
  split at hm
  ·cases hm
  rename_i e0
  simp only[xH]at hm
  split at hm
  ·cases hm
  ·rename_i e
   cases hb':F.o m with
   |none=>rw[hb']at hm;cases hm
   |some b'=>
    rw[hb']at hm;cases hm
    exact⟨b',rfl,rfl,⟨e,e0⟩,fun k=>(by cases b'<;>rfl),by cases b'<;>rfl⟩
 exact {
  defers:=h.defers,size:=h.size
  slots:=by
   intro k sv hk
   simp only[jK,xH,Option.map_eq_some_iff]at hk
   obtain⟨sv',hk,rfl⟩:=hk
   obtain⟨v,hv,hr⟩:=h.slots k sv' hk
   exact⟨v,hv,JW hI' hb (hr.mono hI hS (fun _ _=>rfl))⟩
  gK:=by
   intro k sv m hk hm
   simp only[jK,xH,Option.map_eq_some_iff]at hk
   obtain⟨sv',hk,rfl⟩:=hk
   exact h.gK k sv' m hk (Zr hm)
  own:=by
   intro m b hm
   obtain⟨b',h1,rfl,_⟩:=key m b hm
   have h2:=(h.own m b' h1).mono (ρ':=ρ) hI hS (fun _ _=>rfl) (fun _ _=>rfl)
   cases b' with
   |box cs=>
    obtain⟨us,E',h3,h4⟩:=h2
    exact⟨us,E',h3,uN hI' hb h4.1,h4.2⟩
   |arr s cs=>
    obtain⟨g1,g2,us,E',h3,h4⟩:=h2
    exact⟨g1,g2,us,E',h3,uN hI' hb h4.1,h4.2⟩
   |_=>exact h2
  fA:=by
   intro m b k hm hk
   obtain⟨b',h1,rfl,_⟩:=key m b hm
   refine h.fA m b' k h1 ?_
   cases b' with
   |box cs=>exact wH hk
   |arr s cs=>exact wH hk
   |_=>exact hk
  fO:=fun m b hm=>by obtain⟨b',h1,_⟩:=key m b hm;exact h.fO m b' h1
  jA:=by
   intro m b k hm hl
   obtain⟨b',h1,rfl,hne,hll,_⟩:=key m b hm
   have hs:=h.jA m b' k h1 ((hll k).1 hl)
   refine⟨?_,hs.2⟩
   rintro(hi|hi|hi)
   ·exact hs.1 hi
   ·exact hne.1 (h.iE m n b' _ k h1 hn ((hll k).1 hl) hi)
   ·exact hne.2 (h.iE m fn b' _ k h1 hf ((hll k).1 hl) hi)
  iE:=by
   intro m k b c j hm hk hl hl'
   obtain⟨b',h1,_,_,h2,_⟩:=key m b hm
   obtain⟨c',h3,_,_,h4,_⟩:=key k c hk
   exact h.iE m k b' c' j h1 h3 ((h2 j).1 hl) ((h4 j).1 hl')
  nT:=by
   rintro b (hb'|hb'|hb')
   ·exact h.nT b hb'
   ·exact h.kL hn hb'
   ·exact h.kL hf hb'
  i0:=fun b hb=> .inl (h.i0 b hb)
  i1:=by
   rintro b (hb'|hb'|hb')
   ·exact h.i1 b hb'
   ·exact .inr (h.jA n _ b hn hb').2
   ·exact .inr (h.jA fn _ b hf hb').2
  old:=h.old
  glob:=h.glob.mono hI hS
  keep:=h.keep}
end Go.Sx
namespace Go.Sx
open Go
variable {P:Program}{G:Nat->Option (Nat×(Nat->D))}{nt:Nat}{C:Ctx}{I:Nat->Prop}{ρ:Nat->Loc}{F:Fs}{a:Act}{w:World}
inductive fH:Fs->List Nat->Fs->Prop where
 |nil (F:Fs):fH F [] F
 |row {F F':Fs} {n E sz len:Nat} {get:Nat->Nat->D} {ns:List Nat} (h:F.o n=some (.row E sz len get)) (h0: ¬F.n0 n) (t:fH (xH F n sz get) ns F'):fH F (n::ns) F'
 |nest {F F':Fs} {n fn E sz len nk:Nat} {get:Nat->Nat->FC} {rows:Nat->Option fM} {ns:List Nat} (h:F.o n=some (.dP fn E sz len get)) (hf:F.o fn=some (.fam nk rows)) (hok: ∀i j,i<len->j<sz->Z9 rows (get i j)) (h0: ¬F.n0 n) (hf0: ¬F.n0 fn)
   (t:fH (jK (xH F n sz fun i j=>Lh rows (get i j)) fn) ns F'):fH F (n::ns) F'
 |none {F F':Fs} {n:Nat} {ns:List Nat} (h:F.o n=Option.none) (t:fH F ns F'):fH F (n::ns) F'
def ZW(F:Fs)(names:List Nat)(pre:List (Nat×bG)):Prop:=pre.map (·.1)=names∧∀n b,(n,b)∈pre->F.o n=some b∧GX b
inductive To (P:Program) (G:Nat->Option (Nat×(Nat->D))) (F:Fs):M bf->bf->Prop where
 |ret (u:bf):To P G F (.ret u) u
 |slot {k:Nat} {f:SV->M bf} {v:SV} {u:bf} (h:F.s k=some v) (t:To P G F (f v) u):To P G F (.slot k f) u
 |own {n:Nat} {f:bG->M bf} {b:bG} {u:bf} (h:F.o n=some b) (t:To P G F (f b) u):To P G F (.own n f) u
 |need {p:Prop} {m:M bf} {u:bf} (h:p) (t:To P G F m u):To P G F (.need p m) u
 |qY {b:Bool} {x y:M bf} {u:bf} (h:b=true) (t:To P G F x u):To P G F (.split b x y) u
 |split2 {b:Bool} {x y:M bf} {u:bf} (h:b=false) (t:To P G F y u):To P G F (.split b x y) u
 |call {dst:Option Nat} {f:FuncId} {args:List SV} {names xg pub:List Nat} {F1:Fs} {pre:List (Nat×bG)} {res:SV} {post:List (Nat×bG)}
   (p:fH F pub F1) (hp:ZW F1 names pre) (h:Spec P G f args pre res post) (hb:xg=[]∨(qR res=true∧lT post)):
   To P G F (.call dst f args names xg pub) {dst,v:=res,own:=post,del:=[],new:=newP pre post,pub}
structure jB (F:Fs) (u:bf):Prop where
 new: ∀n∈u.new,¬F.nm n
 del: ∀n∈u.del,¬F.n0 n
theorem To.dV{u0 u:bf}(h:To P G F (.ret u0) u):u=u0:=by cases h;rfl
theorem To.JC{k:Nat}{f:SV->M bf}{u:bf}(h:To P G F (.slot k f) u): ∃v,F.s k=some v∧To P G F (f v) u:=by cases h with|slot h t=>exact⟨_,h,t⟩
theorem To.eP{k:Nat}{f:bG->M bf}{u:bf}(h:To P G F (.own k f) u): ∃v,F.o k=some v∧To P G F (f v) u:=by cases h with|own h t=>exact⟨_,h,t⟩
theorem To.dh{p:Prop}{m:M bf}{u:bf}(h:To P G F (.need p m) u):p∧To P G F m u:=by cases h with|need h t=>exact⟨h,t⟩
theorem To.au{why:String}{u:bf}(h:To P G F (.fail why) u):False:=by cases h
structure Val (G:Nat->Option (Nat×(Nat->D))) (I:Nat->Prop) (ρ:Nat->Loc) (F:Fs) (w:World) (sv:SV) (v:Value):Prop where
 rep:aC I ρ w sv v
 nm: ∀n,dO n sv->F.nm n
structure MI (I:Nat->Prop) (ρ:Nat->Loc) (F:Fs) (w:World) (cs:List SV) (us:List Value):Prop where
 rep:aT I ρ w cs us
 nm: ∀n,jW n cs->F.nm n
theorem To.Ky{k:SV->M bf}{u:bf}: ∀{l:List SV}{n:Nat},To P G F (adH l n k) u-> ∃x,l[n]? =some x∧To P G F (k x) u
 |[],_,h=>by simp only[adH]at h;exact h.au.elim
 |x::_,0,h=>⟨x,rfl,h⟩
 |_::l,n+1,h=>by simpa using To.Ky (l:=l) (n:=n) h
theorem To.rJ{k:List SV->M bf}{u:bf}: ∀{l:List SV}{n:Nat},To P G F (FB n l k) u->n<=l.length∧To P G F (k (l.drop n)) u
 |_,0,h=>⟨Nat.zero_le _,h⟩
 |[],_+1,h=>by simp only[FB]at h;exact h.au.elim
 |_::l,n+1,h=>by
  obtain⟨h1,h2⟩:=To.rJ (l:=l) (n:=n) h
  exact⟨by simp;exact h1,h2⟩
theorem To.NZ{u:bf}: ∀{n:Nat}{l:List SV}{k:List SV->M bf},To P G F (YI n l k) u->n<=l.length∧To P G F (k (l.take n)) u
 |0,_,_,h=>⟨Nat.zero_le _,h⟩
 |_+1,[],_,h=>by simp only[YI]at h;exact h.au.elim
 |n+1,x::l,k,h=>by
  obtain⟨h1,h2⟩:=To.NZ (l:=l) (n:=n) h
  exact⟨by simp;exact h1,h2⟩
theorem To.Oq{u:bf}: ∀{new l:List SV}{k:List SV->M bf},To P G F (Y1 new l k) u->new.length<=l.length∧To P G F (k (new++l.drop new.length)) u
 |[],_,_,h=>⟨Nat.zero_le _,h⟩
 |_::_,[],_,h=>by simp only[Y1]at h;exact h.au.elim
 |y::new,_::l,k,h=>by
  obtain⟨h1,h2⟩:=To.Oq (new:=new) (l:=l) h
  exact⟨by simp;exact h1,h2⟩
theorem To.vZ{u:bf}{new:List SV}: ∀{n:Nat}{l:List SV}{k:List SV->M bf},To P G F (BA n new l k) u->
 n+new.length<=l.length∧To P G F (k (l.take n++new++l.drop (n+new.length))) u
 |0,l,k,h=>by
  obtain⟨h1,h2⟩:=To.Oq h
  exact⟨Om,by simpa using h2⟩
 |n+1,[],k,h=>by simp only[BA]at h;exact h.au.elim
 |n+1,x::l,k,h=>by
  obtain⟨h1,h2⟩:=To.vZ (n:=n) (l:=l) h
  refine⟨by simp;omega,?_⟩
  rw[show n+1+new.length=(n+new.length)+1 by omega]
  simpa using h2
theorem aT.get{cs:List SV}{us:List Value}(h:aT I ρ w cs us): ∀{n:Nat}{x:SV},cs[n]? =some x-> ∃v,us[n]? =some v∧aC I ρ w x v:=by
 induction cs generalizing us with
 |nil=>intro n x hx;simp at hx
 |cons c cs ih=>
  simp only[aT]at h
  obtain⟨u,r,rfl,h1,h2⟩:=h
  intro n x hx
  cases n with
  |zero=>simp at hx;subst hx;exact⟨u,rfl,h1⟩
  |succ n=>simpa using ih h2 (by simpa using hx)
theorem aT.drop{cs:List SV}{us:List Value}(h:aT I ρ w cs us): ∀n:Nat,aT I ρ w (cs.drop n) (us.drop n):=by
 induction cs generalizing us with
 |nil=>intro n;simp only[aT]at h;subst h;simp[aT]
 |cons c cs ih=>
  intro n
  cases n with
  |zero=>exact h
  |succ n=>
   simp only[aT]at h
   obtain⟨u,r,rfl,h1,h2⟩:=h
   simpa using ih h2 n
theorem aT.take{cs:List SV}{us:List Value}(h:aT I ρ w cs us): ∀n:Nat,aT I ρ w (cs.take n) (us.take n):=by
 induction cs generalizing us with
 |nil=>intro n;simp only[aT]at h;subst h;simp[aT]
 |cons c cs ih=>
  intro n
  cases n with
  |zero=>simp[aT]
  |succ n=>
   simp only[aT]at h
   obtain⟨u,r,rfl,h1,h2⟩:=h
   simp only[List.take_succ_cons,aT]
   exact⟨u,r.take n,rfl,h1,ih h2 n⟩
theorem aT.append{cs ds:List SV}{us vs:List Value}(h:aT I ρ w cs us)(h':aT I ρ w ds vs):aT I ρ w (cs++ds) (us++vs):=by
 induction cs generalizing us with
 |nil=>simp only[aT]at h;subst h;exact h'
 |cons c cs ih=>
  simp only[aT]at h
  obtain⟨u,r,rfl,h1,h2⟩:=h
  simp only[List.cons_append,aT]
  exact⟨u,r++vs,rfl,h1,ih h2⟩
theorem jd{n:Nat}: ∀{cs:List SV},jW n cs↔∃c∈cs,dO n c
 |[]=>by simp[jW]
 |c::cs=>by simp[jW,jd (cs:=cs)]
theorem yZ{n:Nat}{cs ds:List SV}(h: ∀c∈cs,c∈ds)(hi:jW n cs):jW n ds:=by
 rw[jd]at hi⊢
 obtain⟨c,hc,hn⟩:=hi
 exact⟨c,h c hc,hn⟩
theorem To.zX{x:Value}{k:SV->M bf}{u:bf}(h:To P G F (Nh x k) u): ∃sv,To P G F (k sv) u∧aC I ρ w sv x∧(∀n,¬dO n sv)∧x.oneCell'=true:=by
 unfold Nh at h
 split at h
 ·exact⟨_,h,by simp[aC,bM],by simp[dO],rfl⟩
 ·exact⟨_,h,by simp[aC,bM],by simp[dO],rfl⟩
 ·exact⟨_,h,by simp[aC,bM],by simp[dO],rfl⟩
 ·exact⟨_,h,by simp[aC,bM,Value.oneCell'],by simp[dO],rfl⟩
 ·exact⟨_,h,by simp[aC,bM,Value.oneCell'],by simp[dO],rfl⟩
 ·exact⟨_,h,by simp[aC,bM,Value.oneCell'],by simp[dO],rfl⟩
 ·exact⟨_,h,by simp[aC,bM,Value.oneCell'],by simp[dO],rfl⟩
 ·exact h.au.elim
theorem To.Eo{u:bf}: ∀{xs:List Value}{k:List SV->M bf},To P G F (DC Nh xs k) u->
 ∃cs,To P G F (k cs) u∧aT I ρ w cs xs∧(∀n,¬jW n cs)∧∀x∈xs,x.oneCell'=true
 |[],k,h=>⟨[],h,by simp[aT],by simp[jW],by simp⟩
 |x::xs,k,h=>by
  simp only[DC]at h
  obtain⟨sv,h1,h2,h3,h4⟩:=To.zX (I:=I) (ρ:=ρ) (w:=w) h
  obtain⟨cs,h5,h6,h7,h8⟩:=To.Eo h1
  exact⟨sv::cs,h5,by simp only[aT];exact⟨x,xs,rfl,h2,h6⟩,by simp[jW,h3,h7],by simpa[h4]using h8⟩
theorem To.af7{x:Value}{k:SV->M bf}{u:bf}(h:To P G F (svK x k) u): ∃sv,To P G F (k sv) u∧aC I ρ w sv x∧∀n,¬dO n sv:=by
 unfold svK at h
 split at h
 ·obtain⟨cs,h1,h2,h3,h4⟩:=To.Eo (I:=I) (ρ:=ρ) (w:=w) h
  exact⟨_,h1,by simp only[aC];exact⟨_,rfl,h2,h4⟩,by simpa[dO]using h3⟩
 ·obtain⟨sv,h1,h2,h3,_⟩:=To.zX (I:=I) (ρ:=ρ) (w:=w) h
  exact⟨sv,h1,h2,h3⟩
theorem To.bU{x:Operand}{k:SV->M bf}{u:bf}(hc:Conc G nt C I ρ F a w)(h:To P G F (ev x k) u):
 ∃sv,To P G F (k sv) u∧Val G I ρ F w sv (a.eval x):=by
 cases x with
 |tmp t=>
  obtain⟨sv,h1,h2⟩:=h.JC
  obtain⟨v,hv,hr⟩:=hc.slots t sv h1
  refine⟨sv,h2,⟨?_,fun n hn=>hc.gK t sv n h1 hn⟩⟩
  simp only[Act.eval,Array.getD_eq_getD_getElem?,hv]
  exact hr
 |const v=>
  obtain⟨sv,h1,h2,h3⟩:=To.af7 (I:=I) (ρ:=ρ) (w:=w) h
  exact⟨sv,h1,⟨h2,fun n hn=>(h3 n hn).elim⟩⟩
 |global g=>exact h.au.elim
 |func f=>exact⟨_,h,⟨by simp only[aC,Act.eval];exact⟨[],rfl,by simp[aT]⟩,by simp[dO,jW]⟩⟩
theorem To.zh{u:bf}(hc:Conc G nt C I ρ F a w): ∀{xs:List Operand}{k:List SV->M bf},To P G F (evs xs k) u->
 ∃cs,To P G F (k cs) u∧MI I ρ F w cs (xs.map a.eval)
 |[],k,h=>⟨[],h,⟨by simp[aT],by simp[jW]⟩⟩
 |x::xs,k,h=>by
  simp only[evs,DC]at h
  obtain⟨sv,h1,h2⟩:=To.bU hc h
  obtain⟨cs,h3,h4⟩:=To.zh hc (xs:=xs) h1
  exact⟨sv::cs,h3,⟨by simp only[aT,List.map_cons];exact⟨_,_,rfl,h2.rep,h4.rep⟩,fun n hn=>by
   simp only[jW]at hn
   exact hn.elim (h2.nm n) (h4.nm n)⟩⟩
theorem To.nC{sv:SV}{v:Value}{k:List SV->M bf}{u:bf}(h:To P G F (qB sv k) u)(hv:aC I ρ w sv v):
 ∃cs us,To P G F (k cs) u∧Cells I ρ w cs us∧v.cells=⟨us⟩∧∀n,jW n cs->dO n sv:=by
 have one: ∀x:Value,x.oneCell'=true->x.cells= #[x]:=by intro x hx;cases x<;>first|rfl|(simp[Value.oneCell']at hx)
 cases sv with
 |agg cs=>
  simp only[aC]at hv
  obtain⟨us,rfl,h1,h2⟩:=hv
  exact⟨cs,us,h,⟨h1,h2⟩,rfl,fun n hn=>by simpa[dO]using hn⟩
 |d x=>
  have h1:v.oneCell'=true:=by simp only[aC]at hv;exact hv.one
  exact⟨[.d x],[v],h,⟨by simp only[aT];exact⟨v,[],rfl,hv,rfl⟩,by simpa using h1⟩,one v h1,by simp[jW]⟩
 |ptr n o=>
  have h1:v.oneCell'=true:=by simp only[aC]at hv;subst hv;rfl
  exact⟨[.ptr n o],[v],h,⟨by simp only[aT];exact⟨v,[],rfl,hv,rfl⟩,by simpa using h1⟩,one v h1,by simp[jW]⟩
 |qJ n s i o=>
  have h1:v.oneCell'=true:=by simp only[aC]at hv;rw[hv.2];rfl
  exact⟨[.qJ n s i o],[v],h,⟨by simp only[aT];exact⟨v,[],rfl,hv,rfl⟩,by simpa using h1⟩,one v h1,by simp[jW]⟩
 |bW n s o l=>
  have h1:v.oneCell'=true:=by simp only[aC]at hv;obtain⟨_,_,_,b,rfl,_⟩:=hv;rfl
  exact⟨[.bW n s o l],[v],h,⟨by simp only[aT];exact⟨v,[],rfl,hv,rfl⟩,by simpa using h1⟩,one v h1,by simp[jW]⟩
 |qN s g=>
  have h1:v.oneCell'=true:=by simp only[aC]at hv;obtain⟨b,o,rfl,_⟩:=hv;rfl
  exact⟨[.qN s g],[v],h,⟨by simp only[aT];exact⟨v,[],rfl,hv,rfl⟩,by simpa using h1⟩,one v h1,by simp[jW]⟩
 |clo f cs=>
  have h1:v.oneCell'=true:=by simp only[aC]at hv;obtain⟨_,rfl,_⟩:=hv;rfl
  exact⟨[.clo f cs],[v],h,⟨by simp only[aT];exact⟨v,[],rfl,hv,rfl⟩,by simpa using h1⟩,one v h1,by simp[jW]⟩
 |zG n i z l=>
  have h1:v.oneCell'=true:=by simp only[aC]at hv;obtain⟨_,_,_,rfl,_⟩:=hv;rfl
  exact⟨[.zG n i z l],[v],h,⟨by simp only[aT];exact⟨v,[],rfl,hv,rfl⟩,by simpa using h1⟩,one v h1,by simp[jW]⟩
 |mp n=>
  have h1:v.oneCell'=true:=by simp only[aC]at hv;subst hv;rfl
  exact⟨[.mp n],[v],h,⟨by simp only[aT];exact⟨v,[],rfl,hv,rfl⟩,by simpa using h1⟩,one v h1,by simp[jW]⟩
 |_=>exact h.au.elim
theorem Jr{T:TypeId}{d:TypeDesc}(h:P.underlying T=some d): ∃i,P.info? T=some i∧P.cellsOf T=i.size:=by
 unfold Program.underlying at h
 cases hi:P.info? T with
 |none=>simp[hi]at h
 |some i=>exact⟨i,rfl,by simp[Program.cellsOf,hi]⟩
theorem fG{T:TypeId}{i:TypeInfo}(h:P.info? T=some i):(sizeOf T).run P w= .ok i.size w:=by
 simp[sizeOf,typeInfo,h]
theorem JM{T:TypeId}{d:TypeDesc}(h:P.underlying T=some d):(isAgg T).run P w= .ok (qg d) w:=by
 simp only[isAgg,Sem.run_bind,run_underlying h,Result.andThen_ok]
 cases d<;>rfl
theorem KU{i j:IntKind}(h:kEq i j=true):i=j:=by cases i<;>cases j<;>first|rfl|(simp[kEq]at h)
theorem To.Kz{k:Nat->Nat->M bf}{u:bf}: ∀{l:List Field}{n:Nat},To P G F (adI l n k) u-> ∃x,l[n]? =some x∧To P G F (k x.offset x.type) u
 |[],_,h=>by simp only[adI]at h;exact h.au.elim
 |x::_,0,h=>⟨x,rfl,h⟩
 |⟨_,_,_,_,_,_,_⟩::l,n+1,h=>by simpa using To.Kz (l:=l) (n:=n) h
theorem To.DR{T f:Nat}{k:Nat->Nat->M bf}{u:bf}(h:To P G F (G7 P T f k) u):
 ∃fs x,P.underlying T=some (.struct fs)∧fs[f]? =some x∧To P G F (k x.offset x.type) u:=by
 unfold G7 at h
 split at h
 ·rename_i fs hu
  obtain⟨x,h1,h2⟩:=To.Kz h
  exact⟨⟨fs⟩,x,hu,by simpa using h1,h2⟩
 ·exact h.au.elim
theorem To.nK{T:Nat}{k:Nat->Nat->M bf}{u:bf}(h:To P G F (A8 P T k) u):
 ∃E,P.underlying T=some (.slice E)∧To P G F (k E (P.cellsOf E)) u:=by
 unfold A8 at h
 split at h
 ·exact⟨_,As,h⟩
 ·exact h.au.elim
def kK(d:TypeDesc)(n:Nat)(us:List Value)(v:Value):Prop:=
 if qg d=true then v= .agg ⟨us.take n⟩∧n<=us.length else us[0]? =some v
theorem To.uw{T:Nat}{cs:List SV}{us:List Value}{k:SV->M bf}{u:bf}(h:To P G F (Ii P T cs k) u)(hc:Cells I ρ w cs us)(hn: ∀n,jW n cs->F.nm n):
 ∃d sv v,P.underlying T=some d∧To P G F (k sv) u∧Val G I ρ F w sv v∧kK d (P.cellsOf T) us v:=by
 unfold Ii at h
 split at h
 ·exact h.au.elim
 ·rename_i d hd
  split at h
  ·rename_i ha
   obtain⟨h1,h2⟩:=To.NZ h
   have hl:=hc.1.length
   refine⟨d,_,.agg ⟨us.take (P.cellsOf T)⟩,hd,h2,⟨?_,?_⟩,?_⟩
   ·simp only[aC]
    exact⟨_,rfl,hc.1.take _,fun x hx=>hc.2 x (List.mem_of_mem_take hx)⟩
   ·intro n hin
    simp only[dO]at hin
    exact hn n (yZ (fun c hc=>List.mem_of_mem_take hc) hin)
   ·simp only[kK,ha,if_true]
    exact⟨trivial,Om⟩
  ·rename_i ha
   obtain⟨x,h1,h2⟩:=To.Ky h
   obtain⟨v,hv,hr⟩:=hc.1.get h1
   refine⟨d,x,v,hd,h2,⟨hr,fun n hin=>hn n (jd.2 ⟨x,List.mem_of_getElem? h1,hin⟩)⟩,?_⟩
   simp only[kK,ha]
   exact hv
theorem jC{T:Nat}{d:TypeDesc}(hd:P.underlying T=some d){ad:Addr}{us:List Value}{v:Value}(hv:kK d (P.cellsOf T) us v)
 (hcell: ∀j x,us[j]? =some x->w.cell? (ad.add j)=some x):(loadVar T ad).run P w= .ok v w:=by
 obtain⟨i,hi,hsz⟩:=Jr hd
 simp only[loadVar,Sem.run_bind,JM hd,Result.andThen_ok]
 unfold kK at hv
 split at hv
 ·rename_i ha
  obtain⟨rfl,hl⟩:=hv
  have hlen:(us.take (P.cellsOf T)).length=P.cellsOf T:=by simp;omega
  have hld:=run_loadCells_list (P:=P) w ad (us.take (P.cellsOf T)) (fun j x hx=>hcell j x (by rw[List.getElem?_take]at hx;split at hx<;>simp_all))
  rw[hlen]at hld
  simp only[ha,if_true,Sem.run_bind,fG hi,Result.andThen_ok,<-hsz,hld,Sem.run_pure]
 ·rename_i ha
  have h0:=hcell 0 v hv
  have:ad.add 0=ad:=rfl
  rw[this]at h0
  simp[ha,h0]
end Go.Sx
