/- Part of a symbolic executor over the model, proved sound, with plain laws: SxWlk3. Written for this claim. -/
import Derived.Test.YtgdgkekpfmhbbaaGreatDoorSxHan2
import Derived.Test.YtgdgkekpfmhbbaaGreatDoorSxRen
import Derived.Test.YtgdgkekpfmhbbaaGreatDoorSxTabB
import Derived.Sort.LotA
import Derived.Test.YtgdgkekpfmhbbaaGreatDoorSxTab
import Derived.Shelf.GgSortFunc.InsertionK
import Derived.Sort.AssemblyPlain
set_option linter.unusedVariables false
set_option linter.unusedSimpArgs false
namespace Go.Sx
open Go
theorem Zw{T:List Row}{c:Nat->dQ}{V:List gV}(h:qF T c V){b:dQ}{j i:Nat}(hi:i<V.length)(hne:i≠j)(hj:j<V.length)(h1:aW (c j) b<=0)(h2:aW b (c (j+1))<0):fitsV false (V.getD i default) (gB b mF)=false:=by
 have er:=h.rng i hi
 have e1:(V.getD i default).lk=(c i).1∧(V.getD i default).lt=(c i).2∧(V.getD i default).hk=(c (i+1)).1∧(V.getD i default).ht=(c (i+1)).2:=by
  simpa[vO,gB]using er
 show(decide (aV _ _ b.1 b.2<=0)&&decide (0<aV _ _ b.1 b.2))=false
 rw[e1.1,e1.2.1,e1.2.2.1,e1.2.2.2,Bool.and_eq_false_iff]
 rcases Nat.lt_or_gt_of_ne hne with h3|h3
 ·right
  rw[decide_eq_false_iff_not]
  have h4:=h.mono (i:=i+1) (j:=j) Om Om
  have h5:aW (c (i+1)) b<=0:=kF (a:=c (i+1)) (b:=c j) (c:=b) h4 h1
  show¬0<aW (c (i+1)) b
  omega
 ·left
  rw[decide_eq_false_iff_not]
  have h4:=h.mono (i:=j+1) (j:=i) Om Om
  have h5:=QH h2 h4
  have:=cmp_neg b (c i)
  show¬aW (c i) b<=0
  omega
theorem Zx{T:List Row}{c:Nat->dQ}{V:List gV}(h:qF T c V){b:dQ}{j i:Nat}(hi:i<V.length)(hne:i≠j)(hj:j<V.length)(h1:aW (c j) b<0)(h2:0<=aW (c (j+1)) b):fitsV true (V.getD i default) (gB kG b)=false:=by
 have er:=h.rng i hi
 have e1:(V.getD i default).lk=(c i).1∧(V.getD i default).lt=(c i).2∧(V.getD i default).hk=(c (i+1)).1∧(V.getD i default).ht=(c (i+1)).2:=by
  simpa[vO,gB]using er
 show(decide (0<=aV _ _ b.1 b.2)&&decide (aV _ _ b.1 b.2<0))=false
 rw[e1.1,e1.2.1,e1.2.2.1,e1.2.2.2,Bool.and_eq_false_iff]
 rcases Nat.lt_or_gt_of_ne hne with h3|h3
 ·left
  rw[decide_eq_false_iff_not]
  have h4:=h.mono (i:=i+1) (j:=j) Om Om
  have h5:=ad_ h4 h1
  show¬0<=aW (c (i+1)) b
  omega
 ·right
  rw[decide_eq_false_iff_not]
  have h4:=h.mono (i:=j+1) (j:=i) Om Om
  have n1:=cmp_neg (c (j+1)) b
  have h5:aW b (c i)<=0:=kF (a:=b) (b:=c (j+1)) (c:=c i) (by show aW b (c (j+1))<=0;omega) h4
  have:=cmp_neg b (c i)
  show¬aW (c i) b<0
  omega
theorem OZ{V:List gV}{p:gV->Bool}{j:Nat}(hj:j<V.length)(h1:p (V.getD j default)=true)(h2: ∀i,i<V.length->i≠j->p (V.getD i default)=false):V.find? p=some (V.getD j default):=by
 have g: ∀i(hi:i<V.length),V.getD i default=V[i]:=fun i hi=>by simp[List.getD,hi]
 rw[g j hj]at h1⊢
 rw[List.find?_eq_some_iff_getElem]
 refine⟨h1,j,hj,rfl,fun i hi=> ?_⟩
 have:=h2 i Om Om
 rw[g i Om]at this
 simp[this]
structure Hu (dn:Bool) (V:List gV) (s s':nR):Prop where
 nd:eX s=false
 one: ∃r,s.1=[r]∧aK r=false∧∃j,j<V.length∧fitsV dn (V.getD j default) r=true∧yB (V.getD j default)=true∧(∀i,i<V.length->i≠j->fitsV dn (V.getD i default) r=false)∧s'=iT dn s (V.getD j default)
theorem Ui{s:nR}(h:eX s=false):s.1≠[]∧aS s.2=[]:=by
 unfold eX at h
 rw[Bool.or_eq_false_iff]at h
 refine⟨by simpa using h.1,by simpa using h.2⟩
theorem Bv{a b:dQ}(h:iF (gB a b)≠[]):aK (gB a b)=false:=by
 unfold iF at h
 cases e:aK (gB a b)with
 |false=>rfl
 |true=>rw[e]at h;simp at h
theorem pK{dn:Bool}{V:List gV}{s:nR}: ∀n,Gq dn V n (stepW dn V s)=Gq dn V (n+1) s
 |0=>rfl
 |n+1=>by show stepW dn V (Gq dn V n (stepW dn V s))=_;rw[pK n];rfl
theorem step_up{T:List Row}{c:Nat->dQ}{V:List gV}(h:qF T c V){k b:dQ}{s:nR}(ha:RQ T false k b s)(hd:eX s=false):
 ∃j,j<V.length∧aW (c j) b<=0∧aW b (c (j+1))<0∧RQ T false k (c (j+1)) (stepW false V s)∧Hu false V s (stepW false V s):=by
 have hnd:=(Ui hd).1
 have ht:=ha.todo
 rw[if_neg (by simp)]at ht
 rw[ht]at hnd
 have hb:=(pq (Bv hnd)).2.2
 obtain⟨j,hj,h1,h2⟩:=h.ahc hb
 obtain⟨e1,e2,e3,e4⟩:=afX h ha hb hj h1 h2
 have hf:=OZ (p:=fun v=>fitsV false v (gB b mF)) hj e2 (fun i hi hne=>Zw h hi hne hj h1 h2)
 have es:stepW false V s=iT false s (V.getD j default):=by
  unfold stepW
  rw[e1,hf]
 refine⟨j,hj,h1,h2,by rw[es];exact e3,hd,gB b mF,?_,Bv hnd,j,hj,e2,e4,fun i hi hne=>Zw h hi hne hj h1 h2,es⟩
 rw[ht,iF,Bv hnd];rfl
theorem YK{T:List Row}{c:Nat->dQ}{V:List gV}(h:qF T c V){k b:dQ}{s:nR}(ha:RQ T true k b s)(hd:eX s=false):
 ∃j,j<V.length∧aW (c j) b<0∧0<=aW (c (j+1)) b∧RQ T true k (c j) (stepW true V s)∧Hu true V s (stepW true V s):=by
 have hnd:=(Ui hd).1
 have ht:=ha.todo
 rw[if_pos rfl]at ht
 rw[ht]at hnd
 have hb:=(pq (Bv hnd)).2.2
 obtain⟨j,hj,h1,h2⟩:=h.ahd hb ha.vb
 obtain⟨e1,e2,e3,e4⟩:=ahk h ha hb hj h1 h2
 have hf:=OZ (p:=fun v=>fitsV true v (gB kG b)) hj e2 (fun i hi hne=>Zx h hi hne hj h1 h2)
 have es:stepW true V s=iT true s (V.getD j default):=by
  unfold stepW
  rw[e1,hf]
 refine⟨j,hj,h1,h2,by rw[es];exact e3,hd,gB kG b,?_,Bv hnd,j,hj,e2,e4,fun i hi hne=>Zx h hi hne hj h1 h2,es⟩
 rw[ht,iF,Bv hnd];rfl
def Yy(T:List Row)(dn:Bool)(V:List gV)(k:dQ)(s:nR)(m:Nat):Prop:=
 m<=V.length∧eX (Gq dn V m s)=true∧(∀n,n<m->Hu dn V (Gq dn V n s) (Gq dn V (n+1) s))∧∀n,n<=m-> ∃b,RQ T dn k b (Gq dn V n s)
theorem agb{T:List Row}{c:Nat->dQ}{V:List gV}(h:qF T c V){k:dQ}: ∀(d:Nat)(b:dQ)(s:nR),RQ T false k b s->(∀i,i<V.length->aW b (c (i+1))<0->V.length<=d+i)->d<=V.length-> ∃m,m<=d∧Yy T false V k s m:=by
 intro d
 induction d with
 |zero=>
  intro b s ha hm _
  cases hd:eX s with
  |true=>exact⟨0,Nat.le_refl _,Nat.zero_le _,hd,fun n hn=>Om,fun n hn=>⟨b,(show n=0 by omega)▸ha⟩⟩
  |false=>
   obtain⟨j,hj,h1,h2,_⟩:=step_up h ha hd
   have:=hm j hj h2
   omega
 |succ d ih=>
  intro b s ha hm hdl
  cases hd:eX s with
  |true=>exact⟨0,Nat.zero_le _,Nat.zero_le _,hd,fun n hn=>Om,fun n hn=>⟨b,(show n=0 by omega)▸ha⟩⟩
  |false=>
   obtain⟨j,hj,h1,h2,h3,h4⟩:=step_up h ha hd
   obtain⟨m,hmd,_,r1,r2,r3⟩:=ih (c (j+1)) (stepW false V s) h3 (fun i hi hlt=>by
    have h5:=hm j hj h2
    rcases Nat.lt_or_ge j i with h6|h6
    ·omega
    ·have h7:=h.mono (i:=i+1) (j:=j+1) Om Om
     have:=cmp_neg (c (i+1)) (c (j+1))
     omega) Om
   refine⟨m+1,Om,Om,by rw[<-pK];exact r1,fun n hn=> ?_,fun n hn=> ?_⟩
   ·cases n with
    |zero=>exact h4
    |succ n=>rw[<-pK,<-pK];exact r2 n Om
   ·cases n with
    |zero=>exact⟨b,ha⟩
    |succ n=>rw[<-pK];exact r3 n Om
theorem agc{T:List Row}{c:Nat->dQ}{V:List gV}(h:qF T c V){k:dQ}: ∀(d:Nat)(b:dQ)(s:nR),RQ T true k b s->(∀i,i<V.length->aW (c i) b<0->i<d)->d<=V.length-> ∃m,m<=d∧Yy T true V k s m:=by
 intro d
 induction d with
 |zero=>
  intro b s ha hm _
  cases hd:eX s with
  |true=>exact⟨0,Nat.le_refl _,Nat.zero_le _,hd,fun n hn=>Om,fun n hn=>⟨b,(show n=0 by omega)▸ha⟩⟩
  |false=>
   obtain⟨j,hj,h1,h2,_⟩:=YK h ha hd
   have:=hm j hj h1
   omega
 |succ d ih=>
  intro b s ha hm hdl
  cases hd:eX s with
  |true=>exact⟨0,Nat.zero_le _,Nat.zero_le _,hd,fun n hn=>Om,fun n hn=>⟨b,(show n=0 by omega)▸ha⟩⟩
  |false=>
   obtain⟨j,hj,h1,h2,h3,h4⟩:=YK h ha hd
   obtain⟨m,hmd,_,r1,r2,r3⟩:=ih (c j) (stepW true V s) h3 (fun i hi hlt=>by
    have h5:=hm j hj h1
    rcases Nat.lt_or_ge i j with h6|h6
    ·omega
    ·have h7:=h.mono (i:=j) (j:=i) Om Om
     have:=cmp_neg (c j) (c i)
     omega) Om
   refine⟨m+1,Om,Om,by rw[<-pK];exact r1,fun n hn=> ?_,fun n hn=> ?_⟩
   ·cases n with
    |zero=>exact h4
    |succ n=>rw[<-pK,<-pK];exact r2 n Om
   ·cases n with
    |zero=>exact⟨b,ha⟩
    |succ n=>rw[<-pK];exact r3 n Om
def Dt(dn:Bool)(k:dQ):nR:=(if dn then iF (gB kG k)else iF (gB k mF),[])
theorem SA{T:List Row}{dn:Bool}{k:dQ}(hk:aP k.1 k.2=true):RQ T dn k k (Dt dn k):=by
 refine⟨hk,rfl,?_⟩
 cases dn<;>exact rfl
theorem acZ{T:List Row}{c:Nat->dQ}{V:List gV}(h:qF T c V){k:dQ}(hk:aP k.1 k.2=true)(dn:Bool): ∃m,Yy T dn V k (Dt dn k) m:=by
 cases dn with
 |false=>
  obtain⟨m,_,hm⟩:=agb h V.length k (Dt false k) (SA hk) (fun i hi _=>Om) (Nat.le_refl _)
  exact⟨m,hm⟩
 |true=>
  obtain⟨m,_,hm⟩:=agc h V.length k (Dt true k) (SA hk) (fun i hi _=>hi) (Nat.le_refl _)
  exact⟨m,hm⟩
theorem aax{T:List Row}(hT:iW T):dw T (gB kG mF)=T:=by
 show List.filter _ T=T
 rw[List.filter_eq_self]
 intro x hx
 have h1:(x.1.length:Int)<=64:=by
  have:=hT.ok x hx
  simp only[rowOk,Bool.and_eq_true,decide_eq_true_eq]at this
  exact this.1
 show mY (gB kG mF) x.1=true
 rw[sO (by decide)]
 refine⟨h1,?_,?_⟩
 ·have h2:=bot_le (b:=(x.1,false))
  have h3:=cmp_neg kG (x.1,false)
  show¬aW (x.1,false) kG<0
  omega
 ·rw[Rj];exact⟨rfl,.inl rfl⟩
theorem Gf{T:List Row}(hT:iW T){b:dQ}(hb:aP b.1 b.2=true):T=dw T (gB kG b)++dw T (gB b mF):=by
 have:=r_ (a:=kG) (b:=b) (c:=mF) (gX jU hb bot_le) (gX hb lU (le_top hb)) hT.sorted
 rw[this,aax hT]
theorem Ie{T:List Row}(hT:iW T){b:dQ}(hb:aP b.1 b.2=true):iC T b.1 b.2=(dw T (gB kG b)).length:=by
 have hs:=Gf hT hb
 unfold iC
 have key: ∀(X Y:List Row)(p:Row->Bool),(∀x∈X,p x=true)->(∀y∈Y,p y=false)->(X++Y).takeWhile p=X:=by
  intro X
  induction X with
  |nil=>
   intro Y p _ h2
   cases Y with
   |nil=>rfl
   |cons y Y=>rw[List.nil_append,List.takeWhile_cons,h2 y (by simp)];rfl
  |cons x X ih=>
   intro Y p h1 h2
   rw[List.cons_append,List.takeWhile_cons,h1 x (by simp),if_pos rfl,ih Y p (fun z hz=>h1 z (by simp[hz])) h2]
 have e:=key (dw T (gB kG b)) (dw T (gB b mF)) (fun r=>decide (aV r.1 false b.1 b.2<0)) (fun x hx=>by
  have h1:=(sO (gX jU hb bot_le)).1 (BK.1 hx).2
  simpa using h1.2.2) (fun x hx=>by
  have h1:=(sO (gX hb lU (le_top hb))).1 (BK.1 hx).2
  simpa using h1.2.1)
 rw[<-hs]at e
 rw[e]
theorem agL{T:List Row}(hT:iW T){k b:dQ}(hk:aP k.1 k.2=true)(hb:aP b.1 b.2=true)(hkb:aW k b<=0)(h:dw T (gB k b)≠[]∨b=mF):
 qE T k.1 k.2=match dw T (gB k b)with|[]=>(([],[]),false)|x::_=>(x,true):=by
 have hs:=Gf hT hk
 have hp:=Ie hT hk
 have h2:=r_ (a:=k) (b:=b) (c:=mF) (gX hk hb hkb) (gX hb lU (le_top hb)) hT.sorted
 have hv:=jf.2 hT
 cases e:dw T (gB k b)with
 |nil=>
  have hbt:b=mF:=h.resolve_left (fun h=>h e)
  rw[hbt]at e
  rw[e,List.append_nil]at hs
  refine yh (.inr (.inr ?_))
  rw[hp,<-hs]
 |cons x R=>
  rw[e]at h2
  rw[<-h2]at hs
  have hlt:iC T k.1 k.2<T.length:=by
   have:=congrArg List.length hs
   rw[List.length_append,List.cons_append,List.length_cons]at this
   omega
  rw[VO hv hk hlt,hp]
  have:T.getD (dw T (gB kG k)).length default=x:=by
   conv=>lhs;arg 1;rw[hs]
   simp[List.getD]
  rw[this]
theorem Y9{T:List Row}(hT:iW T){k b:dQ}(hk:aP k.1 k.2=true)(hb:aP b.1 b.2=true)(hkb:aW b k<=0)(h:dw T (gB b k)≠[]∨b=kG):
 nX T k.1 k.2=match(dw T (gB b k)).getLast? with|none=>(([],[]),false)|some x=>(x,true):=by
 have hs:=Gf hT hk
 have hp:=Ie hT hk
 have h2:=r_ (a:=kG) (b:=b) (c:=k) (gX jU hb bot_le) (gX hb hk hkb) hT.sorted
 have hv:=jf.2 hT
 rw[VF hv hk,hp]
 rcases List.eq_nil_or_concat (dw T (gB b k))with e|⟨R,x,e⟩
 ·have hbt:b=kG:=h.resolve_left (fun h=>h e)
  rw[e]
  rw[hbt]at e
  rw[e];rfl
 ·rw[e]at h2⊢
  have hl:0<(dw T (gB kG k)).length:=by rw[<-h2];simp;omega
  rw[last_pos hl]
  have:T.getD ((dw T (gB kG k)).length-1) default=x:=by
   conv=>lhs;arg 1;rw[hs]
   rw[nJ Om,<-h2]
   simp[List.getD]
  rw[this]
  simp
end Go.Sx
namespace Go.Sx
open Go
variable {P:Program}{G:Nat->Option (Nat×(Nat->D))}{nt:Nat}{E:List Nat}
theorem GY{I:Nat->Prop}{ρ:Nat->Loc}{w:World}{L:Loc}{fn fn' sz:Nat}{ka va:Bool}{kk:List IntKind}{has:List Int->Bool}{get:List Int->Nat->FC}(hd: ∀k j,has k=true->j<sz-> ∃x,get k j= .d x)(h:dX I ρ w L (.dW fn ka kk va sz has get)):dX I ρ w L (.dW fn' ka kk va sz has get):=by
 obtain⟨es,clock,h1,h2⟩:=h
 refine⟨es,clock,h1,{stamped:=h2.stamped,keys:=h2.keys,ent:=fun e he k hk hke=> ?_,all:=h2.all}⟩
 obtain⟨hh,us,e1,e2,e3,e4⟩:=h2.ent e he k hk hke
 refine⟨hh,us,e1,e2,fun j hj=> ?_,e4⟩
 obtain⟨u,hu,hr⟩:=e3 j hj
 obtain⟨x,hx⟩:=hd k j hh hj
 refine⟨u,hu,?_⟩
 rw[hx]at hr⊢
 exact hr
theorem vX.trans{a b c:St}(h:vX a b)(k:vX b c):vX a c:=⟨fun hc=>by obtain⟨I,ρ,hc⟩:=h.out hc;exact k.out hc⟩
end Go.Sx
namespace Go.Sx
open Go
variable {P:Program}{G:Nat->Option (Nat×(Nat->D))}
theorem Spec.yO{f:FuncId}{args:List SV}{pre l9:List (Nat×bG)}{res:SV}{m fn E sz n nk:Nat}{get:Nat->Nat->FC}{rows:Nat->Option fM}
 (h:Spec P G f args pre res (l9++[(m,.dP fn E sz n get),(fn,.fam nk rows)])) (hk:aQ l9=aQ pre) (hok: ∀i j,i<n->j<sz->Z9 rows (get i j))
 (hb: ∀q b k,(q,b)∈l9->inB k b->k∈aQ l9) (hr: ∀k,dO k (pV m sz (fun i j=>Lh rows (get i j)) res)->k∈aQ l9):
 Spec P G f args pre (pV m sz (fun i j=>Lh rows (get i j)) res) l9 where
 keys:=by
  have e:newP pre l9=[]:=by
   unfold newP;rw[hk];rw[List.drop_eq_nil_of_le];simp[aQ]
  rw[e,hk,List.append_nil]
 apart:=by
  intro q hq
  have e:newP pre l9=[]:=by
   unfold newP;rw[hk];rw[List.drop_eq_nil_of_le];simp[aQ]
  rw[e]at hq;cases hq
 lu:=hr
 jI:=hb
 kind:=fun q b c h1 h2=>h.kind q b c (List.mem_append.2 (.inl h1)) h2
 enter:=h.enter
 calls:=by
  intro w I ρ vs hr0 hp hi hl hg
  refine Calls.mono (h.calls w I ρ vs hr0 hp hi hl hg) ?_
  rintro e w' ⟨v,I',ρ',rfl,ha⟩
  have hm:(m,bG.dP fn E sz n get)∈l9++[(m,.dP fn E sz n get),(fn,.fam nk rows)]:=by simp
  have hf:(fn,bG.fam nk rows)∈l9++[(m,.dP fn E sz n get),(fn,.fam nk rows)]:=by simp
  have hpl:pre.length=l9.length:=by have:=congrArg List.length hk;simpa[aQ]using this.symm
  have hnew:newP pre (l9++[(m,.dP fn E sz n get),(fn,.fam nk rows)])=[m,fn]:=by
   unfold newP
   have e:aQ (l9++[(m,bG.dP fn E sz n get),(fn,.fam nk rows)])=aQ l9++[m,fn]:=by simp[aQ]
   rw[e,List.drop_left' (by simp[aQ,hpl])]
  have hown:=ha.own m _ hm
  have ig:=ha.own fn _ hf
  let I2:=adh I' (ρ' m) (ρ' fn) (.dP fn E sz n get) (.fam nk rows)
  have hI: ∀b,I' b->I2 b:=fun b hb=> .inl hb
  have hS:Same I' w' w':=fun _ _ _=>rfl
  have hrow:dX I2 ρ' w' (ρ' m) (.row E sz n fun i j=>Lh rows (get i j)):=
   UR (ig.mono hI hS (fun _ _=>rfl) (fun _ _=>rfl)) (fun j hj=> .inr (.inr hj)) hok (hown.mono hI hS (fun _ _=>rfl) (fun _ _=>rfl))
  have hne:newP pre l9=[]:=by
   unfold newP;rw[hk];rw[List.drop_eq_nil_of_le];simp[aQ]
  have hgo: ∀{k:Nat},oQ ρ pre (l9++[(m,bG.dP fn E sz n get),(fn,bG.fam nk rows)]) k->oQ ρ pre l9 k:=fun⟨a,c,h1,h2,h3,h4⟩=>⟨a,c,h1,h2,h3,fun b hb=>h4 b (List.mem_append.2 (.inl hb))⟩
  refine⟨_,I2,ρ',rfl,⟨ha.old,?_,?_,fun b hb=> .inl (ha.i0 b hb),?_,?_,ha.keep,fun n b k _ hn=>(by rw[hne]at hn;cases hn),fun n m b c k _ _ hn=>(by rw[hne]at hn;cases hn)⟩⟩
  ·exact JW (fun hc=> .inr (.inl ⟨hc,rfl⟩)) hrow (ha.res.mono hI hS (fun _ _=>rfl))
  ·intro q b hq
   exact(ha.own q b (List.mem_append.2 (.inl hq))).mono hI hS (fun _ _=>rfl) (fun _ _=>rfl)
  ·rintro b (hb'|hb'|hb')
   ·exact(ha.i1 b hb').imp_right (fun h=>h.imp_right hgo)
   ·exact .inr ((ha.sep m _ b hm (by rw[hnew];simp) hb').2.imp_right hgo)
   ·exact .inr ((ha.sep fn _ b hf (by rw[hnew];simp) hb').2.imp_right hgo)
  ·rintro b (hb'|hb'|hb')
   ·exact ha.nT b hb'
   ·exact Yo hown hb'
   ·exact Yo ig hb'
def CellIs(rows:Nat->Option fM)(nk:Nat)(c:FC)(E s l:Nat)(g:Nat->Nat->D):Prop:=
 ∃k g',c= .fs k s l∧k<nk∧rows k=some ⟨E,s,l,g'⟩∧aJ l s g' g
structure l7 (rows:Nat->Option fM) (nk E s n:Nat) (sl:Nat->FC) (ln:Nat->Nat) (cn:Nat->Nat->Nat->D):Prop where
 cell: ∀i,i<n->CellIs rows nk (sl i) E s (ln i) (cn i)
 inj: ∀i j k l l',i<n->j<n->sl i= .fs k s l->sl j= .fs k s l'->i=j
theorem CellIs.ok{rows:Nat->Option fM}{nk:Nat}{c:FC}{E s l:Nat}{g:Nat->Nat->D}(h:CellIs rows nk c E s l g):Z9 rows c:=by
 obtain⟨k,g',rfl,_,h2,_⟩:=h
 exact⟨_,h2,rfl,Nat.le_refl _⟩
theorem CellIs.le{rows:Nat->Option fM}{nk:Nat}{c:FC}{E s l:Nat}{g:Nat->Nat->D}(h:CellIs rows nk c E s l g):aF (Lh rows c) (.list l s g):=by
 obtain⟨k,g',rfl,_,h2,h3⟩:=h
 simp only[Lh]
 refine aF.list rfl (fun _=>rfl) (fun i j hi hj=> ?_)
 simp only[mO,h2]
 exact h3.le i j hi hj
theorem l7.nil{rows:Nat->Option fM}{nk E s:Nat}{sl:Nat->FC}{ln:Nat->Nat}{cn:Nat->Nat->Nat->D}:l7 rows nk E s 0 sl ln cn:=
 ⟨fun i h=>absurd h (Nat.not_lt_zero _),fun i _ _ _ _ h=>absurd h (Nat.not_lt_zero _)⟩
theorem l7.push{rows:Nat->Option fM}{nk E s n:Nat}{sl sl':Nat->FC}{ln Zi:Nat->Nat}{cn cn':Nat->Nat->Nat->D}{g:Nat->Nat->D}(h:l7 rows nk E s n sl ln cn)(hs: ∀i,i<n->sl' i=sl i∧Zi i=ln i∧cn' i=cn i)
 (hn:sl' n= .fs nk s (Zi n)) (hg:aJ (Zi n) s g (cn' n)):l7 (jc rows nk (some ⟨E,s,Zi n,g⟩)) (nk+1) E s (n+1) sl' Zi cn':=by
 refine⟨fun i hi=> ?_,fun i j k l l' hi hj h1 h2=> ?_⟩
 ·by_cases e:i=n
  ·subst e
   exact⟨nk,g,hn,Om,by simp[jc],hg⟩
  ·obtain⟨e1,e2,e3⟩:=hs i Om
   rw[e1,e2,e3]
   obtain⟨k,g',h1,h2,h3,h4⟩:=h.cell i Om
   exact⟨k,g',h1,Om,by simp only[jc];rw[if_neg Om];exact h3,h4⟩
 ·by_cases e:i=n<;>by_cases e':j=n
  ·omega
  ·subst e
   rw[hn]at h1
   rw[(hs j Om).1]at h2
   obtain⟨k',g',h3,h4,_⟩:=h.cell j Om
   rw[h2]at h3
   simp only[FC.fs.injEq]at h1 h3
   omega
  ·subst e'
   rw[hn]at h2
   rw[(hs i Om).1]at h1
   obtain⟨k',g',h3,h4,_⟩:=h.cell i Om
   rw[h1]at h3
   simp only[FC.fs.injEq]at h2 h3
   omega
  ·rw[(hs i Om).1]at h1
   rw[(hs j Om).1]at h2
   exact h.inj i j k l l' Om Om h1 h2
theorem l7.swap{rows:Nat->Option fM}{nk E s n p kp lp:Nat}{sl sl':Nat->FC}{ln Zi:Nat->Nat}{cn cn':Nat->Nat->Nat->D}{g:Nat->Nat->D}(h:l7 rows nk E s n sl ln cn)(hp:p<n)(hkp:sl p= .fs kp s lp)(hs: ∀i,i<n->i≠p->sl' i=sl i∧Zi i=ln i∧cn' i=cn i)
 (hn:sl' p= .fs nk s (Zi p)) (hg:aJ (Zi p) s g (cn' p)):l7 (jc (jc rows kp none) nk (some ⟨E,s,Zi p,g⟩)) (nk+1) E s n sl' Zi cn':=by
 refine⟨fun i hi=> ?_,fun i j k l l' hi hj h1 h2=> ?_⟩
 ·by_cases e:i=p
  ·subst e
   exact⟨nk,g,hn,Om,by simp[jc],hg⟩
  ·obtain⟨e1,e2,e3⟩:=hs i hi e
   rw[e1,e2,e3]
   obtain⟨k,g',h1,h2,h3,h4⟩:=h.cell i hi
   have hne:k≠kp:=by
    rintro rfl
    exact e (h.inj i p k _ _ hi hp h1 hkp)
   exact⟨k,g',h1,Om,by simp only[jc];rw[if_neg Om,if_neg hne];exact h3,h4⟩
 ·by_cases e:i=p<;>by_cases e':j=p
  ·omega
  ·subst e
   rw[hn]at h1
   rw[(hs j hj e').1]at h2
   obtain⟨k',g',h3,h4,_⟩:=h.cell j hj
   rw[h2]at h3
   simp only[FC.fs.injEq]at h1 h3
   omega
  ·subst e'
   rw[hn]at h2
   rw[(hs i hi e).1]at h1
   obtain⟨k',g',h3,h4,_⟩:=h.cell i hi
   rw[h1]at h3
   simp only[FC.fs.injEq]at h2 h3
   omega
  ·rw[(hs i hi e).1]at h1
   rw[(hs j hj e').1]at h2
   exact h.inj i j k l l' hi hj h1 h2
end Go.Sx
namespace Go.Sx
open Go
theorem Spec.at2{P:Program}{G:Nat->Option (Nat×(Nat->D))}{f:FuncId}{args:List SV}{n k:Nat}{b b' c c':bG}{res:SV}(h:Spec P G f args [(n,b),(k,c)] res [(n,b'),(k,c')])(m j:Nat)(hne:n≠k)(hmj:m≠j):
 Spec P G f (qI (fun i=>if i=n then m else j) args) [(m,lC (fun i=>if i=n then m else j) b),(j,lC (fun i=>if i=n then m else j) c)] (j_ (fun i=>if i=n then m else j) res) [(m,lC (fun i=>if i=n then m else j) b'),(j,lC (fun i=>if i=n then m else j) c')]:=by
 have:=h.ren (fun i=>if i=n then m else j) (by
  intro x y hx hy e
  simp only[aQ,List.map_cons,List.map_nil,List.mem_cons,List.not_mem_nil,or_false]at hx hy
  rcases hx with rfl|rfl<;>rcases hy with rfl|rfl<;>simp_all[Ne.symm])
 simpa only[xC,if_true,if_neg (Ne.symm hne)]using this
theorem Spec.new2{P:Program}{G:Nat->Option (Nat×(Nat->D))}{f:FuncId}{args:List SV}{n k:Nat}{b c:bG}{res:SV}(h:Spec P G f args [] res [(n,b),(k,c)])(m j:Nat)(hne:n≠k)(hmj:m≠j):
 Spec P G f (qI (fun i=>if i=n then m else j) args) [] (j_ (fun i=>if i=n then m else j) res) [(m,lC (fun i=>if i=n then m else j) b),(j,lC (fun i=>if i=n then m else j) c)]:=by
 have:=h.ren (fun i=>if i=n then m else j) (by
  intro x y hx hy e
  simp only[aQ,List.map_cons,List.map_nil,List.mem_cons,List.not_mem_nil,or_false]at hx hy
  rcases hx with rfl|rfl<;>rcases hy with rfl|rfl<;>simp_all[Ne.symm])
 simpa only[xC,if_true,if_neg (Ne.symm hne)]using this
end Go.Sx
namespace Go.Sx
open Go
theorem gy.put{rows rows':Nat->Option fM}{k E s l:Nat}{g g':Nat->Nat->D}(h:gy rows rows')(hg:aJ l s g g'):gy (jc rows k (some ⟨E,s,l,g⟩)) (jc rows' k (some ⟨E,s,l,g'⟩)):=by
 refine⟨fun i r' hr=> ?_⟩
 simp only[jc]at hr⊢
 by_cases e:i=k
 ·rw[if_pos e]at hr⊢
  cases hr
  exact⟨_,rfl,rfl,rfl,rfl,hg⟩
 ·rw[if_neg e]at hr⊢
  exact h.le i r' hr
end Go.Sx
namespace Go.Sx
open Go
theorem Spec.res{P:Program}{G:Nat->Option (Nat×(Nat->D))}{f:FuncId}{args:List SV}{pre post:List (Nat×bG)}{res res':SV}(h:Spec P G f args pre res post)(hle:aB res res')(hn: ∀n,dO n res'->n∈aQ post):Spec P G f args pre res' post:=
 {keys:=h.keys,apart:=h.apart,lu:=hn,jI:=h.jI,kind:=h.kind,enter:=h.enter
  calls:=fun w I ρ vs h1 h2 h3 h4 h5=>(h.calls w I ρ vs h1 h2 h3 h4 h5).mono (by
   rintro e w' ⟨v,I',ρ',rfl,ha⟩
   exact⟨v,I',ρ',rfl,{ha with res:=hle.le _ _ _ _ ha.res}⟩)}
end Go.Sx
namespace Go.Sx
open Go
theorem Spec.at3{P:Program}{G:Nat->Option (Nat×(Nat->D))}{f:FuncId}{args:List SV}{n k q:Nat}{b b' c c' d d':bG}{res:SV}(h:Spec P G f args [(n,b),(k,c),(q,d)] res [(n,b'),(k,c'),(q,d')])(m j r:Nat)(h1:n≠k)(h2:n≠q)(h3:k≠q)(g1:m≠j)(g2:m≠r)(g3:j≠r):
 Spec P G f (qI (fun i=>if i=n then m else if i=k then j else r) args) [(m,lC (fun i=>if i=n then m else if i=k then j else r) b),(j,lC (fun i=>if i=n then m else if i=k then j else r) c),(r,lC (fun i=>if i=n then m else if i=k then j else r) d)]
  (j_ (fun i=>if i=n then m else if i=k then j else r) res) [(m,lC (fun i=>if i=n then m else if i=k then j else r) b'),(j,lC (fun i=>if i=n then m else if i=k then j else r) c'),(r,lC (fun i=>if i=n then m else if i=k then j else r) d')]:=by
 have:=h.ren (fun i=>if i=n then m else if i=k then j else r) (by
  intro x y hx hy e
  simp only[aQ,List.map_cons,List.map_nil,List.mem_cons,List.not_mem_nil,or_false]at hx hy
  rcases hx with rfl|rfl|rfl<;>rcases hy with rfl|rfl|rfl<;>simp_all[Ne.symm])
 simpa only[xC,if_true,if_neg (Ne.symm h1),if_neg (Ne.symm h2),if_neg (Ne.symm h3)]using this
end Go.Sx
namespace Go.Sx
open Go
variable {P:Program}{G:Nat->Option (Nat×(Nat->D))}
theorem Spec.akI{f:FuncId}{args:List SV}{res:SV}{n1 n2 fn nk s1 s2:Nat}{a1 a2 v1 v2:Bool}{k1 k2:List IntKind}{h1 h2:List Int->Bool}{g1 g2:List Int->Nat->FC}{rows:Nat->Option fM}
 (h:Spec P G f args [] res [(n1,.dW fn a1 k1 v1 s1 h1 g1),(n2,.dW fn a2 k2 v2 s2 h2 g2),(fn,.fam nk rows)]) (hd1: ∀k j,h1 k=true->j<s1-> ∃x,g1 k j= .d x) (hd2: ∀k j,h2 k=true->j<s2-> ∃x,g2 k j= .d x)
 (hr: ∀n,dO n res->n=n1∨n=n2):Spec P G f args [] res [(n1,.dW n1 a1 k1 v1 s1 h1 g1),(n2,.dW n2 a2 k2 v2 s2 h2 g2)]where
 keys:=rfl
 apart:=fun n _ hm=>by cases hm
 lu:=fun n hn=>by rcases hr n hn with rfl|rfl<;>simp[aQ]
 jI:=fun n b m hn hm=>by
  simp only[List.mem_cons,Prod.mk.injEq,List.not_mem_nil,or_false]at hn
  rcases hn with⟨rfl,rfl⟩|⟨rfl,rfl⟩<;>(simp only[inB]at hm;subst hm;simp[aQ])
 kind:=fun n b c _ hc=>by cases hc
 enter:=h.enter
 calls:=fun w I ρ vs hargs hpre hinj hlt hg=>by
  refine(h.calls w I ρ vs hargs hpre hinj hlt hg).mono ?_
  rintro e w' ⟨v,I',ρ',rfl,ha⟩
  have old: ∀n b,(n,b)∈[(n1,bG.dW n1 a1 k1 v1 s1 h1 g1),(n2,.dW n2 a2 k2 v2 s2 h2 g2)]-> ∃c,(n,c)∈[(n1,bG.dW fn a1 k1 v1 s1 h1 g1),(n2,.dW fn a2 k2 v2 s2 h2 g2),(fn,.fam nk rows)]∧(∀k,foot (ρ' n) b k->foot (ρ' n) c k)∧(dX I' ρ' w' (ρ' n) c->dX I' ρ' w' (ρ' n) b):=by
   intro n b hn
   simp only[List.mem_cons,Prod.mk.injEq,List.not_mem_nil,or_false]at hn
   rcases hn with⟨rfl,rfl⟩|⟨rfl,rfl⟩
   ·exact⟨.dW fn a1 k1 v1 s1 h1 g1,List.mem_cons_self,fun k hk=>hk,GY hd1⟩
   ·exact⟨.dW fn a2 k2 v2 s2 h2 g2,List.mem_cons_of_mem _ List.mem_cons_self,fun k hk=>hk,GY hd2⟩
  have hnew: ∀{n:Nat}{b:bG},(n,b)∈[(n1,bG.dW fn a1 k1 v1 s1 h1 g1),(n2,.dW fn a2 k2 v2 s2 h2 g2),(fn,.fam nk rows)]->n∈newP [] [(n1,bG.dW fn a1 k1 v1 s1 h1 g1),(n2,.dW fn a2 k2 v2 s2 h2 g2),(fn,.fam nk rows)]:=by
   intro n b hn
   show n∈(aQ _).drop 0
   exact List.mem_map.2 ⟨_,hn,rfl⟩
  exact⟨v,I',ρ',rfl,{
   old:=fun n hn=>by cases hn
   res:=ha.res
   own:=fun n b hn=>by obtain⟨c,hc,_,hb⟩:=old n b hn;exact hb (ha.own n c hc)
   i0:=ha.i0
   i1:=fun b hb=>(ha.i1 b hb).imp_right (fun h=>h.imp_right oQ.nil)
   nT:=ha.nT
   keep:=ha.keep
   sep:=fun n b k hn _ hf=>by obtain⟨c,hc,hft,_⟩:=old n b hn;exact⟨(ha.sep n c k hc (hnew hc) (hft k hf)).1,(ha.sep n c k hc (hnew hc) (hft k hf)).2.imp_right oQ.nil⟩
   inj:=fun n m b c k hn hm _ _ hf hf'=>by
    obtain⟨b',hb',hft,_⟩:=old n b hn
    obtain⟨c',hc',hft',_⟩:=old m c hm
    exact ha.inj n m b' c' k hb' hc' (hnew hb') (hnew hc') (hft k hf) (hft' k hf')}⟩
theorem Spec.gany{f:FuncId}{args:List SV}{res:SV}{post:List (Nat×bG)}{n fn sz:Nat}{ka va:Bool}{kk:List IntKind}{has:List Int->Bool}{get:List Int->Nat->FC}
 (h:Spec P G f args [(n,.dW n ka kk va sz has get)] res post) (hd: ∀k j,has k=true->j<sz-> ∃x,get k j= .d x):Spec P G f args [(n,.dW fn ka kk va sz has get)] res post where
 keys:=h.keys
 apart:=h.apart
 lu:=h.lu
 jI:=h.jI
 kind:=fun m b c hm hc=>by
  simp only[List.mem_singleton,Prod.mk.injEq]at hc
  obtain⟨rfl,rfl⟩:=hc
  have:=h.kind m b _ hm List.mem_cons_self
  cases b<;>first|exact this|exact this.elim
 enter:=h.enter
 calls:=fun w I ρ vs hargs hpre hinj hlt hg=>by
  have hp: ∀m b,(m,b)∈[(n,bG.dW n ka kk va sz has get)]->dX I ρ w (ρ m) b∧(live (ρ m) b-> ¬I (ρ m).b):=by
   intro m b hm
   simp only[List.mem_singleton,Prod.mk.injEq]at hm
   obtain⟨rfl,rfl⟩:=hm
   have:=hpre m _ List.mem_cons_self
   exact⟨GY hd this.1,this.2⟩
  refine(h.calls w I ρ vs hargs hp (fun a b c d ha hb _ _ _=>by
   simp only[List.mem_singleton,Prod.mk.injEq]at ha hb
   rw[ha.1,hb.1]) hlt hg).mono ?_
  rintro e w' ⟨v,I',ρ',rfl,ha⟩
  have hgo: ∀k,oQ ρ [(n,bG.dW n ka kk va sz has get)] post k->oQ ρ [(n,bG.dW fn ka kk va sz has get)] post k:=by
   rintro k ⟨m,c,h1,h2,h3,h4⟩
   simp only[List.mem_singleton,Prod.mk.injEq]at h1
   obtain⟨rfl,rfl⟩:=h1
   exact⟨m,_,List.mem_cons_self,trivial,h3,h4⟩
  have hk:(fun k=> ∃m b,(m,b)∈[(n,bG.dW n ka kk va sz has get)]∧live (ρ m) b∧(ρ m).b=k)=(fun k=> ∃m b,(m,b)∈[(n,bG.dW fn ka kk va sz has get)]∧live (ρ m) b∧(ρ m).b=k):=by
   funext k
   refine propext ⟨?_,?_⟩<;>
    (rintro⟨m,b,h1,h2,h3⟩
     simp only[List.mem_singleton,Prod.mk.injEq]at h1
     obtain⟨rfl,rfl⟩:=h1
     exact⟨m,_,List.mem_cons_self,trivial,h3⟩)
  exact⟨v,I',ρ',rfl,{
   old:=ha.old
   res:=ha.res
   own:=ha.own
   i0:=ha.i0
   i1:=fun b hb=>(ha.i1 b hb).imp_right (fun h=>h.imp_right (hgo b))
   nT:=ha.nT
   keep:=by rw[<-hk];exact ha.keep
   sep:=fun m b k h1 h2 h3=>⟨(ha.sep m b k h1 h2 h3).1,(ha.sep m b k h1 h2 h3).2.imp_right (hgo k)⟩
   inj:=ha.inj}⟩
end Go.Sx
namespace Go.Sx
open Go
theorem yc{T:List Row}: ∀{l:List dL}{a b:dQ},qH T a l b-> ∀i,i<l.length->((l.getD i default).pk,(l.getD i default).pt)=(if i=0 then a else((l.getD (i-1) default).qk,(l.getD (i-1) default).qt))∧FX T (l.getD i default)
 |[],_,_,_,i,hi=>by simp at hi
 |v::l,a,b,h,0,_=>⟨h.1,h.2.1⟩
 |v::l,a,b,h,i+1,hi=>by
  obtain⟨h1,h2⟩:=yc h.2.2 i (by simpa using hi)
  refine⟨?_,h2⟩
  have e:(v::l).getD (i+1) default=l.getD i default:=rfl
  rw[e,h1]
  cases i with
  |zero=>rfl
  |succ j=>rw[if_neg (Nat.succ_ne_zero j),if_neg (Nat.succ_ne_zero _)];rfl
theorem Ho{T:List Row}: ∀{l:List dL}{a b:dQ},qH T a l b->0<l.length->((l.getD (l.length-1) default).qk,(l.getD (l.length-1) default).qt)=b
 |[],_,_,_,h=>by simp at h
 |[v],_,_,h,_=>h.2.2
 |v::w::l,a,b,h,_=>Ho (l:=w::l) h.2.2 (by simp)
theorem Bd{T:List Row}: ∀{l:List dL}{a b:dQ},qH T a l b-> ∀i,i<l.length->aW ((l.getD i default).qk,(l.getD i default).qt) b<=0∧(i+1<l.length->aW ((l.getD i default).qk,(l.getD i default).qt) b<0)
 |[],_,_,_,i,hi=>by simp at hi
 |[v],a,b,h,0,_=>⟨vH h.2.2,fun h=>by simp at h⟩
 |[v],a,b,h,i+1,hi=>by simp at hi
 |v::w::l,a,b,h,0,_=>by
  refine⟨vH h.2.2,fun _=> ?_⟩
  obtain⟨h1,h2,h3⟩:=h.2.2
  show aW (v.qk,v.qt) b<0
  rw[<-h1]
  exact QH (a:=(w.pk,w.pt)) (b:=(w.qk,w.qt)) h2.lt.2.2 (vH h3)
 |v::w::l,a,b,h,i+1,hi=>by
  obtain⟨h1,h2⟩:=Bd (l:=w::l) h.2.2 i (by simpa using hi)
  exact⟨h1,fun h=>h2 (by simpa using h)⟩
def agm(dn:Bool)(k:List UInt8):jl:=if dn then([],false,k,false)else(k,false,[],true)
def hiQ(dn:Bool)(k:List UInt8):dQ:=if dn then(k,false)else([],true)
def loQ(dn:Bool)(k:List UInt8):dQ:=if dn then([],false)else(k,false)
structure D7 (v:dL):Prop where
 num:gQ v.own=true
 ne:eH v.lk v.lt v.hk v.ht=false
 st:jP v.se v.sv=true
 tab:iI v.rows=true
 inn:qj (v.lk,v.lt,v.hk,v.ht) v.rows=true
 pe:eH v.pk v.pt v.qk v.qt=false
 lo:aV v.lk v.lt v.pk v.pt<=0
 hi:aV v.qk v.qt v.hk v.ht<=0
 inp:qj (v.pk,v.pt,v.qk,v.qt) v.rows=true
structure vJ (dn:Bool) (k:List UInt8) (vis:List dL) (a:dQ):Prop where
 Fa:(k.length:Int)<=64
 ne:aK (agm dn k)=false
 len:vis.length<=1000
 rows:(aS vis).length<=1000000
 pos:0<vis.length
 fit: ∀i,i<vis.length->D7 (vis.getD i default)
 pt: ∀i,i<vis.length->((vis.getD i default).pk,(vis.getD i default).pt)=if i=0 then a else((vis.getD (i-1) default).qk,(vis.getD (i-1) default).qt)
 le: ∀i,i<vis.length->aW ((vis.getD i default).qk,(vis.getD i default).qt) (hiQ dn k)<=0
 lt: ∀i,i+1<vis.length->aW ((vis.getD i default).qk,(vis.getD i default).qt) (hiQ dn k)<0
 st:dn=false∨aS vis=[]->a=loQ dn k
 en:aW ((vis.getD (vis.length-1) default).qk,(vis.getD (vis.length-1) default).qt) (hiQ dn k)=0∨dn=false∧aS vis≠[]
theorem FX.fit{T:List Row}(hT:iW T){v:dL}(h:FX T v):D7 v:=by
 have ht:iW v.rows:=by rw[h.rows];exact oZ hT
 have hp:qj (v.pk,v.pt,v.qk,v.qt) v.rows=true:=by rw[h.rows];exact Aa
 obtain⟨v1,v2,v3⟩:=h.lt
 obtain⟨w1,w2,w3⟩:=pq h.ne
 refine⟨h.own,h.ne,h.st,jf.2 ht,?_,h.pe,h.sub.1,h.sub.2,hp⟩
 rw[BN]at hp⊢
 intro x hx
 have h1:=hp x hx
 have a1:=gX (a:=(v.lk,v.lt)) (b:=(v.pk,v.pt)) w1 v1 h.sub.1
 have a2:=gX (a:=(v.pk,v.pt)) (b:=(v.qk,v.qt)) v1 v2 (Int.le_of_lt v3)
 have a3:=gX (a:=(v.lk,v.lt)) (b:=(v.qk,v.qt)) w1 v2 (kF (a:=(v.lk,v.lt)) (b:=(v.pk,v.pt)) (c:=(v.qk,v.qt)) h.sub.1 (Int.le_of_lt v3))
 have a4:=gX (a:=(v.qk,v.qt)) (b:=(v.hk,v.ht)) v2 w2 h.sub.2
 have b1:=(xQ (k:=x.1) a1 a2).1.2 (.inr h1)
 exact(xQ (k:=x.1) a3 a4).1.2 (.inl b1)
theorem aij{T:List Row}(hT:iW T){dn:Bool}{k:List UInt8}(hk:(k.length:Int)<=64){b:dQ}{s:nR}(ha:RQ T dn (k,false) b s)(hd:eX s=true)(hne:aK (agm dn k)=false)(hl:s.2.length<=1000)(hr:(aS s.2).length<=1000000):
 vJ dn k s.2 (if dn then b else(k,false)):=by
 have hvk:aP k false=true:=by simp[aP,hk]
 have hdone:s.1=[]∨aS s.2≠[]:=by
  unfold eX at hd
  rw[Bool.or_eq_true]at hd
  rcases hd with h|h
  ·exact .inl (by simpa using h)
  ·exact .inr (by simpa using h)
 have hch:=ha.ch
 have htd:=ha.todo
 have hend: ∀x y:dQ,aP x.1 x.2=true->aP y.1 y.2=true->aW x y<=0->iF (gB x y)=[]->x=y:=by
  intro x y hx hy hle h
  unfold iF at h
  cases e:aK (gB x y)with
  |true=>
   have h2: ¬aW x y<0:=fun h2=>by rw[jJ hx hy h2]at e;simp at e
   exact cmp_eq hx hy (show aW x y=0 by omega)
  |false=>rw[e]at h;simp at h
 cases dn with
 |false=>
  simp only[Bool.false_eq_true,if_false]at hch htd⊢
  have hpos:0<s.2.length:=by
   rcases Nat.eq_zero_or_pos s.2.length with h0|h0
   ·have e:=List.eq_nil_of_length_eq_zero h0
    rw[e]at hch hdone
    have e2:(k,false)=b:=hch
    rcases hdone with h|h
    ·rw[htd]at h
     have:=hend b mF ha.vb lU (le_top ha.vb) h
     rw[this]at e2
     simp[mF]at e2
    ·simp[aS]at h
   ·exact h0
  have hbt:=le_top ha.vb
  refine⟨hk,hne,hl,hr,hpos,fun i hi=>(yc hch i hi).2.fit hT,fun i hi=>(yc hch i hi).1,fun i hi=> ?_,fun i hi=> ?_,fun _=>rfl,?_⟩
  ·exact kF (b:=b) (Bd hch i hi).1 hbt
  ·exact QH ((Bd hch i Om).2 hi) hbt
  ·rcases hdone with h|h
   ·left
    rw[htd]at h
    rw[Ho hch hpos,hend b mF ha.vb lU hbt h]
    exact iH
   ·exact .inr ⟨rfl,h⟩
 |true=>
  simp only[if_true]at hch htd⊢
  have hpos:0<s.2.length:=by
   rcases Nat.eq_zero_or_pos s.2.length with h0|h0
   ·have e:=List.eq_nil_of_length_eq_zero h0
    rw[e]at hch hdone
    have e2:b=(k,false):=hch
    rcases hdone with h|h
    ·rw[htd,e2]at h
     have:aK (agm true k)=true:=by
      unfold iF at h
      cases e:aK (gB kG (k,false))with
      |true=>exact e
      |false=>rw[e]at h;simp at h
     rw[hne]at this;simp at this
    ·simp[aS]at h
   ·exact h0
  refine⟨hk,hne,hl,hr,hpos,fun i hi=>(yc hch i hi).2.fit hT,fun i hi=>(yc hch i hi).1,fun i hi=>(Bd hch i hi).1,fun i hi=>(Bd hch i Om).2 hi,fun h=> ?_,?_⟩
  ·rcases h with h|h
   ·simp at h
   ·rcases hdone with h1|h1
    ·rw[htd]at h1
     exact(hend kG b jU ha.vb bot_le h1).symm
    ·exact absurd h h1
  ·left
   rw[Ho hch hpos]
   exact iH
end Go.Sx
namespace Go.Sx
open Go
theorem ab1{a b c:List UInt8}(h1:Op.bytesLess a b=false)(h2:Op.bytesLess b c=false):Op.bytesLess a c=false:=by
 cases h:Op.bytesLess a c with
 |false=>rfl
 |true=>
  by_cases e:a=b
  ·subst e;rw[h]at h2;cases h2
  ·have h3:=Hq h1 e
   have:=jy h3 h
   rw[this]at h2;cases h2
end Go.Sx
namespace Go.Sx
open Go
def enc3(r:aj):List Value:=[.int .i64 r.id,.string ⟨⟨r.key⟩⟩,.int .u32 (r.word:Int)]
theorem aeP(r:aj):(enc3 r).length=3:=rfl
theorem aeO(r:aj): ∀v∈enc3 r,v.oneCell'=true:=by
 intro v hv
 simp only[enc3,List.mem_cons,List.not_mem_nil,or_false]at hv
 rcases hv with rfl|rfl|rfl<;>rfl
def Nz(a b:aj):Bool:=Op.bytesLess a.key b.key||(a.key==b.key&&decide (a.id<b.id))
theorem af5:Sort.SWO Nz:=by
 refine⟨fun x=> ?_,fun x y z h1 h2=> ?_,fun x y z h1 h2=> ?_⟩
 ·simp[Nz,jX]
 ·simp only[Nz,Bool.or_eq_true,Bool.and_eq_true,beq_iff_eq,decide_eq_true_eq]at*
  rcases h1 with h1|⟨h1,h1'⟩
  ·rcases h2 with h2|⟨h2,h2'⟩
   ·exact .inl (jy h1 h2)
   ·exact .inl (by rw[<-h2];exact h1)
  ·rcases h2 with h2|⟨h2,h2'⟩
   ·exact .inl (by rw[h1];exact h2)
   ·exact .inr ⟨h1.trans h2,Om⟩
 ·simp only[Nz,Bool.or_eq_false_iff,Bool.and_eq_false_iff,beq_eq_false_iff_ne,decide_eq_false_iff_not]at*
  obtain⟨h1,h1'⟩:=h1
  obtain⟨h2,h2'⟩:=h2
  have h3:Op.bytesLess x.key z.key=false:=ab1 h1 h2
  refine⟨h3,?_⟩
  by_cases e:x.key=z.key
  ·right
   have e1:x.key=y.key:=by
    by_cases e':x.key=y.key
    ·exact e'
    ·have:=Hq h1 e'
     rw[e]at this
     rw[this]at h2;cases h2
   have e2:y.key=z.key:=e1.symm.trans e
   have g1:=h1'.resolve_left (fun h=>h e1)
   have g2:=h2'.resolve_left (fun h=>h e2)
   omega
  ·exact .inl e
end Go.Sx
namespace Go.Sx
open Go Go.Shelf Go.RowKit Go.Lib Go.Sort Go.Proofs
theorem QB(h:Array Obj)(b:Nat)(f:Obj->Obj)(k:Nat)(hk:k≠b):(h.modify b f)[k]? =h[k]? :=by
 rw[Array.getElem?_modify];simp[Ne.symm hk]
theorem aa8(h:Array Obj)(b:Nat)(f:Obj->Obj):(h.modify b f)[b]? =(h[b]?).map f:=by
 rw[Array.getElem?_modify];simp
variable {P:Program}{G:Nat->Option (Nat×(Nat->D))}
end Go.Sx
