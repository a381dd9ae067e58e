/- Part of a symbolic executor over the model, proved sound, with plain laws: SxTabB. Written for this claim. -/
import Derived.Test.YtgdgkekpfmhbbaaGreatDoorSxTab
import Derived.Test.YtgdgkekpfmhbbaaGreatDoorSxRen
set_option linter.unusedVariables false
set_option linter.unusedSimpArgs false
namespace Go.Sx
open Go
theorem BX{α:Type}[Inhabited α]{enc:α->List D}{n K k:Nat}{g:Nat->Nat->D}{L:List α}(hk:K=k)(hn:n=L.length)(h:aJ n k g (cellOf enc L)):aF (.list n K g) (ay enc k L):=by
 subst hk
 subst hn
 exact aF.rows rfl h
def iC(rows:List Row)(k:List UInt8)(t:Bool):Nat:=(rows.takeWhile fun r=>decide (aV r.1 false k t<0)).length
theorem TI{rows:List Row}{k:List UInt8}{t:Bool}:iC rows k t<=rows.length:=(List.takeWhile_sublist _).length_le
theorem Vk{a b k:List UInt8}{t:Bool}(h:Op.bytesLess a b=true)(hb:aV b false k t<0):aV a false k t<0:=by
 cases t with
 |true=>simp[aV]
 |false=>
  have h1:Op.bytesLess b k=true:=by
   by_cases e:Op.bytesLess b k=true
   ·exact e
   ·exfalso
    simp only[aV,Bool.false_and,Bool.false_eq_true,if_false,Bool.false_or,e]at hb
    split at hb<;>omega
  have h2:=jy h h1
  simp[aV,h2]
theorem Og{rows:List Row}{k:List UInt8}{t:Bool}(hs:Sorted rows){i:Nat}(hi:i<rows.length):i<iC rows k t↔aV (rows.getD i default).1 false k t<0:=by
 induction rows generalizing i with
 |nil=>simp at hi
 |cons r l ih=>
  simp only[iC,List.takeWhile_cons]
  have hs':=List.pairwise_cons.1 hs
  by_cases hr:aV r.1 false k t<0
  ·simp only[hr,decide_true,if_true,List.length_cons]
   cases i with
   |zero=>simp[hr]
   |succ i=>
    have:=ih hs'.2 (i:=i) (by simpa using hi)
    simp only[iC]at this
    simp only[List.getD_cons_succ]
    rw[<-this]
    omega
  ·simp only[hr,decide_false,Bool.false_eq_true,if_false,List.length_nil,Nat.not_lt_zero,false_iff]
   cases i with
   |zero=>simpa using hr
   |succ i=>
    intro h
    have hi':i<l.length:=by simpa using hi
    have hm:l.getD i default∈l:=by
     have e:l.getD i default=l[i]:=by simp[List.getD,hi']
     rw[e];exact List.getElem_mem hi'
    exact hr (Vk (hs'.1 _ hm) (by simpa using h))
theorem ZI{a k:List UInt8}{t:Bool}:(aV a false k t<0)↔(t=true∨Op.bytesLess a k=true):=by
 cases t with
 |true=>simp[aV]
 |false=>
  simp only[aV,Bool.false_and,Bool.false_eq_true,if_false,Bool.false_or,false_or]
  split<;>rename_i h
  ·simp[h]
  ·simp only[h]
   split<;>simp
def qE(rows:List Row)(k:List UInt8)(t:Bool):Row×Bool:=
 if iI rows&&aP k t&&decide (iC rows k t<rows.length)then(rows.getD (iC rows k t) default,true)else(([],[]),false)
def Il(rows:List Row)(n:Nat):Row×Bool:=if n=0 then(([],[]),false)else(rows.getD (n-1) default,true)
def nX(rows:List Row)(k:List UInt8)(t:Bool):Row×Bool:=
 if iI rows&&aP k t then Il rows (iC rows k t)else(([],[]),false)
theorem yh{rows:List Row}{k:List UInt8}{t:Bool}(h:iI rows=false∨aP k t=false∨iC rows k t=rows.length):qE rows k t=(([],[]),false):=by
 unfold qE
 rcases h with h|h|h<;>simp[h]
theorem VO{rows:List Row}{k:List UInt8}{t:Bool}(h1:iI rows=true)(h2:aP k t=true)(h3:iC rows k t<rows.length):qE rows k t=(rows.getD (iC rows k t) default,true):=by
 unfold qE
 rw[if_pos (by simp[h1,h2,h3])]
theorem Po{rows:List Row}{k:List UInt8}{t:Bool}(h:iI rows=false∨aP k t=false):nX rows k t=(([],[]),false):=by
 unfold nX
 rcases h with h|h<;>simp[h]
theorem VF{rows:List Row}{k:List UInt8}{t:Bool}(h1:iI rows=true)(h2:aP k t=true):nX rows k t=Il rows (iC rows k t):=by
 unfold nX
 rw[if_pos (by simp[h1,h2])]
theorem last_zero{rows:List Row}:Il rows 0=(([],[]),false):=rfl
theorem last_pos{rows:List Row}{n:Nat}(h:0<n):Il rows n=(rows.getD (n-1) default,true):=by
 unfold Il
 rw[if_neg Om]
abbrev Wr:=List UInt8×List UInt8×Bool
def Va(w:Wr):List D:=[.str w.1,.str w.2.1,.bool w.2.2]
def Dq(k v:List UInt8)(d:Bool):Bool:=decide ((k.length:Int)<=64)&&decide ((v.length:Int)<=64)&&(!d||v==[])
def tN{α:Type}[DecidableEq α](a b:List α):Bool:=decide (a=b)
theorem Oa{α:Type}[DecidableEq α][Inhabited α]{a b:List α}(hl:a.length=b.length)(h: ∀i,i<a.length->a.getD i default=b.getD i default):tN a b=true:=by
 rw[tN,decide_eq_true_eq]
 apply List.ext_getElem hl
 intro i h1 h2
 have:=h i h1
 simpa[List.getD,h1,h2]using this
theorem JJ{α:Type}[DecidableEq α][Inhabited α]{a b:List α}{i:Nat}(h: ¬a.getD i default=b.getD i default):tN a b=false:=by
 rw[tN,decide_eq_false_iff_not]
 rintro rfl
 exact h rfl
theorem SS{α:Type}[DecidableEq α]{a b:List α}(h: ¬a.length=b.length):tN a b=false:=by
 rw[tN,decide_eq_false_iff_not]
 rintro rfl
 exact h rfl
end Go.Sx
namespace Go.Sx
open Go
variable {P:Program}{G:Nat->Option (Nat×(Nat->D))}
theorem Spec.Nu{f:FuncId}{args:List SV}{m E sz n:Nat}{get:Nat->Nat->D}(h:Spec P G f args [] (.bW m sz 0 n) [(m,.row E sz n get)]):Spec P G f args [] (.d (.list n sz get)) []where
 keys:=rfl
 apart:=by intro n hn;simp[newP,aQ]at hn
 lu:=by intro n hn;simp[dO]at hn
 jI:=by intro n b m hn;simp at hn
 kind:=by intro n b c hn;simp at hn
 enter:=h.enter
 calls:=by
  intro w I ρ vs hr hp hi hl hg
  refine Calls.mono (h.calls w I ρ vs hr hp hi hl hg) ?_
  rintro e w' ⟨v,I',ρ',rfl,ha⟩
  have hown:=ha.own m (bG.row E sz n get) (List.mem_singleton.2 rfl)
  have hres:=ha.res
  simp only[aC]at hres
  obtain⟨h1,h2,h3,ad,rfl,h4⟩:=hres
  obtain⟨k1,k2,k3,k4⟩:=hown
  have hnew:m∈newP ([]:List (Nat×bG)) [(m,bG.row E sz n get)]:=by simp[newP,aQ]
  refine⟨_,fun b=>I' b∨(0<(ρ' m).cap∧b=(ρ' m).b),ρ',rfl,⟨fun n hn=>by simp[aQ]at hn,?_,fun n b hn=>by simp at hn,fun b hb=> .inl (ha.i0 b hb),?_,?_,?_,fun n b _ hn=>by simp at hn,fun n m b c _ hn=>by simp at hn⟩⟩
  ·simp only[aC,bM]
   refine⟨ad,(ρ' m).cap-0,rfl,Om,fun hn=> ?_⟩
   have hc:0<(ρ' m).cap:=Om
   have h5:=h4.resolve_right Om
   obtain⟨arr,g1,g2,g3⟩:=k4 hc
   refine⟨(ρ' m).b,(ρ' m).o+0*sz,h5,.inr ⟨hc,rfl⟩,fun i j hi hj=> ?_⟩
   obtain⟨u,hu,hr⟩:=g3 i j Om hj
   refine⟨u,?_,hr.mono (fun b hb=> .inl hb) (fun _ _ _=>rfl)⟩
   rw[g1.cell];simpa[Nat.add_assoc]using hu
  ·rintro b (hb|⟨hc,rfl⟩)
   ·exact(ha.i1 b hb).imp_right (fun h=>h.imp_right oQ.nil)
   ·exact .inr ((ha.sep m _ _ (List.mem_singleton.2 rfl) hnew ⟨hc,rfl⟩).2.imp_right oQ.nil)
  ·rintro b (hb|⟨hc,rfl⟩)
   ·exact ha.nT b hb
   ·obtain⟨arr,g1,_⟩:=k4 hc
    exact g1.lt
  ·exact ha.keep
end Go.Sx
namespace Go.Sx
open Go
theorem Hq{a b:List UInt8}(h1:Op.bytesLess a b=false)(h2:a≠b):Op.bytesLess b a=true:=by
 by_cases h:Op.bytesLess b a=true
 ·exact h
 ·exact absurd (L8 h1 (by simpa using h)) h2
end Go.Sx
namespace Go.Sx
open Go
def doF(rows:List Row)(w:Wr):List Row×Int:=
 if !(Dq w.1 w.2.1 w.2.2)then([],1)else if w.2.2 then(iq rows w.1,0)else Ai rows w.1 w.2.1
def goF:List Row->List Wr->List Row×Int
 |rows,[]=>(rows,0)
 |rows,w::ws=>if(doF rows w).2=0 then goF (doF rows w).1 ws else([],(doF rows w).2)
end Go.Sx
namespace Go.Sx
open Go
def aK(r:jl):Bool:=eH r.1 r.2.1 r.2.2.1 r.2.2.2
def iM(r:jl):Bool:=mJ r.1 r.2.1 r.2.2.1 r.2.2.2
def mY(r:jl)(k:List UInt8):Bool:=fF r.1 r.2.1 r.2.2.1 r.2.2.2 k
def aW(a b:dQ):Int:=aV a.1 a.2 b.1 b.2
def vT(a b:dQ):dQ:=if aW b a>0 then b else a
def vS(a b:dQ):dQ:=if aW b a<0 then b else a
def oV:jl:=([],false,[],false)
def tV(a b:jl):jl:=
 let lo:=vT (a.1,a.2.1) (b.1,b.2.1)
 let hi:=vS (a.2.2.1,a.2.2.2) (b.2.2.1,b.2.2.2)
 (lo.1,lo.2,hi.1,hi.2)
def gU(a b:jl):jl:=if aK a||aK b||aK (tV a b)then oV else tV a b
theorem cmp_neg(a b:dQ):aW b a= -(aW a b):=by
 obtain⟨ak,at_⟩:=a
 obtain⟨bk,bt⟩:=b
 simp only[aW,aV]
 cases at_<;>cases bt<;>cases h:Op.bytesLess ak bk<;>cases h2:Op.bytesLess bk ak<;>simp
 exact absurd (jy h h2) (by rw[jX];simp)
theorem cmp_eq{a b:dQ}(ha:aP a.1 a.2=true)(hb:aP b.1 b.2=true)(h:aW a b=0):a=b:=by
 obtain⟨ak,at_⟩:=a
 obtain⟨bk,bt⟩:=b
 simp only[aW,aV,aP,Bool.and_eq_true,decide_eq_true_eq]at*
 cases at_<;>cases bt<;>simp at h ha hb⊢
 ·have h1:Op.bytesLess ak bk=false:=by
   cases e:Op.bytesLess ak bk with
   |false=>rfl
   |true=>rw[e]at h;simp at h
  have h2:Op.bytesLess bk ak=false:=by
   cases e:Op.bytesLess bk ak with
   |false=>rfl
   |true=>rw[e,h1]at h;simp at h
  exact L8 h1 h2
 ·rw[ha.2,hb.2]
theorem pq{r:jl}(h:aK r=false):aP r.1 r.2.1=true∧aP r.2.2.1 r.2.2.2=true∧aV r.1 r.2.1 r.2.2.1 r.2.2.2<0:=by
 simp only[aK,eH,mJ,Bool.or_eq_false_iff,Bool.not_eq_false',Bool.and_eq_true,decide_eq_true_eq,beq_eq_false_iff_ne,ne_eq]at h
 obtain⟨⟨⟨h1,h2⟩,h3⟩,h4⟩:=h
 exact⟨h1,h2,Om⟩
theorem abf{a b:dQ}(ha:aP a.1 a.2=true)(hb:aP b.1 b.2=true):vT a b=vT b a:=by
 unfold vT
 rw[cmp_neg a b]
 by_cases h:aW a b=0
 ·rw[cmp_eq ha hb h];simp
 ·by_cases h1:aW a b<0
  ·rw[if_pos Om,if_neg Om]
  ·rw[if_neg Om,if_pos Om]
theorem abb{a b:dQ}(ha:aP a.1 a.2=true)(hb:aP b.1 b.2=true):vS a b=vS b a:=by
 unfold vS
 rw[cmp_neg a b]
 by_cases h:aW a b=0
 ·rw[cmp_eq ha hb h];simp
 ·by_cases h1:aW a b<0
  ·rw[if_neg Om,if_pos Om]
  ·rw[if_pos Om,if_neg Om]
theorem UE(a b:jl):gU a b=gU b a:=by
 unfold gU
 cases ha:aK a with
 |true=>simp
 |false=>
  cases hb:aK b with
  |true=>simp
  |false=>
   obtain⟨a1,a2,_⟩:=pq ha
   obtain⟨b1,b2,_⟩:=pq hb
   have e:tV a b=tV b a:=by
    simp only[tV]
    rw[abf (a:=(a.1,a.2.1)) (b:=(b.1,b.2.1)) a1 b1,abb (a:=(a.2.2.1,a.2.2.2)) (b:=(b.2.2.1,b.2.2.2)) a2 b2]
   rw[e]
theorem all_true{α:Type}[Inhabited α]{l:List α}{p:α->Bool}(h: ∀j,j<l.length->p (l.getD j default)=true):l.all p=true:=by
 rw[List.all_eq_true]
 intro x hx
 obtain⟨j,hj,rfl⟩:=List.getElem_of_mem hx
 have:=h j hj
 rwa [show l.getD j default=l[j]by simp[List.getD,hj]]at this
theorem all_false{α:Type}[Inhabited α]{l:List α}{p:α->Bool}{i:Nat}(hi:i<l.length)(h:p (l.getD i default)=false):l.all p=false:=by
 cases e:l.all p with
 |false=>rfl
 |true=>
  have:=List.all_eq_true.1 e _ (List.getElem_mem hi)
  rw[show l.getD i default=l[i]by simp[List.getD,hi]]at h
  rw[h]at this
  cases this
def gQ(n:Int):Bool:=decide (1<=n)&&decide (n<=2147483647)
def Ac(n:Int):Bool:=decide (1<=n)&&decide (n<=1099511627776)
def jP(e v:Int):Bool:=decide (0<=e)&&decide (e<=1099511627776)&&decide (0<=v)&&decide (v<=1099511627776)
theorem acY{n:Int}(h0:(n==0)=false)(h1: ¬n<0)(h2: ¬n>1099511627776):Ac n=true:=by
 simp only[beq_eq_false_iff_ne,ne_eq]at h0
 simp only[Ac,Bool.and_eq_true,decide_eq_true_eq]
 omega
theorem aga{n:Int}(h:n<0∨n>1099511627776):Ac n=false:=by
 simp only[Ac,Bool.and_eq_false_iff,decide_eq_false_iff_not]
 omega
structure jL where
 serial:Int
 src:Int
 dst:Int
 se:Int
 sv:Int
 lk:List UInt8
 lt:Bool
 hk:List UInt8
 ht:Bool
 rows:List Row
instance:Inhabited jL:=⟨⟨0,0,0,0,0,[],false,[],false,[]⟩⟩
structure bD where
 lk:List UInt8
 lt:Bool
 hk:List UInt8
 ht:Bool
 se:Int
 sv:Int
 rows:List Row
 pend:List Wr
 out:jL
 inn:jL
 took:Int
 src:Int
instance:Inhabited bD:=⟨⟨[],false,[],false,0,0,[],[],default,default,0,0⟩⟩
def jh:jL:=⟨0,0,0,0,0,[],false,[],false,[]⟩
def noCopy:bD:=⟨[],false,[],false,0,0,[],[],jh,jh,0,0⟩
abbrev jL.rng(p:jL):jl:=(p.lk,p.lt,p.hk,p.ht)
abbrev bD.rng(c:bD):jl:=(c.lk,c.lt,c.hk,c.ht)
def BU(c:bD):List D:=[.str c.lk,.bool c.lt,.str c.hk,.bool c.ht,.int .i64 c.se,.int .i64 c.sv,ay bF 2 c.rows,ay Va 3 c.pend,
 .int .i64 c.out.serial,.int .i64 c.out.src,.int .i64 c.out.dst,.int .i64 c.out.se,.int .i64 c.out.sv,.str c.out.lk,.bool c.out.lt,.str c.out.hk,.bool c.out.ht,ay bF 2 c.out.rows,
 .int .i64 c.inn.serial,.int .i64 c.inn.src,.int .i64 c.inn.dst,.int .i64 c.inn.se,.int .i64 c.inn.sv,.str c.inn.lk,.bool c.inn.lt,.str c.inn.hk,.bool c.inn.ht,ay bF 2 c.inn.rows,
 .int .i64 c.took,.int .i64 c.src]
abbrev YX(p:jL):List SV:=[.d (.int .i64 p.serial),.d (.int .i64 p.src),.d (.int .i64 p.dst),.d (.int .i64 p.se),.d (.int .i64 p.sv),.d (.str p.lk),.d (.bool p.lt),.d (.str p.hk),.d (.bool p.ht),.d (ay bF 2 p.rows)]
abbrev O8(c:bD):List SV:=[.d (.str c.lk),.d (.bool c.lt),.d (.str c.hk),.d (.bool c.ht),.d (.int .i64 c.se),.d (.int .i64 c.sv),.d (ay bF 2 c.rows),.d (ay Va 3 c.pend),
 .d (.int .i64 c.out.serial),.d (.int .i64 c.out.src),.d (.int .i64 c.out.dst),.d (.int .i64 c.out.se),.d (.int .i64 c.out.sv),.d (.str c.out.lk),.d (.bool c.out.lt),.d (.str c.out.hk),.d (.bool c.out.ht),.d (ay bF 2 c.out.rows),
 .d (.int .i64 c.inn.serial),.d (.int .i64 c.inn.src),.d (.int .i64 c.inn.dst),.d (.int .i64 c.inn.se),.d (.int .i64 c.inn.sv),.d (.str c.inn.lk),.d (.bool c.inn.lt),.d (.str c.inn.hk),.d (.bool c.inn.ht),.d (ay bF 2 c.inn.rows),
 .d (.int .i64 c.took),.d (.int .i64 c.src)]
def I64(n:Int):Prop:= -9223372036854775808<=n∧n<9223372036854775808
def qj(r:jl)(rows:List Row):Bool:=rows.all fun x=>mY r x.1
def jO(r:jl)(rows:List Row):Bool:=iI rows&&qj r rows
theorem V5{r:jl}{rows:List Row}:qj r rows=decide ((iJ rows r.1 r.2.1 r.2.2.1 r.2.2.2).length=rows.length):=by
 rw[Bool.eq_iff_iff,decide_eq_true_eq]
 unfold iJ qj
 rw[List.length_filter_eq_length_iff,List.all_eq_true]
 rfl
def xu(p:jL):Bool:=Ac p.serial&&(gQ p.src&&(gQ p.dst&&(!(p.src==p.dst)&&(jP p.se p.sv&&(!(aK p.rng)&&jO p.rng p.rows)))))
def sG(r:jl)(p:jL):Bool:=p.serial==0||(xu p&&aK (gU r p.rng))
def Dv(r:jl)(w:Wr):Bool:=Dq w.1 w.2.1 w.2.2&&mY r w.1
def Di(c:bD):Bool:=iM c.rng&&(jP c.se c.sv&&(jO c.rng c.rows&&(decide (c.pend.length<=64)&&decide (c.rows.length+c.pend.length<=1024))))
def yQ(c:bD):Bool:=sG c.rng c.out&&(sG c.rng c.inn&&(c.inn.serial==0||c.out.serial==0||aK (gU c.out.rng c.inn.rng)))
def Ju(c:bD):Bool:=(c.took==0&&c.src==0)||(Ac c.took&&gQ c.src)
def gJ(c:bD):Bool:=Di c&&(c.pend.all (Dv c.rng)&&(yQ c&&Ju c))
structure VP (n:Nat) (p:jL):Prop where
 rows:p.rows.length<=n
 serial:I64 p.serial
 src:I64 p.src
 dst:I64 p.dst
 se:I64 p.se
 sv:I64 p.sv
structure afK (n:Nat) (c:bD):Prop where
 rows:c.rows.length<=n
 pend:c.pend.length<=n
 out:VP n c.out
 inn:VP n c.inn
 took:I64 c.took
 src:I64 c.src
 se:I64 c.se
 sv:I64 c.sv
 lk:c.lk.length<=200000000000000
 hk:c.hk.length<=200000000000000
theorem VP.mono{n m:Nat}{p:jL}(h:n<=m)(hp:VP n p):VP m p:=⟨Nat.le_trans hp.rows h,hp.serial,hp.src,hp.dst,hp.se,hp.sv⟩
theorem afK.mono{n m:Nat}{c:bD}(h:n<=m)(hc:afK n c):afK m c:=⟨Nat.le_trans hc.rows h,Nat.le_trans hc.pend h,hc.out.mono h,hc.inn.mono h,hc.took,hc.src,hc.se,hc.sv,hc.lk,hc.hk⟩
def Ri(c:bD):bD×Int:=
 if !(gJ c)then(noCopy,1)else if c.pend.length=0 then(noCopy,7)else if c.sv=1099511627776 then(noCopy,16)
 else({c with rows:=(doF c.rows (c.pend.getD 0 default)).1,pend:=c.pend.drop 1,sv:=c.sv+1},0)
theorem uF{c:bD}(h:gJ c=true):iM c.rng=true∧jP c.se c.sv=true∧iW c.rows∧qj c.rng c.rows=true∧c.pend.length<=64∧c.rows.length+c.pend.length<=1024:=by
 simp only[gJ,Di,jO,Bool.and_eq_true,decide_eq_true_eq]at h
 obtain⟨⟨h1,h2,⟨h3,h4⟩,h5,h6⟩,_⟩:=h
 exact⟨h1,h2,jf.1 h3,h4,h5,h6⟩
theorem acw{c:bD}(h1:iM c.rng=true)(h2:jP c.se c.sv=true)(h3:iW c.rows)(h4:qj c.rng c.rows=true)(h5:c.pend.length<=64)(h6:c.rows.length+c.pend.length<=1024)
 (h7: ∀w∈c.pend,Dq w.1 w.2.1 w.2.2=true∧mY c.rng w.1=true) (h8:yQ c=true) (h9:Ju c=true):gJ c=true:=by
 simp only[gJ,Di,jO,Bool.and_eq_true,decide_eq_true_eq,List.all_eq_true,Dv]
 exact⟨⟨h1,h2,⟨jf.2 h3,h4⟩,h5,h6⟩,h7,h8,h9⟩
theorem acO{e v:Int}:jP e v=true↔(0<=e∧e<=1099511627776)∧0<=v∧v<=1099511627776:=by
 simp only[jP,Bool.and_eq_true,decide_eq_true_eq]
 constructor
 ·rintro⟨⟨⟨h1,h2⟩,h3⟩,h4⟩;exact⟨⟨h1,h2⟩,h3,h4⟩
 ·rintro⟨⟨h1,h2⟩,h3,h4⟩;exact⟨⟨⟨h1,h2⟩,h3⟩,h4⟩
theorem BN{r:jl}{rows:List Row}:qj r rows=true↔∀x∈rows,mY r x.1=true:=by
 simp only[qj,List.all_eq_true]
theorem getD_mem{α:Type}[Inhabited α]{l:List α}{i:Nat}(h:i<l.length):l.getD i default∈l:=by
 rw[show l.getD i default=l[i]by simp[List.getD,h]]
 exact List.getElem_mem h
def YM:Nat->bD->bD×Int
 |0,c=>(c,0)
 |n+1,c=>if c.pend.length=0 then(c,0)else if(Ri c).2=0 then YM n (Ri c).1 else(noCopy,(Ri c).2)
def P8(c:bD):bD×Int:=if !(gJ c)then(noCopy,1)else YM c.pend.length c
def Oi(c:bD)(bk:List UInt8)(bt:Bool)(side:Int):jl:=if side=0 then(c.lk,c.lt,bk,bt)else(bk,bt,c.hk,c.ht)
def Tm(c:bD)(bk:List UInt8)(bt:Bool)(side:Int):jl:=if side=0 then(bk,bt,c.hk,c.ht)else(c.lk,c.lt,bk,bt)
def dw(rows:List Row)(r:jl):List Row:=iJ rows r.1 r.2.1 r.2.2.1 r.2.2.2
def akO(c:bD)(bk:List UInt8)(bt:Bool)(side VU frm to_:Int):Bool:=
 gJ c&&(aP bk bt&&((side==0||side==1)&&(Ac VU&&(gQ frm&&(gQ to_&& !(frm==to_))))))
def ade(c:bD):Bool:=decide (c.pend.length=0)&&(c.out.serial==0&&(c.inn.serial==0&&c.took==0))
def aji(c:bD)(bk:List UInt8)(bt:Bool)(side:Int):Bool:=decide (aV bk bt c.lk c.lt<0)||(decide (aV bk bt c.hk c.ht>0)||aK (Oi c bk bt side))
def ajh(c:bD)(bk:List UInt8)(bt:Bool)(side VU frm to_:Int):bD:=
 {c with out:=⟨VU,frm,to_,c.se,c.sv,(Oi c bk bt side).1,(Oi c bk bt side).2.1,(Oi c bk bt side).2.2.1,(Oi c bk bt side).2.2.2,dw c.rows (Oi c bk bt side)⟩,
         lk:=(Tm c bk bt side).1,lt:=(Tm c bk bt side).2.1,hk:=(Tm c bk bt side).2.2.1,ht:=(Tm c bk bt side).2.2.2,rows:=dw c.rows (Tm c bk bt side)}
def Q_(c:bD)(bk:List UInt8)(bt:Bool)(side VU frm to_:Int):bD×Int:=
 if akO c bk bt side VU frm to_=false then(noCopy,1)else if ade c=false then(noCopy,7)else if aji c bk bt side=true then(noCopy,2)else(ajh c bk bt side VU frm to_,0)
def aeg(c:bD)(p:jL):bD×Int:=
 if gJ c=false then(noCopy,1)else if p.serial=0∨c.pend.length>0 then(noCopy,7)
 else if aV p.hk p.ht c.lk c.lt=0 then(if c.rows.length+p.rows.length>1024 then(noCopy,16)else({c with lk:=p.lk,lt:=p.lt,rows:=p.rows++c.rows},0))
 else if aV p.lk p.lt c.hk c.ht=0 then(if c.rows.length+p.rows.length>1024 then(noCopy,16)else({c with hk:=p.hk,ht:=p.ht,rows:=c.rows++p.rows},0))
 else(noCopy,9)
def Rw(c:bD):bD×Int:=if(aeg c c.inn).2=0 then({(aeg c c.inn).1 with took:=c.inn.serial,src:=c.inn.src,inn:=jh},0)else(noCopy,(aeg c c.inn).2)
def wB(a b:jl):Bool:=aV a.1 a.2.1 b.1 b.2.1==0&&aV a.2.2.1 a.2.2.2 b.2.2.1 b.2.2.2==0
def Tc(p q:jL):Bool:=p.serial==q.serial&&(p.serial==0||(p.src==q.src&&(p.dst==q.dst&&((p.se==q.se&&p.sv==q.sv)&&(wB p.rng q.rng&&tN p.rows q.rows)))))
def ajW(a b:bD):Bool:=wB a.rng b.rng&&((a.se==b.se&&a.sv==b.sv)&&(a.took==b.took&&(a.src==b.src&&(tN a.rows b.rows&&(tN a.pend b.pend&&(Tc a.out b.out&&Tc a.inn b.inn))))))
theorem t_(a:jl):wB a a=true:=by simp[wB,iH]
end Go.Sx
namespace Go.Sx
open Go
structure jF where
 id:Int
 up:Bool
 copy:bD
instance:Inhabited jF:=⟨⟨0,false,default⟩⟩
structure bC where
 num:Int
 opn:Bool
 mem:List jF
def adK:jF:=⟨0,false,noCopy⟩
def fD:bC:=⟨0,false,[]⟩
def lY(m:jF):List D:= .int .i64 m.id:: .bool m.up::BU m.copy
abbrev ake(m:jF):List SV:= .d (.int .i64 m.id):: .d (.bool m.up)::O8 m.copy
abbrev GV(g:bC):List SV:=[.d (.int .i64 g.num),.d (.bool g.opn),.d (ay lY 32 g.mem)]
def XI(id:Int):List jF->Nat->Int
 |[],_=> -1
 |m::ms,i=>if m.id=id then i else XI id ms (i+1)
def lX(ms:List jF)(id:Int)(f:Nat):Int:=XI id (ms.drop f) f
theorem K_{ms:List jF}{id:Int}{i:Nat}(h:i<ms.length):lX ms id i=if(ms.getD i default).id=id then(i:Int)else lX ms id (i+1):=by
 unfold lX
 rw[List.drop_eq_getElem_cons h,XI,show ms.getD i default=ms[i]by simp[List.getD,h]]
theorem abv{ms:List jF}{id:Int}{i:Nat}(h:ms.length<=i):lX ms id i= -1:=by
 unfold lX
 rw[List.drop_eq_nil_of_le h,XI]
def bV(g:bC):jF×Bool:=if g.mem.length=0 then(adK,false)else if(g.mem.getD 0 default).up then(g.mem.getD 0 default,true)else(adK,false)
def ahJ(g:bC)(c:bD):bC:={g with mem:=g.mem.set 0 {g.mem.getD 0 default with copy:=c}}
def Du(g:bC)(id:Int):bC×Int:=
 if(bV g).2=false then(fD,14)else if lX g.mem id 1<0 then(fD,6)else if(g.mem.getD (lX g.mem id 1).toNat default).up=false then(fD,14)
 else({g with mem:=g.mem.set (lX g.mem id 1).toNat {g.mem.getD (lX g.mem id 1).toNat default with copy:=(bV g).1.copy}},0)
structure MP (n:Nat) (g:bC):Prop where
 len:g.mem.length<=n
 small: ∀m∈g.mem,(m.copy.rows.length<=1000000∧m.copy.pend.length<=1000000∧m.copy.out.rows.length<=4398046511104∧m.copy.inn.rows.length<=4398046511104)∧I64 m.copy.sv
theorem OA{n:Nat}{g:bC}(h:MP n g)(i:Nat):(g.mem.getD i default).copy.rows.length<=1000000∧(g.mem.getD i default).copy.pend.length<=1000000∧(g.mem.getD i default).copy.out.rows.length<=4398046511104∧(g.mem.getD i default).copy.inn.rows.length<=4398046511104:=by
 rcases Nat.lt_or_ge i g.mem.length with hi|hi
 ·exact(h.small _ (getD_mem hi)).1
 ·have e:g.mem.getD i default=default:=by simp[List.getD,hi]
  rw[e];simp[default]
theorem wV{ms:List jF}{p:Nat}{x:jF}(h:p<ms.length):(ms.set p x).getD p default=x:=by simp[List.getD,h]
theorem getD_set_ne{ms:List jF}{p i:Nat}{x:jF}(h:i≠p):(ms.set p x).getD i default=ms.getD i default:=by
 simp[List.getD,List.getElem?_set_ne (Ne.symm h)]
theorem ac2{ms:List jF}{p n:Nat}{c:bD}(hp:p<ms.length):aJ n 32 (fun i' j'=>if i'=p then if j'<0+2 then cellOf lY ms i' j' else if j'<0+2+(BU c).length then(BU c).getD (j'-(0+2)) default else cellOf lY ms i' j' else cellOf lY ms i' j')
 (cellOf lY (ms.set p {ms.getD p default with copy:=c})):=by
 refine .of_eq fun i' j' _ hj=> ?_
 have hl:(BU c).length=30:=rfl
 by_cases hi:i'=p
 ·subst hi
  simp only[cellOf,if_pos,wV hp,hl]
  match j',hj with
  |0,_=>rfl
  |1,_=>rfl
  |j+2,hj=>
   rw[if_neg Om,if_pos Om]
   simp only[lY,Nat.zero_add,Nat.add_sub_cancel]
   rfl
 ·simp only[if_neg hi,cellOf,getD_set_ne hi]
theorem set_self{ms:List jF}{p:Nat}:ms.set p {ms.getD p default with copy:=(ms.getD p default).copy}=ms:=by
 rcases Nat.lt_or_ge p ms.length with h|h
 ·have e:ms.getD p default=ms[p]:=by simp[List.getD,h]
  rw[e];exact List.set_getElem_self h
 ·exact List.set_eq_of_length_le h
theorem aaD{ms:List jF}{p n:Nat}(hp:p<ms.length):aJ n 32 (fun i' j'=>if i'=p then if j'<0+2 then cellOf lY ms i' j' else if j'<0+2+(BU (ms.getD p default).copy).length then(BU (ms.getD p default).copy).getD (j'-(0+2)) default else cellOf lY ms i' j' else cellOf lY ms i' j')
 (cellOf lY ms):=by
 have:=ac2 (n:=n) (c:=(ms.getD p default).copy) hp
 rw[set_self]at this
 exact this
end Go.Sx
namespace Go.Sx
open Go
def D8(c:bD):Prop:=c.rows.length<=1000000∧c.pend.length<=1000000∧c.out.rows.length<=4398046511104∧c.inn.rows.length<=4398046511104
structure Behind (c o:bD):Prop where
 rng:c.rng=o.rng
 se:c.se=o.se
 out:c.out=o.out
 inn:c.inn=o.inn
 took:c.took=o.took
 src:c.src=o.src
 ex: ∃d:Nat,d<=c.pend.length∧o.sv=c.sv+d∧goF c.rows (c.pend.take d)=(o.rows,0)∧∃t,o.pend=c.pend.drop d++t
theorem Behind.refl(c:bD):Behind c c:=⟨rfl,rfl,rfl,rfl,rfl,rfl,0,Om,Om,rfl,[],by simp⟩
theorem Behind.append{c o:bD}(h:Behind c o)(w:Wr):Behind c {o with pend:=o.pend++[w]}:=by
 obtain⟨d,h1,h2,h3,t,h4⟩:=h.ex
 exact⟨h.rng,h.se,h.out,h.inn,h.took,h.src,d,h1,h2,h3,t++[w],by simp[h4]⟩
def Uniq(ms:List jF):Prop:= ∀i j,i<ms.length->j<ms.length->(ms.getD i default).id=(ms.getD j default).id->i=j
theorem acA{ms:List jF}{p:Nat}{x:jF}(hu:Uniq ms)(hx:x.id=(ms.getD p default).id):Uniq (ms.set p x):=by
 have e: ∀i,i<ms.length->((ms.set p x).getD i default).id=(ms.getD i default).id:=by
  intro i hi
  by_cases h:i=p
  ·subst h;rw[wV hi,hx]
  ·rw[getD_set_ne h]
 intro i j hi hj h
 rw[List.length_set]at hi hj
 rw[e i hi,e j hj]at h
 exact hu i j hi hj h
theorem rG{ms:List jF}{i:Nat}(h:i<ms.length):ms.getD i default∈ms:=getD_mem h
abbrev pW(g:bC):jF:=g.mem.getD 0 default
structure ahG (g:bC):Prop where
 n1:1<=g.mem.length
 n5:g.mem.length<=5
 num:gQ g.num=true
 opn:g.opn=true
 uniq:Uniq g.mem
 all: ∀m∈g.mem,gQ m.id=true∧gJ m.copy=true∧D8 m.copy
 beh: ∀i,0<i->i<g.mem.length->(g.mem.getD i default).up=true->Behind (g.mem.getD i default).copy (pW g).copy
theorem ahG.at{g:bC}(h:ahG g){i:Nat}(hi:i<g.mem.length):gQ (g.mem.getD i default).id=true∧gJ (g.mem.getD i default).copy=true∧D8 (g.mem.getD i default).copy:=h.all _ (getD_mem hi)
theorem F7{c:bD}(h:gJ c=true):0<=c.sv∧c.sv<=1099511627776∧0<=c.se∧c.se<=1099511627776∧c.pend.length<=64:=by
 obtain⟨_,h2,_,_,h5,_⟩:=uF h
 have:=acO.1 h2
 omega
theorem ahG.b{g:bC}(h:ahG g):MP 1000 g:=⟨by have:=h.n5;omega,fun m hm=>⟨(h.all m hm).2.2,by have:=F7 (h.all m hm).2.1;unfold I64;omega⟩⟩
structure ah7 (a b:jF):Prop where
 id:b.id=a.id
 up:b.up=a.up
 se:b.copy.se=a.copy.se
 sv:b.copy.sv=a.copy.sv
 rows:b.copy.rows=a.copy.rows
 rng:b.copy.rng=a.copy.rng
theorem ah7.refl(a:jF):ah7 a a:=⟨rfl,rfl,rfl,rfl,rfl,rfl⟩
end Go.Sx
namespace Go.Sx
open Go
def Fz(ids:List Int)(j:Nat):Bool:=(List.range ids.length).any fun i=>decide (j<=i)&&(ids.take i).contains (ids.getD i default)
theorem aeR{ids:List Int}{j:Nat}(h:j<ids.length):Fz ids j=((ids.take j).contains (ids.getD j default)||Fz ids (j+1)):=by
 rw[Bool.eq_iff_iff]
 simp only[Fz,List.any_eq_true,List.mem_range,Bool.and_eq_true,decide_eq_true_eq,Bool.or_eq_true]
 constructor
 ·rintro⟨i,h1,h2,h3⟩
  by_cases e:i=j
  ·subst e;exact .inl h3
  ·exact .inr ⟨i,h1,Om,h3⟩
 ·rintro(h1|⟨i,h1,h2,h3⟩)
  ·exact⟨j,h,Om,h1⟩
  ·exact⟨i,h1,Om,h3⟩
theorem ahg{ids:List Int}{j:Nat}(h:ids.length<=j):Fz ids j=false:=by
 cases e:Fz ids j with
 |false=>rfl
 |true=>
  simp only[Fz,List.any_eq_true,List.mem_range,Bool.and_eq_true,decide_eq_true_eq]at e
  obtain⟨i,h1,h2,_⟩:=e
  omega
def nO(c:bD)(ids:List Int):List jF:=ids.map fun i=>⟨i,true,c⟩
theorem KI{c:bD}{ids:List Int}:(nO c ids).length=ids.length:=by simp[nO]
theorem abd{c:bD}{ids:List Int}{j:Nat}(h:j<ids.length):nO c (ids.take (j+1))=nO c (ids.take j)++[⟨ids.getD j default,true,c⟩]:=by
 rw[take_succ' h];simp[nO]
theorem KJ{c:bD}{id:Int}: ∀{ids:List Int}{f:Nat},(XI id (nO c ids) f<0↔ids.contains id=false)
 |[],f=>by simp[nO,XI]
 |x::ids,f=>by
  have ih:=KJ (c:=c) (id:=id) (ids:=ids) (f:=f+1)
  simp only[nO,List.map_cons,XI,List.contains_cons]at ih⊢
  by_cases h:x=id
  ·subst h;simp
  ·rw[if_neg h,ih]
   have:(id==x)=false:=by simp[Ne.symm h]
   simp[this]
theorem Um{c:bD}{id:Int}{ids:List Int}:(lX (nO c ids) id 0<0↔ids.contains id=false):=by
 unfold lX;rw[List.drop_zero];exact KJ
def newG(n:Int)(ids:List Int)(c:bD):bC×Int:=
 if gQ n=false∨ids.length=0∨gJ c=false∨ids.all gQ=false then(fD,1)else if ids.length>5 then(fD,3)else if Fz ids 0=true then(fD,5)else(⟨n,true,nO c ids⟩,0)
theorem EX{n:Int}{ids:List Int}{c:bD}(h:gQ n=false∨ids.length=0∨gJ c=false∨ids.all gQ=false):newG n ids c=(fD,1):=by rw[newG,if_pos h]
theorem aa4{n:Int}{ids:List Int}{c:bD}(h1:gQ n=true)(h2:gJ c=true)(h3:ids.all gQ=true)(h:ids.length>5):newG n ids c=(fD,3):=by
 rw[newG,if_neg (by simp only[h1,h2,h3,Bool.true_eq_false,or_false,false_or];omega),if_pos h]
theorem adN{n:Int}{ids:List Int}{c:bD}(h1:gQ n=true)(h2:gJ c=true)(h3:ids.all gQ=true)(h4:ids.length≠0)(h: ¬ids.length>5)(hd:Fz ids 0=true):newG n ids c=(fD,5):=by
 rw[newG,if_neg (by simp only[h1,h2,h3,Bool.true_eq_false,or_false,false_or];omega),if_neg h,if_pos hd]
theorem Y8{n:Int}{ids:List Int}{c:bD}(h1:gQ n=true)(h2:gJ c=true)(h3:ids.all gQ=true)(h4:ids.length≠0)(h: ¬ids.length>5)(hd:Fz ids 0=false):newG n ids c=(⟨n,true,nO c ids⟩,0):=by
 rw[newG,if_neg (by simp only[h1,h2,h3,Bool.true_eq_false,or_false,false_or];omega),if_neg h,if_neg (by rw[hd];simp)]
theorem afv{ids:List Int}{i:Nat}(h:i<ids.length):(ids.take (i+1)).all gQ=((ids.take i).all gQ&&gQ (ids.getD i default)):=by
 rw[take_succ' h];simp
theorem ahD{ids:List Int}{i:Nat}(h:i<ids.length)(hb:gQ (ids.getD i default)=false):ids.all gQ=false:=all_false h hb
def ac6:Int->List (Int×Int)->Int×Int
 |m,[]=>if m=1099511627776 then(0,16)else(m+1,0)
 |m,s::l=>if jP s.1 s.2 then ac6 (if s.1>m then s.1 else m) l else(0,1)
def agn(l:List (Int×Int))(i:Nat)(m:Int):Int×Int:=ac6 m (l.drop i)
def Gu(l:List (Int×Int)):Int×Int:=agn l 0 0
def ajm(g:bC)(c:bD):bC:={ahJ g c with opn:=false}
def FN(g:bC)(c:bD)(l:List (Int×Int)):bC×Int:=
 if(bV g).2=false then(fD,14)else if g.opn=false then(fD,7)else if gJ c=false then(fD,1)
 else if¬(Gu (((bV g).1.copy.se,(bV g).1.copy.sv)::l)).2=0 then(fD,(Gu (((bV g).1.copy.se,(bV g).1.copy.sv)::l)).2)
 else(ajm g {c with se:=(Gu (((bV g).1.copy.se,(bV g).1.copy.sv)::l)).1,sv:=0},0)
def ahW:List jF->Nat->Int
 |[],_=> -1
 |m::ms,i=>if m.up then i else ahW ms (i+1)
def Fe(ms:List jF)(f:Nat):Int:=ahW (ms.drop f) f
def Ws(ms:List jF)(i:Nat)(e:Int):List jF:={ms.getD i default with copy:={(ms.getD i default).copy with se:=e,sv:=0}}::(ms.take i++ms.drop (i+1))
def acJ(g:bC):bC×Int:=
 if g.mem.length=0∨Fe g.mem 0=0 then(fD,7)else if Fe g.mem 0<0 then(fD,15)
 else if¬(Gu [((g.mem.getD (Fe g.mem 0).toNat default).copy.se,(g.mem.getD (Fe g.mem 0).toNat default).copy.sv)]).2=0 then(fD,(Gu [((g.mem.getD (Fe g.mem 0).toNat default).copy.se,(g.mem.getD (Fe g.mem 0).toNat default).copy.sv)]).2)
 else({g with opn:=false,mem:=Ws g.mem (Fe g.mem 0).toNat (Gu [((g.mem.getD (Fe g.mem 0).toNat default).copy.se,(g.mem.getD (Fe g.mem 0).toNat default).copy.sv)]).1},0)
def stale(o:bD)(m:jF):Bool:=m.up&& !(ajW m.copy o)
def aiB(g:bC):Bool:=(bV g).2&&(!g.opn&& !((g.mem.drop 1).any (stale (bV g).1.copy)))
def aj_(g:bC)(c:bD):bC:={ahJ g c with opn:=true}
def ahb(g:bC):(bC×List Wr)×Int:=
 if(bV g).2=false then((fD,[]),14)else if g.opn=true then((fD,[]),7)else if aiB g=false then((fD,[]),13)
 else if¬(P8 (bV g).1.copy).2=0 then((fD,[]),(P8 (bV g).1.copy).2)else((aj_ g (P8 (bV g).1.copy).1,(bV g).1.copy.pend),0)
def aiA:List jF->bC->bC×Int
 |[],g=>(g,0)
 |m::ms,g=>if m.up then(if¬(Du g m.id).2=0 then(fD,(Du g m.id).2)else aiA ms (Du g m.id).1)else aiA ms g
def recAt(ms:List jF)(i:Nat)(g:bC):bC×Int:=aiA (ms.drop i) g
def aj3(g:bC):(bC×List Wr)×Int:=if¬(recAt g.mem 1 g).2=0 then((fD,[]),(recAt g.mem 1 g).2)else ahb (recAt g.mem 1 g).1
def akM(g:bC):Bool:=decide (0<g.mem.length)&& !(pW g).up
def TB(g:bC):(bC×List Wr)×Int:=
 if akM g=true then(if¬(acJ g).2=0 then((fD,[]),(acJ g).2)else aj3 (acJ g).1)
 else if 0<g.mem.length∧g.opn=true then((fD,[]),7)else aj3 g
structure gV where
 own:Int
 lk:List UInt8
 lt:Bool
 hk:List UInt8
 ht:Bool
 se:Int
 sv:Int
 rows:List Row
def noView:gV:=⟨0,[],false,[],false,0,0,[]⟩
abbrev oW(v:gV):List SV:=[.d (.int .i64 v.own),.d (.str v.lk),.d (.bool v.lt),.d (.str v.hk),.d (.bool v.ht),.d (.int .i64 v.se),.d (.int .i64 v.sv),.d (ay bF 2 v.rows)]
def yA(m:jF):gV:=⟨m.id,m.copy.lk,m.copy.lt,m.copy.hk,m.copy.ht,m.copy.se,m.copy.sv,m.copy.rows⟩
def zB(g:bC):gV×Int:=if(bV g).2=false then(noView,14)else if g.opn=false then(noView,7)else(yA (bV g).1,0)
theorem NS{g:bC}(h:(bV g).2=false):zB g=(noView,14):=by rw[zB,if_pos h]
theorem NR{g:bC}(h:(bV g).2=true)(h2:g.opn=false):zB g=(noView,7):=by rw[zB,if_neg (by simp[h]),if_pos h2]
theorem YF{g:bC}(h:(bV g).2=true)(h2:g.opn=true):zB g=(yA (bV g).1,0):=by rw[zB,if_neg (by simp[h]),if_neg (by simp[h2])]
end Go.Sx
namespace Go.Sx
open Go
structure PG (r:jl) (n:Nat) (c:bD):Prop where
 v:gJ c=true
 small:D8 c
 rng:c.rng=r
 se:c.se<=2+(n:Int)
 sv:c.sv<=1+64*(n:Int)
theorem PG.mono{r:jl}{n m:Nat}{c:bD}(h:PG r n c)(hn:n<=m):PG r m c:=⟨h.v,h.small,h.rng,by have:=h.se;omega,by have:=h.sv;omega⟩
structure EvM (r:jl) (n:Nat) (ms:List jF):Prop where
 n1:1<=ms.length
 le:ms.length<=5
 uniq:Uniq ms
 all: ∀m∈ms,PG r n m.copy
theorem EvM.mono{r:jl}{n m:Nat}{ms:List jF}(h:EvM r n ms)(hn:n<=m):EvM r m ms:=⟨h.n1,h.le,h.uniq,fun x hx=>(h.all x hx).mono hn⟩
theorem EvM.b{r:jl}{n:Nat}{g:bC}(h:EvM r n g.mem):MP 1000 g:=⟨by have:=h.le;omega,fun m hm=>⟨(h.all m hm).small,by have:=F7 (h.all m hm).v;unfold I64;omega⟩⟩
theorem EvM.at{r:jl}{n:Nat}{ms:List jF}(h:EvM r n ms){i:Nat}(hi:i<ms.length):PG r n (ms.getD i default).copy:=h.all _ (getD_mem hi)
theorem EvM.set{r:jl}{n:Nat}{ms:List jF}{p:Nat}{x:jF}(h:EvM r n ms)(hid:x.id=(ms.getD p default).id)(hx:PG r (n+1) x.copy):EvM r (n+1) (ms.set p x):=by
 refine⟨by simpa using h.n1,by simpa using h.le,acA h.uniq hid,?_⟩
 intro m hm
 rcases List.mem_or_eq_of_mem_set hm with hm|rfl
 ·exact(h.all m hm).mono Om
 ·exact hx
theorem uo{ms:List jF}{i:Nat}{e:Int}(hi:i<ms.length):(Ws ms i e).length=ms.length:=by
 simp only[Ws,List.length_cons,List.length_append,List.length_take,List.length_drop];omega
end Go.Sx
namespace Go.Sx
open Go
def PI(ms:List jF)(P:Int->Prop):Prop:= ∀i,i<ms.length->(ms.getD i default).up=true->P (ms.getD i default).copy.se
def Later(last:gV)(v:gV):Prop:=last.se<v.se∨(last.se=v.se∧last.sv<v.sv)∨last=v
theorem PI.set{ms:List jF}{P:Int->Prop}{p:Nat}{x:jF}(h:PI ms P)(hx:x.up=true->P x.copy.se):PI (ms.set p x) P:=by
 intro i hi hu
 rw[List.length_set]at hi
 by_cases e:i=p
 ·subst e
  rw[wV hi]at hu⊢
  exact hx hu
 ·rw[getD_set_ne e]at hu⊢
  exact h i hi hu
theorem PI.imp{ms:List jF}{P Q:Int->Prop}(h:PI ms P)(hq: ∀e,P e->Q e):PI ms Q:=fun i hi hu=>hq _ (h i hi hu)
end Go.Sx
namespace Go.Sx
open Go
theorem adn{g:bC}(hn:1<=g.mem.length)(hu:(pW g).up=true):bV g=(pW g,true):=by
 unfold bV
 rw[if_neg Om,if_pos hu]
end Go.Sx
namespace Go.Sx
open Go
instance:Inhabited bC:=⟨⟨0,false,[]⟩⟩
def ag9(f:bC)(bk:List UInt8)(bt:Bool)(side VU to_:Int):bC×Int:=
 if(bV f).2=false then(fD,14)else if f.opn=false then(fD,7)
 else if¬(Q_ (bV f).1.copy bk bt side VU f.num to_).2=0 then(fD,(Q_ (bV f).1.copy bk bt side VU f.num to_).2)
 else FN f (Q_ (bV f).1.copy bk bt side VU f.num to_).1 []
def afj(f t:bC):Bool:=(bV f).2&&(bV t).2
def akb(c:bD)(p:jL):Bool:=aV p.hk p.ht c.lk c.lt==0||aV p.lk p.lt c.hk c.ht==0
def aeU(f t:bC):bC×Int:=
 if afj f t=false then(fD,14)
 else if(f.opn&&(!((bV f).1.copy.out.serial==0)&&(t.opn&&ade (bV t).1.copy)))=false then(fD,7)
 else if¬t.num=(bV f).1.copy.out.dst then(fD,6)
 else if akb (bV t).1.copy (bV f).1.copy.out=false then(fD,9)
 else FN t {(bV t).1.copy with inn:=(bV f).1.copy.out} []
def aem(t:bC):bC×Int:=
 if(bV t).2=false then(fD,14)else if t.opn=false then(fD,7)
 else if¬(Rw (bV t).1.copy).2=0 then(fD,(Rw (bV t).1.copy).2)
 else FN t (Rw (bV t).1.copy).1 [((bV t).1.copy.inn.se,(bV t).1.copy.inn.sv)]
def ac7(f t:bC):bC×Int:=
 if afj f t=false then(fD,14)
 else if(f.opn&&(t.opn&& !((bV f).1.copy.out.serial==0)))=false then(fD,7)
 else if¬t.num=(bV f).1.copy.out.dst then(fD,6)
 else if¬(bV f).1.copy.out.serial=(bV t).1.copy.took then(fD,7)
 else FN f {(bV f).1.copy with out:=jh} []
def ag_(t f:bC):bC×Int:=
 if afj t f=false then(fD,14)
 else if(f.opn&&(t.opn&& !((bV t).1.copy.took==0)))=false then(fD,7)
 else if¬f.num=(bV t).1.copy.src then(fD,6)
 else if(bV f).1.copy.out.serial=(bV t).1.copy.took then(fD,7)
 else FN t {(bV t).1.copy with took:=0,src:=0} []
def J_(r:bC×Int):bC×Int:=if r.2=0 then((TB r.1).1.1,(TB r.1).2)else r
def aaz(f t:bC)(bk:List UInt8)(bt:Bool)(side VU:Int):(bC×bC)×Int:=
 let a:=J_ (ag9 f bk bt side VU t.num)
 if¬a.2=0 then((fD,fD),a.2)else
 let b:=J_ (aeU a.1 t)
 if¬b.2=0 then((fD,fD),b.2)else
 let c:=J_ (aem b.1)
 if¬c.2=0 then((fD,fD),c.2)else
 let d:=J_ (ac7 a.1 c.1)
 if¬d.2=0 then((fD,fD),d.2)else
 let e:=J_ (ag_ c.1 d.1)
 if¬e.2=0 then((fD,fD),e.2)else((d.1,e.1),0)
end Go.Sx
