/- Part of a symbolic executor over the model, proved sound, with plain laws: SxRen. Written for this claim. -/
import Derived.Test.YtgdgkekpfmhbbaaGreatDoorSxEnt
import Derived.ProofKit
import Derived.OpenShut
import Derived.SizedLaws
import Derived.ChangeShapes
import Derived.Carry
import Derived.Handed
set_option linter.unusedVariables false
set_option linter.unusedSimpArgs false
namespace Go.Sx
open Go
variable {P:Program}{G:Nat->Option (Nat×(Nat->D))}{I:Nat->Prop}{ρ:Nat->Loc}{w:World}
mutual
def j_(π:Nat->Nat):SV->SV
 | .ptr n off=> .ptr (π n) off
 | .qJ n sz i off=> .qJ (π n) sz i off
 | .bW n sz off len=> .bW (π n) sz off len
 | .zG n k sz l=> .zG (π n) k sz l
 | .uZ n k sz i off=> .uZ (π n) k sz i off
 | .agg cs=> .agg (qI π cs)
 | .cO cs=> .cO (qI π cs)
 | .clo f cs=> .clo f (qI π cs)
 | .VY T cs=> .VY T (qI π cs)
 | .d x=> .d x
 | .qN s g=> .qN s g
 | .mp n=> .mp (π n)
 | .junk=> .junk
def qI(π:Nat->Nat):List SV->List SV
 |[]=>[]
 |c::cs=>j_ π c::qI π cs
end
def lC(π:Nat->Nat):bG->bG
 | .box cs=> .box (qI π cs)
 | .row E sz len get=> .row E sz len get
 | .iter s p=> .iter s p
 | .gone=> .gone
 | .smap kd g=> .smap kd g
 | .arr sz cs=> .arr sz (qI π cs)
 | .fam nk rows=> .fam nk rows
 | .dP fn E sz len get=> .dP (π fn) E sz len get
 | .dW fn ka kk va sz has get=> .dW (π fn) ka kk va sz has get
def xC(π:Nat->Nat):List (Nat×bG)->List (Nat×bG)
 |[]=>[]
 |(n,b)::l=>(π n,lC π b)::xC π l
mutual
theorem Tz{π:Nat->Nat}: ∀{sv:SV}{v:Value},aC I ρ w (j_ π sv) v↔aC I (fun k=>ρ (π k)) w sv v
 | .ptr n off,v=>by simp only[j_,aC]
 | .qJ n sz i off,v=>by simp only[j_,aC]
 | .bW n sz off len,v=>by simp only[j_,aC]
 | .zG n k sz l,v=>by simp only[j_,aC]
 | .uZ n k sz i off,v=>by simp only[j_,aC]
 | .agg cs,v=>by simp only[j_,aC,uO (cs:=cs)]
 | .cO cs,v=>by simp only[j_,aC,uO (cs:=cs)]
 | .clo f cs,v=>by simp only[j_,aC,uO (cs:=cs)]
 | .VY T cs,v=>by simp only[j_,aC,uO (cs:=cs)]
 | .d x,v=>by simp only[j_,aC]
 | .qN s g,v=>by simp only[j_,aC]
 | .mp n,v=>by simp only[j_,aC]
 | .junk,v=>by simp only[j_,aC]
theorem uO{π:Nat->Nat}: ∀{cs:List SV}{us:List Value},aT I ρ w (qI π cs) us↔aT I (fun k=>ρ (π k)) w cs us
 |[],us=>by simp only[qI,aT]
 |c::cs,us=>by simp only[qI,aT,Tz (sv:=c),uO (cs:=cs)]
end
mutual
theorem YT{π:Nat->Nat}{m:Nat}: ∀{sv:SV},dO m (j_ π sv)-> ∃n,dO n sv∧π n=m
 | .ptr n off,h=>by simp only[j_,dO]at h;exact⟨n,by simp[dO],h⟩
 | .qJ n sz i off,h=>by simp only[j_,dO]at h;exact⟨n,by simp[dO],h⟩
 | .bW n sz off len,h=>by simp only[j_,dO]at h;exact⟨n,by simp[dO],h⟩
 | .zG n k sz l,h=>by simp only[j_,dO]at h;exact⟨n,by simp[dO],h⟩
 | .uZ n k sz i off,h=>by simp only[j_,dO]at h;exact⟨n,by simp[dO],h⟩
 | .agg cs,h=>by simp only[j_,dO]at h;simp only[dO];exact yL h
 | .cO cs,h=>by simp only[j_,dO]at h;simp only[dO];exact yL h
 | .clo f cs,h=>by simp only[j_,dO]at h;simp only[dO];exact yL h
 | .VY T cs,h=>by simp only[j_,dO]at h;simp only[dO];exact yL h
 | .d x,h=>by simp[j_,dO]at h
 | .qN s g,h=>by simp[j_,dO]at h
 | .mp n,h=>by simp only[j_,dO]at h;exact⟨n,by simp[dO],h⟩
 | .junk,h=>by simp[j_,dO]at h
theorem yL{π:Nat->Nat}{m:Nat}: ∀{cs:List SV},jW m (qI π cs)-> ∃n,jW n cs∧π n=m
 |[],h=>by simp[qI,jW]at h
 |c::cs,h=>by
  simp only[qI,jW]at h
  rcases h with h|h
  ·obtain⟨n,h1,h2⟩:=YT h;exact⟨n,.inl h1,h2⟩
  ·obtain⟨n,h1,h2⟩:=yL h;exact⟨n,.inr h1,h2⟩
end
theorem kC{π:Nat->Nat}{m:Nat}{c:bG}: ∀{l:List (Nat×bG)},(m,c)∈xC π l↔∃n b,(n,b)∈l∧π n=m∧lC π b=c
 |[]=>by simp[xC]
 |(n,b)::l=>by
  simp only[xC,List.mem_cons,Prod.mk.injEq,kC (l:=l)]
  constructor
  ·rintro(⟨rfl,rfl⟩|⟨k,d,h1,h2,h3⟩)
   ·exact⟨n,b,.inl ⟨rfl,rfl⟩,rfl,rfl⟩
   ·exact⟨k,d,.inr h1,h2,h3⟩
  ·rintro⟨k,d,(⟨rfl,rfl⟩|h1),h2,h3⟩
   ·exact .inl ⟨h2.symm,h3.symm⟩
   ·exact .inr ⟨k,d,h1,h2,h3⟩
theorem OE{π:Nat->Nat}: ∀{l:List (Nat×bG)},(xC π l).map (·.1)=(l.map (·.1)).map π
 |[]=>rfl
 |(n,b)::l=>by simp[xC,OE (l:=l)]
theorem JY{π:Nat->Nat}{fn:Nat}{x:FC}{v:Value}:kU I ρ (π fn) w x v↔kU I (fun k=>ρ (π k)) fn w x v:=by
 cases x with
 |d x=>exact Iff.rfl
 |fs k sz l=>simp only[kU,aC]
theorem renG{π:Nat->Nat}{fn:Nat}{es:Array MapEntry}{clock:Nat}{ka:Bool}{kk:List IntKind}{va:Bool}{sz:Nat}{has:List Int->Bool}{get:List Int->Nat->FC}:
 nY I ρ (π fn) w es clock ka kk va sz has get↔nY I (fun k=>ρ (π k)) fn w es clock ka kk va sz has get:=by
 constructor
 ·intro h
  refine⟨h.stamped,h.keys,fun e he k hk hek=> ?_,h.all⟩
  obtain⟨h0,us,h1,h2,h3,h4⟩:=h.ent e he k hk hek
  refine⟨h0,us,h1,h2,fun j hj=> ?_,h4⟩
  obtain⟨u,hu,hr⟩:=h3 j hj
  exact⟨u,hu,JY.1 hr⟩
 ·intro h
  refine⟨h.stamped,h.keys,fun e he k hk hek=> ?_,h.all⟩
  obtain⟨h0,us,h1,h2,h3,h4⟩:=h.ent e he k hk hek
  refine⟨h0,us,h1,h2,fun j hj=> ?_,h4⟩
  obtain⟨u,hu,hr⟩:=h3 j hj
  exact⟨u,hu,JY.2 hr⟩
theorem YU{π:Nat->Nat}{L:Loc}{b:bG}:dX I ρ w L (lC π b)↔dX I (fun k=>ρ (π k)) w L b:=by
 cases b with
 |fam nk rows=>exact Iff.rfl
 |gone=>exact Iff.rfl
 |dP fn E sz len get=>simp only[lC,dX,JY]
 |dW fn ka kk va sz has get=>simp only[lC,dX,renG]
 |_=>simp only[lC,dX,Cells,uO]
theorem BG{π:Nat->Nat}{L:Loc}{b:bG}{k:Nat}:foot L (lC π b) k↔foot L b k:=by
 cases b<;>exact Iff.rfl
theorem Spec.ren(π:Nat->Nat){f:FuncId}{args:List SV}{pre:List (Nat×bG)}{res:SV}{post:List (Nat×bG)}(h:Spec P G f args pre res post)
 (hinj: ∀n m,n∈aQ post->m∈aQ post->π n=π m->n=m):Spec P G f (qI π args) (xC π pre) (j_ π res) (xC π post):=by
 have hk: ∀l:List (Nat×bG),aQ (xC π l)=(aQ l).map π:=fun l=>OE
 have hlen:(xC π pre).length=pre.length:=by
  have:=congrArg List.length (hk pre)
  simpa[aQ]using this
 have hnew:newP (xC π pre) (xC π post)=(newP pre post).map π:=by
  unfold newP
  rw[hk,hlen,List.map_drop]
 have hpp: ∀n,n∈aQ pre->n∈aQ post:=fun n hn=>by rw[h.keys];exact List.mem_append.2 (.inl hn)
 have hnp: ∀n,n∈newP pre post->n∈aQ post:=fun n hn=>by rw[h.keys];exact List.mem_append.2 (.inr hn)
 exact {
 keys:=by rw[hk,hk,hnew,h.keys,List.map_append]
 apart:=by
  intro n hn hp
  rw[hnew]at hn
  rw[hk]at hp
  obtain⟨a,ha,rfl⟩:=List.mem_map.1 hn
  obtain⟨b,hb,e⟩:=List.mem_map.1 hp
  have:=hinj b a (hpp b hb) (hnp a ha) e
  subst this
  exact h.apart b ha hb
 lu:=by
  intro n hn
  obtain⟨k,h1,rfl⟩:=YT hn
  rw[hk]
  exact List.mem_map.2 ⟨k,h.lu k h1,rfl⟩
 jI:=by
  intro n b m hn hm
  obtain⟨k,c,h1,rfl,rfl⟩:=kC.1 hn
  cases c with
  |box cs=>
   simp only[lC,inB]at hm
   obtain⟨m',h2,rfl⟩:=yL hm
   rw[hk]
   exact List.mem_map.2 ⟨m',h.jI k _ m' h1 h2,rfl⟩
  |row _ _ _ _=>exact hm.elim
  |fam _ _=>exact hm.elim
  |dP fn _ _ _ _=>
   simp only[lC,inB]at hm
   subst hm
   rw[hk]
   exact List.mem_map.2 ⟨fn,h.jI k _ fn h1 (by simp only[inB]),rfl⟩
  |dW fn _ _ _ _ _ _=>
   simp only[lC,inB]at hm
   subst hm
   rw[hk]
   exact List.mem_map.2 ⟨fn,h.jI k _ fn h1 (by simp only[inB]),rfl⟩
  |iter _ _=>exact hm.elim
  |gone=>exact hm.elim
  |smap _ _=>exact hm.elim
  |arr s cs=>
   simp only[lC,inB]at hm
   obtain⟨m',h2,rfl⟩:=yL hm
   rw[hk]
   exact List.mem_map.2 ⟨m',h.jI k _ m' h1 h2,rfl⟩
 kind:=by
  intro n b c hn hp
  obtain⟨k,b',h1,rfl,rfl⟩:=kC.1 hn
  obtain⟨j,c',h2,e,rfl⟩:=kC.1 hp
  have:=hinj j k (hpp j (List.mem_map.2 ⟨_,h2,rfl⟩)) (List.mem_map.2 ⟨_,h1,rfl⟩) e
  subst this
  have:=h.kind j b' c' h1 h2
  cases c'<;>cases b'<;>first|exact this.elim|trivial
 enter:=h.enter
 calls:=by
  intro w I ρ vs hargs hpre hdis hI hG
  have hc:=h.calls w I (fun k=>ρ (π k)) vs (uO.1 hargs) (fun n b hn=>by
   obtain⟨h1,h2⟩:=hpre (π n) (lC π b) (kC.2 ⟨n,b,hn,rfl,rfl⟩)
   exact⟨YU.1 h1,fun hl=>h2 (by cases b<;>exact hl)⟩)
   (fun n b m c hn hm hl hl' e=>hinj n m (hpp n (List.mem_map.2 ⟨_,hn,rfl⟩)) (hpp m (List.mem_map.2 ⟨_,hm,rfl⟩)) (hdis (π n) (lC π b) (π m) (lC π c) (kC.2 ⟨n,b,hn,rfl,rfl⟩) (kC.2 ⟨m,c,hm,rfl,rfl⟩) (by cases b<;>exact hl) (by cases c<;>exact hl') e)) hI hG
  refine Calls.mono hc ?_
  rintro e w' ⟨v,I',ρ',rfl,k⟩
  let ρ2:Nat->Loc:=fun m=>if hm: ∃n,n∈newP pre post∧π n=m then ρ' (Classical.choose hm)else ρ m
  have XL: ∀n,n∈aQ post->ρ2 (π n)=ρ' n:=by
   intro n hn
   by_cases hm: ∃a,a∈newP pre post∧π a=π n
   ·simp only[ρ2]
    rw[dif_pos hm]
    have hs:=Classical.choose_spec hm
    rw[hinj _ n (hnp _ hs.1) hn hs.2]
   ·simp only[ρ2]
    rw[dif_neg hm]
    have hp:n∈aQ pre:=by
     rw[h.keys]at hn
     exact(List.mem_append.1 hn).resolve_right (fun hnn=>hm ⟨n,hnn,rfl⟩)
    exact(k.old n hp).symm
  have hgo: ∀{b:Nat},oQ (fun k=>ρ (π k)) pre post b->oQ ρ (xC π pre) (xC π post) b:=by
   rintro b ⟨m,c,hm,hl,e,ho⟩
   refine⟨π m,lC π c,kC.2 ⟨m,c,hm,rfl,rfl⟩,by cases c<;>exact hl,e,fun b' hb'=> ?_⟩
   obtain⟨k',b0,h1,e',rfl⟩:=kC.1 hb'
   have:=hinj k' m (List.mem_map.2 ⟨_,h1,rfl⟩) (hpp m (List.mem_map.2 ⟨_,hm,rfl⟩)) e'
   subst this
   rw[ho b0 h1];rfl
  refine⟨v,I',ρ2,rfl,{old:= ?_,res:= ?_,own:= ?_,i0:=k.i0,i1:=fun b hb=>(k.i1 b hb).imp_right (fun h=>h.imp_right hgo),nT:=k.nT,keep:= ?_,sep:= ?_,inj:= ?_}⟩
  ·intro m hm
   rw[hk]at hm
   obtain⟨n,hn,rfl⟩:=List.mem_map.1 hm
   rw[XL n (hpp n hn)]
   exact k.old n hn
  ·rw[Tz]
   exact k.res.mono (fun _ h=>h) (fun _ _ _=>rfl) (fun n hn=>XL n (h.lu n hn))
  ·intro m c hm
   obtain⟨n,b,hn,rfl,rfl⟩:=kC.1 hm
   rw[YU,XL n (List.mem_map.2 ⟨_,hn,rfl⟩)]
   exact(k.own n b hn).mono (fun _ h=>h) (fun _ _ _=>rfl) (fun m hm=>XL m (h.jI n b m hn hm)) (fun _ _=>rfl)
  ·refine⟨k.keep.os,k.keep.tape,k.keep.output,k.keep.size,fun i hi hs=>k.keep.block i hi ?_,k.keep.drawn⟩
   rintro⟨n,b,hn,hl,e⟩
   exact hs ⟨π n,lC π b,kC.2 ⟨n,b,hn,rfl,rfl⟩,by cases b<;>exact hl,e⟩
  ·intro m c kk hm hn hl
   obtain⟨n,b,hnb,rfl,rfl⟩:=kC.1 hm
   have hkn:n∈aQ post:=List.mem_map.2 ⟨_,hnb,rfl⟩
   rw[hnew]at hn
   obtain⟨n',hn',e⟩:=List.mem_map.1 hn
   have:=hinj n' n (hnp n' hn') hkn e
   subst this
   rw[XL n' hkn]at hl
   exact⟨(k.sep n' b kk hnb hn' (BG.1 hl)).1,(k.sep n' b kk hnb hn' (BG.1 hl)).2.imp_right hgo⟩
  ·intro m1 m2 c1 c2 kk hm1 hm2 hn1 hn2 hl1 hl2
   obtain⟨n1,b1,akv,rfl,rfl⟩:=kC.1 hm1
   obtain⟨n2,b2,aku,rfl,rfl⟩:=kC.1 hm2
   have hk1:n1∈aQ post:=List.mem_map.2 ⟨_,akv,rfl⟩
   have hk2:n2∈aQ post:=List.mem_map.2 ⟨_,aku,rfl⟩
   rw[hnew]at hn1 hn2
   obtain⟨n1',hn1',e1⟩:=List.mem_map.1 hn1
   obtain⟨n2',akx,e2⟩:=List.mem_map.1 hn2
   have:=hinj n1' n1 (hnp n1' hn1') hk1 e1
   subst this
   have:=hinj n2' n2 (hnp n2' akx) hk2 e2
   subst this
   rw[XL n1' hk1]at hl1
   rw[XL n2' hk2]at hl2
   rw[k.inj n1' n2' b1 b2 kk akv aku hn1' akx (BG.1 hl1) (BG.1 hl2)]}
theorem Spec.arg{f:FuncId}{args args':List SV}{pre:List (Nat×bG)}{res:SV}{post:List (Nat×bG)}(h:Spec P G f args' pre res post)(hle:aI args args'):Spec P G f args pre res post where
 keys:=h.keys
 apart:=h.apart
 lu:=h.lu
 jI:=h.jI
 kind:=h.kind
 enter:=h.enter
 calls:=fun w I ρ vs ha=>h.calls w I ρ vs (hle.le _ _ _ _ ha)
theorem Spec.at{f:FuncId}{args:List SV}{n:Nat}{b b':bG}{res:SV}(h:Spec P G f args [(n,b)] res [(n,b')])(m:Nat):
 Spec P G f (qI (fun _=>m) args) [(m,lC (fun _=>m) b)] (j_ (fun _=>m) res) [(m,lC (fun _=>m) b')]:=
 h.ren (fun _=>m) (by intro n m hn hm _;simp[aQ]at hn hm;omega)
theorem Spec.new1{f:FuncId}{args:List SV}{n:Nat}{b':bG}{res:SV}(h:Spec P G f args [] res [(n,b')])(m:Nat):
 Spec P G f (qI (fun _=>m) args) [] (j_ (fun _=>m) res) [(m,lC (fun _=>m) b')]:=
 h.ren (fun _=>m) (by intro n m hn hm _;simp[aQ]at hn hm;omega)
end Go.Sx
namespace Go.Sx
open Go
variable {P:Program}{G:Nat->Option (Nat×(Nat->D))}{nt:Nat}{E:List Nat}
def One{α:Type}(f:(α->Prop)->Prop):Prop:= ∀K,f K-> ∃x,K x∧∀K':α->Prop,K' x->f K'
theorem One.ret{α:Type}(x:α):One fun K:α->Prop=>K x:=fun _ h=>⟨x,h,fun _ h=>h⟩
theorem One.bind{α β:Type}{f:(α->Prop)->Prop}{g:α->(β->Prop)->Prop}(hf:One f)(hg: ∀x,One (g x)):One fun K=>f fun x=>g x K:=by
 intro K h
 obtain⟨x,h1,h2⟩:=hf _ h
 obtain⟨y,h3,h4⟩:=hg x _ h1
 exact⟨y,h3,fun K' hk=>h2 (fun x=>g x K') (h4 K' hk)⟩
theorem One.map{α β:Type}{f:(α->Prop)->Prop}(hf:One f)(g:α->β):One fun K=>f fun x=>K (g x):=hf.bind (fun x=>One.ret (g x))
theorem One.stuck{α:Type}(s:String):One fun _:α->Prop=>Stuck s:=fun _ h=>h.out.elim
theorem One.need{α:Type}{p:Prop}{f:(α->Prop)->Prop}(hf:One f):One fun K=>Need p (f K):=by
 intro K h
 obtain⟨x,h1,h2⟩:=hf _ h.k
 exact⟨x,h1,fun K' hk=>⟨h.h,h2 K' hk⟩⟩
theorem One.bc{α:Type}{b:Bool}{f g:(α->Prop)->Prop}(hf:One f)(hg:One g):One fun K=>bc b (f K) (g K):=by
 cases b
 ·exact hg
 ·exact hf
theorem Am{n:Nat}: ∀{l:List (Nat×SV)},One (delS l n)
 |[]=>One.ret _
 |(i,v)::l=>by
  cases h:Nat.beq i n with
  |true=>simpa only[delS,h]using Am (l:=l)
  |false=>simpa only[delS,h]using(Am (l:=l)).map fun r=>(i,v)::r
theorem Ap{n:Nat}: ∀{l:List (Nat×bG)},One (NJ l n)
 |[]=>One.ret _
 |(i,v)::l=>by
  cases h:Nat.beq i n with
  |true=>simpa only[NJ,h]using Ap (l:=l)
  |false=>simpa only[NJ,h]using(Ap (l:=l)).map fun r=>(i,v)::r
theorem GH: ∀{ns:List Nat}{l:List (Nat×bG)},One (LD l ns)
 |[],l=>One.ret _
 |n::ns,l=>by simpa only[LD]using(Ap (l:=l)).bind fun r=>GH (ns:=ns)
theorem Gy: ∀{bs:List (Nat×bG)}{l:List (Nat×bG)},One (JH l bs)
 |[],l=>One.ret _
 |(n,b)::bs,l=>by simpa only[JH]using(Ap (l:=l)).bind fun r=>Gy (bs:=bs)
theorem Gz: ∀{ns nm:List Nat},One (y7 ns nm)
 |[],nm=>One.ret _
 |n::ns,nm=>by
  cases h:g_ n nm with
  |true=>simpa only[y7,h]using One.stuck _
  |false=>simpa only[y7,h]using Gz (ns:=ns)
theorem lG{n sz:Nat}{get:Nat->Nat->D}: ∀{cs:List SV},One (lN n sz get cs)
 |[]=>One.ret _
 |c::cs=>by
  cases c with
  |bW m s off len=>
   cases h:Nat.beq m n with
   |true=>simpa only[lN,h]using(lG (cs:=cs)).map _
   |false=>simpa only[lN,h]using(lG (cs:=cs)).map _
  |_=>exact(lG (cs:=cs)).map _
theorem aa1{n sz:Nat}{get:Nat->Nat->D}{v:SV}:One (Oe n sz get v):=by
 cases v with
 |bW m s off len=>
  show One fun K=>Oe n sz get (.bW m s off len) K
  simp only[Oe]
  split
  ·exact One.ret _
  ·exact One.ret _
 |agg cs=>exact(lG (cs:=cs)).map _
 |cO cs=>exact(lG (cs:=cs)).map _
 |_=>exact One.ret _
theorem Kv{n sz:Nat}{get:Nat->Nat->D}: ∀{l:List (Nat×SV)},One (adg n sz get l)
 |[]=>One.ret _
 |(i,v)::l=>aa1.bind fun v=>(Kv (l:=l)).map _
theorem sH{n sz:Nat}{get:Nat->Nat->D}: ∀{l:List (Nat×bG)},One (xG n sz get l)
 |[]=>One.ret _
 |(i,b)::l=>by
  cases b with
  |box cs=>
   cases h:Nat.beq i n with
   |true=>simpa only[xG,h]using sH (l:=l)
   |false=>simpa only[xG,h]using lG.bind fun cs=>(sH (l:=l)).map fun r=>(i,bG.box cs)::r
  |arr s cs=>
   cases h:Nat.beq i n with
   |true=>simpa only[xG,h]using sH (l:=l)
   |false=>simpa only[xG,h]using lG.bind fun cs=>(sH (l:=l)).map fun r=>(i,bG.arr s cs)::r
  |_=>
   cases h:Nat.beq i n with
   |true=>simpa only[xG,h]using sH (l:=l)
   |false=>simpa only[xG,h]using(sH (l:=l)).map fun r=>(i,_)::r
theorem uQ{n0:List Nat}: ∀{ns:List Nat}{s:List (Nat×SV)}{o:List (Nat×bG)},One fun K:List (Nat×SV)×List (Nat×bG)->Prop=>pubs n0 ns s o fun a b=>K (a,b)
 |[],s,o=>One.ret (s,o)
 |n::ns,s,o=>by
  cases h0:g_ n n0 with
  |true=>simpa only[pubs,h0]using One.stuck _
  |false=>
   cases h:lookO o n with
   |none=>simpa only[pubs,h,h0]using uQ (ns:=ns)
   |some b=>cases b with
    |row E sz len get=>simpa only[pubs,h,h0]using(Kv (l:=s)).bind fun s=>(sH (l:=o)).bind fun o=>uQ (ns:=ns)
    |dP fn E sz len get=>
     cases h1:g_ fn n0 with
     |true=>simpa only[pubs,h,h0,h1]using One.stuck _
     |false=>
      cases h2:lookO o fn with
      |none=>simpa only[pubs,h,h0,h1,h2]using One.stuck _
      |some c=>cases c with
       |fam nk rows=>simpa only[pubs,h,h0,h1,h2]using One.need ((Kv (l:=s)).bind fun s=>(sH (l:=o)).bind fun o=>Ap.bind fun o=>uQ (ns:=ns))
       |_=>simpa only[pubs,h,h0,h1,h2]using One.stuck _
    |_=>simpa only[pubs,h,h0]using One.stuck _
theorem Ua{α:Type}{del n0:List Nat}{f:(α->Prop)->Prop}(hf:One f):One fun K=>Jy del n0 (f K):=by
 cases h:vg del n0 with
 |true=>simpa only[Jy,h]using hf
 |false=>simpa only[Jy,h]using One.stuck _
theorem uU{u:bf}{σ:St}:One (qC u σ):=by
 obtain⟨dst,v,own,del,new,pub⟩:=u
 obtain⟨s,o,nm,n0⟩:=σ
 cases dst with
 |none=>exact(uQ (ns:=pub) (s:=s) (o:=o)).bind (g:=fun x(K:St->Prop)=>Jy del n0 (LD x.2 del fun o=>JH o own fun o=>y7 new nm fun nm=>K ⟨x.1,o,nm,n0⟩)) fun x=>
   Ua<|GH.bind fun o=>Gy.bind fun o=>Gz.bind fun nm=>One.ret _
 |some d=>exact(uQ (ns:=pub) (s:=s) (o:=o)).bind (g:=fun x(K:St->Prop)=>Jy del n0 (LD x.2 del fun o=>JH o own fun o=>y7 new nm fun nm=>delS x.1 d fun s=>K ⟨(d,v)::s,o,nm,n0⟩)) fun x=>
   Ua<|GH.bind fun o=>Gy.bind fun o=>Gz.bind fun nm=>Am.bind fun s=>One.ret _
theorem uS: ∀{ns:List Nat}{o:List (Nat×bG)},One (ql ns o)
 |[],o=>One.ret _
 |n::ns,o=>by
  cases h:lookO o n with
  |none=>simpa only[ql,h]using One.stuck _
  |some b=>cases b with
   |box cs=>simpa only[ql,h]using(uS (ns:=ns) (o:=o)).map fun r=>(n,bG.box cs)::r
   |row E sz len g=>simpa only[ql,h]using(uS (ns:=ns) (o:=o)).map fun r=>(n,bG.row E sz len g)::r
   |dW fn ka kk va sz has g=>simpa only[ql,h]using(uS (ns:=ns) (o:=o)).map fun r=>(n,bG.dW fn ka kk va sz has g)::r
   |_=>simpa only[ql,h]using One.stuck _
theorem Kw{f:FuncId}{args:List SV}{pre:List (Nat×bG)}{xg:List Nat}:One fun K:SV×List (Nat×bG)->Prop=>vN P G f args pre xg fun a b=>K (a,b):=by
 intro K h
 obtain⟨res,post,h,hb,k⟩:=h
 exact⟨(res,post),k,fun K' hk=>⟨res,post,h,hb,hk⟩⟩
theorem Qv: ∀{m:M bf}{σ:St},One (m.run P G σ):=by
 intro m
 induction m with
 |ret u=>intro σ;exact uU
 |slot k f ih=>
  intro⟨s,o,nm,n0⟩
  show One fun K=>M.run P G (.slot k f) ⟨s,o,nm,n0⟩ K
  simp only[M.run]
  split
  ·exact ih _
  ·exact One.stuck _
 |own k f ih=>
  intro⟨s,o,nm,n0⟩
  show One fun K=>M.run P G (.own k f) ⟨s,o,nm,n0⟩ K
  simp only[M.run]
  split
  ·exact ih _
  ·exact One.stuck _
 |need p m ih=>intro σ;exact(ih (σ:=σ)).need
 |split b x y ih1 ih2=>intro σ;exact(ih1 (σ:=σ)).bc (ih2 (σ:=σ))
 |call dst f args names xg pub=>
  intro⟨s,o,nm,n0⟩
  exact(uQ (ns:=pub) (s:=s) (o:=o)).bind (g:=fun x K=>ql names x.2 fun pre=>vN P G f args pre xg fun res post=>qC ⟨dst,res,post,[],newP pre post,[]⟩ ⟨x.1,x.2,nm,n0⟩ K) fun x=>
   uS.bind fun pre=>(Kw (P:=P) (G:=G) (f:=f) (args:=args) (pre:=pre) (xg:=xg)).bind (g:=fun y K=>qC ⟨dst,y.1,y.2,[],newP pre y.2,[]⟩ ⟨x.1,x.2,nm,n0⟩ K) fun y=>uU
 |fail why=>intro σ;exact One.stuck _
theorem Ku: ∀{m:M bf}{σ:St}{rs ro:List Nat},One fun K:bf×List Nat×List Nat->Prop=>m.zM P G σ rs ro fun u a b=>K (u,a,b):=by
 intro m
 induction m with
 |ret u=>
  intro σ rs ro
  obtain⟨dst,v,own,del,new,pub⟩:=u
  cases pub with
  |nil=>exact One.ret (_,_,_)
  |cons _ _=>exact One.stuck _
 |slot k f ih=>
  intro⟨s,o,nm,n0⟩ rs ro
  simp only[M.zM]
  split
  ·exact ih _
  ·exact One.stuck _
 |own k f ih=>
  intro⟨s,o,nm,n0⟩ rs ro
  simp only[M.zM]
  split
  ·exact ih _
  ·exact One.stuck _
 |need p m ih=>intro σ rs ro;exact(ih (σ:=σ) (rs:=rs) (ro:=ro)).need
 |split b x y ih1 ih2=>intro σ rs ro;exact(ih1 (σ:=σ) (rs:=rs) (ro:=ro)).bc (ih2 (σ:=σ) (rs:=rs) (ro:=ro))
 |call dst f args names xg pub=>
  intro⟨s,o,nm,n0⟩ rs ro
  cases pub with
  |nil=>exact uS.bind (g:=fun pre(K:bf×List Nat×List Nat->Prop)=>vN P G f args pre xg fun res post=>K (⟨dst,res,post,[],newP pre post,[]⟩,rs,names++ro)) fun pre=>
    (Kw (P:=P) (G:=G) (f:=f) (args:=args) (pre:=pre) (xg:=xg)).bind (g:=fun y(K:bf×List Nat×List Nat->Prop)=>K (⟨dst,y.1,y.2,[],newP pre y.2,[]⟩,rs,names++ro)) fun y=>One.ret (_,_,_)
  |cons _ _=>exact One.stuck _
 |fail why=>intro σ rs ro;exact One.stuck _
theorem xJ{dst:Option Nat}{σ:St}:One (uJ dst σ):=by
 obtain⟨s,o,nm,n0⟩:=σ
 cases dst with
 |none=>exact One.ret _
 |some d=>exact Am.bind fun s=>One.ret _
theorem Jf{d:Nat}{b:Bool}{σ:St}:One (Xj d b σ):=by
 obtain⟨s,o,nm,n0⟩:=σ
 exact Am.bind fun s=>One.ret _
theorem yT{ops:List Oper}: ∀{rest:List Oper}{σ:St},One (kE P G E nt ops rest σ)
 |[],σ=>One.ret σ
 |⟨dst,op,_,_,_,none⟩::rest,σ=>by
  show One fun K=>kE P G E nt ops (⟨dst,op,_,_,_,none⟩::rest) σ K
  simp only[kE]
  split
  ·exact Qv.bind fun σ=>yT (rest:=rest)
  ·exact One.stuck _
 |⟨dst,op,_,_,_,some (j,want)⟩::rest,σ=>by
  show One fun K=>kE P G E nt ops (⟨dst,op,_,_,_,some (j,want)⟩::rest) σ K
  simp only[kE]
  split
  ·split
   ·exact(Jf.bind fun σ=>(Qv.bind fun σ=>yT (rest:=rest)).bc (xJ.bind fun σ=>yT (rest:=rest))).bc
     (Jf.bind fun σ=>(xJ.bind fun σ=>yT (rest:=rest)).bc (Qv.bind fun σ=>yT (rest:=rest)))
   ·exact xJ.bind fun σ=>yT (rest:=rest)
   ·exact One.stuck _
  ·exact One.stuck _
theorem uT{ops:List Oper}: ∀{rest:List Oper}{i:Nat}{σ:St}{acc:List vW},One fun K:List vW×St->Prop=>iQ P G E nt ops i rest σ acc fun a b=>K (a,b)
 |[],i,σ,acc=>One.ret (acc,σ)
 |⟨dst,op,_,_,_,none⟩::rest,i,σ,acc=>by
  simp only[iQ]
  split
  ·exact(Ku (P:=P) (G:=G) (m:=T_ P G E dst op) (rs:=[]) (ro:=[])).bind (g:=fun x K=>qC x.1 σ fun σ=>iQ P G E nt ops (i+1) rest σ (⟨i,x.2.1,x.2.2,wsU x.1,Dh x.1⟩::acc) fun a b=>K (a,b)) fun x=>uU.bind fun σ=>uT (rest:=rest)
  ·exact One.stuck _
 |⟨dst,op,_,_,_,some (j,want)⟩::rest,i,σ,acc=>by
  simp only[iQ]
  split
  ·split
   ·exact(Jf.bind fun σ=>((Ku (P:=P) (G:=G) (m:=T_ P G E dst op) (rs:=_) (ro:=[])).bind (g:=fun x K=>qC x.1 σ fun σ=>iQ P G E nt ops (i+1) rest σ (⟨i,x.2.1,x.2.2,wsU x.1,Dh x.1⟩::acc) fun a b=>K (a,b)) fun x=>uU.bind fun σ=>uT (rest:=rest)).bc (xJ.bind fun σ=>uT (rest:=rest))).bc
     (Jf.bind fun σ=>(xJ.bind fun σ=>uT (rest:=rest)).bc ((Ku (P:=P) (G:=G) (m:=T_ P G E dst op) (rs:=_) (ro:=[])).bind (g:=fun x K=>qC x.1 σ fun σ=>iQ P G E nt ops (i+1) rest σ (⟨i,x.2.1,x.2.2,wsU x.1,Dh x.1⟩::acc) fun a b=>K (a,b)) fun x=>uU.bind fun σ=>uT (rest:=rest)))
   ·exact xJ.bind fun σ=>uT (rest:=rest)
   ·exact One.stuck _
  ·exact One.stuck _
theorem Ub{step:St->(Ex->St->Prop)->Prop}(hs: ∀σ,One fun K:Ex×St->Prop=>step σ fun a b=>K (a,b)): ∀{n:Nat}{σ:St},One fun K:Ex×St->Prop=>C_ step n σ fun a b=>K (a,b)
 |0,σ=>fun _ h=>h.elim
 |n+1,σ=>by
  intro K h
  obtain⟨⟨e,σ'⟩,h1,h2⟩:=hs σ (fun x=>match x.1 with
   | .normal=> ∃yx,vX x.2 yx∧C_ step n yx fun a b=>K (a,b)
   | .exit i=>K (.exit i,x.2)
   | .ret=>K (.ret,x.2)) h
  cases e with
  |normal=>
   obtain⟨yx,h3,h4⟩:=h1
   obtain⟨y,h5,h6⟩:=Ub hs (n:=n) (σ:=yx) K h4
   exact⟨y,h5,fun K' hk=>h2 (fun x=>match x.1 with
    | .normal=> ∃yx,vX x.2 yx∧C_ step n yx fun a b=>K' (a,b)
    | .exit i=>K' (.exit i,x.2)
    | .ret=>K' (.ret,x.2)) ⟨yx,h3,h6 K' hk⟩⟩
  |exit i=>exact⟨(.exit i,σ'),h1,fun K' hk=>h2 (fun x=>match x.1 with
    | .normal=> ∃yx,vX x.2 yx∧C_ step n yx fun a b=>K' (a,b)
    | .exit i=>K' (.exit i,x.2)
    | .ret=>K' (.ret,x.2)) hk⟩
  |ret=>exact⟨(.ret,σ'),h1,fun K' hk=>h2 (fun x=>match x.1 with
    | .normal=> ∃yx,vX x.2 yx∧C_ step n yx fun a b=>K' (a,b)
    | .exit i=>K' (.exit i,x.2)
    | .ret=>K' (.ret,x.2)) hk⟩
theorem Qu{x:Ex×St}:One fun K:Ex×St->Prop=>wkK (fun a b=>K (a,b)) x.1 x.2:=by
 obtain⟨e,σ⟩:=x
 cases e with
 |normal=>
  intro K h
  obtain⟨σ',he,hk⟩:=h
  exact⟨(.normal,σ'),hk,fun K' hk=>⟨σ',he,hk⟩⟩
 |exit i=>exact One.ret (Ex.exit i,σ)
 |ret=>exact One.ret (Ex.ret,σ)
theorem Uc: ∀{c:Code}{σ:St},One fun K:Ex×St->Prop=>exec P G E nt c σ fun a b=>K (a,b):=by
 intro c
 induction c with
 |skip=>intro σ;exact One.ret (Ex.normal,σ)
 |region i ops b=>
  intro σ
  obtain⟨ops⟩:=ops
  cases b with
  |false=>exact yT.bind (g:=fun σ(K:Ex×St->Prop)=>K (.normal,σ)) fun σ=>One.ret (Ex.normal,σ)
  |true=>
   intro K h
   obtain⟨h1,h2⟩:=h
   obtain⟨x,⟨h3,h4⟩,h5⟩:=uT (P:=P) (G:=G) (E:=E) (nt:=nt) (ops:=ops) (rest:=ops) (i:=0) (σ:=σ) (acc:=[]) (fun x=>MK ops x.1 (K (.normal,x.2))) h2
   exact⟨(.normal,x.2),h4,fun K' hk=>⟨h1,h5 (fun x=>MK ops x.1 (K' (.normal,x.2))) ⟨h3,hk⟩⟩⟩
 |seq a b iha ihb=>
  intro σ
  refine(iha (σ:=σ)).bind (g:=fun x(K:Ex×St->Prop)=>match x.1 with
   | .normal=>exec P G E nt b x.2 fun a b=>K (a,b)
   | .exit i=>K (.exit i,x.2)
   | .ret=>K (.ret,x.2)) fun x=> ?_
  obtain⟨e,σ⟩:=x
  cases e with
  |normal=>exact ihb (σ:=σ)
  |exit i=>exact One.ret (Ex.exit i,σ)
  |ret=>exact One.ret (Ex.ret,σ)
 |cond x a b iha ihb=>
  intro σ
  cases x with
  |tmp t=>
   simp only[exec]
   split
   ·exact((iha (σ:=σ)).bind (g:=fun x(K:Ex×St->Prop)=>wkK (fun a b=>K (a,b)) x.1 x.2) fun x=>Qu).bc
     ((ihb (σ:=σ)).bind (g:=fun x(K:Ex×St->Prop)=>wkK (fun a b=>K (a,b)) x.1 x.2) fun x=>Qu)
   ·exact One.stuck _
  |const v=>
   cases v with
   |bool b=>
    cases b with
    |true=>exact(iha (σ:=σ)).bind (g:=fun x(K:Ex×St->Prop)=>wkK (fun a b=>K (a,b)) x.1 x.2) fun x=>Qu
    |false=>exact(ihb (σ:=σ)).bind (g:=fun x(K:Ex×St->Prop)=>wkK (fun a b=>K (a,b)) x.1 x.2) fun x=>Qu
   |_=>exact One.stuck _
  |_=>exact One.stuck _
 |block id c ih=>
  intro σ
  refine(ih (σ:=σ)).bind (g:=fun x(K:Ex×St->Prop)=>match x.1 with
   | .exit i=>match Nat.beq i id with
     |true=>K (.normal,x.2)
     |false=>K (.exit i,x.2)
   | .normal=>K (.normal,x.2)
   | .ret=>K (.ret,x.2)) fun x=> ?_
  obtain⟨e,σ⟩:=x
  cases e with
  |normal=>exact One.ret (Ex.normal,σ)
  |exit i=>
   cases h:Nat.beq i id with
   |true=>simpa only[h]using One.ret (Ex.normal,σ)
   |false=>simpa only[h]using One.ret (Ex.exit i,σ)
  |ret=>exact One.ret (Ex.ret,σ)
 |loop c ih=>
  intro σ K h
  obtain⟨σ0,n,he,hk⟩:=h
  obtain⟨y,h1,h2⟩:=Ub (fun σ=>ih (σ:=σ)) (n:=n) (σ:=σ0) K hk
  exact⟨y,h1,fun K' hk=>⟨σ0,n,he,h2 K' hk⟩⟩
 |exit id=>intro σ;exact One.ret (Ex.exit id,σ)
 |ret=>intro σ;exact One.ret (Ex.ret,σ)
 |scope c ih=>intro σ;exact ih (σ:=σ)
 |label l=>intro σ;exact One.ret (Ex.normal,σ)
 |_=>intro σ;exact One.stuck _
theorem G9{c:Code}{σ:St}{K K':Ex->St->Prop}(h: ∀e σ,K e σ->K' e σ)(hk:exec P G E nt c σ K):exec P G E nt c σ K':=by
 obtain⟨⟨e,σ'⟩,h1,h2⟩:=Uc (P:=P) (G:=G) (E:=E) (nt:=nt) (c:=c) (σ:=σ) (fun x=>K x.1 x.2) hk
 exact h2 (fun x=>K' x.1 x.2) (h e σ' h1)
theorem Y3: ∀{m:M bf}{σ:St},One fun K:SV×List (Nat×bG)->Prop=>m.ev1 σ fun a b=>K (a,b):=by
 intro m
 induction m with
 |ret u=>
  intro⟨s,o,nm,n0⟩
  obtain⟨dst,v,own,del,new,pub⟩:=u
  exact uQ.bind fun x=>One.ret (v,x.2)
 |slot k f ih=>
  intro⟨s,o,nm,n0⟩
  simp only[M.ev1]
  split
  ·exact ih _
  ·exact One.stuck _
 |own k f ih=>
  intro⟨s,o,nm,n0⟩
  simp only[M.ev1]
  split
  ·exact ih _
  ·exact One.stuck _
 |_=>intro σ;exact One.stuck _
def ajx(P:Program)(results:List ResultVar)(n0:List Nat)(own:Bool){X:Type}(Q:X->Prop)(res:X->SV)(post:X->List (Nat×bG)):St->Prop
 |⟨s,o,nm,m0⟩=>match own with
  |false=>(aj1 P results n0).ev1 ⟨s,o,nm,m0⟩ fun v o=> ∃x,Q x∧Fin v o (res x) (post x)
  |true=>(aj0 P results).ev1 ⟨s,o,nm,m0⟩ fun v o=> ∃x,Q x∧afD m0 (res x) (post x) nm v o
def ZV(P:Program)(results:List ResultVar)(n0:List Nat)(own:Bool){X:Type}(Q:X->Prop)(res:X->SV)(post:X->List (Nat×bG)):Ex->St->Prop
 | .normal,σ=>ajx P results n0 own Q res post σ
 | .ret,σ=>ajx P results n0 own Q res post σ
 | .exit _,_=>Stuck "exit"
theorem JB{X:Type}(Q:X->Prop)(res:X->SV)(post:X->List (Nat×bG)){f:FuncId}{fn:Func}{args:List SV}{pre:List (Nat×bG)}(own:Bool)(hE:I8 P E)(hf:P.funcs[f]? =some fn)(hb:fn.body=some (oO fn))
 (henter: ∀(vs:Array Value)(w:World),(callFunc f vs).run P w= .ok (.enter f vs) w) (hn:Nat.ble args.length fn.ntmps=true) (xP: ∀x,(Hz args pre (res x) (post x)&&wF (res x))=true)
 (hown: ∀x,Gv (post x) (aQ pre)= !own)
 (σ0:St) (he:vX ⟨gZ 0 args,pre,aQ pre,aQ pre⟩ σ0) (h:exec P G E fn.ntmps (oO fn) σ0 (ZV P fn.results.toList (aQ pre) own Q res post)): ∃x,Q x∧Spec P G f args pre (res x) (post x):=by
 obtain⟨⟨e,σ'⟩,h1,h2⟩:=Uc (P:=P) (G:=G) (E:=E) (nt:=fn.ntmps) (c:=oO fn) (fun x=>ZV P fn.results.toList (aQ pre) own Q res post x.1 x.2) h
 have fin:ajx P fn.results.toList (aQ pre) own Q res post σ'-> ∃x,Q x∧Yz P fn.results.toList (aQ pre) (res x) (post x) σ':=by
  intro h
  obtain⟨s,o,nm,m0⟩:=σ'
  cases own with
  |false=>
   obtain⟨⟨v,o'⟩,⟨x,hq,hx⟩,h4⟩:=Y3 (fun y=> ∃x,Q x∧Fin y.1 y.2 (res x) (post x)) h
   refine⟨x,hq,?_⟩
   simp only[Yz,hown x,Bool.not_false]
   exact h4 (fun y=>Fin y.1 y.2 (res x) (post x)) hx
  |true=>
   obtain⟨⟨v,o'⟩,⟨x,hq,hx⟩,h4⟩:=Y3 (fun y=> ∃x,Q x∧afD m0 (res x) (post x) nm y.1 y.2) h
   refine⟨x,hq,?_⟩
   simp only[Yz,hown x,Bool.not_true]
   exact h4 (fun y=>afD m0 (res x) (post x) nm y.1 y.2) hx
 cases e with
 |normal=>
  obtain⟨x,hq,hx⟩:=fin h1
  exact⟨x,hq,wu hE hf hb henter hn (xP x) _ he (h2 (fun y=>ab_ P fn.results.toList (aQ pre) (res x) (post x) y.1 y.2) hx)⟩
 |ret=>
  obtain⟨x,hq,hx⟩:=fin h1
  exact⟨x,hq,wu hE hf hb henter hn (xP x) _ he (h2 (fun y=>ab_ P fn.results.toList (aQ pre) (res x) (post x) y.1 y.2) hx)⟩
 |exit i=>exact h1.out.elim
theorem dZ{X:Type}(Q:X->Prop)(res:X->SV)(post:X->List (Nat×bG)){f:FuncId}{fn:Func}{args:List SV}{pre:List (Nat×bG)}(own:Bool)(hE:I8 P E)(hf:P.funcs[f]? =some fn)(hb:fn.body=some (oO fn))
 (henter: ∀(vs:Array Value)(w:World),(callFunc f vs).run P w= .ok (.enter f vs) w) (hn:Nat.ble args.length fn.ntmps=true) (xP: ∀x,(Hz args pre (res x) (post x)&&wF (res x))=true)
 (hown: ∀x,Gv (post x) (aQ pre)= !own)
 (h:exec P G E fn.ntmps (oO fn) ⟨gZ 0 args,pre,aQ pre,aQ pre⟩ (ZV P fn.results.toList (aQ pre) own Q res post)): ∃x,Q x∧Spec P G f args pre (res x) (post x):=
 JB Q res post own hE hf hb henter hn xP hown _ (vX.refl _) h
theorem uI{X:Type}(Q:X->Prop)(res:X->SV)(post:X->List (Nat×bG)){f:FuncId}{fn:Func}{args:List SV}{pre:List (Nat×bG)}(own:Bool)(hE:I8 P E)(hf:P.funcs[f]? =some fn)(hb:fn.body=some (oO fn))
 (henter: ∀(vs:Array Value)(w:World),(callFunc f vs).run P w= .ok (.enter f vs) w) (hn:Nat.ble args.length fn.ntmps=true) (xP: ∀x,(Hz args pre (res x) (post x)&&wF (res x))=true)
 (hown: ∀x,Gv (post x) (aQ pre)= !own)
 (ig:g_ qM (aQ pre)=false) (h:exec P G E fn.ntmps (oO fn) ⟨gZ 0 args,(qM,.fam 0 fun _=>none)::pre,qM::aQ pre,aQ pre⟩ (ZV P fn.results.toList (aQ pre) own Q res post)): ∃x,Q x∧Spec P G f args pre (res x) (post x):=
 JB Q res post own hE hf hb henter hn xP hown _ (U_ ig) h
end Go.Sx
namespace Go.Sx
open Go
variable {P:Program}{G:Nat->Option (Nat×(Nat->D))}{nt:Nat}{E:List Nat}
theorem ad7{α:Type}{l:List α}(h: ¬l=[]):0<l.length:=List.length_pos_iff.2 h
theorem bQ{n:Int}(h1: -9223372036854775808<=n)(h2:n<9223372036854775808):IntKind.i64.wrap n=n:=by
 simp[IntKind.wrap,IntKind.bits,IntKind.signed]
 split<;>omega
theorem wrap_succ{i n:Nat}(h:i<n)(hn:n<=9223372036854775807):IntKind.i64.wrap ((i:Int)+1)=((i+1:Nat):Int):=by
 rw[bQ Om Om];rfl
def O1(keep:List Nat)(tail:List (Nat×SV)):List (Nat×SV)->(List (Nat×SV)->Prop)->Prop
 |[],k=>k tail
 |(i,v)::l,k=>match g_ i keep with
  |true=>O1 keep tail l fun r=>k ((i,v)::r)
  |false=>O1 keep tail l k
def O4(keep:List Nat)(tail:List (Nat×bG)):List (Nat×bG)->(List (Nat×bG)->Prop)->Prop
 |[],k=>k tail
 |(i,v)::l,k=>match g_ i keep with
  |true=>O4 keep tail l fun r=>k ((i,v)::r)
  |false=>O4 keep tail l k
def Zm(tail:List Nat):List (Nat×bG)->(List Nat->Prop)->Prop
 |[],k=>k tail
 |(i,_)::l,k=>Zm tail l fun r=>k (i::r)
def invK(keep uV:List Nat)(slots:List (Nat×SV))(own:List (Nat×bG)):St->(St->Prop)->Prop
 |⟨s,o,_,n0⟩,k=>O1 keep slots s fun s=>O4 uV own o fun o=>Zm n0 o fun nm=>k ⟨s,o,nm,n0⟩
theorem U3{keep:List Nat}{tail:List (Nat×SV)}: ∀{l:List (Nat×SV)},∃r,∀k,O1 keep tail l k↔k r
 |[]=>⟨tail,fun _=>Iff.rfl⟩
 |(i,v)::l=>by
  obtain⟨r,h⟩:=U3 (keep:=keep) (tail:=tail) (l:=l)
  cases hm:g_ i keep with
  |true=>exact⟨(i,v)::r,fun k=>by simp only[O1,hm,h]⟩
  |false=>exact⟨r,fun k=>by simp only[O1,hm,h]⟩
theorem U4{keep:List Nat}{tail:List (Nat×bG)}: ∀{l:List (Nat×bG)},∃r,∀k,O4 keep tail l k↔k r
 |[]=>⟨tail,fun _=>Iff.rfl⟩
 |(i,v)::l=>by
  obtain⟨r,h⟩:=U4 (keep:=keep) (tail:=tail) (l:=l)
  cases hm:g_ i keep with
  |true=>exact⟨(i,v)::r,fun k=>by simp only[O4,hm,h]⟩
  |false=>exact⟨r,fun k=>by simp only[O4,hm,h]⟩
theorem Uz{tail:List Nat}: ∀{l:List (Nat×bG)},∃r,∀k,Zm tail l k↔k r
 |[]=>⟨tail,fun _=>Iff.rfl⟩
 |(i,v)::l=>by
  obtain⟨r,h⟩:=Uz (tail:=tail) (l:=l)
  exact⟨i::r,fun k=>by simp only[Zm,h]⟩
theorem Zo{keep uV:List Nat}{slots:List (Nat×SV)}{own:List (Nat×bG)}{σ:St}: ∃r,∀k,invK keep uV slots own σ k↔k r:=by
 obtain⟨s,o,nm,n0⟩:=σ
 obtain⟨s',h1⟩:=U3 (keep:=keep) (tail:=slots) (l:=s)
 obtain⟨o',h2⟩:=U4 (keep:=uV) (tail:=own) (l:=o)
 obtain⟨nm',h3⟩:=Uz (tail:=n0) (l:=o')
 exact⟨⟨s',o',nm',n0⟩,fun k=>by simp only[invK,h1,h2,h3]⟩
inductive aG {X:Type} (pre:X->Prop) (μ:X->Nat) (m:Nat) (ent:X->Prop):Prop where
 |mk (x:X) (h:ent x) (hp:pre x) (hm:μ x<m)
theorem Q8{σ σ':St}(h:Q7 σ σ'):vX σ σ':=⟨fun hc=>⟨_,Ll h hc⟩⟩
theorem aA{X:Type}{c:Code}{σ:St}{K:Ex->St->Prop}(keep uV:List Nat)(slots:X->List (Nat×SV))(own:X->List (Nat×bG))(pre:X->Prop)(μ:X->Nat)(x0:X)
 (hent:invK keep uV (slots x0) (own x0) σ fun σ'=>Q7 σ σ')
 (step: ∀x,pre x->invK keep uV (slots x) (own x) σ fun σ1=>exec P G E nt c σ1 fun e σ'=>match e with
   | .normal=>aG pre μ (μ x) fun x'=>invK keep uV (slots x') (own x') σ fun σ2=>Q7 σ' σ2
   | .exit i=>K (.exit i) σ'
   | .ret=>K .ret σ')
 (h0:pre x0):YA (fun σ K=>exec P G E nt c σ K) σ K:=by
 have hI: ∀x,∃r,∀k,invK keep uV (slots x) (own x) σ k↔k r:=fun x=>Zo
 have key: ∀n x,μ x<n->pre x->C_ (fun σ K=>exec P G E nt c σ K) n (Classical.choose (hI x)) K:=by
  intro n
  induction n with
  |zero=>intro x h;exact absurd h (Nat.not_lt_zero _)
  |succ n ih=>
   intro x hn hx
   refine G9 ?_ ((Classical.choose_spec (hI x) _).1 (step x hx))
   intro e σ' h
   cases e with
   |normal=>
    obtain⟨x',h1,h2,h3⟩:=h
    exact⟨_,Q8 ((Classical.choose_spec (hI x') _).1 h1),ih x' Om h2⟩
   |exit i=>exact h
   |ret=>exact h
 exact⟨_,μ x0+1,Q8 ((Classical.choose_spec (hI x0) _).1 hent),key _ x0 (Nat.lt_succ_self _) h0⟩
def ad8(step:St->(Ex->St->Prop)->Prop):Nat->St->(Ex->St->Prop)->Prop
 |0,_,_=>Stuck "rounds"
 |n+1,σ,K=>step σ fun e σ'=>match e with
  | .normal=>ad8 step n σ' K
  | .exit i=>K (.exit i) σ'
  | .ret=>K .ret σ'
theorem Zg{c:Code}: ∀{n:Nat}{σ:St}{K:Ex->St->Prop},ad8 (fun σ K=>exec P G E nt c σ K) n σ K->C_ (fun σ K=>exec P G E nt c σ K) n σ K
 |0,_,_,h=>h.out.elim
 |n+1,σ,K,h=>by
  refine G9 ?_ (show exec P G E nt c σ _ from h)
  intro e σ' h
  cases e with
  |normal=>exact⟨σ',vX.refl σ',Zg h⟩
  |exit i=>exact h
  |ret=>exact h
theorem aU{c:Code}{σ:St}{K:Ex->St->Prop}(n:Nat)(h:ad8 (fun σ K=>exec P G E nt c σ K) n σ K):YA (fun σ K=>exec P G E nt c σ K) σ K:=
 ⟨σ,n,vX.refl σ,Zg h⟩
def MR(p:Nat->Prop):Nat->Prop
 |0=>True
 |n+1=>MR p n∧p n
theorem MR.out{p:Nat->Prop}: ∀{n:Nat},MR p n-> ∀i,i<n->p i
 |0,_,i,h=>absurd h Om
 |n+1,h,i,hi=>by
  by_cases e:i=n
  ·subst e;exact h.2
  ·exact MR.out h.1 i Om
theorem aJ.all{len sz:Nat}{get get':Nat->Nat->D}(h:MR (fun i=>MR (fun j=>get i j=get' i j) sz) len):aJ len sz get get':=
 .of_eq fun i j hi hj=>(h.out i hi).out j hj
end Go.Sx
namespace Go.Sx
open Go Go.RowKit
variable {P:Program}{w:World}{H:Type}{enc:TypeId×Value->H}{sp:Nat->Bool}{held:Bool}
def Y5(P:Program):Nat->List Field->Bool
 |_,[]=>true
 |n,⟨_,t,o,_,_,_,_⟩::fs=>Nat.beq o n&&Y5 P (n+P.cellsOf t) fs
def sumF(P:Program):List Field->Nat
 |[]=>0
 |f::fs=>P.cellsOf f.type+sumF P fs
def tC(P:Program):Nat->Nat->Bool
 |0,_=>false
 |f+1,t=>match P.underlying t with
  |some .bool=>Nat.beq (P.cellsOf t) 1
  |some (.int _)=>Nat.beq (P.cellsOf t) 1
  |some .string=>Nat.beq (P.cellsOf t) 1
  |some (.slice e)=>Nat.beq (P.cellsOf t) 1&&(tC P f e&&Nat.blt 0 (P.cellsOf e))
  |some (.struct ⟨fs⟩)=>Y5 P 0 fs&&(Nat.beq (sumF P fs) (P.cellsOf t)&&fs.all fun x=>tC P f x.type)
  |_=>false
def aic(rec:Nat->List D->Prop)(P:Program):List Field->List D->Prop
 |[],ds=>ds=[]
 |f::fs,ds=> ∃a b,ds=a++b∧rec f.type a∧aic rec P fs b
def wfT(P:Program)(R:Nat):Nat->Nat->List D->Prop
 |0,_,_=>False
 |f+1,t,ds=>match P.underlying t with
  |some .bool=> ∃b,ds=[.bool b]
  |some (.int k)=> ∃n,ds=[.int k n]∧(Lit.int k n).wf=true
  |some .string=> ∃l,ds=[.str l]∧l.length<=maxLen∧l.length<=R
  |some (.slice e)=> ∃len get,ds=[.list len (P.cellsOf e) get]∧len<=maxLen∧len*P.bytesOf e<=R∧∀i,i<len->wfT P R f e ((List.range (P.cellsOf e)).map (get i))
  |some (.struct ⟨fs⟩)=>aic (wfT P R f) P fs ds
  |_=>False
def oU(I:Nat->Prop)(w:World)(ds:List D)(cs:List Value):Prop:=CG (bM I w) ds cs
theorem oU.length{I:Nat->Prop}{ds:List D}{cs:List Value}(h:oU I w ds cs):ds.length=cs.length:=by
 induction h with
 |nil=>rfl
 |cons _ _ ih=>simp[ih]
theorem oU.append{I:Nat->Prop}{ds es:List D}{cs us:List Value}(h:oU I w ds cs)(h':oU I w es us):oU I w (ds++es) (cs++us):=by
 induction h with
 |nil=>exact h'
 |cons h _ ih=>exact .cons h ih
theorem oU.get{I:Nat->Prop}{ds:List D}{cs:List Value}(h:oU I w ds cs): ∀(j:Nat)(hj:j<ds.length),∃u,cs[j]? =some u∧bM I w (ds.getD j default) u:=by
 induction h with
 |nil=>intro j hj;simp at hj
 |cons h _ ih=>
  intro j hj
  cases j with
  |zero=>exact⟨_,rfl,by simpa using h⟩
  |succ j=>
   obtain⟨u,h1,h2⟩:=ih j (by simpa using hj)
   exact⟨u,by simpa using h1,by simpa using h2⟩
theorem oU.rep{I:Nat->Prop}{ρ:Nat->Loc}{ds:List D}{cs:List Value}(h:oU I w ds cs):aT I ρ w (ds.map .d) cs:=by
 induction h with
 |nil=>simp[aT]
 |cons h _ ih=>simp only[List.map_cons,aT];exact⟨_,_,rfl,by simpa only[aC]using h,ih⟩
theorem oU.one{I:Nat->Prop}{ds:List D}{cs:List Value}(h:oU I w ds cs): ∀u∈cs,u.oneCell'=true:=by
 induction h with
 |nil=>simp
 |cons h _ ih=>
  intro u hu
  rcases List.mem_cons.1 hu with rfl|hu
  ·exact h.one
  ·exact ih u hu
theorem lt_of_cell?{a:Addr}{v:Value}(h:w.cell? a=some v):a.block<w.heap.size:=World.block_lt_of_cell? _ _ h
theorem weightsAll_mem{e:Nat}{d:DataW H}{n:Nat}: ∀{l:List (DataW H)},d∈l->n∈d.weights P e->n∈DataW.weightsAll P e l
 |[],h,_=>by simp at h
 |x::l,h,hn=>by
  simp only[DataW.weightsAll,List.mem_append]
  rcases List.mem_cons.1 h with rfl|h
  ·exact .inl hn
  ·exact .inr (weightsAll_mem h hn)
theorem PV{R:Nat}: ∀{fuel t:Nat}{cs:List Value}{x:DataW H×List MemPlace}{g:Nat},tC P fuel t=true->DataW.trod enc P w 0 sp held g t cs=some x->(∀n∈x.1.weights P t,n<=R)->
 cs.length=P.cellsOf t∧∃ds,wfT P R fuel t ds∧oU (fun b=>b<w.heap.size) w ds cs
 |0,t,cs,x,g,hp,_,_=>by simp[tC]at hp
 |f+1,t,cs,x,g,hp,h,hR=>by
  simp only[tC]at hp
  cases hu:P.underlying t with
  |none=>rw[hu]at hp;cases hp
  |some d=>
   rw[hu]at hp
   simp only[wfT,hu]
   cases d with
   |bool=>
    have hp:=Nat.eq_of_beq_eq_true hp
    obtain⟨b,rfl,_⟩:=DataW.trod_bool hu h
    exact⟨by simp[hp],[.bool b],⟨b,rfl⟩,.cons (by simp[bM]) .nil⟩
   |int k=>
    have hp:=Nat.eq_of_beq_eq_true hp
    obtain⟨n,rfl,_,hw⟩:=DataW.trod_int hu h
    exact⟨by simp[hp],[.int k n],⟨n,rfl,hw⟩,.cons (by simp[bM]) .nil⟩
   |string=>
    have hp:=Nat.eq_of_beq_eq_true hp
    obtain⟨s,rfl,rfl,hw⟩:=DataW.trod_string hu h
    obtain⟨⟨l⟩⟩:=s
    exact⟨by simp[hp],[.str l],⟨l,rfl,hw,hR _ (by simp[DataW.weights])⟩,.cons (by simp[bM]) .nil⟩
   |slice e=>
    simp only[Bool.and_eq_true]at hp
    have h1:=Nat.eq_of_beq_eq_true hp.1
    have h3:0<P.cellsOf e:=Nat.le_of_ble_eq_true hp.2.2
    rcases DataW.trod_slice hu h with⟨rfl,_⟩|⟨a,len,cap,elems,rest,n,_,rfl,rfl,_,hle,hcap,hlen,hel,_⟩
    ·refine⟨by simp[h1],_,⟨0,fun _ _=>default,rfl,by simp[maxLen],by simp,fun i hi=>absurd hi (by simp)⟩,.cons ?_ .nil⟩
     simp only[bM]
     exact⟨none,0,rfl,Nat.le_refl _,fun h=>absurd h (by simp)⟩
    ·have key: ∀i,∃ds:List D,i<len-> ∃cs,w.cells? 0 (a.add (i*P.cellsOf e)) (P.cellsOf e)=some cs∧ds.length=P.cellsOf e∧wfT P R f e ds∧oU (fun b=>b<w.heap.size) w ds cs:=by
       intro i
       by_cases hi:i<len
       ·have:=hel i hi
        rw[List.getElem?_eq_getElem Om]at this
        cases hc:w.cells? 0 (a.add (i*P.cellsOf e)) (P.cellsOf e)with
        |none=>rw[hc]at this;cases this
        |some cs=>
         rw[hc]at this
         obtain⟨k1,ds,k2,k3⟩:=PV hp.2.1 (show DataW.trod enc P w 0 sp held n e cs=_ from this) (fun m hm=>hR m (by
          simp only[DataW.weights,hu,List.mem_cons,List.mem_append]
          exact .inr (.inl (weightsAll_mem (List.mem_map.2 ⟨_,List.getElem_mem _,rfl⟩) hm))))
         exact⟨ds,fun _=>⟨cs,rfl,by rw[k3.length,k1],k2,k3⟩⟩
       ·exact⟨[],fun h=>absurd h hi⟩
     refine⟨by simp[h1],_,⟨len,fun i j=>(Classical.choose (key i)).getD j default,rfl,Om,?_,fun i hi=> ?_⟩,.cons ?_ .nil⟩
     ·have:=hR ((elems.length+rest.length)*P.bytesOf e) (by simp[DataW.weights,hu])
      refine Nat.le_trans ?_ this
      exact Nat.mul_le_mul_right _ Om
     ·obtain⟨cs,_,k1,k2,_⟩:=Classical.choose_spec (key i) hi
      have e:(List.range (P.cellsOf e)).map (fun j=>(Classical.choose (key i)).getD j default)=Classical.choose (key i):=by
       apply List.ext_getElem?
       intro j
       by_cases hj:j<P.cellsOf e
       ·rw[List.getElem?_map,List.getElem?_range hj]
        simp[List.getD,List.getElem?_eq_getElem (show j<(Classical.choose (key i)).length by omega)]
       ·rw[List.getElem?_eq_none (by simp;omega),List.getElem?_eq_none Om]
      rw[e]
      exact k2
     ·simp only[bM]
      refine⟨some a,cap,rfl,hle,fun hpos=> ?_⟩
      obtain⟨cs0,hc0,_,_,k30⟩:=Classical.choose_spec (key 0) hpos
      have hcell: ∀i j,i<len->j<P.cellsOf e-> ∃u,w.cell? ((a.add (i*P.cellsOf e)).add j)=some u∧bM (fun b=>b<w.heap.size) w ((Classical.choose (key i)).getD j default) u:=by
       intro i j hi hj
       obtain⟨cs,hc,k1,k2,k3⟩:=Classical.choose_spec (key i) hi
       obtain⟨_,m2,m3⟩:=World.cells?_some hc
       obtain⟨u,hu1,hu2⟩:=k3.get j Om
       exact⟨u,by rw[m3 j hj];exact hu1,hu2⟩
      obtain⟨u0,hu0,_⟩:=hcell 0 0 hpos h3
      obtain⟨b,o,spot⟩:=a
      have hs:spot=none:=by
       have:=World.cell?_spot hu0
       cases spot<;>simp[Addr.add]at this⊢
      subst hs
      have hb:b<w.heap.size:=by have:=lt_of_cell? hu0;simpa[add_eq]using this
      refine⟨b,o,rfl,hb,fun i j hi hj=> ?_⟩
      obtain⟨u,hu1,hu2⟩:=hcell i j hi hj
      exact⟨u,by simpa[add_eq,Nat.add_assoc]using hu1,hu2⟩
   |struct fs=>
    obtain⟨fs⟩:=fs
    simp only[Bool.and_eq_true]at hp
    obtain⟨h1,h2,h3⟩:=hp
    have h2:=Nat.eq_of_beq_eq_true h2
    obtain⟨xs,n,_,rfl,hl,hlen,hf⟩:=DataW.trod_struct hu h
    refine⟨hl,?_⟩
    have go: ∀(gs:List Field)(o:Nat),Y5 P o gs=true->o+sumF P gs=cs.length->(∀x∈gs,tC P f x.type=true)->(∀x∈gs,∃y,DataW.trod enc P w 0 sp held n x.type ((cs.drop x.offset).take (P.cellsOf x.type))=some y∧∀m∈y.1.weights P x.type,m<=R)->
       ∃ds,aic (wfT P R f) P gs ds∧oU (fun b=>b<w.heap.size) w ds (cs.drop o):=by
     intro gs
     induction gs with
     |nil=>
      intro o _ ho _ _
      refine⟨[],rfl,?_⟩
      simp only[sumF]at ho
      rw[List.drop_eq_nil_of_le Om]
      exact .nil
     |cons q gs ih=>
      intro o ho hs hpl htr
      obtain⟨nm,ty,off,b4,b5,b6,b7⟩:=q
      simp only[Y5,Bool.and_eq_true]at ho
      have e:=Nat.eq_of_beq_eq_true ho.1
      subst e
      simp only[sumF]at hs
      obtain⟨y,hy,hyw⟩:=htr ⟨nm,ty,off,b4,b5,b6,b7⟩ List.mem_cons_self
      obtain⟨k1,a,k2,k3⟩:=PV (hpl ⟨nm,ty,off,b4,b5,b6,b7⟩ List.mem_cons_self) hy hyw
      obtain⟨b,k4,k5⟩:=ih (off+P.cellsOf ty) ho.2 Om (fun x hx=>hpl x (by simp[hx])) (fun x hx=>htr x (by simp[hx]))
      refine⟨a++b,⟨a,b,rfl,k2,k4⟩,?_⟩
      have:=k3.append k5
      rw[<-List.drop_drop,List.take_append_drop]at this
      exact this
    have:=go fs 0 h1 Om (fun x hx=>by simpa using List.all_eq_true.1 h3 x hx) (fun x hx=>by
     obtain⟨i,hi,rfl⟩:=List.getElem_of_mem hx
     have:=hf i fs[i] (by simp[hi])
     rw[List.getElem?_eq_getElem (by simpa[hlen]using hi)]at this
     exact⟨_,this,fun m hm=>hR m (by
       simp only[DataW.weights,hu]
       exact DataW.weights_mem_each (j:=i) (by simp[hi]) (by simp[hlen,hi]) m hm)⟩)
    simpa using this
   |_=>cases hp
def aiH:List D->SV
 |[x]=> .d x
 |_=> .junk
def af6(P:Program)(t:Nat)(ds:List D):SV:=
 match P.underlying t with
 |some (.struct _)=> .agg (ds.map .d)
 |_=>aiH ds
theorem ahC{f t:Nat}{v:Value}{d:DataW H}{p:List MemPlace}{r:Reach}{base:Nat}{ρ:Nat->Loc}(hp:tC P f t=true)(hv:Value.okWide P w r base t v)(h:DataW.Trod enc P w 0 sp held t v d p){R:Nat}(hR: ∀n∈d.weights P t,n<=R):
 ∃ds,wfT P R f t ds∧aC (fun b=>b<w.heap.size) ρ w (af6 P t ds) v:=by
 obtain⟨g,h⟩:=h
 obtain⟨hl,ds,h1,h2⟩:=PV hp h hR
 refine⟨ds,h1,?_⟩
 cases f with
 |zero=>simp[tC]at hp
 |succ f=>
  simp only[tC]at hp
  cases hu:P.underlying t with
  |none=>rw[hu]at hp;cases hp
  |some e=>
   rw[hu]at hp
   simp only[af6,hu]
   have single: ∀{u:Value},v=u->u.cells= #[u]->aC (fun b=>b<w.heap.size) ρ w (aiH ds) v:=by
    intro u e1 e2
    subst e1
    rw[e2]at h2
    cases h2 with
    |cons h3 h4=>
     cases h4
     simpa only[aC,aiH]using h3
   cases e with
   |bool=>obtain⟨b,e⟩:=Go.WideShapes.okWide_bool hu hv;exact single e rfl
   |int k=>obtain⟨b,e⟩:=Go.WideShapes.okWide_int hu hv;exact single e rfl
   |string=>obtain⟨b,e⟩:=Go.WideShapes.okWide_string hu hv;exact single e rfl
   |slice e=>obtain⟨a,n,c,e⟩:=Go.WideShapes.okWide_slice hu hv;exact single e rfl
   |struct fs=>
    unfold Value.okWide at hv
    rw[hu]at hv
    obtain⟨cs,rfl,_,_⟩:=hv
    simp only[aC]
    obtain⟨us⟩:=cs
    exact⟨us,rfl,h2.rep,h2.one⟩
   |_=>cases hp
theorem aib{k:IntKind}{n:Int}(h:(Lit.int k n).wf=true):k.min<=n∧n<=k.max:=by
 simpa[Lit.wf]using h
theorem wf_i64{n:Int}(h:(Lit.int .i64 n).wf=true): -9223372036854775808<=n∧n<9223372036854775808:=by
 have h:=aib h
 have h1:IntKind.i64.min= -9223372036854775808:=rfl
 have h2:IntKind.i64.max=9223372036854775807:=rfl
 omega
theorem Spec.law{G:Nat->Option (Nat×(Nat->D))}{f:FuncId}{args:List SV}(h:Spec P G f args [] (.d (.bool true)) []){ρ:Nat->Loc}{vs:List Value}(hr:aT (fun b=>b<w.heap.size) ρ w args vs)
 (hG:GOk G (fun b=>b<w.heap.size) w):Calls P f ⟨vs⟩ w fun e w'=>e= .returned (.bool true)∧Below w.heap.size w w':=by
 refine(h.calls w _ ρ vs hr (by simp) (by simp) (fun _ h=>h) hG).mono ?_
 rintro e w' ⟨v,I',ρ',rfl,k⟩
 have h1:=k.res
 have h6:=k.keep
 simp only[aC,bM]at h1
 subst h1
 exact⟨rfl,h6.os,h6.tape,h6.output,h6.size,fun k hk=>h6.block k hk (by simp)⟩
end Go.Sx
namespace Go.Sx
open Go Go.RowKit Go.ChangeShapes
variable {P:Program}{w:World}{H:Type}{enc:TypeId×Value->H}
def svs(P:Program):List Nat->List (List D)->List SV
 |t::ts,ds::r=>af6 P t ds::svs P ts r
 |_,_=>[]
theorem ZN{sp:Nat->Bool}{held:Bool}{R base:Nat}{ρ:Nat->Loc}: ∀{ts:List Nat}{vs:List Value}{ds:List (DataW H)}{p:List MemPlace},(∀t∈ts,tC P 12 t=true)->
 DataW.TrodAll enc P w 0 sp held ts vs ds p->(∀(j:Nat) t v,ts[j]? =some t->vs[j]? =some v->Value.okWide P w .any base t v)->(∀n∈DataW.weightsEach P ts ds,n<=R)->
 ∃X0,CG (wfT P R 12) ts X0∧aT (fun b=>b<w.heap.size) ρ w (svs P ts X0) vs∧ds.length=ts.length∧∀x∈p,x.block<w.heap.size
 |[],vs,ds,p,_,h,_,_=>by
  obtain⟨rfl,rfl,rfl⟩:=trodAll_nil h
  exact⟨[],.nil,by simp[svs,aT],rfl,by simp⟩
 |t::ts,vs,ds,p,hp,h,hv,hR=>by
  obtain⟨v,vs,d,ds,p,q,rfl,rfl,rfl,h0,h1⟩:=trodAll_cons h
  obtain⟨X0,k1,k2,k3,k4⟩:=ZN (ρ:=ρ) (fun t ht=>hp t (by simp[ht])) h1 (fun j t v a b=>hv (j+1) t v (by simpa using a) (by simpa using b)) (fun n hn=>hR n (by simp[DataW.weightsEach,hn]))
  obtain⟨x,m1,m2⟩:=ahC (ρ:=ρ) (hp t (by simp)) (hv 0 t v rfl rfl) h0 (fun n hn=>hR n (by simp[DataW.weightsEach,hn]))
  refine⟨x::X0,.cons m1 k1,?_,by simp[k3],fun y hy=> ?_⟩
  ·simp only[svs,aT]
   exact⟨_,_,rfl,m2,k2⟩
  ·rcases List.mem_append.1 hy with hy|hy
   ·obtain⟨m,hm⟩:=h0
    exact DataW.trod_lt m _ _ _ hm y hy
   ·exact k4 y hy
theorem Pq(hl:laidOutB P=true){W W':World}(hb:Below W.heap.size W W'): ∀{ts:List Nat}{vs:List Value}{ds:List (DataW H)}{p:List MemPlace},
 (∀t∈ts,P.readableRec t=true∧t<P.types.size)->DataW.TrodAll enc P W 0 (fun _=>true) true ts vs ds p->(∀x∈p,x.block<W.heap.size)->
 DataW.TrodAll enc P W' 0 (fun b=>decide (b<W.heap.size)) true ts vs ds p
 |[],vs,ds,p,_,h,_=>by
  obtain⟨rfl,rfl,rfl⟩:=trodAll_nil h
  exact trodAll_mk0
 |t::ts,vs,ds,p,hp,h,hlt=>by
  obtain⟨v,vs,d,ds,p,q,rfl,rfl,rfl,h0,h1⟩:=trodAll_cons h
  exact trodAll_cons_mk (Below.trod hl (hp t (by simp)).1 (hp t (by simp)).2 h0 hb (fun x hx=>hlt x (by simp[hx])))
   (Pq hl hb (fun t ht=>hp t (by simp[ht])) h1 (fun x hx=>hlt x (by simp[hx])))
def PU(P:Program):List Nat->Bool
 |[]=>true
 |t::ts=>tC P 12 t&&(P.readableRec t&&(decide (t<P.types.size)&&PU P ts))
theorem Js: ∀{ts:List Nat},PU P ts=true-> ∀t∈ts,tC P 12 t=true∧P.readableRec t=true∧t<P.types.size
 |[],_,t,ht=>by simp at ht
 |t::ts,h,u,hu=>by
  simp only[PU,Bool.and_eq_true,decide_eq_true_eq]at h
  obtain⟨h1,h2,h3,h4⟩:=h
  rcases List.mem_cons.1 hu with rfl|hu
  ·exact⟨h1,h2,h3⟩
  ·exact Js h4 u hu
theorem QL{f:FuncId}{fn:Func}{s:ChangeSpec}{G:Nat->Option (Nat×(Nat->D))}{ts:List Nat}{bt:Nat}(laidOut:laidOutB P=true)(hts:fn.params.toList=ts)(hres:fn.resultTypes= #[bt])
 (hbt:P.underlying bt=some .bool) (aiX:PU P ts=true) (hvars:s.vars=[]) (hs: ∀ds:List (DataW H),ds.length=ts.length->s.fn H ds={results:=[.lit (.bool true)],args:=ds,vars:=[]})
 (spec: ∀X0,CG (wfT P reachBytes 12) ts X0->Spec P G f (svs P ts X0) [] (.d (.bool true)) [])
 {W:World} {base:Nat} {args:Array Value} {ds gs:List (DataW H)} {before:List MemPlace}
 (hval: ∀(j:Nat) t v,fn.params[j]? =some t->args[j]? =some v->Value.okWide P W .any base t v)
 (hW:DataW.Whole enc P fn.params.toList s.vars false W args.toList ds gs before)
 (hsz:(DataW.weightsEach P (fn.params.toList++s.plain.varTypes P) (ds++gs)).all (· <=reachBytes)=true) (hG:GOk G (fun b=>b<W.heap.size) W):
 Calls P f args W fun e W'=> ∃v,e= .returned v∧s.post enc P fn false true false false W args v W':=by
 have hW':=hW
 obtain⟨p,q,hA,hV,rfl,hfz,hnd⟩:=hW
 rw[hts]at hA
 rw[hvars]at hV
 obtain⟨rfl,rfl⟩:=trodVars_none hV
 have hty:=Js aiX
 have hlen:ds.length=ts.length:=by
  have: ∀{ts:List Nat}{vs:List Value}{ds:List (DataW H)}{p:List MemPlace},DataW.TrodAll enc P W 0 (fun _=>true) true ts vs ds p->ds.length=ts.length:=by
   intro ts
   induction ts with
   |nil=>intro vs ds p h;obtain⟨rfl,rfl,rfl⟩:=trodAll_nil h;rfl
   |cons t ts ih=>intro vs ds p h;obtain⟨v,vs,d,ds,p,q,rfl,rfl,rfl,h0,h1⟩:=trodAll_cons h;simp[ih h1]
  exact this hA
 obtain⟨X0,k1,k2,_,k4⟩:=ZN (ρ:=fun _=>Oz 0 0 0 0 0) (base:=base) (R:=reachBytes) (fun t ht=>(hty t ht).1) hA
  (fun j t v a b=>hval j t v (by rw[<-hts]at a;simpa using a) (by simpa using b)) (fun n hn=>by
    have:=List.all_eq_true.1 hsz n (by
     rw[hts]
     have e: ∀{ts us:List Nat}{ds es:List (DataW H)},ds.length=ts.length-> ∀n∈DataW.weightsEach P ts ds,n∈DataW.weightsEach P (ts++us) (ds++es):=by
      intro ts us
      induction ts with
      |nil=>intro ds es h n hn;cases ds<;>simp[DataW.weightsEach]at hn
      |cons t ts ih=>
       intro ds es h n hn
       cases ds with
       |nil=>simp at h
       |cons d ds=>
        simp only[DataW.weightsEach,List.mem_append,List.cons_append]at hn⊢
        exact hn.imp id (ih (by simpa using h) n)
     exact e hlen n hn)
    simpa using this)
 obtain⟨args⟩:=args
 refine((spec X0 k1).law (w:=W) (vs:=args) k2 hG).mono fun e W' ⟨he,bel⟩=> ?_
 subst he
 have hs':=hs (ds++[]) (by simpa using hlen)
 refine⟨_,rfl,_,_,_,[],p,[],hW',?_,?_,?_,bel.frame _,fun h=>by cases h⟩
 ·rw[hs',hres];exact trodAll_mk1 (shut_bool hbt _)
 ·rw[hs',hts,List.append_nil];exact Pq laidOut bel (fun t ht=>(hty t ht).2) hA k4
 ·rw[hs',hvars];rfl
end Go.Sx
namespace Go.Sx
open Go
variable {P:Program}{G:Nat->Option (Nat×(Nat->D))}{nt:Nat}{E:List Nat}
theorem abY{X:Type}{Q:X->Prop}{res:X->SV}{post:X->List (Nat×bG)}{f:FuncId}{args:List SV}{pre:List (Nat×bG)}{xg:List Nat}{K:SV->List (Nat×bG)->Prop}
 (h: ∃x,Q x∧Spec P G f args pre (res x) (post x)) (hb: ∀x,xg=[]∨(qR (res x)=true∧lT (post x))) (k: ∀x,Q x->K (res x) (post x)):vN P G f args pre xg K:=by
 obtain⟨x,hq,hs⟩:=h
 exact .mk (res x) (post x) hs (hb x) (k x hq)
theorem X3{ops:List Oper}{σ:St}{K:St->Prop}(h:aaV 0 ops=true)(k:iQ P G E nt ops 0 ops σ [] fun qL σ=>MK ops qL (K σ)):YB P G E nt ops σ K:=⟨h,k⟩
theorem aaU{ops:List Oper}{qL:List vW}{X:Prop}(h:Gw ops qL=true)(k:X):MK ops qL X:=⟨h,k⟩
theorem iD{p:Prop}{f:FuncId}{args:List SV}{pre:List (Nat×bG)}{xg:List Nat}{K:SV->List (Nat×bG)->Prop}{res:SV}{post:List (Nat×bG)}(h:p->Spec P G f args pre res post)
 (hb:xg=[]∨(qR res=true∧lT post)) (k:Need p (K res post)):vN P G f args pre xg K:=oN (h k.h) k.k hb
theorem aY{p:Prop}{X:Type}{Q:X->Prop}{res:X->SV}{post:X->List (Nat×bG)}{f:FuncId}{args:List SV}{pre:List (Nat×bG)}{xg:List Nat}{K:SV->List (Nat×bG)->Prop}
 (h:p-> ∃x,Q x∧Spec P G f args pre (res x) (post x)) (hb: ∀x,xg=[]∨(qR (res x)=true∧lT (post x))) (k:Need p (∀x,Q x->K (res x) (post x))):vN P G f args pre xg K:=
 abY (h k.h) hb k.k
inductive zu {X:Type} (pre:X->Prop) (ent:X->Prop):Prop where
 |mk (x:X) (h:ent x) (hp:pre x)
theorem GL{X:Type}{b:Bool}{x y:Code}{σ:St}{K:Ex->St->Prop}(keep uV:List Nat)(slots:X->List (Nat×SV))(own:X->List (Nat×bG))(pre:X->Prop)
 (h1:b=true->exec P G E nt x σ fun e σ'=>match e with
   | .normal=>zu pre fun x=>invK keep uV (slots x) (own x) σ fun σ2=>Q7 σ' σ2
   | .exit i=>K (.exit i) σ'
   | .ret=>K .ret σ')
 (h2:b=false->exec P G E nt y σ fun e σ'=>match e with
   | .normal=>zu pre fun x=>invK keep uV (slots x) (own x) σ fun σ2=>Q7 σ' σ2
   | .exit i=>K (.exit i) σ'
   | .ret=>K .ret σ')
 (k: ∀x,pre x->invK keep uV (slots x) (own x) σ fun σ1=>K .normal σ1):bc b (exec P G E nt x σ (wkK K)) (exec P G E nt y σ (wkK K)):=by
 have hI: ∀x,∃r,∀k,invK keep uV (slots x) (own x) σ k↔k r:=fun x=>Zo
 have fin: ∀{c:Code},(exec P G E nt c σ fun e σ'=>match e with
  | .normal=>zu pre fun x=>invK keep uV (slots x) (own x) σ fun σ2=>Q7 σ' σ2
  | .exit i=>K (.exit i) σ'
  | .ret=>K .ret σ')->exec P G E nt c σ (wkK K):=by
  intro c h
  refine G9 ?_ h
  intro e σ' h
  cases e with
  |normal=>
   obtain⟨x,h3,h4⟩:=h
   obtain⟨r,hr⟩:=hI x
   exact⟨r,Q8 ((hr _).1 h3),(hr _).1 (k x h4)⟩
  |exit i=>exact h
  |ret=>exact h
 exact ah (fun h=>fin (h1 h)) (fun h=>fin (h2 h))
def cellOf{α:Type}[Inhabited α](enc:α->List D)(xs:List α)(i j:Nat):D:=(enc (xs.getD i default)).getD j default
abbrev ay{α:Type}[Inhabited α](enc:α->List D)(k:Nat)(xs:List α):D:= .list xs.length k (cellOf enc xs)
theorem nJ{α:Type}{xs ys:List α}{i:Nat}{d:α}(h:i<xs.length):(xs++ys).getD i d=xs.getD i d:=by
 simp[List.getD,List.getElem?_append_left h]
theorem kD{α:Type}{xs ys:List α}{i:Nat}{d:α}(h: ¬i<xs.length):(xs++ys).getD i d=ys.getD (i-xs.length) d:=by
 simp[List.getD,List.getElem?_append_right (Nat.le_of_not_lt h)]
theorem yJ{α:Type}[Inhabited α]{enc:α->List D}{k n:Nat}{xs ys:List α}{g1 g2:Nat->Nat->D}(hn:n=xs.length)(h1:aJ n k g1 (cellOf enc xs))(h2:aJ ys.length k g2 (cellOf enc ys)):
 aJ (n+ys.length) k (fun i j=>if i<n then g1 i j else g2 (i-n) j) (cellOf enc (xs++ys)):=by
 subst hn
 refine⟨fun i j hi hj=> ?_⟩
 by_cases h:i<xs.length
 ·simp only[h,if_true]
  have:=h1.le i j h hj
  simpa only[cellOf,nJ h]using this
 ·simp only[h,if_false]
  have:=h2.le (i-xs.length) j Om hj
  simpa only[cellOf,kD h]using this
theorem row_one{α:Type}[Inhabited α]{enc:α->List D}{k:Nat}{x:α}{g:Nat->Nat->D}(h: ∀j,j<k->aF (g 0 j) ((enc x).getD j default)):aJ 1 k g (cellOf enc [x]):=
 ⟨fun i j hi hj=>by
   have:i=0:=Om
   subst this
   exact h j hj⟩
theorem dN{α:Type}[Inhabited α]{enc:α->List D}{k n:Nat}{xs:List α}{x:α}{g1 g2:Nat->Nat->D}(hn:n=xs.length)(h1:aJ n k g1 (cellOf enc xs))(h: ∀j,j<k->aF (g2 0 j) ((enc x).getD j default)):
 aJ (n+1) k (fun i j=>if i<n then g1 i j else g2 (i-n) j) (cellOf enc (xs++[x])):=
 yJ (ys:=[x]) hn h1 (row_one h)
theorem pO{k:Nat}{g1 g2:Nat->Nat->D}:aJ 0 k g1 g2:=⟨fun i j hi _=>absurd hi Om⟩
theorem ac1{α:Type}[Inhabited α]{enc:α->List D}{k n:Nat}{xs:List α}(h:n<=xs.length):aJ n k (cellOf enc xs) (cellOf enc (xs.take n)):=
 .of_eq fun i j hi _=>by simp[cellOf,List.getD,List.getElem?_take,hi]
theorem aF.rows{len len' k:Nat}{g g':Nat->Nat->D}(h:len=len')(hr:aJ len' k g g'):aF (.list len k g) (.list len' k g'):=aF.list h (fun _=>rfl) hr.le
theorem Cc{p:Nat->Prop}(h0:p 0)(h1:p 1): ∀j,j<2->p j
 |0,_=>h0
 |1,_=>h1
theorem AB{p:Nat->Prop}(h0:p 0): ∀j,j<1->p j
 |0,_=>h0
theorem agY{p:Nat->Prop}(h0:p 0)(h1:p 1)(h2:p 2)(h3:p 3): ∀j,j<4->p j
 |0,_=>h0
 |1,_=>h1
 |2,_=>h2
 |3,_=>h3
theorem xO{p:Nat->Prop}(h0:p 0)(h1:p 1)(h2:p 2): ∀j,j<3->p j
 |0,_=>h0
 |1,_=>h1
 |2,_=>h2
theorem aiT{p:Nat->Prop}(h0:p 0)(h1:p 1)(h2:p 2)(h3:p 3)(h4:p 4): ∀j,j<5->p j
 |0,_=>h0
 |1,_=>h1
 |2,_=>h2
 |3,_=>h3
 |4,_=>h4
theorem agT{α:Type}[Inhabited α]{enc:α->List D}{Q:α->Prop}{k:Nat}(hk: ∀x,(enc x).length=k): ∀{len:Nat}{get:Nat->Nat->D},(∀i,i<len-> ∃x,Q x∧(List.range k).map (get i)=enc x)->
 ∃xs:List α,xs.length=len∧(∀x∈xs,Q x)∧aF (.list len k get) (ay enc k xs)
 |len,get,h=>by
  let f:Nat->α:=fun i=>if hi:i<len then Classical.choose (h i hi)else default
  refine⟨(List.range len).map f,by simp,?_,aF.rows (by simp) ?_⟩
  ·intro x hx
   obtain⟨i,hi,rfl⟩:=List.mem_map.1 hx
   have hi:i<len:=List.mem_range.1 hi
   simp only[f,dif_pos hi]
   exact(Classical.choose_spec (h i hi)).1
  ·refine .of_eq fun i j hi hj=> ?_
   have hi:i<len:=by simpa using hi
   have e:=(Classical.choose_spec (h i hi)).2
   have:((List.range len).map f).getD i default=f i:=by simp[List.getD,hi]
   simp only[cellOf,this,f,dif_pos hi]
   rw[<-e]
   simp[List.getD,hj]
theorem aaB{α:Type}[Inhabited α]{enc:α->List D}{k n:Nat}{xs:List α}{x:α}{g1 g2:Nat->Nat->D}(hn:n=xs.length)(h1:aJ n k g1 (cellOf enc xs))(h:MR (fun j=>aF (g2 0 j) ((enc x).getD j default)) k):
 aJ (n+1) k (fun i j=>if i<n then g1 i j else g2 (i-n) j) (cellOf enc (xs++[x])):=dN hn h1 h.out
theorem row_zero{n k:Nat}{g:Nat->Nat->D}:aJ n k (fun i j=>g (0+i) j) g:= .of_eq fun i j _ _=>by rw[Nat.zero_add]
theorem bn{α:Type}[Inhabited α]{enc:α->List D}{k:Nat}{xs ys:List α}(h:xs=ys):aB (.d (.list xs.length k fun i j=>cellOf enc xs (0+i) j)) (.d (ay enc k ys)):=by
 subst h
 exact aB.d (aF.rows rfl row_zero)
theorem agW{α:Type}[Inhabited α]{enc:α->List D}{k n:Nat}{g:Nat->Nat->D}{ys:List α}(hn:n=ys.length)(h:aJ n k g (cellOf enc ys)):aB (.d (.list n k fun i j=>g (0+i) j)) (.d (ay enc k ys)):=by
 subst hn
 refine aB.d (aF.rows rfl ⟨fun i j hi hj=> ?_⟩)
 rw[Nat.zero_add]
 exact h.le i j hi hj
theorem aN{α:Type}[Inhabited α]{enc:α->List D}{k:Nat}{ys:List α}(h:ys=[]):aB (.d (.val (.slice none 0 0))) (.d (ay enc k ys)):=by
 subst h
 exact aB.d aF.nil
theorem take_succ'{α:Type}[Inhabited α]{xs:List α}{i:Nat}(h:i<xs.length):xs.take (i+1)=xs.take i++[xs.getD i default]:=by
 rw[List.take_add_one,List.getElem?_eq_getElem h]
 simp[List.getD,h]
theorem Lu{α:Type}[Inhabited α]{xs:List α}{i:Nat}(h:i<xs.length):xs.drop i=xs.getD i default::xs.drop (i+1):=by
 rw[List.drop_eq_getElem_cons h]
 simp[List.getD,h]
theorem jX: ∀x:List UInt8,Op.bytesLess x x=false
 |[]=>rfl
 |a::x=>by simp[Op.bytesLess,jX x]
theorem jy: ∀{x y z:List UInt8},Op.bytesLess x y=true->Op.bytesLess y z=true->Op.bytesLess x z=true
 |[],[],z,h,_=>by simp[Op.bytesLess]at h
 |[],_::_,[],_,h=>by simp[Op.bytesLess]at h
 |[],_::_,_::_,_,_=>by simp[Op.bytesLess]
 |_::_,[],_,h,_=>by simp[Op.bytesLess]at h
 |_::_,_::_,[],_,h=>by simp[Op.bytesLess]at h
 |a::x,b::y,c::z,h1,h2=>by
  simp only[Op.bytesLess,Bool.or_eq_true,Bool.and_eq_true,decide_eq_true_eq,beq_iff_eq]at h1 h2⊢
  rcases h1 with h1|⟨rfl,h1⟩
  ·rcases h2 with h2|⟨rfl,h2⟩
   ·exact .inl (UInt8.lt_trans h1 h2)
   ·exact .inl h1
  ·rcases h2 with h2|⟨rfl,h2⟩
   ·exact .inl h2
   ·exact .inr ⟨rfl,jy h1 h2⟩
theorem L8: ∀{x y:List UInt8},Op.bytesLess x y=false->Op.bytesLess y x=false->x=y
 |[],[],_,_=>rfl
 |[],_::_,h,_=>by simp[Op.bytesLess]at h
 |_::_,[],_,h=>by simp[Op.bytesLess]at h
 |a::x,b::y,h1,h2=>by
  simp only[Op.bytesLess,Bool.or_eq_false_iff,Bool.and_eq_false_iff,decide_eq_false_iff_not,beq_eq_false_iff_ne]at h1 h2
  have hab:a=b:=by
   have h3:=h1.1
   have h4:=h2.1
   exact UInt8.le_antisymm (UInt8.not_lt.1 h4) (UInt8.not_lt.1 h3)
  subst hab
  have h3:Op.bytesLess x y=false:=h1.2.resolve_left (fun h=>h rfl)
  have h4:Op.bytesLess y x=false:=h2.2.resolve_left (fun h=>h rfl)
  rw[L8 h3 h4]
theorem L9{x y:List UInt8}(h:Op.bytesLess x y=true):Op.bytesLess y x=false:=by
 cases h':Op.bytesLess y x with
 |false=>rfl
 |true=>have:=jy h h';rw[jX]at this;cases this
theorem akY{x y:List UInt8}(h:Op.bytesLess x y=true):x≠y:=by
 rintro rfl
 rw[jX]at h
 cases h
theorem ajq{x y:List UInt8}:(Op.bytesLess x y||x==y)= !(Op.bytesLess y x):=by
 cases h1:Op.bytesLess x y with
 |true=>simp[L9 h1]
 |false=>
  cases h2:Op.bytesLess y x with
  |true=>simp[Ne.symm (akY h2)]
  |false=>simp[L8 h1 h2]
theorem Yp{x y:List UInt8}:(!(Op.bytesLess x y||x==y))=Op.bytesLess y x:=by rw[ajq,Bool.not_not]
end Go.Sx
namespace Go.Sx
open Go
variable {P:Program}{G:Nat->Option (Nat×(Nat->D))}{E:List Nat}{nt:Nat}
theorem Fl{p q r:Prop}(h:p∨(q∧r):=by first|exact .inl rfl|exact .inr ⟨rfl,trivial⟩|exact .inr ⟨rfl,by(repeat' (first|exact trivial|exact rfl|assumption|refine And.intro ?_ ?_|exact(fun i j hi hj=>AB (by exact rfl) j hj)|exact(fun i j hi hj=>Cc (by exact rfl) (by exact rfl) j hj)|exact(fun i j hi hj=>xO (by exact rfl) (by exact rfl) (by exact rfl) j hj)|exact(fun i j hi hj=>agY (by exact rfl) (by exact rfl) (by exact rfl) (by exact rfl) j hj)|exact(fun i j hi hj=>aiT (by exact rfl) (by exact rfl) (by exact rfl) (by exact rfl) (by exact rfl) j hj)))⟩):p∨(q∧r):=h
theorem Ni{p X:Prop}(k:X)(h:p):Need p X:=⟨h,k⟩
theorem Lf{p:Prop}(h:p:=by first|exact trivial|exact rfl|exact aF.refl _|exact gy.refl _|exact jo.refl _ _ _|exact aJ.refl _ _ _|exact⟨rfl,rfl⟩|exact⟨rfl,rfl,rfl⟩|exact⟨rfl,rfl,rfl,rfl⟩|exact gq.refl _ _ _|exact⟨trivial,trivial,trivial⟩|exact⟨trivial,trivial⟩|exact⟨trivial,trivial,trivial,trivial⟩|omega):p:=h
theorem Lq{p:Prop}(h:p:=by first|exact⟨rfl,rfl⟩|exact⟨rfl,rfl,rfl⟩|exact aF.refl _|exact aJ.refl _ _ _|exact gy.refl _|exact jo.refl _ _ _|exact gq.refl _ _ _|exact⟨rfl,rfl,rfl,rfl⟩|exact rfl|exact trivial|omega):p:=h
theorem Ci{f:FuncId}{args:List SV}{pre:List (Nat×bG)}{xg:List Nat}{K:SV->List (Nat×bG)->Prop}{res:SV}{post:List (Nat×bG)}(h:Spec P G f args pre res post)(k:K res post)
 (hb:xg=[]∨(qR res=true∧lT post):=by first|exact .inl rfl|exact .inr ⟨rfl,trivial⟩|exact .inr ⟨rfl,by(repeat' (first|exact trivial|exact rfl|assumption|refine And.intro ?_ ?_|exact(fun i j hi hj=>AB (by exact rfl) j hj)|exact(fun i j hi hj=>Cc (by exact rfl) (by exact rfl) j hj)|exact(fun i j hi hj=>xO (by exact rfl) (by exact rfl) (by exact rfl) j hj)|exact(fun i j hi hj=>agY (by exact rfl) (by exact rfl) (by exact rfl) (by exact rfl) j hj)|exact(fun i j hi hj=>aiT (by exact rfl) (by exact rfl) (by exact rfl) (by exact rfl) (by exact rfl) j hj)))⟩):vN P G f args pre xg K:=oN h k hb
theorem Cf{p:Prop}{f:FuncId}{args:List SV}{pre:List (Nat×bG)}{xg:List Nat}{K:SV->List (Nat×bG)->Prop}{res:SV}{post:List (Nat×bG)}(h:p->Spec P G f args pre res post)(k:K res post)(q:p)
 (hb:xg=[]∨(qR res=true∧lT post):=by first|exact .inl rfl|exact .inr ⟨rfl,trivial⟩|exact .inr ⟨rfl,by(repeat' (first|exact trivial|exact rfl|assumption|refine And.intro ?_ ?_|exact(fun i j hi hj=>AB (by exact rfl) j hj)|exact(fun i j hi hj=>Cc (by exact rfl) (by exact rfl) j hj)|exact(fun i j hi hj=>xO (by exact rfl) (by exact rfl) (by exact rfl) j hj)|exact(fun i j hi hj=>agY (by exact rfl) (by exact rfl) (by exact rfl) (by exact rfl) j hj)|exact(fun i j hi hj=>aiT (by exact rfl) (by exact rfl) (by exact rfl) (by exact rfl) (by exact rfl) j hj)))⟩):vN P G f args pre xg K:=iD h hb (Xg k q)
structure Sp (A Z:Prop):Prop where
 h:Z->A
theorem Sp.t{b:Bool}{X Y:Prop}(h:b=true):Sp (bc b X Y) X:=⟨ahx h⟩
theorem Sp.f{b:Bool}{X Y:Prop}(h:b=false):Sp (bc b X Y) Y:=⟨afl h⟩
theorem Sp.w{σ:St}{k:St->Prop}:Sp (ahE σ k) (k σ):=⟨afT⟩
theorem Sp.d{ops:List Oper}{σ:St}{K:St->Prop}(h:aaV 0 ops=true):Sp (YB P G E nt ops σ K) (iQ P G E nt ops 0 ops σ [] fun qL σ=>MK ops qL (K σ)):=⟨X3 h⟩
theorem Sp.o{ops:List Oper}{qL:List vW}{X:Prop}(h:Gw ops qL=true):Sp (MK ops qL X) X:=⟨aaU h⟩
theorem Sg{A Z:Prop}(k:Z)(h:Sp A Z:=by first|(apply Sp.t;assumption)|(apply Sp.f;assumption)|exact Sp.w|(apply Sp.d;kernel_rfl)|(apply Sp.o;kernel_rfl)):A:=h.h k
theorem Sr{A Z:Prop}(k:Z)(h:Sp A Z:=by first|(apply Sp.t;exact rfl)|(apply Sp.f;exact rfl)):A:=h.h k
theorem Kq{α:Type}{a b:α}(h:a=b:=by kernel_rfl):a=b:=h
end Go.Sx
