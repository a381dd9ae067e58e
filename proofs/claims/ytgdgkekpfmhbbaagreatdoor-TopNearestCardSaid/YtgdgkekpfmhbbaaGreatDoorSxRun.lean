/- Part of a symbolic executor over the model, proved sound, with plain laws: SxRun. Written for this claim. -/
import Derived.Test.YtgdgkekpfmhbbaaGreatDoorSxCall
import Derived.Orders
import Derived.Scope
set_option linter.unusedVariables false
set_option linter.unusedSimpArgs false
namespace Go.Sx
open Go
variable {P:Program}{G:Nat->Option (Nat×(Nat->D))}{nt:Nat}{C:Ctx}{I:Nat->Prop}{ρ:Nat->Loc}{F:Fs}{a:Act}{w:World}{E:List Nat}{T:Nat}
def ql:List Nat->List (Nat×bG)->(List (Nat×bG)->Prop)->Prop
 |[],_,k=>k []
 |n::ns,o,k=>match lookO o n with
  |some (.box cs)=>ql ns o fun r=>k ((n,.box cs)::r)
  |some (.row E sz len g)=>ql ns o fun r=>k ((n,.row E sz len g)::r)
  |some (.dW fn ka kk va sz has g)=>ql ns o fun r=>k ((n,.dW fn ka kk va sz has g)::r)
  |_=>Stuck "receiver"
inductive vN (P:Program) (G:Nat->Option (Nat×(Nat->D))) (f:FuncId) (args:List SV) (pre:List (Nat×bG)) (xg:List Nat) (K:SV->List (Nat×bG)->Prop):Prop where
 |mk (res:SV) (post:List (Nat×bG)) (h:Spec P G f args pre res post) (hb:xg=[]∨(qR res=true∧lT post)) (k:K res post)
def M.run(P:Program)(G:Nat->Option (Nat×(Nat->D))):M bf->St->(St->Prop)->Prop
 | .ret u,σ,K=>qC u σ K
 | .slot k f,⟨s,o,nm,n0⟩,K=>match look s k with
   |some v=>(f v).run P G ⟨s,o,nm,n0⟩ K
   |none=>Stuck "slot"
 | .own n f,⟨s,o,nm,n0⟩,K=>match lookO o n with
   |some v=>(f v).run P G ⟨s,o,nm,n0⟩ K
   |none=>Stuck "own"
 | .need p m,σ,K=>Need p (m.run P G σ K)
 | .split b x y,σ,K=>bc b (x.run P G σ K) (y.run P G σ K)
 | .call dst f args names xg pub,⟨s,o,nm,n0⟩,K=>pubs n0 pub s o fun s o=>ql names o fun pre=>vN P G f args pre xg fun res post=>
    qC ⟨dst,res,post,[],newP pre post,[]⟩ ⟨s,o,nm,n0⟩ K
 | .fail why,_,_=>Stuck why
def iZ:St->Fs
 |⟨s,o,nm,n0⟩=>⟨look s,lookO o,fun n=>g_ n nm=true,fun n=>g_ n n0=true⟩
theorem beq_iff(i k:Nat):Nat.beq i k=true↔i=k:=⟨Nat.eq_of_beq_eq_true,fun h=>by subst h;exact Nat.beq_refl i⟩
theorem jE(i:Nat)(v:SV)(l:List (Nat×SV))(k:Nat):look ((i,v)::l) k=if i=k then some v else look l k:=by
 simp only[look]
 split
 ·rename_i h;rw[if_pos ((beq_iff _ _).1 h)]
 ·rename_i h;rw[if_neg (fun e=>by rw[(beq_iff _ _).2 e]at h;cases h)]
theorem ji(i:Nat)(v:bG)(l:List (Nat×bG))(k:Nat):lookO ((i,v)::l) k=if i=k then some v else lookO l k:=by
 simp only[lookO]
 split
 ·rename_i h;rw[if_pos ((beq_iff _ _).1 h)]
 ·rename_i h;rw[if_neg (fun e=>by rw[(beq_iff _ _).2 e]at h;cases h)]
theorem xZ{K:List (Nat×SV)->Prop}{n:Nat}: ∀{l:List (Nat×SV)}{k:List (Nat×SV)->Prop},delS l n k-> ∃r,k r∧look r=fun m=>if m=n then none else look l m
 |[],k,h=>⟨[],h,by funext m;simp[look]⟩
 |(i,v)::l,k,h=>by
  simp only[delS]at h
  split at h
  ·rename_i e
   have e:=(beq_iff _ _).1 e
   subst e
   obtain⟨r,h1,h2⟩:=xZ (K:=K) h
   refine⟨r,h1,?_⟩
   rw[h2]
   funext m
   rw[jE]
   by_cases hm:m=i
   ·simp[hm]
   ·simp[hm,Ne.symm hm]
  ·rename_i e
   have e:i≠n:=fun e'=>by rw[(beq_iff _ _).2 e']at e;cases e
   obtain⟨r,h1,h2⟩:=xZ (K:=K) h
   refine⟨_,h1,?_⟩
   funext m
   rw[jE,jE,h2]
   by_cases hm:i=m
   ·subst hm;simp[e]
   ·simp[hm]
theorem A_{n:Nat}: ∀{l:List (Nat×bG)}{k:List (Nat×bG)->Prop},NJ l n k-> ∃r,k r∧lookO r=fun m=>if m=n then none else lookO l m
 |[],k,h=>⟨[],h,by funext m;simp[lookO]⟩
 |(i,v)::l,k,h=>by
  simp only[NJ]at h
  split at h
  ·rename_i e
   have e:=(beq_iff _ _).1 e
   subst e
   obtain⟨r,h1,h2⟩:=A_ h
   refine⟨r,h1,?_⟩
   rw[h2]
   funext m
   rw[ji]
   by_cases hm:m=i
   ·simp[hm]
   ·simp[hm,Ne.symm hm]
  ·rename_i e
   have e:i≠n:=fun e'=>by rw[(beq_iff _ _).2 e']at e;cases e
   obtain⟨r,h1,h2⟩:=A_ h
   refine⟨_,h1,?_⟩
   funext m
   rw[ji,ji,h2]
   by_cases hm:i=m
   ·subst hm;simp[e]
   ·simp[hm]
theorem O7: ∀{ns:List Nat}{l:List (Nat×bG)}{k:List (Nat×bG)->Prop}{s:List (Nat×SV)}{nm n0:List Nat},LD l ns k-> ∃r,k r∧iZ ⟨s,r,nm,n0⟩=iU (iZ ⟨s,l,nm,n0⟩) ns
 |[],l,k,_,_,_,h=>⟨l,h,rfl⟩
 |n::ns,l,k,s,nm,n0,h=>by
  obtain⟨r1,h1,e1⟩:=A_ h
  obtain⟨r2,h2,e2⟩:=O7 (s:=s) (nm:=nm) (n0:=n0) h1
  refine⟨r2,h2,?_⟩
  rw[e2]
  simp only[iU]
  congr 1
  simp only[iZ,jK,e1]
theorem N_: ∀{bs:List (Nat×bG)}{l:List (Nat×bG)}{k:List (Nat×bG)->Prop}{s:List (Nat×SV)}{nm n0:List Nat},JH l bs k-> ∃r,k r∧iZ ⟨s,r,nm,n0⟩=jS (iZ ⟨s,l,nm,n0⟩) bs
 |[],l,k,_,_,_,h=>⟨l,h,rfl⟩
 |(n,b)::bs,l,k,s,nm,n0,h=>by
  obtain⟨r1,h1,e1⟩:=A_ h
  obtain⟨r2,h2,e2⟩:=N_ (s:=s) (nm:=nm) (n0:=n0) h1
  refine⟨r2,h2,?_⟩
  rw[e2]
  simp only[jS]
  congr 1
  simp only[iZ,fE]
  congr 1
  funext m
  rw[ji,e1]
  by_cases hm:n=m
  ·subst hm;simp
  ·simp[hm,Ne.symm hm]
theorem Ld: ∀{ns:List Nat}{nm:List Nat}{k:List Nat->Prop}{s:List (Nat×SV)}{o:List (Nat×bG)}{n0:List Nat},y7 ns nm k->
 ∃r,k r∧iZ ⟨s,o,r,n0⟩=EW (iZ ⟨s,o,nm,n0⟩) ns∧∀n∈ns,¬g_ n nm=true
 |[],nm,k,_,_,_,h=>⟨nm,h,rfl,by simp⟩
 |n::ns,nm,k,s,o,n0,h=>by
  simp only[y7]at h
  split at h
  ·exact h.out.elim
  ·rename_i hn
   obtain⟨r,h1,h2,h3⟩:=Ld (s:=s) (o:=o) (n0:=n0) h
   have hm: ∀m,g_ m (n::nm)=true↔(m=n∨g_ m nm=true):=by
    intro m
    simp only[g_]
    split
    ·rename_i e;simp[(beq_iff _ _).1 e]
    ·rename_i e
     have:m≠n:=fun e'=>by rw[(beq_iff _ _).2 e']at e;cases e
     simp[this]
   refine⟨r,h1,?_,?_⟩
   ·rw[h2]
    simp only[EW]
    congr 1
    simp only[iZ]
    congr 1
    funext m
    exact propext (hm m)
   ·intro m hm'
    simp only[List.mem_cons]at hm'
    rcases hm' with rfl|hm'
    ·rw[hn];simp
    ·intro h4;exact h3 m hm' ((hm m).2 (.inr h4))
theorem lF{n sz:Nat}{get:Nat->Nat->D}: ∀{cs:List SV}{k:List SV->Prop},lN n sz get cs k->k (Aj n sz get cs)
 |[],_,h=>h
 |c::cs,k,h=>by
  cases c with
  |bW m s off len=>
   simp only[lN]at h
   split at h
   ·rename_i e
    have:=lF (cs:=cs) h
    simp only[Aj,e]
    exact this
   ·rename_i e
    have:=lF (cs:=cs) h
    simp only[Aj,e]
    exact this
  |_=>exact lF (cs:=cs) h
theorem aaN{n sz:Nat}{get:Nat->Nat->D}{v:SV}{k:SV->Prop}(h:Oe n sz get v k):k (pV n sz get v):=by
 cases v with
 |bW m s off len=>
  simp only[Oe]at h
  split at h
  ·rename_i e;simp only[pV,e];exact h
  ·rename_i e;simp only[pV,e];exact h
 |agg cs=>exact lF (k:=fun r=>k (.agg r)) h
 |cO cs=>exact lF (k:=fun r=>k (.cO r)) h
 |_=>exact h
theorem J6{n sz:Nat}{get:Nat->Nat->D}: ∀{l:List (Nat×SV)}{k:List (Nat×SV)->Prop},adg n sz get l k-> ∃r,k r∧look r=fun m=>(look l m).map (pV n sz get)
 |[],k,h=>⟨[],h,by funext m;simp[look]⟩
 |(i,v)::l,k,h=>by
  have h1:=aaN h
  obtain⟨r,h2,e⟩:=J6 (l:=l) h1
  refine⟨_,h2,?_⟩
  funext m
  rw[jE,jE,e]
  by_cases hm:i=m<;>simp[hm]
theorem J7{n sz:Nat}{get:Nat->Nat->D}: ∀{l:List (Nat×bG)}{k:List (Nat×bG)->Prop},xG n sz get l k-> ∃r,k r∧lookO r=fun m=>if m=n then none else(lookO l m).map (J8 n sz get)
 |[],k,h=>⟨[],h,by funext m;simp[lookO]⟩
 |(i,b)::l,k,h=>by
  have step: ∀{k':List (Nat×bG)->Prop},(∀r,k' r->(i=n->k r)∧(i≠n->k ((i,J8 n sz get b)::r)))->xG n sz get l k'-> ∃r,k r∧lookO r=fun m=>if m=n then none else(lookO ((i,b)::l) m).map (J8 n sz get):=by
    intro k' hk h
    obtain⟨r,h1,e⟩:=J7 (l:=l) h
    by_cases hin:i=n
    ·refine⟨r,(hk r h1).1 hin,?_⟩
     rw[e]
     funext m
     rw[ji]
     by_cases hm:m=n
     ·simp[hm]
     ·have:i≠m:=Om
      simp[hm,this]
    ·refine⟨_,(hk r h1).2 hin,?_⟩
     funext m
     rw[ji,ji,e]
     by_cases hm:i=m
     ·subst hm;simp[hin]
     ·simp[hm]
  cases b with
  |box cs=>
   simp only[xG]at h
   split at h
   ·rename_i e
    have e:=(beq_iff _ _).1 e
    exact step (fun r hr=>⟨fun _=>hr,fun hne=>(hne e).elim⟩) h
   ·rename_i e
    have e:i≠n:=fun e'=>by rw[(beq_iff _ _).2 e']at e;cases e
    exact step (fun r hr=>⟨fun h=>(e h).elim,fun _=>hr⟩) (lF h)
  |arr s cs=>
   simp only[xG]at h
   split at h
   ·rename_i e
    have e:=(beq_iff _ _).1 e
    exact step (fun r hr=>⟨fun _=>hr,fun hne=>(hne e).elim⟩) h
   ·rename_i e
    have e:i≠n:=fun e'=>by rw[(beq_iff _ _).2 e']at e;cases e
    exact step (fun r hr=>⟨fun h=>(e h).elim,fun _=>hr⟩) (lF h)
  |_=>
   simp only[xG]at h
   split at h
   ·rename_i e
    have e:=(beq_iff _ _).1 e
    exact step (fun r hr=>⟨fun _=>hr,fun hne=>(hne e).elim⟩) h
   ·rename_i e
    have e:i≠n:=fun e'=>by rw[(beq_iff _ _).2 e']at e;cases e
    exact step (fun r hr=>⟨fun h=>(e h).elim,fun _=>hr⟩) h
theorem su: ∀{ns:List Nat}{s:List (Nat×SV)}{o:List (Nat×bG)}{k:List (Nat×SV)->List (Nat×bG)->Prop}{nm n0:List Nat},pubs n0 ns s o k->
 ∃s' o',k s' o'∧fH (iZ ⟨s,o,nm,n0⟩) ns (iZ ⟨s',o',nm,n0⟩)
 |[],s,o,k,_,_,h=>⟨s,o,h,.nil _⟩
 |n::ns,s,o,k,nm,n0,h=>by
  simp only[pubs]at h
  split at h
  ·exact h.out.elim
  rename_i hn0
  have hn0: ¬(iZ ⟨s,o,nm,n0⟩).n0 n:=by simp only[iZ];rw[hn0];simp
  split at h
  ·rename_i Et sz len get hl
   obtain⟨s1,h1,e1⟩:=J6 h
   obtain⟨o1,h2,e2⟩:=J7 h1
   obtain⟨s',o',h3,p⟩:=su (nm:=nm) (n0:=n0) h2
   refine⟨s',o',h3,.row (show(iZ ⟨s,o,nm,n0⟩).o n=_ from hl) hn0 ?_⟩
   have:xH (iZ ⟨s,o,nm,n0⟩) n sz get=iZ ⟨s1,o1,nm,n0⟩:=by
    simp only[iZ,xH,e1,e2]
   rw[this]
   exact p
  ·rename_i fn Et sz len get hl
   split at h
   ·exact h.out.elim
   rename_i hf0
   have hf0: ¬(iZ ⟨s,o,nm,n0⟩).n0 fn:=by simp only[iZ];rw[hf0];simp
   split at h
   ·rename_i nk rows hlf
    obtain⟨hok,h⟩:=h
    obtain⟨s1,h1,e1⟩:=J6 h
    obtain⟨o1,h2,e2⟩:=J7 h1
    obtain⟨o2,h2,e3⟩:=A_ h2
    obtain⟨s',o',h3,p⟩:=su (nm:=nm) (n0:=n0) h2
    refine⟨s',o',h3,.nest (show(iZ ⟨s,o,nm,n0⟩).o n=_ from hl) (show(iZ ⟨s,o,nm,n0⟩).o fn=_ from hlf) hok hn0 hf0 ?_⟩
    have:jK (xH (iZ ⟨s,o,nm,n0⟩) n sz fun i j=>Lh rows (get i j)) fn=iZ ⟨s1,o2,nm,n0⟩:=by
     simp only[iZ,xH,jK,e1,e2,e3]
    rw[this]
    exact p
   ·exact h.out.elim
  ·exact h.out.elim
  ·rename_i hl
   obtain⟨s',o',h3,p⟩:=su (nm:=nm) (n0:=n0) h
   exact⟨s',o',h3,.none (show(iZ ⟨s,o,nm,n0⟩).o n=_ from hl) p⟩
theorem Zc{n:Nat}: ∀{l:List Nat},g_ n l=true↔n∈l
 |[]=>by simp[g_]
 |m::l=>by
  simp only[g_]
  split
  ·rename_i e;simp[(beq_iff _ _).1 e]
  ·rename_i e
   have:n≠m:=fun e'=>by rw[(beq_iff _ _).2 e']at e;cases e
   simp[this,Zc (l:=l)]
theorem nM: ∀{l m:List Nat},vg l m=true-> ∀n∈l,n ∉ m
 |[],_,_=>by simp
 |n::l,m,h=>by
  simp only[vg]at h
  split at h
  ·cases h
  ·rename_i hm
   intro k hk
   rcases List.mem_cons.1 hk with rfl|hk
   ·intro h';rw[Zc.2 h']at hm;cases hm
   ·exact nM h k hk
theorem DZ{u:bf}{σ:St}{K:St->Prop}(h:qC u σ K): ∃σ' F1,K σ'∧fH (iZ σ) u.pub F1∧iZ σ'=eG F1 u∧jB (iZ σ) u:=by
 obtain⟨dst,v,own,del,new,pub⟩:=u
 obtain⟨s,o,nm,n0⟩:=σ
 simp only[qC]at h
 obtain⟨s1,o1,h,p⟩:=su (nm:=nm) (n0:=n0) h
 unfold Jy at h
 split at h
 rotate_left
 ·exact h.out.elim
 rename_i hdel
 have hdel: ∀n∈del,¬g_ n n0=true:=fun n hn h'=>nM hdel n hn (Zc.1 h')
 obtain⟨o2,h,e2⟩:=O7 (s:=s1) (nm:=nm) (n0:=n0) h
 obtain⟨o3,h,e3⟩:=N_ (s:=s1) (nm:=nm) (n0:=n0) h
 obtain⟨nm4,h,e4,hf⟩:=Ld (s:=s1) (o:=o3) (n0:=n0) h
 have e:iZ ⟨s1,o3,nm4,n0⟩=EW (jS (iU (iZ ⟨s1,o1,nm,n0⟩) del) own) new:=by rw[e4,e3,e2]
 cases dst with
 |none=>exact⟨_,_,h,p,by simp only[eG,oH];exact e,hf,hdel⟩
 |some d=>
  obtain⟨s5,h,e5⟩:=xZ (K:=fun _=>True) h
  refine⟨_,_,h,p,?_,hf,hdel⟩
  simp only[eG,oH,<-e]
  simp only[iZ]
  congr 1
  funext k
  rw[jE,e5]
  by_cases hk:d=k
  ·subst hk;simp
  ·simp[hk,Ne.symm hk]
theorem uY: ∀{ns:List Nat}{o:List (Nat×bG)}{k:List (Nat×bG)->Prop},ql ns o k-> ∃pre,k pre∧pre.map (·.1)=ns∧∀n b,(n,b)∈pre->lookO o n=some b∧GX b
 |[],o,k,h=>⟨[],h,rfl,by simp⟩
 |n::ns,o,k,h=>by
  simp only[ql]at h
  split at h
  ·rename_i cs hl
   obtain⟨pre,h1,h2,h3⟩:=uY h
   refine⟨_,h1,by simp[h2],?_⟩
   intro m b hm
   simp only[List.mem_cons,Prod.mk.injEq]at hm
   rcases hm with⟨rfl,rfl⟩|hm
   ·exact⟨hl,trivial⟩
   ·exact h3 m b hm
  ·rename_i hl
   obtain⟨pre,h1,h2,h3⟩:=uY h
   refine⟨_,h1,by simp[h2],?_⟩
   intro m b hm
   simp only[List.mem_cons,Prod.mk.injEq]at hm
   rcases hm with⟨rfl,rfl⟩|hm
   ·exact⟨hl,trivial⟩
   ·exact h3 m b hm
  ·rename_i hl
   obtain⟨pre,h1,h2,h3⟩:=uY h
   refine⟨_,h1,by simp[h2],?_⟩
   intro m b hm
   simp only[List.mem_cons,Prod.mk.injEq]at hm
   rcases hm with⟨rfl,rfl⟩|hm
   ·exact⟨hl,trivial⟩
   ·exact h3 m b hm
  ·exact h.out.elim
theorem aiu{K:St->Prop}: ∀{m:M bf}{σ:St},m.run P G σ K-> ∃u σ' F1,To P G (iZ σ) m u∧K σ'∧fH (iZ σ) u.pub F1∧iZ σ'=eG F1 u∧jB (iZ σ) u:=by
 intro m
 induction m with
 |ret u=>
  intro σ h
  obtain⟨σ',F1,h1,h2,h3,h4⟩:=DZ h
  exact⟨u,σ',F1,.ret u,h1,h2,h3,h4⟩
 |slot k f ih=>
  intro⟨s,o,nm,n0⟩ h
  simp only[M.run]at h
  split at h
  ·rename_i v hv
   obtain⟨u,σ',F1,t,r⟩:=ih v h
   exact⟨u,σ',F1,.slot hv t,r⟩
  ·exact h.out.elim
 |own k f ih=>
  intro⟨s,o,nm,n0⟩ h
  simp only[M.run]at h
  split at h
  ·rename_i v hv
   obtain⟨u,σ',F1,t,r⟩:=ih v h
   exact⟨u,σ',F1,.own hv t,r⟩
  ·exact h.out.elim
 |need p m ih=>
  intro σ h
  simp only[M.run]at h
  obtain⟨u,σ',F1,t,r⟩:=ih h.k
  exact⟨u,σ',F1,.need h.h t,r⟩
 |split b x y ih1 ih2=>
  intro σ h
  simp only[M.run,bc]at h
  split at h
  ·obtain⟨u,σ',F1,t,r⟩:=ih1 h
   exact⟨u,σ',F1,.qY rfl t,r⟩
  ·obtain⟨u,σ',F1,t,r⟩:=ih2 h
   exact⟨u,σ',F1,.split2 rfl t,r⟩
 |call dst f args names xg pub=>
  intro⟨s,o,nm,n0⟩ h
  simp only[M.run]at h
  obtain⟨s1,o1,h,p⟩:=su (nm:=nm) (n0:=n0) h
  obtain⟨pre,h,h1,h2⟩:=uY h
  obtain⟨res,post,hs,hb,h⟩:=h
  obtain⟨σ',F1,h3,h4,h5,h6⟩:=DZ h
  cases h4
  refine⟨_,σ',_,.call p ⟨h1,fun n b hn=>h2 n b hn⟩ hs hb,h3,p,?_,⟨h6.new,by simp⟩⟩
  rw[h5]
  rfl
 |fail why=>intro σ h;exact h.out.elim
end Go.Sx
namespace Go.Sx
open Go
variable {P:Program}{G:Nat->Option (Nat×(Nat->D))}{nt:Nat}{C:Ctx}{I:Nat->Prop}{ρ:Nat->Loc}{F:Fs}{a:Act}{w:World}{E:List Nat}{T:Nat}
inductive MS (P:Program) (G:Nat->Option (Nat×(Nat->D))) (F:Fs):M bf->bf->List Nat->List Nat->Prop where
 |ret (u:bf) (h:u.pub=[]):MS P G F (.ret u) u [] []
 |slot {k:Nat} {f:SV->M bf} {v:SV} {u:bf} {rs ro:List Nat} (h:F.s k=some v) (t:MS P G F (f v) u rs ro):MS P G F (.slot k f) u (k::rs) ro
 |own {n:Nat} {f:bG->M bf} {b:bG} {u:bf} {rs ro:List Nat} (h:F.o n=some b) (t:MS P G F (f b) u rs ro):MS P G F (.own n f) u rs (n::ro)
 |need {p:Prop} {m:M bf} {u:bf} {rs ro:List Nat} (h:p) (t:MS P G F m u rs ro):MS P G F (.need p m) u rs ro
 |qY {b:Bool} {x y:M bf} {u:bf} {rs ro:List Nat} (h:b=true) (t:MS P G F x u rs ro):MS P G F (.split b x y) u rs ro
 |split2 {b:Bool} {x y:M bf} {u:bf} {rs ro:List Nat} (h:b=false) (t:MS P G F y u rs ro):MS P G F (.split b x y) u rs ro
 |call {dst:Option Nat} {f:FuncId} {args:List SV} {names xg:List Nat} {pre:List (Nat×bG)} {res:SV} {post:List (Nat×bG)}
   (hp:ZW F names pre) (h:Spec P G f args pre res post) (hb:xg=[]∨(qR res=true∧lT post)):
   MS P G F (.call dst f args names xg []) {dst,v:=res,own:=post,del:=[],new:=newP pre post,pub:=[]} [] names
theorem MS.to{m:M bf}{u:bf}{rs ro:List Nat}(h:MS P G F m u rs ro):To P G F m u∧u.pub=[]:=by
 induction h with
 |ret u h=>exact⟨.ret u,h⟩
 |slot h _ ih=>exact⟨.slot h ih.1,ih.2⟩
 |own h _ ih=>exact⟨.own h ih.1,ih.2⟩
 |need h _ ih=>exact⟨.need h ih.1,ih.2⟩
 |qY h _ ih=>exact⟨.qY h ih.1,ih.2⟩
 |split2 h _ ih=>exact⟨.split2 h ih.1,ih.2⟩
 |call hp h hb=>exact⟨.call (.nil _) hp h hb,rfl⟩
theorem MS.local{F':Fs}{m:M bf}{u:bf}{rs ro:List Nat}(h:MS P G F m u rs ro)(hs: ∀k∈rs,F'.s k=F.s k)(ho: ∀n∈ro,F'.o n=F.o n):MS P G F' m u rs ro:=by
 induction h with
 |ret u h=>exact .ret u h
 |slot h _ ih=>exact .slot (by rw[hs _ (by simp)];exact h) (ih (fun k hk=>hs k (by simp[hk])) ho)
 |own h _ ih=>exact .own (by rw[ho _ (by simp)];exact h) (ih hs (fun n hn=>ho n (by simp[hn])))
 |need h _ ih=>exact .need h (ih hs ho)
 |qY h _ ih=>exact .qY h (ih hs ho)
 |split2 h _ ih=>exact .split2 h (ih hs ho)
 |call hp h hb=>
  refine .call ⟨hp.1,fun n b hn=> ?_⟩ h hb
  have hmem:n∈(_:List Nat):=hp.1▸List.mem_map.2 ⟨_,hn,rfl⟩
  rw[ho n hmem]
  exact hp.2 n b hn
structure Eff where
 ds:Option (Nat×Option SV)
 eo:Nat->Option (Option bG)
 new:List Nat
def Fs.app(F:Fs)(e:Eff):Fs:=
 ⟨match e.ds with
   |none=>F.s
   |some (d,v)=>fun k=>if k=d then v else F.s k,
  fun m=>(e.eo m).getD (F.o m),fun m=>m∈e.new∨F.nm m,F.n0⟩
def lastB:List (Nat×bG)->Nat->Option bG
 |[],_=>none
 |(n,b)::l,m=>match lastB l m with
  |some c=>some c
  |none=>if m=n then some b else none
def zI(u:bf):Eff:=
 ⟨u.dst.map fun d=>(d,some u.v),fun m=>match lastB u.own m with
   |some b=>some (some b)
   |none=>if m∈u.del then some none else none,u.new⟩
def oz(dst:Option Nat):Eff:=⟨dst.map fun d=>(d,some (.cO [])),fun _=>none,[]⟩
theorem Ve: ∀{ns:List Nat}{F:Fs},(iU F ns).s=F.s∧(iU F ns).nm=F.nm∧(iU F ns).n0=F.n0∧∀m,(iU F ns).o m=if m∈ns then none else F.o m
 |[],F=>⟨rfl,rfl,rfl,by simp[iU]⟩
 |n::ns,F=>by
  obtain⟨h1,h2,h3,h4⟩:=Ve (ns:=ns) (F:=jK F n)
  refine⟨h1,h2,h3,fun m=> ?_⟩
  simp only[iU]
  rw[h4]
  by_cases e:m=n<;>by_cases e':m∈ns<;>simp[jK,e,e']
theorem SL: ∀{bs:List (Nat×bG)}{F:Fs},(jS F bs).s=F.s∧(jS F bs).nm=F.nm∧(jS F bs).n0=F.n0∧∀m,(jS F bs).o m=((lastB bs m).map some).getD (F.o m)
 |[],F=>⟨rfl,rfl,rfl,by simp[jS,lastB]⟩
 |(n,b)::bs,F=>by
  obtain⟨h1,h2,h3,h4⟩:=SL (bs:=bs) (F:=fE F n b)
  refine⟨h1,h2,h3,fun m=> ?_⟩
  simp only[jS]
  rw[h4]
  cases hl:lastB bs m with
  |some c=>simp[lastB,hl]
  |none=>
   by_cases e:m=n
   ·subst e;simp[lastB,hl,fE]
   ·simp[lastB,hl,fE,e]
theorem adL: ∀{ns:List Nat}{F:Fs},(EW F ns).s=F.s∧(EW F ns).o=F.o∧(EW F ns).n0=F.n0∧∀m,(EW F ns).nm m↔(m∈ns∨F.nm m)
 |[],F=>⟨rfl,rfl,rfl,by simp[EW]⟩
 |n::ns,F=>by
  obtain⟨h1,h2,h3,h4⟩:=adL (ns:=ns) (F:={F with nm:=fun m=>m=n∨F.nm m})
  refine⟨h1,h2,h3,fun m=> ?_⟩
  simp only[EW]
  rw[h4]
  simp only[List.mem_cons]
  constructor
  ·rintro(h|h|h)
   ·exact .inl (.inr h)
   ·exact .inl (.inl h)
   ·exact .inr h
  ·rintro((h|h)|h)
   ·exact .inr (.inl h)
   ·exact .inl h
   ·exact .inr (.inr h)
theorem U2{u:bf}:eG F u=F.app (zI u):=by
 have hs:=SL (bs:=u.own) (F:=iU F u.del)
 have hd:=Ve (ns:=u.del) (F:=F)
 have hn:=adL (ns:=u.new) (F:=jS (iU F u.del) u.own)
 have key:EW (jS (iU F u.del) u.own) u.new=⟨F.s,fun m=>((zI u).eo m).getD (F.o m),fun m=>m∈u.new∨F.nm m,F.n0⟩:=by
  cases h:EW (jS (iU F u.del) u.own) u.new with
  |mk s o nm n0=>
   rw[h]at hn
   obtain⟨h1,h2,h3,h4⟩:=hn
   simp only at h1 h2 h3 h4
   rw[h1,hs.1,hd.1,h2,h3,hs.2.2.1,hd.2.2.1]
   congr 1
   ·funext m
    rw[hs.2.2.2,hd.2.2.2]
    simp only[zI]
    cases lastB u.own m with
    |some b=>rfl
    |none=>by_cases e:m∈u.del<;>simp[e]
   ·funext m
    rw[propext (h4 m),hs.2.1,hd.2.1]
 simp only[eG,key]
 cases hdst:u.dst with
 |none=>simp[oH,Fs.app,zI,hdst]
 |some d=>simp[oH,Fs.app,zI,hdst]
inductive tX (P:Program) (G:Nat->Option (Nat×(Nat->D))) (E:List Nat) (ops:List Oper) (o:Oper) (F:Fs):Eff->List Nat->List Nat->Prop where
 |run {u:bf} {rs ro:List Nat} (hg:o.guard=none) (t:MS P G F (T_ P G E o.dst o.op) u rs ro) (hf:jB F u):tX P G E ops o F (zI u) rs ro
 |aaz {u:bf} {rs ro:List Nat} {j:Nat} {want:Bool} {oj:Oper} {d:Nat} (hg:o.guard=some (j,want)) (hj:ops[j]? =some oj) (hd:oj.dst=some d) (hb:F.s d=some (.d (.bool want)))
   (t:MS P G F (T_ P G E o.dst o.op) u rs ro) (hf:jB F u):tX P G E ops o F (zI u) (d::rs) ro
 |skip {j:Nat} {want:Bool} {oj:Oper} {d:Nat} (hg:o.guard=some (j,want)) (hj:ops[j]? =some oj) (hd:oj.dst=some d) (hb:F.s d=some (.d (.bool (!want)))∨F.s d=some (.cO [])):
   tX P G E ops o F (oz o.dst) [d] []
def Eff.ws(e:Eff)(k:Nat):Prop:= ∃v,e.ds=some (k,v)
def Eff.wo(e:Eff)(n:Nat):Prop:=e.eo n≠none∨n∈e.new
theorem MC{e:Eff}{k:Nat}(h: ¬e.ws k):(F.app e).s k=F.s k:=by
 unfold Fs.app
 cases hd:e.ds with
 |none=>rfl
 |some x=>
  obtain⟨d,v⟩:=x
  simp only
  rw[if_neg]
  rintro rfl
  exact h ⟨v,hd⟩
theorem ZP{e:Eff}{n:Nat}(h: ¬e.wo n):(F.app e).o n=F.o n:=by
 unfold Fs.app
 have:e.eo n=none:=Classical.byContradiction fun h'=>h (.inl h')
 simp[this]
theorem ajs{e:Eff}{n:Nat}(h: ¬e.wo n):(F.app e).nm n↔F.nm n:=by
 unfold Fs.app
 have:n ∉ e.new:=fun h'=>h (.inr h')
 simp[this]
theorem tX.local{ops:List Oper}{o:Oper}{F':Fs}{e:Eff}{rs ro:List Nat}(h:tX P G E ops o F e rs ro)(hs: ∀k∈rs,F'.s k=F.s k)(ho: ∀n∈ro,F'.o n=F.o n)
 (hn: ∀n,e.wo n->(F'.nm n->F.nm n)) (h0:F'.n0=F.n0):tX P G E ops o F' e rs ro:=by
 cases h with
 |run hg t hf=>exact .run hg (t.local hs ho) ⟨fun n hm h'=>hf.new n hm (hn n (.inr hm) h'),by rw[h0];exact hf.del⟩
 |aaz hg hj hd hb t hf=>exact .aaz hg hj hd (by rw[hs _ (by simp)];exact hb) (t.local (fun k hk=>hs k (by simp[hk])) ho) ⟨fun n hm h'=>hf.new n hm (hn n (.inr hm) h'),by rw[h0];exact hf.del⟩
 |skip hg hj hd hb=>exact .skip hg hj hd (by rw[hs _ (by simp)];exact hb)
structure ak4 (e:Eff) (rs ro:List Nat) (e':Eff) (rs' ro':List Nat):Prop where
 s1: ∀k∈rs',¬e.ws k
 o1: ∀n∈ro',¬e.wo n
 s2: ∀k∈rs,¬e'.ws k
 o2: ∀n∈ro,¬e'.wo n
 s3: ∀k,e.ws k-> ¬e'.ws k
 o3: ∀n,e.wo n-> ¬e'.wo n
theorem afs{e e':Eff}(hs: ∀k,e.ws k-> ¬e'.ws k)(ho: ∀n,e.wo n-> ¬e'.wo n):(F.app e).app e'=(F.app e').app e:=by
 have h1:((F.app e).app e').s=((F.app e').app e).s:=by
  funext k
  by_cases he:e.ws k
  ·have hne:=hs k he
   rw[MC hne]
   obtain⟨v,hv⟩:=he
   simp[Fs.app,hv]
  ·rw[MC (F:=F.app e') he]
   by_cases he':e'.ws k
   ·obtain⟨v,hv⟩:=he'
    simp[Fs.app,hv]
   ·rw[MC he',MC he,MC he']
 have h2:((F.app e).app e').o=((F.app e').app e).o:=by
  funext n
  by_cases he:e.wo n
  ·rw[ZP (ho n he)]
   have:e'.eo n=none:=Classical.byContradiction fun h'=>ho n he (.inl h')
   simp[Fs.app,this]
  ·rw[ZP (F:=F.app e') he]
   have:e.eo n=none:=Classical.byContradiction fun h'=>he (.inl h')
   simp[Fs.app,this]
 have h3:((F.app e).app e').nm=((F.app e').app e).nm:=by
  funext n
  simp only[Fs.app]
  apply propext
  constructor
  ·rintro(h|h|h)
   ·exact .inr (.inl h)
   ·exact .inl h
   ·exact .inr (.inr h)
  ·rintro(h|h|h)
   ·exact .inr (.inl h)
   ·exact .inl h
   ·exact .inr (.inr h)
 have h4:((F.app e).app e').n0=((F.app e').app e).n0:=rfl
 cases hA:(F.app e).app e' with
 |mk s o nm n0=>
  cases hB:(F.app e').app e with
  |mk s' o' nm' n0'=>
   rw[hA,hB]at h1 h2 h3 h4
   simp only at h1 h2 h3 h4
   subst h1;subst h2;subst h3;subst h4;rfl
structure sZ where
 i:Nat
 o:Oper
 e:Eff
 rs:List Nat
 ro:List Nat
def Chain(P:Program)(G:Nat->Option (Nat×(Nat->D)))(E:List Nat)(ops:List Oper):Fs->List sZ->Fs->Prop
 |F,[],F'=>F=F'
 |F,x::l,F'=>tX P G E ops x.o F x.e x.rs x.ro∧Chain P G E ops (F.app x.e) l F'
def zx(x y:sZ):Prop:=ak4 x.e x.rs x.ro y.e y.rs y.ro
theorem Yh{ops:List Oper}{x y:sZ}(h:zx x y)(hx:tX P G E ops x.o F x.e x.rs x.ro)(hy:tX P G E ops y.o (F.app x.e) y.e y.rs y.ro):
 tX P G E ops y.o F y.e y.rs y.ro∧tX P G E ops x.o (F.app y.e) x.e x.rs x.ro∧(F.app x.e).app y.e=(F.app y.e).app x.e:=by
 refine⟨?_,?_,afs h.s3 h.o3⟩
 ·refine hy.local (fun k hk=>(MC (h.s1 k hk)).symm) (fun n hn=>(ZP (h.o1 n hn)).symm) (fun n hn hm=> ?_) rfl
  exact .inr hm
 ·refine hx.local (fun k hk=>MC (h.s2 k hk)) (fun n hn=>ZP (h.o2 n hn)) (fun n hn hm=> ?_) rfl
  exact(ajs (h.o3 n hn)).1 hm
theorem IG{ops:List Oper}{y:sZ}{F':Fs}: ∀{pre post:List sZ}{F:Fs},(∀x∈pre,zx x y)->Chain P G E ops F (pre++y::post) F'->
 tX P G E ops y.o F y.e y.rs y.ro∧Chain P G E ops (F.app y.e) (pre++post) F'
 |[],post,F,_,h=>h
 |x::pre,post,F,hi,h=>by
  obtain⟨hx,h⟩:=h
  obtain⟨hy,h⟩:=IG (pre:=pre) (fun z hz=>hi z (by simp[hz])) h
  obtain⟨h1,h2,h3⟩:=Yh (hi x (by simp)) hx hy
  exact⟨h1,h2,by rw[<-h3];exact h⟩
def ZX(P:Program)(G:Nat->Option (Nat×(Nat->D)))(nt:Nat)(E:List Nat)(ops:List Oper):Prop:=
 ∀(C:Ctx)(I:Nat->Prop)(ρ:Nat->Loc)(F:Fs)(a:Act)(w:World)(i:Nat)(o:Oper)(e:Eff)(rs ro:List Nat)(Q:Exit->Act->World->Prop)(K:Act->World->Prop),
  ops[i]? =some o->dJ nt o.dst->tX P G E ops o F e rs ro->Conc G nt C I ρ F a w->(∀I' ρ' a' w',Conc G nt C I' ρ' (F.app e) a' w'->K a' w')->wpOp P ⟨ops⟩ Q i K a w
def dirs(o:Oper):List Nat:=(o.after.toList.filter (Region.binds .any)).map (·.on)
inductive Dep (ops:List Oper) (x:Nat):Nat->Prop where
 |one {i:Nat} {o:Oper} (h:ops[i]? =some o) (hd:x∈dirs o):Dep ops x i
 |step {y i:Nat} {o:Oper} (h:ops[i]? =some o) (hd:y∈dirs o) (t:Dep ops x y):Dep ops x i
def oD(ops:List Oper):List sZ->Prop
 |[]=>True
 |x::l=>(∀y∈l,Dep ops x.i y.i∨zx x y)∧oD ops l
theorem oD.sub{ops:List Oper}{y:sZ}: ∀{pre post:List sZ},oD ops (pre++y::post)->oD ops (pre++post)∧∀x∈pre,Dep ops x.i y.i∨zx x y
 |[],post,h=>⟨h.2,by simp⟩
 |x::pre,post,h=>by
  obtain⟨h1,h2⟩:=h
  obtain⟨h3,h4⟩:=oD.sub (pre:=pre) h2
  refine⟨⟨fun z hz=>h1 z ?_,h3⟩,?_⟩
  ·rcases List.mem_append.1 hz with h|h
   ·exact List.mem_append.2 (.inl h)
   ·exact List.mem_append.2 (.inr (List.mem_cons_of_mem _ h))
  ·intro z hz
   simp only[List.mem_cons]at hz
   rcases hz with rfl|hz
   ·exact h1 y (by simp)
   ·exact h4 z hz
theorem UQ{listed:Array Bool}{i j:Nat}(d:Bool)(hi:i<listed.size):(listed.setIfInBounds i true).getD j d=if j=i then true else listed.getD j d:=by
 by_cases e:j=i
 ·subst e;simp[hi]
 ·rw[if_neg e]
  exact getD_set_ne d (fun h=>e h.symm)
theorem RS{ops:List Oper}(hop:ZX P G nt E ops)(hdst: ∀(i:Nat)(o:Oper),ops[i]? =some o->dJ nt o.dst)(hord: ∀(i:Nat)(o:Oper),ops[i]? =some o-> ∀d∈dirs o,d<i)
 {Q:Exit->Act->World->Prop} {F':Fs}
 (hQ: ∀I ρ a w,Conc G nt C I ρ F' a w->Q .normal a w): ∀(fuel:Nat)(l:List sZ)(listed:Array Bool)(F:Fs)(I:Nat->Prop)(ρ:Nat->Loc)(a:Act)(w:World),
 l.length<=fuel->Chain P G E ops F l F'->oD ops l->(∀x∈l,ops[x.i]? =some x.o)->(l.map (·.i)).Nodup->listed.size=ops.length->(∀i,listed.getD i true=false↔∃x∈l,x.i=i)->
 (∀j,listed.getD j false=true-> ∀o,ops[j]? =some o-> ∀d∈dirs o,listed.getD d false=true)->Conc G nt C I ρ F a w->wpAny P .any ⟨ops⟩ Q fuel listed a w:=by
 intro fuel
 induction fuel with
 |zero=>
  intro l listed F I ρ a w hl hch _ _ _ _ hlist _ hc
  have:l=[]:=List.eq_nil_of_length_eq_zero Om
  subst this
  have hF:F=F':=hch
  subst hF
  refine⟨?_,hQ I ρ a w hc⟩
  apply List.eq_nil_iff_forall_not_mem.2
  intro i hi
  obtain⟨h1,_⟩:=mem_ready.1 hi
  obtain⟨x,hx,_⟩:=(hlist i).1 h1
  simp at hx
 |succ fuel ih=>
  intro l listed F I ρ a w hl hch La hops hnd hsz hlist hdown hc
  have ai1: ∀x i,Dep ops x i->listed.getD i false=true->listed.getD x false=true:=by
   intro x i hd
   induction hd with
   |one h hd=>intro hi;exact hdown _ hi _ h _ hd
   |step h hd _ ih=>intro hi;exact ih (hdown _ hi _ h _ hd)
  have hboth: ∀k,listed.getD k true=false->listed.getD k false=true->False:=by
   intro k h1 h2
   cases hg:listed[k]? with
   |none=>simp[Array.getD_eq_getD_getElem?,hg]at h2
   |some b=>simp[Array.getD_eq_getD_getElem?,hg]at h1 h2;rw[h2]at h1;cases h1
  have aew: ∀i,i∈Region.ready .any ⟨ops⟩ listed-> ∀o,ops[i]? =some o-> ∀d∈dirs o,listed.getD d false=true:=by
   intro i hi o ho d hd
   obtain⟨h1,o',ho',hall⟩:=mem_ready.1 hi
   have ho':ops[i]? =some o':=by simpa using ho'
   rw[ho]at ho'
   cases ho'
   simp only[dirs,List.mem_map,List.mem_filter]at hd
   obtain⟨e,⟨he,hb⟩,rfl⟩:=hd
   exact hall e (by simpa using he) hb
  have aiZ: ∀i,i∈Region.ready .any ⟨ops⟩ listed-> ∃pre y post,l=pre++y::post∧y.i=i∧∀x∈pre,zx x y:=by
   intro i hi
   obtain⟨h1,_⟩:=mem_ready.1 hi
   obtain⟨y,hy,hyi⟩:=(hlist i).1 h1
   obtain⟨pre,post,rfl⟩:=List.append_of_mem hy
   refine⟨pre,y,post,rfl,hyi,fun x hx=> ?_⟩
   rcases(oD.sub La).2 x hx with hd|hd
   ·exfalso
    have hxl:listed.getD x.i true=false:=(hlist x.i).2 ⟨x,by simp[hx],rfl⟩
    have hyo:ops[y.i]? =some y.o:=hops y (by simp)
    have hx':listed.getD x.i false=true:=by
     cases hd with
     |one h hd=>rw[hyo]at h;cases h;exact aew i hi _ (by rw[<-hyi];exact hyo) _ hd
     |step h hd t=>rw[hyo]at h;cases h;exact ai1 _ _ t (aew i hi _ (by rw[<-hyi];exact hyo) _ hd)
    exact hboth _ hxl hx'
   ·exact hd
  refine⟨fun hnil=> ?_,fun i hi=> ?_⟩
  ·
   cases l with
   |nil=>
    have hF:F=F':=hch
    subst hF
    exact hQ I ρ a w hc
   |cons x l=>
    exfalso
    have hlive: ∀i,listed.getD i true=false->False:=by
     intro i
     induction i using Nat.strongRecOn with
     |_ i ih2=>
      intro hi
      obtain⟨z,hz,hzi⟩:=(hlist i).1 hi
      have hzo:ops[i]? =some z.o:=by rw[<-hzi];exact hops z hz
      by_cases hall: ∀d∈dirs z.o,listed.getD d false=true
      ·have:i∈Region.ready .any ⟨ops⟩ listed:=by
        refine mem_ready.2 ⟨hi,z.o,by simpa using hzo,fun e he hb=>hall e.on ?_⟩
        simp only[dirs,List.mem_map,List.mem_filter]
        exact⟨e,⟨by simpa using he,hb⟩,rfl⟩
       rw[hnil]at this
       cases this
      ·have: ∃d,d∈dirs z.o∧listed.getD d false≠true:=Classical.byContradiction fun h=>hall (fun d hd=>Classical.byContradiction fun h'=>h ⟨d,hd,h'⟩)
       obtain⟨d,hd,hne⟩:=this
       have hlt:=hord i z.o hzo d hd
       refine ih2 d hlt ?_
       have hil:i<ops.length:=(List.getElem?_eq_some_iff.1 hzo).1
       have hdl:d<listed.size:=Om
       simp[Array.getD_eq_getD_getElem?,hdl]at hne⊢
       exact hne
    exact hlive x.i ((hlist x.i).2 ⟨x,by simp,rfl⟩)
  ·obtain⟨pre,y,post,rfl,hyi,hind⟩:=aiZ i hi
   obtain⟨hstep,hch'⟩:=IG hind hch
   have hyo:ops[y.i]? =some y.o:=hops y (by simp)
   have hil:i<listed.size:=by rw[hsz,<-hyi];exact(List.getElem?_eq_some_iff.1 hyo).1
   refine hop C I ρ F a w i y.o y.e y.rs y.ro Q _ (by rw[<-hyi];exact hyo) (hdst y.i y.o hyo) hstep hc ?_
   intro I' ρ' a' w' hc'
   have hmem: ∀x,x∈pre++post->x∈pre++y::post:=fun x hx=>by
    rcases List.mem_append.1 hx with h|h
    ·exact List.mem_append.2 (.inl h)
    ·exact List.mem_append.2 (.inr (List.mem_cons_of_mem _ h))
   have hnd':((pre++post).map (·.i)).Nodup∧∀x∈pre++post,x.i≠y.i:=by
    simp only[List.map_append,List.map_cons]at hnd⊢
    rw[List.nodup_append]at hnd⊢
    obtain⟨n1,n2,n3⟩:=hnd
    rw[List.nodup_cons]at n2
    refine⟨⟨n1,n2.2,fun a ha b hb=>n3 a ha b (List.mem_cons_of_mem _ hb)⟩,?_⟩
    intro x hx e
    rcases List.mem_append.1 hx with h|h
    ·exact n3 x.i (List.mem_map.2 ⟨x,h,rfl⟩) y.i (by simp) e
    ·exact n2.1 (by rw[<-e];exact List.mem_map.2 ⟨x,h,rfl⟩)
   refine ih (pre++post) _ (F.app y.e) I' ρ' a' w' (by simp at hl⊢;omega) hch' (oD.sub La).1 (fun x hx=>hops x (hmem x hx)) hnd'.1 (by simp[hsz]) ?_ ?_ hc'
   ·intro j
    rw[UQ true hil]
    by_cases e:j=i
    ·subst e
     simp only[if_true,Bool.true_eq_false,false_iff]
     rintro⟨x,hx,hxj⟩
     exact hnd'.2 x hx (hxj.trans hyi.symm)
    ·rw[if_neg e,hlist j]
     constructor
     ·rintro⟨x,hx,hxj⟩
      refine⟨x,?_,hxj⟩
      rcases List.mem_append.1 hx with h|h
      ·exact List.mem_append.2 (.inl h)
      ·rcases List.mem_cons.1 h with h|h
       ·subst h;exact absurd (hxj.symm.trans hyi) e
       ·exact List.mem_append.2 (.inr h)
     ·rintro⟨x,hx,hxj⟩
      exact⟨x,hmem x hx,hxj⟩
   ·intro j hj o ho d hd
    rw[UQ false hil]at hj⊢
    split
    ·rfl
    ·split at hj
     ·rename_i e;subst e;exact aew j hi o ho d hd
     ·exact hdown j hj o ho d hd
structure vW where
 i:Nat
 rs:List Nat
 ro:List Nat
 ws:List Nat
 wo:List Nat
def M.zM(P:Program)(G:Nat->Option (Nat×(Nat->D))):M bf->St->List Nat->List Nat->(bf->List Nat->List Nat->Prop)->Prop
 | .ret ⟨dst,v,ow,del,new,[]⟩,_,rs,ro,K=>K ⟨dst,v,ow,del,new,[]⟩ rs ro
 | .slot k f,⟨s,o,nm,n0⟩,rs,ro,K=>match look s k with
   |some v=>(f v).zM P G ⟨s,o,nm,n0⟩ (k::rs) ro K
   |none=>Stuck "slot"
 | .own n f,⟨s,o,nm,n0⟩,rs,ro,K=>match lookO o n with
   |some v=>(f v).zM P G ⟨s,o,nm,n0⟩ rs (n::ro) K
   |none=>Stuck "own"
 | .need p m,σ,rs,ro,K=>Need p (m.zM P G σ rs ro K)
 | .split b x y,σ,rs,ro,K=>bc b (x.zM P G σ rs ro K) (y.zM P G σ rs ro K)
 | .call dst f args names xg [],⟨_,o,_,_⟩,rs,ro,K=>ql names o fun pre=>vN P G f args pre xg fun res post=>K ⟨dst,res,post,[],newP pre post,[]⟩ rs (names++ro)
 | .fail why,_,_,_,_=>Stuck why
 |_,_,_,_,_=>Stuck "own slice into a call while the order is open"
theorem ac0{K:bf->List Nat->List Nat->Prop}: ∀{m:M bf}{σ:St}{rs ro:List Nat},m.zM P G σ rs ro K->
 ∃u rs' ro' a b,K u rs' ro'∧MS P G (iZ σ) m u a b∧(∀k∈a,k∈rs')∧(∀n∈b,n∈ro')∧(∀k∈rs,k∈rs')∧(∀n∈ro,n∈ro'):=by
 intro m
 induction m with
 |ret u=>
  intro⟨s,o,nm,n0⟩ rs ro h
  obtain⟨dst,v,own,del,new,pub⟩:=u
  cases pub with
  |nil=>exact⟨_,rs,ro,[],[],h,.ret _ rfl,by simp,by simp,fun _ h=>h,fun _ h=>h⟩
  |cons _ _=>exact h.out.elim
 |slot k f ih=>
  intro⟨s,o,nm,n0⟩ rs ro h
  simp only[M.zM]at h
  split at h
  ·rename_i v hv
   obtain⟨u,rs',ro',a,b,h1,t,h2,h3,h4,h5⟩:=ih v h
   refine⟨u,rs',ro',k::a,b,h1,.slot hv t,?_,h3,fun x hx=>h4 x (by simp[hx]),h5⟩
   intro x hx
   rcases List.mem_cons.1 hx with rfl|hx
   ·exact h4 x (by simp)
   ·exact h2 x hx
  ·exact h.out.elim
 |own k f ih=>
  intro⟨s,o,nm,n0⟩ rs ro h
  simp only[M.zM]at h
  split at h
  ·rename_i v hv
   obtain⟨u,rs',ro',a,b,h1,t,h2,h3,h4,h5⟩:=ih v h
   refine⟨u,rs',ro',a,k::b,h1,.own hv t,h2,?_,h4,fun x hx=>h5 x (by simp[hx])⟩
   intro x hx
   rcases List.mem_cons.1 hx with rfl|hx
   ·exact h5 x (by simp)
   ·exact h3 x hx
  ·exact h.out.elim
 |need p m ih=>
  intro⟨s,o,nm,n0⟩ rs ro h
  simp only[M.zM]at h
  obtain⟨u,rs',ro',a,b,h1,t,r⟩:=ih h.k
  exact⟨u,rs',ro',a,b,h1,.need h.h t,r⟩
 |split b x y ih1 ih2=>
  intro⟨s,o,nm,n0⟩ rs ro h
  simp only[M.zM,bc]at h
  split at h
  ·obtain⟨u,rs',ro',a,b,h1,t,r⟩:=ih1 h
   exact⟨u,rs',ro',a,b,h1,.qY rfl t,r⟩
  ·obtain⟨u,rs',ro',a,b,h1,t,r⟩:=ih2 h
   exact⟨u,rs',ro',a,b,h1,.split2 rfl t,r⟩
 |call dst f args names xg pub=>
  intro⟨s,o,nm,n0⟩ rs ro h
  cases pub with
  |nil=>
   simp only[M.zM]at h
   obtain⟨pre,h,h1,h2⟩:=uY h
   obtain⟨res,post,hs,hb,h⟩:=h
   exact⟨_,rs,names++ro,[],names,h,.call ⟨h1,fun n b hn=>h2 n b hn⟩ hs hb,by simp,fun n hn=>by simp[hn],fun _ h=>h,fun n hn=>by simp[hn]⟩
  |cons _ _=>exact h.out.elim
 |fail why=>intro⟨s,o,nm,n0⟩ rs ro h;exact h.out.elim
def aaW:Option Nat->List Nat
 |none=>[]
 |some d=>[d]
def Uy:List (Nat×bG)->List Nat
 |[]=>[]
 |(n,_)::l=>n::Uy l
def wsU:bf->List Nat
 |⟨none,_,_,_,_,_⟩=>[]
 |⟨some d,_,_,_,_,_⟩=>[d]
def Dh:bf->List Nat
 |⟨_,_,own,del,new,_⟩=>Uy own++(del++new)
def Lr(nt:Nat):Option Nat->Bool
 |none=>true
 |some d=>Nat.blt d nt
def uJ:Option Nat->St->(St->Prop)->Prop
 |some d,⟨s,o,nm,n0⟩,K=>delS s d fun s=>K ⟨(d,.cO [])::s,o,nm,n0⟩
 |none,σ,K=>K σ
def Xj(d:Nat)(b:Bool):St->(St->Prop)->Prop
 |⟨s,o,nm,n0⟩,K=>delS s d fun s=>K ⟨(d,.d (.bool b))::s,o,nm,n0⟩
def Ik:List Oper->Nat->Option Oper
 |[],_=>none
 |x::_,0=>some x
 |_::l,n+1=>Ik l n
def iQ(P:Program)(G:Nat->Option (Nat×(Nat->D)))(E:List Nat)(nt:Nat)(ops:List Oper):Nat->List Oper->St->List vW->(List vW->St->Prop)->Prop
 |_,[],σ,acc,K=>K acc σ
 |i,⟨dst,op,_,_,_,none⟩::rest,σ,acc,K=>match Lr nt dst with
  |true=>(T_ P G E dst op).zM P G σ [] [] fun u rs ro=>qC u σ fun σ=>iQ P G E nt ops (i+1) rest σ (⟨i,rs,ro,wsU u,Dh u⟩::acc) K
  |false=>Stuck "slots"
 |i,⟨dst,op,_,_,_,some (j,want)⟩::rest,σ,acc,K=>
  match Ik ops j,Lr nt dst with
  |some ⟨some d,_,_,_,_,_⟩,true=>match look σ.s d with
   |some (.d (.bool b))=>bc b
      (Xj d true σ fun σ=>bc want
        ((T_ P G E dst op).zM P G σ [d] [] fun u rs ro=>qC u σ fun σ=>iQ P G E nt ops (i+1) rest σ (⟨i,rs,ro,wsU u,Dh u⟩::acc) K)
        (uJ dst σ fun σ=>iQ P G E nt ops (i+1) rest σ (⟨i,[d],[],aaW dst,[]⟩::acc) K))
      (Xj d false σ fun σ=>bc want
        (uJ dst σ fun σ=>iQ P G E nt ops (i+1) rest σ (⟨i,[d],[],aaW dst,[]⟩::acc) K)
        ((T_ P G E dst op).zM P G σ [d] [] fun u rs ro=>qC u σ fun σ=>iQ P G E nt ops (i+1) rest σ (⟨i,rs,ro,wsU u,Dh u⟩::acc) K))
   |some (.cO [])=>uJ dst σ fun σ=>iQ P G E nt ops (i+1) rest σ (⟨i,[d],[],aaW dst,[]⟩::acc) K
   |_=>Stuck "guard value"
  |_,_=>Stuck "guard"
def FD:List Edge->List Nat
 |[]=>[]
 |⟨_,.textOnly _⟩::l=>FD l
 |⟨_,.gcOnly _⟩::l=>FD l
 |⟨n,_⟩::l=>n::FD l
theorem Vb(o:Oper):FD o.after.toList=dirs o:=by
 unfold dirs
 generalize o.after.toList=l
 induction l with
 |nil=>rfl
 |cons e l ih=>
  obtain⟨n,g⟩:=e
  cases g<;>simp[FD,Region.binds,List.filter_cons,ih]
def aft(rec:Nat->Bool)(x:Nat):List Nat->Bool
 |[]=>false
 |y::l=>match Nat.blt x y with
  |true=>match rec y with
   |true=>true
   |false=>aft rec x l
  |false=>aft rec x l
def ahl(ops:List Oper):Nat->Nat->Nat->Bool
 |0,_,_=>false
 |f+1,x,i=>match Ik ops i with
  |some ⟨_,_,_,_,⟨after⟩,_⟩=>match g_ x (FD after)with
   |true=>true
   |false=>aft (ahl ops f x) x (FD after)
  |none=>false
def XC:vW->vW->Bool
 |⟨_,rs,ro,ws,wo⟩,⟨_,rs',ro',ws',wo'⟩=>match vg ws rs',vg wo ro',vg ws' rs,vg wo' ro,vg ws ws',vg wo wo' with
  |true,true,true,true,true,true=>true
  |_,_,_,_,_,_=>false
def Ol(ops:List Oper)(y:vW):List vW->Bool
 |[]=>true
 |x::l=>match XC x y with
  |true=>Ol ops y l
  |false=>match ahl ops 8 x.i y.i with
   |true=>Ol ops y l
   |false=>false
def Gw(ops:List Oper):List vW->Bool
 |[]=>true
 |y::l=>match Ol ops y l with
  |true=>Gw ops l
  |false=>false
def Zf(i:Nat):List Nat->Bool
 |[]=>true
 |d::l=>match Nat.blt d i with
  |true=>Zf i l
  |false=>false
def aaV:Nat->List Oper->Bool
 |_,[]=>true
 |i,⟨_,_,_,_,⟨after⟩,_⟩::l=>match Zf i (FD after)with
  |true=>aaV (i+1) l
  |false=>false
theorem xK: ∀(l:List Oper)(n:Nat),Ik l n=l[n]?
 |[],n=>by simp[Ik]
 |x::l,0=>by simp[Ik]
 |x::l,n+1=>by simp[Ik,xK l n]
theorem MF{rec:Nat->Bool}{x:Nat}: ∀{l:List Nat},aft rec x l=true-> ∃y∈l,rec y=true
 |[],h=>by cases h
 |y::l,h=>by
  simp only[aft]at h
  split at h
  ·split at h
   ·rename_i hr;exact⟨y,by simp,hr⟩
   ·obtain⟨z,hz,hr⟩:=MF h;exact⟨z,by simp[hz],hr⟩
  ·obtain⟨z,hz,hr⟩:=MF h;exact⟨z,by simp[hz],hr⟩
theorem Vd{ops:List Oper}{x:Nat}: ∀{f i:Nat},ahl ops f x i=true->Dep ops x i
 |0,_,h=>by cases h
 |f+1,i,h=>by
  simp only[ahl]at h
  split at h
  ·rename_i dst op ty pos after g ho
   rw[xK]at ho
   have hd:FD after=dirs ⟨dst,op,ty,pos,⟨after⟩,g⟩:=Vb ⟨dst,op,ty,pos,⟨after⟩,g⟩
   split at h
   ·rename_i hm
    exact .one ho (by rw[<-hd];exact Zc.1 hm)
   ·obtain⟨y,hy,hr⟩:=MF h
    exact .step ho (by rw[<-hd];exact hy) (Vd hr)
  ·cases h
inductive CG {α β:Type} (R:α->β->Prop):List α->List β->Prop where
 |nil:CG R [] []
 |cons {a:α} {b:β} {l:List α} {m:List β} (h:R a b) (t:CG R l m):CG R (a::l) (b::m)
structure Covers (f:vW) (x:sZ):Prop where
 i:f.i=x.i
 rs: ∀k∈x.rs,k∈f.rs
 ro: ∀n∈x.ro,n∈f.ro
 ws: ∀k,x.e.ws k->k∈f.ws
 wo: ∀n,x.e.wo n->n∈f.wo
theorem XB{f g:vW}{x y:sZ}(h:XC f g=true)(hx:Covers f x)(hy:Covers g y):zx x y:=by
 obtain⟨i,rs,ro,ws,wo⟩:=f
 obtain⟨i',rs',ro',ws',wo'⟩:=g
 simp only[XC]at h
 split at h
 ·rename_i h1 h2 h3 h4 h5 h6
  exact {s1:=fun k hk hw=>nM h1 k (hx.ws k hw) (hy.rs k hk),o1:=fun n hn hw=>nM h2 n (hx.wo n hw) (hy.ro n hn),
         s2:=fun k hk hw=>nM h3 k (hy.ws k hw) (hx.rs k hk),o2:=fun n hn hw=>nM h4 n (hy.wo n hw) (hx.ro n hn),
         s3:=fun k hw hw'=>nM h5 k (hx.ws k hw) (hy.ws k hw'),o3:=fun n hw hw'=>nM h6 n (hx.wo n hw) (hy.wo n hw')}
 ·cases h
theorem aaR{ops:List Oper}{g:vW}{y:sZ}(hy:Covers g y): ∀{fs:List vW}{xs:List sZ},Ol ops g fs=true->CG Covers fs xs-> ∀x∈xs,Dep ops x.i y.i∨zx x y:=by
 intro fs xs h hc
 induction hc with
 |nil=>simp
 | @cons f x fs xs hfx _ ih=>
   simp only[Ol]at h
   have key:(Dep ops x.i y.i∨zx x y)∧Ol ops g fs=true:=by
    split at h
    ·rename_i hi;exact⟨.inr (XB hi hfx hy),h⟩
    ·split at h
     ·rename_i hd;exact⟨.inl (by rw[<-hfx.i,<-hy.i];exact Vd hd),h⟩
     ·cases h
   intro z hz
   rcases List.mem_cons.1 hz with rfl|hz
   ·exact key.1
   ·exact ih key.2 z hz
theorem Ak{ops:List Oper}: ∀{l m:List sZ},oD ops l->oD ops m->(∀x∈l,∀y∈m,Dep ops x.i y.i∨zx x y)->oD ops (l++m)
 |[],m,_,h,_=>h
 |x::l,m,h1,h2,h3=>by
  refine⟨fun y hy=> ?_,Ak h1.2 h2 (fun z hz=>h3 z (by simp[hz]))⟩
  rcases List.mem_append.1 hy with h|h
  ·exact h1.1 y h
  ·exact h3 x (by simp) y h
theorem WW{ops:List Oper}: ∀{fs:List vW}{xs:List sZ},Gw ops fs=true->CG Covers fs xs->oD ops xs.reverse:=by
 intro fs xs h hc
 induction hc with
 |nil=>trivial
 | @cons f x fs xs hfx hrest ih=>
   simp only[Gw]at h
   split at h
   ·rename_i hp
    have h1:=ih h
    have h2:=aaR hfx hp hrest
    rw[List.reverse_cons]
    refine Ak h1 ⟨by simp,trivial⟩ ?_
    intro z hz y hy
    simp only[List.mem_singleton]at hy
    subst hy
    exact h2 z (by simpa using hz)
   ·cases h
theorem TN: ∀{ops:List Oper}{k:Nat},aaV k ops=true-> ∀(i:Nat)(o:Oper),ops[i]? =some o-> ∀d∈dirs o,d<k+i
 |[],_,_=>by simp
 |⟨dst,op,ty,pos,⟨after⟩,g⟩::ops,k,h=>by
  simp only[aaV]at h
  have hlt: ∀{l:List Nat},Zf k l=true-> ∀d∈l,d<k:=by
    intro l
    induction l with
    |nil=>simp
    |cons d l ih=>
     intro h
     simp only[Zf]at h
     split at h
     ·rename_i hd
      intro x hx
      rcases List.mem_cons.1 hx with rfl|hx
      ·exact Nat.le_of_ble_eq_true hd
      ·exact ih h x hx
     ·cases h
  split at h
  ·rename_i hd
   intro i o ho d hdd
   cases i with
   |zero=>
    simp only[List.getElem?_cons_zero,Option.some.injEq]at ho
    subst ho
    rw[<-Vb]at hdd
    simpa using hlt hd d hdd
   |succ i=>
    have:=TN h i o (by simpa using ho) d hdd
    omega
  ·cases h
end Go.Sx
namespace Go.Sx
open Go
variable {P:Program}{G:Nat->Option (Nat×(Nat->D))}{nt:Nat}{C:Ctx}{I:Nat->Prop}{ρ:Nat->Loc}{F:Fs}{a:Act}{w:World}{E:List Nat}{T:Nat}
inductive Ex where
 |normal|exit (id:Nat)|ret
def kE(P:Program)(G:Nat->Option (Nat×(Nat->D)))(E:List Nat)(nt:Nat)(ops:List Oper):List Oper->St->(St->Prop)->Prop
 |[],σ,K=>K σ
 |⟨dst,op,_,_,_,none⟩::rest,σ,K=>match Lr nt dst with
  |true=>(T_ P G E dst op).run P G σ fun σ=>kE P G E nt ops rest σ K
  |false=>Stuck "slots"
 |⟨dst,op,_,_,_,some (j,want)⟩::rest,σ,K=>
  match Ik ops j,Lr nt dst with
  |some ⟨some d,_,_,_,_,_⟩,true=>match look σ.s d with
   |some (.d (.bool b))=>bc b
     (Xj d true σ fun σ=>bc want ((T_ P G E dst op).run P G σ fun σ=>kE P G E nt ops rest σ K) (uJ dst σ fun σ=>kE P G E nt ops rest σ K))
     (Xj d false σ fun σ=>bc want (uJ dst σ fun σ=>kE P G E nt ops rest σ K) ((T_ P G E dst op).run P G σ fun σ=>kE P G E nt ops rest σ K))
   |some (.cO [])=>uJ dst σ fun σ=>kE P G E nt ops rest σ K
   |_=>Stuck "guard value"
  |_,_=>Stuck "guard"
def Good(G:Nat->Option (Nat×(Nat->D)))(nt:Nat)(C:Ctx)(K:Ex->St->Prop):Exit->Act->World->Prop
 | .normal,a,w=> ∃σ I ρ,K .normal σ∧Conc G nt C I ρ (iZ σ) a w
 | .exit id,a,w=> ∃σ I ρ,K (.exit id) σ∧Conc G nt C I ρ (iZ σ) a w
 | .ret,a,w=> ∃σ I ρ,K .ret σ∧Conc G nt C I ρ (iZ σ) a w
 |_,_,_=>False
theorem wp_loop_ghost{X:Type}{c:Code}{Q:Exit->Act->World->Prop}(J:X->Act->World->Prop)(μ:X->Nat)
 (round: ∀x a w,J x a w->c.wp P (Exit.then (fun a' w'=> ∃x',J x' a' w'∧μ x'<μ x) Q) a w): ∀x a w,J x a w->(Code.loop c).wp P Q a w:=by
 intro x0 a0 w0 h0 b k cs
 have key: ∀n x a w,μ x=n->J x a w->
  ∃e a' w',Q e a' w'∧Arrives P (lone (b.at a (.code c:: .inLoop c::k)) cs w) b k cs e a' w':=by
  intro n
  induction n using Nat.strongRecOn with
  |_ n ih=>
   intro x a w hn hI
   obtain⟨e,a₁,w₁,hq,harr⟩:=round x a w hI b (.inLoop c::k) cs
   cases e with
   |normal=>
    obtain⟨x',hI₁,hlt⟩:=hq
    obtain⟨e₂,a₂,w₂,hq₂,harr₂⟩:=ih (μ x') (hn▸hlt) x' a₁ w₁ rfl hI₁
    exact⟨e₂,a₂,w₂,hq₂,.of_steps (Steps.trans harr (.one step_inLoop)) harr₂⟩
   |exit id=>exact⟨_,a₁,w₁,hq,.pass (x:= .inLoop c) rfl (fun _ _=> .inl (by simp)) harr⟩
   |goto l=>exact⟨_,a₁,w₁,hq,.pass (x:= .inLoop c) rfl (fun _ _=> .inl (by simp)) harr⟩
   |ret=>exact⟨_,a₁,w₁,hq,.pass (x:= .inLoop c) rfl (fun _ _=> .inl (by simp)) harr⟩
   |panic ch=>exact⟨_,a₁,w₁,hq,.pass (x:= .inLoop c) rfl (fun _ _=> .inl (by simp)) harr⟩
   |outgrown=>exact⟨_,a₁,w₁,hq,.pass (x:= .inLoop c) rfl (fun _ _=> .inl (by simp)) harr⟩
 obtain⟨e,a',w',hq,harr⟩:=key _ x0 a0 w0 rfl h0
 exact⟨e,a',w',hq,.of_steps (.one step_loop) harr⟩
structure vX (σ σ':St):Prop where
 out: ∀{G:Nat->Option (Nat×(Nat->D))}{nt:Nat}{C:Ctx}{I:Nat->Prop}{ρ:Nat->Loc}{a:Act}{w:World},Conc G nt C I ρ (iZ σ) a w-> ∃I' ρ',Conc G nt C I' ρ' (iZ σ') a w
theorem vX.refl(σ:St):vX σ σ:=⟨fun h=>⟨_,_,h⟩⟩
def C_(step:St->(Ex->St->Prop)->Prop):Nat->St->(Ex->St->Prop)->Prop
 |0,_,_=>False
 |n+1,σ,K=>step σ fun e σ'=>match e with
  | .normal=> ∃yx,vX σ' yx∧C_ step n yx K
  | .exit i=>K (.exit i) σ'
  | .ret=>K .ret σ'
inductive YA (step:St->(Ex->St->Prop)->Prop) (σ:St) (K:Ex->St->Prop):Prop where
 |mk (σ0:St) (n:Nat) (h:vX σ σ0) (k:C_ step n σ0 K)
inductive ahE (σ:St) (k:St->Prop):Prop where
 |mk (σ':St) (h:vX σ σ') (k:k σ')
def wkK(K:Ex->St->Prop):Ex->St->Prop
 | .normal,σ=>ahE σ (K .normal)
 | .exit i,σ=>K (.exit i) σ
 | .ret,σ=>K .ret σ
theorem afT{σ:St}{k:St->Prop}(h:k σ):ahE σ k:=⟨σ,vX.refl σ,h⟩
theorem Jk{K:Ex->St->Prop}{e:Exit}{a:Act}{w:World}(h:Good G nt C (wkK K) e a w):Good G nt C K e a w:=by
 cases e with
 |normal=>
  obtain⟨σ,I,ρ,⟨σ',he,hk⟩,hc⟩:=h
  obtain⟨I',ρ',hc'⟩:=he.out hc
  exact⟨σ',I',ρ',hk,hc'⟩
 |exit id=>exact h
 |ret=>exact h
 |_=>exact h.elim
structure MK (ops:List Oper) (qL:List vW) (X:Prop):Prop where
 h:Gw ops qL=true
 k:X
structure YB (P:Program) (G:Nat->Option (Nat×(Nat->D))) (E:List Nat) (nt:Nat) (ops:List Oper) (σ:St) (K:St->Prop):Prop where
 h:aaV 0 ops=true
 k:iQ P G E nt ops 0 ops σ [] fun qL σ=>MK ops qL (K σ)
def exec(P:Program)(G:Nat->Option (Nat×(Nat->D)))(E:List Nat)(nt:Nat):Code->St->(Ex->St->Prop)->Prop
 | .skip,σ,K=>K .normal σ
 | .region _ ⟨ops⟩ false,σ,K=>kE P G E nt ops ops σ fun σ=>K .normal σ
 | .region _ ⟨ops⟩ true,σ,K=>YB P G E nt ops σ fun σ=>K .normal σ
 | .seq a b,σ,K=>exec P G E nt a σ fun e σ=>match e with
   | .normal=>exec P G E nt b σ K
   | .exit i=>K (.exit i) σ
   | .ret=>K .ret σ
 | .cond (.tmp t) a b,σ,K=>match look σ.s t with
   |some (.d (.bool c))=>bc c (exec P G E nt a σ (wkK K)) (exec P G E nt b σ (wkK K))
   |_=>Stuck "cond"
 | .cond (.const (.bool true)) a _,σ,K=>exec P G E nt a σ (wkK K)
 | .cond (.const (.bool false)) _ b,σ,K=>exec P G E nt b σ (wkK K)
 | .block id c,σ,K=>exec P G E nt c σ fun e σ=>match e with
   | .exit i=>match Nat.beq i id with
     |true=>K .normal σ
     |false=>K (.exit i) σ
   | .normal=>K .normal σ
   | .ret=>K .ret σ
 | .loop c,σ,K=>YA (fun σ K=>exec P G E nt c σ K) σ K
 | .exit id,σ,K=>K (.exit id) σ
 | .ret,σ,K=>K .ret σ
 | .scope c,σ,K=>exec P G E nt c σ K
 | .label _,σ,K=>K .normal σ
 |_,_,_=>Stuck "code"
theorem Sl(σ:St):(iZ σ).s=look σ.s:=by cases σ;rfl
theorem Uo{d:Nat}{b:Bool}{σ:St}{K:St->Prop}(h:Xj d b σ K)(hs:(iZ σ).s d=some (.d (.bool b))): ∃σ',K σ'∧iZ σ'=iZ σ:=by
 obtain⟨s,o,nm,n0⟩:=σ
 obtain⟨r,h1,h2⟩:=xZ (K:=fun _=>True) h
 refine⟨_,h1,?_⟩
 simp only[iZ]
 congr 1
 funext m
 rw[jE,h2]
 by_cases hm:d=m
 ·subst hm;simp only[if_true];exact hs.symm
 ·simp[hm,Ne.symm hm]
theorem Conc.skip(hc:Conc G nt C I ρ F a w){d:Nat}(hd:d<nt):Conc G nt C I ρ (oH F (some d) (.cO [])) (a.put (some d) undef) w:=
 hc.put (dst:=some d) hd (by simp only[aC];exact⟨[],rfl,by simp[aT]⟩) (by simp[dO,jW])
theorem Wv{σ:St}(hc:Conc G nt C I ρ (iZ σ) a w){dst:Option Nat}(hd:Lr nt dst=true){K:St->Prop}(h:uJ dst σ K): ∃σ',K σ'∧Conc G nt C I ρ (iZ σ') (a.put dst undef) w:=by
 cases dst with
 |none=>exact⟨σ,h,hc⟩
 |some d=>
  obtain⟨s,o,nm,n0⟩:=σ
  obtain⟨r,h1,h2⟩:=xZ (K:=fun _=>True) h
  refine⟨_,h1,?_⟩
  have:=hc.skip (d:=d) (Nat.le_of_ble_eq_true hd)
  have e:iZ ⟨(d,.cO [])::r,o,nm,n0⟩=oH (iZ ⟨s,o,nm,n0⟩) (some d) (.cO []):=by
   simp only[iZ,oH]
   congr 1
   funext m
   rw[jE,h2]
   by_cases hm:d=m
   ·subst hm;simp
   ·simp[hm,Ne.symm hm]
  rw[e]
  exact this
theorem CJ{ops:List Oper}{j d:Nat}{oj:Oper}(hj:ops[j]? =some oj)(hd:oj.dst=some d){v:Value}(hv:a.tmps[d]? =some v)(hr:aC I ρ w (.cO []) v):yielded ⟨ops⟩ a.tmps j=none:=by
 simp only[aC,aT]at hr
 obtain⟨us,rfl,rfl⟩:=hr
 simp only[yielded,List.getElem?_toArray,hj,Option.bind_some,hd,hv]
theorem wW(hE:I8 P E){ops:List Oper}{K:St->Prop}: ∀{rest:List Oper}{σ:St}{I:Nat->Prop}{ρ:Nat->Loc}{a:Act}{w:World},kE P G E nt ops rest σ K->Conc G nt C I ρ (iZ σ) a w->
 wpList P ⟨ops⟩ (Good G nt C fun e σ=>match e with| .normal=>K σ|_=>False) rest a w
 |[],σ,I,ρ,a,w,h,hc=>⟨σ,I,ρ,h,hc⟩
 |⟨dst,op,ty,pos,after,guard⟩::rest,σ,I,ρ,a,w,h,hc=>by
  have X5: ∀{σ:St},Lr nt dst=true->(T_ P G E dst op).run P G σ (fun σ=>kE P G E nt ops rest σ K)->Conc G nt C I ρ (iZ σ) a w->
    (⟨dst,op,ty,pos,after,guard⟩:Oper).wp P a w (wpList P ⟨ops⟩ (Good G nt C fun e σ=>match e with| .normal=>K σ|_=>False) rest) (Good G nt C fun e σ=>match e with| .normal=>K σ|_=>False):=by
    intro σ hd h hc
    obtain⟨u,σ',F1,t,hk,hp,hF,hf⟩:=aiu h
    have hd':dJ nt dst:=by
     cases dst with
     |none=>trivial
     |some d=>exact Nat.le_of_ble_eq_true hd
    refine Ou hE hc (o:=⟨dst,op,ty,pos,after,guard⟩) hd' t hp hf _ _ ?_
    intro I' ρ' v w' hc'
    rw[<-hF]at hc'
    exact wW hE hk hc'
  have skip: ∀{σ:St},Lr nt dst=true->uJ dst σ (fun σ=>kE P G E nt ops rest σ K)->Conc G nt C I ρ (iZ σ) a w->
    wpList P ⟨ops⟩ (Good G nt C fun e σ=>match e with| .normal=>K σ|_=>False) rest (a.put dst undef) w:=by
    intro σ hd h hc
    obtain⟨σ',hk,hc'⟩:=Wv hc hd h
    exact wW hE hk hc'
  unfold wpList
  cases guard with
  |none=>
   simp only[Region.wanted,if_true]
   simp only[kE]at h
   split at h
   ·exact .inl (X5 ‹_› h hc)
   ·exact h.out.elim
  |some g=>
   obtain⟨j,want⟩:=g
   simp only[kE]at h
   split at h
   ·rename_i d _ _ _ _ _ hj hd
    split at h
    ·rename_i b hb
     have hs:(iZ σ).s d=some (.d (.bool b)):=by rw[Sl];exact hb
     obtain⟨v,hv,hr⟩:=hc.slots d _ hs
     have hv':=pR hr
     subst hv'
     have hy:yielded ⟨ops⟩ a.tmps j=some b:=by
        rw[xK]at hj
        simp only[yielded,List.getElem?_toArray,hj,Option.bind_some,hv]
     simp only[Region.wanted,hy]
     have lit: ∀{K':St->Prop},Xj d b σ K'-> ∃σ',K' σ'∧Conc G nt C I ρ (iZ σ') a w:=by
        intro K' h
        obtain⟨σ',h1,h2⟩:=Uo h hs
        exact⟨σ',h1,by rw[h2];exact hc⟩
     cases b<;>cases want<;>simp only[bc]at h<;>obtain⟨σ',h1,h2⟩:=lit h
     ·simp only[beq_self_eq_true,if_true]
      exact .inl (X5 hd h1 h2)
     ·simp only[reduceCtorEq,beq_iff_eq,Option.some.injEq,Bool.false_eq_true,if_false]
      exact skip hd h1 h2
     ·simp only[reduceCtorEq,beq_iff_eq,Option.some.injEq,Bool.true_eq_false,if_false]
      exact skip hd h1 h2
     ·simp only[beq_self_eq_true,if_true]
      exact .inl (X5 hd h1 h2)
    ·rename_i hb
     have hs:(iZ σ).s d=some (.cO []):=by rw[Sl];exact hb
     obtain⟨v,hv,hr⟩:=hc.slots d _ hs
     rw[xK]at hj
     have hy:=CJ hj rfl hv hr
     have hne:((none:Option Bool)==some want)=false:=rfl
     simp only[Region.wanted,hy,hne,Bool.false_eq_true,if_false]
     exact skip hd h hc
    ·exact h.out.elim
   ·exact h.out.elim
theorem agG(hE:I8 P E){ops:List Oper}:ZX P G nt E ops:=by
 intro C I ρ F a w i o e rs ro Q K ho hd hs hc hK
 unfold wpOp
 have ho':(Array.mk ops)[i]? =some o:=by simpa using ho
 simp only[ho']
 have run: ∀{u:bf}{rs ro:List Nat},MS P G F (T_ P G E o.dst o.op) u rs ro->jB F u->e=zI u->o.wp P a w K Q:=by
  intro u rs ro t hf he
  obtain⟨t1,hp⟩:=t.to
  refine Ou hE hc hd t1 (F1:=F) (by rw[hp];exact .nil _) hf _ _ ?_
  intro I' ρ' v w' hc'
  rw[U2,<-he]at hc'
  exact hK I' ρ' _ w' hc'
 cases hs with
 |run hg t hf=>
  simp only[Region.wanted,hg,if_true]
  exact .inl (run t hf rfl)
 | @aaz u rs ro j want oj d hg hj hdj hb t hf=>
   obtain⟨v,hv,hr⟩:=hc.slots d _ hb
   have hv':=pR hr
   subst hv'
   have hj':(Array.mk ops)[j]? =some oj:=by simpa using hj
   have hy:yielded ⟨ops⟩ a.tmps j=some want:=by simp only[yielded,hj',Option.bind_some,hdj,hv]
   simp only[Region.wanted,hg,hy,beq_self_eq_true,if_true]
   exact .inl (run t hf rfl)
 | @skip j want oj d hg hj hdj hb=>
   have hj':(Array.mk ops)[j]? =some oj:=by simpa using hj
   have hw:(yielded ⟨ops⟩ a.tmps j==some want)=false:=by
    rcases hb with hb|hb
    ·obtain⟨v,hv,hr⟩:=hc.slots d _ hb
     have hv':=pR hr
     subst hv'
     have hy:yielded ⟨ops⟩ a.tmps j=some (!want):=by simp only[yielded,hj',Option.bind_some,hdj,hv]
     rw[hy]
     cases want<;>rfl
    ·obtain⟨v,hv,hr⟩:=hc.slots d _ hb
     rw[CJ hj hdj hv hr]
     rfl
   simp only[Region.wanted,hg,hw,Bool.false_eq_true,if_false]
   refine hK I ρ _ w ?_
   cases hdst:o.dst with
   |none=>
    have:F.app (oz none)=F:=by cases F;simp[Fs.app,oz]
    rw[this];exact hc
   |some d'=>
    rw[hdst]at hd
    have e:F.app (oz (some d'))=oH F (some d') (.cO []):=by cases F;simp[Fs.app,oz,oH]
    rw[e]
    exact hc.skip hd
theorem OI{n:Nat}: ∀{l:List (Nat×bG)},lastB l n≠none->n∈Uy l
 |[],h=>by simp[lastB]at h
 |(m,b)::l,h=>by
  simp only[lastB]at h
  cases hl:lastB l n with
  |some c=>simp[Uy,OI (l:=l) (n:=n) (by rw[hl];simp)]
  |none=>
   rw[hl]at h
   simp only[ne_eq,ite_eq_right_iff,reduceCtorEq,imp_false,Decidable.not_not]at h
   simp[Uy,h]
theorem Wu{dst:Option Nat}{σ:St}{K:St->Prop}(h:uJ dst σ K): ∃σ',K σ'∧iZ σ'=(iZ σ).app (oz dst):=by
 obtain⟨s,o,nm,n0⟩:=σ
 cases dst with
 |none=>exact⟨_,h,by simp[Fs.app,oz]⟩
 |some d=>
  obtain⟨r,h1,h2⟩:=xZ (K:=fun _=>True) h
  refine⟨_,h1,?_⟩
  simp only[iZ,Fs.app,oz,Option.map_some]
  have:look ((d,SV.cO [])::r)=fun k=>if k=d then some (.cO [])else look s k:=by
   funext m
   rw[jE,h2]
   by_cases hm:d=m
   ·subst hm;simp
   ·simp[hm,Ne.symm hm]
  rw[this]
  simp
theorem Iy{ops:List Oper}{K:List vW->St->Prop}: ∀{rest:List Oper}{i:Nat}{σ:St}{acc:List vW},iQ P G E nt ops i rest σ acc K->(∀k,rest[k]? =ops[i+k]?)->
 ∃xs qL σ',K (qL++acc) σ'∧CG Covers qL xs.reverse∧Chain P G E ops (iZ σ) xs (iZ σ')∧(∀x∈xs,ops[x.i]? =some x.o∧dJ nt x.o.dst)∧xs.map (·.i)=List.range' i rest.length
 |[],i,σ,acc,h,_=>⟨[],[],σ,h,.nil,rfl,by simp,by simp⟩
 |⟨dst,op,ty,pos,after,guard⟩::rest,i,σ,acc,h,hr=>by
  have ho:ops[i]? =some ⟨dst,op,ty,pos,after,guard⟩:=by simpa using(hr 0).symm
  have hr': ∀k,rest[k]? =ops[i+1+k]? :=fun k=>by
    have:=hr (k+1)
    simp only[List.getElem?_cons_succ]at this
    rw[this]
    congr 1;omega
  have dok:Lr nt dst=true->dJ nt dst:=by
    intro hd
    cases dst with
    |none=>trivial
    |some d=>exact Nat.le_of_ble_eq_true hd
  have ab5: ∀{fs:List vW}{ys:List sZ}{f:vW}{y:sZ},CG Covers fs ys->Covers f y->CG Covers (fs++[f]) (ys++[y]):=by
    intro fs ys f y h hf
    induction h with
    |nil=>exact .cons hf .nil
    |cons h _ ih=>exact .cons h ih
  have step: ∀{σ1:St}{f:vW}{e:Eff}{rs ro:List Nat},Lr nt dst=true->Covers f ⟨i,⟨dst,op,ty,pos,after,guard⟩,e,rs,ro⟩->tX P G E ops ⟨dst,op,ty,pos,after,guard⟩ (iZ σ) e rs ro->
    iZ σ1=(iZ σ).app e->iQ P G E nt ops (i+1) rest σ1 (f::acc) K->
    ∃xs qL σ',K (qL++acc) σ'∧CG Covers qL xs.reverse∧Chain P G E ops (iZ σ) xs (iZ σ')∧(∀x∈xs,ops[x.i]? =some x.o∧dJ nt x.o.dst)∧xs.map (·.i)=List.range' i (rest.length+1):=by
    intro σ1 f e rs ro hd hcov hstep hF h
    obtain⟨xs,qL,σ',h1,h2,h3,h4,h5⟩:=Iy h hr'
    refine⟨⟨i,⟨dst,op,ty,pos,after,guard⟩,e,rs,ro⟩::xs,qL++[f],σ',by simpa using h1,?_,⟨hstep,by rw[<-hF];exact h3⟩,?_,?_⟩
    ·rw[List.reverse_cons]
     exact ab5 h2 hcov
    ·intro x hx
     rcases List.mem_cons.1 hx with rfl|hx
     ·exact⟨ho,dok hd⟩
     ·exact h4 x hx
    ·simp only[List.map_cons,h5,List.range'_succ]
  have covU: ∀{u:bf}{a b rs ro:List Nat}{o:Oper},(∀k∈a,k∈rs)->(∀n∈b,n∈ro)->Covers ⟨i,rs,ro,wsU u,Dh u⟩ ⟨i,o,zI u,a,b⟩:=by
    intro u a b rs ro o ha hb
    obtain⟨d',v,own,del,new,pub⟩:=u
    refine⟨rfl,ha,hb,?_,?_⟩
    ·rintro k ⟨v',hv⟩
     simp only[zI,Option.map_eq_some_iff,Prod.mk.injEq]at hv
     obtain⟨d,hd,rfl,_⟩:=hv
     subst hd;simp[wsU]
    ·rintro n (hn|hn)
     ·simp only[Dh,List.mem_append]
      simp only[zI]at hn
      cases hl:lastB own n with
      |some c=>exact .inl (OI (by rw[hl];simp))
      |none=>
       rw[hl]at hn
       simp only[ne_eq,ite_eq_right_iff,reduceCtorEq,imp_false,Decidable.not_not]at hn
       exact .inr (.inl hn)
     ·simp only[Dh,List.mem_append]
      exact .inr (.inr hn)
  have ajU: ∀{d:Nat}{o:Oper},Covers ⟨i,[d],[],aaW dst,[]⟩ ⟨i,o,oz dst,[d],[]⟩:=by
    intro d o
    refine⟨rfl,fun _ h=>h,fun _ h=>h,?_,?_⟩
    ·rintro k ⟨v',hv⟩
     simp only[oz,Option.map_eq_some_iff,Prod.mk.injEq]at hv
     obtain⟨d,hd,rfl,_⟩:=hv
     rw[hd];simp[aaW]
    ·rintro n (hn|hn)
     ·exact(hn rfl).elim
     ·simp[oz]at hn
  have X5: ∀{σ1:St}{pre:List Nat},Lr nt dst=true->iZ σ1=iZ σ->
    (T_ P G E dst op).zM P G σ1 pre [] (fun u rs ro=>qC u σ1 fun σ=>iQ P G E nt ops (i+1) rest σ (⟨i,rs,ro,wsU u,Dh u⟩::acc) K)->
    (∀{u:bf}{rs ro:List Nat},MS P G (iZ σ) (T_ P G E dst op) u rs ro->jB (iZ σ) u->tX P G E ops ⟨dst,op,ty,pos,after,guard⟩ (iZ σ) (zI u) (pre++rs) ro)->
    ∃xs qL σ',K (qL++acc) σ'∧CG Covers qL xs.reverse∧Chain P G E ops (iZ σ) xs (iZ σ')∧(∀x∈xs,ops[x.i]? =some x.o∧dJ nt x.o.dst)∧xs.map (·.i)=List.range' i (rest.length+1):=by
    intro σ1 pre hd hF h hst
    obtain⟨u,rs',ro',x,y,h1,t,h2,h3,h4,h5⟩:=ac0 h
    rw[hF]at t
    obtain⟨σ2,F1,k1,k2,k3,k4⟩:=DZ h1
    have GU:=t.to.2
    rw[GU]at k2
    cases k2
    rw[hF]at k3 k4
    rw[U2]at k3
    refine step hd (covU (u:=u) (a:=pre++x) (b:=y) (fun k hk=> ?_) h3) (hst t k4) k3 k1
    rcases List.mem_append.1 hk with hk|hk
    ·exact h4 k hk
    ·exact h2 k hk
  have skip: ∀{σ1:St}{d:Nat},Lr nt dst=true->iZ σ1=iZ σ->uJ dst σ1 (fun σ=>iQ P G E nt ops (i+1) rest σ (⟨i,[d],[],aaW dst,[]⟩::acc) K)->
    tX P G E ops ⟨dst,op,ty,pos,after,guard⟩ (iZ σ) (oz dst) [d] []->
    ∃xs qL σ',K (qL++acc) σ'∧CG Covers qL xs.reverse∧Chain P G E ops (iZ σ) xs (iZ σ')∧(∀x∈xs,ops[x.i]? =some x.o∧dJ nt x.o.dst)∧xs.map (·.i)=List.range' i (rest.length+1):=by
    intro σ1 d hd hF h hst
    obtain⟨σ2,h1,h2⟩:=Wu h
    rw[hF]at h2
    exact step hd ajU hst h2 h1
  cases guard with
  |none=>
   simp only[iQ]at h
   split at h
   ·exact X5 (pre:=[]) ‹_› rfl h (fun t hf=> .run rfl t hf)
   ·exact h.out.elim
  |some g=>
   obtain⟨j,want⟩:=g
   simp only[iQ]at h
   split at h
   ·rename_i d _ _ _ _ _ hj hd
    split at h
    ·rename_i b hb
     have hs:(iZ σ).s d=some (.d (.bool b)):=by rw[Sl];exact hb
     rw[xK]at hj
     cases b<;>cases want<;>simp only[bc]at h<;>obtain⟨σ',h1,h2⟩:=Uo h hs
     ·exact X5 (pre:=[d]) hd h2 h1 (fun t hf=> .aaz rfl hj rfl hs t hf)
     ·exact skip hd h2 h1 (.skip rfl hj rfl (.inl hs))
     ·exact skip hd h2 h1 (.skip rfl hj rfl (.inl hs))
     ·exact X5 (pre:=[d]) hd h2 h1 (fun t hf=> .aaz rfl hj rfl hs t hf)
    ·rename_i hb
     have hs:(iZ σ).s d=some (.cO []):=by rw[Sl];exact hb
     rw[xK]at hj
     exact skip hd rfl h (.skip rfl hj rfl (.inr hs))
    ·exact h.out.elim
   ·exact h.out.elim
theorem XV(hE:I8 P E): ∀{c:Code}{σ:St}{K:Ex->St->Prop}{I:Nat->Prop}{ρ:Nat->Loc}{a:Act}{w:World},exec P G E nt c σ K->Conc G nt C I ρ (iZ σ) a w->c.wp P (Good G nt C K) a w:=by
 intro c
 induction c with
 |scope c ih=>
  intro σ K I ρ a w h hc
  refine wp_scope_straight (wp_mono (ih h hc) ?_)
  intro e a w hg
  cases e with
  |goto l=>exact hg.elim
  |_=>exact hg
 |label l=>intro σ K I ρ a w h hc;exact wp_label ⟨σ,I,ρ,h,hc⟩
 |skip=>intro σ K I ρ a w h hc;exact wp_skip ⟨σ,I,ρ,h,hc⟩
 |region id ops draw=>
  intro σ K I ρ a w h hc
  obtain⟨ops⟩:=ops
  have fin: ∀e a w,Good G nt C (fun e σ=>match e with| .normal=>K .normal σ|_=>False) e a w->Good G nt C K e a w:=by
   intro e a w hg
   cases e with
   |normal=>exact hg
   |exit id=>obtain⟨_,_,_,h,_⟩:=hg;exact h.elim
   |ret=>obtain⟨_,_,_,h,_⟩:=hg;exact h.elim
   |_=>exact hg.elim
  cases draw with
  |false=>exact wp_mono (wp_region_list (wW hE h hc)) fin
  |true=>
   obtain⟨hord,h⟩:=h
   ·obtain⟨xs,qL,σ',h1,h2,h3,h4,h5⟩:=Iy h (fun k=>by simp)
    obtain⟨ahT,h1⟩:=h1
    ·rw[List.append_nil]at ahT
     have La:=WW ahT h2
     rw[List.reverse_reverse]at La
     have hat: ∀(i:Nat)(o:Oper),ops[i]? =some o-> ∃x∈xs,x.i=i:=by
      intro i o ho
      have hl:=(List.getElem?_eq_some_iff.1 ho).1
      have:i∈xs.map (·.i):=by rw[h5];simp;exact hl
      obtain⟨x,hx,hxi⟩:=List.mem_map.1 this
      exact⟨x,hx,hxi⟩
     have hlen:xs.length=ops.length:=by
      have:=congrArg List.length h5
      simpa using this
     refine wp_region_any hE.mixed (RS (agG hE) ?_ ?_ (C:=C) (Q:=Good G nt C K) (F':=iZ σ') (fun I ρ a w hc=>⟨σ',I,ρ,h1,hc⟩) ops.length xs _ (iZ σ) I ρ a _ Om h3 La (fun x hx=>(h4 x hx).1) ?_ ?_ ?_ ?_ hc.drew)
     ·intro i o ho
      obtain⟨x,hx,hxi⟩:=hat i o ho
      have:=h4 x hx
      rw[hxi,ho]at this
      obtain⟨e1,e2⟩:=this
      cases e1
      exact e2
     ·intro i o ho d hdd
      have:=TN hord i o ho d hdd
      omega
     ·rw[h5];exact List.nodup_range'
     ·simp
     ·intro i
      constructor
      ·intro hf
       have hi:i<ops.length:=by
        refine Classical.byContradiction fun hge=> ?_
        simp[Array.getD_eq_getD_getElem?,Array.getElem?_replicate,hge]at hf
       obtain⟨x,hx,hxi⟩:=hat i _ (List.getElem?_eq_getElem hi)
       exact⟨x,hx,hxi⟩
      ·rintro⟨x,hx,rfl⟩
       have:=(List.getElem?_eq_some_iff.1 (h4 x hx).1).1
       simp[Array.getD_eq_getD_getElem?,Array.getElem?_replicate,this]
     ·intro j hj
      exfalso
      by_cases hl:j<ops.length<;>simp[Array.getD_eq_getD_getElem?,Array.getElem?_replicate,hl]at hj
 |seq x y ihx ihy=>
  intro σ K I ρ a w h hc
  refine wp_seq (wp_mono (ihx h hc) ?_)
  intro e a w hg
  cases e with
  |normal=>
   obtain⟨σ',I',ρ',hk,hc'⟩:=hg
   exact ihy hk hc'
  |exit id=>exact hg
  |ret=>exact hg
  |_=>exact hg.elim
 |cond c x y ihx ihy=>
  intro σ K I ρ a w h hc
  cases c with
  |tmp t=>
   simp only[exec]at h
   split at h
   ·rename_i b hb
    have hs:(iZ σ).s t=some (.d (.bool b)):=by rw[Sl];exact hb
    obtain⟨v,hv,hr⟩:=hc.slots t _ hs
    have hv':=pR hr
    subst hv'
    have he:a.eval (.tmp t)= .bool b:=by simp[Act.eval,hv]
    cases b with
    |true=>exact wp_cond_true he (wp_mono (ihx h hc) (fun _ _ _=>Jk))
    |false=>exact wp_cond_false he (wp_mono (ihy h hc) (fun _ _ _=>Jk))
   ·exact h.out.elim
  |const v=>
   cases v with
   |bool b=>
    cases b with
    |true=>
     simp only[exec]at h
     exact wp_cond_true rfl (wp_mono (ihx h hc) (fun _ _ _=>Jk))
    |false=>
     simp only[exec]at h
     exact wp_cond_false rfl (wp_mono (ihy h hc) (fun _ _ _=>Jk))
   |_=>exact h.out.elim
  |_=>exact h.out.elim
 |block id c ih=>
  intro σ K I ρ a w h hc
  refine wp_block (wp_mono (ih h hc) ?_)
  intro e a w hg
  cases e with
  |normal=>exact hg
  |exit i=>
   obtain⟨σ',I',ρ',hk,hc'⟩:=hg
   simp only[Exit.inBlock]
   simp only at hk
   split at hk
   ·rename_i e
    have e:=(beq_iff _ _).1 e
    rw[if_pos e]
    exact⟨σ',I',ρ',hk,hc'⟩
   ·rename_i e
    rw[if_neg (fun e'=>by rw[(beq_iff _ _).2 e']at e;cases e)]
    exact⟨σ',I',ρ',hk,hc'⟩
  |ret=>exact hg
  |_=>exact hg.elim
 |loop c ih=>
  intro σ K I ρ a w h hc
  obtain⟨σ0,n,he,hk⟩:=h
  obtain⟨I',ρ',hc'⟩:=he.out hc
  refine wp_loop_ghost (X:=Nat) (J:=fun n a w=> ∃σ I ρ,C_ (fun σ K=>exec P G E nt c σ K) n σ K∧Conc G nt C I ρ (iZ σ) a w) id ?_ n a w ⟨σ0,I',ρ',hk,hc'⟩
  rintro n a w ⟨σ,I,ρ,h,hc⟩
  cases n with
  |zero=>exact h.elim
  |succ n=>
   refine wp_mono (ih h hc) ?_
   intro e a w hg
   cases e with
   |normal=>
    obtain⟨σ',I',ρ',⟨yx,h1,h2⟩,hc'⟩:=hg
    obtain⟨I'',ρ'',hc''⟩:=h1.out hc'
    exact⟨n,⟨yx,I'',ρ'',h2,hc''⟩,Nat.lt_succ_self n⟩
   |exit id=>exact hg
   |ret=>exact hg
   |_=>exact hg.elim
 |exit id=>intro σ K I ρ a w h hc;exact wp_exit ⟨σ,I,ρ,h,hc⟩
 |ret=>intro σ K I ρ a w h hc;exact wp_ret ⟨σ,I,ρ,h,hc⟩
 |_=>intro σ K I ρ a w h hc;exact h.out.elim
end Go.Sx
