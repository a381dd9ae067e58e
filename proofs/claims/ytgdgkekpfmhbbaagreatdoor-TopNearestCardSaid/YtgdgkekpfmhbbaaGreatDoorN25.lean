/- Contracts of functions that the law reaches: YtgdgkekpfmhbbaaGreatDoorN25. Written for this claim. -/
import Derived.Test.YtgdgkekpfmhbbaaGreatDoorN19
import Derived.Test.YtgdgkekpfmhbbaaGreatDoorSxWlk3
namespace Go.Proofs.YtgdgkekpfmhbbaaGreatDoor
open Go Go.Sx Go.ChangeShapes Go.WideShapes Go.ChangeAt Go.RowKit
set_option linter.unusedVariables false
set_option linter.unusedSimpArgs false
set_option maxRecDepth 100000
theorem rC(vis:List dL):(vis.length<=1000∧(aS vis).length<=1000000)->Sc 319 [.d (ay dD 12 vis)] [] (.d (ay bF 2 (aS vis))) []:=by
 intro h
 have h1:=fun q1 q2 q3 q4 q5=>H_ q1 q2 q3 q4 q5 vis h
 refine Si (fn:=Tryz.f319) Tryz.call319 ?_
 conv=>whnf
 repeat' first|((first|refine Ci (h1 _ _ _ _ _) ?_|refine Sg ?_|refine Ni ?_ ?_);conv=>whnf)
 all_goals first
  |exact Lf|exact⟨aB.refl _,trivial⟩
  |skip
def oI(vis:List dL)(a:dQ):Nat->dQ
 |0=>a
 |i+1=>((vis.getD i default).qk,(vis.getD i default).qt)
theorem V7{v:dL}(h:D7 v):Cm v.own v.lk v.lt v.hk v.ht v.se v.sv v.rows:=⟨h.num,h.ne,h.st,h.tab,h.inn⟩
structure Yw (dn e:Bool) (k:List UInt8) (vis:List dL) (a:dQ) (r:jl):Prop where
 Fa:(k.length:Int)<=64
 len:vis.length<=1000
 rows:(aS vis).length<=1000000
 pos:0<vis.length
 en:decide (0<(aS vis).length)=e
 fit: ∀i,i<vis.length->D7 (vis.getD i default)
 pt: ∀i,i<vis.length->((vis.getD i default).pk,(vis.getD i default).pt)=oI vis a i
 le: ∀i,i<vis.length->aV (vis.getD i default).qk (vis.getD i default).qt r.2.2.1 r.2.2.2<=0
 lt: ∀i,i+1<vis.length->aV (vis.getD i default).qk (vis.getD i default).qt r.2.2.1 r.2.2.2<0
 st:dn=false∨e=false->a=(r.1,r.2.1)
 fin:aV (vis.getD (vis.length-1) default).qk (vis.getD (vis.length-1) default).qt r.2.2.1 r.2.2.2=0∨dn=false∧e=true
theorem ajR{dn:Bool}{k:List UInt8}{vis:List dL}{a:dQ}(h:vJ dn k vis a): ∃e,Yw dn e k vis a (eU dn k):=by
 have hhi: ∀x y,aW (x,y) (hiQ dn k)=aV x y (eU dn k).2.2.1 (eU dn k).2.2.2:=by intro x y;cases dn<;>rfl
 refine⟨_,h.Fa,h.len,h.rows,h.pos,rfl,h.fit,fun i hi=> ?_,fun i hi=> ?_,fun i hi=> ?_,fun hh=> ?_,?_⟩
 ·rw[h.pt i hi]
  cases i with
  |zero=>rfl
  |succ j=>rw[if_neg (Nat.succ_ne_zero j)];rfl
 ·rw[<-hhi];exact h.le i hi
 ·rw[<-hhi];exact h.lt i hi
 ·have e1:loQ dn k=((eU dn k).1,(eU dn k).2.1):=by cases dn<;>rfl
  rw[<-e1]
  refine h.st (hh.imp_right fun h2=> ?_)
  have h3: ¬0<(aS vis).length:=by simpa using h2
  exact List.eq_nil_of_length_eq_zero Om
 ·rcases h.en with h2|⟨h2,h3⟩
  ·left;rw[<-hhi];exact h2
  ·exact .inr ⟨h2,by rw[decide_eq_true_eq];exact List.length_pos_iff.2 h3⟩
theorem rF{v:dL}(h:D7 v):(!(aK (v.lk,v.lt,v.hk,v.ht))&&(decide (aV v.lk v.lt v.pk v.pt<=0)&&decide (aV v.qk v.qt v.hk v.ht<=0)))=true∧(decide (aV v.lk v.lt v.pk v.pt<=0)&&(decide (aV v.qk v.qt v.hk v.ht<=0)&& !(aK (v.lk,v.lt,v.hk,v.ht))))=true:=by
 have h1:aK (v.lk,v.lt,v.hk,v.ht)=false:=h.ne
 rw[h1,decide_eq_true h.lo,decide_eq_true h.hi]
 exact⟨rfl,rfl⟩
theorem Gl{v:dL}(h:D7 v):iJ v.rows v.pk v.pt v.qk v.qt=v.rows:=by
 unfold iJ
 rw[List.filter_eq_self]
 exact fun x hx=>BN.1 h.inp x hx
theorem V8{v:dL}(h:D7 v):v.rows.length<=1024:=(V7 h).len
set_option maxHeartbeats 400000 in
theorem ajQ{dn e:Bool}{k:List UInt8}{vis:List dL}{a:dQ}(hde:dn=false)(ht:vJ dn k vis a)(h:Yw dn e k vis a (eU dn k)):Sc 316 [.agg (kR dn k),.d (ay dD 12 vis)] [] (.d (.int .i64 0)) []:=by
 have h1:=kX dn k h.Fa;have h2:=lD dn k h.Fa;have h3:=rC vis ⟨h.len,h.rows⟩;have h4:=qw dn k (aS vis).length;have h5:=ni dn k
 rw[lM (show aK (eU dn k)=false from ht.ne)]at h2
 rw[h.en]at h4
 generalize eU dn k=r at h h2
 have hl:=h.len
 have hps:=h.pos
 have hp0:=h.pt 0 h.pos
 have hpv: ∀i,i<vis.length->Sc 62 [.agg [.d (.str (vis.getD i default).pk),.d (.bool (vis.getD i default).pt)],.agg [.d (.str (oI vis a i).1),.d (.bool (oI vis a i).2)]] [] (.d (.int .i64 0)) []:=by
  intro i hi
  have h0:=b_ (vis.getD i default).pk (vis.getD i default).pt (vis.getD i default).pk (vis.getD i default).pt
  rw[iH]at h0
  rw[<-h.pt i hi]
  exact h0
 have hst:dn=false∨e=false->oI vis a 0=(r.1,r.2.1):=h.st
 have hgz:decide ((vis.length:Int)>0)=true:=by simp;omega
 first
  |obtain rfl:=hde
  |obtain⟨rfl,rfl⟩:=hde
 refine Si (fn:=Tryz.f316) Tryz.call316 ?_
 conv=>whnf
 repeat' first|((first|refine Ci h1 ?_|refine Sr ?_|refine Sg ?_|refine Ni ?_ ?_);conv=>whnf)
 refine aA [1,2,4,5,19,20] [2] (fun i:Nat=>[(21,.d (.int .i64 i))]) (fun i=>[]) (fun i=>i<=vis.length) (fun i=>vis.length-i) 0 ?_ (fun i hi=> ?_) Om
 ·conv=>whnf
  repeat' first|((first|refine Sg ?_|refine Ni ?_ ?_);conv=>whnf)|(refine ah (fun _=> ?_) (fun _=> ?_)<;>(conv=>whnf))
  all_goals try first|exact Lq
 ·conv=>whnf
  refine ah (fun hlt=> ?_) (fun hlt=> ?_)
  ·have hlt0:i<vis.length:=by simpa using hlt
   have hf:=h.fit i hlt0
   have g1:=qW (V7 hf);have g2:=fC (vis.getD i default).pk (vis.getD i default).pt (vis.getD i default).qk (vis.getD i default).qt;have g3:=ug ((vis.getD i default).lk,(vis.getD i default).lt,(vis.getD i default).hk,(vis.getD i default).ht) ((vis.getD i default).pk,(vis.getD i default).pt,(vis.getD i default).qk,(vis.getD i default).qt);rw[(rF hf).1]at g3;have g4:=kV (vis.getD i default).rows (vis.getD i default).pk (vis.getD i default).pt (vis.getD i default).qk (vis.getD i default).qt (by have:=V8 hf;omega);rw[Gl hf]at g4
   rw[hf.pe]at g2
   have e4:(((vis.getD i default).rows.length:Int) !=((vis.getD i default).rows.length:Int))=false:=by simp
   have hw1:IntKind.i64.wrap ((i:Int)+1)=((i+1:Nat):Int):=wrap_succ (n:=1000) Om Om
   conv=>whnf
   repeat' first|((first|refine Ci g1 ?_|refine Ci g2 ?_|refine Ci g3 ?_|refine Ci g4 ?_|refine Sr ?_|refine aG.mk (i+1) ?_ ?_ ?_|refine Sg ?_|refine Ni ?_ ?_);conv=>whnf)
   all_goals first
    |exact Lf|exact aF.of_eq (by rw[hw1])
    |skip
  ·conv=>whnf
   repeat' first|((first|refine Ci h2 ?_|refine Ci h3 ?_|refine Ci h4 ?_|refine Ci h5 ?_|refine Sr ?_|refine Sg ?_|refine Ni ?_ ?_);conv=>whnf)
   all_goals try first|exact Lf
   refine aA [1,2,4,8,9,11,86,87] [2] (fun x:Nat×Int=>[(88,.d (.int .i64 x.1)),(10,.d (.int .i64 x.2))]) (fun x=>[(11,.box [.d (.str (oI vis a x.1).1),.d (.bool (oI vis a x.1).2)])])
    (fun x=>x.1<=vis.length∧((x.1<vis.length∧x.2=0)∨(x.1=vis.length∧x.2=if aV (vis.getD (vis.length-1) default).qk (vis.getD (vis.length-1) default).qt r.2.2.1 r.2.2.2=0 then 1 else 0))) (fun x=>vis.length-x.1) (0,0) ?_ (fun x hi=> ?_) ⟨Om,.inl ⟨Om,rfl⟩⟩
   ·conv=>whnf
    repeat' first|((first|refine Sg ?_|refine Ni ?_ ?_);conv=>whnf)|(refine ah (fun _=> ?_) (fun _=> ?_)<;>(conv=>whnf))
    all_goals try first|exact Lq
    all_goals first
     |exact aF.of_eq (congrArg (fun b:dQ=>D.bool b.2) (hst (by simp)).symm)
     |exact aF.of_eq (congrArg (fun b:dQ=>D.str b.1) (hst (by simp)).symm)
     |exact aF.of_eq (congrArg (fun b:dQ=>D.bool b.2) hp0)
     |exact aF.of_eq (congrArg (fun b:dQ=>D.str b.1) hp0)
     |skip
   ·obtain⟨i,z⟩:=x
    obtain⟨hi1,hi2⟩:=hi
    dsimp only at hi1 hi2
    conv=>whnf
    refine ah (fun hlt=> ?_) (fun hlt=> ?_)
    ·have hlt0:i<vis.length:=by simpa using hlt
     obtain rfl:z=0:=hi2.elim (fun h=>h.2) (fun h=>Om)
     have g1:=hpv i hlt0
     have g2:=b_ (vis.getD i default).qk (vis.getD i default).qt r.2.2.1 r.2.2.2
     have hle:=h.le i hlt0
     have hw1:IntKind.i64.wrap ((i:Int)+1)=((i+1:Nat):Int):=wrap_succ (n:=1000) Om Om
     have c1:(aV (vis.getD i default).qk (vis.getD i default).qt r.2.2.1 r.2.2.2==1)=false:=by rw[beq_eq_false_iff_ne];omega
     have c3:decide (aV (vis.getD i default).qk (vis.getD i default).qt r.2.2.1 r.2.2.2>0)=false:=decide_eq_false Om
     by_cases hc:aV (vis.getD i default).qk (vis.getD i default).qt r.2.2.1 r.2.2.2=0
     ·have c2:(aV (vis.getD i default).qk (vis.getD i default).qt r.2.2.1 r.2.2.2==0)=true:=by rw[hc];rfl
      have hn:i+1=vis.length:=by
         rcases Nat.lt_or_ge (i+1) vis.length with hn|hn
         ·have:=h.lt i hn;omega
         ·omega
      conv=>whnf
      repeat' first|((first|refine Ci g1 ?_|refine Ci g2 ?_|refine Sr ?_|refine aG.mk ((i+1,1):Nat×Int) ?_ ?_ ?_|refine Sg ?_|refine Ni ?_ ?_);conv=>whnf)
      all_goals first
         |exact Lf|exact aF.of_eq (by rw[hw1])|exact⟨Int.le_refl _,by show(0:Int)<((1:Nat):Int);decide⟩|(refine⟨Om,.inr ⟨hn,?_⟩⟩;rw[<-hn];exact(if_pos hc).symm)
         |skip
     ·have c2:(aV (vis.getD i default).qk (vis.getD i default).qt r.2.2.1 r.2.2.2==0)=false:=by rw[beq_eq_false_iff_ne];exact hc
      conv=>whnf
      repeat' first|((first|refine Ci g1 ?_|refine Ci g2 ?_|refine Sr ?_|refine aG.mk ((i+1,0):Nat×Int) ?_ ?_ ?_|refine Sg ?_|refine Ni ?_ ?_);conv=>whnf)
      all_goals first
         |exact Lf|exact aF.of_eq (by rw[hw1])|exact⟨Int.le_refl _,by show(0:Int)<((1:Nat):Int);decide⟩
         |(refine⟨Om,?_⟩
           rcases Nat.lt_or_ge (i+1) vis.length with hn|hn
           ·exact .inl ⟨hn,rfl⟩
           ·refine .inr ⟨Om,?_⟩
            rw[show vis.length-1=i by omega]
            exact(if_neg hc).symm)
         |skip
    ·have hge: ¬i<vis.length:=by simpa using hlt
     have hz:z=if aV (vis.getD (vis.length-1) default).qk (vis.getD (vis.length-1) default).qt r.2.2.1 r.2.2.2=0 then 1 else 0:=hi2.elim (fun h=>absurd h.1 hge) (fun h=>h.2)
     by_cases hc:aV (vis.getD (vis.length-1) default).qk (vis.getD (vis.length-1) default).qt r.2.2.1 r.2.2.2=0
     ·obtain rfl:z=1:=hz.trans (if_pos hc)
      conv=>whnf
      repeat' first|((first|refine Sr ?_|refine Sg ?_|refine Ni ?_ ?_);conv=>whnf)
      all_goals first
         |exact Lf|exact⟨aB.refl _,trivial⟩
         |skip
     ·obtain rfl:z=0:=hz.trans (if_neg hc)
      have hf:=h.fin.resolve_left hc
      try obtain rfl:e=true:=hf.2
      conv=>whnf
      repeat' first|((first|refine Sr ?_|refine Sg ?_|refine Ni ?_ ?_);conv=>whnf)
      all_goals first
         |exact Lf|exact⟨aB.refl _,trivial⟩|exact absurd hf.1 (by decide)|exact absurd hf.2 (by decide)
         |skip
   all_goals first|exact⟨Int.le_refl _,by show(0:Int)<((1:Nat):Int);decide⟩|exact⟨Om,Om⟩
set_option maxHeartbeats 400000 in
theorem ajP{dn e:Bool}{k:List UInt8}{vis:List dL}{a:dQ}(hde:dn=true∧e=true)(ht:vJ dn k vis a)(h:Yw dn e k vis a (eU dn k)):Sc 316 [.agg (kR dn k),.d (ay dD 12 vis)] [] (.d (.int .i64 0)) []:=by
 have h1:=kX dn k h.Fa;have h2:=lD dn k h.Fa;have h3:=rC vis ⟨h.len,h.rows⟩;have h4:=qw dn k (aS vis).length;have h5:=ni dn k
 rw[lM (show aK (eU dn k)=false from ht.ne)]at h2
 rw[h.en]at h4
 generalize eU dn k=r at h h2
 have hl:=h.len
 have hps:=h.pos
 have hp0:=h.pt 0 h.pos
 have hpv: ∀i,i<vis.length->Sc 62 [.agg [.d (.str (vis.getD i default).pk),.d (.bool (vis.getD i default).pt)],.agg [.d (.str (oI vis a i).1),.d (.bool (oI vis a i).2)]] [] (.d (.int .i64 0)) []:=by
  intro i hi
  have h0:=b_ (vis.getD i default).pk (vis.getD i default).pt (vis.getD i default).pk (vis.getD i default).pt
  rw[iH]at h0
  rw[<-h.pt i hi]
  exact h0
 have hst:dn=false∨e=false->oI vis a 0=(r.1,r.2.1):=h.st
 have hgz:decide ((vis.length:Int)>0)=true:=by simp;omega
 first
  |obtain rfl:=hde
  |obtain⟨rfl,rfl⟩:=hde
 refine Si (fn:=Tryz.f316) Tryz.call316 ?_
 conv=>whnf
 repeat' first|((first|refine Ci h1 ?_|refine Sr ?_|refine Sg ?_|refine Ni ?_ ?_);conv=>whnf)
 refine aA [1,2,4,5,19,20] [2] (fun i:Nat=>[(21,.d (.int .i64 i))]) (fun i=>[]) (fun i=>i<=vis.length) (fun i=>vis.length-i) 0 ?_ (fun i hi=> ?_) Om
 ·conv=>whnf
  repeat' first|((first|refine Sg ?_|refine Ni ?_ ?_);conv=>whnf)|(refine ah (fun _=> ?_) (fun _=> ?_)<;>(conv=>whnf))
  all_goals try first|exact Lq
 ·conv=>whnf
  refine ah (fun hlt=> ?_) (fun hlt=> ?_)
  ·have hlt0:i<vis.length:=by simpa using hlt
   have hf:=h.fit i hlt0
   have g1:=qW (V7 hf);have g2:=fC (vis.getD i default).pk (vis.getD i default).pt (vis.getD i default).qk (vis.getD i default).qt;have g3:=ug ((vis.getD i default).lk,(vis.getD i default).lt,(vis.getD i default).hk,(vis.getD i default).ht) ((vis.getD i default).pk,(vis.getD i default).pt,(vis.getD i default).qk,(vis.getD i default).qt);rw[(rF hf).1]at g3;have g4:=kV (vis.getD i default).rows (vis.getD i default).pk (vis.getD i default).pt (vis.getD i default).qk (vis.getD i default).qt (by have:=V8 hf;omega);rw[Gl hf]at g4
   rw[hf.pe]at g2
   have e4:(((vis.getD i default).rows.length:Int) !=((vis.getD i default).rows.length:Int))=false:=by simp
   have hw1:IntKind.i64.wrap ((i:Int)+1)=((i+1:Nat):Int):=wrap_succ (n:=1000) Om Om
   conv=>whnf
   repeat' first|((first|refine Ci g1 ?_|refine Ci g2 ?_|refine Ci g3 ?_|refine Ci g4 ?_|refine Sr ?_|refine aG.mk (i+1) ?_ ?_ ?_|refine Sg ?_|refine Ni ?_ ?_);conv=>whnf)
   all_goals first
    |exact Lf|exact aF.of_eq (by rw[hw1])
    |skip
  ·conv=>whnf
   repeat' first|((first|refine Ci h2 ?_|refine Ci h3 ?_|refine Ci h4 ?_|refine Ci h5 ?_|refine Sr ?_|refine Sg ?_|refine Ni ?_ ?_);conv=>whnf)
   all_goals try first|exact Lf
   refine aA [1,2,4,8,9,11,86,87] [2] (fun x:Nat×Int=>[(88,.d (.int .i64 x.1)),(10,.d (.int .i64 x.2))]) (fun x=>[(11,.box [.d (.str (oI vis a x.1).1),.d (.bool (oI vis a x.1).2)])])
    (fun x=>x.1<=vis.length∧((x.1<vis.length∧x.2=0)∨(x.1=vis.length∧x.2=if aV (vis.getD (vis.length-1) default).qk (vis.getD (vis.length-1) default).qt r.2.2.1 r.2.2.2=0 then 1 else 0))) (fun x=>vis.length-x.1) (0,0) ?_ (fun x hi=> ?_) ⟨Om,.inl ⟨Om,rfl⟩⟩
   ·conv=>whnf
    repeat' first|((first|refine Sg ?_|refine Ni ?_ ?_);conv=>whnf)|(refine ah (fun _=> ?_) (fun _=> ?_)<;>(conv=>whnf))
    all_goals try first|exact Lq
    all_goals first
     |exact aF.of_eq (congrArg (fun b:dQ=>D.bool b.2) (hst (by simp)).symm)
     |exact aF.of_eq (congrArg (fun b:dQ=>D.str b.1) (hst (by simp)).symm)
     |exact aF.of_eq (congrArg (fun b:dQ=>D.bool b.2) hp0)
     |exact aF.of_eq (congrArg (fun b:dQ=>D.str b.1) hp0)
     |skip
   ·obtain⟨i,z⟩:=x
    obtain⟨hi1,hi2⟩:=hi
    dsimp only at hi1 hi2
    conv=>whnf
    refine ah (fun hlt=> ?_) (fun hlt=> ?_)
    ·have hlt0:i<vis.length:=by simpa using hlt
     obtain rfl:z=0:=hi2.elim (fun h=>h.2) (fun h=>Om)
     have g1:=hpv i hlt0
     have g2:=b_ (vis.getD i default).qk (vis.getD i default).qt r.2.2.1 r.2.2.2
     have hle:=h.le i hlt0
     have hw1:IntKind.i64.wrap ((i:Int)+1)=((i+1:Nat):Int):=wrap_succ (n:=1000) Om Om
     have c1:(aV (vis.getD i default).qk (vis.getD i default).qt r.2.2.1 r.2.2.2==1)=false:=by rw[beq_eq_false_iff_ne];omega
     have c3:decide (aV (vis.getD i default).qk (vis.getD i default).qt r.2.2.1 r.2.2.2>0)=false:=decide_eq_false Om
     by_cases hc:aV (vis.getD i default).qk (vis.getD i default).qt r.2.2.1 r.2.2.2=0
     ·have c2:(aV (vis.getD i default).qk (vis.getD i default).qt r.2.2.1 r.2.2.2==0)=true:=by rw[hc];rfl
      have hn:i+1=vis.length:=by
         rcases Nat.lt_or_ge (i+1) vis.length with hn|hn
         ·have:=h.lt i hn;omega
         ·omega
      conv=>whnf
      repeat' first|((first|refine Ci g1 ?_|refine Ci g2 ?_|refine Sr ?_|refine aG.mk ((i+1,1):Nat×Int) ?_ ?_ ?_|refine Sg ?_|refine Ni ?_ ?_);conv=>whnf)
      all_goals first
         |exact Lf|exact aF.of_eq (by rw[hw1])|exact⟨Int.le_refl _,by show(0:Int)<((1:Nat):Int);decide⟩|(refine⟨Om,.inr ⟨hn,?_⟩⟩;rw[<-hn];exact(if_pos hc).symm)
         |skip
     ·have c2:(aV (vis.getD i default).qk (vis.getD i default).qt r.2.2.1 r.2.2.2==0)=false:=by rw[beq_eq_false_iff_ne];exact hc
      conv=>whnf
      repeat' first|((first|refine Ci g1 ?_|refine Ci g2 ?_|refine Sr ?_|refine aG.mk ((i+1,0):Nat×Int) ?_ ?_ ?_|refine Sg ?_|refine Ni ?_ ?_);conv=>whnf)
      all_goals first
         |exact Lf|exact aF.of_eq (by rw[hw1])|exact⟨Int.le_refl _,by show(0:Int)<((1:Nat):Int);decide⟩
         |(refine⟨Om,?_⟩
           rcases Nat.lt_or_ge (i+1) vis.length with hn|hn
           ·exact .inl ⟨hn,rfl⟩
           ·refine .inr ⟨Om,?_⟩
            rw[show vis.length-1=i by omega]
            exact(if_neg hc).symm)
         |skip
    ·have hge: ¬i<vis.length:=by simpa using hlt
     have hz:z=if aV (vis.getD (vis.length-1) default).qk (vis.getD (vis.length-1) default).qt r.2.2.1 r.2.2.2=0 then 1 else 0:=hi2.elim (fun h=>absurd h.1 hge) (fun h=>h.2)
     by_cases hc:aV (vis.getD (vis.length-1) default).qk (vis.getD (vis.length-1) default).qt r.2.2.1 r.2.2.2=0
     ·obtain rfl:z=1:=hz.trans (if_pos hc)
      conv=>whnf
      repeat' first|((first|refine Sr ?_|refine Sg ?_|refine Ni ?_ ?_);conv=>whnf)
      all_goals first
         |exact Lf|exact⟨aB.refl _,trivial⟩
         |skip
     ·obtain rfl:z=0:=hz.trans (if_neg hc)
      have hf:=h.fin.resolve_left hc
      try obtain rfl:e=true:=hf.2
      conv=>whnf
      repeat' first|((first|refine Sr ?_|refine Sg ?_|refine Ni ?_ ?_);conv=>whnf)
      all_goals first
         |exact Lf|exact⟨aB.refl _,trivial⟩|exact absurd hf.1 (by decide)|exact absurd hf.2 (by decide)
         |skip
   all_goals first|exact⟨Int.le_refl _,by show(0:Int)<((1:Nat):Int);decide⟩|exact⟨Om,Om⟩
set_option maxHeartbeats 400000 in
theorem ajO{dn e:Bool}{k:List UInt8}{vis:List dL}{a:dQ}(hde:dn=true∧e=false)(ht:vJ dn k vis a)(h:Yw dn e k vis a (eU dn k)):Sc 316 [.agg (kR dn k),.d (ay dD 12 vis)] [] (.d (.int .i64 0)) []:=by
 have h1:=kX dn k h.Fa;have h2:=lD dn k h.Fa;have h3:=rC vis ⟨h.len,h.rows⟩;have h4:=qw dn k (aS vis).length;have h5:=ni dn k
 rw[lM (show aK (eU dn k)=false from ht.ne)]at h2
 rw[h.en]at h4
 generalize eU dn k=r at h h2
 have hl:=h.len
 have hps:=h.pos
 have hp0:=h.pt 0 h.pos
 have hpv: ∀i,i<vis.length->Sc 62 [.agg [.d (.str (vis.getD i default).pk),.d (.bool (vis.getD i default).pt)],.agg [.d (.str (oI vis a i).1),.d (.bool (oI vis a i).2)]] [] (.d (.int .i64 0)) []:=by
  intro i hi
  have h0:=b_ (vis.getD i default).pk (vis.getD i default).pt (vis.getD i default).pk (vis.getD i default).pt
  rw[iH]at h0
  rw[<-h.pt i hi]
  exact h0
 have hst:dn=false∨e=false->oI vis a 0=(r.1,r.2.1):=h.st
 have hgz:decide ((vis.length:Int)>0)=true:=by simp;omega
 first
  |obtain rfl:=hde
  |obtain⟨rfl,rfl⟩:=hde
 refine Si (fn:=Tryz.f316) Tryz.call316 ?_
 conv=>whnf
 repeat' first|((first|refine Ci h1 ?_|refine Sr ?_|refine Sg ?_|refine Ni ?_ ?_);conv=>whnf)
 refine aA [1,2,4,5,19,20] [2] (fun i:Nat=>[(21,.d (.int .i64 i))]) (fun i=>[]) (fun i=>i<=vis.length) (fun i=>vis.length-i) 0 ?_ (fun i hi=> ?_) Om
 ·conv=>whnf
  repeat' first|((first|refine Sg ?_|refine Ni ?_ ?_);conv=>whnf)|(refine ah (fun _=> ?_) (fun _=> ?_)<;>(conv=>whnf))
  all_goals try first|exact Lq
 ·conv=>whnf
  refine ah (fun hlt=> ?_) (fun hlt=> ?_)
  ·have hlt0:i<vis.length:=by simpa using hlt
   have hf:=h.fit i hlt0
   have g1:=qW (V7 hf);have g2:=fC (vis.getD i default).pk (vis.getD i default).pt (vis.getD i default).qk (vis.getD i default).qt;have g3:=ug ((vis.getD i default).lk,(vis.getD i default).lt,(vis.getD i default).hk,(vis.getD i default).ht) ((vis.getD i default).pk,(vis.getD i default).pt,(vis.getD i default).qk,(vis.getD i default).qt);rw[(rF hf).1]at g3;have g4:=kV (vis.getD i default).rows (vis.getD i default).pk (vis.getD i default).pt (vis.getD i default).qk (vis.getD i default).qt (by have:=V8 hf;omega);rw[Gl hf]at g4
   rw[hf.pe]at g2
   have e4:(((vis.getD i default).rows.length:Int) !=((vis.getD i default).rows.length:Int))=false:=by simp
   have hw1:IntKind.i64.wrap ((i:Int)+1)=((i+1:Nat):Int):=wrap_succ (n:=1000) Om Om
   conv=>whnf
   repeat' first|((first|refine Ci g1 ?_|refine Ci g2 ?_|refine Ci g3 ?_|refine Ci g4 ?_|refine Sr ?_|refine aG.mk (i+1) ?_ ?_ ?_|refine Sg ?_|refine Ni ?_ ?_);conv=>whnf)
   all_goals first
    |exact Lf|exact aF.of_eq (by rw[hw1])
    |skip
  ·conv=>whnf
   repeat' first|((first|refine Ci h2 ?_|refine Ci h3 ?_|refine Ci h4 ?_|refine Ci h5 ?_|refine Sr ?_|refine Sg ?_|refine Ni ?_ ?_);conv=>whnf)
   all_goals try first|exact Lf
   refine aA [1,2,4,8,9,11,86,87] [2] (fun x:Nat×Int=>[(88,.d (.int .i64 x.1)),(10,.d (.int .i64 x.2))]) (fun x=>[(11,.box [.d (.str (oI vis a x.1).1),.d (.bool (oI vis a x.1).2)])])
    (fun x=>x.1<=vis.length∧((x.1<vis.length∧x.2=0)∨(x.1=vis.length∧x.2=if aV (vis.getD (vis.length-1) default).qk (vis.getD (vis.length-1) default).qt r.2.2.1 r.2.2.2=0 then 1 else 0))) (fun x=>vis.length-x.1) (0,0) ?_ (fun x hi=> ?_) ⟨Om,.inl ⟨Om,rfl⟩⟩
   ·conv=>whnf
    repeat' first|((first|refine Sg ?_|refine Ni ?_ ?_);conv=>whnf)|(refine ah (fun _=> ?_) (fun _=> ?_)<;>(conv=>whnf))
    all_goals try first|exact Lq
    all_goals first
     |exact aF.of_eq (congrArg (fun b:dQ=>D.bool b.2) (hst (by simp)).symm)
     |exact aF.of_eq (congrArg (fun b:dQ=>D.str b.1) (hst (by simp)).symm)
     |exact aF.of_eq (congrArg (fun b:dQ=>D.bool b.2) hp0)
     |exact aF.of_eq (congrArg (fun b:dQ=>D.str b.1) hp0)
     |skip
   ·obtain⟨i,z⟩:=x
    obtain⟨hi1,hi2⟩:=hi
    dsimp only at hi1 hi2
    conv=>whnf
    refine ah (fun hlt=> ?_) (fun hlt=> ?_)
    ·have hlt0:i<vis.length:=by simpa using hlt
     obtain rfl:z=0:=hi2.elim (fun h=>h.2) (fun h=>Om)
     have g1:=hpv i hlt0
     have g2:=b_ (vis.getD i default).qk (vis.getD i default).qt r.2.2.1 r.2.2.2
     have hle:=h.le i hlt0
     have hw1:IntKind.i64.wrap ((i:Int)+1)=((i+1:Nat):Int):=wrap_succ (n:=1000) Om Om
     have c1:(aV (vis.getD i default).qk (vis.getD i default).qt r.2.2.1 r.2.2.2==1)=false:=by rw[beq_eq_false_iff_ne];omega
     have c3:decide (aV (vis.getD i default).qk (vis.getD i default).qt r.2.2.1 r.2.2.2>0)=false:=decide_eq_false Om
     by_cases hc:aV (vis.getD i default).qk (vis.getD i default).qt r.2.2.1 r.2.2.2=0
     ·have c2:(aV (vis.getD i default).qk (vis.getD i default).qt r.2.2.1 r.2.2.2==0)=true:=by rw[hc];rfl
      have hn:i+1=vis.length:=by
         rcases Nat.lt_or_ge (i+1) vis.length with hn|hn
         ·have:=h.lt i hn;omega
         ·omega
      conv=>whnf
      repeat' first|((first|refine Ci g1 ?_|refine Ci g2 ?_|refine Sr ?_|refine aG.mk ((i+1,1):Nat×Int) ?_ ?_ ?_|refine Sg ?_|refine Ni ?_ ?_);conv=>whnf)
      all_goals first
         |exact Lf|exact aF.of_eq (by rw[hw1])|exact⟨Int.le_refl _,by show(0:Int)<((1:Nat):Int);decide⟩|(refine⟨Om,.inr ⟨hn,?_⟩⟩;rw[<-hn];exact(if_pos hc).symm)
         |skip
     ·have c2:(aV (vis.getD i default).qk (vis.getD i default).qt r.2.2.1 r.2.2.2==0)=false:=by rw[beq_eq_false_iff_ne];exact hc
      conv=>whnf
      repeat' first|((first|refine Ci g1 ?_|refine Ci g2 ?_|refine Sr ?_|refine aG.mk ((i+1,0):Nat×Int) ?_ ?_ ?_|refine Sg ?_|refine Ni ?_ ?_);conv=>whnf)
      all_goals first
         |exact Lf|exact aF.of_eq (by rw[hw1])|exact⟨Int.le_refl _,by show(0:Int)<((1:Nat):Int);decide⟩
         |(refine⟨Om,?_⟩
           rcases Nat.lt_or_ge (i+1) vis.length with hn|hn
           ·exact .inl ⟨hn,rfl⟩
           ·refine .inr ⟨Om,?_⟩
            rw[show vis.length-1=i by omega]
            exact(if_neg hc).symm)
         |skip
    ·have hge: ¬i<vis.length:=by simpa using hlt
     have hz:z=if aV (vis.getD (vis.length-1) default).qk (vis.getD (vis.length-1) default).qt r.2.2.1 r.2.2.2=0 then 1 else 0:=hi2.elim (fun h=>absurd h.1 hge) (fun h=>h.2)
     by_cases hc:aV (vis.getD (vis.length-1) default).qk (vis.getD (vis.length-1) default).qt r.2.2.1 r.2.2.2=0
     ·obtain rfl:z=1:=hz.trans (if_pos hc)
      conv=>whnf
      repeat' first|((first|refine Sr ?_|refine Sg ?_|refine Ni ?_ ?_);conv=>whnf)
      all_goals first
         |exact Lf|exact⟨aB.refl _,trivial⟩
         |skip
     ·obtain rfl:z=0:=hz.trans (if_neg hc)
      have hf:=h.fin.resolve_left hc
      try obtain rfl:e=true:=hf.2
      conv=>whnf
      repeat' first|((first|refine Sr ?_|refine Sg ?_|refine Ni ?_ ?_);conv=>whnf)
      all_goals first
         |exact Lf|exact⟨aB.refl _,trivial⟩|exact absurd hf.1 (by decide)|exact absurd hf.2 (by decide)
         |skip
   all_goals first|exact⟨Int.le_refl _,by show(0:Int)<((1:Nat):Int);decide⟩|exact⟨Om,Om⟩
theorem aar{dn:Bool}{k:List UInt8}{vis:List dL}{a:dQ}(ht:vJ dn k vis a):Sc 316 [.agg (kR dn k),.d (ay dD 12 vis)] [] (.d (.int .i64 0)) []:=by
 obtain⟨e,h⟩:=ajR ht
 cases dn
 ·exact ajQ rfl ht h
 ·cases e
  ·exact ajO ⟨rfl,rfl⟩ ht h
  ·exact ajP ⟨rfl,rfl⟩ ht h
set_option maxHeartbeats 400000 in
theorem ajM{dn e:Bool}{k:List UInt8}{vis:List dL}{a:dQ}(hde:dn=false)(ht:vJ dn k vis a)(h:Yw dn e k vis a (eU dn k)):Sc 153 [.agg (kR dn k),.d (ay dD 12 vis)] [] (.d (.int .i64 0)) []:=by
 have h1:=qA dn k h.Fa;have h2:=uf dn k h.Fa;have h3:=oG vis ⟨h.len,h.rows⟩;have h4:=qp dn k (aS vis).length;have h5:=ng dn k
 rw[lM (show aK (eU dn k)=false from ht.ne)]at h2
 rw[h.en]at h4
 generalize eU dn k=r at h h2
 have hl:=h.len
 have hps:=h.pos
 have hp0:=h.pt 0 h.pos
 have hpv: ∀i,i<vis.length->Sc 73 [.agg [.d (.str (vis.getD i default).pk),.d (.bool (vis.getD i default).pt)],.agg [.d (.str (oI vis a i).1),.d (.bool (oI vis a i).2)]] [] (.d (.int .i64 0)) []:=by
  intro i hi
  have h0:=dG (vis.getD i default).pk (vis.getD i default).pt (vis.getD i default).pk (vis.getD i default).pt
  rw[iH]at h0
  rw[<-h.pt i hi]
  exact h0
 have hst:dn=false∨e=false->oI vis a 0=(r.1,r.2.1):=h.st
 have hgz:decide ((vis.length:Int)>0)=true:=by simp;omega
 first
  |obtain rfl:=hde
  |obtain⟨rfl,rfl⟩:=hde
 refine Si (fn:=Tryz.f153) Tryz.call153 ?_
 conv=>whnf
 repeat' first|((first|refine Ci h1 ?_|refine Sr ?_|refine Sg ?_|refine Ni ?_ ?_);conv=>whnf)
 refine aA [1,2,4,5,19,20] [2] (fun i:Nat=>[(21,.d (.int .i64 i))]) (fun i=>[]) (fun i=>i<=vis.length) (fun i=>vis.length-i) 0 ?_ (fun i hi=> ?_) Om
 ·conv=>whnf
  repeat' first|((first|refine Sg ?_|refine Ni ?_ ?_);conv=>whnf)|(refine ah (fun _=> ?_) (fun _=> ?_)<;>(conv=>whnf))
  all_goals try first|exact Lq
 ·conv=>whnf
  refine ah (fun hlt=> ?_) (fun hlt=> ?_)
  ·have hlt0:i<vis.length:=by simpa using hlt
   have hf:=h.fit i hlt0
   have g1:=qV (V7 hf);have g2:=f_ (vis.getD i default).pk (vis.getD i default).pt (vis.getD i default).qk (vis.getD i default).qt;have g3:=yY ((vis.getD i default).pk,(vis.getD i default).pt,(vis.getD i default).qk,(vis.getD i default).qt) ((vis.getD i default).lk,(vis.getD i default).lt,(vis.getD i default).hk,(vis.getD i default).ht);rw[(rF hf).2]at g3;have g4:=tY (vis.getD i default).pk (vis.getD i default).pt (vis.getD i default).qk (vis.getD i default).qt (vis.getD i default).rows (by have:=V8 hf;omega);rw[show qj _ _=true from hf.inp]at g4
   rw[hf.pe]at g2
   have e4:(((vis.getD i default).rows.length:Int) !=((vis.getD i default).rows.length:Int))=false:=by simp
   have hw1:IntKind.i64.wrap ((i:Int)+1)=((i+1:Nat):Int):=wrap_succ (n:=1000) Om Om
   conv=>whnf
   repeat' first|((first|refine Ci g1 ?_|refine Ci g2 ?_|refine Ci g3 ?_|refine Ci g4 ?_|refine Sr ?_|refine aG.mk (i+1) ?_ ?_ ?_|refine Sg ?_|refine Ni ?_ ?_);conv=>whnf)
   all_goals first
    |exact Lf|exact aF.of_eq (by rw[hw1])
    |skip
  ·conv=>whnf
   repeat' first|((first|refine Ci h2 ?_|refine Ci h3 ?_|refine Ci h4 ?_|refine Ci h5 ?_|refine Sr ?_|refine Sg ?_|refine Ni ?_ ?_);conv=>whnf)
   all_goals try first|exact Lf
   refine aA [1,2,4,8,9,11,80,81] [2] (fun x:Nat×Int=>[(82,.d (.int .i64 x.1)),(10,.d (.int .i64 x.2))]) (fun x=>[(11,.box [.d (.str (oI vis a x.1).1),.d (.bool (oI vis a x.1).2)])])
    (fun x=>x.1<=vis.length∧((x.1<vis.length∧x.2=0)∨(x.1=vis.length∧x.2=if aV (vis.getD (vis.length-1) default).qk (vis.getD (vis.length-1) default).qt r.2.2.1 r.2.2.2=0 then 1 else 0))) (fun x=>vis.length-x.1) (0,0) ?_ (fun x hi=> ?_) ⟨Om,.inl ⟨Om,rfl⟩⟩
   ·conv=>whnf
    repeat' first|((first|refine Sg ?_|refine Ni ?_ ?_);conv=>whnf)|(refine ah (fun _=> ?_) (fun _=> ?_)<;>(conv=>whnf))
    all_goals try first|exact Lq
    all_goals first
     |exact aF.of_eq (congrArg (fun b:dQ=>D.bool b.2) (hst (by simp)).symm)
     |exact aF.of_eq (congrArg (fun b:dQ=>D.str b.1) (hst (by simp)).symm)
     |exact aF.of_eq (congrArg (fun b:dQ=>D.bool b.2) hp0)
     |exact aF.of_eq (congrArg (fun b:dQ=>D.str b.1) hp0)
     |skip
   ·obtain⟨i,z⟩:=x
    obtain⟨hi1,hi2⟩:=hi
    dsimp only at hi1 hi2
    conv=>whnf
    refine ah (fun hlt=> ?_) (fun hlt=> ?_)
    ·have hlt0:i<vis.length:=by simpa using hlt
     obtain rfl:z=0:=hi2.elim (fun h=>h.2) (fun h=>Om)
     have g1:=hpv i hlt0
     have g2:=dG (vis.getD i default).qk (vis.getD i default).qt r.2.2.1 r.2.2.2
     have hle:=h.le i hlt0
     have hw1:IntKind.i64.wrap ((i:Int)+1)=((i+1:Nat):Int):=wrap_succ (n:=1000) Om Om
     have c1:(aV (vis.getD i default).qk (vis.getD i default).qt r.2.2.1 r.2.2.2==1)=false:=by rw[beq_eq_false_iff_ne];omega
     have c3:decide (aV (vis.getD i default).qk (vis.getD i default).qt r.2.2.1 r.2.2.2>0)=false:=decide_eq_false Om
     by_cases hc:aV (vis.getD i default).qk (vis.getD i default).qt r.2.2.1 r.2.2.2=0
     ·have c2:(aV (vis.getD i default).qk (vis.getD i default).qt r.2.2.1 r.2.2.2==0)=true:=by rw[hc];rfl
      have hn:i+1=vis.length:=by
         rcases Nat.lt_or_ge (i+1) vis.length with hn|hn
         ·have:=h.lt i hn;omega
         ·omega
      conv=>whnf
      repeat' first|((first|refine Ci g1 ?_|refine Ci g2 ?_|refine Sr ?_|refine aG.mk ((i+1,1):Nat×Int) ?_ ?_ ?_|refine Sg ?_|refine Ni ?_ ?_);conv=>whnf)
      all_goals first
         |exact Lf|exact aF.of_eq (by rw[hw1])|exact⟨Int.le_refl _,by show(0:Int)<((1:Nat):Int);decide⟩|(refine⟨Om,.inr ⟨hn,?_⟩⟩;rw[<-hn];exact(if_pos hc).symm)
         |skip
     ·have c2:(aV (vis.getD i default).qk (vis.getD i default).qt r.2.2.1 r.2.2.2==0)=false:=by rw[beq_eq_false_iff_ne];exact hc
      conv=>whnf
      repeat' first|((first|refine Ci g1 ?_|refine Ci g2 ?_|refine Sr ?_|refine aG.mk ((i+1,0):Nat×Int) ?_ ?_ ?_|refine Sg ?_|refine Ni ?_ ?_);conv=>whnf)
      all_goals first
         |exact Lf|exact aF.of_eq (by rw[hw1])|exact⟨Int.le_refl _,by show(0:Int)<((1:Nat):Int);decide⟩
         |(refine⟨Om,?_⟩
           rcases Nat.lt_or_ge (i+1) vis.length with hn|hn
           ·exact .inl ⟨hn,rfl⟩
           ·refine .inr ⟨Om,?_⟩
            rw[show vis.length-1=i by omega]
            exact(if_neg hc).symm)
         |skip
    ·have hge: ¬i<vis.length:=by simpa using hlt
     have hz:z=if aV (vis.getD (vis.length-1) default).qk (vis.getD (vis.length-1) default).qt r.2.2.1 r.2.2.2=0 then 1 else 0:=hi2.elim (fun h=>absurd h.1 hge) (fun h=>h.2)
     by_cases hc:aV (vis.getD (vis.length-1) default).qk (vis.getD (vis.length-1) default).qt r.2.2.1 r.2.2.2=0
     ·obtain rfl:z=1:=hz.trans (if_pos hc)
      conv=>whnf
      repeat' first|((first|refine Sr ?_|refine Sg ?_|refine Ni ?_ ?_);conv=>whnf)
      all_goals first
         |exact Lf|exact⟨aB.refl _,trivial⟩
         |skip
     ·obtain rfl:z=0:=hz.trans (if_neg hc)
      have hf:=h.fin.resolve_left hc
      try obtain rfl:e=true:=hf.2
      conv=>whnf
      repeat' first|((first|refine Sr ?_|refine Sg ?_|refine Ni ?_ ?_);conv=>whnf)
      all_goals first
         |exact Lf|exact⟨aB.refl _,trivial⟩|exact absurd hf.1 (by decide)|exact absurd hf.2 (by decide)
         |skip
   all_goals first|exact⟨Int.le_refl _,by show(0:Int)<((1:Nat):Int);decide⟩|exact⟨Om,Om⟩
set_option maxHeartbeats 400000 in
theorem ajL{dn e:Bool}{k:List UInt8}{vis:List dL}{a:dQ}(hde:dn=true∧e=true)(ht:vJ dn k vis a)(h:Yw dn e k vis a (eU dn k)):Sc 153 [.agg (kR dn k),.d (ay dD 12 vis)] [] (.d (.int .i64 0)) []:=by
 have h1:=qA dn k h.Fa;have h2:=uf dn k h.Fa;have h3:=oG vis ⟨h.len,h.rows⟩;have h4:=qp dn k (aS vis).length;have h5:=ng dn k
 rw[lM (show aK (eU dn k)=false from ht.ne)]at h2
 rw[h.en]at h4
 generalize eU dn k=r at h h2
 have hl:=h.len
 have hps:=h.pos
 have hp0:=h.pt 0 h.pos
 have hpv: ∀i,i<vis.length->Sc 73 [.agg [.d (.str (vis.getD i default).pk),.d (.bool (vis.getD i default).pt)],.agg [.d (.str (oI vis a i).1),.d (.bool (oI vis a i).2)]] [] (.d (.int .i64 0)) []:=by
  intro i hi
  have h0:=dG (vis.getD i default).pk (vis.getD i default).pt (vis.getD i default).pk (vis.getD i default).pt
  rw[iH]at h0
  rw[<-h.pt i hi]
  exact h0
 have hst:dn=false∨e=false->oI vis a 0=(r.1,r.2.1):=h.st
 have hgz:decide ((vis.length:Int)>0)=true:=by simp;omega
 first
  |obtain rfl:=hde
  |obtain⟨rfl,rfl⟩:=hde
 refine Si (fn:=Tryz.f153) Tryz.call153 ?_
 conv=>whnf
 repeat' first|((first|refine Ci h1 ?_|refine Sr ?_|refine Sg ?_|refine Ni ?_ ?_);conv=>whnf)
 refine aA [1,2,4,5,19,20] [2] (fun i:Nat=>[(21,.d (.int .i64 i))]) (fun i=>[]) (fun i=>i<=vis.length) (fun i=>vis.length-i) 0 ?_ (fun i hi=> ?_) Om
 ·conv=>whnf
  repeat' first|((first|refine Sg ?_|refine Ni ?_ ?_);conv=>whnf)|(refine ah (fun _=> ?_) (fun _=> ?_)<;>(conv=>whnf))
  all_goals try first|exact Lq
 ·conv=>whnf
  refine ah (fun hlt=> ?_) (fun hlt=> ?_)
  ·have hlt0:i<vis.length:=by simpa using hlt
   have hf:=h.fit i hlt0
   have g1:=qV (V7 hf);have g2:=f_ (vis.getD i default).pk (vis.getD i default).pt (vis.getD i default).qk (vis.getD i default).qt;have g3:=yY ((vis.getD i default).pk,(vis.getD i default).pt,(vis.getD i default).qk,(vis.getD i default).qt) ((vis.getD i default).lk,(vis.getD i default).lt,(vis.getD i default).hk,(vis.getD i default).ht);rw[(rF hf).2]at g3;have g4:=tY (vis.getD i default).pk (vis.getD i default).pt (vis.getD i default).qk (vis.getD i default).qt (vis.getD i default).rows (by have:=V8 hf;omega);rw[show qj _ _=true from hf.inp]at g4
   rw[hf.pe]at g2
   have e4:(((vis.getD i default).rows.length:Int) !=((vis.getD i default).rows.length:Int))=false:=by simp
   have hw1:IntKind.i64.wrap ((i:Int)+1)=((i+1:Nat):Int):=wrap_succ (n:=1000) Om Om
   conv=>whnf
   repeat' first|((first|refine Ci g1 ?_|refine Ci g2 ?_|refine Ci g3 ?_|refine Ci g4 ?_|refine Sr ?_|refine aG.mk (i+1) ?_ ?_ ?_|refine Sg ?_|refine Ni ?_ ?_);conv=>whnf)
   all_goals first
    |exact Lf|exact aF.of_eq (by rw[hw1])
    |skip
  ·conv=>whnf
   repeat' first|((first|refine Ci h2 ?_|refine Ci h3 ?_|refine Ci h4 ?_|refine Ci h5 ?_|refine Sr ?_|refine Sg ?_|refine Ni ?_ ?_);conv=>whnf)
   all_goals try first|exact Lf
   refine aA [1,2,4,8,9,11,80,81] [2] (fun x:Nat×Int=>[(82,.d (.int .i64 x.1)),(10,.d (.int .i64 x.2))]) (fun x=>[(11,.box [.d (.str (oI vis a x.1).1),.d (.bool (oI vis a x.1).2)])])
    (fun x=>x.1<=vis.length∧((x.1<vis.length∧x.2=0)∨(x.1=vis.length∧x.2=if aV (vis.getD (vis.length-1) default).qk (vis.getD (vis.length-1) default).qt r.2.2.1 r.2.2.2=0 then 1 else 0))) (fun x=>vis.length-x.1) (0,0) ?_ (fun x hi=> ?_) ⟨Om,.inl ⟨Om,rfl⟩⟩
   ·conv=>whnf
    repeat' first|((first|refine Sg ?_|refine Ni ?_ ?_);conv=>whnf)|(refine ah (fun _=> ?_) (fun _=> ?_)<;>(conv=>whnf))
    all_goals try first|exact Lq
    all_goals first
     |exact aF.of_eq (congrArg (fun b:dQ=>D.bool b.2) (hst (by simp)).symm)
     |exact aF.of_eq (congrArg (fun b:dQ=>D.str b.1) (hst (by simp)).symm)
     |exact aF.of_eq (congrArg (fun b:dQ=>D.bool b.2) hp0)
     |exact aF.of_eq (congrArg (fun b:dQ=>D.str b.1) hp0)
     |skip
   ·obtain⟨i,z⟩:=x
    obtain⟨hi1,hi2⟩:=hi
    dsimp only at hi1 hi2
    conv=>whnf
    refine ah (fun hlt=> ?_) (fun hlt=> ?_)
    ·have hlt0:i<vis.length:=by simpa using hlt
     obtain rfl:z=0:=hi2.elim (fun h=>h.2) (fun h=>Om)
     have g1:=hpv i hlt0
     have g2:=dG (vis.getD i default).qk (vis.getD i default).qt r.2.2.1 r.2.2.2
     have hle:=h.le i hlt0
     have hw1:IntKind.i64.wrap ((i:Int)+1)=((i+1:Nat):Int):=wrap_succ (n:=1000) Om Om
     have c1:(aV (vis.getD i default).qk (vis.getD i default).qt r.2.2.1 r.2.2.2==1)=false:=by rw[beq_eq_false_iff_ne];omega
     have c3:decide (aV (vis.getD i default).qk (vis.getD i default).qt r.2.2.1 r.2.2.2>0)=false:=decide_eq_false Om
     by_cases hc:aV (vis.getD i default).qk (vis.getD i default).qt r.2.2.1 r.2.2.2=0
     ·have c2:(aV (vis.getD i default).qk (vis.getD i default).qt r.2.2.1 r.2.2.2==0)=true:=by rw[hc];rfl
      have hn:i+1=vis.length:=by
         rcases Nat.lt_or_ge (i+1) vis.length with hn|hn
         ·have:=h.lt i hn;omega
         ·omega
      conv=>whnf
      repeat' first|((first|refine Ci g1 ?_|refine Ci g2 ?_|refine Sr ?_|refine aG.mk ((i+1,1):Nat×Int) ?_ ?_ ?_|refine Sg ?_|refine Ni ?_ ?_);conv=>whnf)
      all_goals first
         |exact Lf|exact aF.of_eq (by rw[hw1])|exact⟨Int.le_refl _,by show(0:Int)<((1:Nat):Int);decide⟩|(refine⟨Om,.inr ⟨hn,?_⟩⟩;rw[<-hn];exact(if_pos hc).symm)
         |skip
     ·have c2:(aV (vis.getD i default).qk (vis.getD i default).qt r.2.2.1 r.2.2.2==0)=false:=by rw[beq_eq_false_iff_ne];exact hc
      conv=>whnf
      repeat' first|((first|refine Ci g1 ?_|refine Ci g2 ?_|refine Sr ?_|refine aG.mk ((i+1,0):Nat×Int) ?_ ?_ ?_|refine Sg ?_|refine Ni ?_ ?_);conv=>whnf)
      all_goals first
         |exact Lf|exact aF.of_eq (by rw[hw1])|exact⟨Int.le_refl _,by show(0:Int)<((1:Nat):Int);decide⟩
         |(refine⟨Om,?_⟩
           rcases Nat.lt_or_ge (i+1) vis.length with hn|hn
           ·exact .inl ⟨hn,rfl⟩
           ·refine .inr ⟨Om,?_⟩
            rw[show vis.length-1=i by omega]
            exact(if_neg hc).symm)
         |skip
    ·have hge: ¬i<vis.length:=by simpa using hlt
     have hz:z=if aV (vis.getD (vis.length-1) default).qk (vis.getD (vis.length-1) default).qt r.2.2.1 r.2.2.2=0 then 1 else 0:=hi2.elim (fun h=>absurd h.1 hge) (fun h=>h.2)
     by_cases hc:aV (vis.getD (vis.length-1) default).qk (vis.getD (vis.length-1) default).qt r.2.2.1 r.2.2.2=0
     ·obtain rfl:z=1:=hz.trans (if_pos hc)
      conv=>whnf
      repeat' first|((first|refine Sr ?_|refine Sg ?_|refine Ni ?_ ?_);conv=>whnf)
      all_goals first
         |exact Lf|exact⟨aB.refl _,trivial⟩
         |skip
     ·obtain rfl:z=0:=hz.trans (if_neg hc)
      have hf:=h.fin.resolve_left hc
      try obtain rfl:e=true:=hf.2
      conv=>whnf
      repeat' first|((first|refine Sr ?_|refine Sg ?_|refine Ni ?_ ?_);conv=>whnf)
      all_goals first
         |exact Lf|exact⟨aB.refl _,trivial⟩|exact absurd hf.1 (by decide)|exact absurd hf.2 (by decide)
         |skip
   all_goals first|exact⟨Int.le_refl _,by show(0:Int)<((1:Nat):Int);decide⟩|exact⟨Om,Om⟩
set_option maxHeartbeats 400000 in
theorem ajK{dn e:Bool}{k:List UInt8}{vis:List dL}{a:dQ}(hde:dn=true∧e=false)(ht:vJ dn k vis a)(h:Yw dn e k vis a (eU dn k)):Sc 153 [.agg (kR dn k),.d (ay dD 12 vis)] [] (.d (.int .i64 0)) []:=by
 have h1:=qA dn k h.Fa;have h2:=uf dn k h.Fa;have h3:=oG vis ⟨h.len,h.rows⟩;have h4:=qp dn k (aS vis).length;have h5:=ng dn k
 rw[lM (show aK (eU dn k)=false from ht.ne)]at h2
 rw[h.en]at h4
 generalize eU dn k=r at h h2
 have hl:=h.len
 have hps:=h.pos
 have hp0:=h.pt 0 h.pos
 have hpv: ∀i,i<vis.length->Sc 73 [.agg [.d (.str (vis.getD i default).pk),.d (.bool (vis.getD i default).pt)],.agg [.d (.str (oI vis a i).1),.d (.bool (oI vis a i).2)]] [] (.d (.int .i64 0)) []:=by
  intro i hi
  have h0:=dG (vis.getD i default).pk (vis.getD i default).pt (vis.getD i default).pk (vis.getD i default).pt
  rw[iH]at h0
  rw[<-h.pt i hi]
  exact h0
 have hst:dn=false∨e=false->oI vis a 0=(r.1,r.2.1):=h.st
 have hgz:decide ((vis.length:Int)>0)=true:=by simp;omega
 first
  |obtain rfl:=hde
  |obtain⟨rfl,rfl⟩:=hde
 refine Si (fn:=Tryz.f153) Tryz.call153 ?_
 conv=>whnf
 repeat' first|((first|refine Ci h1 ?_|refine Sr ?_|refine Sg ?_|refine Ni ?_ ?_);conv=>whnf)
 refine aA [1,2,4,5,19,20] [2] (fun i:Nat=>[(21,.d (.int .i64 i))]) (fun i=>[]) (fun i=>i<=vis.length) (fun i=>vis.length-i) 0 ?_ (fun i hi=> ?_) Om
 ·conv=>whnf
  repeat' first|((first|refine Sg ?_|refine Ni ?_ ?_);conv=>whnf)|(refine ah (fun _=> ?_) (fun _=> ?_)<;>(conv=>whnf))
  all_goals try first|exact Lq
 ·conv=>whnf
  refine ah (fun hlt=> ?_) (fun hlt=> ?_)
  ·have hlt0:i<vis.length:=by simpa using hlt
   have hf:=h.fit i hlt0
   have g1:=qV (V7 hf);have g2:=f_ (vis.getD i default).pk (vis.getD i default).pt (vis.getD i default).qk (vis.getD i default).qt;have g3:=yY ((vis.getD i default).pk,(vis.getD i default).pt,(vis.getD i default).qk,(vis.getD i default).qt) ((vis.getD i default).lk,(vis.getD i default).lt,(vis.getD i default).hk,(vis.getD i default).ht);rw[(rF hf).2]at g3;have g4:=tY (vis.getD i default).pk (vis.getD i default).pt (vis.getD i default).qk (vis.getD i default).qt (vis.getD i default).rows (by have:=V8 hf;omega);rw[show qj _ _=true from hf.inp]at g4
   rw[hf.pe]at g2
   have e4:(((vis.getD i default).rows.length:Int) !=((vis.getD i default).rows.length:Int))=false:=by simp
   have hw1:IntKind.i64.wrap ((i:Int)+1)=((i+1:Nat):Int):=wrap_succ (n:=1000) Om Om
   conv=>whnf
   repeat' first|((first|refine Ci g1 ?_|refine Ci g2 ?_|refine Ci g3 ?_|refine Ci g4 ?_|refine Sr ?_|refine aG.mk (i+1) ?_ ?_ ?_|refine Sg ?_|refine Ni ?_ ?_);conv=>whnf)
   all_goals first
    |exact Lf|exact aF.of_eq (by rw[hw1])
    |skip
  ·conv=>whnf
   repeat' first|((first|refine Ci h2 ?_|refine Ci h3 ?_|refine Ci h4 ?_|refine Ci h5 ?_|refine Sr ?_|refine Sg ?_|refine Ni ?_ ?_);conv=>whnf)
   all_goals try first|exact Lf
   refine aA [1,2,4,8,9,11,80,81] [2] (fun x:Nat×Int=>[(82,.d (.int .i64 x.1)),(10,.d (.int .i64 x.2))]) (fun x=>[(11,.box [.d (.str (oI vis a x.1).1),.d (.bool (oI vis a x.1).2)])])
    (fun x=>x.1<=vis.length∧((x.1<vis.length∧x.2=0)∨(x.1=vis.length∧x.2=if aV (vis.getD (vis.length-1) default).qk (vis.getD (vis.length-1) default).qt r.2.2.1 r.2.2.2=0 then 1 else 0))) (fun x=>vis.length-x.1) (0,0) ?_ (fun x hi=> ?_) ⟨Om,.inl ⟨Om,rfl⟩⟩
   ·conv=>whnf
    repeat' first|((first|refine Sg ?_|refine Ni ?_ ?_);conv=>whnf)|(refine ah (fun _=> ?_) (fun _=> ?_)<;>(conv=>whnf))
    all_goals try first|exact Lq
    all_goals first
     |exact aF.of_eq (congrArg (fun b:dQ=>D.bool b.2) (hst (by simp)).symm)
     |exact aF.of_eq (congrArg (fun b:dQ=>D.str b.1) (hst (by simp)).symm)
     |exact aF.of_eq (congrArg (fun b:dQ=>D.bool b.2) hp0)
     |exact aF.of_eq (congrArg (fun b:dQ=>D.str b.1) hp0)
     |skip
   ·obtain⟨i,z⟩:=x
    obtain⟨hi1,hi2⟩:=hi
    dsimp only at hi1 hi2
    conv=>whnf
    refine ah (fun hlt=> ?_) (fun hlt=> ?_)
    ·have hlt0:i<vis.length:=by simpa using hlt
     obtain rfl:z=0:=hi2.elim (fun h=>h.2) (fun h=>Om)
     have g1:=hpv i hlt0
     have g2:=dG (vis.getD i default).qk (vis.getD i default).qt r.2.2.1 r.2.2.2
     have hle:=h.le i hlt0
     have hw1:IntKind.i64.wrap ((i:Int)+1)=((i+1:Nat):Int):=wrap_succ (n:=1000) Om Om
     have c1:(aV (vis.getD i default).qk (vis.getD i default).qt r.2.2.1 r.2.2.2==1)=false:=by rw[beq_eq_false_iff_ne];omega
     have c3:decide (aV (vis.getD i default).qk (vis.getD i default).qt r.2.2.1 r.2.2.2>0)=false:=decide_eq_false Om
     by_cases hc:aV (vis.getD i default).qk (vis.getD i default).qt r.2.2.1 r.2.2.2=0
     ·have c2:(aV (vis.getD i default).qk (vis.getD i default).qt r.2.2.1 r.2.2.2==0)=true:=by rw[hc];rfl
      have hn:i+1=vis.length:=by
         rcases Nat.lt_or_ge (i+1) vis.length with hn|hn
         ·have:=h.lt i hn;omega
         ·omega
      conv=>whnf
      repeat' first|((first|refine Ci g1 ?_|refine Ci g2 ?_|refine Sr ?_|refine aG.mk ((i+1,1):Nat×Int) ?_ ?_ ?_|refine Sg ?_|refine Ni ?_ ?_);conv=>whnf)
      all_goals first
         |exact Lf|exact aF.of_eq (by rw[hw1])|exact⟨Int.le_refl _,by show(0:Int)<((1:Nat):Int);decide⟩|(refine⟨Om,.inr ⟨hn,?_⟩⟩;rw[<-hn];exact(if_pos hc).symm)
         |skip
     ·have c2:(aV (vis.getD i default).qk (vis.getD i default).qt r.2.2.1 r.2.2.2==0)=false:=by rw[beq_eq_false_iff_ne];exact hc
      conv=>whnf
      repeat' first|((first|refine Ci g1 ?_|refine Ci g2 ?_|refine Sr ?_|refine aG.mk ((i+1,0):Nat×Int) ?_ ?_ ?_|refine Sg ?_|refine Ni ?_ ?_);conv=>whnf)
      all_goals first
         |exact Lf|exact aF.of_eq (by rw[hw1])|exact⟨Int.le_refl _,by show(0:Int)<((1:Nat):Int);decide⟩
         |(refine⟨Om,?_⟩
           rcases Nat.lt_or_ge (i+1) vis.length with hn|hn
           ·exact .inl ⟨hn,rfl⟩
           ·refine .inr ⟨Om,?_⟩
            rw[show vis.length-1=i by omega]
            exact(if_neg hc).symm)
         |skip
    ·have hge: ¬i<vis.length:=by simpa using hlt
     have hz:z=if aV (vis.getD (vis.length-1) default).qk (vis.getD (vis.length-1) default).qt r.2.2.1 r.2.2.2=0 then 1 else 0:=hi2.elim (fun h=>absurd h.1 hge) (fun h=>h.2)
     by_cases hc:aV (vis.getD (vis.length-1) default).qk (vis.getD (vis.length-1) default).qt r.2.2.1 r.2.2.2=0
     ·obtain rfl:z=1:=hz.trans (if_pos hc)
      conv=>whnf
      repeat' first|((first|refine Sr ?_|refine Sg ?_|refine Ni ?_ ?_);conv=>whnf)
      all_goals first
         |exact Lf|exact⟨aB.refl _,trivial⟩
         |skip
     ·obtain rfl:z=0:=hz.trans (if_neg hc)
      have hf:=h.fin.resolve_left hc
      try obtain rfl:e=true:=hf.2
      conv=>whnf
      repeat' first|((first|refine Sr ?_|refine Sg ?_|refine Ni ?_ ?_);conv=>whnf)
      all_goals first
         |exact Lf|exact⟨aB.refl _,trivial⟩|exact absurd hf.1 (by decide)|exact absurd hf.2 (by decide)
         |skip
   all_goals first|exact⟨Int.le_refl _,by show(0:Int)<((1:Nat):Int);decide⟩|exact⟨Om,Om⟩
theorem aaq{dn:Bool}{k:List UInt8}{vis:List dL}{a:dQ}(ht:vJ dn k vis a):Sc 153 [.agg (kR dn k),.d (ay dD 12 vis)] [] (.d (.int .i64 0)) []:=by
 obtain⟨e,h⟩:=ajR ht
 cases dn
 ·exact ajM rfl ht h
 ·cases e
  ·exact ajK ⟨rfl,rfl⟩ ht h
  ·exact ajL ⟨rfl,rfl⟩ ht h
end Go.Proofs.YtgdgkekpfmhbbaaGreatDoor
