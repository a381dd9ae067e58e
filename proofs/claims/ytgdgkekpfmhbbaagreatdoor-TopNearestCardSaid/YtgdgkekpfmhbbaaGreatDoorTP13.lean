/- Contracts of functions that the law reaches: YtgdgkekpfmhbbaaGreatDoorTP13. Written for this claim. -/
import Derived.Test.YtgdgkekpfmhbbaaGreatDoorTP10
import Derived.Test.YtgdgkekpfmhbbaaGreatDoorSxInsr
import Derived.Test.YtgdgkekpfmhbbaaGreatDoorBase
namespace Go.Proofs.YtgdgkekpfmhbbaaGreatDoor
open Go Go.Sx Go.ChangeShapes Go.WideShapes Go.ChangeAt Go.RowKit
set_option linter.unusedVariables false
set_option linter.unusedSimpArgs false
set_option maxRecDepth 100000
abbrev EL:List Nat:=[72,147,152,7000000,3000000+22,9000000+384,2000000+382]
theorem akL:I8 Tryz.prog EL:=by
 refine⟨Kq,?_⟩
 intro T hT
 simp only[fP]at hT
 simp only[List.mem_cons,List.not_mem_nil,or_false]at hT
 rcases hT with rfl|rfl|rfl|rfl|rfl|rfl|rfl<;>exact⟨Kq,Kq⟩
theorem akl:afC Tryz.prog 384 3:=Go.Proofs.aep Tryz.in21
theorem aaE(nodes:List aj)(x:aj)(id:Int):nodes.length<=1000->Sc 383 [.d (.int .i64 id),.ptr 1000 0,.ptr 1001 0] [(1000,.box [.d (ay aZ 3 nodes)]),(1001,nV x)] (.d (.bool (OQ nodes x id))) [(1000,.box [.d (ay aZ 3 nodes)]),(1001,nV x)]:=by
 intro hl
 refine Si (fn:=Tryz.f383) Tryz.call383 ?_
 conv=>whnf
 repeat' first|((first|refine Cf (find_spec _ _) ?_ ?_|refine Sg ?_|refine Ni ?_ ?_);conv=>whnf)|(refine ah (fun _=> ?_) (fun _=> ?_)<;>(conv=>whnf))
 all_goals first|exact⟨aB.refl _,aI.refl _,aI.refl _,trivial⟩|exact hl
theorem UK(nodes:List aj)(x:aj)(xs:List Int):(nodes.length<=1000∧xs.length<=1000)->Sc 382 [.bW 1002 1 0 xs.length,.clo 383 [.ptr 1000 0,.ptr 1001 0]] [(1000,.box [.d (ay aZ 3 nodes)]),(1001,nV x),(1002,.row 3 1 xs.length (cellOf encZ xs))] (.d (.int .i64 (iP (OQ nodes x) xs 0)))
 [(1000,.box [.d (ay aZ 3 nodes)]),(1001,nV x),(1002,.row 3 1 xs.length (cellOf encZ xs))]:=by
 rintro⟨hn,hl⟩
 refine qZ (E:=EL) (fn:=Tryz.f382) akL Kq Kq Tryz.call382 Kq Kq ?_
 conv=>whnf
 repeat' first|((first|refine Sg ?_|refine Ni ?_ ?_);conv=>whnf)|(refine ah (fun _=> ?_) (fun _=> ?_)<;>(conv=>whnf))
 refine aA [0,0+1,6,7] [1000,1001,1002] (fun i:Nat=>[(8,.d (.int .i64 i))]) (fun _=>[]) (fun i=>i<=xs.length∧iP (OQ nodes x) xs 0=iP (OQ nodes x) (xs.drop i) i) (fun i=>xs.length-i) 0 ?_ (fun i hi=> ?_) ⟨Nat.zero_le _,by simp⟩
 ·conv=>whnf
  repeat' first|((first|refine Sg ?_|refine Ni ?_ ?_);conv=>whnf)|(refine ah (fun _=> ?_) (fun _=> ?_)<;>(conv=>whnf))
  all_goals try first|exact Lq
 ·obtain⟨h1,h2⟩:=hi
  have e1:i<xs.length->IntKind.i64.wrap ((i:Int)+1)=((i+1:Nat):Int):=fun h=>wrap_succ (n:=1000) Om Om
  conv=>whnf
  repeat' first|((first|refine iD (aaE nodes x (xs.getD (0+(i:Int).toNat) default)) Fl (Ni ?_ ?_)|refine aG.mk (i+1) ?_ ?_ ?_|refine Sg ?_|refine Ni ?_ ?_);conv=>whnf)|(refine ah (fun _=> ?_) (fun _=> ?_)<;>(conv=>whnf))
  all_goals try simp only[decide_eq_true_eq,decide_eq_false_iff_not,Int.toNat_natCast,Nat.zero_add]at*
  all_goals first
   |exact Lf|exact aF.of_eq (by rw[e1 Om])|exact⟨Om,Om⟩
   |(rw[h2,sK Om];exact aF.refl _)
   |(rw[h2,fV Om];simp_all;exact aF.refl _)
   |(refine⟨Om,?_⟩;rw[h2,fV Om];simp_all;done)
theorem abw(m k q:Nat)(h1:m≠k)(h2:m≠q)(h3:k≠q){nodes:List aj}{x:aj}(xs:List Int):(nodes.length<=1000∧xs.length<=1000)->Sc 382 [.bW q 1 0 xs.length,.clo 383 [.ptr m 0,.ptr k 0]] [(m,.box [.d (ay aZ 3 nodes)]),(k,nV x),(q,.row 3 1 xs.length (cellOf encZ xs))] (.d (.int .i64 (iP (OQ nodes x) xs 0)))
 [(m,.box [.d (ay aZ 3 nodes)]),(k,nV x),(q,.row 3 1 xs.length (cellOf encZ xs))]:=by
 intro h
 have h1:=(UK nodes x xs h).at3 m k q (by decide) (by decide) (by decide) h1 h2 h3
 simp only[qI,j_,lC,if_true,show¬(1001:Nat)=1000 by decide,show¬(1002:Nat)=1000 by decide,show¬(1002:Nat)=1001 by decide,if_false]at h1
 exact h1
theorem YV(m:Nat){nodes:List aj}{p:aO}:(wK nodes∧RH p)->Sc 261 [.d (ay aZ 3 nodes),sF p] [] (.bW m 1 0 (iG nodes p).length) [(m,.row 3 1 (iG nodes p).length (cellOf encZ (iG nodes p)))]:=fun h=>(aj2 nodes p h).new1 m
theorem wI{nodes:List aj}{id:Int}{x:aj}:(o9 nodes id=some x∧nodes.length<=1000)->Sc 71 [.d (ay aZ 3 nodes),.d (.int .i64 id)] [] (.cO [zF x,.d (.bool true)]) []:=fun h=>by
 have:=find_spec id nodes h.2
 rw[h.1]at this
 exact this
theorem Zy{nodes:List aj}{id:Int}:(o9 nodes id=none∧nodes.length<=1000)->Sc 71 [.d (ay aZ 3 nodes),.d (.int .i64 id)] [] (.cO [zF default,.d (.bool false)]) []:=fun h=>by
 have:=find_spec id nodes h.2
 rw[h.1]at this
 exact this
theorem pF{nodes:List aj}:wK nodes->Sc 15 [.d (ay aZ 3 nodes)] [] (.d (.int .i64 0)) []:=fun h=>by
 have hl:=h.Jh
 have:=sW nodes Om
 rw[oM.2 h.r]at this
 exact this
theorem row0{nodes:List aj}{p:aO}{x:aj}(hx:x∈nodes)(hid:x.id=p.id):(wK nodes∧RH p)->Sc 344 [.d (ay aZ 3 nodes),sF p] [] (.bW 2000 1 0 (jD nodes p).length) [(2000,.row 3 1 (jD nodes p).length (cellOf encZ (jD nodes p)))]:=by
 rintro⟨hS,hp⟩
 have hl:=hS.Jh
 have hfx:o9 nodes p.id=some x:=by rw[<-hid];exact BQ hS.r.ids hx
 have hrl:=ac8 (nodes:=nodes) (p:=p)
 refine qZ (E:=EL) (fn:=Tryz.f344) akL Kq Kq Tryz.call344 Kq Kq ?_
 conv=>whnf
 repeat' first|((first|refine iD (wI (x:=x)) Fl (Ni ?_ ?_)|refine Cf (pF) ?_ ?_|refine Cf (YV 3000) ?_ ?_|refine iD (abw _ _ _ (by decide) (by decide) (by decide) (iG nodes p)) Fl (Ni ?_ ?_)|refine Sg ?_|refine Ni ?_ ?_);conv=>whnf)
 ·refine GL [2,3,5,7] [2,3,5,3000] (fun k:Nat=>[(8,.d (.int .i64 k))]) (fun _=>[]) (fun k=>k<=(iG nodes p).length∧(∀j,j<k->OQ nodes x ((iG nodes p).getD j default)=false)∧(k<(iG nodes p).length->OQ nodes x ((iG nodes p).getD k default)=true)) (fun h1=> ?_) (fun h1=> ?_) ?_
  ·conv=>whnf
   repeat' first|((first|refine zu.mk (iG nodes p).length ?_ ?_|refine Sg ?_|refine Ni ?_ ?_);conv=>whnf)
   all_goals first
    |exact Lf
    |(rcases jk (p:=OQ nodes x) (xs:=iG nodes p) (f:=0)with⟨q1,q2⟩|⟨q,q1,_⟩
      ·exact⟨Nat.le_refl _,fun j hj=>List.any_eq_false.1 q2 _ (eF hj)|>fun h=>by simpa using h,fun h=>absurd h (Nat.lt_irrefl _)⟩
      ·rw[decide_eq_true_eq]at h1;omega)
  ·conv=>whnf
   repeat' first|((first|refine zu.mk (iP (OQ nodes x) (iG nodes p) 0).toNat ?_ ?_|refine Sg ?_|refine Ni ?_ ?_);conv=>whnf)
   all_goals first
    |exact Lf
    |(rcases jk (p:=OQ nodes x) (xs:=iG nodes p) (f:=0)with⟨q1,q2⟩|⟨q,q1,q2,q3,q4⟩
      ·rw[decide_eq_false_iff_not]at h1;omega
      ·refine aF.of_eq ?_;congr 1;omega)
    |(rcases jk (p:=OQ nodes x) (xs:=iG nodes p) (f:=0)with⟨q1,q2⟩|⟨q,q1,q2,q3,q4⟩
      ·rw[decide_eq_false_iff_not]at h1;omega
      ·have e:(iP (OQ nodes x) (iG nodes p) 0).toNat=q:=Om
       rw[e]
       exact⟨Om,q4,fun _=>q3⟩)
  ·rintro k ⟨h1,h2,h3⟩
   have he:=aiv hS.r hx hid h2 h1 h3
   have hlen:(jD nodes p).length=(iG nodes p).length+1:=by rw[<-he];simp;omega
   conv=>whnf
   repeat' first|((first|refine Sg ?_|refine Ni ?_ ?_);conv=>whnf)
   all_goals try simp only[hlen]
   all_goals first
    |exact Lf|exact⟨akl,Om,Om,trivial,Om⟩
    |(rw[Int.toNat_natCast,<-he];exact Zp h1 (by rw[he,hlen]))
    |(rw[Int.toNat_natCast,<-he];exact Zp h1 rfl)
 all_goals first|exact⟨Om,Om⟩|exact⟨hfx,Om⟩|exact⟨hS,hp⟩|exact hS
theorem aiw(m:Nat){nodes:List aj}{p:aO}:((∃x∈nodes,x.id=p.id)∧wK nodes∧RH p)->Sc 344 [.d (ay aZ 3 nodes),sF p] [] (.bW m 1 0 (jD nodes p).length) [(m,.row 3 1 (jD nodes p).length (cellOf encZ (jD nodes p)))]:=by
 rintro⟨⟨x,hx,hid⟩,h⟩
 exact(row0 hx hid h).new1 m
theorem ahN{nodes:List aj}{p:aO}:((∃x∈nodes,x.id=p.id)∧wK nodes∧RH p)->Sc 344 [.d (ay aZ 3 nodes),sF p] [] (.d (ay encZ 1 (jD nodes p))) []:=fun h=>(aiw 2000 h).Nu
theorem ag1{nodes:List aj}{p:aO}:((∃x∈nodes,x.id=p.id)∧wK nodes∧RH p)->Sc 259 [.d (ay aZ 3 nodes),sF p] [] (.d (ay aeM 2 (rV nodes p))) []:=by
 intro h
 have hl:=h.2.1.Jh
 have hrl:=Qc (nodes:=nodes) (p:=p)
 have cT:Tryz.prog.cellsOf 162=2:=Kq
 have bT:Tryz.prog.bytesOf 162=16:=Kq
 refine Si (fn:=Tryz.f259) Tryz.call259 ?_
 conv=>whnf
 repeat' first|((first|refine Cf (ahN) ?_ ?_|refine Sg ?_|refine Ni ?_ ?_);conv=>whnf)
 ·refine aA [3,6] [3] (fun x:Nat×List (Int×Int)=>[(7,.d (.int .i64 x.1)),(5,.bW 3000 2 0 x.2.length)]) (fun x=>[(3000,.row 162 2 x.2.length (cellOf aeM x.2))])
   (fun x=>(1<=x.1∧x.1<=(jD nodes p).length+1∧x.2.length<=2*x.1)∧x.2++(List.range' x.1 ((jD nodes p).length-x.1)).flatMap (fun i=>(qh (jD nodes p) i).filter fun x=>x.1 !=p.id)=rV nodes p) (fun x=>(jD nodes p).length+1-x.1) (1,[]) ?_ (fun x hx=> ?_) ⟨⟨Nat.le_refl _,by simp,by simp⟩,rfl⟩
  ·conv=>whnf
   repeat' first|((first|refine Sg ?_|refine Ni ?_ ?_);conv=>whnf)|(refine ah (fun _=> ?_) (fun _=> ?_)<;>(conv=>whnf))
   all_goals try first|exact Lq
   all_goals exact pO
  ·obtain⟨i,acc⟩:=x
   obtain⟨⟨hi,hi2,ha⟩,hf⟩:=hx
   simp only at hi hi2 ha hf
   have hs1:IntKind.i64.wrap ((i:Int)+1)=((i+1:Nat):Int):=wrap_succ (n:=1000) Om Om
   have hs2:IntKind.i64.wrap ((i:Int)-1)=((i-1:Nat):Int):=by rw[bQ Om Om];omega
   conv=>whnf
   refine ah (fun hlt=> ?_) (fun hlt=> ?_)
   ·have hlt0:i<(jD nodes p).length:=by simpa using hlt
    rw[show(jD nodes p).length-i=((jD nodes p).length-(i+1))+1 by omega,List.range'_succ,List.flatMap_cons]at hf
    conv=>whnf
    repeat' first|((first|refine Sg ?_|refine Ni ?_ ?_);conv=>whnf)
    ·refine aA [3,6,7,40] [3] (fun x:Nat×List (Int×Int)=>[(39,.d (ay aeM 2 (qh (jD nodes p) i))),(41,.d (.int .i64 x.1)),(5,.bW 3000 2 0 x.2.length)]) (fun x=>[(3000,.row 162 2 x.2.length (cellOf aeM x.2))])
      (fun x=>(x.1<=2∧x.2.length<=2*i+x.1)∧x.2++((qh (jD nodes p) i).drop x.1).filter (fun x=>x.1 !=p.id)=acc++(qh (jD nodes p) i).filter (fun x=>x.1 !=p.id)) (fun x=>2-x.1) (0,acc) ?_ (fun x hx=> ?_) ⟨⟨Nat.zero_le _,by simp only;omega⟩,rfl⟩
     ·conv=>whnf
      repeat' first|((first|refine Sg ?_|refine Ni ?_ ?_);conv=>whnf)|(refine ah (fun _=> ?_) (fun _=> ?_)<;>(conv=>whnf))
      all_goals try first|exact Lq
      all_goals first
       |(refine BX Kq rfl ?_
         refine⟨fun a b ha hb=> ?_⟩
         simp only[hs2,Int.toNat_natCast]
         match a,b,ha,hb with
         |0,0,_,_=>exact aF.refl _
         |0,1,_,_=>exact aF.refl _
         |1,0,_,_=>exact aF.refl _
         |1,1,_,_=>exact aF.refl _)
     ·obtain⟨j,bcc⟩:=x
      obtain⟨⟨hj,hb⟩,hg⟩:=hx
      simp only at hj hb hg
      have hs3:IntKind.i64.wrap ((j:Int)+1)=((j+1:Nat):Int):=wrap_succ (n:=1000) Om Om
      have hpl:(qh (jD nodes p) i).length=2:=rfl
      conv=>whnf
      refine ah (fun hjt=> ?_) (fun hjt=> ?_)
      ·have NH:j<(qh (jD nodes p) i).length:=by rw[hpl];rw[decide_eq_true_eq]at hjt;simp only at hjt;omega
       rw[Iu NH]at hg
       cases hq:(((qh (jD nodes p) i).getD j default).1 !=p.id)with
       |true=>
        rw[hq]at hg
        conv=>whnf
        repeat' first|((first|refine aG.mk (j+1,bcc++[(qh (jD nodes p) i).getD j default]) ?_ ?_ ?_|refine Sg ?_|refine Ni ?_ ?_);conv=>whnf)|(refine ah (fun _=> ?_) (fun _=> ?_)<;>(conv=>whnf))
        all_goals try simp only[Int.toNat_natCast,cT,bT,List.length_append,List.length_singleton]
        all_goals first|exact Lf|exact aF.of_eq (by rw[hs3])|exact⟨Om,Om⟩|exact⟨trivial,Om,Om⟩|exact dN rfl (aJ.refl _ _ _) (Cc (aF.of_eq rfl) (aF.of_eq rfl))|exact⟨⟨Om,Om⟩,by rw[<-hg];simp⟩
       |false=>
        rw[hq]at hg
        conv=>whnf
        repeat' first|((first|refine aG.mk (j+1,bcc) ?_ ?_ ?_|refine Sg ?_|refine Ni ?_ ?_);conv=>whnf)|(refine ah (fun _=> ?_) (fun _=> ?_)<;>(conv=>whnf))
        all_goals try simp only[Int.toNat_natCast,cT,bT]
        all_goals first|exact Lf|exact aF.of_eq (by rw[hs3])|exact⟨Om,Om⟩|exact⟨⟨Om,Om⟩,by rw[<-hg];simp⟩
      ·have NH:(qh (jD nodes p) i).length<=j:=by rw[hpl];rw[decide_eq_false_iff_not]at hjt;simp only at hjt;omega
       rw[List.drop_eq_nil_of_le NH]at hg
       conv=>whnf
       repeat' first|((first|refine aG.mk (i+1,bcc) ?_ ?_ ?_|refine Sg ?_|refine Ni ?_ ?_);conv=>whnf)|(refine ah (fun _=> ?_) (fun _=> ?_)<;>(conv=>whnf))
       all_goals first
           |exact Lf|exact aF.of_eq (by rw[hs1])
           |(refine⟨⟨by simp only;omega,by simp only;omega,by simp only;omega⟩,?_⟩
             have e:bcc=acc++(qh (jD nodes p) i).filter (fun x=>x.1 !=p.id):=by simpa using hg
             simp only
             rw[e,List.append_assoc]
             exact hf)
    all_goals try simp only[hs2]
    all_goals exact⟨Om,Om⟩
   ·have hlt0:(jD nodes p).length<=i:=by simpa using hlt
    rw[show(jD nodes p).length-i=0 by omega]at hf
    have e:acc=rV nodes p:=by rw[<-hf];simp
    subst e
    conv=>whnf
    repeat' first|((first|refine Sg ?_|refine Ni ?_ ?_);conv=>whnf)|(refine ah (fun _=> ?_) (fun _=> ?_)<;>(conv=>whnf))
    exact⟨aB.d (aF.rows rfl row_zero),trivial⟩
 ·exact h
abbrev Zk(x:iY):SV:= .agg [.d (.int .i64 x.left),.d (.int .i64 x.right)]
theorem akj{nodes:List aj}{p:aO}:((∃x∈nodes,x.id=p.id)∧wK nodes∧RH p)->Sc 260 [.d (ay aZ 3 nodes),sF p] [] (Zk (Io nodes p)) []:=by
 intro h
 have hl:=h.2.1.Jh
 have hrl:=Qc (nodes:=nodes) (p:=p)
 rcases jk (p:=fun y=>p.id==y) (xs:=jD nodes p) (f:=0)with⟨q1,q2⟩|⟨q,q1,q2,q3,q4⟩
 ·exact absurd (agv h.1) (fun hm=>by simpa using List.any_eq_false.1 q2 _ hm)
 ·rw[Nat.zero_add]at q1
  have hk:=agX q1
  have hs1:IntKind.i64.wrap ((q:Int)+1)=((q+1:Nat):Int):=wrap_succ (n:=1000) Om Om
  have hs2:0<q->IntKind.i64.wrap ((q:Int)-1)=((q-1:Nat):Int):=fun h=>by rw[bQ Om Om];omega
  refine Si (fn:=Tryz.f260) Tryz.call260 ?_
  conv=>whnf
  repeat' first|((first|refine Cf (ahN) ?_ ?_|refine Cf (OM _ _) ?_ ?_|refine Sg ?_|refine Ni ?_ ?_);conv=>whnf)|(refine ah (fun _=> ?_) (fun _=> ?_)<;>(conv=>whnf))
  all_goals try simp only[q1,hs1,decide_eq_true_eq,decide_eq_false_iff_not]at*
  all_goals try rw[hs2 Om]at*
  all_goals try simp only[Int.toNat_natCast]at*
  all_goals first
   |omega|exact h|exact⟨Om,Om⟩
   |(refine⟨aB.of_eq ?_,trivial⟩
     rw[hk]
     simp only[cellOf,encZ]
     first
      |(rw[if_pos Om,if_pos Om];done)
      |(rw[if_pos Om,if_neg Om];done)
      |(rw[if_neg Om,if_pos Om];done)
      |(rw[if_neg Om,if_neg Om];done)
      |(rw[if_pos Om,if_pos Om];rfl)
      |(rw[if_pos Om,if_neg Om];rfl)
      |(rw[if_neg Om,if_pos Om];rfl)
      |(rw[if_neg Om,if_neg Om];rfl))
   |(refine⟨aB.of_eq ?_,trivial⟩
     have e1: ¬0<q:=Om
     have e2: ¬q+1<(jD nodes p).length:=Om
     simp only[hk,if_neg e1,if_neg e2])
theorem Qx(x:aj)(p:aO):Sc 120 [sF p,.ptr 1000 0] [(1000,nV x)] (.d (.bool (p.id==x.id))) [(1000,nV x)]:=by
 refine Si (fn:=Tryz.f120) Tryz.call120 ?_
 conv=>whnf
 repeat' first|((first|refine Sg ?_|refine Ni ?_ ?_);conv=>whnf)|(refine ah (fun _=> ?_) (fun _=> ?_)<;>(conv=>whnf))
 exact⟨aB.refl _,aI.refl _,trivial⟩
theorem QS(x:aj)(xs:List aO):xs.length<=1000->Sc 119 [.d (ay lI 5 xs),.clo 120 [.ptr 1000 0]] [(1000,nV x)] (.d (.int .i64 (iP (fun p:aO=>p.id==x.id) xs 0))) [(1000,nV x)]:=by
 intro hl
 refine Si (fn:=Tryz.f119) Tryz.call119 ?_
 conv=>whnf
 repeat' first|((first|refine Sg ?_|refine Ni ?_ ?_);conv=>whnf)|(refine ah (fun _=> ?_) (fun _=> ?_)<;>(conv=>whnf))
 refine aA [0,0+1,6,7] [1000] (fun i:Nat=>[(8,.d (.int .i64 i))]) (fun _=>[]) (fun i=>i<=xs.length∧iP (fun p:aO=>p.id==x.id) xs 0=iP (fun p:aO=>p.id==x.id) (xs.drop i) i) (fun i=>xs.length-i) 0 ?_ (fun i hi=> ?_) ⟨Nat.zero_le _,by simp⟩
 ·conv=>whnf
  repeat' first|((first|refine Sg ?_|refine Ni ?_ ?_);conv=>whnf)|(refine ah (fun _=> ?_) (fun _=> ?_)<;>(conv=>whnf))
  all_goals try first|exact Lq
 ·obtain⟨h1,h2⟩:=hi
  have e1:i<xs.length->IntKind.i64.wrap ((i:Int)+1)=((i+1:Nat):Int):=fun h=>wrap_succ (n:=1000) Om Om
  conv=>whnf
  repeat' first|((first|refine oN (Qx _ (xs.getD (i:Int).toNat default)) ?_ Fl|refine aG.mk (i+1) ?_ ?_ ?_|refine Sg ?_|refine Ni ?_ ?_);conv=>whnf)|(refine ah (fun _=> ?_) (fun _=> ?_)<;>(conv=>whnf))
  all_goals try simp only[decide_eq_true_eq,decide_eq_false_iff_not,Int.toNat_natCast]at*
  all_goals first
   |exact trivial|exact aF.refl _|omega|exact aF.of_eq (by rw[e1 Om])|(refine⟨aB.of_eq ?_,aI.refl _,trivial⟩;rw[h2,sK Om])|(refine⟨aB.of_eq ?_,aI.refl _,trivial⟩;rw[h2,fV Om];simp_all;done)|(refine⟨Om,?_⟩;rw[h2,fV Om];simp_all;done)
   |(have hq:=‹_=true›;refine⟨aB.of_eq ?_,aI.refl _,trivial⟩;rw[h2,fV Om];simp_all;done)
theorem XG(m:Nat)(x:aj)(xs:List aO)(h:xs.length<=1000):Sc 119 [.d (ay lI 5 xs),.clo 120 [.ptr m 0]] [(m,nV x)] (.d (.int .i64 (iP (fun p:aO=>p.id==x.id) xs 0))) [(m,nV x)]:=(QS x xs h).at m
theorem Y7{nodes:List aj}{ps:List aO}:(wK nodes∧um ps)->Sc 63 [.d (ay aZ 3 nodes),.d (ay lI 5 ps)] [] (.bW 2000 5 0 nodes.length)
 [(2000,.dP 900000 114 5 nodes.length (qQ (dB nodes ps))),(900000,.fam (2*nodes.length) (qo 3 152 (dB nodes ps)))]:=by
 rintro⟨hS,hP⟩
 have hl:=hS.Jh
 have hsl:=eY nodes
 have hpl:=hP.len
 have cP:Tryz.prog.cellsOf 114=5:=Kq
 have bP:Tryz.prog.bytesOf 114=72:=Kq
 have cZ:Tryz.prog.cellsOf 3=1:=Kq
 have cR:Tryz.prog.cellsOf 152=4:=Kq
 refine rZ (E:=EE) (fn:=Tryz.f63) AZ Kq Kq Tryz.call63 Kq Kq Kq ?_
 conv=>whnf
 repeat' first|((first|refine Cf (pF) ?_ ?_|refine Cf (wM) ?_ ?_|refine Sg ?_|refine Ni ?_ ?_);conv=>whnf)
 ·refine aA [0,0+1,14,15] [] (fun x:Nat×List aO=>[(16,.d (.int .i64 x.1)),(5,.bW 2000 5 0 x.1)]) (fun x=>[(2000,.dP 900000 114 5 x.1 (qQ x.2)),(900000,.fam (2*x.1) (qo 3 152 x.2))])
   (fun x=>x.1<=(aH nodes).length∧x.2=((aH nodes).take x.1).map (jr ps)) (fun x=>(aH nodes).length-x.1) (0,[]) ?_ (fun x hx=> ?_) ⟨Nat.zero_le _,rfl⟩
  ·conv=>whnf
   repeat' first|((first|refine Sg ?_|refine Ni ?_ ?_);conv=>whnf)|(refine ah (fun _=> ?_) (fun _=> ?_)<;>(conv=>whnf))
   all_goals try first|exact Lq
   all_goals exact G8
  ·obtain⟨i,acc⟩:=x
   obtain⟨hi,ha⟩:=hx
   simp only at hi ha
   have hs:i<(aH nodes).length->IntKind.i64.wrap ((i:Int)+1)=((i+1:Nat):Int):=fun h=>wrap_succ (n:=1000) Om Om
   conv=>whnf
   refine ah (fun hlt=> ?_) (fun hlt=> ?_)
   ·have hlt0:i<(aH nodes).length:=by simpa using hlt
    have hsi:=hs hlt0
    have hlen:acc.length=i:=by rw[ha,List.length_map,List.length_take];omega
    have hz:(iP (fun p:aO=>p.id==((aH nodes).getD i default).id) ps 0= -1∧jr ps ((aH nodes).getD i default)=⟨((aH nodes).getD i default).id,[],0,0,[]⟩)∨∃k,iP (fun p:aO=>p.id==((aH nodes).getD i default).id) ps 0=((k:Nat):Int)∧k<ps.length∧jr ps ((aH nodes).getD i default)=ps.getD k default:=by
     rcases U0 (ps:=ps) (id:=((aH nodes).getD i default).id)with⟨q1,q2⟩|⟨k,q1,q2,q3⟩
     ·exact .inl ⟨q1,by simp only[jr,q2];rfl⟩
     ·exact .inr ⟨k,q1,q2,by simp only[jr,q3];rfl⟩
    have hzB:=Uj hP (x:=(aH nodes).getD i default)
    have hzk:=hzB.known
    have hzn:=hzB.near
    conv=>whnf
    repeat' first|((first|refine Cf (XG _ _ _) ?_ ?_|refine Sg ?_|refine Ni ?_ ?_);conv=>whnf)
    ·refine GL [0,0+1,14,15,16,5,7,8] [2000,900000,7] (fun z:aO=>[]) (fun z=>[(8,.box [.d (.int .i64 z.id),.bW 3001 1 0 z.known.length,.d (.int .i64 z.left),.d (.int .i64 z.right),.bW 3002 4 0 z.near.length]),(3001,.row 3 1 z.known.length (cellOf encZ z.known)),(3002,.row 152 4 z.near.length (cellOf encR z.near))])
      (fun z=>z=jr ps ((aH nodes).getD i default)) (fun h1=> ?_) (fun h1=> ?_) ?_
     ·rw[decide_eq_true_eq]at h1
      simp only[Int.toNat_natCast]at h1
      obtain⟨k,q1,q2,q3⟩:=hz.resolve_left (fun h=>Om)
      rw[q3]at hzk hzn
      conv=>whnf
      repeat' first|((first|refine Cf (Ph 4001) ?_ ?_|refine Cf (Yb 4002) ?_ ?_|refine zu.mk (jr ps ((aH nodes).getD i default)) ?_ ?_|refine Sg ?_|refine Ni ?_ ?_);conv=>whnf)
      all_goals try simp only[Int.toNat_natCast,q1,q3]
      all_goals first|exact Lf|exact⟨Om,Om⟩
     ·rw[decide_eq_false_iff_not]at h1
      simp only[Int.toNat_natCast]at h1
      obtain⟨q1,q3⟩:=hz.resolve_right (by rintro⟨k,q1,_⟩;omega)
      conv=>whnf
      repeat' first|((first|refine zu.mk (jr ps ((aH nodes).getD i default)) ?_ ?_|refine Sg ?_|refine Ni ?_ ?_);conv=>whnf)
      all_goals try simp only[Int.toNat_natCast,q3,List.length_nil]
      all_goals first|exact Lf|exact pO
     ·rintro z rfl
      have hmap:acc++[jr ps ((aH nodes).getD i default)]=((aH nodes).take (i+1)).map (jr ps):=by
       rw[take_snoc hlt0,List.map_append,ha];rfl
      conv=>whnf
      repeat' first|((first|refine aG.mk (i+1,acc++[jr ps ((aH nodes).getD i default)]) ?_ ?_ ?_|refine Sg ?_|refine Ni ?_ ?_);conv=>whnf)|(refine ah (fun _=> ?_) (fun _=> ?_)<;>(conv=>whnf))
      all_goals try simp only[cP,bP]
      all_goals first|exact Lf|exact aF.of_eq (by rw[hsi])|exact⟨trivial,Om,Om⟩|exact⟨Om,hmap⟩|exact DT Om rfl rfl (aJ.refl _ _ _) (aJ.refl _ _ _)|exact DN hlen.symm rfl rfl rfl rfl rfl rfl rfl
    all_goals first|omega|exact⟨by simp only;omega,by simp only;omega⟩
   ·have hlt0:(aH nodes).length<=i:=by simpa using hlt
    have e:acc=dB nodes ps:=by rw[ha,vY hlt0];rfl
    have e2:i=nodes.length:=Om
    subst e e2
    conv=>whnf
    repeat' first|((first|refine Sg ?_|refine Ni ?_ ?_);conv=>whnf)|(refine ah (fun _=> ?_) (fun _=> ?_)<;>(conv=>whnf))
    all_goals first|exact Lf
 all_goals first|exact⟨hS.r,hl⟩|exact hS
theorem ET{nodes:List aj}{ps:List aO}:(wK nodes∧um ps)->Sc 63 [.d (ay aZ 3 nodes),.d (ay lI 5 ps)] [] (.d (ay lI 5 (dB nodes ps))) []:=fun h=>by
 have hlen:=jg (nodes:=nodes) (ps:=ps)
 have:=Spec.yO (l9:=[]) (pre:=[]) (m:=2000) (fn:=900000) (Y7 h) rfl (fun i j hi hj=>(oK (by rw[hlen];exact hi) hj).1) (by simp) (by simp[pV,Nat.beq_refl,dO])
 simp only[pV,Nat.beq_refl]at this
 refine this.res (aB.d (aF.rows hlen.symm ⟨fun i j hi hj=> ?_⟩)) (by simp[dO])
 rw[Nat.zero_add]
 exact(oK hi hj).2
end Go.Proofs.YtgdgkekpfmhbbaaGreatDoor
