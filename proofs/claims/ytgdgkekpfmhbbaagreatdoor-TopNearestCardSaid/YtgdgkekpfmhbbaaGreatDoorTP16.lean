/- Contracts of functions that the law reaches: YtgdgkekpfmhbbaaGreatDoorTP16. Written for this claim. -/
import Derived.Test.YtgdgkekpfmhbbaaGreatDoorTP31
import Derived.Test.YtgdgkekpfmhbbaaGreatDoorSxInsr
namespace Go.Proofs.YtgdgkekpfmhbbaaGreatDoor
open Go Go.Sx Go.ChangeShapes Go.WideShapes Go.ChangeAt Go.RowKit
set_option linter.unusedVariables false
set_option linter.unusedSimpArgs false
set_option maxRecDepth 100000
theorem uP(nodes:List aj)(id own:Int):nodes.length<=1000->Sc 158 [.d (ay aZ 3 nodes),.d (.int .i64 id),.d (.int .i64 own)] [] (.d (.int .i64 (yR nodes id own))) []:=by
 intro hl
 cases hf:o9 nodes id with
 |none=>
  refine Si (fn:=Tryz.f158) Tryz.call158 ?_
  conv=>whnf
  repeat' first|((first|refine Cf (Zy) ?_ ?_|refine Sg ?_|refine Ni ?_ ?_);conv=>whnf)|(refine ah (fun _=> ?_) (fun _=> ?_)<;>(conv=>whnf))
  all_goals first|exact⟨hf,hl⟩|(refine⟨aB.of_eq ?_,trivial⟩;simp[yR,hf])
 |some x=>
  refine Si (fn:=Tryz.f158) Tryz.call158 ?_
  conv=>whnf
  repeat' first|((first|refine iD (wI (x:=x)) Fl (Ni ?_ ?_)|refine Sg ?_|refine Ni ?_ ?_);conv=>whnf)|(refine ah (fun _=> ?_) (fun _=> ?_)<;>(conv=>whnf))
  all_goals first|exact⟨hf,hl⟩|(refine⟨aB.of_eq ?_,trivial⟩;simp_all[yR])
theorem aaQ(nodes:List aj)(own nb:Int)(lv:Nat)(zero one:Int):(wK nodes∧lv<16)->Sc 348 [.d (ay aZ 3 nodes),.d (.int .i64 own),.d (.int .i64 nb),.d (.int .i64 lv),.d (.int .i64 zero),.d (.int .i64 one)] [] (.cO [.d (.int .i64 (EO nodes own nb lv zero one).1),.d (.int .i64 (EO nodes own nb lv zero one).2)]) []:=by
 rintro⟨hS,h16⟩
 have hl:=hS.Jh
 cases hf:o9 nodes nb with
 |none=>
  refine Si (fn:=Tryz.f348) Tryz.call348 ?_
  conv=>whnf
  repeat' first|((first|refine Cf (Zy) ?_ ?_|refine Sg ?_|refine Ni ?_ ?_);conv=>whnf)|(refine ah (fun _=> ?_) (fun _=> ?_)<;>(conv=>whnf))
  all_goals first
   |exact⟨hf,Om⟩
   |(simp only[EO,hf];exact⟨aB.refl _,trivial⟩)
 |some x=>
  have hw:=hS.wd x (aeH hf).1
  have hb:=L_ x.word (lv:Int)
  rw[if_pos Om]at hb
  simp only[Int.toNat_natCast]at hb
  refine Si (fn:=Tryz.f348) Tryz.call348 ?_
  conv=>whnf
  repeat' first|((first|refine iD (wI (x:=x)) Fl (Ni ?_ ?_)|refine Cf (hb) ?_ ?_|refine Cf (uP _ _ _) ?_ ?_|refine Sg ?_|refine Ni ?_ ?_);conv=>whnf)
  ·refine ah (fun hh=> ?_) (fun hh=> ?_)
   ·have hh0:Mc x.word lv=0:=by have:=eq_of_beq hh;omega
    conv=>whnf
    repeat' first|((first|refine Cf (uP _ _ _) ?_ ?_|refine Sg ?_|refine Ni ?_ ?_);conv=>whnf)
    all_goals first
     |omega
     |(simp only[EO,hf,hh0,if_true];exact⟨aB.refl _,trivial⟩)
   ·have hh0: ¬Mc x.word lv=0:=by intro e;rw[e]at hh;cases hh
    conv=>whnf
    repeat' first|((first|refine Cf (uP _ _ _) ?_ ?_|refine Sg ?_|refine Ni ?_ ?_);conv=>whnf)
    all_goals first
     |omega
     |(simp only[EO,hf,if_neg hh0];exact⟨aB.refl _,trivial⟩)
  all_goals first|exact⟨hf,Om⟩|exact hw
theorem OB(nodes:List aj)(p:aO)(lv:Nat):((∃x∈nodes,x.id=p.id)∧wK nodes∧RH p∧lv<=16)->Sc 84 [.d (ay aZ 3 nodes),sF p,.d (.int .i64 lv)] [] (Zk (nP nodes p lv)) []:=by
 rintro⟨⟨x,hx,hid⟩,hS,hP,h16⟩
 have hl:=hS.Jh
 have hnl:=hP.near
 have hfx:o9 nodes p.id=some x:=by rw[<-hid];exact BQ hS.r.ids hx
 have hw:=hS.wd x hx
 have hwd:acr nodes p.id=x.word:=by simp[acr,hfx]
 have hs:0<lv->IntKind.i64.wrap ((lv:Int)-1)=((lv-1:Nat):Int):=fun h=>by rw[bQ Om Om];omega
 have cl: ∀{q:Prop},lv<0->q:=fun h=>absurd h Om
 by_cases hlt:p.near.length<lv
 ·have hL:nP nodes p lv=⟨0,0⟩:=by simp only[nP,if_pos hlt]
  rw[hL]
  refine Si (fn:=Tryz.f84) Tryz.call84 ?_
  conv=>whnf
  repeat' first|((first|refine iD (wI (x:=x)) Fl (Ni ?_ ?_)|refine Cf (pF) ?_ ?_|refine Sg ?_|refine Ni ?_ ?_);conv=>whnf)|(refine ah (fun _=> ?_) (fun _=> ?_)<;>(conv=>whnf))
  all_goals try simp only[decide_eq_true_eq,decide_eq_false_iff_not]at*
  all_goals first|omega|exact⟨aB.refl _,trivial⟩|exact⟨hfx,Om⟩|exact hS
 ·have hL:nP nodes p lv=⟨yR nodes (Md nodes p lv).left p.id,yR nodes (Md nodes p lv).right p.id⟩:=by simp only[nP,if_neg hlt]
  rw[hL]
  rcases Nat.eq_zero_or_pos lv with h0|h0
  ·subst h0
   have hB:Md nodes p 0=⟨p.left,p.right⟩:=rfl
   rw[hB]
   refine Si (fn:=Tryz.f84) Tryz.call84 ?_
   conv=>whnf
   repeat' first|((first|refine iD (wI (x:=x)) Fl (Ni ?_ ?_)|refine Cf (pF) ?_ ?_|refine Cf (uP _ _ _) ?_ ?_|refine Sg ?_|refine Ni ?_ ?_);conv=>whnf)|(refine ah (fun _=> ?_) (fun _=> ?_)<;>(conv=>whnf))
   all_goals try simp only[decide_eq_true_eq,decide_eq_false_iff_not]at*
   all_goals first|omega|exact⟨aB.refl _,trivial⟩|exact⟨hfx,Om⟩|exact hS
  ·have hsi:=hs h0
   have hb:=L_ x.word ((lv-1:Nat):Int)
   rw[if_pos Om]at hb
   simp only[Int.toNat_natCast]at hb
   rw[<-hsi]at hb
   have hB:Md nodes p lv=if Mc x.word (lv-1)=1 then⟨(p.near.getD (lv-1) default).l1,(p.near.getD (lv-1) default).r1⟩else⟨(p.near.getD (lv-1) default).l0,(p.near.getD (lv-1) default).r0⟩:=by simp only[Md,if_neg (show¬lv=0 by omega),hwd]
   refine Si (fn:=Tryz.f84) Tryz.call84 ?_
   conv=>whnf
   repeat' first|((first|refine iD (wI (x:=x)) Fl (Ni ?_ ?_)|refine Cf (pF) ?_ ?_|refine Cf (hb) ?_ ?_|refine Cf (uP _ _ _) ?_ ?_|refine Sg ?_|refine Ni ?_ ?_);conv=>whnf)|(refine ah (fun _=> ?_) (fun _=> ?_)<;>(conv=>whnf))
   all_goals try simp only[decide_eq_true_eq,decide_eq_false_iff_not,beq_iff_eq,beq_eq_false_iff_ne,hsi,Int.toNat_natCast]at*
   all_goals first
    |omega|exact⟨aB.refl _,trivial⟩|exact⟨hfx,Om⟩|exact hS|exact hw|exact⟨Om,Om⟩
    |(rw[hB,if_pos Om];exact⟨aB.refl _,trivial⟩)
    |(rw[hB,if_neg Om];exact⟨aB.refl _,trivial⟩)
theorem afo(id:Int)(p:aO):Sc 387 [sF p,.ptr 1000 0] [(1000,.box [.d (.int .i64 id)])] (.d (.bool (p.id==id))) [(1000,.box [.d (.int .i64 id)])]:=by
 refine Si (fn:=Tryz.f387) Tryz.call387 ?_
 conv=>whnf
 repeat' first|((first|refine Sg ?_|refine Ni ?_ ?_);conv=>whnf)|(refine ah (fun _=> ?_) (fun _=> ?_)<;>(conv=>whnf))
 exact⟨aB.refl _,aI.refl _,trivial⟩
theorem XK(id:Int)(xs:List aO):xs.length<=1000->Sc 119 [.d (ay lI 5 xs),.clo 387 [.ptr 1000 0]] [(1000,.box [.d (.int .i64 id)])] (.d (.int .i64 (iP (fun p:aO=>p.id==id) xs 0))) [(1000,.box [.d (.int .i64 id)])]:=by
 intro hl
 refine Si (fn:=Tryz.f119) Tryz.call119 ?_
 conv=>whnf
 repeat' first|((first|refine Sg ?_|refine Ni ?_ ?_);conv=>whnf)|(refine ah (fun _=> ?_) (fun _=> ?_)<;>(conv=>whnf))
 refine aA [0,0+1,6,7] [1000] (fun i:Nat=>[(8,.d (.int .i64 i))]) (fun _=>[]) (fun i=>i<=xs.length∧iP (fun p:aO=>p.id==id) xs 0=iP (fun p:aO=>p.id==id) (xs.drop i) i) (fun i=>xs.length-i) 0 ?_ (fun i hi=> ?_) ⟨Nat.zero_le _,by simp⟩
 ·conv=>whnf
  repeat' first|((first|refine Sg ?_|refine Ni ?_ ?_);conv=>whnf)|(refine ah (fun _=> ?_) (fun _=> ?_)<;>(conv=>whnf))
  all_goals try first|exact Lq
 ·obtain⟨h1,h2⟩:=hi
  have e1:i<xs.length->IntKind.i64.wrap ((i:Int)+1)=((i+1:Nat):Int):=fun h=>wrap_succ (n:=1000) Om Om
  conv=>whnf
  repeat' first|((first|refine oN (afo _ (xs.getD (i:Int).toNat default)) ?_ Fl|refine aG.mk (i+1) ?_ ?_ ?_|refine Sg ?_|refine Ni ?_ ?_);conv=>whnf)|(refine ah (fun _=> ?_) (fun _=> ?_)<;>(conv=>whnf))
  all_goals try simp only[decide_eq_true_eq,decide_eq_false_iff_not,Int.toNat_natCast]at*
  all_goals first
   |exact trivial|exact aF.refl _|omega|exact aF.of_eq (by rw[e1 Om])|(refine⟨aB.of_eq ?_,aI.refl _,trivial⟩;rw[h2,sK Om])|(refine⟨aB.of_eq ?_,aI.refl _,trivial⟩;rw[h2,fV Om];simp_all;done)|(refine⟨Om,?_⟩;rw[h2,fV Om];simp_all;done)
   |(have hq:=‹_=true›;refine⟨aB.of_eq ?_,aI.refl _,trivial⟩;rw[h2,fV Om];simp_all;done)
theorem UM(m:Nat)(id:Int)(xs:List aO)(h:xs.length<=1000):Sc 119 [.d (ay lI 5 xs),.clo 387 [.ptr m 0]] [(m,.box [.d (.int .i64 id)])] (.d (.int .i64 (iP (fun p:aO=>p.id==id) xs 0))) [(m,.box [.d (.int .i64 id)])]:=(XK id xs h).at m
theorem aeB{α:Type}[Inhabited α]{xs:List α}{i:Nat}(h:xs.length<=i):xs.getD i default=default:=by
 simp[List.getD,List.getElem?_eq_none h]
theorem ahz(ps:List aO)(id:Int)(lv:Nat):(um ps∧lv<=16)->Sc 347 [.d (ay lI 5 ps),.d (.int .i64 id),.d (.int .i64 lv)] [] (adP (atF ps id lv)) []:=by
 rintro⟨hP,h16⟩
 have hpl:=hP.len
 rcases U0 (ps:=ps) (id:=id)with⟨q1,q2⟩|⟨k,q1,q2,q3⟩
 ·have hat:atF ps id lv=default:=by simp only[atF,q2];rfl
  refine Si (fn:=Tryz.f347) Tryz.call347 ?_
  conv=>whnf
  repeat' first|((first|refine Cf (UM _ _ _) ?_ ?_|refine Sg ?_|refine Ni ?_ ?_);conv=>whnf)|(refine ah (fun _=> ?_) (fun _=> ?_)<;>(conv=>whnf))
  all_goals try simp only[q1,decide_eq_true_eq,decide_eq_false_iff_not]at*
  all_goals first
   |omega
   |(rw[hat];exact⟨aB.refl _,trivial⟩)
 ·have hB:=(hP.at q2).near
  have hat:atF ps id lv=(ps.getD k default).near.getD lv default:=by simp only[atF,q3];rfl
  refine Si (fn:=Tryz.f347) Tryz.call347 ?_
  conv=>whnf
  repeat' first|((first|refine Cf (UM _ _ _) ?_ ?_|refine Sg ?_|refine Ni ?_ ?_);conv=>whnf)|(refine ah (fun _=> ?_) (fun _=> ?_)<;>(conv=>whnf))
  all_goals try simp only[q1,decide_eq_true_eq,decide_eq_false_iff_not,Int.toNat_natCast]at*
  all_goals first
   |omega|exact⟨Om,Om⟩
   |(rw[hat,aeB Om];exact⟨aB.refl _,trivial⟩)
   |(rw[hat];exact⟨aB.refl _,trivial⟩)
theorem agi{n:Nat}:aJ n 4 (fun _ j=>[D.int .i64 0,D.int .i64 0,D.int .i64 0,D.int .i64 0].getD j default) (cellOf encR (List.replicate n default)):=by
 refine .of_eq fun i j hi hj=> ?_
 have e:(List.replicate n (default:kH)).getD i default=default:=by simp[List.getD,hi]
 simp only[cellOf,e];rfl
theorem acX{α:Type}[Inhabited α]{f:Nat->α}{h lv:Nat}{L:List α}(hl:lv<h)(hL:L.length=h)(hf:L=(List.range lv).map f++List.replicate (h-lv) default):
 L.set lv (f lv)=(List.range (lv+1)).map f++List.replicate (h-(lv+1)) default:=by
 rw[hf,List.set_append_right _ _ (by simp)]
 simp only[List.length_map,List.length_range,Nat.sub_self]
 rw[show h-lv=(h-(lv+1))+1 by omega,List.replicate_succ,List.set_cons_zero,List.range_succ,List.map_append]
 simp
theorem ajp{nodes:List aj}{ps:List aO}{p:aO}{h:Nat}:((∃x∈nodes,x.id=p.id)∧wK nodes∧um ps∧RH p∧h<=16)->Sc 262 [.d (ay aZ 3 nodes),.d (ay lI 5 ps),sF p,.d (.int .i64 h)] [] (.bW 2000 4 0 h) [(2000,.row 152 4 h (cellOf encR (CZ nodes ps p h)))]:=by
 rintro⟨hx,hS,hPs,hP,h16⟩
 have cR:Tryz.prog.cellsOf 152=4:=Kq
 have bR:Tryz.prog.bytesOf 152=32:=Kq
 refine Si (fn:=Tryz.f262) Tryz.call262 ?_
 conv=>whnf
 repeat' first|((first|refine Sg ?_|refine Ni ?_ ?_);conv=>whnf)
 ·refine aA [0,0+1,6,17] [6] (fun x:Nat×List kH=>[(18,.d (.int .i64 x.1)),(9,.bW 2000 4 0 h)]) (fun x=>[(2000,.row 152 4 h (cellOf encR x.2))])
   (fun x=>(x.1<=h∧x.2.length=h)∧x.2=(List.range x.1).map (Xi nodes ps p)++List.replicate (h-x.1) default) (fun x=>h-x.1) (0,List.replicate h default) ?_ (fun x hx=> ?_) ⟨⟨Nat.zero_le _,by simp⟩,by simp⟩
  ·conv=>whnf
   repeat' first|((first|refine Sg ?_|refine Ni ?_ ?_);conv=>whnf)|(refine ah (fun _=> ?_) (fun _=> ?_)<;>(conv=>whnf))
   all_goals try first|exact Lq
   all_goals exact agi
  ·obtain⟨lv,L⟩:=x
   obtain⟨⟨hi,hL⟩,hf⟩:=hx
   simp only at hi hL hf
   have hs:lv<h->IntKind.i64.wrap ((lv:Int)+1)=((lv+1:Nat):Int):=fun h=>wrap_succ (n:=1000) Om Om
   conv=>whnf
   refine ah (fun hlt=> ?_) (fun hlt=> ?_)
   ·have hlt0:lv<h:=by simpa using hlt
    have hsi:=hs hlt0
    conv=>whnf
    repeat' first|((first|refine Cf (OB _ _ _) ?_ ?_|refine Cf (ahz _ _ _) ?_ ?_|refine Cf (aaQ _ _ _ _ _ _) ?_ ?_|refine aG.mk (lv+1,L.set lv (Xi nodes ps p lv)) ?_ ?_ ?_|refine Sg ?_|refine Ni ?_ ?_);conv=>whnf)
    all_goals try simp only[Int.toNat_natCast,Nat.zero_add,hsi]
    all_goals first
     |exact Lf|exact⟨hS,Om⟩|exact⟨hPs,Om⟩|exact⟨hx,hS,hP,Om⟩|exact⟨Om,Om⟩|exact⟨⟨Om,by rw[List.length_set];exact hL⟩,acX hlt0 hL hf⟩
     |(refine .of_eq fun i j hi' hj=> ?_
       simp only[cellOf,rP (show lv<L.length by omega)]
       by_cases e:i=lv
       ·subst e
        simp only[if_true]
        match j,hj with
        |0,_=>rfl
        |1,_=>rfl
        |2,_=>rfl
        |3,_=>rfl
       ·simp only[if_neg e])
   ·have hlt0:h<=lv:=by simpa using hlt
    have e:lv=h:=Om
    subst e
    have e:L=CZ nodes ps p lv:=by rw[hf];simp[CZ]
    subst e
    conv=>whnf
    repeat' first|((first|refine Sg ?_|refine Ni ?_ ?_);conv=>whnf)
    all_goals first|exact Lf
 all_goals exact⟨Om,Om,by rw[bR];omega,Om⟩
theorem afk(m:Nat){nodes:List aj}{ps:List aO}{p:aO}{h:Nat}:((∃x∈nodes,x.id=p.id)∧wK nodes∧um ps∧RH p∧h<=16)->Sc 262 [.d (ay aZ 3 nodes),.d (ay lI 5 ps),sF p,.d (.int .i64 h)] [] (.bW m 4 0 h) [(m,.row 152 4 h (cellOf encR (CZ nodes ps p h)))]:=fun h=>(ajp h).new1 m
theorem KA{nodes:List aj}{ps:List aO}: ∀p∈dB nodes ps,∃x∈nodes,x.id=p.id:=by
 intro p hp
 obtain⟨x,hx,rfl⟩:=List.mem_map.1 hp
 refine⟨x,kN.1 hx,?_⟩
 unfold jr
 cases e:ps.find? (fun p=>p.id==x.id)with
 |none=>rfl
 |some q=>have:=List.find?_some e;simp only[beq_iff_eq]at this;exact this.symm
theorem ahy{nodes:List aj}{ps:List aO}{h:Nat}:(wK nodes∧um ps∧h<=16)->Sc 160 [.d (ay aZ 3 nodes),.d (ay lI 5 ps),.d (.int .i64 h)] [] (.bW 2000 5 0 nodes.length)
 [(2000,.dP 900000 114 5 nodes.length (qQ (oC nodes ps h))),(900000,.fam (2*nodes.length) (qo 3 152 (oC nodes ps h)))]:=by
 rintro⟨hS,hP,h16⟩
 have hl:=hS.Jh
 have hlen:=jg (nodes:=nodes) (ps:=ps)
 have hNB:=EU (nodes:=nodes) hP Om
 have hmem:=KA (nodes:=nodes) (ps:=ps)
 have cP:Tryz.prog.cellsOf 114=5:=Kq
 have bP:Tryz.prog.bytesOf 114=72:=Kq
 have hdef:oC nodes ps h=(dB nodes ps).map (Bj nodes (dB nodes ps) h):=rfl
 have hg1:decide ((h:Int)<0)=false:=by simp
 have hg2:decide ((h:Int)>16)=false:=by simp;omega
 refine rZ (E:=EE) (fn:=Tryz.f160) AZ Kq Kq Tryz.call160 Kq Kq Kq ?_
 conv=>whnf
 repeat' first|((first|refine Cf (ET) ?_ ?_|refine Sg ?_|refine Ni ?_ ?_);conv=>whnf)
 ·generalize hold:dB nodes ps=old at*
  refine aA [0,0+1+1,7,20,21] [] (fun x:Nat×List aO=>[(22,.d (.int .i64 x.1)),(8,.bW 2000 5 0 x.1)]) (fun x=>[(2000,.dP 900000 114 5 x.1 (qQ x.2)),(900000,.fam (2*x.1) (qo 3 152 x.2))])
   (fun x=>x.1<=old.length∧x.2=(old.take x.1).map (Bj nodes old h)) (fun x=>old.length-x.1) (0,[]) ?_ (fun x hx=> ?_) ⟨Nat.zero_le _,rfl⟩
  ·conv=>whnf
   repeat' first|((first|refine Sg ?_|refine Ni ?_ ?_);conv=>whnf)|(refine ah (fun _=> ?_) (fun _=> ?_)<;>(conv=>whnf))
   all_goals try first|exact Lq
   all_goals exact G8
  ·obtain⟨i,acc⟩:=x
   obtain⟨hi,ha⟩:=hx
   simp only at hi ha
   have hs:i<old.length->IntKind.i64.wrap ((i:Int)+1)=((i+1:Nat):Int):=fun h=>wrap_succ (n:=1000) Om Om
   conv=>whnf
   refine ah (fun hlt=> ?_) (fun hlt=> ?_)
   ·have hlt0:i<old.length:=by simpa using hlt
    have hsi:=hs hlt0
    have hpm:=hmem _ (eF hlt0)
    have hpB:=hNB.at hlt0
    have hpk:=hpB.known
    have hla:acc.length=i:=by rw[ha,List.length_map,List.length_take];omega
    obtain⟨z,hz⟩: ∃z,z=Bj nodes old h (old.getD i default):=⟨_,rfl⟩
    obtain⟨N,hN⟩: ∃N,N=CZ nodes old (old.getD i default) h:=⟨_,rfl⟩
    have hNl:N.length=h:=by rw[hN];exact Uk
    have hz1:z.id=(old.getD i default).id:=by rw[hz];rfl
    have hz2:z.left=(old.getD i default).left:=by rw[hz];rfl
    have hz3:z.right=(old.getD i default).right:=by rw[hz];rfl
    have hz4:z.near=N:=by rw[hz,hN];rfl
    have hz5:z.known=(old.getD i default).known:=by rw[hz];rfl
    have hzn:z.near.length=h:=by rw[hz4];exact hNl
    have htk:(old.take (i+1)).map (Bj nodes old h)=acc++[z]:=by rw[take_snoc hlt0,List.map_append,hz,ha];rfl
    have hnsp:Sc 262 [.d (ay aZ 3 nodes),.d (ay lI 5 old),sF (old.getD (i:Int).toNat default),.d (.int .i64 h)] [] (.bW 4002 4 0 h) [(4002,.row 152 4 h (cellOf encR N))]:=by rw[hN];exact afk 4002 ⟨hpm,hS,hNB,hpB,h16⟩
    conv=>whnf
    repeat' first|((first|refine Ci hnsp ?_|refine Cf (Ph 4001) ?_ ?_|refine aG.mk (i+1,acc++[z]) ?_ ?_ ?_|refine Sg ?_|refine Ni ?_ ?_);conv=>whnf)
    all_goals try simp only[cP,bP,Int.toNat_natCast,hsi]
    all_goals first|exact Lf|exact⟨trivial,Om,Om⟩|exact⟨Om,Om⟩|exact⟨Om,htk.symm⟩|exact DT Om (by rw[hz5]) hzn.symm (by rw[hz5];exact aJ.refl _ _ _) (by rw[hz4];exact aJ.refl _ _ _)|exact DN hla.symm rfl rfl (by rw[hz5]) hzn.symm (by rw[hz1];rfl) (by rw[hz2];rfl) (by rw[hz3];rfl)
   ·have hlt0:old.length<=i:=by simpa using hlt
    have e:acc=oC nodes ps h:=by rw[ha,vY hlt0,hdef]
    have e2:i=nodes.length:=Om
    subst e e2
    conv=>whnf
    repeat' first|((first|refine Sg ?_|refine Ni ?_ ?_);conv=>whnf)
    all_goals first|exact Lf|exact jo.refl _ _ _|exact gy.refl _
 all_goals exact⟨hS,hP⟩
theorem Yt{nodes:List aj}{ps:List aO}{h:Nat}:(oC nodes ps h).length=nodes.length:=by rw[oC,List.length_map,jg]
theorem afm{nodes:List aj}{ps:List aO}{h:Nat}:(wK nodes∧um ps∧h<=16)->Sc 160 [.d (ay aZ 3 nodes),.d (ay lI 5 ps),.d (.int .i64 h)] [] (.d (ay lI 5 (oC nodes ps h))) []:=fun hh=>by
 have hlen:=Yt (nodes:=nodes) (ps:=ps) (h:=h)
 have:=Spec.yO (l9:=[]) (pre:=[]) (m:=2000) (fn:=900000) (ahy hh) rfl (fun i j hi hj=>(oK (by rw[hlen];exact hi) hj).1) (by simp) (by simp[pV,Nat.beq_refl,dO])
 simp only[pV,Nat.beq_refl]at this
 refine this.res (aB.d (aF.rows hlen.symm ⟨fun i j hi hj=> ?_⟩)) (by simp[dO])
 rw[Nat.zero_add]
 exact(oK hi hj).2
theorem abm{nodes:List aj}{ps:List aO}{h:Nat}:(Az nodes ps h).length=nodes.length:=by rw[Az,List.length_map,jg]
theorem Us{nodes:List aj}{ps:List aO}{h:Nat}:(wK nodes∧um ps∧h<=16)->Sc 34 [.d (ay aZ 3 nodes),.d (ay lI 5 ps),.d (.int .i64 h)] [] (.bW 2000 2 0 nodes.length)
 [(2000,.dP 900000 187 2 nodes.length (Fg (Az nodes ps h))),(900000,.fam nodes.length (Dj 147 (Az nodes ps h)))]:=by
 rintro⟨hS,hP,h16⟩
 have hl:=hS.Jh
 have hlen:=jg (nodes:=nodes) (ps:=ps)
 have hNB:=EU (nodes:=nodes) hP Om
 have hmem:=KA (nodes:=nodes) (ps:=ps)
 have cP:Tryz.prog.cellsOf 187=2:=Kq
 have bP:Tryz.prog.bytesOf 187=32:=Kq
 have cK:Tryz.prog.cellsOf 147=2:=Kq
 have bK:Tryz.prog.bytesOf 147=16:=Kq
 have hdef:Az nodes ps h=(dB nodes ps).map (E8 nodes h):=rfl
 have hg1:decide ((h:Int)<0)=false:=by simp
 have hg2:decide ((h:Int)>16)=false:=by simp;omega
 have hw1:IntKind.i64.wrap ((h:Int)+1)=((h+1:Nat):Int):=wrap_succ (n:=1000) Om Om
 refine rZ (E:=EE) (fn:=Tryz.f34) AZ Kq Kq Tryz.call34 Kq Kq Kq ?_
 conv=>whnf
 repeat' first|((first|refine Cf (ET) ?_ ?_|refine Sg ?_|refine Ni ?_ ?_);conv=>whnf)
 ·generalize hold:dB nodes ps=old at*
  refine aA [0,0+1+1,20,21] [] (fun x:Nat×List mG=>[(22,.d (.int .i64 x.1)),(7,.bW 2000 2 0 x.1)]) (fun x=>[(2000,.dP 900000 187 2 x.1 (Fg x.2)),(900000,.fam x.1 (Dj 147 x.2))])
   (fun x=>x.1<=old.length∧x.2=(old.take x.1).map (E8 nodes h)) (fun x=>old.length-x.1) (0,[]) ?_ (fun x hx=> ?_) ⟨Nat.zero_le _,rfl⟩
  ·conv=>whnf
   repeat' first|((first|refine Sg ?_|refine Ni ?_ ?_);conv=>whnf)|(refine ah (fun _=> ?_) (fun _=> ?_)<;>(conv=>whnf))
   all_goals try first|exact Lq
   all_goals exact abJ
  ·obtain⟨i,acc⟩:=x
   obtain⟨hi,ha⟩:=hx
   simp only at hi ha
   have hs:i<old.length->IntKind.i64.wrap ((i:Int)+1)=((i+1:Nat):Int):=fun h=>wrap_succ (n:=1000) Om Om
   conv=>whnf
   refine ah (fun hlt=> ?_) (fun hlt=> ?_)
   ·have hlt0:i<old.length:=by simpa using hlt
    have hsi:=hs hlt0
    have hpm:=hmem _ (eF hlt0)
    have hpB:=hNB.at hlt0
    have hla:acc.length=i:=by rw[ha,List.length_map,List.length_take];omega
    obtain⟨z,hz⟩: ∃z,z=E8 nodes h (old.getD i default):=⟨_,rfl⟩
    have hz1:z.id=(old.getD i default).id:=by rw[hz];rfl
    have hz2:z.levels=(List.range (h+1)).map (nP nodes (old.getD i default)):=by rw[hz];rfl
    have htk:(old.take (i+1)).map (E8 nodes h)=acc++[z]:=by rw[take_snoc hlt0,List.map_append,hz,ha];rfl
    conv=>whnf
    repeat' first|((first|refine Sg ?_|refine Ni ?_ ?_);conv=>whnf)
    ·refine aA [0,0+1+1,20,21,22,7,9,10,30] [2000,900000,9] (fun x:Nat×List iY=>[(31,.d (.int .i64 x.1))]) (fun x=>[(10,.box [.d (.int .i64 z.id),.bW 3001 2 0 x.2.length]),(3001,.row 147 2 x.2.length (cellOf sV x.2))])
      (fun x=>(x.1<=h+1∧x.2.length=x.1)∧x.2=(List.range x.1).map (nP nodes (old.getD i default))) (fun x=>h+1-x.1) (0,[]) ?_ (fun x hx=> ?_) ⟨⟨Nat.zero_le _,rfl⟩,rfl⟩
     ·conv=>whnf
      repeat' first|((first|refine Sg ?_|refine Ni ?_ ?_);conv=>whnf)|(refine ah (fun _=> ?_) (fun _=> ?_)<;>(conv=>whnf))
      all_goals try first|exact Lq
      all_goals first|exact pO|exact aF.of_eq (by rw[hz1];rfl)
     ·obtain⟨lv,L⟩:=x
      obtain⟨⟨hlv,hLl⟩,hf⟩:=hx
      simp only at hlv hLl hf
      have hs2:lv<h+1->IntKind.i64.wrap ((lv:Int)+1)=((lv+1:Nat):Int):=fun h=>wrap_succ (n:=1000) Om Om
      conv=>whnf
      refine ah (fun hjt=> ?_) (fun hjt=> ?_)
      ·have NH:lv<h+1:=by rw[hw1,decide_eq_true_eq]at hjt;simp only at hjt;omega
       have hsj:=hs2 NH
       obtain⟨y,hy⟩: ∃y,y=nP nodes (old.getD i default) lv:=⟨_,rfl⟩
       have hfn:L++[y]=(List.range (lv+1)).map (nP nodes (old.getD i default)):=by rw[List.range_succ,List.map_append,<-hf,hy];rfl
       have hlsp:Sc 84 [.d (ay aZ 3 nodes),sF (old.getD (i:Int).toNat default),.d (.int .i64 lv)] [] (Zk y) []:=by rw[hy];exact OB _ _ _ ⟨hpm,hS,hpB,Om⟩
       conv=>whnf
       repeat' first|((first|refine Ci hlsp ?_|refine aG.mk (lv+1,L++[y]) ?_ ?_ ?_|refine Sg ?_|refine Ni ?_ ?_);conv=>whnf)
       all_goals try simp only[cK,bK,Int.toNat_natCast,hsj,List.length_append,List.length_singleton]
       all_goals first|exact Lf|exact⟨trivial,Om,Om⟩|exact⟨Om,Om⟩|exact⟨⟨Om,Om⟩,hfn⟩|exact dN rfl (aJ.refl _ _ _) (Cc (aF.of_eq rfl) (aF.of_eq rfl))
      ·have NH:h+1<=lv:=by rw[hw1,decide_eq_false_iff_not]at hjt;simp only at hjt;omega
       have e2:lv=h+1:=Om
       subst e2
       have e3:L=z.levels:=by rw[hf,hz2]
       subst e3
       conv=>whnf
       repeat' first|((first|refine aG.mk (i+1,acc++[z]) ?_ ?_ ?_|refine Sg ?_|refine Ni ?_ ?_);conv=>whnf)
       all_goals try simp only[cP,bP,Int.toNat_natCast,hsi]
       all_goals first|exact Lf|exact⟨trivial,Om,Om⟩|exact⟨Om,Om⟩|exact⟨Om,htk.symm⟩|exact XU hla.symm rfl (aJ.refl _ _ _)|exact XQ hla.symm rfl rfl rfl
    ·exact⟨by simp only;omega,by simp only;omega⟩
   ·have hlt0:old.length<=i:=by simpa using hlt
    have e:acc=Az nodes ps h:=by rw[ha,vY hlt0,hdef]
    have e2:i=nodes.length:=Om
    subst e e2
    conv=>whnf
    repeat' first|((first|refine Sg ?_|refine Ni ?_ ?_);conv=>whnf)
    all_goals first|exact Lf|exact jo.refl _ _ _|exact gy.refl _
 all_goals exact⟨hS,hP⟩
theorem agU{nodes:List aj}{ps:List aO}{h:Nat}:(wK nodes∧um ps∧h<=16)->Sc 34 [.d (ay aZ 3 nodes),.d (ay lI 5 ps),.d (.int .i64 h)] [] (.d (ay zH 2 (Az nodes ps h))) []:=fun hh=>by
 have hlen:=abm (nodes:=nodes) (ps:=ps) (h:=h)
 have:=Spec.yO (l9:=[]) (pre:=[]) (m:=2000) (fn:=900000) (Us hh) rfl (fun i j hi hj=>(Lj (by rw[hlen];exact hi) hj).1) (by simp) (by simp[pV,Nat.beq_refl,dO])
 simp only[pV,Nat.beq_refl]at this
 refine this.res (aB.d (aF.rows hlen.symm ⟨fun i j hi hj=> ?_⟩)) (by simp[dO])
 rw[Nat.zero_add]
 exact(Lj hi hj).2
theorem agr{nodes:List aj}{ps:List aO}{h:Nat}:(wK nodes∧um ps∧h<=16)-> ∃x:Nat×(Nat->Option fM)×(Nat->Nat),zL x.2.1 x.1 3 x.2.2 (nG nodes ps h)∧
 Sc 85 [.d (ay aZ 3 nodes),.d (ay lI 5 ps),.d (.int .i64 h)] [] (.bW 2000 5 0 nodes.length) [(2000,.dP 900000 114 5 nodes.length (gG x.2.2 (nG nodes ps h))),(900000,.fam x.1 x.2.1)]:=by
 rintro⟨hS,hP,h16⟩
 have hl:=hS.Jh
 have hlin:=Zl (nodes:=nodes) (ps:=ps)
 have hrr:=Qi (nodes:=nodes) (ps:=ps) (h:=h)
 have hbr:=ajr (nodes:=nodes) (ps:=ps) (h:=h)
 obtain⟨⟨nk,rows,key⟩,hN,hsp⟩:=abn ⟨hS,hP⟩
 refine⟨⟨nk,rows,key⟩,hN.congr (by rw[hlin,hrr]) (fun _=>ada),?_⟩
 have hget:=fun i=>adb (nodes:=nodes) (ps:=ps) (h:=h) (i:=i)
 have hbsp:=afm (nodes:=nodes) (ps:=ps) (h:=h) ⟨hS,hP,h16⟩
 generalize nG nodes ps h=R at*
 generalize jV nodes ps=L at*
 generalize oC nodes ps h=B at*
 have hg1:decide ((h:Int)<0)=false:=by simp
 have hg2:decide ((h:Int)>16)=false:=by simp;omega
 refine Si (fn:=Tryz.f85) Tryz.call85 ?_
 conv=>whnf
 repeat' first|((first|refine Ci hsp ?_|refine Ci hbsp ?_|refine Sg ?_|refine Ni ?_ ?_);conv=>whnf)
 refine aA [22,23] [900000] (fun i:Nat=>[(24,.d (.int .i64 i)),(7,.bW 2000 5 0 nodes.length)]) (fun i=>[(2000,.dP 900000 114 5 nodes.length (gG key (KH L R i)))])
  (fun i=>i<=nodes.length) (fun i=>nodes.length-i) 0 ?_ (fun i hi=> ?_) (Nat.zero_le _)
 ·conv=>whnf
  repeat' first|((first|refine Sg ?_|refine Ni ?_ ?_);conv=>whnf)|(refine ah (fun _=> ?_) (fun _=> ?_)<;>(conv=>whnf))
  all_goals try first|exact Lq
  all_goals exact by rw[aa9];exact jo.refl _ _ _
 ·have hs:i<nodes.length->IntKind.i64.wrap ((i:Int)+1)=((i+1:Nat):Int):=fun h=>wrap_succ (n:=1000) Om Om
  conv=>whnf
  refine ah (fun hlt=> ?_) (fun hlt=> ?_)
  ·have hlt0:i<nodes.length:=by rw[decide_eq_true_eq]at hlt;simp only[hbr]at hlt;omega
   have hsi:=hs hlt0
   conv=>whnf
   repeat' first|((first|refine aG.mk (i+1) ?_ ?_ ?_|refine Sg ?_|refine Ni ?_ ?_);conv=>whnf)
   all_goals try simp only[Int.toNat_natCast,hsi,Nat.zero_add]
   all_goals first
    |exact Lf|exact⟨Om,Om⟩
    |(rw[<-hlin];exact adU (by rw[hlin,hrr]) Om (by rw[hget i hlt0]) (aF.of_eq (by rw[hget i hlt0];rfl)))
  ·have hlt0:nodes.length<=i:=by rw[decide_eq_false_iff_not]at hlt;simp only[hbr]at hlt;omega
   have e2:i=nodes.length:=Om
   subst e2
   rw[<-hlin,adV (by rw[hlin,hrr])]
   conv=>whnf
   repeat' first|((first|refine Sg ?_|refine Ni ?_ ?_);conv=>whnf)
   all_goals first|exact Lf|exact jo.refl _ _ _
abbrev ER:List Nat:=(8000000+85)::EE
theorem eokR:I8 Tryz.prog ER:=by
 refine⟨Kq,?_⟩
 intro T hT
 rw[fP,List.mem_cons]at hT
 rcases hT with rfl|hT
 ·exact⟨Kq,Kq⟩
 ·exact AZ.2 T (fP.2 hT)
def ZU(nodes:List aj)(ps:List aO)(h i:Nat)(nk:Nat)(rows:Nat->Option fM)(get:Nat->Nat->FC):Prop:=
 (i=0->nk=2*nodes.length∧rows=qo 3 152 (dB nodes ps)∧get=qQ (dB nodes ps))∧
 (0<i-> ∃key,get=gG key (Gs nodes h i (dB nodes ps))∧zL rows nk 3 key (Gs nodes h i (dB nodes ps)))
theorem Jc{nodes:List aj}{ps:List aO}{h i:Nat}:(Gs nodes h i (dB nodes ps)).length=nodes.length:=by
 cases i with
 |zero=>exact jg
 |succ i=>exact Qi
theorem ajY{nodes:List aj}{ps:List aO}{h i:Nat}(hP:um ps)(hn:nodes.length<=1000)(hh:h<=1000):um (Gs nodes h i (dB nodes ps)):=by
 cases i with
 |zero=>exact EU hP hn
 |succ i=>exact rRB hn hh
theorem ZU.cells{nodes:List aj}{ps:List aO}{h i nk:Nat}{rows:Nat->Option fM}{get:Nat->Nat->FC}(hr:ZU nodes ps h i nk rows get){a b:Nat}(ha:a<nodes.length)(hb:b<5):
 Z9 rows (get a b)∧aF (Lh rows (get a b)) (cellOf lI (Gs nodes h i (dB nodes ps)) a b):=by
 rcases Nat.eq_zero_or_pos i with h0|h0
 ·obtain⟨_,rfl,rfl⟩:=hr.1 h0
  subst h0
  exact oK (by rw[jg];exact ha) hb
 ·obtain⟨key,rfl,hN⟩:=hr.2 h0
  exact Ql hN (by rw[Jc];exact ha) hb
set_option maxHeartbeats 1000000 in
theorem run0{nodes:List aj}{ps:List aO}{h n:Nat}:(wK nodes∧um ps∧h<=16∧n<=4096)-> ∃x:Nat×(Nat->Option fM)×(Nat->Nat->FC),ZU nodes ps h n x.1 x.2.1 x.2.2∧
 Sc 35 [.d (ay aZ 3 nodes),.d (ay lI 5 ps),.d (.int .i64 h),.d (.int .i64 n)] [] (.bW 2000 5 0 nodes.length) [(2000,.dP 900000 114 5 nodes.length x.2.2),(900000,.fam x.1 x.2.1)]:=by
 rintro⟨hS,hP,h16,hn⟩
 have hl:=hS.Jh
 have hg1:decide ((h:Int)<0)=false:=by simp
 have hg2:decide ((h:Int)>16)=false:=by simp;omega
 have hm:(if 0>(if(4096:Int)<n then(4096:Int)else n)then(0:Int)else(if(4096:Int)<n then(4096:Int)else n))=(n:Int):=by
  rw[if_neg (show¬(4096:Int)<n by omega),if_neg (show¬(0:Int)>n by omega)]
 refine dZ (E:=ER) (fn:=Tryz.f35) _ _ _ true eokR Kq Kq Tryz.call35 Kq (fun _=>by kernel_rfl) (fun _=>by kernel_rfl) ?_
 conv=>whnf
 repeat' first|((first|refine Cf (Y7) ?_ ?_|refine Sg ?_|refine Ni ?_ ?_);conv=>whnf)
 ·refine aA [0,0+1+1,21] [] (fun x:Nat×Nat×(Nat->Option fM)×(Nat->Nat->FC)=>[(22,.d (.int .i64 x.1)),(9,.bW 2000 5 0 nodes.length)]) (fun x=>[(2000,.dP 900000 114 5 nodes.length x.2.2.2),(900000,.fam x.2.1 x.2.2.1)])
   (fun x=>x.1<=n∧ZU nodes ps h x.1 x.2.1 x.2.2.1 x.2.2.2) (fun x=>n-x.1) (0,2*nodes.length,qo 3 152 (dB nodes ps),qQ (dB nodes ps)) ?_ (fun x hx=> ?_) ⟨Nat.zero_le _,fun _=>⟨rfl,rfl,rfl⟩,fun h=>absurd h (Nat.lt_irrefl 0)⟩
  ·conv=>whnf
   repeat' first|((first|refine Sg ?_|refine Ni ?_ ?_);conv=>whnf)|(refine ah (fun _=> ?_) (fun _=> ?_)<;>(conv=>whnf))
   all_goals try first|exact Lq
  ·obtain⟨i,nk,rows,get⟩:=x
   obtain⟨hi,hR⟩:=hx
   simp only at hi hR
   have hs:i<n->IntKind.i64.wrap ((i:Int)+1)=((i+1:Nat):Int):=fun h=>wrap_succ (n:=10000) Om Om
   conv=>whnf
   refine ah (fun hlt=> ?_) (fun hlt=> ?_)
   ·have hlt0:i<n:=by rw[decide_eq_true_eq]at hlt;simp only at hlt;rw[hm]at hlt;omega
    have hsi:=hs hlt0
    obtain⟨⟨yw,rows',key'⟩,hN',hsp'⟩:=agr (ps:=Gs nodes h i (dB nodes ps)) ⟨hS,ajY hP Om Om,h16⟩
    have hsp2:=hsp'.new2 3000 900001 (by decide) (by decide)
    simp only[qI,j_,lC,if_true,show¬(900000:Nat)=2000 by decide,if_false]at hsp2
    have hle:aI [.d (ay aZ 3 nodes),.d (.list nodes.length 5 fun a b=>Lh rows (get (0+a) b)),.d (.int .i64 h)] [.d (ay aZ 3 nodes),.d (ay lI 5 (Gs nodes h i (dB nodes ps))),.d (.int .i64 h)]:=
     aI.cons (aB.refl _) (aI.cons (aB.d (aF.rows Jc.symm ⟨fun a b ha hb=>by rw[Nat.zero_add];exact(hR.cells (by rw[Jc]at ha;exact ha) hb).2⟩)) (aI.cons (aB.refl _) aI.nil))
    conv=>whnf
    repeat' first|((first|refine Ci (hsp2.arg hle) ?_|refine aG.mk (i+1,yw,rows',gG key' (nG nodes (Gs nodes h i (dB nodes ps)) h)) ?_ ?_ ?_|refine Sg ?_|refine Ni ?_ ?_);conv=>whnf)
    all_goals try simp only[hsi]
    all_goals first
     |exact Lf
     |exact fun a b ha hb=>(hR.cells ha hb).1
     |exact fun a b ha hb=>by rw[Nat.zero_add];exact(hR.cells ha hb).1
     |exact⟨Om,fun h=>absurd h Om,fun _=>⟨key',rfl,hN'⟩⟩
     |exact jo.refl _ _ _|exact gy.refl _
   ·have hlt0:n<=i:=by rw[decide_eq_false_iff_not]at hlt;simp only at hlt;rw[hm]at hlt;omega
    have e2:i=n:=Om
    subst e2
    conv=>whnf
    repeat' first|((first|refine Sg ?_|refine Ni ?_ ?_);conv=>whnf)
    refine⟨(nk,rows,get),hR,?_⟩
    conv=>whnf
    repeat' first|((first|refine Sg ?_|refine Ni ?_ ?_);conv=>whnf)
    all_goals first|exact Lf|exact jo.refl _ _ _
 all_goals exact⟨hS,hP⟩
theorem ajX{nodes:List aj}{ps:List aO}{h n:Nat}:(wK nodes∧um ps∧h<=16∧n<=4096)->Sc 35 [.d (ay aZ 3 nodes),.d (ay lI 5 ps),.d (.int .i64 h),.d (.int .i64 n)] [] (.d (ay lI 5 (Gs nodes h n (dB nodes ps)))) []:=fun hh=>by
 obtain⟨⟨nk,rows,get⟩,hR,hsp⟩:=run0 hh
 have hlen:=Jc (nodes:=nodes) (ps:=ps) (h:=h) (i:=n)
 have:=Spec.yO (l9:=[]) (pre:=[]) (m:=2000) (fn:=900000) hsp rfl (fun i j hi hj=>(hR.cells hi hj).1) (by simp) (by simp[pV,Nat.beq_refl,dO])
 simp only[pV,Nat.beq_refl]at this
 refine this.res (aB.d (aF.rows hlen.symm ⟨fun i j hi hj=> ?_⟩)) (by simp[dO])
 rw[Nat.zero_add]
 rw[hlen]at hi
 exact(hR.cells hi hj).2
end Go.Proofs.YtgdgkekpfmhbbaaGreatDoor
