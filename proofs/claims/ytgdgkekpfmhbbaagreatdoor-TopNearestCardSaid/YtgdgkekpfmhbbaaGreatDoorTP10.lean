/- Contracts of functions that the law reaches: YtgdgkekpfmhbbaaGreatDoorTP10. Written for this claim. -/
import Derived.Test.YtgdgkekpfmhbbaaGreatDoorTP5
import Derived.Test.YtgdgkekpfmhbbaaGreatDoorSxWord
import Derived.Test.YtgdgkekpfmhbbaaGreatDoorSxInsr
import Derived.Test.YtgdgkekpfmhbbaaGreatDoorTPIn
namespace Go.Proofs.YtgdgkekpfmhbbaaGreatDoor
open Go Go.Sx Go.ChangeShapes Go.WideShapes Go.ChangeAt Go.RowKit
set_option linter.unusedVariables false
set_option linter.unusedSimpArgs false
set_option maxRecDepth 100000
def ak1(s:List aj)(q:List Int)(j:Nat):FC:= .d (.int .i64 (pU s q))
def vI(l:List aj)(q:List Int):Bool:=l.any fun x=>q==[x.id]
abbrev Zj(s:List aj)(h:Nat):Nat->Nat->FC:=aeA (fun a=> .int .i64 (s.getD a default).id) 2 (fun _=>h+1)
theorem afg{l:List aj}{h:Nat}:(wK l∧h<=16)-> ∃x:List (List iY),(x=nU (aH l) h∧CB l.length h x)∧
 Sc 89 [.d (ay aZ 3 l),.d (.int .i64 h)] [] (.cO [.bW 2000 2 0 l.length,.d (.int .i64 0)]) [(2000,.dP 900000 187 2 l.length (Zj (aH l) h)),(900000,.fam l.length (zf 147 2 sV x))]:=by
 rintro⟨hS,hh⟩
 have hsl:=eY l
 have hl20:=hS.Jh
 have akz:decide ((h:Int)<0)=false:=by rw[decide_eq_false_iff_not];omega
 have hlv2:decide ((h:Int)>16)=false:=by rw[decide_eq_false_iff_not];omega
 have cK:Tryz.prog.cellsOf 147=2:=Kq
 have bK:Tryz.prog.bytesOf 147=16:=Kq
 have cL:Tryz.prog.cellsOf 187=2:=Kq
 have bL:Tryz.prog.bytesOf 187=32:=Kq
 have hw1:IntKind.i64.wrap ((h:Int)+1)=((h+1:Nat):Int):=wrap_succ (n:=1000) Om Om
 refine uI (E:=EE) (fn:=Tryz.f89) _ _ _ true AZ Kq Kq Tryz.call89 Kq (fun _=>by kernel_rfl) (fun _=>by kernel_rfl) Kq ?_
 conv=>whnf
 repeat' first|((first|refine Cf (yS) ?_ ?_|refine Sg ?_|refine Ni ?_ ?_);conv=>whnf)
 ·refine aA [0,1,6,30,31,8] [] (fun i:Nat=>[(32,.d (.int .i64 i)),(9,.bW 2000 2 0 i)])
   (fun i=>[(29,.dW 900000 false [.i64] false 1 (vI ((aH l).take i)) (ak1 (aH l))),(2000,.dP 900000 187 2 i (Zj (aH l) h)),(900000,.fam i (zf 147 2 sV (wQ i h)))])
   (fun i=>i<=(aH l).length) (fun i=>(aH l).length-i) 0 ?_ (fun i hi=> ?_) (Nat.zero_le _)
  ·conv=>whnf
   repeat' first|((first|refine Sg ?_|refine Ni ?_ ?_);conv=>whnf)|(refine ah (fun _=> ?_) (fun _=> ?_)<;>(conv=>whnf))
   all_goals try first|exact Lq
   all_goals first
    |exact U7
    |exact⟨fun _=>rfl,fun k j hk _=>absurd hk (by simp)⟩
  ·have hs:i<(aH l).length->IntKind.i64.wrap ((i:Int)+1)=((i+1:Nat):Int):=fun h=>wrap_succ (n:=1000) Om Om
   conv=>whnf
   refine ah (fun hlt=> ?_) (fun hlt=> ?_)
   ·have hlt0:i<(aH l).length:=by simpa using hlt
    conv=>whnf
    repeat' first|((first|refine aG.mk (i+1) ?_ ?_ ?_|refine Sg ?_|refine Ni ?_ ?_);conv=>whnf)|(refine ah (fun _=> ?_) (fun _=> ?_)<;>(conv=>whnf))
    all_goals try simp only[cK,bK,cL,bL,Int.toNat_natCast]
    all_goals first
     |exact Lf|exact⟨trivial,trivial,trivial⟩|exact⟨trivial,trivial,trivial,trivial⟩|exact⟨trivial,trivial,rfl,Kq⟩|exact⟨trivial,Om,Om⟩|exact⟨Om,Om⟩|exact aF.of_eq (by rw[hs hlt0])
     |(rw[hw1]
       have e:wQ (i+1) h=wQ i h++[List.replicate (h+1) ⟨0,0⟩]:=by simp[wQ,List.replicate_succ']
       rw[e]
       refine O5 (by simp[wQ]) (by simp) (.of_eq fun a b ha hb=> ?_)
       have ha:a<h+1:=by simpa using ha
       simp only[cellOf,List.getD,List.getElem?_replicate,if_pos ha]
       match b,hb with
       |0,_=>rfl
       |1,_=>rfl)
     |(refine jo.of_eq fun a b ha hb=> ?_
       by_cases ha':a<i
       ·simp only[if_pos ha']
       ·have:a=i:=Om
        subst this
        simp only[if_neg ha',hw1]
        match b,hb with
        |0,_=>rfl
        |1,_=>rfl)
     |(refine gq.of_eq (fun q=> ?_) (fun q j hq hj=> ?_)
       ·have e:vI ((aH l).take (i+1)) q=(vI ((aH l).take i) q||q==[((aH l).getD i default).id]):=by
         unfold vI;rw[take_snoc hlt0,List.any_append];simp only[List.any_cons,List.any_nil,Bool.or_false]
        rw[e,Bool.or_comm]
       ·have:j=0:=Om
        subst this
        by_cases e:q=[((aH l).getD i default).id]
        ·subst e
         simp only[if_true]
         show FC.d (.int .i64 (i:Int))= .d (.int .i64 (pU (aH l) [((aH l).getD i default).id]:Int))
         rw[YW hS.sort.r.ids hlt0]
        ·simp only[if_neg e])
     |skip
   ·have hlt0:(aH l).length<=i:=by simpa using hlt
    have e:i=(aH l).length:=Om
    subst e
    have ht:(aH l).take (aH l).length=aH l:=vY (Nat.le_refl _)
    conv=>whnf
    repeat' first|((first|refine Sg ?_|refine Ni ?_ ?_);conv=>whnf)
    refine aA [0,1,6,8,9,52] [29,2000] (fun x:Nat×List (List iY)=>[(53,.d (.int .i64 x.1))]) (fun x=>[(900000,.fam (aH l).length (zf 147 2 sV x.2))])
     (fun x=>x.1<=h+1∧CB (aH l).length h x.2∧(List.range' x.1 (h+1-x.1)).foldl (xM (aH l)) x.2=nU (aH l) h) (fun x=>h+1-x.1) (0,wQ (aH l).length h) ?_ (fun x hx=> ?_) ⟨Nat.zero_le _,shp0,rfl⟩
    ·conv=>whnf
     repeat' first|((first|refine Sg ?_|refine Ni ?_ ?_);conv=>whnf)|(refine ah (fun _=> ?_) (fun _=> ?_)<;>(conv=>whnf))
     all_goals try first|exact Lq
    ·obtain⟨lv,Ls⟩:=x
     obtain⟨hlv,hsh,hf⟩:=hx
     simp only at hlv hsh hf
     have hsv:lv<h+1->IntKind.i64.wrap ((lv:Int)+1)=((lv+1:Nat):Int):=fun h=>wrap_succ (n:=1000) Om Om
     conv=>whnf
     refine ah (fun hlt=> ?_) (fun hlt=> ?_)
     ·have hlt1:lv<h+1:=by rw[hw1,decide_eq_true_eq]at hlt;simp only at hlt;omega
      have hf2:(List.range' (lv+1) (h+1-(lv+1))).foldl (xM (aH l)) (xM (aH l) Ls lv)=nU (aH l) h:=by
       rw[<-hf,show h+1-lv=(h+1-(lv+1))+1 by omega,List.range'_succ,List.foldl_cons]
      generalize hT:xM (aH l) Ls lv=T at hf2
      have hlen:(h_ (aH l) lv).length<=64:=by
       rw[h_,List.length_map];exact(Hg (by rw[eY,hsl];omega)).1
      conv=>whnf
      repeat' first|((first|refine Cf (Xk) ?_ ?_|refine Sg ?_|refine Ni ?_ ?_);conv=>whnf)
      ·refine aA [0,1,6,8,9,52,53,12,58,59] [29,2000] (fun x:Nat×List (List iY)=>[(60,.d (.int .i64 x.1))]) (fun x=>[(900000,.fam (aH l).length (zf 147 2 sV x.2))])
        (fun x=>x.1<=(h_ (aH l) lv).length∧CB (aH l).length h x.2∧((h_ (aH l) lv).drop x.1).foldl (AA (aH l) lv) x.2=T) (fun x=>(h_ (aH l) lv).length-x.1) (0,Ls) ?_ (fun x hx=> ?_) ⟨Nat.zero_le _,hsh,hT⟩
       ·conv=>whnf
        repeat' first|((first|refine Sg ?_|refine Ni ?_ ?_);conv=>whnf)|(refine ah (fun _=> ?_) (fun _=> ?_)<;>(conv=>whnf))
        all_goals try first|exact Lq
       ·obtain⟨m,Lm⟩:=x
        obtain⟨hm,hsm,hfm⟩:=hx
        simp only at hm hsm hfm
        have hsv2:m<(h_ (aH l) lv).length->IntKind.i64.wrap ((m:Int)+1)=((m+1:Nat):Int):=fun h=>wrap_succ (n:=1000) Om Om
        conv=>whnf
        refine ah (fun hlm=> ?_) (fun hlm=> ?_)
        ·have abA:m<(h_ (aH l) lv).length:=by simpa using hlm
         have hcm:=eF abA
         have akD:((h_ (aH l) lv).drop (m+1)).foldl (AA (aH l) lv) (AA (aH l) lv Lm ((h_ (aH l) lv).getD m default))=T:=by
             rw[<-hfm,List.drop_eq_getElem_cons abA,List.foldl_cons]
             simp[List.getD,abA]
         have akF:((h_ (aH l) lv).getD m default).length<=64:=by
             have:=(Hg (l:=aH (aH l)) (lv:=lv) (by rw[eY,hsl];omega)).2
             have hcm':=hcm
             simp only[h_,List.mem_map]at hcm'
             obtain⟨d,hd,e⟩:=hcm'
             simp only[h_]at*
             rw[<-e,List.length_map];exact this d hd
         have hcm2: ∀i,i<((h_ (aH l) lv).getD m default).length-> ∃x∈aH l,x.id=((h_ (aH l) lv).getD m default).getD i default:=fun i hi=>by
             obtain⟨x,hx,e⟩:=abl hcm (eF hi)
             exact⟨x,by rw[kN]at hx;exact hx,e⟩
         obtain⟨c,hc⟩: ∃c,(h_ (aH l) lv).getD m default=c:=⟨_,rfl⟩
         rw[hc]at hcm akD akF hcm2
         generalize hT2:AA (aH l) lv Lm c=T2 at*
         conv=>whnf
         repeat' first|((first|refine Sg ?_|refine Ni ?_ ?_);conv=>whnf)
         ·refine aA [0,1,6,8,9,52,53,12,58,59,60,14] [29,2000] (fun x:Nat×List (List iY)=>[(15,.d (.int .i64 x.1))]) (fun x=>[(900000,.fam (aH l).length (zf 147 2 sV x.2))])
                (fun x=>(1<=x.1∧x.1<=c.length+1)∧CB (aH l).length h x.2∧(List.range' x.1 (c.length-x.1)).foldl (KQ (aH l) lv c) x.2=T2) (fun x=>c.length+1-x.1) (1,Lm) ?_ (fun x hx=> ?_) ⟨⟨Nat.le_refl _,by simp only;omega⟩,hsm,hT2⟩
          ·conv=>whnf
           repeat' first|((first|refine Sg ?_|refine Ni ?_ ?_);conv=>whnf)|(refine ah (fun _=> ?_) (fun _=> ?_)<;>(conv=>whnf))
           all_goals try first|exact Lq
          ·obtain⟨i,Li⟩:=x
           obtain⟨⟨hi1,hi2⟩,hsi,hfi⟩:=hx
           simp only at hi1 hi2 hsi hfi
           have hsv3:IntKind.i64.wrap ((i:Int)+1)=((i+1:Nat):Int):=wrap_succ (n:=1000) Om Om
           have akq:IntKind.i64.wrap ((i:Int)-1)=((i-1:Nat):Int):=by rw[bQ Om Om];omega
           conv=>whnf
           refine ah (fun hli=> ?_) (fun hli=> ?_)
           ·have ai3:i<c.length:=by rw[decide_eq_true_eq]at hli;simp only[Int.toNat_natCast,ZE,cellOf]at hli;simp only[hc]at hli;omega
            have hA: ∀y,y<c.length->vI ((aH l).take (aH l).length) [((h_ (aH l) lv).getD m default).getD y default]=true:=fun y hy=>by
                rw[hc,ht]
                obtain⟨x,hx,e⟩:=hcm2 y hy
                exact List.any_eq_true.2 ⟨x,hx,by rw[e];simp⟩
            have hR: ∀y,y<c.length->pU (aH l) [c.getD y default]<(aH l).length:=fun y hy=>by
                obtain⟨x,hx,e⟩:=hcm2 y hy
                rw[<-e];exact agq hx
            have hA1:=hA i ai3
            have hA2:vI ((aH l).take (aH l).length) [((h_ (aH l) lv).getD m default).getD (IntKind.i64.wrap ((i:Int)-1)).toNat default]=true:=by rw[akq];exact hA (i-1) Om
            have hR1:=hR i ai3
            have hR2:=hR (i-1) Om
            have hRi:pU (aH l) [c.getD i default]<Li.length:=by rw[hsi.1];exact hR1
            have hRj:pU (aH l) [c.getD (i-1) default]<(H8 Li (pU (aH l) [c.getD i default]) lv (c.getD (i-1) default)).length:=by rw[(hsi.H8 hR1).1];exact hR2
            have hLi:lv<(Li.getD (pU (aH l) [c.getD i default]) default).length:=by rw[hsi.2 _ hR1];omega
            have hLj:lv<((H8 Li (pU (aH l) [c.getD i default]) lv (c.getD (i-1) default)).getD (pU (aH l) [c.getD (i-1) default]) default).length:=by rw[(hsi.H8 hR1).2 _ hR2];omega
            conv=>whnf
            repeat' first|((first|refine aG.mk (i+1,KQ (aH l) lv c Li i) ?_ ?_ ?_|refine Sg ?_|refine Ni ?_ ?_);conv=>whnf)|(refine ah (fun _=> ?_) (fun _=> ?_)<;>(conv=>whnf))
            all_goals try simp only[hsv3,akq,Int.toNat_natCast,Nat.zero_add,hc]
            all_goals first
                |exact Lf|exact⟨trivial,trivial,rfl,Kq⟩|exact⟨Om,Om⟩|exact⟨_,y9 hRi,rfl,by rw[hsi.2 _ hR1];omega⟩
                |exact gy.trans (gy.mod (U6 (x:=(Li.getD (pU (aH l) [c.getD i default]) default).set lv ⟨c.getD (i-1) default,((Li.getD (pU (aH l) [c.getD i default]) default).getD lv default).right⟩) (fun _=>⟨rfl,rfl,rfl⟩) hRi (List.length_set ..) (fun r hr=>by subst hr;exact ajG hLi)) (fun _=>⟨rfl,rfl,rfl⟩) (fun r r' h=>acz h)) (U6 (fun _=>⟨rfl,rfl,rfl⟩) hRj (List.length_set ..) (fun r hr=>by subst hr;exact ajF hLj))
                |exact⟨⟨Om,Om⟩,(hsi.H8 hR1).YN hR2,by rw[<-hfi,show c.length-i=(c.length-(i+1))+1 by omega,List.range'_succ,List.foldl_cons]⟩
                |(split
                  ·rw[y9 hRi];exact⟨_,rfl,rfl,by show lv<_;rw[hsi.2 _ hR1];omega⟩
                  ·rw[y9 (by rw[hsi.1];exact hR2)];exact⟨_,rfl,rfl,by show lv<_;rw[hsi.2 _ hR2];omega⟩)
                |skip
           ·have ai3:c.length<=i:=by rw[decide_eq_false_iff_not]at hli;simp only[Int.toNat_natCast,ZE,cellOf]at hli;simp only[hc]at hli;omega
            have e2:Li=T2:=by rw[<-hfi,show c.length-i=0 by omega];rfl
            subst e2
            conv=>whnf
            repeat' first|((first|refine aG.mk (m+1,Li) ?_ ?_ ?_|refine Sg ?_|refine Ni ?_ ?_);conv=>whnf)|(refine ah (fun _=> ?_) (fun _=> ?_)<;>(conv=>whnf))
            all_goals try simp only[hsv2 abA]
            all_goals first
                |exact Lf|exact⟨Om,hsi,akD⟩
                |skip
         ·simp only;exact⟨Om,Om⟩
        ·have abA:(h_ (aH l) lv).length<=m:=by simpa using hlm
         have e3:Lm=T:=by rw[<-hfm,List.drop_eq_nil_of_le abA];rfl
         subst e3
         conv=>whnf
         repeat' first|((first|refine aG.mk (lv+1,Lm) ?_ ?_ ?_|refine Sg ?_|refine Ni ?_ ?_);conv=>whnf)|(refine ah (fun _=> ?_) (fun _=> ?_)<;>(conv=>whnf))
         all_goals try simp only[hsv hlt1]
         all_goals first
             |exact Lf|exact⟨Om,hsm,hf2⟩
             |skip
      ·exact⟨hS.sort,Om⟩
     ·have hlt1:h+1<=lv:=by rw[hw1,decide_eq_false_iff_not]at hlt;simp only at hlt;omega
      have e4:Ls=nU (aH l) h:=by rw[<-hf,show h+1-lv=0 by omega];rfl
      conv=>whnf
      repeat' first|((first|refine Sg ?_|refine Ni ?_ ?_);conv=>whnf)
      refine⟨Ls,⟨e4,by rw[<-hsl];exact hsh⟩,?_⟩
      conv=>whnf
      repeat' first|((first|refine Sg ?_|refine Ni ?_ ?_);conv=>whnf)
      all_goals try simp only[hsl]
      all_goals first|exact Lf|exact jo.refl _ _ _
 ·exact hS
def tK(s:List aj)(L:List (List iY)):List mG:=(List.range s.length).map fun i=>⟨(s.getD i default).id,L.getD i default⟩
theorem Ym{s:List aj}{L:List (List iY)}{i:Nat}(h:i<s.length):(tK s L).getD i default=⟨(s.getD i default).id,L.getD i default⟩:=by
 simp[tK,List.getD,h]
theorem ahv{l:List aj}{h:Nat}:(wK l∧h<=16)->Sc 89 [.d (ay aZ 3 l),.d (.int .i64 h)] [] (.cO [.d (ay zH 2 (tK (aH l) (nU (aH l) h))),.d (.int .i64 0)]) []:=fun hh=>by
 obtain⟨x,⟨rfl,hsh⟩,hs⟩:=afg hh
 have hsl:=eY l
 have hcell: ∀i j,i<l.length->j<2->Z9 (zf 147 2 sV (nU (aH l) h)) (Zj (aH l) h i j)∧aF (Lh (zf 147 2 sV (nU (aH l) h)) (Zj (aH l) h i j)) (cellOf zH (tK (aH l) (nU (aH l) h)) i j):=by
  intro i j hi hj
  have hb:=Ym (L:=nU (aH l) h) (show i<(aH l).length by omega)
  have hr:=y9 (E:=147) (s:=2) (enc:=sV) (show i<(nU (aH l) h).length by rw[hsh.1];exact hi)
  match j,hj with
  |0,_=>exact⟨trivial,aF.of_eq (by simp only[cellOf,hb];rfl)⟩
  |1,_=>
   refine⟨⟨_,hr,rfl,Nat.le_of_eq (hsh.2 i hi).symm⟩,?_⟩
   simp only[cellOf,hb]
   refine aF.rows (hsh.2 i hi).symm ⟨fun a b ha hb=> ?_⟩
   simp only[mO,hr]
   exact aF.refl _
 have:=Spec.yO (l9:=[]) (pre:=[]) (m:=2000) (fn:=900000) hs rfl (fun i j hi hj=>(hcell i j hi hj).1) (by simp) (by simp[pV,Aj,Nat.beq_refl,dO,jW])
 simp only[pV,Aj,Nat.beq_refl]at this
 refine this.res (aB.cO (aI.cons (aB.d (aF.rows (by simp[tK,hsl]) ⟨fun i j hi hj=> ?_⟩)) (aI.refl _))) (by simp[dO,jW])
 have hi:i<l.length:=by simpa[tK,hsl]using hi
 rw[Nat.zero_add]
 exact(hcell i j hi hj).2
theorem aeL(a b:List iY):(a.length<=1000∧b.length<=1000)->Sc 164 [.d (ay sV 2 a),.d (ay sV 2 b)] [] (.d (.bool (decide (a=b)))) []:=by
 rintro⟨ha,hb⟩
 refine Si (fn:=Tryz.f164) Tryz.call164 ?_
 conv=>whnf
 refine ah (fun hne=> ?_) (fun hne=> ?_)
 ·conv=>whnf
  repeat' first|((first|refine Sg ?_|refine Ni ?_ ?_);conv=>whnf)|(refine ah (fun _=> ?_) (fun _=> ?_)<;>(conv=>whnf))
  refine⟨aB.of_eq ?_,trivial⟩
  have:a.length≠b.length:=by intro e;rw[e]at hne;simp at hne
  rw[decide_eq_false (fun e=>this (by rw[e]))]
 ·have hl:a.length=b.length:=by simp only[bne_eq_false_iff_eq]at hne;omega
  conv=>whnf
  repeat' first|((first|refine Sg ?_|refine Ni ?_ ?_);conv=>whnf)
  refine aA [0,0+1,11,12] [] (fun i:Nat=>[(13,.d (.int .i64 i))]) (fun _=>[]) (fun i=>i<=a.length∧decide (a=b)=decide (a.drop i=b.drop i)) (fun i=>a.length-i) 0 ?_ (fun i hi=> ?_) ⟨Nat.zero_le _,by simp⟩
  ·conv=>whnf
   repeat' first|((first|refine Sg ?_|refine Ni ?_ ?_);conv=>whnf)|(refine ah (fun _=> ?_) (fun _=> ?_)<;>(conv=>whnf))
   all_goals try first|exact Lq
  ·obtain⟨h1,h2⟩:=hi
   have e1:i<a.length->IntKind.i64.wrap ((i:Int)+1)=((i+1:Nat):Int):=fun h=>wrap_succ (n:=1000) Om Om
   conv=>whnf
   refine ah (fun hlt=> ?_) (fun hlt=> ?_)
   ·have hlt0:i<a.length:=by simpa using hlt
    have hst:=U8 hlt0 (show i<b.length by omega)
    rw[agV]at hst
    conv=>whnf
    repeat' first|((first|refine aG.mk (i+1) ?_ ?_ ?_|refine Sg ?_|refine Ni ?_ ?_);conv=>whnf)|(refine ah (fun _=> ?_) (fun _=> ?_)<;>(conv=>whnf))
    all_goals try simp only[Int.toNat_natCast]at*
    all_goals first
     |exact Lf|exact aF.of_eq (by rw[e1 hlt0])|exact⟨Om,Om⟩
     |(rename_i hq;simp only[Bool.not_eq_true']at hq;refine⟨aB.of_eq ?_,trivial⟩;rw[h2,hst,show((a.getD i default).left==(b.getD i default).left&&(a.getD i default).right==(b.getD i default).right)=false from hq,Bool.false_and])
     |(rename_i hq;simp only[Bool.not_eq_false']at hq;refine⟨Om,?_⟩;rw[h2,hst,show((a.getD i default).left==(b.getD i default).left&&(a.getD i default).right==(b.getD i default).right)=true from hq,Bool.true_and])
     |skip
   ·have hlt0:a.length<=i:=by simpa using hlt
    conv=>whnf
    repeat' first|((first|refine Sg ?_|refine Ni ?_ ?_);conv=>whnf)|(refine ah (fun _=> ?_) (fun _=> ?_)<;>(conv=>whnf))
    refine⟨aB.of_eq ?_,trivial⟩
    rw[h2,ZC hlt0 Om]
theorem WA(x y:mG):(x.levels.length<=1000∧y.levels.length<=1000)->Sc 163 [.agg [.d (.int .i64 x.id),.d (ay sV 2 x.levels)],.agg [.d (.int .i64 y.id),.d (ay sV 2 y.levels)]] [] (.d (.bool (decide (x=y)))) []:=by
 rintro⟨hx,hy⟩
 refine Si (fn:=Tryz.f163) Tryz.call163 ?_
 conv=>whnf
 repeat' first|((first|refine Cf (aeL _ _) ?_ ?_|refine Sg ?_|refine Ni ?_ ?_);conv=>whnf)|(refine ah (fun _=> ?_) (fun _=> ?_)<;>(conv=>whnf))
 all_goals first|exact⟨hx,hy⟩|(refine⟨aB.of_eq ?_,trivial⟩;rw[aiM];simp_all;done)
structure NQ (a:List mG):Prop where
 len:a.length<=1000
 lv: ∀x∈a,x.levels.length<=1000
theorem NQ.at{a:List mG}(h:NQ a){i:Nat}(hi:i<a.length):(a.getD i default).levels.length<=1000:=h.lv _ (eF hi)
theorem abK(a b:List mG):(NQ a∧NQ b)->Sc 162 [.d (ay zH 2 a),.d (ay zH 2 b),.clo 163 []] [] (.d (.bool (decide (a=b)))) []:=by
 rintro⟨ha,hb⟩
 have hal:=ha.len
 have hbl:=hb.len
 refine Si (fn:=Tryz.f162) Tryz.call162 ?_
 conv=>whnf
 refine ah (fun hne=> ?_) (fun hne=> ?_)
 ·conv=>whnf
  repeat' first|((first|refine Sg ?_|refine Ni ?_ ?_);conv=>whnf)|(refine ah (fun _=> ?_) (fun _=> ?_)<;>(conv=>whnf))
  refine⟨aB.of_eq ?_,trivial⟩
  have:a.length≠b.length:=by intro e;rw[e]at hne;simp at hne
  rw[decide_eq_false (fun e=>this (by rw[e]))]
 ·have hl:a.length=b.length:=by simp only[bne_eq_false_iff_eq]at hne;omega
  conv=>whnf
  repeat' first|((first|refine Sg ?_|refine Ni ?_ ?_);conv=>whnf)
  refine aA [0,0+1,0+1+1,15,16] [] (fun i:Nat=>[(17,.d (.int .i64 i))]) (fun _=>[]) (fun i=>i<=a.length∧decide (a=b)=decide (a.drop i=b.drop i)) (fun i=>a.length-i) 0 ?_ (fun i hi=> ?_) ⟨Nat.zero_le _,by simp⟩
  ·conv=>whnf
   repeat' first|((first|refine Sg ?_|refine Ni ?_ ?_);conv=>whnf)|(refine ah (fun _=> ?_) (fun _=> ?_)<;>(conv=>whnf))
   all_goals try first|exact Lq
  ·obtain⟨h1,h2⟩:=hi
   have e1:i<a.length->IntKind.i64.wrap ((i:Int)+1)=((i+1:Nat):Int):=fun h=>wrap_succ (n:=1000) Om Om
   conv=>whnf
   refine ah (fun hlt=> ?_) (fun hlt=> ?_)
   ·have hlt0:i<a.length:=by simpa using hlt
    have hst:=U8 hlt0 (show i<b.length by omega)
    conv=>whnf
    repeat' first|((first|refine iD (WA (a.getD (i:Int).toNat default) (b.getD (i:Int).toNat default)) Fl (Ni ?_ ?_)|refine aG.mk (i+1) ?_ ?_ ?_|refine Sg ?_|refine Ni ?_ ?_);conv=>whnf)|(refine ah (fun _=> ?_) (fun _=> ?_)<;>(conv=>whnf))
    all_goals try simp only[Int.toNat_natCast]at*
    all_goals first
     |exact Lf|exact aF.of_eq (by rw[e1 hlt0])|exact⟨Om,Om⟩|exact⟨ha.at hlt0,hb.at Om⟩|(refine⟨aB.of_eq ?_,trivial⟩;rw[h2,hst];simp_all;done)|(refine⟨Om,?_⟩;rw[h2,hst];simp_all;done)
     |skip
   ·have hlt0:a.length<=i:=by simpa using hlt
    conv=>whnf
    repeat' first|((first|refine Sg ?_|refine Ni ?_ ?_);conv=>whnf)|(refine ah (fun _=> ?_) (fun _=> ?_)<;>(conv=>whnf))
    refine⟨aB.of_eq ?_,trivial⟩
    rw[h2,ZC hlt0 Om]
theorem Td(a b:List mG):(NQ a∧NQ b)->Sc 90 [.d (ay zH 2 a),.d (ay zH 2 b)] [] (.d (.bool (decide (a=b)))) []:=by
 intro h
 refine Si (fn:=Tryz.f90) Tryz.call90 ?_
 conv=>whnf
 repeat' first|((first|refine Cf (abK _ _) ?_ ?_|refine Sg ?_|refine Ni ?_ ?_);conv=>whnf)|(refine ah (fun _=> ?_) (fun _=> ?_)<;>(conv=>whnf))
 all_goals first|exact h|exact⟨aB.refl _,trivial⟩
theorem ajn{l:List aj}{h:Nat}(hl:l.length<=64)(hh:h<=16):NQ (tK l (nU l h))∨¬CB l.length h (nU l h):=by
 by_cases hs:CB l.length h (nU l h)
 ·left
  refine⟨by simp[tK];omega,fun x hx=> ?_⟩
  simp only[tK,List.mem_map,List.mem_range]at hx
  obtain⟨i,hi,rfl⟩:=hx
  have:=hs.2 i hi
  simp only at this⊢
  omega
 ·exact .inr hs
theorem XW{nodes:List aj}{l:List mG}{h:Nat}:(wK nodes∧h<=16∧NQ l)->Sc 37 [.d (ay aZ 3 nodes),.d (ay zH 2 l),.d (.int .i64 h)] [] (.d (.bool (decide (l=tK (aH nodes) (nU (aH nodes) h))))) []:=by
 rintro⟨hS,hh,hl⟩
 have hB:NQ (tK (aH nodes) (nU (aH nodes) h)):=by
  obtain⟨x,⟨rfl,hsh⟩,_⟩:=afg ⟨hS,hh⟩
  have h20:=hS.Jh
  rcases ajn (l:=aH nodes) (h:=h) (by rw[eY];omega) hh with hb|hb
  ·exact hb
  ·exact absurd (by rw[eY];exact hsh) hb
 refine Si (fn:=Tryz.f37) Tryz.call37 ?_
 conv=>whnf
 repeat' first|((first|refine Cf (ahv) ?_ ?_|refine Cf (Td _ _) ?_ ?_|refine Sg ?_|refine Ni ?_ ?_);conv=>whnf)|(refine ah (fun _=> ?_) (fun _=> ?_)<;>(conv=>whnf))
 all_goals first|exact⟨hS,hh⟩|exact⟨hl,hB⟩|exact⟨aB.refl _,trivial⟩
theorem Xh(id:Int)(x:kH):Sc 385 [adP x,.ptr 1000 0] [(1000,.box [.d (.int .i64 id)])] (.d (.bool (C9 id x))) [(1000,.box [.d (.int .i64 id)])]:=by
 refine Si (fn:=Tryz.f385) Tryz.call385 ?_
 conv=>whnf
 repeat' first|((first|refine Sg ?_|refine Ni ?_ ?_);conv=>whnf)|(refine ah (fun _=> ?_) (fun _=> ?_)<;>(conv=>whnf))
 all_goals exact⟨aB.of_eq (by simp only[C9, *,Bool.true_or,Bool.false_or]),aI.refl _,trivial⟩
theorem QT(id:Int)(xs:List kH):xs.length<=1000->Sc 411 [.d (ay encR 4 xs),.clo 385 [.ptr 1000 0]] [(1000,.box [.d (.int .i64 id)])] (.d (.int .i64 (iP (C9 id) xs 0))) [(1000,.box [.d (.int .i64 id)])]:=by
 intro hl
 refine Si (fn:=Tryz.f411) Tryz.call411 ?_
 conv=>whnf
 repeat' first|((first|refine Sg ?_|refine Ni ?_ ?_);conv=>whnf)|(refine ah (fun _=> ?_) (fun _=> ?_)<;>(conv=>whnf))
 refine aA [0,0+1,6,7] [1000] (fun i:Nat=>[(8,.d (.int .i64 i))]) (fun _=>[]) (fun i=>i<=xs.length∧iP (C9 id) xs 0=iP (C9 id) (xs.drop i) i) (fun i=>xs.length-i) 0 ?_ (fun i hi=> ?_) ⟨Nat.zero_le _,by simp⟩
 ·conv=>whnf
  repeat' first|((first|refine Sg ?_|refine Ni ?_ ?_);conv=>whnf)|(refine ah (fun _=> ?_) (fun _=> ?_)<;>(conv=>whnf))
  all_goals try first|exact Lq
 ·obtain⟨h1,h2⟩:=hi
  have e1:i<xs.length->IntKind.i64.wrap ((i:Int)+1)=((i+1:Nat):Int):=fun h=>wrap_succ (n:=1000) Om Om
  conv=>whnf
  repeat' first|((first|refine oN (Xh _ (xs.getD (i:Int).toNat default)) ?_ Fl|refine aG.mk (i+1) ?_ ?_ ?_|refine Sg ?_|refine Ni ?_ ?_);conv=>whnf)|(refine ah (fun _=> ?_) (fun _=> ?_)<;>(conv=>whnf))
  all_goals try simp only[decide_eq_true_eq,decide_eq_false_iff_not,Int.toNat_natCast]at*
  all_goals first
   |exact trivial|exact aF.refl _|omega|exact aF.of_eq (by rw[e1 Om])|(refine⟨aB.of_eq ?_,aI.refl _,trivial⟩;rw[h2,sK Om])|(refine⟨aB.of_eq ?_,aI.refl _,trivial⟩;rw[h2,fV Om];simp_all;done)|(refine⟨Om,?_⟩;rw[h2,fV Om];simp_all;done)
   |(have hq:=‹_=true›;refine⟨aB.of_eq ?_,aI.refl _,trivial⟩;rw[h2,fV Om];simp_all;done)
theorem XH(m:Nat)(id:Int)(xs:List kH)(h:xs.length<=1000):Sc 411 [.d (ay encR 4 xs),.clo 385 [.ptr m 0]] [(m,.box [.d (.int .i64 id)])] (.d (.int .i64 (iP (C9 id) xs 0))) [(m,.box [.d (.int .i64 id)])]:=(QT id xs h).at m
theorem OM(id:Int)(xs:List Int):xs.length<=1000->Sc 345 [.d (ay encZ 1 xs),.d (.int .i64 id)] [] (.d (.int .i64 (iP (fun y=>id==y) xs 0))) []:=by
 intro hl
 refine Si (fn:=Tryz.f345) Tryz.call345 ?_
 conv=>whnf
 repeat' first|((first|refine Sg ?_|refine Ni ?_ ?_);conv=>whnf)|(refine ah (fun _=> ?_) (fun _=> ?_)<;>(conv=>whnf))
 refine aA [0,0+1,6,7] [] (fun i:Nat=>[(8,.d (.int .i64 i))]) (fun _=>[]) (fun i=>i<=xs.length∧iP (fun y=>id==y) xs 0=iP (fun y=>id==y) (xs.drop i) i) (fun i=>xs.length-i) 0 ?_ (fun i hi=> ?_) ⟨Nat.zero_le _,by simp⟩
 ·conv=>whnf
  repeat' first|((first|refine Sg ?_|refine Ni ?_ ?_);conv=>whnf)|(refine ah (fun _=> ?_) (fun _=> ?_)<;>(conv=>whnf))
  all_goals try first|exact Lq
 ·obtain⟨h1,h2⟩:=hi
  have e1:i<xs.length->IntKind.i64.wrap ((i:Int)+1)=((i+1:Nat):Int):=fun h=>wrap_succ (n:=1000) Om Om
  conv=>whnf
  repeat' first|((first|refine aG.mk (i+1) ?_ ?_ ?_|refine Sg ?_|refine Ni ?_ ?_);conv=>whnf)|(refine ah (fun _=> ?_) (fun _=> ?_)<;>(conv=>whnf))
  all_goals try simp only[decide_eq_true_eq,decide_eq_false_iff_not,Int.toNat_natCast]at*
  all_goals first|exact trivial|exact aF.refl _|omega|exact aF.of_eq (by rw[e1 Om])|(refine⟨aB.of_eq ?_,trivial⟩;rw[h2,sK Om])|(refine⟨aB.of_eq ?_,trivial⟩;rw[h2,fV Om];simp_all;done)|(refine⟨Om,?_⟩;rw[h2,fV Om];simp_all;done)
theorem LG(id:Int)(xs:List Int):xs.length<=1000->Sc 301 [.d (ay encZ 1 xs),.d (.int .i64 id)] [] (.d (.bool (xs.any fun y=>id==y))) []:=by
 intro hl
 refine Si (fn:=Tryz.f301) Tryz.call301 ?_
 conv=>whnf
 repeat' first|((first|refine Cf (OM _ _) ?_ ?_|refine Sg ?_|refine Ni ?_ ?_);conv=>whnf)|(refine ah (fun _=> ?_) (fun _=> ?_)<;>(conv=>whnf))
 all_goals first|assumption|exact⟨aB.of_eq (by rw[<-AQ]),trivial⟩
theorem FI(id:Int)(xs:List kH):xs.length<=1000->Sc 386 [.d (ay encR 4 xs),.clo 385 [.ptr 1000 0]] [(1000,.box [.d (.int .i64 id)])] (.d (.bool (xs.any (C9 id)))) [(1000,.box [.d (.int .i64 id)])]:=by
 intro hl
 refine Si (fn:=Tryz.f386) Tryz.call386 ?_
 conv=>whnf
 repeat' first|((first|refine Cf (XH _ _ _) ?_ ?_|refine Sg ?_|refine Ni ?_ ?_);conv=>whnf)|(refine ah (fun _=> ?_) (fun _=> ?_)<;>(conv=>whnf))
 all_goals first|assumption|exact⟨aB.of_eq (by rw[<-AQ (p:=C9 id)]),aI.refl _,trivial⟩
theorem I5(m:Nat)(id:Int)(xs:List kH)(h:xs.length<=1000):Sc 386 [.d (ay encR 4 xs),.clo 385 [.ptr m 0]] [(m,.box [.d (.int .i64 id)])] (.d (.bool (xs.any (C9 id)))) [(m,.box [.d (.int .i64 id)])]:=(FI id xs h).at m
theorem KF(p:aO)(id:Int):RH p->Sc 346 [sF p,.d (.int .i64 id)] [] (.d (.bool (KG p id))) []:=by
 rintro⟨hk,hn⟩
 refine Si (fn:=Tryz.f346) Tryz.call346 ?_
 conv=>whnf
 repeat' first|((first|refine Cf (LG _ _) ?_ ?_|refine Cf (I5 _ _ _) ?_ ?_|refine Sg ?_|refine Ni ?_ ?_);conv=>whnf)|(refine ah (fun _=> ?_) (fun _=> ?_)<;>(conv=>whnf))
 all_goals first|exact hk|exact hn|exact⟨aB.of_eq (by simp only[KG, *,Bool.true_or,Bool.false_or]),trivial⟩
theorem ac8{nodes:List aj}{p:aO}:(iG nodes p).length<=nodes.length:=by
 rw[iG,List.length_map,<-eY nodes];exact List.length_filter_le _ _
theorem Iu{α:Type}[Inhabited α]{q:α->Bool}{xs:List α}{i:Nat}(h:i<xs.length):(xs.drop i).filter q=(if q (xs.getD i default)then [xs.getD i default]else [])++(xs.drop (i+1)).filter q:=by
 rw[List.drop_eq_getElem_cons h,List.filter_cons]
 have e:xs.getD i default=xs[i]:=by simp[List.getD,h]
 rw[e]
 split<;>simp
theorem aj2(nodes:List aj)(p:aO):(wK nodes∧RH p)->Sc 261 [.d (ay aZ 3 nodes),sF p] [] (.bW 2000 1 0 (iG nodes p).length) [(2000,.row 3 1 (iG nodes p).length (cellOf encZ (iG nodes p)))]:=by
 rintro⟨hS,hp⟩
 have hc:=oM.2 hS.r
 have hl:=hS.Jh
 have hsl:=eY nodes
 have cZ:Tryz.prog.cellsOf 3=1:=Kq
 have bZ:Tryz.prog.bytesOf 3=8:=Kq
 have hne:(lZ nodes !=0)=false:=by rw[hc];rfl
 refine Si (fn:=Tryz.f261) Tryz.call261 ?_
 conv=>whnf
 repeat' first|((first|refine Cf (sW _) ?_ ?_|refine Cf (wM) ?_ ?_|refine Sg ?_|refine Ni ?_ ?_);conv=>whnf)
 ·refine aA [3,12,13] [3] (fun x:Nat×List Int=>[(14,.d (.int .i64 x.1)),(5,.bW 3000 1 0 x.2.length)]) (fun x=>[(3000,.row 3 1 x.2.length (cellOf encZ x.2))]) (fun x=>(x.1<=(aH nodes).length∧x.2.length<=x.1)∧x.2++(((aH nodes).drop x.1).filter (EG p)).map (·.id)=iG nodes p) (fun x=>(aH nodes).length-x.1) (0,[]) ?_ (fun x hx=> ?_) ⟨⟨Nat.zero_le _,Nat.le_refl _⟩,rfl⟩
  ·conv=>whnf
   repeat' first|((first|refine Sg ?_|refine Ni ?_ ?_);conv=>whnf)|(refine ah (fun _=> ?_) (fun _=> ?_)<;>(conv=>whnf))
   all_goals try first|exact Lq
   all_goals exact pO
  ·obtain⟨i,acc⟩:=x
   obtain⟨⟨hi,ha⟩,hf⟩:=hx
   simp only at hi ha hf
   have hs:i<(aH nodes).length->IntKind.i64.wrap ((i:Int)+1)=((i+1:Nat):Int):=fun h=>wrap_succ (n:=1000) Om Om
   conv=>whnf
   refine ah (fun hlt=> ?_) (fun hlt=> ?_)
   ·have hlt0:i<(aH nodes).length:=by simpa using hlt
    have hsi:=hs hlt0
    rw[Iu hlt0]at hf
    cases hq:EG p ((aH nodes).getD i default)with
    |true=>
     rw[hq]at hf
     have hq':=hq
     simp only[EG,Bool.and_eq_true]at hq'
     obtain⟨hq1,hq2⟩:=hq'
     conv=>whnf
     repeat' first|((first|refine Cf (KF p _) ?_ ?_|refine aG.mk (i+1,acc++[((aH nodes).getD i default).id]) ?_ ?_ ?_|refine Sg ?_|refine Ni ?_ ?_);conv=>whnf)|(refine ah (fun _=> ?_) (fun _=> ?_)<;>(conv=>whnf))
     all_goals try simp only[Int.toNat_natCast,cZ,bZ,List.length_append,List.length_singleton]
     all_goals first|exact Lf|exact hp|exact aF.of_eq (by rw[hsi])|exact⟨Om,Om⟩|exact⟨trivial,Om,Om⟩|exact dN rfl (aJ.refl _ _ _) (AB (aF.of_eq rfl))|exact⟨⟨Om,Om⟩,by rw[<-hf];simp⟩
    |false=>
     rw[hq]at hf
     conv=>whnf
     repeat' first|((first|refine Cf (KF p _) ?_ ?_|refine aG.mk (i+1,acc) ?_ ?_ ?_|refine Sg ?_|refine Ni ?_ ?_);conv=>whnf)|(refine ah (fun _=> ?_) (fun _=> ?_)<;>(conv=>whnf))
     all_goals try simp only[Int.toNat_natCast,cZ,bZ]at*
     all_goals first
      |exact Lf|exact hp|exact aF.of_eq (by rw[hsi])|exact⟨Om,Om⟩
      |(exfalso;simp only[EG,Bool.and_eq_false_iff]at hq;simp_all;done)
      |exact⟨⟨Om,Om⟩,by rw[<-hf];simp⟩
   ·have hlt0:(aH nodes).length<=i:=by simpa using hlt
    rw[List.drop_eq_nil_of_le hlt0]at hf
    have e:acc=iG nodes p:=by rw[<-hf];simp
    subst e
    conv=>whnf
    repeat' first|((first|refine Sg ?_|refine Ni ?_ ?_);conv=>whnf)|(refine ah (fun _=> ?_) (fun _=> ?_)<;>(conv=>whnf))
    all_goals first|exact Lf
 all_goals first|exact⟨hS.r,hl⟩|omega
end Go.Proofs.YtgdgkekpfmhbbaaGreatDoor
