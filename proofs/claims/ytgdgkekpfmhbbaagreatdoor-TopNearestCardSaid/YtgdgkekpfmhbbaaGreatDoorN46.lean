/- Contracts of functions that the law reaches: YtgdgkekpfmhbbaaGreatDoorN46. Written for this claim. -/
import Derived.Test.YtgdgkekpfmhbbaaGreatDoorN39
namespace Go.Proofs.YtgdgkekpfmhbbaaGreatDoor
open Go Go.Sx Go.ChangeShapes Go.WideShapes Go.ChangeAt Go.RowKit
set_option linter.unusedVariables false
set_option linter.unusedSimpArgs false
set_option maxRecDepth 100000
theorem Ig(id:Int)(y:aj):Sc 101 [zF y,.ptr 1000 0] [(1000,.box [.d (.int .i64 id)])] (.d (.bool (y.id==id))) [(1000,.box [.d (.int .i64 id)])]:=by
 refine Si (fn:=Tryz.f101) Tryz.call101 ?_
 conv=>whnf
 repeat' first|((first|refine Sg ?_|refine Ni ?_ ?_);conv=>whnf)|(refine ah (fun _=> ?_) (fun _=> ?_)<;>(conv=>whnf))
 all_goals exact⟨aB.refl _,aI.refl _,trivial⟩
theorem XF(id:Int)(xs:List aj){n:Nat}(hl:xs.length<=1000)(hn:n<xs.length)(h1:(xs.getD n default).id=id)(h2: ∀i,i<n->((xs.getD i default).id==id)=false):
 Sc 96 [.d (ay aZ 3 xs),.clo 101 [.ptr 1000 0]] [(1000,.box [.d (.int .i64 id)])] (.d (.int .i64 n)) [(1000,.box [.d (.int .i64 id)])]:=by
 refine Si (fn:=Tryz.f96) Tryz.call96 ?_
 conv=>whnf
 repeat' first|((first|refine Sg ?_|refine Ni ?_ ?_);conv=>whnf)|(refine ah (fun _=> ?_) (fun _=> ?_)<;>(conv=>whnf))
 refine aA [0,0+1,6,7] [1000] (fun i:Nat=>[(8,.d (.int .i64 i))]) (fun _=>[]) (fun i=>i<=n) (fun i=>xs.length-i) 0 ?_ (fun i hi=> ?_) (Nat.zero_le _)
 ·conv=>whnf
  repeat' first|((first|refine Sg ?_|refine Ni ?_ ?_);conv=>whnf)|(refine ah (fun _=> ?_) (fun _=> ?_)<;>(conv=>whnf))
  all_goals try first|exact Lq
 ·have hlt:decide ((i:Int)<(xs.length:Int))=true:=decide_eq_true Om
  have hw1:IntKind.i64.wrap ((i:Int)+1)=((i+1:Nat):Int):=wrap_succ (n:=1000) Om Om
  by_cases hin:i=n
  ·subst hin
   have e1:((xs.getD i default).id==id)=true:=by rw[h1];simp
   conv=>whnf
   repeat' first|((first|refine Ci (Ig _ _) ?_|refine Sr ?_|refine aG.mk (i+1) ?_ ?_ ?_|refine Sg ?_|refine Ni ?_ ?_);conv=>whnf)
   all_goals first
    |exact⟨Om,Om⟩|exact⟨aB.refl _,aI.refl _,trivial⟩|exact Lf
    |skip
  ·have e1:=h2 i Om
   conv=>whnf
   repeat' first|((first|refine Ci (Ig _ _) ?_|refine Sr ?_|refine aG.mk (i+1) ?_ ?_ ?_|refine Sg ?_|refine Ni ?_ ?_);conv=>whnf)
   all_goals first
    |exact aF.of_eq (by rw[hw1])|exact⟨Om,Om⟩|exact Lf
    |skip
theorem aiW{ns:List aj}(h:vK ns){n:Nat}(hn:n<ns.length): ∀i,i<n->((ns.getD i default).id==(ns.getD n default).id)=false:=fun i hi=>by
 have h1:=h.ids
 rw[List.nodup_iff_pairwise_ne,List.pairwise_map,List.pairwise_iff_getElem]at h1
 have:=h1 i n Om hn hi
 simp only[List.getD,List.getElem?_eq_getElem hn,List.getElem?_eq_getElem (show i<ns.length by omega),Option.getD_some]
 simpa using this
theorem Tj{ns:List aj}(h:vK ns)(hs:aH ns=ns)(hl:ns.length<20){n:Nat}(hn:n<ns.length):Sc 53 [.d (ay aZ 3 ns),.d (.int .i64 (ns.getD n default).id)] [] (.cO [.d (ay aZ 3 ns),.d (.int .i64 n)]) []:=by
 have q1:=sW ns Om
 rw[oM.2 h]at q1
 have q2:=wM ⟨h,hl⟩
 rw[hs]at q2
 have q3:=(XF (ns.getD n default).id ns Om hn rfl (aiW h hn)).at 3
 refine Si (fn:=Tryz.f53) Tryz.call53 ?_
 conv=>whnf
 repeat' first|((first|refine Ci q1 ?_|refine Ci q2 ?_|refine Ci q3 ?_|refine Sr ?_|refine Sg ?_|refine Ni ?_ ?_);conv=>whnf)
 all_goals first
  |exact⟨aB.refl _,trivial⟩|exact Lf
  |skip
def gu(ns:List aj)(n:Nat):jl:=(if 0<n then(ns.getD n default).key else [],false,if n+1<ns.length then(ns.getD (n+1) default).key else [],!(decide (n+1<ns.length)))
theorem abq{ns:List aj}(h:vK ns)(hs:aH ns=ns)(hl:ns.length<20){n:Nat}(hn:n<ns.length):Sc 19 [.d (ay aZ 3 ns),.d (.int .i64 (ns.getD n default).id)] [] (.cO [aaI (gu ns n),.d (.bool true)]) []:=by
 have q1:=Tj h hs hl hn
 have e1:decide ((n:Int)<0)=false:=decide_eq_false Om
 have hw1:IntKind.i64.wrap ((n:Int)+1)=((n+1:Nat):Int):=wrap_succ (n:=1000) Om Om
 by_cases h0:0<n
 ·have e2:decide ((n:Int)>0)=true:=decide_eq_true Om
  by_cases h3:n+1<ns.length
  ·have e3:decide (IntKind.i64.wrap ((n:Int)+1)<(ns.length:Int))=true:=by rw[hw1];exact decide_eq_true Om
   refine Si (fn:=Tryz.f19) Tryz.call19 ?_
   conv=>whnf
   repeat' first|((first|refine Ci q1 ?_|refine Sr ?_|refine Sg ?_|refine Ni ?_ ?_);conv=>whnf)
   all_goals first
    |exact⟨Om,Om⟩|exact⟨aB.of_eq (by simp only[gu,if_pos h0,if_pos h3,hw1,Int.toNat_natCast,h3,decide_true,Bool.not_true];rfl),trivial⟩|exact Lf
    |skip
  ·have e3:decide (IntKind.i64.wrap ((n:Int)+1)<(ns.length:Int))=false:=by rw[hw1];exact decide_eq_false Om
   refine Si (fn:=Tryz.f19) Tryz.call19 ?_
   conv=>whnf
   repeat' first|((first|refine Ci q1 ?_|refine Sr ?_|refine Sg ?_|refine Ni ?_ ?_);conv=>whnf)
   all_goals first
    |exact⟨Om,Om⟩|exact⟨aB.of_eq (by simp only[gu,if_pos h0,if_neg h3,Int.toNat_natCast,h3,decide_false,Bool.not_false];rfl),trivial⟩|exact Lf
    |skip
 ·have e2:decide ((n:Int)>0)=false:=decide_eq_false Om
  by_cases h3:n+1<ns.length
  ·have e3:decide (IntKind.i64.wrap ((n:Int)+1)<(ns.length:Int))=true:=by rw[hw1];exact decide_eq_true Om
   refine Si (fn:=Tryz.f19) Tryz.call19 ?_
   conv=>whnf
   repeat' first|((first|refine Ci q1 ?_|refine Sr ?_|refine Sg ?_|refine Ni ?_ ?_);conv=>whnf)
   all_goals first
    |exact⟨Om,Om⟩|exact⟨aB.of_eq (by simp only[gu,if_neg h0,if_pos h3,hw1,Int.toNat_natCast,h3,decide_true,Bool.not_true];rfl),trivial⟩|exact Lf
    |skip
  ·have e3:decide (IntKind.i64.wrap ((n:Int)+1)<(ns.length:Int))=false:=by rw[hw1];exact decide_eq_false Om
   refine Si (fn:=Tryz.f19) Tryz.call19 ?_
   conv=>whnf
   repeat' first|((first|refine Ci q1 ?_|refine Sr ?_|refine Sg ?_|refine Ni ?_ ?_);conv=>whnf)
   all_goals first
    |exact⟨Om,Om⟩|exact⟨aB.of_eq (by simp only[gu,if_neg h0,if_neg h3,Int.toNat_natCast,h3,decide_false,Bool.not_false];rfl),trivial⟩|exact Lf
    |skip
abbrev EM:List Nat:=[1000000+22]
theorem eokM:I8 Tryz.prog EM:=by
 refine⟨Kq,?_⟩
 intro T hT
 simp only[fP]at hT
 simp only[List.mem_cons,List.not_mem_nil,or_false]at hT
 rcases hT with rfl
 exact⟨Kq,Kq⟩
def qK(ns:List aj)(i:Nat):Int:=(ns.getD i default).id
def Cb(ns:List aj)(n:Nat):Nat->List Int
 |0=>[qK ns n]
 |j+1=>Cb ns n j++[qK ns (n-1-j)]
def EZ(ns:List aj)(n:Nat):Nat->List Int
 |0=>Cb ns n n
 |j+1=>EZ ns n j++[qK ns (n+1+j)]
def KN(ns:List aj)(n:Nat):List Int:=EZ ns n (ns.length-1-n)
theorem EY{ns:List aj}{n:Nat}: ∀j,(Cb ns n j).length=j+1
 |0=>rfl
 |j+1=>by rw[Cb,List.length_append,EY j];rfl
theorem Aw{ns:List aj}{n:Nat}: ∀j,(EZ ns n j).length=n+1+j
 |0=>EY n
 |j+1=>by rw[EZ,List.length_append,Aw j];rfl
theorem adZ{ns:List aj}{n j:Nat}{g2:Nat->Nat->D}(h:g2 0 0= .int .i64 (qK ns (n-1-j))):aJ (j+1+1) 1 (fun i k=>if i<j+1 then cellOf encI (Cb ns n j) i k else g2 (0+(i-(j+1))) k) (cellOf encI (Cb ns n (j+1))):=by
 simp only[Nat.zero_add]
 exact dN (xs:=Cb ns n j) (x:=qK ns (n-1-j)) (enc:=encI) (EY j).symm (aJ.refl _ _ _) (AB (aF.of_eq h))
theorem ad2{ns:List aj}{n j:Nat}{g2:Nat->Nat->D}(h:g2 0 0= .int .i64 (qK ns (n+1+j))):aJ (n+1+(j+1)) 1 (fun i k=>if i<n+1+j then cellOf encI (EZ ns n j) i k else g2 (0+(i-(n+1+j))) k) (cellOf encI (EZ ns n (j+1))):=by
 simp only[Nat.zero_add]
 exact dN (xs:=EZ ns n j) (x:=qK ns (n+1+j)) (enc:=encI) (Aw j).symm (aJ.refl _ _ _) (AB (aF.of_eq h))
theorem agN{xs:List Int}{L c:Nat}(hL:L=xs.length):aF (.list ((some (if(L:Int)<c then(L:Int)else c)).getD (L:Int)-(none:Option Int).getD 0).toNat 1 fun i j=>cellOf encI xs (0+((none:Option Int).getD 0).toNat+i) j) (ay encI 1 (xs.take c)):=by
 have h:((some (if(L:Int)<c then(L:Int)else c)).getD (L:Int)-(none:Option Int).getD 0).toNat=(xs.take c).length:=by
  simp only[Option.getD,List.length_take]
  split<;>omega
 refine aF.rows h (.of_eq fun i j hi _=> ?_)
 have hc:i<c:=by rw[List.length_take]at hi;omega
 simp[cellOf,List.getD,List.getElem?_take,hc]
theorem QC{ns:List aj}(hl:ns.length<20){n:Nat}(hn:n<ns.length)(c:Nat):Sc 21 [.d (ay aZ 3 ns),.d (.int .i64 n),.d (.int .i64 c)] [] (.d (ay encI 1 ((KN ns n).take c))) []:=by
 have hw1:IntKind.i64.wrap ((n:Int)-1)=(n:Int)-1:=bQ Om Om
 refine qZ (E:=EM) (fn:=Tryz.f21) eokM Kq Kq Tryz.call21 Kq Kq ?_
 conv=>whnf
 repeat' first|((first|refine Sr ?_|refine Sg ?_|refine Ni ?_ ?_);conv=>whnf)
 ·refine aA [0,0+1,0+1+1] [] (fun j:Nat=>[(8,.d (.int .i64 ((n:Int)-1-j))),(7,.bW 3000 1 0 (j+1))]) (fun j=>[(3000,.row 3 1 (j+1) (cellOf encI (Cb ns n j)))]) (fun j=>j<=n) (fun j=>n-j) 0 ?_ (fun j hj=> ?_) (Nat.zero_le _)
  ·conv=>whnf
   repeat' first|((first|refine Sg ?_|refine Ni ?_ ?_);conv=>whnf)|(refine ah (fun _=> ?_) (fun _=> ?_)<;>(conv=>whnf))
   all_goals try first|exact Lq
   all_goals try simp only[cIn,Int.toNat_natCast]
   all_goals first
    |exact aF.of_eq (by rw[hw1];simp)|exact⟨rfl,Kq,rfl⟩|exact row_one (x:=qK ns n) (enc:=encI) (AB (aF.refl _))
    |skip
  ·have hw2:IntKind.i64.wrap ((n:Int)-1-j-1)=(n:Int)-1-(j+1:Nat):=by rw[bQ Om Om];omega
   by_cases hjn:j=n
   ·subst hjn
    have e1:decide ((j:Int)-1-j>=0)=false:=decide_eq_false Om
    have hw3:IntKind.i64.wrap ((j:Int)+1)=(j:Int)+1:=bQ Om Om
    conv=>whnf
    repeat' first|((first|refine Sr ?_|refine Sg ?_|refine Ni ?_ ?_);conv=>whnf)
    refine aA [0,0+1,0+1+1] [] (fun i:Nat=>[(9,.d (.int .i64 ((j:Int)+1+i))),(7,.bW 3000 1 0 (j+1+i))]) (fun i=>[(3000,.row 3 1 (j+1+i) (cellOf encI (EZ ns j i)))]) (fun i=>j+1+i<=ns.length) (fun i=>ns.length-i) 0 ?_ (fun i hi=> ?_) Om
    ·conv=>whnf
     repeat' first|((first|refine Sg ?_|refine Ni ?_ ?_);conv=>whnf)|(refine ah (fun _=> ?_) (fun _=> ?_)<;>(conv=>whnf))
     all_goals try first|exact Lq
     all_goals first
      |exact aF.of_eq (by rw[hw3];simp)
      |skip
    ·have hw4:IntKind.i64.wrap ((j:Int)+1+i+1)=(j:Int)+1+(i+1:Nat):=by rw[bQ Om Om];omega
     by_cases hin:j+1+i=ns.length
     ·have e2:decide ((j:Int)+1+i<ns.length)=false:=decide_eq_false Om
      conv=>whnf
      repeat' first|((first|refine Sr ?_|refine Sg ?_|refine Ni ?_ ?_);conv=>whnf)
      ·exact⟨aB.d (by rw[KN,show ns.length-1-j=i by omega];exact agN (Aw i).symm),trivial⟩
      ·simp only[Option.getD]
       refine⟨Om,?_,?_⟩<;>split<;>omega
     ·have e2:decide ((j:Int)+1+i<ns.length)=true:=decide_eq_true Om
      have hT:((j:Int)+1+i).toNat=j+1+i:=Om
      conv=>whnf
      repeat' first|((first|refine Sr ?_|refine aG.mk (i+1) ?_ ?_ ?_|refine Sg ?_|refine Ni ?_ ?_);conv=>whnf)
      all_goals first
       |exact trivial|(refine ad2 ?_;show cellOf aZ ns ((j:Int)+1+i).toNat 0=_;rw[hT];rfl)|exact⟨rfl,Kq,Om⟩|exact aF.of_eq (by rw[hw4])|exact⟨Om,Om⟩
       |(rw[bIn];omega)
       |omega|exact Lf
       |skip
   ·have e1:decide ((n:Int)-1-j>=0)=true:=decide_eq_true Om
    have hT:((n:Int)-1-j).toNat=n-1-j:=Om
    conv=>whnf
    repeat' first|((first|refine Sr ?_|refine aG.mk (j+1) ?_ ?_ ?_|refine Sg ?_|refine Ni ?_ ?_);conv=>whnf)
    all_goals first
     |exact trivial|(refine adZ ?_;show cellOf aZ ns ((n:Int)-1-j).toNat 0=_;rw[hT];rfl)|exact⟨rfl,Kq,Om⟩|exact aF.of_eq (by rw[hw2])|exact⟨Om,Om⟩
     |(rw[bIn];omega)
     |omega|exact Lf
     |skip
 ·exact⟨Om,Om⟩
def DL(wd lv:Nat)(ns:List aj):List aj:=ns.filter fun y=>wz y.word wd lv
theorem abD{wd lv:Nat}{ns:List aj}{i:Nat}(h:i<ns.length):DL wd lv (ns.take (i+1))=if wz (ns.getD i default).word wd lv then DL wd lv (ns.take i)++[ns.getD i default]else DL wd lv (ns.take i):=by
 unfold DL
 rw[take_succ' h,List.filter_append]
 cases e:wz (ns.getD i default).word wd lv<;>(simp only[List.filter_cons,List.filter_nil,e];simp)
abbrev agx(n:Nat)(R:List aj):SV:=if R.length=0 then .d (.val (.slice none 0 0))else .bW n 3 0 R.length
abbrev agw(n:Nat)(R:List aj):List (Nat×bG):=if R.length=0 then []else [(n,.row 72 3 R.length (cellOf aZ R))]
theorem XP{ns:List aj}(hr: ∀i,i<ns.length->(ns.getD i default).word<=65535)(hl:ns.length<=1000){wd lv:Nat}(hw:wd<=65535)(hlv:lv<=16)(R:Nat->List aj)(h0:R 0=[])(hR: ∀i,i<ns.length->R (i+1)=if wz (ns.getD i default).word wd lv then R i++[ns.getD i default]else R i)(hRl: ∀i,i<=ns.length->(R i).length<=i):
 Sc 124 [.d (ay aZ 3 ns),.d (.int .i64 lv),.d (.int .u32 (wd:Int))] [] (.d (ay aZ 3 (R ns.length))) []:=by
 refine Si (fn:=Tryz.f124) Tryz.call124 ?_
 conv=>whnf
 repeat' first|((first|refine Sr ?_|refine Sg ?_|refine Ni ?_ ?_);conv=>whnf)
 refine aA [0,0+1,0+1+1,10,11] [] (fun i:Nat=>[(12,.d (.int .i64 i)),(7,agx 3000 (R i))]) (fun i=>agw 3000 (R i)) (fun i=>i<=ns.length) (fun i=>ns.length-i) 0 ?_ (fun i hi=> ?_) (Nat.zero_le _)
 ·unfold agx agw;rw[h0]
  conv=>whnf
  repeat' first|((first|refine Sg ?_|refine Ni ?_ ?_);conv=>whnf)|(refine ah (fun _=> ?_) (fun _=> ?_)<;>(conv=>whnf))
  all_goals try first|exact Lq
 ·have hw1:i<ns.length->IntKind.i64.wrap ((i:Int)+1)=((i+1:Nat):Int):=fun h=>wrap_succ (n:=1000) Om Om
  have hln:=hRl i hi
  rcases Nat.eq_zero_or_pos (R i).length with hz|hz
  ·simp only[agx,agw,if_pos hz]
   conv=>whnf
   refine ah (fun hlt=> ?_) (fun hlt=> ?_)
   ·have hlt0:i<ns.length:=by simpa using hlt
    have q1:=Gm (ns.getD i default).word wd lv ⟨hr i hlt0,hw,hlv⟩
    have hst:=hR i hlt0
    have hR0:R i=[]:=List.eq_nil_of_length_eq_zero hz
    cases e:wz (ns.getD i default).word wd lv
    ·rw[e]at q1 hst
     have hs:R (i+1)=[]:=by rw[hst,hR0];rfl
     conv=>whnf
     repeat' first|((first|refine Ci q1 ?_|refine Sr ?_|refine aG.mk (i+1) ?_ ?_ ?_|refine Sg ?_|refine Ni ?_ ?_);conv=>whnf)
     ·simp only[hs,List.length_nil,if_true]
      conv=>whnf
      repeat' first|((first|refine Sg ?_|refine Ni ?_ ?_);conv=>whnf)|(refine ah (fun _=> ?_) (fun _=> ?_)<;>(conv=>whnf))
      all_goals try first|exact Lq
      all_goals exact aF.of_eq (by rw[hw1 hlt0])
     all_goals first
      |exact⟨Om,Om⟩|omega
      |(rw[bNd];decide)
      |skip
    ·rw[e]at q1 hst
     have hs:R (i+1)=[ns.getD i default]:=by rw[hst,hR0];rfl
     conv=>whnf
     repeat' first|((first|refine Ci q1 ?_|refine Sr ?_|refine aG.mk (i+1) ?_ ?_ ?_|refine Sg ?_|refine Ni ?_ ?_);conv=>whnf)
     ·simp only[hs,List.length_singleton,Nat.one_ne_zero,if_false]
      conv=>whnf
      repeat' first|((first|refine Sg ?_|refine Ni ?_ ?_);conv=>whnf)|(refine ah (fun _=> ?_) (fun _=> ?_)<;>(conv=>whnf))
      all_goals try first|exact Lq
      all_goals try simp only[cNd,Int.toNat_natCast]
      all_goals first|exact aF.of_eq (by rw[hw1 hlt0])|exact row_one (x:=ns.getD i default) (enc:=aZ) (xO (aF.refl _) (aF.refl _) (aF.refl _))|exact⟨rfl,Kq,rfl⟩
     all_goals first
      |exact⟨Om,Om⟩|omega
      |(rw[bNd];decide)
      |skip
   ·have hR0:R i=[]:=List.eq_nil_of_length_eq_zero hz
    have:i=ns.length:=by have: ¬i<ns.length:=by simpa using hlt
                         omega
    subst this
    conv=>whnf
    repeat' first|((first|refine Sr ?_|refine Sg ?_|refine Ni ?_ ?_);conv=>whnf)
    rw[hR0]
    exact⟨aN rfl,trivial⟩
  ·have hne: ¬(R i).length=0:=Om
   simp only[agx,agw,if_neg hne]
   conv=>whnf
   refine ah (fun hlt=> ?_) (fun hlt=> ?_)
   ·have hlt0:i<ns.length:=by simpa using hlt
    have q1:=Gm (ns.getD i default).word wd lv ⟨hr i hlt0,hw,hlv⟩
    have hst:=hR i hlt0
    cases e:wz (ns.getD i default).word wd lv
    ·rw[e]at q1 hst
     have hs:R (i+1)=R i:=hst
     conv=>whnf
     repeat' first|((first|refine Ci q1 ?_|refine Sr ?_|refine aG.mk (i+1) ?_ ?_ ?_|refine Sg ?_|refine Ni ?_ ?_);conv=>whnf)
     ·simp only[hs,if_neg hne]
      conv=>whnf
      repeat' first|((first|refine Sg ?_|refine Ni ?_ ?_);conv=>whnf)|(refine ah (fun _=> ?_) (fun _=> ?_)<;>(conv=>whnf))
      all_goals try first|exact Lq
      all_goals exact aF.of_eq (by rw[hw1 hlt0])
     all_goals first
      |exact⟨Om,Om⟩|omega
      |(rw[bNd];decide)
      |skip
    ·rw[e]at q1 hst
     have hs:R (i+1)=R i++[ns.getD i default]:=hst
     have hs2:(R (i+1)).length=(R i).length+1:=by rw[hs];simp
     have hs3: ¬(R i).length+1=0:=Om
     conv=>whnf
     repeat' first|((first|refine Ci q1 ?_|refine Sr ?_|refine aG.mk (i+1) ?_ ?_ ?_|refine Sg ?_|refine Ni ?_ ?_);conv=>whnf)
     ·simp only[hs2,if_neg hs3]
      conv=>whnf
      repeat' first|((first|refine Sg ?_|refine Ni ?_ ?_);conv=>whnf)|(refine ah (fun _=> ?_) (fun _=> ?_)<;>(conv=>whnf))
      all_goals try first|exact Lq
      all_goals try simp only[cNd,Int.toNat_natCast,hs]
      all_goals first
       |exact aF.of_eq (by rw[hw1 hlt0])|exact dN (xs:=R i) (enc:=aZ) (x:=ns.getD i default) rfl (aJ.refl _ _ _) (xO (aF.refl _) (aF.refl _) (aF.refl _))|exact⟨rfl,Kq,rfl⟩
       |skip
     all_goals first
      |exact⟨Om,Om⟩|omega
      |(rw[bNd];omega)
      |skip
   ·have:i=ns.length:=by have: ¬i<ns.length:=by simpa using hlt
                         omega
    subst this
    conv=>whnf
    repeat' first|((first|refine Sr ?_|refine Sg ?_|refine Ni ?_ ?_);conv=>whnf)
    simp only[Nat.zero_add]
    exact⟨aB.refl _,trivial⟩
theorem AX{ns:List aj}(hr: ∀i,i<ns.length->(ns.getD i default).word<=65535)(hl:ns.length<=1000){wd lv:Nat}(hw:wd<=65535)(hlv:lv<=16):
 Sc 124 [.d (ay aZ 3 ns),.d (.int .i64 lv),.d (.int .u32 (wd:Int))] [] (.d (ay aZ 3 (DL wd lv ns))) []:=by
 have h:=XP hr hl hw hlv (fun i=>DL wd lv (ns.take i)) rfl (fun i hi=>abD hi) (fun i hi=>Nat.le_trans (List.length_filter_le _ _) (by rw[List.length_take];omega))
 rw[List.take_length]at h
 exact h
theorem abH{nodes:List aj}{ps:List aO}(h:wK nodes∧um ps):Sc 26 [.d (ay aZ 3 nodes),.d (ay lI 5 ps)] [] (.agg [.d (ay lI 5 (dB nodes ps)),.d (ay encZ 2 [])]) []:=by
 have q:=ET h
 refine Si (fn:=Tryz.f26) Tryz.call26 ?_
 conv=>whnf
 repeat' first|((first|refine Ci q ?_|refine Sr ?_|refine Sg ?_|refine Ni ?_ ?_);conv=>whnf)
 all_goals first
  |exact⟨aB.agg (aI.cons (aB.refl _) (aI.cons (aN rfl) aI.nil)),trivial⟩|exact Lf
  |skip
theorem agK(x y:aj):Sc 24 [zF x,zF y] [] (.d (.int .i64 (IntKind.i64.wrap (x.id-y.id)))) []:=by
 refine Si (fn:=Tryz.f24) Tryz.call24 ?_
 conv=>whnf
 repeat' first|((first|refine Sr ?_|refine Sg ?_|refine Ni ?_ ?_);conv=>whnf)
 all_goals first
  |exact⟨aB.refl _,trivial⟩|exact Lf
  |skip
def Jw(xs:List aj)(j:Nat):List aj:=(xs.set (j+1) (xs.getD j default)).set j (xs.getD (j+1) default)
def NG:List aj->Nat->List aj
 |xs,0=>xs
 |xs,j+1=>if(xs.getD (j+1) default).id-(xs.getD j default).id<0 then NG (Jw xs j) j else xs
def z_:List aj->Nat->List aj
 |xs,0=>xs
 |xs,i+1=>NG (z_ xs i) (i+1)
theorem Sm{xs:List aj}{j:Nat}:(Jw xs j).length=xs.length:=by simp[Jw]
theorem UH: ∀{j:Nat}{xs:List aj},(NG xs j).length=xs.length
 |0,xs=>rfl
 |j+1,xs=>by
  rw[NG]
  split
  ·rw[UH,Sm]
  ·rfl
theorem SE{xs:List aj}: ∀{i:Nat},(z_ xs i).length=xs.length
 |0=>rfl
 |i+1=>by rw[z_,UH,SE]
theorem N7{xs:List aj}{j:Nat}(h:j+1<xs.length):(Jw xs j).Perm xs:=by
 unfold Jw
 have e1:xs.getD j default=xs[j]:=by simp[List.getD,List.getElem?_eq_getElem (show j<xs.length by omega)]
 have e2:xs.getD (j+1) default=xs[j+1]:=by simp[List.getD,h]
 rw[e1,e2]
 exact List.set_set_perm h Om
theorem OL: ∀{j:Nat}{xs:List aj},j<xs.length->(NG xs j).Perm xs
 |0,xs,_=>List.Perm.refl _
 |j+1,xs,h=>by
  rw[NG]
  split
  ·exact(OL (by rw[Sm];omega)).trans (N7 h)
  ·exact List.Perm.refl _
theorem Gi{xs:List aj}: ∀{i:Nat},i<xs.length->(z_ xs i).Perm xs
 |0,_=>List.Perm.refl _
 |i+1,h=>by
  rw[z_]
  exact(OL (by rw[SE];omega)).trans (Gi Om)
theorem af4{ys:List aj}{j n:Nat}(hj:j+1<ys.length){g:Nat->Nat->D}(h1: ∀k,k<3->g j k=cellOf aZ ys (j+1) k)(h2: ∀k,k<3->g (j+1) k=cellOf aZ ys j k)(h3: ∀i k,¬i=j-> ¬i=j+1->g i k=cellOf aZ ys i k):
 aJ n 3 g (cellOf aZ (Jw ys j)):= .of_eq fun i k _ hk=>by
 have hj0:j<ys.length:=Om
 by_cases e1:i=j
 ·subst e1
  rw[h1 k hk]
  simp[cellOf,Jw,List.getD,hj0]
 ·by_cases e2:i=j+1
  ·subst e2
   rw[h2 k hk]
   simp[cellOf,Jw,List.getD,hj,List.getElem?_set_ne (show j≠j+1 by omega)]
  ·rw[h3 i k e1 e2]
   simp[cellOf,Jw,List.getD,List.getElem?_set_ne (Ne.symm e1),List.getElem?_set_ne (Ne.symm e2)]
theorem abu(xs:List aj)(hl:xs.length<=1000)(hid: ∀ys:List aj,ys.Perm xs-> ∀a b,a<ys.length->b<ys.length->IntKind.i64.wrap ((ys.getD a default).id-(ys.getD b default).id)=(ys.getD a default).id-(ys.getD b default).id):
 Sc 109 [.bW 1000 3 0 xs.length,.d (.int .i64 0),.d (.int .i64 xs.length),.clo 24 []] [(1000,.row 72 3 xs.length (cellOf aZ xs))] (.cO []) [(1000,.row 72 3 xs.length (cellOf aZ (z_ xs (xs.length-1))))]:=by
 refine Si (fn:=Tryz.f109) Tryz.call109 ?_
 conv=>whnf
 repeat' first|((first|refine Sr ?_|refine Sg ?_|refine Ni ?_ ?_);conv=>whnf)
 refine aA [0,0+1,0+1+1,0+1+1+1] [] (fun i:Nat=>[(8,.d (.int .i64 (i+1:Nat)))]) (fun i=>[(1000,.row 72 3 xs.length (cellOf aZ (z_ xs i)))]) (fun i=>i<=xs.length-1) (fun i=>xs.length-i) 0 ?_ (fun i hi=> ?_) (Nat.zero_le _)
 ·conv=>whnf
  repeat' first|((first|refine Sg ?_|refine Ni ?_ ?_);conv=>whnf)|(refine ah (fun _=> ?_) (fun _=> ?_)<;>(conv=>whnf))
  all_goals try first|exact Lq
 ·have hw1:i<1000->IntKind.i64.wrap (((i+1:Nat):Int)+1)=((i+1+1:Nat):Int):=fun h=>wrap_succ (n:=1001) Om Om
  conv=>whnf
  refine ah (fun hlt=> ?_) (fun hlt=> ?_)
  ·have hlt0:i+1<xs.length:=by have:=of_decide_eq_true hlt;omega
   conv=>whnf
   repeat' first|((first|refine Sr ?_|refine Sg ?_|refine Ni ?_ ?_);conv=>whnf)
   refine aA [0,0+1,0+1+1,0+1+1+1,8] [] (fun p:Nat×List aj=>[(9,.d (.int .i64 (p.1:Nat)))]) (fun p=>[(1000,.row 72 3 xs.length (cellOf aZ p.2))]) (fun p=>p.1<=i+1∧p.2.Perm xs∧NG p.2 p.1=z_ xs (i+1)) (fun p=>p.1) (i+1,z_ xs i) ?_ (fun p hp=> ?_) ⟨Nat.le_refl _,Gi Om,rfl⟩
   ·conv=>whnf
    repeat' first|((first|refine Sg ?_|refine Ni ?_ ?_);conv=>whnf)|(refine ah (fun _=> ?_) (fun _=> ?_)<;>(conv=>whnf))
    all_goals try first|exact Lq
   ·obtain⟨j,ys⟩:=p
    obtain⟨p1,p2,p3⟩:=hp
    dsimp only at p1 p2 p3⊢
    have hyl:ys.length=xs.length:=p2.length_eq
    have hw2:=hw1 Om
    cases j with
    |zero=>
     have e1:decide (((0:Nat):Int)>0)=false:=by decide
     have p3':ys=z_ xs (i+1):=p3
     conv=>whnf
     repeat' first|((first|refine Sr ?_|refine aG.mk (i+1) ?_ ?_ ?_|refine Sg ?_|refine Ni ?_ ?_);conv=>whnf)
     all_goals first
      |(rw[p3'];exact aJ.refl _ _ _)
      |exact aF.of_eq (by rw[hw2])|exact⟨Om,Om⟩|exact Lf
      |skip
    |succ j=>
     have e1:decide (((j+1:Nat):Int)>0)=true:=decide_eq_true Om
     have hw3:IntKind.i64.wrap (((j+1:Nat):Int)-1)=(j:Int):=by rw[bQ Om Om];omega
     have q1:=agK (ys.getD (j+1) default) (ys.getD j default)
     rw[hid ys p2 (j+1) j Om Om]at q1
     conv=>whnf
     repeat' first|((first|refine Sr ?_|refine Sg ?_|refine Ni ?_ ?_);conv=>whnf)
     all_goals try simp only[hw3,Int.toNat_natCast,Nat.zero_add]
     all_goals try first|omega|exact⟨Om,Om⟩
     cases hc:decide ((ys.getD (j+1) default).id-(ys.getD j default).id<0)
     ·have p3':ys=z_ xs (i+1):=by
       rw[NG,if_neg (of_decide_eq_false hc)]at p3
       exact p3
      conv=>whnf
      repeat' first|((first|refine Ci q1 ?_|refine Sr ?_|refine aG.mk (i+1) ?_ ?_ ?_|refine Sg ?_|refine Ni ?_ ?_);conv=>whnf)
      all_goals first
       |(rw[p3'];exact aJ.refl _ _ _)
       |exact aF.of_eq (by rw[hw2])|exact⟨Om,Om⟩|exact Lf
       |skip
     ·have p3':NG (Jw ys j) j=z_ xs (i+1):=by
       rw[NG,if_pos (of_decide_eq_true hc)]at p3
       exact p3
      conv=>whnf
      repeat' first|((first|refine Ci q1 ?_|refine Sr ?_|refine aG.mk (j,Jw ys j) ?_ ?_ ?_|refine Sg ?_|refine Ni ?_ ?_);conv=>whnf)
      all_goals try simp only[hw3,Int.toNat_natCast,Nat.zero_add]
      all_goals first
       |exact aF.of_eq (by rw[hw3])
       |exact af4 Om (by refine xO ?_ ?_ ?_<;>simp) (by refine xO ?_ ?_ ?_<;>simp) (fun i' k' n1 n2=>by simp[n1,n2])
       |exact⟨Om,Om⟩|exact⟨Om,(N7 Om).trans p2,p3'⟩|exact Lf
  ·have hi2:i=xs.length-1:=by
    have: ¬i+1<xs.length:=by have:=of_decide_eq_false hlt;omega
    omega
   conv=>whnf
   repeat' first|((first|refine Sr ?_|refine Sg ?_|refine Ni ?_ ?_);conv=>whnf)
   all_goals first
    |exact trivial
    |(rw[hi2];exact aJ.refl _ _ _)
    |exact⟨rfl,rfl,rfl⟩|exact⟨aB.refl _,aI.refl _,trivial⟩|exact Lf
    |skip
abbrev Z5(xs:List aj):Prop:= ∀ys:List aj,ys.Perm xs-> ∀a b,a<ys.length->b<ys.length->IntKind.i64.wrap ((ys.getD a default).id-(ys.getD b default).id)=(ys.getD a default).id-(ys.getD b default).id
theorem aaO(xs:List aj)(hl:xs.length<=12)(hid:Z5 xs)(lim:D):
 Sc 59 [.bW 1000 3 0 xs.length,.d (.int .i64 0),.d (.int .i64 xs.length),.d lim,.clo 24 []] [(1000,.row 72 3 xs.length (cellOf aZ xs))] (.cO []) [(1000,.row 72 3 xs.length (cellOf aZ (z_ xs (xs.length-1))))]:=by
 have q:=abu xs Om hid
 have e1:decide (IntKind.i64.wrap ((xs.length:Int)-0)<=12)=true:=by rw[bQ Om Om];exact decide_eq_true Om
 refine Si (fn:=Tryz.f59) Tryz.call59 ?_
 conv=>whnf
 repeat' first|((first|refine Sr ?_|refine Sg ?_|refine Ni ?_ ?_);conv=>whnf)
 refine aU 1 ?_
 conv=>whnf
 repeat' first|((first|refine Ci q ?_|refine Sr ?_|refine Sg ?_|refine Ni ?_ ?_);conv=>whnf)
 all_goals first
  |exact⟨aB.refl _,aI.refl _,trivial⟩|exact Lf
  |skip
def aiP(n:Nat):Nat:=[0,1,2,2,3,3,3,3,4,4,4,4,4].getD n 0
theorem aiQ: ∀n:Nat,n<=12->Sc 118 [.d (.int .u64 n)] [] (.d (.int .i64 (aiP n))) []:=by
 intro n h
 rcases(show n=0∨n=1∨n=2∨n=3∨n=4∨n=5∨n=6∨n=7∨n=8∨n=9∨n=10∨n=11∨n=12 by omega)with rfl|rfl|rfl|rfl|rfl|rfl|rfl|rfl|rfl|rfl|rfl|rfl|rfl
 all_goals
  refine Si (fn:=Tryz.f118) Tryz.call118 ?_
  conv=>whnf
  repeat' first|((first|refine Sr ?_|refine Sg ?_|refine Ni ?_ ?_);conv=>whnf)
 all_goals first
  |exact⟨aB.of_eq rfl,trivial⟩|exact⟨by decide,by decide⟩|exact Lf
  |skip
theorem lenN{n:Nat}(h:n<=12):Sc 60 [.d (.int .u64 n)] [] (.d (.int .i64 (aiP n))) []:=by
 have hl:=aiQ n h
 refine Si (fn:=Tryz.f60) Tryz.call60 ?_
 conv=>whnf
 repeat' first|((first|refine Ci hl ?_|refine Sr ?_|refine Sg ?_|refine Ni ?_ ?_);conv=>whnf)
 all_goals first
  |exact⟨aB.refl _,trivial⟩|exact Lf
  |skip
theorem aio(xs:List aj)(hl:xs.length<=12)(hid:Z5 xs):Sc 23 [.bW 1000 3 0 xs.length,.clo 24 []] [(1000,.row 72 3 xs.length (cellOf aZ xs))] (.cO []) [(1000,.row 72 3 xs.length (cellOf aZ (z_ xs (xs.length-1))))]:=by
 have q1:=lenN hl
 have q2:=aaO xs hl hid (.int .i64 (aiP xs.length))
 have e1:IntKind.u64.wrap (xs.length:Int)=(xs.length:Int):=by
  show(xs.length:Int) % 18446744073709551616=(xs.length:Int)
  omega
 refine Si (fn:=Tryz.f23) Tryz.call23 ?_
 conv=>whnf
 repeat' first|((first|refine Sr ?_|refine Sg ?_|refine Ni ?_ ?_);conv=>whnf)
 rw[e1]
 conv=>whnf
 repeat' first|((first|refine Ci q1 ?_|refine Ci q2 ?_|refine Sr ?_|refine Sg ?_|refine Ni ?_ ?_);conv=>whnf)
 all_goals first
  |exact⟨aB.refl _,aI.refl _,trivial⟩|exact Lf
  |skip
end Go.Proofs.YtgdgkekpfmhbbaaGreatDoor
