/- Contracts of functions that the law reaches: YtgdgkekpfmhbbaaGreatDoorTP31. Written for this claim. -/
import Derived.Test.YtgdgkekpfmhbbaaGreatDoorN56
import Derived.Test.YtgdgkekpfmhbbaaGreatDoorSxWlk3
import Derived.Test.YtgdgkekpfmhbbaaGreatDoorSxMerge
import Derived.Test.YtgdgkekpfmhbbaaGreatDoorTP13
import Derived.Test.YtgdgkekpfmhbbaaGreatDoorSxInsr
namespace Go.Proofs.YtgdgkekpfmhbbaaGreatDoor
open Go Go.Sx Go.ChangeShapes Go.WideShapes Go.ChangeAt Go.RowKit
set_option linter.unusedVariables false
set_option linter.unusedSimpArgs false
set_option maxRecDepth 100000
def aa7(nodes:List aj)(q:List Int)(j:Nat):FC:= .d (cellOf aZ nodes (pU nodes q) j)
def aan(ls:List mG)(q:List Int)(_:Nat):FC:= .d (ay sV 2 (ls.getD (Ia ls q) default).levels)
theorem Yu{s:List aj}{i:Nat}(h:i<s.length){q:List Int}:vI (s.take (i+1)) q=(q==[(s.getD i default).id]||vI (s.take i) q):=by
 have e:s.take (i+1)=s.take i++[s.getD i default]:=take_snoc h
 unfold vI
 rw[e,List.any_append,Bool.or_comm];simp
theorem akf{nodes:List aj}{ls:List mG}(hn:(nodes.map (·.id)).Nodup)(hm:(ls.map (·.id)).Nodup):(nodes.length<=1000∧ls.length<=1000)->Sc 86 [.d (ay aZ 3 nodes),.d (ay zH 2 ls)] [] (.agg [.mp 2000,.mp 2001])
 [(2000,.dW 900000 false [.i64] true 3 (vI nodes) (aa7 nodes)),(2001,.dW 900000 false [.i64] false 1 (E5 ls) (aan ls)),(900000,.fam 0 fun _=>none)]:=by
 rintro⟨hl,hl2⟩
 refine rZ (E:=EE) (fn:=Tryz.f86) AZ Kq Kq Tryz.call86 Kq Kq Kq ?_
 conv=>whnf
 repeat' first|((first|refine Sg ?_|refine Ni ?_ ?_);conv=>whnf)
 trace_state
 refine aA [0+1,4,15,16] [4] (fun i:Nat=>[(17,.d (.int .i64 i)),(5,.ptr 2005 0)]) (fun i=>[(2005,.box [.mp 2000,.mp 2001]),(2000,.dW 900000 false [.i64] true 3 (vI (nodes.take i)) (aa7 nodes)),(2001,.dW 900000 false [.i64] false 1 (E5 (ls.take 0)) (aan ls)),(900000,.fam 0 fun _=>none)])
  (fun i=>i<=nodes.length) (fun i=>nodes.length-i) 0 ?_ (fun i hi=> ?_) (Nat.zero_le _)
 ·conv=>whnf
  repeat' first|((first|refine Sg ?_|refine Ni ?_ ?_);conv=>whnf)|(refine ah (fun _=> ?_) (fun _=> ?_)<;>(conv=>whnf))
  all_goals try first|exact Lq
  all_goals first
   |exact gq.of_eq (fun q=>rfl) (fun q c hq hc=>by cases hq)
 ·conv=>whnf
  refine ah (fun hlt=> ?_) (fun hlt=> ?_)
  ·have hlt0:i<nodes.length:=by simpa using hlt
   have hw1:IntKind.i64.wrap ((i:Int)+1)=((i+1:Nat):Int):=wrap_succ (n:=1000) Om Om
   conv=>whnf
   repeat' first|((first|refine aG.mk (i+1) ?_ ?_ ?_|refine Sg ?_|refine Ni ?_ ?_);conv=>whnf)
   all_goals try simp only[hw1,Int.toNat_natCast,Nat.zero_add]
   all_goals first
    |exact Lf|exact⟨Om,Om⟩|exact⟨trivial,trivial,Kq,Kq⟩|exact gy.refl _
    |exact gq.of_eq (fun _=>rfl) (fun _ _ _ _=>rfl)
    |(refine gq.of_eq (fun q=>(Yu hlt0).symm) (fun q c hq hc=> ?_)
      by_cases e:q=[(nodes.getD i default).id]
      ·subst e
       simp only[if_true,aa7,YW hn hlt0]
       match c,hc with
       |0,_=>rfl
       |1,_=>rfl
       |2,_=>rfl
      ·simp only[if_neg e])
  ·have hlt0:nodes.length<=i:=by simpa using hlt
   rw[vY hlt0]
   conv=>whnf
   repeat' first|((first|refine Sg ?_|refine Ni ?_ ?_);conv=>whnf)
   refine aA [4,27,28] [4] (fun i:Nat=>[(29,.d (.int .i64 i)),(5,.ptr 2005 0)]) (fun i=>[(2005,.box [.mp 2000,.mp 2001]),(2000,.dW 900000 false [.i64] true 3 (vI nodes) (aa7 nodes)),(2001,.dW 900000 false [.i64] false 1 (E5 (ls.take i)) (aan ls)),(900000,.fam 0 fun _=>none)])
    (fun i=>i<=ls.length) (fun i=>ls.length-i) 0 ?_ (fun i hi=> ?_) (Nat.zero_le _)
   ·conv=>whnf
    repeat' first|((first|refine Sg ?_|refine Ni ?_ ?_);conv=>whnf)|(refine ah (fun _=> ?_) (fun _=> ?_)<;>(conv=>whnf))
    all_goals try first|exact Lq
    all_goals first
     |exact gq.of_eq (fun _=>rfl) (fun _ _ _ _=>rfl)
   ·conv=>whnf
    refine ah (fun hlt1=> ?_) (fun hlt1=> ?_)
    ·have hlt2:i<ls.length:=by simpa using hlt1
     have hw1:IntKind.i64.wrap ((i:Int)+1)=((i+1:Nat):Int):=wrap_succ (n:=1000) Om Om
     have hno:E5 (ls.take i) [(ls.getD i default).id]=false:=by
      cases e:E5 (ls.take i) [(ls.getD i default).id]with
      |false=>rfl
      |true=>
       obtain⟨x,hx,e⟩:=ad6.1 e
       obtain⟨j,hj,rfl⟩:=List.getElem_of_mem hx
       have hj2:j<i:=by rw[List.length_take]at hj;omega
       have h1:=J5 hm (show j<ls.length by omega)
       have h2:=J5 hm hlt2
       rw[List.getElem_take]at e
       rw[show ls.getD j default=ls[j]by simp[List.getD,show j<ls.length by omega],e,h2]at h1
       omega
     have hno2:E5 (ls.take i) [(ls.getD (i:Int).toNat default).id]=false:=by rw[Int.toNat_natCast];exact hno
     have hno3:(!false)=true:=rfl
     conv=>whnf
     repeat' first|((first|refine aG.mk (i+1) ?_ ?_ ?_|refine Sg ?_|refine Ni ?_ ?_);conv=>whnf)
     all_goals try simp only[hw1,Int.toNat_natCast,Nat.zero_add]
     all_goals first
      |exact Lf|exact⟨Om,Om⟩|exact⟨trivial,trivial,Kq,Kq⟩|exact gy.refl _
      |exact gq.of_eq (fun _=>rfl) (fun _ _ _ _=>rfl)
      |(refine gq.of_eq (fun q=>(abk hlt2).symm) (fun q c hq hc=> ?_)
        have hc:c=0:=Om
        subst hc
        by_cases e:q=[(ls.getD i default).id]
        ·subst e
         simp only[if_true,aan,J5 hm hlt2];rfl
        ·simp only[if_neg e])
    ·have hlt2:ls.length<=i:=by simpa using hlt1
     rw[vY hlt2]
     conv=>whnf
     repeat' first|((first|refine Sg ?_|refine Ni ?_ ?_);conv=>whnf)
     all_goals first
      |exact Lf
      |exact gq.of_eq (fun _=>rfl) (fun _ _ _ _=>rfl)
      |exact gy.refl _
theorem abj{nodes:List aj}{ls:List mG}(m k:Nat)(hmk:m≠k)(hn:(nodes.map (·.id)).Nodup)(hm:(ls.map (·.id)).Nodup):(nodes.length<=1000∧ls.length<=1000)->Sc 86 [.d (ay aZ 3 nodes),.d (ay zH 2 ls)] [] (.agg [.mp m,.mp k])
 [(m,.dW m false [.i64] true 3 (vI nodes) (aa7 nodes)),(k,.dW k false [.i64] false 1 (E5 ls) (aan ls))]:=fun h=>by
 have:=((akf hn hm h).akI (fun _ _ _ _=>⟨_,rfl⟩) (fun _ _ _ _=>⟨_,rfl⟩) (fun n h=>by simpa[dO,jW,eq_comm]using h)).new2 m k (by decide) hmk
 simpa[qI,j_,lC]using this
def toK(ls:List mG)(id:Int)(lv:Nat)(side:Int):Int:=if side=1 then((ls.getD (Ia ls [id]) default).levels.getD lv default).right else((ls.getD (Ia ls [id]) default).levels.getD lv default).left
abbrev nwB(m k:Nat)(nodes:List aj)(ls:List mG):List (Nat×bG):=[(m,.dW m false [.i64] true 3 (vI nodes) (aa7 nodes)),(k,.dW k false [.i64] false 1 (E5 ls) (aan ls))]
theorem P6{nodes:List aj}{ls:List mG}{id:Int}{lv:Nat}{side:Int}{b:Bool}{x:aj}(hb:vI nodes [toK ls id lv side]=b)(hx:b=true->nodes.getD (pU nodes [toK ls id lv side]) default=x)(hx2:b=false->x=default):
 (E5 ls [id]=true∧lv<(ls.getD (Ia ls [id]) default).levels.length)->Sc 88 [.agg [.mp 1000,.mp 1001],.d (.int .i64 id),.d (.int .i64 lv),.d (.int .i64 side)] (nwB 1000 1001 nodes ls) (.cO [zF x,.d (.bool b)]) (nwB 1000 1001 nodes ls):=by
 rintro⟨h1,h2⟩
 have hc1:decide ((lv:Int)>=((ls.getD (Ia ls [id]) default).levels.length:Int))=false:=by rw[decide_eq_false_iff_not];omega
 by_cases hs:side=1
 ·subst hs
  have hc2:((1:Int)==1)=true:=rfl
  cases b with
  |true=>
   obtain rfl:=hx rfl
   refine Si (fn:=Tryz.f88) Tryz.call88 ?_
   conv=>whnf
   repeat' first|((first|refine Sg ?_|refine Ni ?_ ?_);conv=>whnf)
   all_goals first
    |exact Lf|exact⟨trivial,trivial,Kq,Kq⟩|exact⟨Om,Om⟩|exact aF.of_eq rfl
    |exact gq.of_eq (fun _=>rfl) (fun _ _ _ _=>rfl)
  |false=>
   obtain rfl:=hx2 rfl
   refine Si (fn:=Tryz.f88) Tryz.call88 ?_
   conv=>whnf
   repeat' first|((first|refine Sg ?_|refine Ni ?_ ?_);conv=>whnf)
   all_goals first
    |exact Lf|exact⟨trivial,trivial,Kq,Kq⟩|exact⟨Om,Om⟩|exact aF.of_eq rfl
    |exact gq.of_eq (fun _=>rfl) (fun _ _ _ _=>rfl)
 ·have hc2:(side==1)=false:=by simpa using hs
  have hto:toK ls id lv side=((ls.getD (Ia ls [id]) default).levels.getD lv default).left:=by rw[toK,if_neg hs]
  rw[hto]at hb hx
  cases b with
  |true=>
   obtain rfl:=hx rfl
   refine Si (fn:=Tryz.f88) Tryz.call88 ?_
   conv=>whnf
   repeat' first|((first|refine Sg ?_|refine Ni ?_ ?_);conv=>whnf)
   all_goals first
    |exact Lf|exact⟨trivial,trivial,Kq,Kq⟩|exact⟨Om,Om⟩|exact aF.of_eq rfl
    |exact gq.of_eq (fun _=>rfl) (fun _ _ _ _=>rfl)
  |false=>
   obtain rfl:=hx2 rfl
   refine Si (fn:=Tryz.f88) Tryz.call88 ?_
   conv=>whnf
   repeat' first|((first|refine Sg ?_|refine Ni ?_ ?_);conv=>whnf)
   all_goals first
    |exact Lf|exact⟨trivial,trivial,Kq,Kq⟩|exact⟨Om,Om⟩|exact aF.of_eq rfl
    |exact gq.of_eq (fun _=>rfl) (fun _ _ _ _=>rfl)
def o7:List aj:=[⟨1,[97],0⟩,⟨2,[98],2⟩]
def CO:List mG:=[⟨1,[⟨0,2⟩,⟨0,2⟩]⟩,⟨2,[⟨1,0⟩,⟨1,0⟩]⟩]
structure ak5 where
 from_:Int
 to:Int
 level:Int
instance:Inhabited ak5:=⟨⟨0,0,0⟩⟩
def ahf(x:ak5):List D:=[.int .i64 x.from_,.int .i64 x.to,.int .i64 x.level]
abbrev EH:List Nat:=(4000000+98)::EE
theorem eokH:I8 Tryz.prog EH:=by
 refine⟨Kq,?_⟩
 intro T hT
 rw[fP,List.mem_cons]at hT
 rcases hT with rfl|hT
 ·exact⟨Kq,Kq⟩
 ·exact AZ.2 T (fP.2 hT)
theorem hop0(x y:aj)(lv:Nat):Sc 87 [zF y,.d (.int .i64 lv),.ptr 1000 0,.ptr 1001 0] [(1000,.box [.d (.val (.slice none 0 0))]),(1001,nV x)] (.cO [])
 [(1000,.box [.d (ay ahf 3 [⟨x.id,y.id,lv⟩])]),(1001,nV y)]:=by
 have cH:Tryz.prog.cellsOf 196=3:=Kq
 have bH:Tryz.prog.bytesOf 196=24:=Kq
 refine qZ (E:=EH) (fn:=Tryz.f87) eokH Kq Kq Tryz.call87 Kq Kq ?_
 conv=>whnf
 repeat' first|((first|refine Sg ?_|refine Ni ?_ ?_);conv=>whnf)
 all_goals try simp only[cH,bH]
 all_goals first
  |exact Lf|exact⟨Om,Om⟩
  |exact⟨aB.refl _,aI.cons (aB.d (BX (by first|rfl|exact cH) rfl (row_one (xO (aF.of_eq rfl) (aF.of_eq rfl) (aF.of_eq rfl))))) aI.nil,aI.refl _,trivial⟩
theorem end0(f t lv:Int)(g:Int):Sc 38 [.d (.int .i64 g),.d (ay ahf 3 [⟨f,t,lv⟩])] [] (.d (.int .i64 t)) []:=by
 refine Si (fn:=Tryz.f38) Tryz.call38 ?_
 conv=>whnf
 repeat' first|((first|refine Sg ?_|refine Ni ?_ ?_);conv=>whnf)
 all_goals first
  |exact⟨aB.refl _,trivial⟩
  |(constructor<;>(show _;decide))
  |exact⟨show(0:Int)<=0 by decide,show(0:Int)<1 by decide⟩
def ahL(k:Nat):aj:=if k=0 then⟨1,[97],0⟩else⟨2,[98],2⟩
def ahM(k:Nat):SV:=if k=0 then .d (.val (.slice none 0 0))else .d (ay ahf 3 [⟨1,2,1⟩])
theorem YO:wK o7:=by
 refine⟨oM.1 (by decide),by decide⟩
set_option maxHeartbeats 1000000 in
theorem aix:Sc 36 [.d (ay aZ 3 o7),.d (ay zH 2 CO),.d (.int .i64 1),.d (.str [98])] [] (.cO [.d (ay ahf 3 [⟨1,2,1⟩]),.d (.int .i64 0)]) []:=by
 have aky:=abj (nodes:=o7) (ls:=CO) 3000 3001 (by decide) (by decide) (by decide) ⟨by decide,by decide⟩
 have hv:=jG [98]
 have hk1:decide ((([98]:List UInt8).length:Int)<=64)=true:=rfl
 rw[hk1]at hv
 have XO:=pF YO
 have hh:=(hop0 ⟨1,[97],0⟩ ⟨2,[98],2⟩ 1).at2 13 11 (by decide) (by decide)
 simp only[qI,j_,lC,nV,if_true,show¬(1001:Nat)=1000 by decide,show¬(1002:Nat)=1000 by decide,show¬(1002:Nat)=1001 by decide,if_false]at hh
 have hl1:=(P6 (nodes:=o7) (ls:=CO) (id:=1) (lv:=1) (side:=1) (b:=true) (x:=⟨2,[98],2⟩) rfl (fun _=>rfl) (fun h=>by cases h) ⟨rfl,by decide⟩).at2 3000 3001 (by decide) (by decide)
 have hl2:=(P6 (nodes:=o7) (ls:=CO) (id:=2) (lv:=1) (side:=1) (b:=false) (x:=default) rfl (fun h=>by cases h) (fun _=>rfl) ⟨rfl,by decide⟩).at2 3000 3001 (by decide) (by decide)
 have hl3:=(P6 (nodes:=o7) (ls:=CO) (id:=2) (lv:=0) (side:=1) (b:=false) (x:=default) rfl (fun h=>by cases h) (fun _=>rfl) ⟨rfl,by decide⟩).at2 3000 3001 (by decide) (by decide)
 have hl4:=(P6 (nodes:=o7) (ls:=CO) (id:=2) (lv:=0) (side:=0) (b:=true) (x:=⟨1,[97],0⟩) rfl (fun _=>rfl) (fun h=>by cases h) ⟨rfl,by decide⟩).at2 3000 3001 (by decide) (by decide)
 simp only[qI,j_,lC,if_true,show¬(1001:Nat)=1000 by decide,if_false]at hl1 hl2 hl3 hl4
 refine Si (fn:=Tryz.f36) Tryz.call36 ?_
 conv=>whnf
 repeat' first|((first|refine Ci XO ?_|refine Ci hv ?_|refine Ci aky ?_|refine Sg ?_|refine Ni ?_ ?_);conv=>whnf)
 ·refine aA [10,11,13,14,15,0+1+1+1] [10,3000,3001] (fun k:Nat=>[(16,.d (.int .i64 (1-(k:Int))))]) (fun k=>[(11,nV (ahL k)),(13,.box [ahM k])])
   (fun k=>k<=2) (fun k=>3-k) 0 ?_ (fun k hk=> ?_) (by decide)
  ·conv=>whnf
   repeat' first|((first|refine Sg ?_|refine Ni ?_ ?_);conv=>whnf)|(refine ah (fun _=> ?_) (fun _=> ?_)<;>(conv=>whnf))
   all_goals try first|exact Lq
   all_goals first|exact pO|exact aF.of_eq rfl
  ·rcases(show k=0∨k=1∨k=2 by omega)with rfl|rfl|rfl
   ·conv=>whnf
    repeat' first|((first|refine Sg ?_|refine Ni ?_ ?_);conv=>whnf)
    refine aA [10,11,13,14,15,0+1+1+1,16] [10,3000,3001] (fun k:Nat=>[]) (fun k=>[(11,nV (ahL k)),(13,.box [ahM k])])
     (fun k=>k<=1) (fun k=>2-k) 0 ?_ (fun k hk=> ?_) (by decide)
    ·conv=>whnf
     repeat' first|((first|refine Sg ?_|refine Ni ?_ ?_);conv=>whnf)|(refine ah (fun _=> ?_) (fun _=> ?_)<;>(conv=>whnf))
     all_goals try first|exact Lq
    ·rcases(show k=0∨k=1 by omega)with rfl|rfl
     ·conv=>whnf
      repeat' first|((first|refine Ci hl1 ?_|refine Ci hh ?_|refine aG.mk 1 ?_ ?_ ?_|refine Sg ?_|refine Ni ?_ ?_);conv=>whnf)
      all_goals first
       |exact Lf|exact⟨trivial,trivial,trivial,trivial⟩|exact⟨rfl,rfl,rfl,rfl⟩
       |exact gq.of_eq (fun _=>rfl) (fun _ _ _ _=>rfl)
       |exact aF.of_eq rfl
       |decide
     ·conv=>whnf
      repeat' first|((first|refine Ci hl2 ?_|refine aG.mk 1 ?_ ?_ ?_|refine Sg ?_|refine Ni ?_ ?_);conv=>whnf)
      all_goals first
       |exact Lf|exact⟨trivial,trivial,trivial,trivial⟩|exact⟨rfl,rfl,rfl,rfl⟩
       |exact gq.of_eq (fun _=>rfl) (fun _ _ _ _=>rfl)
       |exact aF.of_eq rfl
       |decide
   ·conv=>whnf
    repeat' first|((first|refine Sg ?_|refine Ni ?_ ?_);conv=>whnf)
    refine aA [10,11,13,14,15,0+1+1+1,16] [10,3000,3001,11,13] (fun k:Nat=>[]) (fun k=>[]) (fun k=>k=0) (fun k=>1-k) 0 ?_ (fun k hk=> ?_) rfl
    ·conv=>whnf
     repeat' first|((first|refine Sg ?_|refine Ni ?_ ?_);conv=>whnf)|(refine ah (fun _=> ?_) (fun _=> ?_)<;>(conv=>whnf))
     all_goals try first|exact Lq
    ·subst hk
     conv=>whnf
     repeat' first|((first|refine Ci hl3 ?_|refine aG.mk 2 ?_ ?_ ?_|refine Sg ?_|refine Ni ?_ ?_);conv=>whnf)
     all_goals first
      |exact Lf|exact⟨trivial,trivial,trivial,trivial⟩|exact⟨rfl,rfl,rfl,rfl⟩
      |exact gq.of_eq (fun _=>rfl) (fun _ _ _ _=>rfl)
      |exact aF.of_eq rfl
      |decide
   ·conv=>whnf
    repeat' first|((first|refine Ci hl4 ?_|refine Sg ?_|refine Ni ?_ ?_);conv=>whnf)
    all_goals first|exact⟨aB.refl _,trivial⟩
 all_goals first|exact⟨rfl,rfl,Kq,Kq⟩
theorem drop_step{α:Type}[Inhabited α]{xs:List α}{i:Nat}(h:i<xs.length):xs.drop i=xs.getD i default::xs.drop (i+1):=by
 rw[List.drop_eq_getElem_cons h];simp[List.getD,h]
theorem Xx{nodes:List aj}{p:aO}:(rV nodes p).length<=2*(jD nodes p).length:=by
 have key: ∀(l:List Nat),(l.flatMap fun i=>(qh (jD nodes p) i).filter fun x=>x.1 !=p.id).length<=2*l.length:=by
  intro l
  induction l with
  |nil=>simp
  |cons i l ih=>
   rw[List.flatMap_cons,List.length_append,List.length_cons]
   have:=List.length_filter_le (fun x:Int×Int=>x.1 !=p.id) (qh (jD nodes p) i)
   have:(qh (jD nodes p) i).length=2:=rfl
   omega
 have:=key (List.range' 1 ((jD nodes p).length-1))
 rw[List.length_range']at this
 show((List.range' 1 ((jD nodes p).length-1)).flatMap _).length<=_
 omega
theorem agp(m:Nat){nodes:List aj}{p:aO}{a:List SV}(hle:aI a [.d (.int .i64 p.id),.d (ay encZ 1 p.known),.d (.int .i64 p.left),.d (.int .i64 p.right),.d (ay encR 4 p.near)]):(wK nodes∧RH p)->
 Sc 261 [.d (ay aZ 3 nodes),.agg a] [] (.bW m 1 0 (iG nodes p).length) [(m,.row 3 1 (iG nodes p).length (cellOf encZ (iG nodes p)))]:=fun h=>
 (YV m h).arg (aI.cons (aB.refl _) (aI.cons (aB.agg hle) aI.nil))
set_option maxHeartbeats 1000000 in
theorem abn{nodes:List aj}{ps:List aO}:(wK nodes∧um ps)-> ∃x:Nat×(Nat->Option fM)×(Nat->Nat),zL x.2.1 x.1 3 x.2.2 (jV nodes ps)∧
 Sc 159 [.d (ay aZ 3 nodes),.d (ay lI 5 ps)] [] (.bW 2000 5 0 nodes.length) [(2000,.dP 900000 114 5 nodes.length (gG x.2.2 (jV nodes ps))),(900000,.fam x.1 x.2.1)]:=by
 rintro⟨hS,hP⟩
 have hl:=hS.Jh
 have hlen:=jg (nodes:=nodes) (ps:=ps)
 have hNB:=EU (nodes:=nodes) hP Om
 have hmem: ∀p∈dB nodes ps,∃x∈nodes,x.id=p.id:=by
  intro p hp
  obtain⟨x,hx,rfl⟩:=List.mem_map.1 hp
  refine⟨x,kN.1 hx,?_⟩
  unfold jr
  cases e:ps.find? (fun p=>p.id==x.id)with
  |none=>rfl
  |some q=>have:=List.find?_some e;simp only[beq_iff_eq]at this;exact this.symm
 have cP:Tryz.prog.cellsOf 114=5:=Kq
 have bP:Tryz.prog.bytesOf 114=72:=Kq
 have cZ:Tryz.prog.cellsOf 3=1:=Kq
 have bZ:Tryz.prog.bytesOf 3=8:=Kq
 have hdef:jV nodes ps=(dB nodes ps).map (oq nodes (dB nodes ps)):=rfl
 refine uI (E:=EE) (fn:=Tryz.f159) _ _ _ true AZ Kq Kq Tryz.call159 Kq (fun _=>by kernel_rfl) (fun _=>by kernel_rfl) Kq ?_
 conv=>whnf
 repeat' first|((first|refine Cf (ET) ?_ ?_|refine Sg ?_|refine Ni ?_ ?_);conv=>whnf)
 ·generalize hold:dB nodes ps=old at*
  refine aA [0,0+1,5,6,20,21] [] (fun x:(Nat×List (Int×Int))×Nat×(Nat->Option fM)×(List Int->Nat->FC)=>[(22,.d (.int .i64 x.1.1))]) (fun x=>[(19,.dW 900000 false [.i64] false 1 (B_ x.1.2) x.2.2.2),(900000,.fam x.2.1 x.2.2.1)])
   (fun x=>(x.1.1<=old.length∧x.1.2.length<=40*x.1.1)∧x.1.2++(old.drop x.1.1).flatMap (rV nodes)=old.flatMap (rV nodes)∧TOLD x.2.2.1 x.2.1 3 x.2.2.2 x.1.2) (fun x=>old.length-x.1.1) ((0,[]),0,fun _=>none,fun _ _=>default) ?_ (fun x hx=> ?_) ⟨⟨Nat.zero_le _,by simp⟩,rfl,TOLD.nil⟩
  ·conv=>whnf
   repeat' first|((first|refine Sg ?_|refine Ni ?_ ?_);conv=>whnf)|(refine ah (fun _=> ?_) (fun _=> ?_)<;>(conv=>whnf))
   all_goals try first|exact Lq
   all_goals exact⟨fun _=>rfl,fun k j hk _=>absurd hk (by simp)⟩
  ·obtain⟨⟨i,L⟩,nk,rows,get⟩:=x
   obtain⟨⟨hi,hL⟩,hf,hT⟩:=hx
   simp only at hi hL hf hT
   have hs:i<old.length->IntKind.i64.wrap ((i:Int)+1)=((i+1:Nat):Int):=fun h=>wrap_succ (n:=1000) Om Om
   conv=>whnf
   refine ah (fun hlt=> ?_) (fun hlt=> ?_)
   ·have hlt0:i<old.length:=by simpa using hlt
    have hsi:=hs hlt0
    have hpm:=hmem _ (eF hlt0)
    have hpB:=hNB.at hlt0
    have hil:=Xx (nodes:=nodes) (p:=old.getD i default)
    have hrl:=Qc (nodes:=nodes) (p:=old.getD i default)
    rw[drop_step hlt0,List.flatMap_cons]at hf
    obtain⟨IN,hIN⟩: ∃IN,IN=rV nodes (old.getD i default):=⟨_,rfl⟩
    have hsp:Sc 259 [.d (ay aZ 3 nodes),sF (old.getD (i:Int).toNat default)] [] (.d (ay aeM 2 IN)) []:=by rw[hIN];exact ag1 ⟨hpm,hS,hpB⟩
    rw[<-hIN]at hf hil
    conv=>whnf
    repeat' first|((first|refine Ci hsp ?_|refine Sg ?_|refine Ni ?_ ?_);conv=>whnf)
    ·refine aA [0,0+1,5,6,20,21,22,28,29] [] (fun x:(Nat×List (Int×Int))×Nat×(Nat->Option fM)×(List Int->Nat->FC)=>[(30,.d (.int .i64 x.1.1))]) (fun x=>[(19,.dW 900000 false [.i64] false 1 (B_ x.1.2) x.2.2.2),(900000,.fam x.2.1 x.2.2.1)])
      (fun x=>(x.1.1<=IN.length∧x.1.2.length<=40*i+x.1.1)∧x.1.2++IN.drop x.1.1=L++IN∧TOLD x.2.2.1 x.2.1 3 x.2.2.2 x.1.2) (fun x=>IN.length-x.1.1) ((0,L),nk,rows,get) ?_ (fun x hx=> ?_) ⟨⟨Nat.zero_le _,by simp only;omega⟩,rfl,hT⟩
     ·conv=>whnf
      repeat' first|((first|refine Sg ?_|refine Ni ?_ ?_);conv=>whnf)|(refine ah (fun _=> ?_) (fun _=> ?_)<;>(conv=>whnf))
      all_goals try first|exact Lq
     ·obtain⟨⟨j,L2⟩,nk2,Ob,ag7⟩:=x
      obtain⟨⟨hj,hL2⟩,hf2,hT2⟩:=hx
      simp only at hj hL2 hf2 hT2
      conv=>whnf
      refine ah (fun hjt=> ?_) (fun hjt=> ?_)
      ·have NH:j<IN.length:=by rw[decide_eq_true_eq]at hjt;simp only[Int.toNat_natCast]at hjt;omega
       have hsj:IntKind.i64.wrap ((j:Int)+1)=((j+1:Nat):Int):=wrap_succ (n:=1000) Om Om
       have hf3:(L2++[IN.getD j default])++IN.drop (j+1)=L++IN:=by
            rw[<-hf2,drop_step NH];simp
       have htl:=RZ (L:=L2) (id:=(IN.getD j default).1)
       conv=>whnf
       repeat' first|((first|refine Sg ?_|refine Ni ?_ ?_);conv=>whnf)
       ·refine ah (fun hh=> ?_) (fun hh=> ?_)
        ·obtain⟨k,g,e1,e2,e3,e4⟩:=hT2.cell _ hh
         simp only[Int.toNat_natCast]at hh e1 e3 e4
         have e1':ag7 [((IN).getD (j:Int).toNat default).1] 0= .fs k 1 (iR L2 (IN.getD j default).1).length:=e1
         conv=>whnf
         dsimp only
         rw[e1']
         conv=>whnf
         repeat' first|((first|refine aG.mk ((j+1,L2++[IN.getD j default]),nk2+1,jc (jc Ob k none) nk2 (some ⟨3,1,(iR L2 (IN.getD j default).1).length+1,cellOf encZ (iR L2 (IN.getD j default).1++[(IN.getD j default).2])⟩),fun q c=>if q=[(IN.getD j default).1]then .fs nk2 1 ((iR L2 (IN.getD j default).1).length+1)else ag7 q c) ?_ ?_ ?_|refine Sg ?_|refine Ni ?_ ?_);conv=>whnf)
         all_goals try simp only[cZ,bZ,Int.toNat_natCast]
         all_goals first
              |exact Lf|exact⟨trivial,trivial,rfl,Kq⟩|exact aF.of_eq (by rw[hsj])|exact⟨⟨_,e3,rfl,rfl,rfl⟩,Om,Om⟩
              |exact gy.put (gy.refl _) (dN rfl ⟨fun a c ha hc=>by simp only[mO,e3];exact e4.le a c ha hc⟩ (AB (aF.of_eq rfl)))
              |(refine gq.of_eq (fun q=> ?_) (fun q c hq hc=> ?_)
                ·exact(Gh (a:=(IN.getD j default).1) (b:=(IN.getD j default).2)).symm
                ·have hc:c=0:=Om
                 subst hc
                 by_cases e:q=[(IN.getD j default).1]
                 ·simp only[if_pos e];rfl
                 ·simp only[if_neg e])
              |(refine⟨⟨Om,by rw[List.length_append,List.length_singleton];omega⟩,hf3,?_⟩
                exact hT2.push (rows':=jc (jc Ob k none) nk2 (some ⟨3,1,(iR L2 (IN.getD j default).1).length+1,cellOf encZ (iR L2 (IN.getD j default).1++[(IN.getD j default).2])⟩)) (a:=(IN.getD j default).1) (b:=(IN.getD j default).2) (g:=cellOf encZ (iR L2 (IN.getD j default).1++[(IN.getD j default).2])) (ko:=fun k'=>k'=k) (fun k' hk'=>⟨hh,(iR L2 (IN.getD j default).1).length,by have hk2:k'=k:=hk';rw[hk2];exact e1⟩) (fun k' h1 h2=>by simp only[jc];rw[if_neg h1,if_neg h2]) (by simp only[jc,if_true]) (aJ.refl _ _ _))
        ·have ht0:=told_none hh
         simp only[Int.toNat_natCast]at ht0
         conv=>whnf
         repeat' first|((first|refine aG.mk ((j+1,L2++[IN.getD j default]),nk2+1,jc Ob nk2 (some ⟨3,1,1,cellOf encZ [(IN.getD j default).2]⟩),fun q c=>if q=[(IN.getD j default).1]then .fs nk2 1 1 else ag7 q c) ?_ ?_ ?_|refine Sg ?_|refine Ni ?_ ?_);conv=>whnf)
         all_goals try simp only[cZ,bZ,Int.toNat_natCast]
         all_goals first
              |exact Lf|exact⟨trivial,trivial,rfl,Kq⟩|exact aF.of_eq (by rw[hsj])|exact gy.put (gy.refl _) (row_one (AB (aF.of_eq rfl)))
              |(refine gq.of_eq (fun q=> ?_) (fun q c hq hc=> ?_)
                ·exact(Gh (a:=(IN.getD j default).1) (b:=(IN.getD j default).2)).symm
                ·have hc:c=0:=Om
                 subst hc
                 by_cases e:q=[(IN.getD j default).1]
                 ·simp only[if_pos e];rfl
                 ·simp only[if_neg e])
              |(refine⟨⟨Om,by rw[List.length_append,List.length_singleton];omega⟩,hf3,?_⟩
                have hpu:=hT2.push (rows':=jc Ob nk2 (some ⟨3,1,1,cellOf encZ [(IN.getD j default).2]⟩)) (a:=(IN.getD j default).1) (b:=(IN.getD j default).2) (g:=cellOf encZ [(IN.getD j default).2]) (ko:=fun _=>False) (fun k' hk'=>hk'.elim) (fun k' h1 _=>by simp only[jc];rw[if_neg h1]) (by rw[ht0];simp only[jc,if_true,List.length_nil]) (by rw[ht0];exact aJ.refl _ _ _)
                rw[ht0]at hpu
                exact hpu)
       all_goals first|exact⟨rfl,rfl,rfl,Kq⟩|exact⟨by simp only;omega,by simp only;omega⟩
      ·have NH:IN.length<=j:=by rw[decide_eq_false_iff_not]at hjt;simp only[Int.toNat_natCast]at hjt;omega
       rw[List.drop_eq_nil_of_le NH,List.append_nil]at hf2
       conv=>whnf
       repeat' first|((first|refine aG.mk ((i+1,L2),nk2,Ob,ag7) ?_ ?_ ?_|refine Sg ?_|refine Ni ?_ ?_);conv=>whnf)
       all_goals try simp only[hsi]
       all_goals first
            |exact Lf|exact⟨⟨Om,Om⟩,by rw[hf2,List.append_assoc];exact hf,hT2⟩
            |skip
    ·exact⟨by simp only;omega,by simp only;omega⟩
   ·have hlt0:old.length<=i:=by simpa using hlt
    rw[List.drop_eq_nil_of_le hlt0]at hf
    have e:L=old.flatMap (rV nodes):=by rw[<-hf];simp
    subst e
    obtain⟨LL,hLL⟩: ∃LL,LL=old.flatMap (rV nodes):=⟨_,rfl⟩
    rw[<-hLL]at hT hL
    rw[<-hLL]
    conv=>whnf
    repeat' first|((first|refine Sg ?_|refine Ni ?_ ?_);conv=>whnf)
    refine aA [0,0+1,6,47,48] [19] (fun x:Nat×(Nat->Nat)×Nat×(Nat->Option fM)=>[(49,.d (.int .i64 x.1)),(11,.bW 2000 5 0 x.1)]) (fun x=>[(2000,.dP 900000 114 5 x.1 (gG x.2.1 ((old.take x.1).map (oq nodes old)))),(900000,.fam x.2.2.1 x.2.2.2)])
     (fun x=>x.1<=old.length∧zL x.2.2.2 x.2.2.1 3 x.2.1 ((old.take x.1).map (oq nodes old))∧TOLD x.2.2.2 x.2.2.1 3 get LL) (fun x=>old.length-x.1) (0,fun _=>0,nk,rows) ?_ (fun x hx=> ?_) ⟨Nat.zero_le _,l7.nil,hT⟩
    ·conv=>whnf
     repeat' first|((first|refine Sg ?_|refine Ni ?_ ?_);conv=>whnf)|(refine ah (fun _=> ?_) (fun _=> ?_)<;>(conv=>whnf))
     all_goals try first|exact Lq
    ·obtain⟨a,key,nk3,YR⟩:=x
     obtain⟨ha,hN,hT3⟩:=hx
     simp only at ha hN hT3
     conv=>whnf
     refine ah (fun hlt2=> ?_) (fun hlt2=> ?_)
     ·have hlt3:a<old.length:=by simpa using hlt2
      have hsa:IntKind.i64.wrap ((a:Int)+1)=((a+1:Nat):Int):=wrap_succ (n:=1000) Om Om
      have hpm:=hmem _ (eF hlt3)
      have hpB:=hNB.at hlt3
      obtain⟨K,hK⟩: ∃K,K=Io nodes (old.getD a default):=⟨_,rfl⟩
      have hksp:Sc 260 [.d (ay aZ 3 nodes),sF (old.getD (a:Int).toNat default)] [] (Zk K) []:=by rw[hK];exact akj ⟨hpm,hS,hpB⟩
      obtain⟨z,hz⟩: ∃z,z=oq nodes old (old.getD a default):=⟨_,rfl⟩
      have hz1:z.id=(old.getD a default).id:=by rw[hz];rfl
      have hz2:z.left=K.left:=by rw[hz,hK];rfl
      have hz3:z.right=K.right:=by rw[hz,hK];rfl
      have hz4:z.near=(old.getD a default).near:=by rw[hz];rfl
      have hz5:z.known=iG nodes ⟨(old.getD a default).id,iR LL (old.getD a default).id,K.left,K.right,[]⟩:=by rw[hz,hK,hLL];rfl
      have htk:(old.take (a+1)).map (oq nodes old)=(old.take a).map (oq nodes old)++[z]:=by rw[take_snoc hlt3,List.map_append,hz];rfl
      conv=>whnf
      repeat' first|((first|refine Ci hksp ?_|refine Sg ?_|refine Ni ?_ ?_);conv=>whnf)
      ·have hla:((old.take a).map (oq nodes old)).length=a:=by rw[List.length_map,List.length_take];omega
       have hRF: ∀{a':List SV},aI a' [.d (.int .i64 (old.getD a default).id),.d (ay encZ 1 (iR LL (old.getD a default).id)),.d (.int .i64 K.left),.d (.int .i64 K.right),.d (ay encR 4 [])]->(wK nodes∧RH ⟨(old.getD a default).id,iR LL (old.getD a default).id,K.left,K.right,[]⟩)->
            Sc 261 [.d (ay aZ 3 nodes),.agg a'] [] (.bW 5001 1 0 z.known.length) [(5001,.row 3 1 z.known.length (cellOf encZ z.known))]:=fun hle h=>by
            rw[hz5];exact agp 5001 (p:=⟨(old.getD a default).id,iR LL (old.getD a default).id,K.left,K.right,[]⟩) hle h
       have ahV:Z8 (.row 3 1 z.known.length (cellOf encZ z.known)):=fun i j hi hj=>AB (p:=fun j=>Ir (cellOf encZ z.known i j)=true) rfl j hj
       have hqB:RH ⟨(old.getD a default).id,iR LL (old.getD a default).id,K.left,K.right,[]⟩:=⟨by have:=RZ (L:=LL) (id:=(old.getD a default).id);simp only;omega,by simp⟩
       refine ah (fun hh=> ?_) (fun hh=> ?_)
       ·obtain⟨k,g,e1,e2,e3,e4⟩:=hT3.cell _ hh
        simp only[Int.toNat_natCast]at hh e1 e3 e4
        have e1':get [(old.getD (a:Int).toNat default).id] 0= .fs k 1 (iR LL (old.getD a default).id).length:=e1
        have hle:aI [.d (.int .i64 (old.getD a default).id),.d (.list (iR LL (old.getD a default).id).length 1 (mO YR k)),.d (.int .i64 K.left),.d (.int .i64 K.right),.d (.val (.slice none 0 0))] [.d (.int .i64 (old.getD a default).id),.d (ay encZ 1 (iR LL (old.getD a default).id)),.d (.int .i64 K.left),.d (.int .i64 K.right),.d (ay encR 4 [])]:=
            aI.cons (aB.refl _) (aI.cons (aB.d (aF.rows rfl ⟨fun x y hx hy=>by simp only[mO,e3];exact e4.le x y hx hy⟩)) (aI.cons (aB.refl _) (aI.cons (aB.refl _) (aI.cons (aB.d aF.nil) aI.nil))))
        conv=>whnf
        dsimp only
        rw[e1']
        conv=>whnf
        repeat' first|((first|refine Cf (hRF hle) ?_ ?_|refine aG.mk (a+1,(fun c=>if c=((old.take a).map (oq nodes old)).length then nk3 else key c),nk3+1,jc YR nk3 (some ⟨3,1,z.known.length,cellOf encZ z.known⟩)) ?_ ?_ ?_|refine Sg ?_|refine Ni ?_ ?_);conv=>whnf)
        all_goals try simp only[cP,bP,cZ,bZ,Int.toNat_natCast]
        all_goals first
            |exact Lf|exact⟨hS,hqB⟩|exact aF.of_eq (by rw[hsa])|exact⟨trivial,Om,Om⟩|exact⟨_,e3,rfl,Nat.le_refl _⟩|exact gy.refl _
            |(rw[htk];exact EN hla.symm (rfl) (by rw[hz1];rfl) (by rw[hz2]) (by rw[hz3]) (by rw[hz4];exact aF.refl _))
            |(refine⟨Om,?_,hT3.put⟩;rw[htk];exact hN.snoc rfl (aJ.refl _ _ _))
       ·have ht0:=told_none hh
        simp only[Int.toNat_natCast]at ht0
        have hle:aI [.d (.int .i64 (old.getD a default).id),.d (.val (.slice none 0 0)),.d (.int .i64 K.left),.d (.int .i64 K.right),.d (.val (.slice none 0 0))] [.d (.int .i64 (old.getD a default).id),.d (ay encZ 1 (iR LL (old.getD a default).id)),.d (.int .i64 K.left),.d (.int .i64 K.right),.d (ay encR 4 [])]:=
            aI.cons (aB.refl _) (aI.cons (aB.d (by rw[ht0];exact aF.nil)) (aI.cons (aB.refl _) (aI.cons (aB.refl _) (aI.cons (aB.d aF.nil) aI.nil))))
        conv=>whnf
        conv=>whnf
        repeat' first|((first|refine Cf (hRF hle) ?_ ?_|refine aG.mk (a+1,(fun c=>if c=((old.take a).map (oq nodes old)).length then nk3 else key c),nk3+1,jc YR nk3 (some ⟨3,1,z.known.length,cellOf encZ z.known⟩)) ?_ ?_ ?_|refine Sg ?_|refine Ni ?_ ?_);conv=>whnf)
        all_goals try simp only[cP,bP,cZ,bZ,Int.toNat_natCast]
        all_goals first
            |exact Lf|exact⟨hS,hqB⟩|exact aF.of_eq (by rw[hsa])|exact⟨trivial,Om,Om⟩|exact gy.refl _
            |(rw[htk];exact EN hla.symm (rfl) (by rw[hz1];rfl) (by rw[hz2]) (by rw[hz3]) (by rw[hz4];exact aF.refl _))
            |(refine⟨Om,?_,hT3.put⟩;rw[htk];exact hN.snoc rfl (aJ.refl _ _ _))
      all_goals first|exact⟨rfl,rfl,rfl,Kq⟩|exact⟨by simp only;omega,by simp only;omega⟩
     ·have hlt3:old.length<=a:=by simpa using hlt2
      have e2:a=nodes.length:=Om
      have e3:(old.take a).map (oq nodes old)=jV nodes ps:=by rw[vY hlt3,hdef]
      rw[e3]at hN
      conv=>whnf
      repeat' first|((first|refine Sg ?_|refine Ni ?_ ?_);conv=>whnf)
      refine⟨(nk3,YR,key),hN,?_⟩
      conv=>whnf
      repeat' first|((first|refine Sg ?_|refine Ni ?_ ?_);conv=>whnf)
      all_goals first
       |exact Lf
       |(rw[<-e2,e3];exact jo.refl _ _ _)
 all_goals exact⟨hS,hP⟩
end Go.Proofs.YtgdgkekpfmhbbaaGreatDoor
