/- Contracts of functions that the law reaches: YtgdgkekpfmhbbaaGreatDoorN56. Written for this claim. -/
import Derived.Test.YtgdgkekpfmhbbaaGreatDoorN52
import Derived.Test.YtgdgkekpfmhbbaaGreatDoorSxWlk3
namespace Go.Proofs.YtgdgkekpfmhbbaaGreatDoor
open Go Go.Sx Go.ChangeShapes Go.WideShapes Go.ChangeAt Go.RowKit
set_option linter.unusedVariables false
set_option linter.unusedSimpArgs false
set_option maxRecDepth 100000
theorem akZ(w lv:Nat)(hw:w<=65535):Sc 127 [.d (.int .u32 (w:Int)),.d (.int .i64 lv)] [] (.d (.int .i64 0)) []∨Sc 127 [.d (.int .u32 (w:Int)),.d (.int .i64 lv)] [] (.d (.int .i64 1)) []:=by
 have h:=L_ w lv hw
 have h2:Mc w (lv:Int).toNat=0∨Mc w (lv:Int).toNat=1:=by unfold Mc;omega
 split at h
 ·rcases h2 with h2|h2
  ·rw[h2]at h;exact .inl h
  ·rw[h2]at h;exact .inr h
 ·exact .inl h
theorem agM{ns:List aj}{x:aj}{lv:Nat}:((∀i,i<ns.length->(ns.getD i default).word<=65535)∧ns.length<=1000∧x.word<=65535∧lv<=16)-> ∃z:kH,True∧Sc 66 [.d (ay aZ 3 ns),zF x,.d (.int .i64 lv)] [] (adP z) []:=by
 rintro⟨hw,hl,hx,hlv⟩
 have q2:=AX hw hl hx hlv
 have hgl:(DL x.word lv ns).length<=1000:=Nat.le_trans (List.length_filter_le _ _) hl
 have hgw: ∀i,i<(DL x.word lv ns).length->((DL x.word lv ns).getD i default).word<=65535:=fun i hi=>by
  obtain⟨j,hj,e⟩:=List.mem_iff_getElem.1 (List.mem_filter.1 (eF hi)).1
  have:=hw j hj
  simp only[List.getD,List.getElem?_eq_getElem hj,Option.getD_some]at this
  rw[e]at this
  exact this
 generalize DL x.word lv ns=G at q2 hgl hgw
 refine dZ (E:=EE) (fn:=Tryz.f66) _ _ _ false AZ Kq Kq Tryz.call66 Kq (fun _=>by kernel_rfl) (fun _=>by kernel_rfl) ?_
 conv=>whnf
 repeat' first|((first|refine Ci q2 ?_|refine Sr ?_|refine Sg ?_|refine Ni ?_ ?_);conv=>whnf)
 refine aA [2,4,6,7,8,9,23,24] [4,6,8,9] (fun p:Nat×kH=>[(25,.d (.int .i64 p.1))]) (fun p=>[(7,.box [.d (.int .i64 p.2.l0),.d (.int .i64 p.2.l1),.d (.int .i64 p.2.r0),.d (.int .i64 p.2.r1)])]) (fun p=>p.1<=G.length) (fun p=>G.length-p.1) (0,⟨0,0,0,0⟩) ?_ (fun p hp=> ?_) (Nat.zero_le _)
 ·conv=>whnf
  repeat' first|((first|refine Sg ?_|refine Ni ?_ ?_);conv=>whnf)|(refine ah (fun _=> ?_) (fun _=> ?_)<;>(conv=>whnf))
  all_goals try first|exact Lq
 ·obtain⟨i,a,b,c,d⟩:=p
  have hp:i<=G.length:=hp
  dsimp only
  conv=>whnf
  refine ah (fun hlt=> ?_) (fun hlt=> ?_)
  ·have hlt0:i<G.length:=by simpa using hlt
   have hw1:IntKind.i64.wrap ((i:Int)+1)=((i+1:Nat):Int):=wrap_succ (n:=1000) Om Om
   rcases akZ (G.getD i default).word lv (hgw i hlt0)with q3|q3
   ·conv=>whnf
    repeat' first|((first|refine Ci q3 ?_|refine Sg ?_|refine Ni ?_ ?_);conv=>whnf)|(refine ah (fun _=> ?_) (fun _=> ?_)<;>(conv=>whnf))
    all_goals first
     |exact⟨Om,Om⟩|exact⟨by decide,by decide⟩
     |(refine aG.mk ((i+1,⟨a,b,c,d⟩):Nat×kH) ?_ ?_ ?_
       conv=>whnf
       repeat' first|((first|refine Sg ?_|refine Ni ?_ ?_);conv=>whnf)|(refine ah (fun _=> ?_) (fun _=> ?_)<;>(conv=>whnf))
       all_goals try first|exact Lq
       all_goals first|exact aF.of_eq (by rw[hw1])|exact⟨trivial,trivial⟩|exact Lf
       done)
     |(refine aG.mk ((i+1,⟨(G.getD i default).id,b,c,d⟩):Nat×kH) ?_ ?_ ?_
       conv=>whnf
       repeat' first|((first|refine Sg ?_|refine Ni ?_ ?_);conv=>whnf)|(refine ah (fun _=> ?_) (fun _=> ?_)<;>(conv=>whnf))
       all_goals try first|exact Lq
       all_goals first|exact aF.of_eq (by rw[hw1])|exact⟨trivial,trivial⟩|exact Lf
       done)
     |(refine aG.mk ((i+1,⟨a,b,(G.getD i default).id,d⟩):Nat×kH) ?_ ?_ ?_
       conv=>whnf
       repeat' first|((first|refine Sg ?_|refine Ni ?_ ?_);conv=>whnf)|(refine ah (fun _=> ?_) (fun _=> ?_)<;>(conv=>whnf))
       all_goals try first|exact Lq
       all_goals first|exact aF.of_eq (by rw[hw1])|exact⟨trivial,trivial⟩|exact Lf
       done)
     |(refine aG.mk ((i+1,⟨(G.getD i default).id,b,(G.getD i default).id,d⟩):Nat×kH) ?_ ?_ ?_
       conv=>whnf
       repeat' first|((first|refine Sg ?_|refine Ni ?_ ?_);conv=>whnf)|(refine ah (fun _=> ?_) (fun _=> ?_)<;>(conv=>whnf))
       all_goals try first|exact Lq
       all_goals first|exact aF.of_eq (by rw[hw1])|exact⟨trivial,trivial⟩|exact Lf
       done)
   ·conv=>whnf
    repeat' first|((first|refine Ci q3 ?_|refine Sg ?_|refine Ni ?_ ?_);conv=>whnf)|(refine ah (fun _=> ?_) (fun _=> ?_)<;>(conv=>whnf))
    all_goals first
     |exact⟨Om,Om⟩|exact⟨by decide,by decide⟩
     |(refine aG.mk ((i+1,⟨a,b,c,d⟩):Nat×kH) ?_ ?_ ?_
       conv=>whnf
       repeat' first|((first|refine Sg ?_|refine Ni ?_ ?_);conv=>whnf)|(refine ah (fun _=> ?_) (fun _=> ?_)<;>(conv=>whnf))
       all_goals try first|exact Lq
       all_goals first|exact aF.of_eq (by rw[hw1])|exact⟨trivial,trivial⟩|exact Lf
       done)
     |(refine aG.mk ((i+1,⟨a,(G.getD i default).id,c,d⟩):Nat×kH) ?_ ?_ ?_
       conv=>whnf
       repeat' first|((first|refine Sg ?_|refine Ni ?_ ?_);conv=>whnf)|(refine ah (fun _=> ?_) (fun _=> ?_)<;>(conv=>whnf))
       all_goals try first|exact Lq
       all_goals first|exact aF.of_eq (by rw[hw1])|exact⟨trivial,trivial⟩|exact Lf
       done)
     |(refine aG.mk ((i+1,⟨a,b,c,(G.getD i default).id⟩):Nat×kH) ?_ ?_ ?_
       conv=>whnf
       repeat' first|((first|refine Sg ?_|refine Ni ?_ ?_);conv=>whnf)|(refine ah (fun _=> ?_) (fun _=> ?_)<;>(conv=>whnf))
       all_goals try first|exact Lq
       all_goals first|exact aF.of_eq (by rw[hw1])|exact⟨trivial,trivial⟩|exact Lf
       done)
     |(refine aG.mk ((i+1,⟨a,(G.getD i default).id,c,(G.getD i default).id⟩):Nat×kH) ?_ ?_ ?_
       conv=>whnf
       repeat' first|((first|refine Sg ?_|refine Ni ?_ ?_);conv=>whnf)|(refine ah (fun _=> ?_) (fun _=> ?_)<;>(conv=>whnf))
       all_goals try first|exact Lq
       all_goals first|exact aF.of_eq (by rw[hw1])|exact⟨trivial,trivial⟩|exact Lf
       done)
  ·conv=>whnf
   repeat' first|((first|refine Sr ?_|refine Sg ?_|refine Ni ?_ ?_);conv=>whnf)
   all_goals first|exact⟨⟨a,b,c,d⟩,trivial,aB.refl _,trivial⟩|exact Lf
abbrev af_(m:Nat)(P:List Int->Bool):bG:= .dW m false [.i64] false 1 P (fun _ _=> .d (.bool true))
theorem asc0{nodes:List aj}(P:List Int->Bool):wK nodes-> ∃o:List Int,o.length<=nodes.length∧Sc 126 [.d (ay aZ 3 nodes),.mp 1000] [(1000,af_ 1000 P)] (.bW 2000 1 0 o.length) [(1000,af_ 1000 P),(2000,.row 3 1 o.length (cellOf encZ o))]:=by
 intro hS
 have hl:=hS.Jh
 have hsl:=eY nodes
 have cZ:Tryz.prog.cellsOf 3=1:=Kq
 have bZ:Tryz.prog.bytesOf 3=8:=Kq
 have q0:=wM ⟨hS.r,hl⟩
 generalize aH nodes=S at q0 hsl
 refine dZ (E:=EE) (fn:=Tryz.f126) _ _ _ true AZ Kq Kq Tryz.call126 Kq (fun _=>by kernel_rfl) (fun _=>by kernel_rfl) ?_
 conv=>whnf
 repeat' first|((first|refine Ci q0 ?_|refine Sr ?_|refine Sg ?_|refine Ni ?_ ?_);conv=>whnf)
 refine aA [0+1,9,10] [1000] (fun x:Nat×List Int=>[(11,.d (.int .i64 x.1)),(5,.bW 3000 1 0 x.2.length)]) (fun x=>[(3000,.row 3 1 x.2.length (cellOf encZ x.2))]) (fun x=>x.1<=S.length∧x.2.length<=x.1) (fun x=>S.length-x.1) (0,[]) ?_ (fun x hx=> ?_) ⟨Nat.zero_le _,Nat.le_refl _⟩
 ·conv=>whnf
  repeat' first|((first|refine Sg ?_|refine Ni ?_ ?_);conv=>whnf)|(refine ah (fun _=> ?_) (fun _=> ?_)<;>(conv=>whnf))
  all_goals try first|exact Lq
  all_goals first|exact pO
 ·obtain⟨i,L⟩:=x
  obtain⟨h1,h2⟩:=hx
  simp only at h1 h2
  conv=>whnf
  refine ah (fun hlt=> ?_) (fun hlt=> ?_)
  ·have hlt0:i<S.length:=by simpa using hlt
   have hw1:IntKind.i64.wrap ((i:Int)+1)=((i+1:Nat):Int):=wrap_succ (n:=1000) Om Om
   conv=>whnf
   repeat' first|((first|refine Sg ?_|refine Ni ?_ ?_);conv=>whnf)|(refine ah (fun _=> ?_) (fun _=> ?_)<;>(conv=>whnf))
   all_goals try simp only[cZ,bZ]
   all_goals first
    |exact⟨Om,Om⟩|exact⟨by simp only;omega,by simp only;omega⟩|exact⟨trivial,trivial,Kq,Kq⟩|exact⟨rfl,trivial,Kq,Kq⟩|exact⟨trivial,Om,Om⟩
    |(refine aG.mk ((i+1,L):Nat×List Int) ?_ ?_ ?_
      conv=>whnf
      repeat' first|((first|refine Sg ?_|refine Ni ?_ ?_);conv=>whnf)|(refine ah (fun _=> ?_) (fun _=> ?_)<;>(conv=>whnf))
      all_goals try first|exact Lq
      all_goals try simp only[cZ,bZ,List.length_append,List.length_singleton]
      all_goals first|exact aF.of_eq (by rw[hw1])|exact⟨Om,Om⟩|exact dN rfl (aJ.refl _ _ _) (AB (aF.of_eq rfl))|exact Lf
      done)
    |(refine aG.mk ((i+1,L++[(S.getD i default).id]):Nat×List Int) ?_ ?_ ?_
      conv=>whnf
      repeat' first|((first|refine Sg ?_|refine Ni ?_ ?_);conv=>whnf)|(refine ah (fun _=> ?_) (fun _=> ?_)<;>(conv=>whnf))
      all_goals try first|exact Lq
      all_goals try simp only[cZ,bZ,List.length_append,List.length_singleton]
      all_goals first|exact aF.of_eq (by rw[hw1])|exact⟨Om,Om⟩|exact dN rfl (aJ.refl _ _ _) (AB (aF.of_eq rfl))|exact Lf
      done)
  ·have e0:i=S.length:=by have: ¬i<S.length:=by simpa using hlt
                          omega
   subst e0
   conv=>whnf
   repeat' first|((first|refine Sr ?_|refine Sg ?_|refine Ni ?_ ?_);conv=>whnf)
   all_goals first
    |(refine⟨L,Om,?_⟩
      conv=>whnf
      repeat' first|((first|refine Sr ?_|refine Sg ?_|refine Ni ?_ ?_);conv=>whnf)
      all_goals first
          |exact Lf|exact⟨aB.refl _,aI.refl _,trivial⟩
          |trace_state)
abbrev ajV(m:Nat)(P:List Int->Bool):bG:= .dW 900000 false [.i64] false 1 P (fun _ _=> .d (.bool true))
theorem ahB(m:Nat)(hm:m≠2000)(P:List Int->Bool){nodes:List aj}(h:wK nodes): ∃o:List Int,o.length<=nodes.length∧Sc 126 [.d (ay aZ 3 nodes),.mp m] [(m,af_ m P)] (.bW 2000 1 0 o.length) [(m,af_ m P),(2000,.row 3 1 o.length (cellOf encZ o))]:=by
 obtain⟨o,ho,hs⟩:=asc0 P h
 refine⟨o,ho,?_⟩
 have:=hs.ren (fun i=>if i=1000 then m else i) (by
  intro a b ha hb e
  simp only[aQ,List.map_cons,List.map_nil,List.mem_cons,List.not_mem_nil,or_false]at ha hb
  rcases ha with rfl|rfl<;>rcases hb with rfl|rfl<;>first|rfl|(simp at e;omega))
 simpa[qI,j_,lC,xC]using this
theorem akT{nodes:List aj}{x:aj}{c h:Nat}:(wK nodes∧x∈nodes∧(1<=c∧c<=60)∧h<=15)-> ∃o:List Int,o.length<=nodes.length∧Sc 65 [.d (ay aZ 3 nodes),.d (.int .i64 x.id),.d (.int .i64 c),.d (.int .i64 h)] [] (.bW 2000 1 0 o.length) [(2000,.row 3 1 o.length (cellOf encZ o))]:=by
 rintro⟨hS,hx,⟨hc1,hc2⟩,hh⟩
 have hl:=hS.Jh
 have hsl:=eY nodes
 have q0:=wM ⟨hS.r,hl⟩
 have q1:=wI (nodes:=nodes) (id:=x.id) (x:=x) ⟨BQ hS.r.ids hx,Om⟩
 have q2:=pF hS
 have hw: ∀i,i<(aH nodes).length->((aH nodes).getD i default).word<=65535:=fun i hi=>hS.wd _ (kN.1 (eF hi))
 have hxw:=hS.wd _ hx
 generalize aH nodes=S at q0 hsl hw
 have e1:decide ((c:Int)<1)=false:=decide_eq_false Om
 have e2:decide ((h:Int)<0)=false:=decide_eq_false Om
 have e3:decide ((h:Int)>16)=false:=decide_eq_false Om
 have hw1:IntKind.i64.wrap ((h:Int)+1)=((h+1:Nat):Int):=wrap_succ (n:=1000) Om Om
 refine uI (E:=EE) (fn:=Tryz.f65) _ _ _ true AZ Kq Kq Tryz.call65 Kq (fun _=>by kernel_rfl) (fun _=>by kernel_rfl) Kq ?_
 conv=>whnf
 repeat' first|((first|refine Ci q0 ?_|refine Ci q1 ?_|refine Ci q2 ?_|refine Sr ?_|refine Sg ?_|refine Ni ?_ ?_);conv=>whnf)
 refine aA [0,0+1,0+1+1,0+1+1+1,9,12,47] [9] (fun x:Nat×(List Int->Bool)=>[(48,.d (.int .i64 x.1)),(11,.mp 43)]) (fun x=>[(43,ajV 43 x.2),(900000,.fam 0 (fun _=>none))]) (fun x=>x.1<=h+1) (fun x=>h+1-x.1) (0,fun _=>false) ?_ (fun x hx=> ?_) (Nat.zero_le _)
 ·conv=>whnf
  repeat' first|((first|refine Sg ?_|refine Ni ?_ ?_);conv=>whnf)|(refine ah (fun _=> ?_) (fun _=> ?_)<;>(conv=>whnf))
  all_goals try first|exact Lq
  all_goals first
   |exact gq.of_eq (fun q=>rfl) (fun q c hq hc=>by cases hq)
 ·obtain⟨l,P⟩:=x
  have hx:l<=h+1:=hx
  conv=>whnf
  refine ah (fun hlt=> ?_) (fun hlt=> ?_)
  ·have hlt0:l<h+1:=by rw[hw1]at hlt;have:=of_decide_eq_true hlt;simp only at this;omega
   have hwl:IntKind.i64.wrap ((l:Int)+1)=((l+1:Nat):Int):=wrap_succ (n:=1000) Om Om
   have q3:=AX hw Om hxw (lv:=l) Om
   have hgl:(DL x.word l S).length<=20:=Nat.le_trans (List.length_filter_le _ _) Om
   generalize DL x.word l S=G at q3 hgl
   obtain⟨k,⟨hk1,hk2⟩,q4⟩:=aer x G Om
   conv=>whnf
   repeat' first|((first|refine Ci q3 ?_|refine Ci q4 ?_|refine Sg ?_|refine Ni ?_ ?_);conv=>whnf)
   refine aA [0,0+1,0+1+1,0+1+1+1,9,12,47,48,15,59,60] [9] (fun x:Nat×(List Int->Bool)=>[(61,.d (.int .i64 x.1)),(11,.mp 43)]) (fun x=>[(43,ajV 43 x.2),(900000,.fam 0 (fun _=>none))]) (fun x=>x.1<=G.length) (fun x=>G.length-x.1) (0,P) ?_ (fun x hx=> ?_) (Nat.zero_le _)
   ·conv=>whnf
    repeat' first|((first|refine Sg ?_|refine Ni ?_ ?_);conv=>whnf)|(refine ah (fun _=> ?_) (fun _=> ?_)<;>(conv=>whnf))
    all_goals try first|exact Lq
   ·obtain⟨j,P⟩:=x
    have hx:j<=G.length:=hx
    conv=>whnf
    refine ah (fun hlt=> ?_) (fun hlt=> ?_)
    ·have hlj:j<G.length:=by simpa using hlt
     have hwj:IntKind.i64.wrap ((j:Int)+1)=((j+1:Nat):Int):=wrap_succ (n:=1000) Om Om
     conv=>whnf
     repeat' first|((first|refine Sg ?_|refine Ni ?_ ?_);conv=>whnf)|(refine ah (fun _=> ?_) (fun _=> ?_)<;>(conv=>whnf))
     all_goals first
      |exact⟨Om,Om⟩|exact⟨trivial,trivial,Kq,Kq⟩|exact⟨rfl,rfl,Kq,Kq⟩
      |(refine aG.mk ((j+1,P):Nat×(List Int->Bool)) ?_ ?_ ?_
        conv=>whnf
        repeat' first|((first|refine Sg ?_|refine Ni ?_ ?_);conv=>whnf)|(refine ah (fun _=> ?_) (fun _=> ?_)<;>(conv=>whnf))
        all_goals try first|exact Lq
        all_goals first
            |exact aF.of_eq (by rw[hwj])
            |exact gq.of_eq (fun q=>rfl) (fun q c hq hc=>rfl)
            |(refine gq.of_eq (fun q=>rfl) (fun q c hq hc=> ?_)
              obtain rfl:c=0:=Om
              split<;>rfl)
            |exact Lf
        done)
      |(refine aG.mk ((j+1,fun q=>q==[(G.getD j default).id]||P q):Nat×(List Int->Bool)) ?_ ?_ ?_
        conv=>whnf
        repeat' first|((first|refine Sg ?_|refine Ni ?_ ?_);conv=>whnf)|(refine ah (fun _=> ?_) (fun _=> ?_)<;>(conv=>whnf))
        all_goals try first|exact Lq
        all_goals first
            |exact aF.of_eq (by rw[hwj])
            |exact gq.of_eq (fun q=>rfl) (fun q c hq hc=>rfl)
            |(refine gq.of_eq (fun q=>rfl) (fun q c hq hc=> ?_)
              obtain rfl:c=0:=Om
              split<;>rfl)
            |exact Lf
        done)
    ·conv=>whnf
     repeat' first|((first|refine Sg ?_|refine Ni ?_ ?_);conv=>whnf)
     all_goals first
      |(refine aG.mk ((l+1,P):Nat×(List Int->Bool)) ?_ ?_ ?_
        conv=>whnf
        repeat' first|((first|refine Sg ?_|refine Ni ?_ ?_);conv=>whnf)|(refine ah (fun _=> ?_) (fun _=> ?_)<;>(conv=>whnf))
        all_goals try first|exact Lq
        all_goals first
            |exact aF.of_eq (by rw[hwl])
            |exact gq.of_eq (fun q=>rfl) (fun q c hq hc=>rfl)
            |(refine gq.of_eq (fun q=>rfl) (fun q c hq hc=> ?_)
              obtain rfl:c=0:=Om
              split<;>rfl)
            |exact Lf
        done)
  ·obtain⟨o,ho,q5⟩:=ahB 43 (by decide) P hS
   have q6:=q5.gany (fn:=900000) (fun _ _ _ _=>⟨_,rfl⟩)
   conv=>whnf
   repeat' first|((first|refine Ci q6 ?_|refine Sg ?_|refine Ni ?_ ?_);conv=>whnf)
   all_goals first
    |(refine⟨o,ho,?_⟩
      conv=>whnf
      repeat' first|((first|refine Sg ?_|refine Ni ?_ ?_);conv=>whnf)
      all_goals first
          |exact Lf|exact aJ.refl _ _ _
          |trace_state)
theorem ahm(m:Nat){nodes:List aj}{x:aj}{c h:Nat}(hh:wK nodes∧x∈nodes∧(1<=c∧c<=60)∧h<=15): ∃o:List Int,o.length<=nodes.length∧Sc 65 [.d (ay aZ 3 nodes),.d (.int .i64 x.id),.d (.int .i64 c),.d (.int .i64 h)] [] (.bW m 1 0 o.length) [(m,.row 3 1 o.length (cellOf encZ o))]:=by
 obtain⟨o,ho,hs⟩:=akT hh
 exact⟨o,ho,hs.new1 m⟩
theorem aiE{nodes:List aj}{c h:Nat}:(wK nodes∧(1<=c∧c<=60)∧h<=15)-> ∃ps:List aO,(ps.length=nodes.length∧∀p∈ps,RH p)∧Sc 27 [.d (ay aZ 3 nodes),.d (.int .i64 c),.d (.int .i64 h)] [] (.bW 2000 5 0 nodes.length)
 [(2000,.dP 900000 114 5 nodes.length (qQ ps)),(900000,.fam (2*nodes.length) (qo 3 152 ps))]:=by
 rintro⟨hS,hc,hh⟩
 have hl:=hS.Jh
 have hsl:=eY nodes
 have cP:Tryz.prog.cellsOf 114=5:=Kq
 have bP:Tryz.prog.bytesOf 114=72:=Kq
 have cR:Tryz.prog.cellsOf 152=4:=Kq
 have bR:Tryz.prog.bytesOf 152=32:=Kq
 have q0:=wM ⟨hS.r,hl⟩
 have q2:=pF hS
 have hmem: ∀i,i<(aH nodes).length->(aH nodes).getD i default∈nodes:=fun i hi=>kN.1 (eF hi)
 generalize aH nodes=S at q0 hsl hmem
 have hw: ∀i,i<S.length->(S.getD i default).word<=65535:=fun i hi=>hS.wd _ (hmem i hi)
 have e2:decide ((h:Int)<0)=false:=decide_eq_false Om
 have e3:decide ((h:Int)>16)=false:=decide_eq_false Om
 refine uI (E:=EE) (fn:=Tryz.f27) _ _ _ true AZ Kq Kq Tryz.call27 Kq (fun _=>by kernel_rfl) (fun _=>by kernel_rfl) Kq ?_
 conv=>whnf
 repeat' first|((first|refine Ci q0 ?_|refine Ci q2 ?_|refine Sr ?_|refine Sg ?_|refine Ni ?_ ?_);conv=>whnf)
 refine aA [0,0+1,0+1+1,7,28,29] [] (fun x:Nat×List aO=>[(30,.d (.int .i64 x.1)),(8,.bW 2000 5 0 x.1)]) (fun x=>[(2000,.dP 900000 114 5 x.1 (qQ x.2)),(900000,.fam (2*x.1) (qo 3 152 x.2))])
  (fun x=>x.1<=S.length∧x.2.length=x.1∧∀p∈x.2,RH p) (fun x=>S.length-x.1) (0,[]) ?_ (fun x hx=> ?_) ⟨Nat.zero_le _,rfl,fun p hp=>by cases hp⟩
 ·conv=>whnf
  repeat' first|((first|refine Sg ?_|refine Ni ?_ ?_);conv=>whnf)|(refine ah (fun _=> ?_) (fun _=> ?_)<;>(conv=>whnf))
  all_goals try first|exact Lq
  all_goals first|exact G8
 ·obtain⟨i,ps⟩:=x
  obtain⟨h1,h2,h3⟩:=hx
  simp only at h1 h2 h3
  conv=>whnf
  refine ah (fun hlt=> ?_) (fun hlt=> ?_)
  ·have hlt0:i<S.length:=by simpa using hlt
   have hw1:IntKind.i64.wrap ((i:Int)+1)=((i+1:Nat):Int):=wrap_succ (n:=1000) Om Om
   have hm:=hmem i hlt0
   have hxw:=hw i hlt0
   obtain⟨⟨a,b⟩,_,q3⟩:=adO ⟨hS,hm⟩
   obtain⟨o,ho,q4⟩:=ahm 4001 ⟨hS,hm,hc,hh⟩
   dsimp only at q3
   conv=>whnf
   repeat' first|((first|refine Ci q3 ?_|refine Ci q4 ?_|refine Sr ?_|refine Sg ?_|refine Ni ?_ ?_);conv=>whnf)
   ·refine aA [0,0+1,0+1+1,7,8,10,13,28,29,30,54] [10,4001,2000,900000] (fun x:Nat×List kH=>[(55,.d (.int .i64 x.1))]) (fun x=>[(13,.box [.d (.int .i64 (S.getD i default).id),.bW 4001 1 0 o.length,.d (.int .i64 a),.d (.int .i64 b),.bW 4002 4 0 x.1]),(4002,.row 152 4 x.1 (cellOf encR x.2))])
     (fun x=>x.1<=h∧x.2.length=x.1) (fun x=>h-x.1) (0,[]) ?_ (fun x hx=> ?_) ⟨Nat.zero_le _,rfl⟩
    ·conv=>whnf
     repeat' first|((first|refine Sg ?_|refine Ni ?_ ?_);conv=>whnf)|(refine ah (fun _=> ?_) (fun _=> ?_)<;>(conv=>whnf))
     all_goals try first|exact Lq
     all_goals first|exact pO
    ·obtain⟨j,N⟩:=x
     obtain⟨g1,g2⟩:=hx
     simp only at g1 g2
     conv=>whnf
     refine ah (fun hlt=> ?_) (fun hlt=> ?_)
     ·have hlj:j<h:=by have:=of_decide_eq_true hlt;simp only at this;omega
      have hwj:IntKind.i64.wrap ((j:Int)+1)=((j+1:Nat):Int):=wrap_succ (n:=1000) Om Om
      obtain⟨z,_,q5⟩:=agM (ns:=S) (x:=S.getD i default) (lv:=j) ⟨hw,Om,hxw,Om⟩
      conv=>whnf
      repeat' first|((first|refine Ci q5 ?_|refine Sr ?_|refine aG.mk (j+1,N++[z]) ?_ ?_ ?_|refine Sg ?_|refine Ni ?_ ?_);conv=>whnf)
      all_goals try simp only[cR,bR]
      all_goals first|exact Lf|exact aF.of_eq (by rw[hwj])|exact⟨Om,Om⟩|exact⟨trivial,Om,Om⟩|exact⟨Om,by simp only[List.length_append,List.length_singleton];omega⟩|exact dN g2.symm (aJ.refl _ _ _) (agY (aF.of_eq rfl) (aF.of_eq rfl) (aF.of_eq rfl) (aF.of_eq rfl))
     ·have hje:j=h:=by have:=of_decide_eq_false hlt;simp only at this;omega
      subst hje
      conv=>whnf
      repeat' first|((first|refine Sr ?_|refine aG.mk (i+1,ps++[⟨(S.getD i default).id,o,a,b,N⟩]) ?_ ?_ ?_|refine Sg ?_|refine Ni ?_ ?_);conv=>whnf)
      all_goals try simp only[cP,bP]
      all_goals first
          |exact Lf|exact aF.of_eq (by rw[hw1])|exact⟨Om,Om⟩|exact⟨trivial,Om,Om⟩
          |(refine⟨Om,by simp only[List.length_append,List.length_singleton];omega,fun p hp=> ?_⟩
            rcases List.mem_append.1 hp with hp|hp
            ·exact h3 p hp
            ·rw[List.mem_singleton.1 hp];exact⟨by show o.length<=1000;omega,by show N.length<=1000;omega⟩)
          |exact DT Om rfl g2.symm (aJ.refl _ _ _) (aJ.refl _ _ _)|exact DN h2.symm rfl rfl rfl g2.symm rfl rfl rfl
   all_goals exact⟨by simp only;omega,by simp only;omega⟩
  ·have e0:i=S.length:=by have: ¬i<S.length:=by simpa using hlt
                          omega
   subst e0
   conv=>whnf
   repeat' first|((first|refine Sr ?_|refine Sg ?_|refine Ni ?_ ?_);conv=>whnf)
   all_goals first
    |(refine⟨ps,⟨Om,h3⟩,?_⟩
      rw[<-hsl]
      conv=>whnf
      repeat' first|((first|refine Sr ?_|refine Sg ?_|refine Ni ?_ ?_);conv=>whnf)
      all_goals first
          |exact Lf
          |trace_state)
theorem adl{nodes:List aj}{c h:Nat}(hh:wK nodes∧(1<=c∧c<=60)∧h<=15): ∃ps:List aO,um ps∧Sc 27 [.d (ay aZ 3 nodes),.d (.int .i64 c),.d (.int .i64 h)] [] (.d (ay lI 5 ps)) []:=by
 obtain⟨ps,⟨hlen,hB⟩,h0⟩:=aiE hh
 refine⟨ps,⟨by have:=hh.1.Jh;omega,hB⟩,?_⟩
 have:=Spec.yO (l9:=[]) (pre:=[]) (m:=2000) (fn:=900000) h0 rfl (fun i j hi hj=>(oK (by rw[hlen];exact hi) hj).1) (by simp) (by simp[pV,Nat.beq_refl,dO])
 simp only[pV,Nat.beq_refl]at this
 refine this.res (aB.d (aF.rows hlen.symm ⟨fun i j hi hj=> ?_⟩)) (by simp[dO])
 rw[Nat.zero_add]
 exact(oK hi hj).2
theorem ae0(T:List Row)(r:jl):aB (.agg [.d (.str r.1),.d (.bool r.2.1),.d (.str r.2.2.1),.d (.bool r.2.2.2),.d (.int .i64 0),.d (.int .i64 0),.d (ay bF 2 (dw T r)),.d (.val (.slice none 0 0)),
 .d (.int .i64 0),.d (.int .i64 0),.d (.int .i64 0),.d (.int .i64 0),.d (.int .i64 0),.d (.str []),.d (.bool false),.d (.str []),.d (.bool false),.d (.val (.slice none 0 0)),
 .d (.int .i64 0),.d (.int .i64 0),.d (.int .i64 0),.d (.int .i64 0),.d (.int .i64 0),.d (.str []),.d (.bool false),.d (.str []),.d (.bool false),.d (.val (.slice none 0 0)),
 .d (.int .i64 0),.d (.int .i64 0)]) (.agg (O8 (I4 T r))):=by
 refine aB.agg ?_
 repeat' first|exact aI.nil|refine aI.cons ?_ ?_
 all_goals first|exact aB.refl _|exact aN rfl
theorem acV{T:List Row}(hT:iW T){r:jl}:Small (I4 T r):=by
 have hl:=(oZ (r:=r) hT).len
 refine⟨?_,by simp[I4],by simp[I4,jh],by simp[I4,jh]⟩
 show(dw T r).length<=1000000
 omega
theorem aiK(n:Int)(ids:List Int)(T:List Row)(r:jl)(g:bC)(hg:newG n ids (I4 T r)=(g,0))(hs:Small (I4 T r)∧ids.length<=1000):Sc 20 [.d (.int .i64 n),.d (ay encI 1 ids),.agg [.d (.str r.1),.d (.bool r.2.1),.d (.str r.2.2.1),.d (.bool r.2.2.2),.d (.int .i64 0),.d (.int .i64 0),.d (ay bF 2 (dw T r)),.d (.val (.slice none 0 0)),
 .d (.int .i64 0),.d (.int .i64 0),.d (.int .i64 0),.d (.int .i64 0),.d (.int .i64 0),.d (.str []),.d (.bool false),.d (.str []),.d (.bool false),.d (.val (.slice none 0 0)),
 .d (.int .i64 0),.d (.int .i64 0),.d (.int .i64 0),.d (.int .i64 0),.d (.int .i64 0),.d (.str []),.d (.bool false),.d (.str []),.d (.bool false),.d (.val (.slice none 0 0)),
 .d (.int .i64 0),.d (.int .i64 0)]] [] (.cO [.agg (GV g),.d (.int .i64 0)]) []:=by
 have h:=Xf n ids (I4 T r) hs
 rw[hg]at h
 exact h.arg (aI.cons (aB.refl _) (aI.cons (aB.refl _) (aI.cons (ae0 T r) aI.nil)))
theorem akK{α:Type}[Inhabited α]{enc:α->List D}{xs:List α}:(fun i j=>cellOf enc xs (0+i) j)=cellOf enc xs:=by
 funext i j;rw[Nat.zero_add]
theorem rosO{n1 n2:Nat}(names:List aj)(gs:List bC)(h:NM names gs)(e1:n1=names.length)(e2:n2=gs.length)(x0 x2 x3 x5 x6 x7 x8 x9 xa:D):
 Sc 25 [.agg [.d x0,.d (.list n1 3 fun i j=>cellOf aZ names (0+i) j),.d x2,.d x3,.d (.list n2 3 fun i j=>cellOf m_ gs (0+i) j),.d x5,.d x6,.d x7,.d x8,.d x9,.d xa]] [] (.d (ay aZ 3 (IV names gs))) []:=by
 subst e1 e2
 rw[akK,akK]
 exact Af names gs h x0 x2 x3 x5 x6 x7 x8 x9 xa
theorem aip(m n:Nat)(xs:List aj)(e:n=xs.length)(hl:xs.length<=12)(hid:Z5 xs):Sc 23 [.bW m 3 0 n,.clo 24 []] [(m,.row 72 3 n (cellOf aZ xs))] (.cO []) [(m,.row 72 3 n (cellOf aZ (z_ xs (xs.length-1))))]:=by
 subst e
 have:=(aio xs hl hid).at m
 simpa[qI,j_,lC]using this
abbrev KD:SV:= .d (.val (.slice none 0 0))
theorem aiD{ps:List aO}(h:um ps):PsB ps:=by
 refine⟨h.len,fun i hi=> ?_,fun i hi=> ?_⟩
 ·have:=(h.at hi).known;omega
 ·have:=(h.at hi).near;omega
set_option maxHeartbeats 2000000 in
theorem agJ{ns:List aj}{T:List Row}{c h:Nat}:((vK ns∧ns.length<=5∧0<ns.length)∧iW T∧(1<=c∧c<=3)∧h<=3)->
 ∃w:WT,(WOk w∧w.asked=[]∧w.log=[]∧qF T (vw (aH ns)) (w.grp.map zV))∧Sc 6 [.agg (ais ns T c h)] [] (.cO [.agg (dM w),.d (.int .i64 0)]) []:=by
 rintro⟨⟨hR,hl5,hpos⟩,hT,⟨hc1,hc3⟩,hh⟩
 have hTl:=hT.len
 have cZ:Tryz.prog.cellsOf 3=1:=Kq
 have bZ:Tryz.prog.bytesOf 3=8:=Kq
 have q1:=sW ns Om
 rw[oM.2 hR]at q1
 have q2:=yC T
 rw[jf.2 hT]at q2
 have q3:=uj T Om
 have q4:=wM (xs:=ns) ⟨hR,Om⟩
 have hs0:vK (aH ns):=hR.sort
 have ha0:Asc (aH ns):=BD hR.keys
 have hsl:(aH ns).length=ns.length:=eY ns
 have akA:aH (aH ns)=aH ns:=SI ha0
 generalize aH ns=s at q4 hs0 ha0 hsl akA
 have e0:((ns.length:Int)==0)=false:=by rw[beq_eq_false_iff_ne];omega
 have e1:decide ((c:Int)<1)=false:=decide_eq_false Om
 have e2:decide ((c:Int)>5)=false:=decide_eq_false Om
 have e3:decide ((h:Int)<0)=false:=decide_eq_false Om
 have e4:decide ((h:Int)>16)=false:=decide_eq_false Om
 refine dZ (E:=EE) (fn:=Tryz.f6) _ _ _ false AZ Kq Kq Tryz.call6 Kq (fun _=>by kernel_rfl) (fun _=>by kernel_rfl) ?_
 conv=>whnf
 repeat' first|((first|refine Ci q1 ?_|refine Ci q2 ?_|refine Ci q3 ?_|refine Ci q4 ?_|refine Sr ?_|refine Sg ?_|refine Ni ?_ ?_);conv=>whnf)
 refine aA [1,2,3,4,5,63,64] [1,2] (fun i:Nat=>[(65,.d (.int .i64 i))]) (fun i=>[(4,.box [.d (.int .i64 h),.bW 5001 3 0 i,KD,.d (.int .i64 ns.length),.bW 5002 3 0 i,KD,KD,KD,KD,.d (ay bF 2 T),KD]),(5001,.row 72 3 i (cellOf aZ ((s.map blank).take i))),(5002,.row 79 3 i (cellOf m_ (kT T s c i)))])
  (fun i=>i<=s.length) (fun i=>s.length-i) 0 ?_ (fun i hi=> ?_) (Nat.zero_le _)
 ·conv=>whnf
  repeat' first|((first|refine Sg ?_|refine Ni ?_ ?_);conv=>whnf)|(refine ah (fun _=> ?_) (fun _=> ?_)<;>(conv=>whnf))
  all_goals try first|exact Lq
 ·conv=>whnf
  refine ah (fun hlt=> ?_) (fun hlt=> ?_)
  ·have hlt0:i<s.length:=by simpa using hlt
   have hw1:IntKind.i64.wrap ((i:Int)+1)=((i+1:Nat):Int):=wrap_succ (n:=1000) Om Om
   have q5:=abq hs0 akA Om hlt0
   have q6:=QC (ns:=s) Om hlt0 c
   have q7:=kV T (gu s i).1 (gu s i).2.1 (gu s i).2.2.1 (gu s i).2.2.2 Om
   have q8:=aiK (i+1) ((KN s i).take c) T (gu s i) (Cj T s c i) (aex hT hs0 ha0 hlt0 hc1 Om) ⟨acV hT,by rw[List.length_take];omega⟩
   have hw1':((i:Int)+1)=IntKind.i64.wrap ((i:Int)+1):=by rw[hw1];rfl
   rw[hw1']at q8
   generalize gu s i=r at q5 q7 q8
   generalize (KN s i).take c=M at q6 q8
   have hgs:kT T s c (i+1)=kT T s c i++[Cj T s c i]:=abC
   have hns:(s.map blank).take (i+1)=(s.map blank).take i++[blank (s.getD i default)]:=by
    rw[take_succ' (by rw[List.length_map];exact hlt0),pY hlt0]
   generalize Cj T s c i=g at q8 hgs
   conv=>whnf
   repeat' first|((first|refine Ci q5 ?_|refine Ci q6 ?_|refine Ci q7 ?_|refine Ci q8 ?_|refine Sr ?_|refine aG.mk (i+1) ?_ ?_ ?_|refine Sg ?_|refine Ni ?_ ?_);conv=>whnf)
   all_goals try simp only[hgs,hns,cNd,bNd,cGr,bGr]
   all_goals first|exact Lf|exact aF.of_eq (by rw[hw1])|exact⟨Om,Om⟩|exact⟨rfl,Om,Om⟩|exact⟨trivial,Om,Om⟩|exact dN (enc:=aZ) (by rw[List.length_take,List.length_map];omega) (aJ.refl _ _ _) (xO (aF.of_eq rfl) (aF.of_eq rfl) (aF.of_eq rfl))|exact dN (enc:=m_) lS.symm (aJ.refl _ _ _) (xO (aF.of_eq rfl) (aF.of_eq rfl) (aF.of_eq rfl))
  ·have e5:i=s.length:=by have: ¬i<s.length:=by simpa using hlt
                          omega
   subst e5
   have hxl:((s.map blank).take s.length).length=s.length:=by rw[List.length_take,List.length_map];omega
   have hxe:(s.map blank).take s.length=s.map blank:=List.take_of_length_le (by rw[List.length_map];omega)
   have hZp:(z_ ((s.map blank).take s.length) (((s.map blank).take s.length).length-1)).Perm (s.map blank):=by
    have:=Gi (xs:=(s.map blank).take s.length) (i:=((s.map blank).take s.length).length-1) Om
    rwa [hxe]at this⊢
   have q9:=aip 5001 s.length ((s.map blank).take s.length) hxl.symm Om (aiV hs0 (.of_eq hxe))
   generalize z_ ((s.map blank).take s.length) (((s.map blank).take s.length).length-1)=Z at q9 hZp
   have hZl:Z.length=s.length:=by rw[hZp.length_eq,List.length_map]
   have aiY:NM Z (kT T s c s.length):=aa6 hs0 ha0 Om hc1 hZp
   conv=>whnf
   repeat' first|((first|refine Ci q9 ?_|refine Sr ?_|refine Sg ?_|refine Ni ?_ ?_);conv=>whnf)
   refine aA [1,2,3,4,119,120] [1,2,5001,5002] (fun i:Nat=>[(121,.d (.int .i64 i))]) (fun i=>[(4,.box [.d (.int .i64 h),.bW 5001 3 0 s.length,.bW 5003 1 0 i,.d (.int .i64 ns.length),.bW 5002 3 0 s.length,KD,KD,KD,KD,.d (ay bF 2 T),KD]),(5003,.row 3 1 i (cellOf encZ ((Z.map (·.id)).take i)))])
    (fun i=>i<=s.length) (fun i=>s.length-i) 0 ?_ (fun i hi=> ?_) (Nat.zero_le _)
   ·conv=>whnf
    repeat' first|((first|refine Sg ?_|refine Ni ?_ ?_);conv=>whnf)|(refine ah (fun _=> ?_) (fun _=> ?_)<;>(conv=>whnf))
    all_goals try first|exact Lq
    all_goals first|exact pO
   ·conv=>whnf
    refine ah (fun hlt=> ?_) (fun hlt=> ?_)
    ·have hlt0:i<s.length:=by simpa using hlt
     have hw1:IntKind.i64.wrap ((i:Int)+1)=((i+1:Nat):Int):=wrap_succ (n:=1000) Om Om
     have hns:(Z.map (·.id)).take (i+1)=(Z.map (·.id)).take i++[(Z.getD i default).id]:=by
      rw[take_succ' (by rw[List.length_map];omega),pY Om]
     conv=>whnf
     repeat' first|((first|refine Sr ?_|refine aG.mk (i+1) ?_ ?_ ?_|refine Sg ?_|refine Ni ?_ ?_);conv=>whnf)
     all_goals try simp only[hns,cZ,bZ,Nat.zero_add,Int.toNat_natCast]
     all_goals first|exact Lf|exact aF.of_eq (by rw[hw1])|exact⟨Om,Om⟩|exact⟨rfl,Om,Om⟩|exact⟨trivial,Om,Om⟩|exact dN (enc:=encZ) (by rw[List.length_take,List.length_map];omega) (aJ.refl _ _ _) (AB (aF.of_eq rfl))
    ·have e6:i=s.length:=by have: ¬i<s.length:=by simpa using hlt
                            omega
     subst e6
     have q10:=fun x0 x2 x3 x5 x6 x7 x8 x9 xa=>rosO (n1:=s.length) (n2:=s.length) Z (kT T s c s.length) aiY hZl.symm lS.symm x0 x2 x3 x5 x6 x7 x8 x9 xa
     have hsm:wK (IV Z (kT T s c s.length)):=⟨aiY.rst.sort,by unfold IV Gt;rw[eY,List.length_map];omega⟩
     obtain⟨ps,hps,q11⟩:=adl (nodes:=IV Z (kT T s c s.length)) (c:=c) (h:=h) ⟨hsm,Om,Om⟩
     have q12:=abH ⟨hsm,hps⟩
     generalize IV Z (kT T s c s.length)=R at q10 hsm q11 q12
     conv=>whnf
     repeat' first|((first|refine Ci (q10 _ _ _ _ _ _ _ _ _) ?_|refine Ci q11 ?_|refine Ci q12 ?_|refine Sr ?_|refine Sg ?_|refine Ni ?_ ?_);conv=>whnf)
     have hue:(Z.map (·.id)).take s.length=Z.map (·.id):=List.take_of_length_le (by rw[List.length_map];omega)
     rw[hue]
     have hpB:=aiD (EU (nodes:=R) hps (by have:=hsm.Jh;omega))
     have hgB:GsB (kT T s c s.length):=⟨by rw[lS];omega,fun i hi=>by rw[lS]at hi;rw[Jj hi];exact aey hT Om⟩
     refine⟨⟨h,Z,Z.map (·.id),ns.length,kT T s c s.length,dB R ps,[],T,[]⟩,⟨⟨⟨by show Z.length<=1000;omega,by show(Z.map (·.id)).length<=1000;rw[List.length_map];omega,hgB,hpB,by show T.length<=1000000;omega,Nat.zero_le _,fun i hi=>absurd hi (Nat.not_lt_zero i),Nat.zero_le _,fun i hi=>absurd hi (Nat.not_lt_zero i)⟩,
      aiY,ag6 hT hs0 ha0 hc1 Om,by show(kT T s c s.length).length<=90;rw[lS];omega,Nat.zero_le _,Nat.zero_le _⟩,rfl,rfl,abB hT hs0 ha0 Om hc1⟩,?_⟩
     refine⟨aB.cO (aI.cons (aB.agg ?_) (aI.cons (aB.refl _) aI.nil)),trivial⟩
     repeat' first|exact aI.nil|refine aI.cons ?_ ?_
     all_goals first|exact aN rfl|exact aB.d (aF.rows hZl.symm row_zero)|exact aB.d (aF.rows lS.symm row_zero)|exact aB.d (aF.rows (by rw[List.length_map];omega) row_zero)|exact aB.refl _
theorem VN(rows:List Row)(k:List UInt8)(t:Bool):Sc 9 [.d (ay bF 2 rows),.agg [.d (.str k),.d (.bool t)]] [] (.cO [.agg [.d (.str (qE rows k t).1.1),.d (.str (qE rows k t).1.2)],.d (.bool (qE rows k t).2)]) []:=by
 have hpl:iC rows k t<=rows.length:=TI
 refine Si (fn:=Tryz.f9) Tryz.call9 ?_
 conv=>whnf
 repeat' first|((first|refine Ci (pI _) ?_|refine Ci (kM _ _) ?_|refine Sg ?_|refine Ni ?_ ?_);conv=>whnf)|(refine ah (fun _=> ?_) (fun _=> ?_)<;>(conv=>whnf))
 all_goals try simp only[Bool.not_eq_true',Bool.not_eq_false',beq_iff_eq,beq_eq_false_iff_ne,ne_eq,Int.toNat_natCast]at*
 all_goals try first
  |(rw[yh (.inl As)];exact⟨aB.refl _,trivial⟩)
  |(rw[yh (.inr As)];exact⟨aB.refl _,trivial⟩)
  |(rw[yh (.inr (.inl As))];exact⟨aB.refl _,trivial⟩)
 rename_i hv hb
 have hlen:=yD hv
 have hp:=fun i hi=>Og (k:=k) (t:=t) (jf.1 hv).sorted (i:=i) hi
 simp only[ZI]at hp
 refine aA [3,4,17,18] [3,4] (fun i:Nat=>[(19,.d (.int .i64 i))]) (fun i=>[]) (fun i=>i<=rows.length∧i<=iC rows k t) (fun i=>rows.length-i) 0 ?_ (fun i hi=> ?_) ⟨Nat.zero_le _,Nat.zero_le _⟩
 ·conv=>whnf
  repeat' first|((first|refine Sg ?_|refine Ni ?_ ?_);conv=>whnf)|(refine ah (fun _=> ?_) (fun _=> ?_)<;>(conv=>whnf))
  all_goals try first|exact Lq
 ·obtain⟨hi,hpi⟩:=hi
  have hs:IntKind.i64.wrap ((i:Int)+1)=((i+1:Nat):Int):=wrap_succ (n:=1099511627777) Om Om
  conv=>whnf
  repeat' first|((first|refine aG.mk (i+1) ?_ ?_ ?_|refine Sg ?_|refine Ni ?_ ?_);conv=>whnf)|(refine ah (fun _=> ?_) (fun _=> ?_)<;>(conv=>whnf))
  all_goals try simp only[decide_eq_true_eq,decide_eq_false_iff_not,Int.toNat_natCast,Bool.not_eq_true',Bool.not_eq_false']at*
  all_goals first
   |exact trivial|omega|exact aF.refl _|exact aF.of_eq (by rw[hs])|exact⟨Om,Om⟩|exact⟨Om,(hp i Om).2 (.inl As)⟩|exact⟨Om,(hp i Om).2 (.inr As)⟩
   |(have: ¬i<iC rows k t:=by
      intro h
      have:=(hp i Om).1 h
      simp_all
     have e:iC rows k t=i:=Om
     rw[VO As As Om,e];exact⟨aB.refl _,trivial⟩)
   |(rw[yh (.inr (.inr Om))];exact⟨aB.refl _,trivial⟩)
theorem VE(rows:List Row)(k:List UInt8)(t:Bool):Sc 10 [.d (ay bF 2 rows),.agg [.d (.str k),.d (.bool t)]] [] (.cO [.agg [.d (.str (nX rows k t).1.1),.d (.str (nX rows k t).1.2)],.d (.bool (nX rows k t).2)]) []:=by
 have hpl:iC rows k t<=rows.length:=TI
 refine Si (fn:=Tryz.f10) Tryz.call10 ?_
 conv=>whnf
 repeat' first|((first|refine Ci (pI _) ?_|refine Ci (kM _ _) ?_|refine Sg ?_|refine Ni ?_ ?_);conv=>whnf)|(refine ah (fun _=> ?_) (fun _=> ?_)<;>(conv=>whnf))
 all_goals try simp only[Bool.not_eq_true',Bool.not_eq_false',beq_iff_eq,beq_eq_false_iff_ne,ne_eq,Int.toNat_natCast]at*
 all_goals try first
  |(rw[Po (.inl As)];exact⟨aB.refl _,trivial⟩)
  |(rw[Po (.inr As)];exact⟨aB.refl _,trivial⟩)
 rename_i hv hb
 have hlen:=yD hv
 have hp:=fun i hi=>Og (k:=k) (t:=t) (jf.1 hv).sorted (i:=i) hi
 simp only[ZI]at hp
 refine aA [3,4,6,19,20] [3,4] (fun i:Nat=>[(7,.d (.bool (Il rows (min i (iC rows k t))).2)),(21,.d (.int .i64 i))]) (fun i=>[(6,.box [.d (.str (Il rows (min i (iC rows k t))).1.1),.d (.str (Il rows (min i (iC rows k t))).1.2)])]) (fun i=>i<=rows.length) (fun i=>rows.length-i) 0 ?_ (fun i hi=> ?_) (Nat.zero_le _)
 ·conv=>whnf
  repeat' first|((first|refine Sg ?_|refine Ni ?_ ?_);conv=>whnf)|(refine ah (fun _=> ?_) (fun _=> ?_)<;>(conv=>whnf))
  all_goals first|exact⟨rfl,rfl⟩|exact trivial|exact aF.refl _|exact aF.of_eq (by rw[Nat.zero_min,last_zero])
 ·have hs:IntKind.i64.wrap ((i:Int)+1)=((i+1:Nat):Int):=wrap_succ (n:=1099511627777) Om Om
  conv=>whnf
  repeat' first|((first|refine aG.mk (i+1) ?_ ?_ ?_|refine Sg ?_|refine Ni ?_ ?_);conv=>whnf)|(refine ah (fun _=> ?_) (fun _=> ?_)<;>(conv=>whnf))
  all_goals try simp only[decide_eq_true_eq,decide_eq_false_iff_not,Int.toNat_natCast,Bool.not_eq_true',Bool.not_eq_false']at*
  all_goals first
   |exact trivial|omega|exact aF.refl _|exact aF.of_eq (by rw[hs])|exact⟨Om,Om⟩
   |(have:=(hp i Om).2 (.inl As);exact aF.of_eq (by rw[show min (i+1) (iC rows k t)=i+1 by omega,last_pos Om]<;>rfl))
   |(have:=(hp i Om).2 (.inr As);exact aF.of_eq (by rw[show min (i+1) (iC rows k t)=i+1 by omega,last_pos Om]<;>rfl))
   |(have: ¬i<iC rows k t:=by
      intro h
      have:=(hp i Om).1 h
      simp_all
     exact aF.of_eq (by rw[show min (i+1) (iC rows k t)=min i (iC rows k t)by omega]))
   |(rw[show min i (iC rows k t)=iC rows k t by omega,VF hv hb];exact⟨aB.refl _,trivial⟩)
end Go.Proofs.YtgdgkekpfmhbbaaGreatDoor
