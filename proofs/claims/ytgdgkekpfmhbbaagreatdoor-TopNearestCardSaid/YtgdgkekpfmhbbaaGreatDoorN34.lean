/- Contracts of functions that the law reaches: YtgdgkekpfmhbbaaGreatDoorN34. Written for this claim. -/
import Derived.Test.YtgdgkekpfmhbbaaGreatDoorN30
namespace Go.Proofs.YtgdgkekpfmhbbaaGreatDoor
open Go Go.Sx Go.ChangeShapes Go.WideShapes Go.ChangeAt Go.RowKit
set_option linter.unusedVariables false
set_option linter.unusedSimpArgs false
set_option maxRecDepth 100000
theorem lt9{p:Nat->Prop}(h0:p 0)(h1:p 1)(h2:p 2)(h3:p 3)(h4:p 4)(h5:p 5)(h6:p 6)(h7:p 7)(h8:p 8): ∀j,j<9->p j:=fun j hj=>match j,hj with
 |0,_=>h0
 |1,_=>h1
 |2,_=>h2
 |3,_=>h3
 |4,_=>h4
 |5,_=>h5
 |6,_=>h6
 |7,_=>h7
 |8,_=>h8
abbrev je(w:WT)(p n q m:Nat):List SV:=[.d (.int .i64 w.ht),.d (ay aZ 3 w.names),.d (ay encZ 1 w.used),.d (.int .i64 w.VU),.d (ay m_ 3 w.grp),.d (ay lI 5 w.Oh),.d (ay encZ 2 []),.d (ay encZ 9 []),.bW p 9 0 n,.d (ay bF 2 w.rows),.bW q 12 0 m]
structure WB (w:WT):Prop where
 names:w.names.length<=1000
 used:w.used.length<=1000
 grp:GsB w.grp
 Oh:PsB w.Oh
 rows:w.rows.length<=1000000
 asked:w.asked.length<=1000
 ask: ∀i,i<w.asked.length->VR (w.asked.getD i default)
 log:w.log.length<=1000
 recs: ∀i,i<w.log.length->acd (w.log.getD i default)
theorem BZ(w:WT)(h:WB w):Sc 67 [.agg (dM w)] [] (.agg (je w 6000 w.asked.length 6001 w.log.length))
 [(6000,.row 169 9 w.asked.length (cellOf oL w.asked)),(6001,.row 257 12 w.log.length (cellOf u_ w.log))]:=by
 have ha:=h.asked
 have hlg:=h.log
 have c1:=abP w.names (by have:=h.names;omega)
 have c2:=O9 w.used (by have:=h.used;omega)
 have c3:=uj w.rows h.rows
 have c4:=abS w.grp h.grp
 have c5:=Vp
 have c6:=ahq w.Oh h.Oh
 have c7:=Ye 5100 w.asked Om
 have c8:=X9 5101 w.log Om
 refine Si (fn:=Tryz.f67) Tryz.call67 ?_
 conv=>whnf
 repeat' first|((first|refine Ci c1 ?_|refine Ci c2 ?_|refine Ci c3 ?_|refine Ci c4 ?_|refine Ci c5 ?_|refine Ci c6 ?_|refine Ci c7 ?_|refine Ci c8 ?_|refine Sg ?_|refine Ni ?_ ?_);conv=>whnf)
 refine aA [1,2,39] [1,2,5101] (fun i:Nat=>[(40,.d (.int .i64 i))]) (fun i=>[(5100,.row 169 9 w.asked.length (cellOf oL w.asked))])
  (fun i=>i<=w.asked.length) (fun i=>w.asked.length-i) 0 ?_ (fun i hi=> ?_) (Nat.zero_le _)
 ·conv=>whnf
  repeat' first|((first|refine Sg ?_|refine Ni ?_ ?_);conv=>whnf)|(refine ah (fun _=> ?_) (fun _=> ?_)<;>(conv=>whnf))
  all_goals try first|exact Lq
 ·conv=>whnf
  refine ah (fun hlt=> ?_) (fun hlt=> ?_)
  ·have hlt0:i<w.asked.length:=by simpa using hlt
   have h1:=ae6 (w.asked.getD (0+i) default) (h.ask _ Om)
   have hw1:IntKind.i64.wrap ((i:Int)+1)=((i+1:Nat):Int):=wrap_succ (n:=1000) Om Om
   conv=>whnf
   repeat' first|((first|refine Ci h1 ?_|refine aG.mk (i+1) ?_ ?_ ?_|refine Sg ?_|refine Ni ?_ ?_);conv=>whnf)
   all_goals try simp only[Int.toNat_natCast,cAs,hw1]
   all_goals first
    |exact Lf
    |exact EC (p:=0+i) (fun j hj=>(if_pos rfl).trans (by revert j;exact lt9 rfl rfl rfl rfl rfl rfl rfl rfl rfl)) (fun i j h=>if_neg h)
    |skip
  ·conv=>whnf
   repeat' first|((first|refine Sg ?_|refine Ni ?_ ?_);conv=>whnf)
   refine aA [1,2,58] [1,2,5100] (fun i:Nat=>[(59,.d (.int .i64 i))]) (fun i=>[(5101,.row 257 12 w.log.length (cellOf u_ w.log))])
    (fun i=>i<=w.log.length) (fun i=>w.log.length-i) 0 ?_ (fun i hi=> ?_) (Nat.zero_le _)
   ·conv=>whnf
    repeat' first|((first|refine Sg ?_|refine Ni ?_ ?_);conv=>whnf)|(refine ah (fun _=> ?_) (fun _=> ?_)<;>(conv=>whnf))
    all_goals try first|exact Lq
   ·conv=>whnf
    refine ah (fun hlt=> ?_) (fun hlt=> ?_)
    ·have hlt0:i<w.log.length:=by simpa using hlt
     have h1:=ae5 (w.log.getD (0+i) default) (h.recs _ Om)
     have h2:=Iz [] (by decide)
     have hw1:IntKind.i64.wrap ((i:Int)+1)=((i+1:Nat):Int):=wrap_succ (n:=1000) Om Om
     conv=>whnf
     repeat' first|((first|refine Ci h1 ?_|refine Ci h2 ?_|refine aG.mk (i+1) ?_ ?_ ?_|refine Sg ?_|refine Ni ?_ ?_);conv=>whnf)
     all_goals try simp only[Int.toNat_natCast,cRe,hw1]
     all_goals first
      |exact Lf
      |exact EC (p:=0+i) (by refine IX ?_ ?_ ?_ ?_ ?_ ?_ ?_ ?_ ?_ ?_ ?_ ?_<;>simp[cellOf,u_]) (fun i' j' hne=>by rw[if_neg hne,if_neg hne])
      |skip
    ·conv=>whnf
     repeat' first|((first|refine Sg ?_|refine Ni ?_ ?_);conv=>whnf)
     all_goals first
      |exact Lf|exact⟨aB.refl _,trivial⟩
      |skip
def jR(s:aj×Bool)(g:bC):aj×Bool:=
 if(g.mem.length=0∨(g.mem.getD 0 default).id≠s.1.id)∨eH (g.mem.getD 0 default).copy.lk (g.mem.getD 0 default).copy.lt (g.mem.getD 0 default).copy.hk (g.mem.getD 0 default).copy.ht=true then s
 else if s.2=false∨aV (g.mem.getD 0 default).copy.lk (g.mem.getD 0 default).copy.lt s.1.key false<0 then(⟨s.1.id,(g.mem.getD 0 default).copy.lk,s.1.word⟩,true)
 else s
theorem ads{s:aj×Bool}{g:bC}(h:((g.mem.length:Int)==0)=true):jR s g=s:=by
 unfold jR;rw[if_pos (.inl (.inl (by simpa using h)))]
theorem adr{s:aj×Bool}{g:bC}(h:((g.mem.getD 0 default).id !=s.1.id)=true):jR s g=s:=by
 unfold jR;rw[if_pos (.inl (.inr (by simpa only[bne_iff_ne]using h)))]
theorem adq{s:aj×Bool}{g:bC}(h:eH (g.mem.getD 0 default).copy.lk (g.mem.getD 0 default).copy.lt (g.mem.getD 0 default).copy.hk (g.mem.getD 0 default).copy.ht=true):jR s g=s:=by
 unfold jR;rw[if_pos (.inr h)]
theorem WU{s:aj×Bool}{g:bC}(h1:((g.mem.length:Int)==0)=false)(h2:((g.mem.getD 0 default).id !=s.1.id)=false)(h3:eH (g.mem.getD 0 default).copy.lk (g.mem.getD 0 default).copy.lt (g.mem.getD 0 default).copy.hk (g.mem.getD 0 default).copy.ht=false): ¬((g.mem.length=0∨(g.mem.getD 0 default).id≠s.1.id)∨eH (g.mem.getD 0 default).copy.lk (g.mem.getD 0 default).copy.lt (g.mem.getD 0 default).copy.hk (g.mem.getD 0 default).copy.ht=true):=by
 rintro((h|h)|h)
 ·rw[h]at h1;simp at h1
 ·rw[bne_eq_false_iff_eq]at h2;exact h h2
 ·rw[h]at h3;simp at h3
theorem adp{s:aj×Bool}{g:bC}(h1:((g.mem.length:Int)==0)=false)(h2:((g.mem.getD 0 default).id !=s.1.id)=false)(h3:eH (g.mem.getD 0 default).copy.lk (g.mem.getD 0 default).copy.lt (g.mem.getD 0 default).copy.hk (g.mem.getD 0 default).copy.ht=false)(h4:(!s.2)=true):jR s g=(⟨s.1.id,(g.mem.getD 0 default).copy.lk,s.1.word⟩,true):=by
 unfold jR;rw[if_neg (WU h1 h2 h3),if_pos (.inl (by simpa using h4))]
theorem ado{s:aj×Bool}{g:bC}(h1:((g.mem.length:Int)==0)=false)(h2:((g.mem.getD 0 default).id !=s.1.id)=false)(h3:eH (g.mem.getD 0 default).copy.lk (g.mem.getD 0 default).copy.lt (g.mem.getD 0 default).copy.hk (g.mem.getD 0 default).copy.ht=false)(h4:decide (aV (g.mem.getD 0 default).copy.lk (g.mem.getD 0 default).copy.lt s.1.key false<0)=true):jR s g=(⟨s.1.id,(g.mem.getD 0 default).copy.lk,s.1.word⟩,true):=by
 unfold jR;rw[if_neg (WU h1 h2 h3),if_pos (.inr (of_decide_eq_true h4))]
theorem ahP{s:aj×Bool}{g:bC}(h1:((g.mem.length:Int)==0)=false)(h2:((g.mem.getD 0 default).id !=s.1.id)=false)(h3:eH (g.mem.getD 0 default).copy.lk (g.mem.getD 0 default).copy.lt (g.mem.getD 0 default).copy.hk (g.mem.getD 0 default).copy.ht=false)(h4:(!s.2)=false)(h5:decide (aV (g.mem.getD 0 default).copy.lk (g.mem.getD 0 default).copy.lt s.1.key false<0)=false):jR s g=s:=by
 unfold jR;rw[if_neg (WU h1 h2 h3),if_neg (fun h=>h.elim (fun h=>by rw[h]at h4;simp at h4) (of_decide_eq_false h5))]
theorem adk{n:Nat}(h:((n:Int)==0)=false):(0:Int)<=0∧(0:Int)<(n:Int):=by
 have: ¬(n:Int)=0:=by simpa using h
 exact⟨Int.le_refl _,Om⟩
def TL(gs:List bC)(x:aj):aj×Bool:=gs.foldl jR (x,false)
def Nv(gs:List bC)(j:Nat)(x:aj):aj×Bool:=TL (gs.take j) x
theorem Oo{gs:List bC}{j:Nat}(h:j<gs.length)(x:aj):Nv gs (j+1) x=jR (Nv gs j x) (gs.getD j default):=by
 unfold Nv TL
 have e:gs.take (j+1)=gs.take j++[gs.getD j default]:=by rw[List.take_add_one];simp[List.getD,List.getElem?_eq_getElem h]
 rw[e,List.foldl_append];rfl
theorem TK{gs:List bC}{j:Nat}(h:gs.length<=j)(x:aj):Nv gs j x=TL gs x:=by unfold Nv;rw[List.take_of_length_le h]
def Gt(names:List aj)(gs:List bC):List aj:=names.map fun x=>(TL gs x).1
def IV(names:List aj)(gs:List bC):List aj:=aH (Gt names gs)
structure NM (names:List aj) (gs:List bC):Prop where
 n:names.length<=19
 g:gs.length<=1000
 own: ∀i,i<names.length->(TL gs (names.getD i default)).2=true
 rst:vK (Gt names gs)
theorem ajS{n k:Nat}{g:Nat->Nat->D}(xs:List aj):(n=xs.length∧k=3∧aJ n 3 g (cellOf aZ xs))∧vK xs∧xs.length<20->Sc 18 [.d (.list n k g)] [] (.d (ay aZ 3 (aH xs))) []:=by
 rintro⟨⟨rfl,rfl,h⟩,h2⟩
 exact(wM h2).arg (aI.cons (aB.d (aF.rows rfl h)) aI.nil)
theorem aaH{names:List aj}{gs:List bC}{i:Nat}(h:i<names.length):Gt (names.take (i+1)) gs=Gt (names.take i) gs++[(TL gs (names.getD i default)).1]:=by
 unfold Gt
 have e:names.take (i+1)=names.take i++[names.getD i default]:=by rw[List.take_add_one];simp[List.getD,List.getElem?_eq_getElem h]
 rw[e,List.map_append];rfl
theorem ac4{names:List aj}{gs:List bC}{i:Nat}(h:i<=names.length):(Gt (names.take i) gs).length=i:=by
 unfold Gt;simp;omega
set_option maxHeartbeats 1000000 in
theorem ac3(names:List aj)(gs:List bC)(hn:names.length<=19)(hg:gs.length<=1000)(st:Nat->Nat->aj×Bool)(h0: ∀i,st i 0=(names.getD i default,false))(hs0: ∀i j,j<gs.length->st i (j+1)=jR (st i j) (gs.getD j default))
 (hown: ∀i,i<names.length->(st i gs.length).2=true) (R:Nat->List aj) (hR: ∀i,i<names.length->R (i+1)=R i++[(st i gs.length).1]) (hR0:R 0=[]) (hRl: ∀i,i<=names.length->(R i).length=i) (ai8:vK (R names.length)) (x0 x2 x3 x5 x6 x7 x8 x9 xa:D):
 Sc 25 [.agg [.d x0,.d (ay aZ 3 names),.d x2,.d x3,.d (ay m_ 3 gs),.d x5,.d x6,.d x7,.d x8,.d x9,.d xa]] [] (.d (ay aZ 3 (aH (R names.length)))) []:=by
 refine Si (fn:=Tryz.f25) Tryz.call25 ?_
 conv=>whnf
 repeat' first|((first|refine Sg ?_|refine Ni ?_ ?_);conv=>whnf)
 refine aA [1,2,11,12] [1] (fun i:Nat=>[(13,.d (.int .i64 i)),(3,if i=0 then .d (.val (.slice none 0 0))else .bW 3000 3 0 i)]) (fun i=>if i=0 then []else [(3000,.row 72 3 i (cellOf aZ (R i)))])
  (fun i=>i<=names.length) (fun i=>names.length-i) 0 ?_ (fun i hi=> ?_) (Nat.zero_le _)
 ·conv=>whnf
  repeat' first|((first|refine Sg ?_|refine Ni ?_ ?_);conv=>whnf)|(refine ah (fun _=> ?_) (fun _=> ?_)<;>(conv=>whnf))
  all_goals try first|exact Lq
 ·rcases Nat.eq_zero_or_pos i with hz|hz
  ·subst hz
   simp only[if_true]
   conv=>whnf
   refine ah (fun hlt=> ?_) (fun hlt=> ?_)
   ·have hlt0:0<names.length:=by simpa using hlt
    have hs:=hR 0 hlt0
    rw[hR0,List.nil_append]at hs
    have ho:=hown 0 hlt0
    have hw2:=hlt0
    have hrl:=hlt0
    conv=>whnf
    repeat' first|((first|refine Sg ?_|refine Ni ?_ ?_);conv=>whnf)
    ·refine aA [1,2,3,5,11,12,13,18,19] [1] (fun j:Nat=>[(20,.d (.int .i64 j)),(6,.d (.bool (st 0 j).2))]) (fun j=>[(5,.box [.d (.int .i64 (st 0 j).1.id),.d (.str (st 0 j).1.key),.d (.int .u32 ((st 0 j).1.word:Int))])])
      (fun j=>j<=gs.length) (fun j=>gs.length-j) 0 ?_ (fun j hj=> ?_) (Nat.zero_le _)
     ·conv=>whnf
      repeat' first|((first|refine Sg ?_|refine Ni ?_ ?_);conv=>whnf)|(refine ah (fun _=> ?_) (fun _=> ?_)<;>(conv=>whnf))
      all_goals try first|exact Lq
      all_goals exact aF.of_eq (by rw[h0]<;>rfl)
     ·conv=>whnf
      refine ah (fun hlt=> ?_) (fun hlt=> ?_)
      ·have hlt0:j<gs.length:=by simpa using hlt
       have hst:=hs0 0 j hlt0
       have hw1:IntKind.i64.wrap ((j:Int)+1)=((j+1:Nat):Int):=wrap_succ (n:=1000) Om Om
       conv=>whnf
       repeat' first|((first|refine Ci (fC _ _ _ _) ?_|refine Ci (b_ _ _ _ _) ?_|refine aG.mk (j+1) ?_ ?_ ?_|refine Sg ?_|refine Ni ?_ ?_);conv=>whnf)|(refine ah (fun _=> ?_) (fun _=> ?_)<;>(conv=>whnf))
       all_goals first
        |exact trivial|exact aF.of_eq (by rw[hst,ads As])|exact aF.of_eq (by rw[hst,adr As])|exact aF.of_eq (by rw[hst,adq As])|exact aF.of_eq (by rw[hst,adp As As As As]<;>rfl)|exact aF.of_eq (by rw[hst,ado As As As As]<;>rfl)|exact aF.of_eq (by rw[hst,ahP As As As As As])|exact aF.of_eq (by rw[hw1])|exact adk As|exact⟨trivial,trivial⟩|exact⟨Om,Om⟩|omega|exact Lf
        |skip
      ·have hge: ¬j<gs.length:=by simpa using hlt
       obtain rfl:j=gs.length:=Om
       conv=>whnf
       repeat' first|((first|refine aG.mk 1 ?_ ?_ ?_|refine Sg ?_|refine Ni ?_ ?_);conv=>whnf)
       all_goals try simp only[Int.toNat_natCast,cNd,bNd,hs]
       all_goals first
        |exact trivial|exact⟨trivial,trivial⟩|exact row_one (x:=(st 0 gs.length).1) (enc:=aZ) (xO (aF.refl _) (aF.refl _) (aF.refl _))|exact dN (xs:=R 0) (enc:=aZ) (x:=(st 0 gs.length).1) hrl.symm (aJ.refl _ _ _) (xO (aF.refl _) (aF.refl _) (aF.refl _))|exact aF.of_eq (by rw[hw2])|exact⟨Om,Om⟩|exact⟨trivial,Om,Om⟩|exact⟨trivial,trivial,trivial⟩
        |with_reducible exact aF.refl _
        |omega|exact aF.refl _
        |skip
    ·exact⟨Om,Om⟩
   ·have:names.length<=0:=by simpa using hlt
    have e0:names.length=0:=Om
    have hsn:Sc 18 [.d (.val (.slice none 0 0))] [] (.d (ay aZ 3 (aH (R names.length)))) []:=by
     rw[e0,hR0]at ai8⊢
     exact(wM (xs:=[]) ⟨ai8,by decide⟩).arg (aI.cons (aN rfl) aI.nil)
    conv=>whnf
    repeat' first|((first|refine Ci hsn ?_|refine Sg ?_|refine Ni ?_ ?_);conv=>whnf)
    all_goals first
     |exact Lf
     |(refine⟨?_,trivial⟩
       repeat' first|exact aI.nil|refine aB.cO ?_|refine aB.agg ?_|refine aI.cons ?_ ?_|exact aB.refl _|exact aN rfl|exact bn rfl|exact bY rfl
       done)
     |skip
  ·have hne: ¬i=0:=Om
   simp only[if_neg hne]
   conv=>whnf
   refine ah (fun hlt=> ?_) (fun hlt=> ?_)
   ·have hlt0:i<names.length:=by simpa using hlt
    have hs:=hR i hlt0
    have hrl:=hRl i (Nat.le_of_lt hlt0)
    have ho:=hown i hlt0
    have hw2:IntKind.i64.wrap ((i:Int)+1)=((i+1:Nat):Int):=wrap_succ (n:=1000) Om Om
    conv=>whnf
    repeat' first|((first|refine Sg ?_|refine Ni ?_ ?_);conv=>whnf)
    ·refine aA [1,2,3,5,11,12,13,18,19] [1,3000] (fun j:Nat=>[(20,.d (.int .i64 j)),(6,.d (.bool (st i j).2))]) (fun j=>[(5,.box [.d (.int .i64 (st i j).1.id),.d (.str (st i j).1.key),.d (.int .u32 ((st i j).1.word:Int))])])
      (fun j=>j<=gs.length) (fun j=>gs.length-j) 0 ?_ (fun j hj=> ?_) (Nat.zero_le _)
     ·conv=>whnf
      repeat' first|((first|refine Sg ?_|refine Ni ?_ ?_);conv=>whnf)|(refine ah (fun _=> ?_) (fun _=> ?_)<;>(conv=>whnf))
      all_goals try first|exact Lq
      all_goals exact aF.of_eq (by rw[h0]<;>rfl)
     ·conv=>whnf
      refine ah (fun hlt=> ?_) (fun hlt=> ?_)
      ·have hlt0:j<gs.length:=by simpa using hlt
       have hst:=hs0 i j hlt0
       have hw1:IntKind.i64.wrap ((j:Int)+1)=((j+1:Nat):Int):=wrap_succ (n:=1000) Om Om
       conv=>whnf
       repeat' first|((first|refine Ci (fC _ _ _ _) ?_|refine Ci (b_ _ _ _ _) ?_|refine aG.mk (j+1) ?_ ?_ ?_|refine Sg ?_|refine Ni ?_ ?_);conv=>whnf)|(refine ah (fun _=> ?_) (fun _=> ?_)<;>(conv=>whnf))
       all_goals first
        |exact trivial|exact aF.of_eq (by rw[hst,ads As])|exact aF.of_eq (by rw[hst,adr As])|exact aF.of_eq (by rw[hst,adq As])|exact aF.of_eq (by rw[hst,adp As As As As]<;>rfl)|exact aF.of_eq (by rw[hst,ado As As As As]<;>rfl)|exact aF.of_eq (by rw[hst,ahP As As As As As])|exact aF.of_eq (by rw[hw1])|exact adk As|exact⟨trivial,trivial⟩|exact⟨Om,Om⟩|omega|exact Lf
        |skip
      ·have hge: ¬j<gs.length:=by simpa using hlt
       obtain rfl:j=gs.length:=Om
       conv=>whnf
       repeat' first|((first|refine aG.mk (i+1) ?_ ?_ ?_|refine Sg ?_|refine Ni ?_ ?_);conv=>whnf)
       all_goals try simp only[Int.toNat_natCast,cNd,bNd,hs]
       all_goals first
        |exact trivial|exact⟨trivial,trivial⟩|exact row_one (x:=(st 0 gs.length).1) (enc:=aZ) (xO (aF.refl _) (aF.refl _) (aF.refl _))|exact dN (xs:=R i) (enc:=aZ) (x:=(st i gs.length).1) hrl.symm (aJ.refl _ _ _) (xO (aF.refl _) (aF.refl _) (aF.refl _))|exact aF.of_eq (by rw[hw2])|exact⟨Om,Om⟩|exact⟨trivial,Om,Om⟩|exact⟨trivial,trivial,trivial⟩
        |with_reducible exact aF.refl _
        |omega|exact aF.refl _
        |skip
    ·exact⟨Om,Om⟩
   ·have hge: ¬i<names.length:=by simpa using hlt
    obtain rfl:i=names.length:=Om
    have hrl:=hRl _ (Nat.le_refl _)
    conv=>whnf
    repeat' first|((first|refine iD (ajS (R names.length)) Fl (Ni ?_ ?_)|refine Sr ?_|refine Sg ?_|refine Ni ?_ ?_);conv=>whnf)
    all_goals first
     |(refine⟨⟨hrl.symm,rfl,ahO⟩,ai8,Om⟩)|exact⟨aB.refl _,trivial⟩
     |skip
theorem Af(names:List aj)(gs:List bC)(h:NM names gs)(x0 x2 x3 x5 x6 x7 x8 x9 xa:D):
 Sc 25 [.agg [.d x0,.d (ay aZ 3 names),.d x2,.d x3,.d (ay m_ 3 gs),.d x5,.d x6,.d x7,.d x8,.d x9,.d xa]] [] (.d (ay aZ 3 (IV names gs))) []:=by
 have e: ∀i,(Nv gs gs.length (names.getD i default))=TL gs (names.getD i default):=fun i=>TK (Nat.le_refl _) _
 have h1:=ac3 names gs h.n h.g (fun i j=>Nv gs j (names.getD i default)) (fun i=>rfl) (fun i j hj=>Oo hj _) (fun i hi=>by show(Nv gs gs.length (names.getD i default)).2=true;rw[e];exact h.own i hi)
  (fun i=>Gt (names.take i) gs) (fun i hi=>by show _=_++[(Nv gs gs.length (names.getD i default)).1];rw[e];exact aaH hi) rfl (fun i hi=>ac4 hi) (by rw[List.take_length];exact h.rst) x0 x2 x3 x5 x6 x7 x8 x9 xa
 rw[List.take_length]at h1
 exact h1
theorem Fp(a:List aj):a.length<=1000->Sc 70 [.d (ay aZ 3 a),.d (ay aZ 3 a)] [] (.d (.bool true)) []:=by
 intro ha
 have e1:(((a.length:Nat):Int) !=((a.length:Nat):Int))=false:=by simp
 refine Si (fn:=Tryz.f70) Tryz.call70 ?_
 conv=>whnf
 repeat' first|((first|refine Sr ?_|refine Sg ?_|refine Ni ?_ ?_);conv=>whnf)
 refine aA [0,0+1,11,12] [] (fun i:Nat=>[(13,.d (.int .i64 i))]) (fun _=>[]) (fun i=>i<=a.length) (fun i=>a.length-i) 0 ?_ (fun i hi=> ?_) (Nat.zero_le _)
 ·conv=>whnf
  repeat' first|((first|refine Sg ?_|refine Ni ?_ ?_);conv=>whnf)|(refine ah (fun _=> ?_) (fun _=> ?_)<;>(conv=>whnf))
  all_goals try first|exact Lq
 ·conv=>whnf
  refine ah (fun hlt=> ?_) (fun hlt=> ?_)
  ·have hlt0:i<a.length:=by simpa using hlt
   have hw1:IntKind.i64.wrap ((i:Int)+1)=((i+1:Nat):Int):=wrap_succ (n:=1000) Om Om
   conv=>whnf
   repeat' first|((first|refine aG.mk (i+1) ?_ ?_ ?_|refine Sg ?_|refine Ni ?_ ?_);conv=>whnf)|(refine ah (fun _=> ?_) (fun _=> ?_)<;>(conv=>whnf))
   all_goals first
    |exact Lf|exact aF.of_eq (by rw[hw1])|exact⟨Om,Om⟩
    |(rename_i hq;simp at hq;done)
    |omega
    |skip
  ·conv=>whnf
   repeat' first|((first|refine Sr ?_|refine Sg ?_|refine Ni ?_ ?_);conv=>whnf)
   all_goals first
    |exact Lf
    |(refine⟨?_,trivial⟩
      repeat' first|exact aI.nil|refine aB.cO ?_|refine aB.agg ?_|refine aI.cons ?_ ?_|exact aB.refl _|exact aN rfl|exact bn rfl|exact bY rfl
      done)
    |exact⟨aB.refl _,aI.refl _,trivial⟩
    |skip
abbrev V3(x0 x1 x2 x3 x5 x6 x7 x9:D)(gs:List bC)(na nr:Nat):List SV:=[.d x0,.d x1,.d x2,.d x3,.d (ay m_ 3 gs),.d x5,.d x6,.d x7,.bW 6000 9 0 na,.d x9,.bW 6001 12 0 nr]
theorem aco(na nr:Nat)(ga gr:Nat->Nat->D)(x0 x1 x2 x3 x5 x6 x7 x9:D)(gs:List bC)(dn:Bool)(k:List UInt8)(cu:D)(w z:nR){r:jl}{vis:List dL}(n:Nat)(V:Nat->gV)
 (q1:Sc 309 [.agg (rX dn k [r] vis)] [] (.d (.bool false)) [])
 (hg: ∀i,i<gs.length->Sc 310 [.agg (GV (gs.getD i default))] [] (.cO [.agg (Hw (V i)),.d (.int .i64 0)]) []) (hgl:gs.length<=1000) {j:Nat} (hj:j<gs.length)
 (q3:Sc 311 [.agg (mV dn k cu ([r],vis) w false),.d (.int .i64 0),.agg (Hw (V j))] [] (.cO [.agg (mV dn k cu z w false),.d (.int .i64 0)]) [])
 (hn: ∀i,i<gs.length->i≠j->Sc 311 [.agg (mV dn k cu ([r],vis) w false),.d (.int .i64 0),.agg (Hw (V i))] [] (.cO [.agg I_,.d (.int .i64 12)]) []):
 Sc 225 [.agg (V3 x0 x1 x2 x3 x5 x6 x7 x9 gs na nr),.agg (mV dn k cu ([r],vis) w false),.agg (lK 26 (V j).own 0 n)]
  [(6000,.row 169 9 na ga),(6001,.row 257 12 nr gr)]
  (.cO [.agg (mV dn k cu z w false),.d (.int .i64 0)])
  [(6000,.row 169 9 na ga),(6001,.row 257 12 nr gr)]:=by
 refine Si (fn:=Tryz.f225) Tryz.call225 ?_
 conv=>whnf
 repeat' first|((first|refine Ci q1 ?_|refine Sr ?_|refine Sg ?_|refine Ni ?_ ?_);conv=>whnf)
 all_goals try first|exact⟨Int.le_refl _,by show(0:Int)<((1:Nat):Int);decide⟩
 refine aA [0,0+1,0+1+1,3,4,5,6,40,41] [3,4,5,6,6000,6001] (fun i:Nat=>[(42,.d (.int .i64 i))]) (fun i=>[]) (fun i=>i<=j) (fun i=>gs.length-i) 0 ?_ (fun i hi=> ?_) (Nat.zero_le _)
 ·conv=>whnf
  repeat' first|((first|refine Sg ?_|refine Ni ?_ ?_);conv=>whnf)|(refine ah (fun _=> ?_) (fun _=> ?_)<;>(conv=>whnf))
  all_goals try first|exact Lq
 ·have hlt:decide ((i:Int)<(gs.length:Int))=true:=decide_eq_true Om
  have hw1:IntKind.i64.wrap ((i:Int)+1)=((i+1:Nat):Int):=wrap_succ (n:=1000) Om Om
  have q2:=hg i Om
  by_cases hij:i=j
  ·subst hij
   have e3:((V i).own !=(V i).own)=false:=by simp
   conv=>whnf
   repeat' first|((first|refine Ci q2 ?_|refine Sr ?_|refine Sg ?_|refine Ni ?_ ?_);conv=>whnf)
   all_goals try first|exact⟨Om,Om⟩
   conv=>whnf
   repeat' first|((first|refine Ci q3 ?_|refine Sr ?_|refine aG.mk (i+1) ?_ ?_ ?_|refine Sg ?_|refine Ni ?_ ?_);conv=>whnf)
   all_goals first
    |exact⟨aB.refl _,aI.refl _,trivial⟩|exact Lf
    |skip
  ·have q4:=hn i Om hij
   cases e3:((V i).own !=(V j).own)
   ·conv=>whnf
    repeat' first|((first|refine Ci q2 ?_|refine Sr ?_|refine Sg ?_|refine Ni ?_ ?_);conv=>whnf)
    all_goals try first|exact⟨Om,Om⟩
    conv=>whnf
    repeat' first|((first|refine Ci q4 ?_|refine Sr ?_|refine aG.mk (i+1) ?_ ?_ ?_|refine Sg ?_|refine Ni ?_ ?_);conv=>whnf)
    all_goals first
     |exact aF.of_eq (by rw[hw1])|exact⟨Om,Om⟩|exact Lf
     |skip
   ·conv=>whnf
    repeat' first|((first|refine Ci q2 ?_|refine Sr ?_|refine Sg ?_|refine Ni ?_ ?_);conv=>whnf)
    all_goals try first|exact⟨Om,Om⟩
    conv=>whnf
    repeat' first|((first|refine Sr ?_|refine aG.mk (i+1) ?_ ?_ ?_|refine Sg ?_|refine Ni ?_ ?_);conv=>whnf)
    all_goals first
     |exact aF.of_eq (by rw[hw1])|exact⟨Om,Om⟩|exact Lf
     |skip
theorem acn(na nr:Nat)(ga gr:Nat->Nat->D)(x0 x1 x2 x3 x5 x6 x7 x9:D)(gs:List bC)(dn:Bool)(k:List UInt8)(cu:D)(w z:nR){r:jl}{vis:List dL}(n:Nat)(V:Nat->gV)
 (q1:Sc 309 [.agg (rX dn k [r] vis)] [] (.d (.bool false)) [])
 (hg: ∀i,i<gs.length->Sc 310 [.agg (GV (gs.getD i default))] [] (.cO [.agg (Hw (V i)),.d (.int .i64 0)]) []) (hgl:gs.length<=1000) {j:Nat} (hj:j<gs.length)
 (q3:Sc 311 [.agg (mV dn k cu w ([r],vis) true),.d (.int .i64 0),.agg (Hw (V j))] [] (.cO [.agg (mV dn k cu w z true),.d (.int .i64 0)]) [])
 (hn: ∀i,i<gs.length->i≠j->Sc 311 [.agg (mV dn k cu w ([r],vis) true),.d (.int .i64 0),.agg (Hw (V i))] [] (.cO [.agg I_,.d (.int .i64 12)]) []):
 Sc 225 [.agg (V3 x0 x1 x2 x3 x5 x6 x7 x9 gs na nr),.agg (mV dn k cu w ([r],vis) true),.agg (lK 26 (V j).own 0 n)]
  [(6000,.row 169 9 na ga),(6001,.row 257 12 nr gr)]
  (.cO [.agg (mV dn k cu w z true),.d (.int .i64 0)])
  [(6000,.row 169 9 na ga),(6001,.row 257 12 nr gr)]:=by
 refine Si (fn:=Tryz.f225) Tryz.call225 ?_
 conv=>whnf
 repeat' first|((first|refine Ci q1 ?_|refine Sr ?_|refine Sg ?_|refine Ni ?_ ?_);conv=>whnf)
 all_goals try first|exact⟨Int.le_refl _,by show(0:Int)<((1:Nat):Int);decide⟩
 refine aA [0,0+1,0+1+1,3,4,5,6,40,41] [3,4,5,6,6000,6001] (fun i:Nat=>[(42,.d (.int .i64 i))]) (fun i=>[]) (fun i=>i<=j) (fun i=>gs.length-i) 0 ?_ (fun i hi=> ?_) (Nat.zero_le _)
 ·conv=>whnf
  repeat' first|((first|refine Sg ?_|refine Ni ?_ ?_);conv=>whnf)|(refine ah (fun _=> ?_) (fun _=> ?_)<;>(conv=>whnf))
  all_goals try first|exact Lq
 ·have hlt:decide ((i:Int)<(gs.length:Int))=true:=decide_eq_true Om
  have hw1:IntKind.i64.wrap ((i:Int)+1)=((i+1:Nat):Int):=wrap_succ (n:=1000) Om Om
  have q2:=hg i Om
  by_cases hij:i=j
  ·subst hij
   have e3:((V i).own !=(V i).own)=false:=by simp
   conv=>whnf
   repeat' first|((first|refine Ci q2 ?_|refine Sr ?_|refine Sg ?_|refine Ni ?_ ?_);conv=>whnf)
   all_goals try first|exact⟨Om,Om⟩
   conv=>whnf
   repeat' first|((first|refine Ci q3 ?_|refine Sr ?_|refine aG.mk (i+1) ?_ ?_ ?_|refine Sg ?_|refine Ni ?_ ?_);conv=>whnf)
   all_goals first
    |exact⟨aB.refl _,aI.refl _,trivial⟩|exact Lf
    |skip
  ·have q4:=hn i Om hij
   cases e3:((V i).own !=(V j).own)
   ·conv=>whnf
    repeat' first|((first|refine Ci q2 ?_|refine Sr ?_|refine Sg ?_|refine Ni ?_ ?_);conv=>whnf)
    all_goals try first|exact⟨Om,Om⟩
    conv=>whnf
    repeat' first|((first|refine Ci q4 ?_|refine Sr ?_|refine aG.mk (i+1) ?_ ?_ ?_|refine Sg ?_|refine Ni ?_ ?_);conv=>whnf)
    all_goals first
     |exact aF.of_eq (by rw[hw1])|exact⟨Om,Om⟩|exact Lf
     |skip
   ·conv=>whnf
    repeat' first|((first|refine Ci q2 ?_|refine Sr ?_|refine Sg ?_|refine Ni ?_ ?_);conv=>whnf)
    all_goals try first|exact⟨Om,Om⟩
    conv=>whnf
    repeat' first|((first|refine Sr ?_|refine aG.mk (i+1) ?_ ?_ ?_|refine Sg ?_|refine Ni ?_ ?_);conv=>whnf)
    all_goals first
     |exact aF.of_eq (by rw[hw1])|exact⟨Om,Om⟩|exact Lf
     |skip
theorem ah_(na nr:Nat)(ga gr:Nat->Nat->D)(x0 x1 x2 x3 x5 x6 x7 x9:D)(gs:List bC)(dn:Bool)(k:List UInt8)(cu:List dQ){f s:nR}{t:Bool}{r:jl}{vis:List dL}(n:Nat)
 (hp:sD f s t=([r],vis)) (hc:cu.length<=1000∧zy f∧zy s) (hv:(vis.length<=900∧(aS vis).length<=1000000)∧eX ([r],vis)=false) (hg:RI gs) (hgl:gs.length<=1000) {j:Nat} (hj:j<gs.length)
 (h1:fitsV dn (zV (gs.getD j default)) r=true) (h2: ∀i,i<gs.length->i≠j->fitsV dn (zV (gs.getD i default)) r=false):
 Sc 225 [.agg (V3 x0 x1 x2 x3 x5 x6 x7 x9 gs na nr),.agg (mV dn k (ay dH 2 cu) f s t),.agg (lK 26 (zV (gs.getD j default)).own 0 n)]
  [(6000,.row 169 9 na ga),(6001,.row 257 12 nr gr)]
  (.cO [.agg (mV dn k (ay dH 2 cu) (if t then f else iT dn ([r],vis) (zV (gs.getD j default))) (if t then iT dn ([r],vis) (zV (gs.getD j default))else s) t),.d (.int .i64 0)])
  [(6000,.row 169 9 na ga),(6001,.row 257 12 nr gr)]:=by
 have q1:=DV dn k [r] vis ⟨Om,Om⟩
 rw[hv.2]at q1
 have q2:=fun i(hi:i<gs.length)=>aja (gs.getD i default) (hg i hi).1
 have q3:=PY (k:=k) hp ⟨hc,hv,Bq (hg j hj).2,h1⟩
 have q4:=fun i(hi:i<gs.length)(hij:i≠j)=>Nc (k:=k) hp ⟨hc,hv,Bq (hg i hi).2,h2 i hi hij⟩
 cases t
 ·obtain rfl:f=([r],vis):=hp
  exact aco na nr ga gr x0 x1 x2 x3 x5 x6 x7 x9 gs dn k _ s _ n (fun i=>zV (gs.getD i default)) q1 q2 hgl hj q3 q4
 ·obtain rfl:s=([r],vis):=hp
  exact acn na nr ga gr x0 x1 x2 x3 x5 x6 x7 x9 gs dn k _ f _ n (fun i=>zV (gs.getD i default)) q1 q2 hgl hj q3 q4
abbrev afp(dn:Bool)(k:List UInt8)(cu:List dQ):List SV:=[.d (.int .i64 25),.d (.int .i64 0),.d (.int .i64 0),.d (.int .i64 0),.d (.int .i64 0),.d (.int .i64 0),.d (.str []),.d (.str []),.d (.str []),.d (.bool false),.d (.int .i64 (sJ dn)),.d (ay dF 4 []),.d (.str k),.d (.int .i64 1),.d (ay dH 2 cu)]
abbrev jM:List SV:=[.d (.val (.slice none 0 0)),.d (.int .i64 0),.d (.int .i64 0),.d (.int .i64 0),.d (.int .i64 0),.d (.int .i64 0),.d (.str []),.d (.str [])]
abbrev tH(n:Int)(ans:List SV):List SV:= .d (.int .i64 0):: .d (.int .i64 n):: .d (.str []):: .d (.bool false):: .d (.val (.slice none 0 0)):: .d (.val (.slice none 0 0))::ans
abbrev askRow(xs:List AskT):bG:= .row 169 9 xs.length (cellOf oL xs)
abbrev logRow(xs:List NP):bG:= .row 257 12 xs.length (cellOf u_ xs)
theorem Qd{α:Type}[Inhabited α]{enc:α->List D}{k:Nat}{xs:List α}{x:α}{g2:Nat->Nat->D}(h: ∀j,j<k->aF (g2 0 j) ((enc x).getD j default)):
 aJ (xs++[x]).length k (fun i j=>if i<xs.length then cellOf enc xs (0+i) j else g2 (i-xs.length) j) (cellOf enc (xs++[x])):=by
 have h1:=dN (xs:=xs) (enc:=enc) (n:=xs.length) rfl (aJ.refl _ _ _) h
 simp only[Nat.zero_add,List.length_append,List.length_singleton]
 exact h1
theorem Ul{n m B:Nat}(hB:B<=1000)(h0:0<=B)(hn:n<=4096)(hm:m=n):0+n<=m∧(n+1)*B<=140737488355328∧n+1<=9223372036854775807:=by
 subst hm
 refine⟨Om,?_,Om⟩
 have:(m+1)*B<=4097*1000:=Nat.mul_le_mul Om hB
 omega
theorem TF(w:WT)(x:AskT)(hen:x.en=false)(hq:Sc 224 [.agg (kR x.dn x.k),.d (ay dH 2 x.cu)] [] (.cO [.agg (vP x),.d (.int .i64 0)]) [])(hn:w.asked.length<64)(hl:w.log.length<4096):
 Sc 141 [.ptr 1000 0,.agg (afp x.dn x.k x.cu)]
  [(1000,.box (je w 6000 w.asked.length 6001 w.log.length)),(6000,askRow w.asked),(6001,logRow w.log)]
  (.agg (tH w.asked.length jM))
  [(1000,.box (je w 6002 (w.asked.length+1) 6003 (w.log.length+1))),(6000,.gone),(6001,.gone),(6002,askRow (w.asked++[x])),(6003,logRow (w.log++[⟨3,w.asked.length,x.dn,x.k,[],[]⟩]))]:=by
 have h1:=iV x.dn x.k
 have e1:decide ((w.asked.length:Int)>=64)=false:=decide_eq_false Om
 refine Si (fn:=Tryz.f141) Tryz.call141 ?_
 conv=>whnf
 repeat' first|((first|refine Ci hq ?_|refine Ci h1 ?_|refine Sr ?_|refine Sg ?_|refine Ni ?_ ?_);conv=>whnf)
 all_goals first
  |exact Ul (by decide) (by decide) Om Om|exact⟨rfl,Kq,by simp⟩|exact Qd (x:=x) (enc:=oL) (lt9 (aF.refl _) (aF.refl _) (aF.refl _) (aF.refl _) (aF.refl _) (aF.refl _) (aF.refl _) (aF.refl _) (aF.of_eq (by rw[<-hen];rfl)))|exact Qd (enc:=u_) (IX (aF.refl _) aF.nil (aF.refl _) (aF.refl _) (aF.refl _) (aF.refl _) (aF.refl _) (aF.refl _) (aF.refl _) (aF.refl _) aF.nil aF.nil)|exact Lf
  |skip
theorem Qb{α:Type}[Inhabited α]{enc:α->List D}{k n:Nat}{xs:List α}{x:α}{g:Nat->Nat->D}(hn:n<xs.length)(h1: ∀j,j<k->g n j=(enc x).getD j default)(h2: ∀i j,¬i=n->g i j=cellOf enc xs i j):
 aJ (xs.set n x).length k g (cellOf enc (xs.set n x)):= .of_eq fun i j hi hj=>by
 rw[List.length_set]at hi
 by_cases e:i=n
 ·subst e
  rw[h1 j hj]
  simp[cellOf,List.getD,hi]
 ·rw[h2 i j e]
  simp[cellOf,List.getD,List.getElem?_set_ne (Ne.symm e)]
theorem Ns(w:WT)(n:Nat)(x':AskT)(node:Int)(hn:n<w.asked.length)(hen:(w.asked.getD n default).en=false)(hen':x'.en=false)
 (hq:Sc 225 [.agg (je w 6000 w.asked.length 6001 w.log.length),.agg (vP (w.asked.getD n default)),.agg (lK 26 node 0 n)] [(6000,askRow w.asked),(6001,logRow w.log)] (.cO [.agg (vP x'),.d (.int .i64 0)]) [(6000,askRow w.asked),(6001,logRow w.log)]):
 Sc 141 [.ptr 1000 0,.agg (lK 26 node 0 n)]
  [(1000,.box (je w 6000 w.asked.length 6001 w.log.length)),(6000,askRow w.asked),(6001,logRow w.log)]
  (.agg (tH 0 jM))
  [(1000,.box (je w 6000 w.asked.length 6001 w.log.length)),(6000,askRow (w.asked.set n x')),(6001,logRow w.log)]:=by
 have e1:decide ((n:Int)<0)=false:=decide_eq_false Om
 have e2:decide ((n:Int)>=(w.asked.length:Int))=false:=decide_eq_false Om
 refine Si (fn:=Tryz.f141) Tryz.call141 ?_
 have e0:0+(n:Int).toNat=n:=Om
 have ai5:(w.asked[n]?.getD default).en=false:=by rw[<-List.getD_eq_getElem?_getD];exact hen
 conv=>whnf
 repeat' first|((first|refine Sr ?_|refine Sg ?_|refine Ni ?_ ?_);conv=>whnf)
 all_goals try first|exact⟨Om,Om⟩|omega
 rw[e0,hen]
 conv=>whnf
 repeat' first|((first|refine Ci hq ?_|refine Sr ?_|refine Sg ?_|refine Ni ?_ ?_);conv=>whnf)
 all_goals first
  |exact trivial|exact⟨rfl,rfl,rfl⟩|exact⟨rfl,Kq,by simp⟩
  |exact Qb (x:=x') (enc:=oL) hn (by refine lt9 ?_ ?_ ?_ ?_ ?_ ?_ ?_ ?_ ?_<;>simp[oL,cellOf,hen,ai5,hen']) (fun i' j' hne=>if_neg hne)
  |exact Lf
  |skip
theorem Qj(w:WT)(n:Nat)(x':AskT)(hn:n<w.asked.length)(hen:(w.asked.getD n default).en=false)(hen':x'.en=false)
 (hq:Sc 226 [.agg (vP (w.asked.getD n default))] [] (.cO [.agg (vP x'),.d (.int .i64 0)]) []):
 Sc 141 [.ptr 1000 0,.agg (lK 27 0 0 n)]
  [(1000,.box (je w 6000 w.asked.length 6001 w.log.length)),(6000,askRow w.asked),(6001,logRow w.log)]
  (.agg (tH 0 jM))
  [(1000,.box (je w 6000 w.asked.length 6001 w.log.length)),(6000,askRow (w.asked.set n x')),(6001,logRow w.log)]:=by
 have e1:decide ((n:Int)<0)=false:=decide_eq_false Om
 have e2:decide ((n:Int)>=(w.asked.length:Int))=false:=decide_eq_false Om
 refine Si (fn:=Tryz.f141) Tryz.call141 ?_
 have e0:0+(n:Int).toNat=n:=Om
 have ai5:(w.asked[n]?.getD default).en=false:=by rw[<-List.getD_eq_getElem?_getD];exact hen
 conv=>whnf
 repeat' first|((first|refine Sr ?_|refine Sg ?_|refine Ni ?_ ?_);conv=>whnf)
 all_goals try first|exact⟨Om,Om⟩|omega
 rw[e0,hen]
 conv=>whnf
 repeat' first|((first|refine Ci hq ?_|refine Sr ?_|refine Sg ?_|refine Ni ?_ ?_);conv=>whnf)
 all_goals first
  |exact trivial|exact⟨rfl,rfl,rfl⟩|exact⟨rfl,Kq,by simp⟩
  |exact Qb (x:=x') (enc:=oL) hn (by refine lt9 ?_ ?_ ?_ ?_ ?_ ?_ ?_ ?_ ?_<;>simp[oL,cellOf,hen,ai5,hen']) (fun i' j' hne=>if_neg hne)
  |exact Lf
  |skip
theorem TD(w:WT)(n:Nat)(rows:List Row)(fo:mD)(A B:List dL)(hn:n<w.asked.length)(hl:w.log.length<4096)(hen:(w.asked.getD n default).en=false)
 (hq:Sc 228 [.agg (vP (w.asked.getD n default))] [] (.cO [.agg (xE (w.asked.getD n default).dn (w.asked.getD n default).k A B),.d (.int .i64 0)]) [])
 (hc:Sc 229 [.agg (xE (w.asked.getD n default).dn (w.asked.getD n default).k A B)] [] (.cO [.agg (zQ rows fo),.d (.int .i64 0)]) []):
 Sc 141 [.ptr 1000 0,.agg (lK 29 0 0 n)]
  [(1000,.box (je w 6000 w.asked.length 6001 w.log.length)),(6000,askRow w.asked),(6001,logRow w.log)]
  (.agg (tH 0 (zQ rows fo)))
  [(1000,.box (je w 6000 w.asked.length 6003 (w.log.length+1))),(6000,askRow (w.asked.set n {w.asked.getD n default with en:=true})),(6001,.gone),(6003,logRow (w.log++[⟨4,n,(w.asked.getD n default).dn,(w.asked.getD n default).k,A,B⟩]))]:=by
 have e1:decide ((n:Int)<0)=false:=decide_eq_false Om
 have e2:decide ((n:Int)>=(w.asked.length:Int))=false:=decide_eq_false Om
 refine Si (fn:=Tryz.f141) Tryz.call141 ?_
 have e0:0+(n:Int).toNat=n:=Om
 conv=>whnf
 repeat' first|((first|refine Sr ?_|refine Sg ?_|refine Ni ?_ ?_);conv=>whnf)
 all_goals try first|exact⟨Om,Om⟩|omega
 rw[e0,hen]
 conv=>whnf
 repeat' first|((first|refine Ci hq ?_|refine Ci hc ?_|refine Sr ?_|refine Sg ?_|refine Ni ?_ ?_);conv=>whnf)
 all_goals first
  |exact Ul (by decide) (by decide) Om Om|exact⟨rfl,Kq,by simp⟩|exact Qd (enc:=u_) (IX (aF.refl _) aF.nil (aF.refl _) (aF.refl _) (aF.refl _) (aF.refl _) (aF.refl _) (aF.refl _) (aF.refl _) (aF.refl _) (aF.refl _) (aF.refl _))
  |exact Qb (x:={w.asked.getD n default with en:=true}) (enc:=oL) hn (by refine lt9 ?_ ?_ ?_ ?_ ?_ ?_ ?_ ?_ ?_<;>simp[oL,cellOf]) (fun i' j' hne=>if_neg hne)
  |exact Lf
  |skip
end Go.Proofs.YtgdgkekpfmhbbaaGreatDoor
