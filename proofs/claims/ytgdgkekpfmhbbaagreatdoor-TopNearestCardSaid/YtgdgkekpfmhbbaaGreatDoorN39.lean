/- Contracts of functions that the law reaches: YtgdgkekpfmhbbaaGreatDoorN39. Written for this claim. -/
import Derived.Test.YtgdgkekpfmhbbaaGreatDoorN34
import Derived.Test.YtgdgkekpfmhbbaaGreatDoorSxInsr
namespace Go.Proofs.YtgdgkekpfmhbbaaGreatDoor
open Go Go.Sx Go.ChangeShapes Go.WideShapes Go.ChangeAt Go.RowKit
set_option linter.unusedVariables false
set_option linter.unusedSimpArgs false
set_option maxRecDepth 100000
theorem ajg(w:WT)(x:AskT)(hen:x.en=false)(hq:Sc 224 [.agg (kR x.dn x.k),.d (ay dH 2 x.cu)] [] (.cO [.agg (vP x),.d (.int .i64 0)]) [])(hn:w.asked.length<64)(hl:w.log.length<4096):
 Sc 68 [.ptr 1000 0,.agg (afp x.dn x.k x.cu)]
  [(1000,.box (je w 6000 w.asked.length 6001 w.log.length)),(6000,askRow w.asked),(6001,logRow w.log)]
  (.agg (tH w.asked.length jM))
  [(1000,.box (je w 6002 (w.asked.length+1) 6003 (w.log.length+1))),(6000,.gone),(6001,.gone),(6002,askRow (w.asked++[x])),(6003,logRow (w.log++[⟨3,w.asked.length,x.dn,x.k,[],[]⟩]))]:=by
 have q:=TF w x hen hq hn hl
 have e1:decide ((w.log.length:Int)>=4096)=false:=decide_eq_false Om
 refine Si (fn:=Tryz.f68) Tryz.call68 ?_
 conv=>whnf
 repeat' first|((first|refine Ci q ?_|refine Sr ?_|refine Sg ?_|refine Ni ?_ ?_);conv=>whnf)
 all_goals first
  |exact Lf
  |(refine⟨?_,trivial⟩
    repeat' first|exact aI.nil|refine aB.cO ?_|refine aB.agg ?_|refine aI.cons ?_ ?_|exact aB.refl _|exact aN rfl|exact bn rfl|exact bY rfl
    done)
  |exact⟨aB.refl _,aI.refl _,trivial⟩
  |skip
theorem aeT(w:WT)(n:Nat)(x':AskT)(node:Int)(hn:n<w.asked.length)(hl:w.log.length<4096)(hen:(w.asked.getD n default).en=false)(hen':x'.en=false)
 (hq:Sc 225 [.agg (je w 6000 w.asked.length 6001 w.log.length),.agg (vP (w.asked.getD n default)),.agg (lK 26 node 0 n)] [(6000,askRow w.asked),(6001,logRow w.log)] (.cO [.agg (vP x'),.d (.int .i64 0)]) [(6000,askRow w.asked),(6001,logRow w.log)]):
 Sc 68 [.ptr 1000 0,.agg (lK 26 node 0 n)]
  [(1000,.box (je w 6000 w.asked.length 6001 w.log.length)),(6000,askRow w.asked),(6001,logRow w.log)]
  (.agg (tH 0 jM))
  [(1000,.box (je w 6000 w.asked.length 6001 w.log.length)),(6000,askRow (w.asked.set n x')),(6001,logRow w.log)]:=by
 have q:=Ns w n x' node hn hen hen' hq
 have e1:decide ((w.log.length:Int)>=4096)=false:=decide_eq_false Om
 refine Si (fn:=Tryz.f68) Tryz.call68 ?_
 conv=>whnf
 repeat' first|((first|refine Ci q ?_|refine Sr ?_|refine Sg ?_|refine Ni ?_ ?_);conv=>whnf)
 all_goals first
  |exact Lf
  |(refine⟨?_,trivial⟩
    repeat' first|exact aI.nil|refine aB.cO ?_|refine aB.agg ?_|refine aI.cons ?_ ?_|exact aB.refl _|exact aN rfl|exact bn rfl|exact bY rfl
    done)
  |exact⟨aB.refl _,aI.refl _,trivial⟩
  |skip
theorem ahj(w:WT)(n:Nat)(x':AskT)(hn:n<w.asked.length)(hl:w.log.length<4096)(hen:(w.asked.getD n default).en=false)(hen':x'.en=false)
 (hq:Sc 226 [.agg (vP (w.asked.getD n default))] [] (.cO [.agg (vP x'),.d (.int .i64 0)]) []):
 Sc 68 [.ptr 1000 0,.agg (lK 27 0 0 n)]
  [(1000,.box (je w 6000 w.asked.length 6001 w.log.length)),(6000,askRow w.asked),(6001,logRow w.log)]
  (.agg (tH 0 jM))
  [(1000,.box (je w 6000 w.asked.length 6001 w.log.length)),(6000,askRow (w.asked.set n x')),(6001,logRow w.log)]:=by
 have q:=Qj w n x' hn hen hen' hq
 have e1:decide ((w.log.length:Int)>=4096)=false:=decide_eq_false Om
 refine Si (fn:=Tryz.f68) Tryz.call68 ?_
 conv=>whnf
 repeat' first|((first|refine Ci q ?_|refine Sr ?_|refine Sg ?_|refine Ni ?_ ?_);conv=>whnf)
 all_goals first
  |exact Lf
  |(refine⟨?_,trivial⟩
    repeat' first|exact aI.nil|refine aB.cO ?_|refine aB.agg ?_|refine aI.cons ?_ ?_|exact aB.refl _|exact aN rfl|exact bn rfl|exact bY rfl
    done)
  |exact⟨aB.refl _,aI.refl _,trivial⟩
  |skip
theorem ajf(w:WT)(n:Nat)(rows:List Row)(fo:mD)(A B:List dL)(hn:n<w.asked.length)(hl:w.log.length<4096)(hen:(w.asked.getD n default).en=false)
 (hq:Sc 228 [.agg (vP (w.asked.getD n default))] [] (.cO [.agg (xE (w.asked.getD n default).dn (w.asked.getD n default).k A B),.d (.int .i64 0)]) [])
 (hc:Sc 229 [.agg (xE (w.asked.getD n default).dn (w.asked.getD n default).k A B)] [] (.cO [.agg (zQ rows fo),.d (.int .i64 0)]) []):
 Sc 68 [.ptr 1000 0,.agg (lK 29 0 0 n)]
  [(1000,.box (je w 6000 w.asked.length 6001 w.log.length)),(6000,askRow w.asked),(6001,logRow w.log)]
  (.agg (tH 0 (zQ rows fo)))
  [(1000,.box (je w 6000 w.asked.length 6003 (w.log.length+1))),(6000,askRow (w.asked.set n {w.asked.getD n default with en:=true})),(6001,.gone),(6003,logRow (w.log++[⟨4,n,(w.asked.getD n default).dn,(w.asked.getD n default).k,A,B⟩]))]:=by
 have q:=TD w n rows fo A B hn hl hen hq hc
 have e1:decide ((w.log.length:Int)>=4096)=false:=decide_eq_false Om
 refine Si (fn:=Tryz.f68) Tryz.call68 ?_
 conv=>whnf
 repeat' first|((first|refine Ci q ?_|refine Sr ?_|refine Sg ?_|refine Ni ?_ ?_);conv=>whnf)
 all_goals first
  |exact Lf
  |(refine⟨?_,trivial⟩
    repeat' first|exact aI.nil|refine aB.cO ?_|refine aB.agg ?_|refine aI.cons ?_ ?_|exact aB.refl _|exact aN rfl|exact bn rfl|exact bY rfl
    done)
  |exact⟨aB.refl _,aI.refl _,trivial⟩
  |skip
theorem Jd{w:WT}(hR:NM w.names w.grp):(IV w.names w.grp).length<=1000:=by rw[IV,eY,Gt,List.length_map];have:=hR.n;omega
abbrev agt(w:WT):List (Nat×bG):=[(6,.box (je w 6000 w.asked.length 6001 w.log.length)),(6000,askRow w.asked),(6001,logRow w.log)]
theorem afI(w:WT)(hB:WB w)(hR:NM w.names w.grp)(x:AskT)(hen:x.en=false)(hq:Sc 224 [.agg (kR x.dn x.k),.d (ay dH 2 x.cu)] [] (.cO [.agg (vP x),.d (.int .i64 0)]) [])(hn:w.asked.length<64)(hl:w.log.length<4096):
 Sc 29 [.agg (dM w),.agg (afp x.dn x.k x.cu)] [] (.cO [.agg (dM {w with asked:=w.asked++[x],log:=w.log++[⟨3,w.asked.length,x.dn,x.k,[],[]⟩]}),.agg (tH w.asked.length jM)]) []:=by
 have q2:Sc 68 [.ptr 6 0,.agg (afp x.dn x.k x.cu)] (agt w) (.agg (tH w.asked.length jM))
  [(6,.box (je w 6002 (w.asked.length+1) 6003 (w.log.length+1))),(6000,.gone),(6001,.gone),(6002,askRow (w.asked++[x])),(6003,logRow (w.log++[⟨3,w.asked.length,x.dn,x.k,[],[]⟩]))]:=(ajg w x hen hq hn hl).six (by simp[aQ])
 have q1:=BZ w hB
 have q3:=Af w.names w.grp hR
 have q4:=Fp (IV w.names w.grp) (Jd hR)
 refine Si (fn:=Tryz.f29) Tryz.call29 ?_
 conv=>whnf
 repeat' first|((first|refine Ci q1 ?_|refine Ci q2 ?_|refine Ci (q3 _ _ _ _ _ _ _ _ _) ?_|refine Ci q4 ?_|refine PK [6002,6003] ?_|refine Sr ?_|refine Sg ?_|refine Ni ?_ ?_);conv=>whnf)
 simp only[Nat.zero_add]
 rw[show w.asked.length+1=(w.asked++[x]).length by simp,show w.log.length+1=(w.log++[(⟨3,w.asked.length,x.dn,x.k,[],[]⟩:NP)]).length by simp]
 exact⟨aB.refl _,trivial⟩
theorem afG(w:WT)(hB:WB w)(hR:NM w.names w.grp)(n:Nat)(x':AskT)(node:Int)(hn:n<w.asked.length)(hl:w.log.length<4096)(hen:(w.asked.getD n default).en=false)(hen':x'.en=false)
 (hq:Sc 225 [.agg (je w 6000 w.asked.length 6001 w.log.length),.agg (vP (w.asked.getD n default)),.agg (lK 26 node 0 n)] [(6000,askRow w.asked),(6001,logRow w.log)] (.cO [.agg (vP x'),.d (.int .i64 0)]) [(6000,askRow w.asked),(6001,logRow w.log)]):
 Sc 29 [.agg (dM w),.agg (lK 26 node 0 n)] [] (.cO [.agg (dM {w with asked:=w.asked.set n x'}),.agg (tH 0 jM)]) []:=by
 have q2:Sc 68 [.ptr 6 0,.agg (lK 26 node 0 n)] (agt w) (.agg (tH 0 jM))
  [(6,.box (je w 6000 w.asked.length 6001 w.log.length)),(6000,askRow (w.asked.set n x')),(6001,logRow w.log)]:=(aeT w n x' node hn hl hen hen' hq).six (by simp[aQ])
 have q1:=BZ w hB
 have q3:=Af w.names w.grp hR
 have q4:=Fp (IV w.names w.grp) (Jd hR)
 refine Si (fn:=Tryz.f29) Tryz.call29 ?_
 conv=>whnf
 repeat' first|((first|refine Ci q1 ?_|refine Ci q2 ?_|refine Ci (q3 _ _ _ _ _ _ _ _ _) ?_|refine Ci q4 ?_|refine PK [6000,6001] ?_|refine Sr ?_|refine Sg ?_|refine Ni ?_ ?_);conv=>whnf)
 simp only[Nat.zero_add]
 rw[show w.asked.length=(w.asked.set n x').length by simp]
 exact⟨aB.refl _,trivial⟩
theorem Z_(w:WT)(hB:WB w)(hR:NM w.names w.grp)(n:Nat)(x':AskT)(hn:n<w.asked.length)(hl:w.log.length<4096)(hen:(w.asked.getD n default).en=false)(hen':x'.en=false)
 (hq:Sc 226 [.agg (vP (w.asked.getD n default))] [] (.cO [.agg (vP x'),.d (.int .i64 0)]) []):
 Sc 29 [.agg (dM w),.agg (lK 27 0 0 n)] [] (.cO [.agg (dM {w with asked:=w.asked.set n x'}),.agg (tH 0 jM)]) []:=by
 have q2:Sc 68 [.ptr 6 0,.agg (lK 27 0 0 n)] (agt w) (.agg (tH 0 jM))
  [(6,.box (je w 6000 w.asked.length 6001 w.log.length)),(6000,askRow (w.asked.set n x')),(6001,logRow w.log)]:=(ahj w n x' hn hl hen hen' hq).six (by simp[aQ])
 have q1:=BZ w hB
 have q3:=Af w.names w.grp hR
 have q4:=Fp (IV w.names w.grp) (Jd hR)
 refine Si (fn:=Tryz.f29) Tryz.call29 ?_
 conv=>whnf
 repeat' first|((first|refine Ci q1 ?_|refine Ci q2 ?_|refine Ci (q3 _ _ _ _ _ _ _ _ _) ?_|refine Ci q4 ?_|refine PK [6000,6001] ?_|refine Sr ?_|refine Sg ?_|refine Ni ?_ ?_);conv=>whnf)
 simp only[Nat.zero_add]
 rw[show w.asked.length=(w.asked.set n x').length by simp]
 exact⟨aB.refl _,trivial⟩
theorem afH(w:WT)(hB:WB w)(hR:NM w.names w.grp)(n:Nat)(rows:List Row)(fo:mD)(A B:List dL)(hn:n<w.asked.length)(hl:w.log.length<4096)(hen:(w.asked.getD n default).en=false)
 (hq:Sc 228 [.agg (vP (w.asked.getD n default))] [] (.cO [.agg (xE (w.asked.getD n default).dn (w.asked.getD n default).k A B),.d (.int .i64 0)]) [])
 (hc:Sc 229 [.agg (xE (w.asked.getD n default).dn (w.asked.getD n default).k A B)] [] (.cO [.agg (zQ rows fo),.d (.int .i64 0)]) []):
 Sc 29 [.agg (dM w),.agg (lK 29 0 0 n)] [] (.cO [.agg (dM {w with asked:=w.asked.set n {w.asked.getD n default with en:=true},log:=w.log++[⟨4,n,(w.asked.getD n default).dn,(w.asked.getD n default).k,A,B⟩]}),.agg (tH 0 (zQ rows fo))]) []:=by
 have q2:Sc 68 [.ptr 6 0,.agg (lK 29 0 0 n)] (agt w) (.agg (tH 0 (zQ rows fo)))
  [(6,.box (je w 6000 w.asked.length 6003 (w.log.length+1))),(6000,askRow (w.asked.set n {w.asked.getD n default with en:=true})),(6001,.gone),(6003,logRow (w.log++[⟨4,n,(w.asked.getD n default).dn,(w.asked.getD n default).k,A,B⟩]))]:=(ajf w n rows fo A B hn hl hen hq hc).six (by simp[aQ])
 have q1:=BZ w hB
 have q3:=Af w.names w.grp hR
 have q4:=Fp (IV w.names w.grp) (Jd hR)
 refine Si (fn:=Tryz.f29) Tryz.call29 ?_
 conv=>whnf
 repeat' first|((first|refine Ci q1 ?_|refine Ci q2 ?_|refine Ci (q3 _ _ _ _ _ _ _ _ _) ?_|refine Ci q4 ?_|refine PK [6000,6003] ?_|refine Sr ?_|refine Sg ?_|refine Ni ?_ ?_);conv=>whnf)
 simp only[Nat.zero_add]
 rw[show w.asked.length=(w.asked.set n {w.asked.getD n default with en:=true}).length by simp,show w.log.length+1=(w.log++[(⟨4,n,(w.asked.getD n default).dn,(w.asked.getD n default).k,A,B⟩:NP)]).length by simp]
 exact⟨aB.refl _,trivial⟩
theorem VH{l:List Int}{a a':Nat}(w:WT)(dn:Bool)(k:List UInt8)(cu:List dQ)(n:Nat)(W:Nat->WT)(W':WT)(N:Nat)(kd node:Nat->Int)(rows:List Row)(fo:mD)(hN:N<200)
 (hc:Sc 30 [.ptr 1000 0] [(1000,aX l a)] (.d (ay dH 2 cu)) [(1000,aX l a')])
 (h0:Sc 29 [.agg (dM w),.agg (afp dn k cu)] [] (.cO [.agg (dM (W 0)),.agg (tH n jM)]) [])
 (hk: ∀j,j<N->(kd j==29)=false)
 (hv: ∀j,j<N->Sc 31 [.ptr 1000 0,.agg (dM (W j)),.d (.int .i64 n)] [(1000,aX l a')] (.agg (lK (kd j) (node j) 0 n)) [(1000,aX l a')])
 (hd: ∀j,j<N->Sc 29 [.agg (dM (W j)),.agg (lK (kd j) (node j) 0 n)] [] (.cO [.agg (dM (W (j+1))),.agg (tH 0 jM)]) [])
 (hv':Sc 31 [.ptr 1000 0,.agg (dM (W N)),.d (.int .i64 n)] [(1000,aX l a')] (.agg (lK 29 0 0 n)) [(1000,aX l a')])
 (hd':Sc 29 [.agg (dM (W N)),.agg (lK 29 0 0 n)] [] (.cO [.agg (dM W'),.agg (tH 0 (zQ rows fo))]) []):
 Sc 8 [.ptr 1000 0,.agg (dM w),.agg (kR dn k)] [(1000,aX l a)] (.cO [.agg (dM W'),.agg (zQ rows fo),.d (.bool true)]) [(1000,aX l a')]:=by
 refine Si (fn:=Tryz.f8) Tryz.call8 ?_
 conv=>whnf
 repeat' first|((first|refine Ci hc ?_|refine Ci h0 ?_|refine Sr ?_|refine Sg ?_|refine Ni ?_ ?_);conv=>whnf)
 refine aA [0,4,6,7,8,10] [1000,6,7] (fun j:Nat=>[(11,.d (.int .i64 j))]) (fun j=>[(4,.box (dM (W j)))]) (fun j=>j<=N) (fun j=>N-j) 0 ?_ (fun j hj=> ?_) (Nat.zero_le _)
 ·conv=>whnf
  repeat' first|((first|refine Sg ?_|refine Ni ?_ ?_);conv=>whnf)|(refine ah (fun _=> ?_) (fun _=> ?_)<;>(conv=>whnf))
  all_goals try first|exact Lq
 ·have hlt:decide ((j:Int)<200)=true:=decide_eq_true Om
  have hw1:IntKind.i64.wrap ((j:Int)+1)=((j+1:Nat):Int):=wrap_succ (n:=1000) Om Om
  by_cases hjN:j=N
  ·subst hjN
   conv=>whnf
   repeat' first|((first|refine Ci (hv') ?_|refine Ci (hd') ?_|refine Sr ?_|refine Sg ?_|refine Ni ?_ ?_);conv=>whnf)
   all_goals first
    |exact⟨aB.refl _,aI.refl _,trivial⟩|exact Lf
    |skip
  ·have g1:=hv j Om
   have g2:=hd j Om
   have g3:=hk j Om
   conv=>whnf
   repeat' first|((first|refine Ci g1 ?_|refine Ci g2 ?_|refine Sr ?_|refine aG.mk (j+1) ?_ ?_ ?_|refine Sg ?_|refine Ni ?_ ?_);conv=>whnf)
   all_goals first
    |exact aF.of_eq (by rw[hw1])|exact⟨Om,Om⟩|exact Lf
    |skip
structure WOk (w:WT):Prop where
 b:WB w
 ros:NM w.names w.grp
 grp:RI w.grp
 gl:w.grp.length<=90
 al:w.asked.length<=60
 ll:w.log.length<=900
abbrev jq(w:WT)(x:AskT):WT:={w with asked:=w.asked++[x],log:=w.log++[⟨3,w.asked.length,x.dn,x.k,[],[]⟩]}
theorem xU{α:Type}[Inhabited α]{xs:List α}{x:α}:(xs++[x]).getD xs.length default=x:=by simp[List.getD]
theorem xR{α:Type}[Inhabited α]{xs:List α}{x:α}{i:Nat}(h:i<(xs++[x]).length):(i<xs.length∧(xs++[x]).getD i default=xs.getD i default)∨(xs++[x]).getD i default=x:=by
 by_cases e:i<xs.length
 ·exact .inl ⟨e,by simp[List.getD,List.getElem?_append_left e]⟩
 ·have:i=xs.length:=by simp at h;omega
  subst this
  exact .inr xU
theorem Es{α:Type}{xs:List α}{x y:α}:(xs++[x]).set xs.length y=xs++[y]:=by simp
theorem pY{α β:Type}[Inhabited α][Inhabited β]{f:α->β}{xs:List α}{i:Nat}(h:i<xs.length):(xs.map f).getD i default=f (xs.getD i default):=by simp[List.getD,h]
theorem WB.more{w:WT}(h:WB w){x:AskT}(hx:VR x)(ha:w.asked.length<=60)(hl:w.log.length<=900):WB (jq w x):=by
 refine {h with asked:=by simp;omega,ask:=fun i hi=> ?_,log:=by simp;omega,recs:=fun i hi=> ?_}
 ·rcases xR hi with⟨e,h1⟩|h1
  ·show VR ((w.asked++[x]).getD i default)
   rw[h1];exact h.ask i e
  ·show VR ((w.asked++[x]).getD i default)
   rw[h1];exact hx
 ·rcases xR hi with⟨e,h1⟩|h1
  ·show acd ((w.log++[_]).getD i default)
   rw[h1];exact h.recs i e
  ·show acd ((w.log++[_]).getD i default)
   rw[h1];exact⟨⟨Nat.zero_le _,Nat.zero_le _⟩,⟨Nat.zero_le _,Nat.zero_le _⟩⟩
theorem acN{l:List Int}{a:Nat}(w:WT)(hw:WOk w)(dn:Bool)(k:List UInt8)(cu:List dQ)(f s:nR)(t:Bool)(hc:cu.length<=1000∧zy f∧zy s){z':nR}(hst:Hu dn (w.grp.map zV) (sD f s t) z'):
 ∃own:Int,Sc 31 [.ptr 1000 0,.agg (dM (jq w ⟨dn,k,cu,[f],[s],t,false⟩)),.d (.int .i64 w.asked.length)] [(1000,aX l a)] (.agg (lK 26 own 0 w.asked.length)) [(1000,aX l a)]∧
  Sc 29 [.agg (dM (jq w ⟨dn,k,cu,[f],[s],t,false⟩)),.agg (lK 26 own 0 w.asked.length)] [] (.cO [.agg (dM (jq w ⟨dn,k,cu,[if t then f else z'],[if t then z' else s],t,false⟩)),.agg (tH 0 jM)]) []:=by
 obtain⟨hnd,r,hr,_,j,hj,h1,hv,h2,rfl⟩:=hst
 rw[List.length_map]at hj
 rw[pY hj]at h1 hv⊢
 have h2': ∀i,i<w.grp.length->i≠j->fitsV dn (zV (w.grp.getD i default)) r=false:=fun i hi hne=>by
  have:=h2 i (by rw[List.length_map];exact hi) hne
  rwa [pY hi]at this
 obtain⟨vis,hp⟩: ∃vis,sD f s t=([r],vis):=⟨(sD f s t).2,by rw[<-hr]⟩
 rw[hp]at hnd⊢
 have hfit:zy (sD f s t):=by
  cases t
  ·exact hc.2.1
  ·exact hc.2.2
 rw[hp]at hfit
 have hB:WB (jq w ⟨dn,k,cu,[f],[s],t,false⟩):=hw.b.more ⟨hc.1,.inr ⟨f,rfl,hc.2.1⟩,.inr ⟨s,rfl,hc.2.2⟩⟩ hw.al hw.ll
 have hal:=hw.al
 have hll:=hw.ll
 have hgl:=hw.gl
 have hn:w.asked.length<(jq w ⟨dn,k,cu,[f],[s],t,false⟩).asked.length:=by simp
 have e0:(jq w ⟨dn,k,cu,[f],[s],t,false⟩).asked.getD w.asked.length default=⟨dn,k,cu,[f],[s],t,false⟩:=xU
 refine⟨(zV (w.grp.getD j default)).own,?_,?_⟩
 ·have:=acC (l:=l) (a:=a) (jq w ⟨dn,k,cu,[f],[s],t,false⟩) w.asked.length (f:=f) (s:=s) (r:=r) (vis:=vis) hn (by rw[e0]) (by rw[e0]) (by rw[e0];exact hp) ⟨⟨hfit.2.1,hfit.2.2⟩,hnd⟩ hw.grp (by show w.grp.length<=1000;omega) (j:=j) hj (by rw[e0];exact h1) (by rw[e0];exact h2')
  exact this
 ·have:=afG (jq w ⟨dn,k,cu,[f],[s],t,false⟩) hB hw.ros w.asked.length ⟨dn,k,cu,[if t then f else iT dn ([r],vis) (zV (w.grp.getD j default))],[if t then iT dn ([r],vis) (zV (w.grp.getD j default))else s],t,false⟩ (zV (w.grp.getD j default)).own hn (by simp;omega) (by rw[e0]) rfl
   (by rw[e0];exact ah_ _ _ _ _ _ _ _ _ _ _ _ _ w.grp dn k cu w.asked.length hp hc ⟨⟨hfit.2.1,hfit.2.2⟩,hnd⟩ hw.grp Om hj h1 h2')
  have e1:(jq w ⟨dn,k,cu,[f],[s],t,false⟩).asked.set w.asked.length ⟨dn,k,cu,[if t then f else iT dn ([r],vis) (zV (w.grp.getD j default))],[if t then iT dn ([r],vis) (zV (w.grp.getD j default))else s],t,false⟩=w.asked++[⟨dn,k,cu,[if t then f else iT dn ([r],vis) (zV (w.grp.getD j default))],[if t then iT dn ([r],vis) (zV (w.grp.getD j default))else s],t,false⟩]:=Es
  rw[e1]at this
  exact this
theorem aik{l:List Int}{a:Nat}(w:WT)(hw:WOk w)(dn:Bool)(k:List UInt8)(cu:List dQ)(f s:nR)(hc:cu.length<=1000∧zy f∧zy s)(hd:eX f=true):
 Sc 31 [.ptr 1000 0,.agg (dM (jq w ⟨dn,k,cu,[f],[s],false,false⟩)),.d (.int .i64 w.asked.length)] [(1000,aX l a)] (.agg (lK 27 0 0 w.asked.length)) [(1000,aX l a)]∧
  Sc 29 [.agg (dM (jq w ⟨dn,k,cu,[f],[s],false,false⟩)),.agg (lK 27 0 0 w.asked.length)] [] (.cO [.agg (dM (jq w ⟨dn,k,cu,[f],[s],true,false⟩)),.agg (tH 0 jM)]) []:=by
 have hB:WB (jq w ⟨dn,k,cu,[f],[s],false,false⟩):=hw.b.more ⟨hc.1,.inr ⟨f,rfl,hc.2.1⟩,.inr ⟨s,rfl,hc.2.2⟩⟩ hw.al hw.ll
 have hal:=hw.al
 have hll:=hw.ll
 have hn:w.asked.length<(jq w ⟨dn,k,cu,[f],[s],false,false⟩).asked.length:=by simp
 have e0:(jq w ⟨dn,k,cu,[f],[s],false,false⟩).asked.getD w.asked.length default=⟨dn,k,cu,[f],[s],false,false⟩:=xU
 refine⟨?_,?_⟩
 ·exact acD (l:=l) (a:=a) (jq w ⟨dn,k,cu,[f],[s],false,false⟩) w.asked.length (f:=f) (s:=s) hn (by rw[e0]) (by rw[e0]) (by rw[e0]) hd ⟨by have:=hc.2.1.2.1;omega,hc.2.1.2.2⟩
 ·have:=Z_ (jq w ⟨dn,k,cu,[f],[s],false,false⟩) hB hw.ros w.asked.length ⟨dn,k,cu,[f],[s],true,false⟩ hn (by simp;omega) (by rw[e0]) rfl (by rw[e0];exact Wq dn k cu f s ⟨hc,hd⟩)
  have e1:(jq w ⟨dn,k,cu,[f],[s],false,false⟩).asked.set w.asked.length ⟨dn,k,cu,[f],[s],true,false⟩=w.asked++[⟨dn,k,cu,[f],[s],true,false⟩]:=Es
  rw[e1]at this
  exact this
abbrev acu(w:WT)(x:AskT)(V:List dL):WT:={w with asked:=w.asked++[{x with en:=true}],log:=(w.log++[⟨3,w.asked.length,x.dn,x.k,[],[]⟩])++[⟨4,w.asked.length,x.dn,x.k,V,V⟩]}
theorem ail{l:List Int}{a:Nat}(w:WT)(hw:WOk w)(dn:Bool)(k:List UInt8)(cu:List dQ)(s:nR){b:dQ}(hc:cu.length<=1000∧zy s)(hd:eX s=true)(hT:vJ dn k s.2 b):
 Sc 31 [.ptr 1000 0,.agg (dM (jq w ⟨dn,k,cu,[s],[s],true,false⟩)),.d (.int .i64 w.asked.length)] [(1000,aX l a)] (.agg (lK 29 0 0 w.asked.length)) [(1000,aX l a)]∧
  Sc 29 [.agg (dM (jq w ⟨dn,k,cu,[s],[s],true,false⟩)),.agg (lK 29 0 0 w.asked.length)] [] (.cO [.agg (dM (acu w ⟨dn,k,cu,[s],[s],true,false⟩ s.2)),.agg (tH 0 (zQ (fK dn (aS s.2)) (qm (fK dn (aS s.2)))))]) []:=by
 have hB:WB (jq w ⟨dn,k,cu,[s],[s],true,false⟩):=hw.b.more ⟨hc.1,.inr ⟨s,rfl,hc.2⟩,.inr ⟨s,rfl,hc.2⟩⟩ hw.al hw.ll
 have hal:=hw.al
 have hll:=hw.ll
 have hn:w.asked.length<(jq w ⟨dn,k,cu,[s],[s],true,false⟩).asked.length:=by simp
 have e0:(jq w ⟨dn,k,cu,[s],[s],true,false⟩).asked.getD w.asked.length default=⟨dn,k,cu,[s],[s],true,false⟩:=xU
 have hb:s.2.length<=1000∧(aS s.2).length<=1000000:=⟨hT.len,hT.rows⟩
 refine⟨?_,?_⟩
 ·exact acE (l:=l) (a:=a) (jq w ⟨dn,k,cu,[s],[s],true,false⟩) w.asked.length (f:=s) (s:=s) (b:=b) hn (by rw[e0]) (by rw[e0]) rfl (by rw[e0]) hd (by rw[e0];exact hT)
 ·have:=afH (jq w ⟨dn,k,cu,[s],[s],true,false⟩) hB hw.ros w.asked.length (fK dn (aS s.2)) (qm (fK dn (aS s.2))) s.2 s.2 hn (by simp;omega) (by rw[e0])
   (by rw[e0];exact Qh dn k (ay dH 2 cu) s s ⟨hb,hb,hd⟩) (by rw[e0];exact Vu hT)
  rw[e0]at this
  have e1:(jq w ⟨dn,k,cu,[s],[s],true,false⟩).asked.set w.asked.length ⟨dn,k,cu,[s],[s],true,true⟩=w.asked++[⟨dn,k,cu,[s],[s],true,true⟩]:=Es
  dsimp only at this e1
  rw[e1]at this
  exact this
theorem Ti{dn:Bool}{V:List gV}{s:nR}: ∀{n m:Nat},n<=m->(∀i,i<m->Hu dn V (Gq dn V i s) (Gq dn V (i+1) s))->(Gq dn V n s).2.length=s.2.length+n
 |0,_,_,_=>rfl
 |n+1,m,hn,h=>by
  have h1:=Ti (n:=n) (m:=m) Om h
  obtain⟨_,r,_,_,j,_,_,_,_,e⟩:=h n Om
  rw[e]
  unfold iT
  cases dn<;>simp[h1]<;>omega
theorem R_{r:jl}:(iF r).length<=1:=by unfold iF;split<;>simp
theorem afn{T:List Row}(hT:iW T){dn:Bool}{k b:dQ}{s:nR}(hk:aP k.1 k.2=true)(h:RQ T dn k b s)(hl:s.2.length<=900)(hTl:T.length<=1000000):zy s:=by
 refine⟨?_,hl,?_⟩
 ·rw[h.todo];have h1:= @R_ (gB kG b);have h2:= @R_ (gB b mF);split<;>omega
 ·have hle: ∀r:jl,(dw T r).length<=T.length:=fun r=>List.length_filter_le _ _
  cases dn with
  |false=>rw[vG hT hk h.vb h.ch];exact Nat.le_trans (hle _) hTl
  |true=>rw[vG hT h.vb hk h.ch];exact Nat.le_trans (hle _) hTl
theorem start_eq{dn:Bool}{k:List UInt8}(he:aK (eU dn k)=false):Dt dn (k,false)=([eU dn k],[]):=by
 cases dn
 ·show(iF (eU false k),[])=_
  rw[iF,he];rfl
 ·show(iF (eU true k),[])=_
  rw[iF,he];rfl
theorem ahA{l:List Int}{a a':Nat}(w:WT)(hw:WOk w)(dn:Bool)(k:List UInt8)(cu:List dQ)(hcu:w_ cu)(hc:Sc 30 [.ptr 1000 0] [(1000,aX l a)] (.d (ay dH 2 cu)) [(1000,aX l a')])
 {T:List Row} {c:Nat->dQ} (hV:qF T c (w.grp.map zV)) (hk:(k.length:Int)<=64) (he:aK (eU dn k)=false) (hTl:T.length<=1000000):
 ∃(s:nR)(b:dQ),RQ T dn (k,false) b s∧eX s=true∧s.2.length<=900∧
  Sc 8 [.ptr 1000 0,.agg (dM w),.agg (kR dn k)] [(1000,aX l a)] (.cO [.agg (dM (acu w ⟨dn,k,cu,[s],[s],true,false⟩ s.2)),.agg (zQ (fK dn (aS s.2)) (qm (fK dn (aS s.2)))),.d (.bool true)]) [(1000,aX l a')]:=by
 have hvk:aP k false=true:=by simp[aP,hk]
 obtain⟨m,hm,hdone,hsteps,hat⟩:=acZ hV (k:=(k,false)) hvk dn
 rw[List.length_map]at hm
 have hgl:=hw.gl
 have hal:=hw.al
 have hll:=hw.ll
 have hs0:=start_eq he
 obtain⟨st,hst⟩: ∃st:Nat->nR,st=fun i=>Gq dn (w.grp.map zV) i (Dt dn (k,false)):=⟨_,rfl⟩
 have hst0:st 0=([eU dn k],[]):=by rw[hst];exact hs0
 have hlen: ∀i,i<=m->(st i).2.length<=900:=fun i hi=>by
  have:=Ti (n:=i) hi hsteps
  rw[hs0]at this
  rw[hst]
  show(Gq dn (w.grp.map zV) i (Dt dn (k,false))).2.length<=900
  rw[hs0,this]
  show 0+i<=900
  omega
 have hfit: ∀i,i<=m->zy (st i):=fun i hi=>by
  obtain⟨b,hb⟩:=hat i hi
  have h1:=hlen i hi
  rw[hst]at h1⊢
  exact afn hV.tab hvk hb h1 hTl
 have hcl:cu.length<=1000:=by have:=hcu.len;omega
 have hsn: ∀i,i<m->Hu dn (w.grp.map zV) (st i) (st (i+1)):=fun i hi=>by rw[hst];exact hsteps i hi
 have hdm:eX (st m)=true:=by rw[hst];exact hdone
 obtain⟨b,hb⟩:=hat m (Nat.le_refl _)
 have hb':RQ T dn (k,false) b (st m):=by rw[hst];exact hb
 clear hst hsteps hdone hat hb
 refine⟨st m,b,hb',hdm,hlen m (Nat.le_refl _),?_⟩
 obtain⟨W,hW⟩: ∃W:Nat->WT,W=fun j=>if j<=m then jq w ⟨dn,k,cu,[st j],[st 0],false,false⟩else jq w ⟨dn,k,cu,[st m],[st (j-(m+1))],true,false⟩:=⟨_,rfl⟩
 have hW1: ∀j,j<=m->W j=jq w ⟨dn,k,cu,[st j],[st 0],false,false⟩:=fun j hj=>by rw[hW];exact if_pos hj
 have hW2: ∀i,W (m+1+i)=jq w ⟨dn,k,cu,[st m],[st i],true,false⟩:=fun i=>by
  rw[hW]
  show(if m+1+i<=m then _ else _)=_
  rw[if_neg Om,show m+1+i-(m+1)=i by omega]
 clear hW
 have hex: ∀j,∃p:Int×Int,j<2*m+1->(p.1==29)=false∧
  Sc 31 [.ptr 1000 0,.agg (dM (W j)),.d (.int .i64 w.asked.length)] [(1000,aX l a')] (.agg (lK p.1 p.2 0 w.asked.length)) [(1000,aX l a')]∧
  Sc 29 [.agg (dM (W j)),.agg (lK p.1 p.2 0 w.asked.length)] [] (.cO [.agg (dM (W (j+1))),.agg (tH 0 jM)]) []:=by
  intro j
  rcases Nat.lt_trichotomy j m with h|h|h
  ·obtain⟨own,h1,h2⟩:=acN (l:=l) (a:=a') w hw dn k cu (st j) (st 0) false ⟨hcl,hfit j Om,hfit 0 Om⟩ (hsn j h)
   refine⟨(26,own),fun _=>⟨rfl,?_,?_⟩⟩
   ·rw[hW1 j Om];exact h1
   ·rw[hW1 j Om,hW1 (j+1) Om];exact h2
  ·subst h
   obtain⟨h1,h2⟩:=aik (l:=l) (a:=a') w hw dn k cu (st j) (st 0) ⟨hcl,hfit j Om,hfit 0 Om⟩ hdm
   refine⟨(27,0),fun _=>⟨rfl,?_,?_⟩⟩
   ·rw[hW1 j Om];exact h1
   ·rw[hW1 j Om,show j+1=j+1+0 from rfl,hW2 0];exact h2
  ·by_cases hj:j<2*m+1
   ·obtain⟨i,rfl⟩: ∃i,j=m+1+i:=⟨j-(m+1),Om⟩
    obtain⟨own,h1,h2⟩:=acN (l:=l) (a:=a') w hw dn k cu (st m) (st i) true ⟨hcl,hfit m Om,hfit i Om⟩ (hsn i Om)
    refine⟨(26,own),fun _=>⟨rfl,?_,?_⟩⟩
    ·rw[hW2 i];exact h1
    ·rw[hW2 i,show m+1+i+1=m+1+(i+1)by omega,hW2 (i+1)];exact h2
   ·exact⟨(0,0),fun h=>absurd h hj⟩
 obtain⟨p,hp⟩:=Classical.axiomOfChoice hex
 have hT:=aij hV.tab hk hb' hdm (show aK (agm dn k)=false from he) (by have:=hlen m (Nat.le_refl _);omega) (hfit m (Nat.le_refl _)).2.2
 obtain⟨e1,e2⟩:=ail (l:=l) (a:=a') w hw dn k cu (st m) ⟨hcl,hfit m (Nat.le_refl _)⟩ hdm hT
 have q0:=SB dn k cu ⟨hcu,hk,he⟩
 have q1:=afI w hw.b hw.ros ⟨dn,k,cu,[([eU dn k],[])],[([eU dn k],[])],false,false⟩ rfl q0 Om Om
 refine VH w dn k cu w.asked.length W _ (2*m+1) (fun j=>(p j).1) (fun j=>(p j).2) _ _ Om hc ?_ (fun j hj=>(hp j hj).1) (fun j hj=>(hp j hj).2.1) (fun j hj=>(hp j hj).2.2) ?_ ?_
 ·rw[hW1 0 Om,hst0];exact q1
 ·rw[show 2*m+1=m+1+m by omega,hW2 m];exact e1
 ·rw[show 2*m+1=m+1+m by omega,hW2 m];exact e2
theorem af8{l:List Int}{a:Nat}(w:WT)(hw:WOk w)(dn:Bool)(k:List UInt8)(cu:List dQ)(hc:cu.length<=1000)(hk:(k.length:Int)<=64)(he:aK (eU dn k)=true):
 Sc 31 [.ptr 1000 0,.agg (dM (jq w ⟨dn,k,cu,[],[],false,false⟩)),.d (.int .i64 w.asked.length)] [(1000,aX l a)] (.agg (lK 27 0 0 w.asked.length)) [(1000,aX l a)]∧
  Sc 29 [.agg (dM (jq w ⟨dn,k,cu,[],[],false,false⟩)),.agg (lK 27 0 0 w.asked.length)] [] (.cO [.agg (dM (jq w ⟨dn,k,cu,[],[],true,false⟩)),.agg (tH 0 jM)]) []:=by
 have hB:WB (jq w ⟨dn,k,cu,[],[],false,false⟩):=hw.b.more ⟨hc,.inl rfl,.inl rfl⟩ hw.al hw.ll
 have hal:=hw.al
 have hll:=hw.ll
 have hn:w.asked.length<(jq w ⟨dn,k,cu,[],[],false,false⟩).asked.length:=by simp
 have e0:(jq w ⟨dn,k,cu,[],[],false,false⟩).asked.getD w.asked.length default=⟨dn,k,cu,[],[],false,false⟩:=xU
 refine⟨?_,?_⟩
 ·exact aao (l:=l) (a:=a) (jq w ⟨dn,k,cu,[],[],false,false⟩) w.asked.length hn (by rw[e0]) (by rw[e0]) (by rw[e0]) (by rw[e0];exact hk) (by rw[e0];exact he)
 ·have:=Z_ (jq w ⟨dn,k,cu,[],[],false,false⟩) hB hw.ros w.asked.length ⟨dn,k,cu,[],[],true,false⟩ hn (by simp;omega) (by rw[e0]) rfl (by rw[e0];exact aii dn k cu hc)
  have e1:(jq w ⟨dn,k,cu,[],[],false,false⟩).asked.set w.asked.length ⟨dn,k,cu,[],[],true,false⟩=w.asked++[⟨dn,k,cu,[],[],true,false⟩]:=Es
  rw[e1]at this
  exact this
theorem af9{l:List Int}{a:Nat}(w:WT)(hw:WOk w)(dn:Bool)(k:List UInt8)(cu:List dQ)(hc:cu.length<=1000)(hk:(k.length:Int)<=64)(he:aK (eU dn k)=true):
 Sc 31 [.ptr 1000 0,.agg (dM (jq w ⟨dn,k,cu,[],[],true,false⟩)),.d (.int .i64 w.asked.length)] [(1000,aX l a)] (.agg (lK 29 0 0 w.asked.length)) [(1000,aX l a)]∧
  Sc 29 [.agg (dM (jq w ⟨dn,k,cu,[],[],true,false⟩)),.agg (lK 29 0 0 w.asked.length)] [] (.cO [.agg (dM (acu w ⟨dn,k,cu,[],[],true,false⟩ [])),.agg (tH 0 (zQ (fK dn []) (qm (fK dn []))))]) []:=by
 have hB:WB (jq w ⟨dn,k,cu,[],[],true,false⟩):=hw.b.more ⟨hc,.inl rfl,.inl rfl⟩ hw.al hw.ll
 have hal:=hw.al
 have hll:=hw.ll
 have hn:w.asked.length<(jq w ⟨dn,k,cu,[],[],true,false⟩).asked.length:=by simp
 have e0:(jq w ⟨dn,k,cu,[],[],true,false⟩).asked.getD w.asked.length default=⟨dn,k,cu,[],[],true,false⟩:=xU
 refine⟨?_,?_⟩
 ·exact aap (l:=l) (a:=a) (jq w ⟨dn,k,cu,[],[],true,false⟩) w.asked.length hn (by rw[e0]) (by rw[e0]) (by rw[e0]) (by rw[e0];exact hk) (by rw[e0];exact he)
 ·have:=afH (jq w ⟨dn,k,cu,[],[],true,false⟩) hB hw.ros w.asked.length (fK dn []) (qm (fK dn [])) [] [] hn (by simp;omega) (by rw[e0]) (by rw[e0];exact aaM dn k _) (by rw[e0];exact Rn hk he)
  rw[e0]at this
  have e1:(jq w ⟨dn,k,cu,[],[],true,false⟩).asked.set w.asked.length ⟨dn,k,cu,[],[],true,true⟩=w.asked++[⟨dn,k,cu,[],[],true,true⟩]:=Es
  dsimp only at this e1
  rw[e1]at this
  exact this
theorem ask_nil{l:List Int}{a a':Nat}(w:WT)(hw:WOk w)(dn:Bool)(k:List UInt8)(cu:List dQ)(hcu:w_ cu)(hc:Sc 30 [.ptr 1000 0] [(1000,aX l a)] (.d (ay dH 2 cu)) [(1000,aX l a')])
 (hk:(k.length:Int)<=64) (he:aK (eU dn k)=true):
 Sc 8 [.ptr 1000 0,.agg (dM w),.agg (kR dn k)] [(1000,aX l a)] (.cO [.agg (dM (acu w ⟨dn,k,cu,[],[],true,false⟩ [])),.agg (zQ (fK dn []) (qm (fK dn []))),.d (.bool true)]) [(1000,aX l a')]:=by
 have hal:=hw.al
 have hll:=hw.ll
 have hcl:cu.length<=1000:=by have:=hcu.len;omega
 have q0:=SC dn k cu ⟨hcu,hk,he⟩
 have q1:=afI w hw.b hw.ros ⟨dn,k,cu,[],[],false,false⟩ rfl q0 Om Om
 obtain⟨h1,h2⟩:=af8 (l:=l) (a:=a') w hw dn k cu hcl hk he
 obtain⟨e1,e2⟩:=af9 (l:=l) (a:=a') w hw dn k cu hcl hk he
 exact VH w dn k cu w.asked.length (fun j=>if j=0 then jq w ⟨dn,k,cu,[],[],false,false⟩else jq w ⟨dn,k,cu,[],[],true,false⟩) _ 1 (fun _=>27) (fun _=>0) _ _ Om hc q1 (fun j hj=>rfl)
  (fun j hj=>by obtain rfl:j=0:=Om
                exact h1) (fun j hj=>by obtain rfl:j=0:=Om
                                        exact h2) e1 e2
def Au(x:Row×Bool):List Row:=if x.2 then [x.1]else []
theorem ZF{s:nR}(h:eX s=true):s.1=[]∨aS s.2≠[]:=by
 unfold eX at h
 rw[Bool.or_eq_true]at h
 rcases h with h|h
 ·exact .inl (by simpa using h)
 ·exact .inr (by simpa using h)
theorem Sj{x y:dQ}(hx:aP x.1 x.2=true)(hy:aP y.1 y.2=true)(hle:aW x y<=0)(h:iF (gB x y)=[]):x=y:=by
 unfold iF at h
 cases e:aK (gB x y)with
 |true=>
  have h2: ¬aW x y<0:=fun h2=>by rw[jJ hx hy h2]at e;simp at e
  exact cmp_eq hx hy (show aW x y=0 by omega)
 |false=>rw[e]at h;simp at h
theorem ajt{T:List Row}(hT:iW T){k:List UInt8}(hk:(k.length:Int)<=64){b:dQ}{s:nR}(ha:RQ T false (k,false) b s)(hd:eX s=true):fK false (aS s.2)=Au (qE T k false):=by
 have hvk:aP k false=true:=by simp[aP,hk]
 have hch:qH T (k,false) s.2 b:=ha.ch
 have hr:=vG hT (a:=(k,false)) hvk ha.vb hch
 have h1:dw T (gB (k,false) b)≠[]∨b=mF:=by
  rcases ZF hd with h|h
  ·right
   have htd:s.1=iF (gB b mF):=ha.todo
   rw[htd]at h
   exact Sj ha.vb lU (le_top ha.vb) h
  ·left;rwa [<-hr]
 have h2:=agL hT (k:=(k,false)) hvk ha.vb (vH hch) h1
 show(aS s.2).take 1=Au (qE T k false)
 rw[hr,show qE T k false=_ from h2]
 cases dw T (gB (k,false) b)<;>rfl
theorem aju{T:List Row}(hT:iW T){k:List UInt8}(hk:(k.length:Int)<=64){b:dQ}{s:nR}(ha:RQ T true (k,false) b s)(hd:eX s=true):fK true (aS s.2)=Au (nX T k false):=by
 have hvk:aP k false=true:=by simp[aP,hk]
 have hch:qH T b s.2 (k,false):=ha.ch
 have hr:=vG hT (b:=(k,false)) ha.vb hvk hch
 have h1:dw T (gB b (k,false))≠[]∨b=kG:=by
  rcases ZF hd with h|h
  ·right
   have htd:s.1=iF (gB kG b):=ha.todo
   rw[htd]at h
   exact(Sj jU ha.vb bot_le h).symm
  ·left;rwa [<-hr]
 have h2:=Y9 hT (k:=(k,false)) hvk ha.vb (vH hch) h1
 show(aS s.2).drop ((aS s.2).length-1)=Au (nX T k false)
 rw[hr,show nX T k false=_ from h2]
 rcases List.eq_nil_or_concat (dw T (gB b (k,false)))with e|⟨R,x,e⟩
 ·rw[e];rfl
 ·rw[e]
  simp[Au]
theorem ajH{k:List UInt8}(hk:(k.length:Int)<=64):aK (eU false k)=false:=by
 have hvk:aP k false=true:=by simp[aP,hk]
 have h1:=jJ (a:=(k,false)) (b:=mF) hvk lU (by
  show aW (k,false) ([],true)<0
  simp[aW,aV])
 exact h1
theorem akN{k:List UInt8}(hk:(k.length:Int)<=64)(hne:k≠[]):aK (eU true k)=false:=by
 have hvk:aP k false=true:=by simp[aP,hk]
 exact jJ (a:=kG) (b:=(k,false)) jU hvk (by
  have:=bot_le (b:=(k,false))
  rcases Int.lt_or_eq_of_le this with h|h
  ·exact h
  ·exact absurd (congrArg Prod.fst (cmp_eq jU hvk h)).symm hne)
theorem ab2{T:List Row}(hT:iW T):nX T [] false=(([],[]),false):=by
 have h2:=Y9 hT (k:=kG) (b:=kG) jU jU bot_le (.inr rfl)
 rw[JD]at h2
 exact h2
end Go.Proofs.YtgdgkekpfmhbbaaGreatDoor
