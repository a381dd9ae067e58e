/- Contracts of functions that the law reaches: YtgdgkekpfmhbbaaGreatDoorTP33. Written for this claim. -/
import Derived.Test.YtgdgkekpfmhbbaaGreatDoorTP31
import Derived.Test.YtgdgkekpfmhbbaaGreatDoorTP16
import Derived.Test.YtgdgkekpfmhbbaaGreatDoorTPLay
namespace Go.Proofs.YtgdgkekpfmhbbaaGreatDoor
open Go Go.Sx Go.ChangeShapes Go.WideShapes Go.ChangeAt Go.RowKit
set_option linter.unusedVariables false
set_option linter.unusedSimpArgs false
set_option maxRecDepth 100000
theorem eok0:I8 Tryz.prog []:=⟨Kq,fun T hT=>by cases hT⟩
def JI:List aO:=[⟨2,[1],0,0,[]⟩]
theorem Wx:Az o7 (Gs o7 1 4 (dB o7 JI)) 1=CO:=by decide
theorem Wy:tK (aH o7) (nU (aH o7) 1)=CO:=by decide
theorem ait:NQ CO:=by
 constructor<;>decide
abbrev litN(K:Nat):D:= .list 2 K (PZ (fun _ j=>[D.int .i64 0,D.str [],D.int .u32 0].getD j default) [(0,[D.int .i64 1,D.str [97],D.int .u32 0]),(1,[D.int .i64 2,D.str [98],D.int .u32 2])])
abbrev litP(K J:Nat):D:= .list 1 K (PZ (fun _ j=>[D.int .i64 0,D.val (.slice none 0 0),D.int .i64 0,D.int .i64 0,D.val (.slice none 0 0)].getD j default)
 [(0,[D.int .i64 2,D.list 1 J (PZ (fun _ j=>[D.int .i64 0].getD j default) [(0,[D.int .i64 1])]),D.int .i64 0,D.int .i64 0,D.val (.slice none 0 0)])])
theorem Jg{K:Nat}(hK:K=3):aF (litN K) (ay aZ 3 o7):=BX hK rfl ⟨fun i j hi hj=>
 match i,j,hi,hj with
 |0,0,_,_=>aF.refl _
 |0,1,_,_=>aF.refl _
 |0,2,_,_=>aF.refl _
 |1,0,_,_=>aF.refl _
 |1,1,_,_=>aF.refl _
 |1,2,_,_=>aF.refl _⟩
theorem agS{K J:Nat}(hK:K=5)(hJ:J=1):aF (litP K J) (ay lI 5 JI):=BX hK rfl ⟨fun i j hi hj=>
 match i,j,hi,hj with
 |0,0,_,_=>aF.refl _
 |0,1,_,_=>BX (enc:=encZ) (L:=[1]) hJ rfl (row_one (AB (aF.of_eq rfl)))
 |0,2,_,_=>aF.refl _
 |0,3,_,_=>aF.refl _
 |0,4,_,_=>aF.nil⟩
theorem YP:Sc 11 [] [] (.d (.bool true)) []:=by
 have hrun:=ajX (nodes:=o7) (ps:=JI) (h:=1) (n:=4) ⟨YO,⟨by decide,fun p hp=>by simp only[JI,List.mem_singleton]at hp;subst hp;exact⟨by decide,by decide⟩⟩,by decide,by decide⟩
 have hlk:=agU (nodes:=o7) (ps:=Gs o7 1 4 (dB o7 JI)) (h:=1) ⟨YO,ajY ⟨by decide,fun p hp=>by simp only[JI,List.mem_singleton]at hp;subst hp;exact⟨by decide,by decide⟩⟩ (by decide) (by decide),by decide⟩
 have hex:=XW (nodes:=o7) (l:=CO) (h:=1) ⟨YO,by decide,ait⟩
 rw[Wy,decide_eq_true rfl]at hex
 rw[Wx]at hlk
 obtain⟨RP,hRP⟩: ∃RP,RP=Gs o7 1 4 (dB o7 JI):=⟨_,rfl⟩
 rw[<-hRP]at hrun hlk
 have hrun2:=hrun.arg (aI.cons (aB.d (Jg (K:=Tryz.prog.cellsOf 72) Kq)) (aI.cons (aB.d (agS (K:=Tryz.prog.cellsOf 114) (J:=Tryz.prog.cellsOf 3) Kq Kq)) (aI.refl _)))
 have hlk2:=hlk.arg (aI.cons (aB.d (Jg (K:=Tryz.prog.cellsOf 72) Kq)) (aI.refl _))
 have hro2:=aix.arg (aI.cons (aB.d (Jg (K:=Tryz.prog.cellsOf 72) Kq)) (aI.refl _))
 have hex2:=hex.arg (aI.cons (aB.d (Jg (K:=Tryz.prog.cellsOf 72) Kq)) (aI.refl _))
 have hend:=end0 1 2 1 1
 refine qZ (E:=[]) (fn:=Tryz.f11) eok0 Kq Kq Tryz.call11 Kq Kq ?_
 conv=>whnf
 repeat' first|((first|refine Ci hrun2 ?_|refine Ci hlk2 ?_|refine Ci hro2 ?_|refine Ci hex2 ?_|refine Ci hend ?_|refine Sg ?_|refine Ni ?_ ?_);conv=>whnf)
 all_goals first|exact⟨aB.refl _,trivial⟩
theorem adf(dn:Bool)(k:List UInt8):aB (.agg [.d (.int .i64 (sJ dn)),.d (.val (.slice none 0 0)),.d (.str k),.d (.int .i64 1)]) (.agg (kR dn k)):=
 aB.agg (aI.cons (aB.refl _) (aI.cons (aN rfl) (aI.cons (aB.refl _) (aI.cons (aB.refl _) aI.nil))))
theorem WOk.after{w:WT}(h:WOk w){x:AskT}{V:List dL}(hx:VR {x with en:=true})(hV:V.length<=900∧(aS V).length<=1000000)(ha:w.asked.length<=50)(hl:w.log.length<=800):WOk (acu w x V):=by
 refine {b:={h.b with asked:=by simp;omega,ask:=fun i hi=> ?_,log:=by simp;omega,recs:=fun i hi=> ?_},ros:=h.ros,grp:=h.grp,gl:=h.gl,al:=by simp;omega,ll:=by simp;omega}
 ·rcases xR hi with⟨e,h1⟩|h1
  ·show VR ((w.asked++[_]).getD i default)
   rw[h1];exact h.b.ask i e
  ·show VR ((w.asked++[_]).getD i default)
   rw[h1];exact hx
 ·rcases xR hi with⟨e,h1⟩|h1
  ·show acd (((w.log++[_])++[_]).getD i default)
   rw[h1]
   rcases xR e with⟨e2,h2⟩|h2
   ·rw[h2];exact h.b.recs i e2
   ·rw[h2];exact⟨⟨Nat.zero_le _,Nat.zero_le _⟩,⟨Nat.zero_le _,Nat.zero_le _⟩⟩
  ·show acd (((w.log++[_])++[_]).getD i default)
   rw[h1]
   exact⟨⟨by show V.length<=_;omega,by show(aS V).length<=_;omega⟩,⟨by show V.length<=_;omega,by show(aS V).length<=_;omega⟩⟩
def VD(dn:Bool)(T:List Row)(k:List UInt8):Row×Bool:=if dn then nX T k false else qE T k false
theorem ZM{l:List Int}{a:Nat}(hT:bg l a)(w:WT)(hw:WOk w)(ha:w.asked.length<=50)(hl:w.log.length<=800)(dn:Bool)(k:List UInt8)(hk:(k.length:Int)<=64){T:List Row}{c:Nat->dQ}(hV:qF T c (w.grp.map zV))(hTl:T.length<=1000000):
 ∃(w':WT)(fo:mD)(a':Nat),(bg l a'∧WOk w'∧w'.grp=w.grp∧w'.asked.length=w.asked.length+1∧w'.log.length=w.log.length+2)∧
  Sc 8 [.ptr 1000 0,.agg (dM w),.agg [.d (.int .i64 (sJ dn)),.d (.val (.slice none 0 0)),.d (.str k),.d (.int .i64 1)]] [(1000,aX l a)] (.cO [.agg (dM w'),.agg (zQ (Au (VD dn T k)) fo),.d (.bool true)]) [(1000,aX l a')]:=by
 obtain⟨⟨cu,a'⟩,⟨hcu,hT'⟩,hc⟩:=X6 1000 hT
 dsimp only at hcu hT' hc
 have hvk:aP k false=true:=by simp[aP,hk]
 have hcl:cu.length<=1000:=by have:=hcu.len;omega
 by_cases he:aK (eU dn k)=true
 ·have h:=ask_nil w hw dn k cu hcu hc hk he
  have h2:fK dn []=Au (VD dn T k):=by
   cases dn with
   |false=>rw[ajH hk]at he;cases he
   |true=>
    by_cases hne:k=[]
    ·subst hne
     show []=Au (nX T [] false)
     rw[ab2 hV.tab];rfl
    ·rw[akN hk hne]at he;cases he
  rw[h2]at h
  refine⟨_,_,a',⟨hT',hw.after ⟨hcl,.inl rfl,.inl rfl⟩ ⟨Nat.zero_le _,Nat.zero_le _⟩ ha hl,rfl,by simp,by simp⟩,h.arg (aI.cons (aB.refl _) (aI.cons (aB.refl _) (aI.cons (adf dn k) aI.nil)))⟩
 ·have he:aK (eU dn k)=false:=by simpa using he
  obtain⟨s,b,hat,hd,hlen,h⟩:=ahA w hw dn k cu hcu hc hV hk he hTl
  have hfit:=afn hV.tab (k:=(k,false)) hvk hat hlen hTl
  have h2:fK dn (aS s.2)=Au (VD dn T k):=by
   cases dn with
   |false=>exact ajt hV.tab hk hat hd
   |true=>exact aju hV.tab hk hat hd
  rw[h2]at h
  refine⟨_,_,a',⟨hT',hw.after ⟨hcl,.inr ⟨s,rfl,hfit⟩,.inr ⟨s,rfl,hfit⟩⟩ ⟨hlen,hfit.2.2⟩ ha hl,rfl,by simp,by simp⟩,h.arg (aI.cons (aB.refl _) (aI.cons (aB.refl _) (aI.cons (adf dn k) aI.nil)))⟩
theorem KE{x:Row}:Au (x,true)=[x]:=rfl
theorem Qz{x:Row}:Au (x,false)=[]:=rfl
theorem aa5{l:List Int}(hl: ∀x∈l,-9223372036854775808<=x∧x<9223372036854775808):Sc 3 [.d (ay encI 1 l)] [] (.d (.bool true)) []:=by
 obtain⟨⟨tp,a0⟩,hT0,q1⟩:=aiL 1000 hl
 simp only at hT0 q1
 obtain⟨⟨⟨ns,T⟩,⟨c,h⟩,a1⟩,⟨hns,hT,hc,hh,hT1⟩,q2⟩:=acW 1000 hT0
 simp only at hns hT hc hh hT1 q2
 have hTl:T.length<=1000000:=by have:=hT.len;omega
 obtain⟨w,⟨hw,hwa,hwl,hV⟩,q3⟩:=agJ ⟨hns,hT,hc,hh⟩
 obtain⟨⟨k,a2⟩,⟨hk,hT2⟩,q4⟩:=GK 1000 hT1
 simp only at hk hT2 q4
 obtain⟨w1,f1,a3,⟨hT3,hw1,hg1,ha1,hl1⟩,q5⟩:=ZM hT2 w hw (by rw[hwa];exact Nat.zero_le _) (by rw[hwl];exact Nat.zero_le _) false k hk hV hTl
 rw[hwa]at ha1
 rw[hwl]at hl1
 obtain⟨w2,f2,a4,⟨hT4,_⟩,q6⟩:=ZM hT3 w1 hw1 (by rw[ha1];decide) (by rw[hl1];decide) true k hk (by rw[hg1];exact hV) hTl
 have q7:=VN T k false
 have q8:=VE T k false
 rw[show VD false T k=qE T k false from rfl,show sJ false=3 from rfl]at q5
 rw[show VD true T k=nX T k false from rfl,show sJ true=4 from rfl]at q6
 generalize qE T k false=x at q5 q7
 generalize nX T k false=y at q6 q8
 obtain⟨⟨xk,xv⟩,xb⟩:=x
 obtain⟨⟨yk,yv⟩,yb⟩:=y
 simp only at q7 q8
 have e1:((([(xk,xv)]:List Row).getD (Int.toNat 0) default).1==xk&&(([(xk,xv)]:List Row).getD (Int.toNat 0) default).2==xv)=true:=by simp
 have e2:((([(yk,yv)]:List Row).getD (Int.toNat 0) default).1==yk&&(([(yk,yv)]:List Row).getD (Int.toNat 0) default).2==yv)=true:=by simp
 cases xb
 ·rw[Qz]at q5
  cases yb
  ·rw[Qz]at q6
   refine Si (fn:=Tryz.f3) Tryz.call3 ?_
   conv=>whnf
   repeat' first|((first|refine Ci q1 ?_|refine Ci q2 ?_|refine Ci q3 ?_|refine Ci q4 ?_|refine Ci q5 ?_|refine Ci q6 ?_|refine Ci q7 ?_|refine Ci q8 ?_|refine Ci YP ?_|refine Sr ?_|refine Sg ?_|refine Ni ?_ ?_);conv=>whnf)
   all_goals first|exact⟨aB.refl _,trivial⟩|exact⟨Int.le_refl _,by show(0:Int)<((1:Nat):Int);decide⟩|exact Lf
  ·rw[KE]at q6
   refine Si (fn:=Tryz.f3) Tryz.call3 ?_
   conv=>whnf
   repeat' first|((first|refine Ci q1 ?_|refine Ci q2 ?_|refine Ci q3 ?_|refine Ci q4 ?_|refine Ci q5 ?_|refine Ci q6 ?_|refine Ci q7 ?_|refine Ci q8 ?_|refine Ci YP ?_|refine Sr ?_|refine Sg ?_|refine Ni ?_ ?_);conv=>whnf)
   all_goals first|exact⟨aB.refl _,trivial⟩|exact⟨Int.le_refl _,by show(0:Int)<((1:Nat):Int);decide⟩|exact Lf
 ·rw[KE]at q5
  cases yb
  ·rw[Qz]at q6
   refine Si (fn:=Tryz.f3) Tryz.call3 ?_
   conv=>whnf
   repeat' first|((first|refine Ci q1 ?_|refine Ci q2 ?_|refine Ci q3 ?_|refine Ci q4 ?_|refine Ci q5 ?_|refine Ci q6 ?_|refine Ci q7 ?_|refine Ci q8 ?_|refine Ci YP ?_|refine Sr ?_|refine Sg ?_|refine Ni ?_ ?_);conv=>whnf)
   all_goals first|exact⟨aB.refl _,trivial⟩|exact⟨Int.le_refl _,by show(0:Int)<((1:Nat):Int);decide⟩|exact Lf
  ·rw[KE]at q6
   refine Si (fn:=Tryz.f3) Tryz.call3 ?_
   conv=>whnf
   repeat' first|((first|refine Ci q1 ?_|refine Ci q2 ?_|refine Ci q3 ?_|refine Ci q4 ?_|refine Ci q5 ?_|refine Ci q6 ?_|refine Ci q7 ?_|refine Ci q8 ?_|refine Ci YP ?_|refine Sr ?_|refine Sg ?_|refine Ni ?_ ?_);conv=>whnf)
   all_goals first|exact⟨aB.refl _,trivial⟩|exact⟨Int.le_refl _,by show(0:Int)<((1:Nat):Int);decide⟩|exact Lf
end Go.Proofs.YtgdgkekpfmhbbaaGreatDoor
namespace Go.Proofs.YtgdgkekpfmhbbaaGreatDoor
open Go Go.Sx Go.ChangeShapes Go.WideShapes Go.ChangeAt Go.WideMaps Go.WideElems Go.RowKit
set_option linter.unusedVariables false
set_option linter.unusedSimpArgs false
set_option maxRecDepth 100000
theorem Jt(X0:List (List D))(h:CG (wfT Tryz.prog reachBytes 12) [22] X0):Sc 3 (svs Tryz.prog [22] X0) [] (.d (.bool true)) []:=by
 obtain⟨x,rfl,hx⟩:=inv1 h
 obtain⟨l,h1,h2,h3⟩:=aek hx
 obtain⟨_,_,rfl,_⟩:=hx
 exact(aa5 h1).arg h2
end Go.Proofs.YtgdgkekpfmhbbaaGreatDoor
