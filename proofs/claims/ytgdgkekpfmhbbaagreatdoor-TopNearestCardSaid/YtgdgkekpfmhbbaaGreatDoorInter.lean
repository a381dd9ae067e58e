/- Contracts of functions that the law reaches: YtgdgkekpfmhbbaaGreatDoorInter. Written for this claim. -/
import Derived.Test.YtgdgkekpfmhbbaaGreatDoorBase
import Derived.Test.YtgdgkekpfmhbbaaGreatDoorSxTabB
import Derived.Test.YtgdgkekpfmhbbaaGreatDoorSxWlk3
namespace Go.Proofs.YtgdgkekpfmhbbaaGreatDoor
open Go Go.Sx Go.ChangeShapes Go.WideShapes Go.ChangeAt Go.RowKit
set_option linter.unusedVariables false
set_option linter.unusedSimpArgs false
set_option maxRecDepth 100000
theorem QW(ak:List UInt8)(a:Bool)(bk:List UInt8)(b:Bool):Sc 267 [.agg [.d (.str ak),.d (.bool a)],.agg [.d (.str bk),.d (.bool b)]] [] (.agg [.d (.str (vT (ak,a) (bk,b)).1),.d (.bool (vT (ak,a) (bk,b)).2)]) []:=by
 have hn:=cmp_neg (ak,a) (bk,b)
 simp only[aW]at hn
 refine Si (fn:=Tryz.f267) Tryz.call267 ?_
 conv=>whnf
 repeat' first|((first|refine Ci (b_ _ _ _ _) ?_|refine Sg ?_|refine Ni ?_ ?_);conv=>whnf)|(refine ah (fun _=> ?_) (fun _=> ?_)<;>(conv=>whnf))
 all_goals try simp only[decide_eq_true_eq,decide_eq_false_iff_not]at*
 all_goals first
  |(have e:vT (ak,a) (bk,b)=(bk,b):=by
     unfold vT;simp only[aW];exact if_pos Om
    rw[e];exact⟨aB.refl _,trivial⟩)
  |(have e:vT (ak,a) (bk,b)=(ak,a):=by
     unfold vT;simp only[aW];exact if_neg Om
    rw[e];exact⟨aB.refl _,trivial⟩)
theorem Uu(ak:List UInt8)(a:Bool)(bk:List UInt8)(b:Bool):Sc 268 [.agg [.d (.str ak),.d (.bool a)],.agg [.d (.str bk),.d (.bool b)]] [] (.agg [.d (.str (vS (ak,a) (bk,b)).1),.d (.bool (vS (ak,a) (bk,b)).2)]) []:=by
 have hn:=cmp_neg (ak,a) (bk,b)
 simp only[aW]at hn
 refine Si (fn:=Tryz.f268) Tryz.call268 ?_
 conv=>whnf
 repeat' first|((first|refine Ci (b_ _ _ _ _) ?_|refine Sg ?_|refine Ni ?_ ?_);conv=>whnf)|(refine ah (fun _=> ?_) (fun _=> ?_)<;>(conv=>whnf))
 all_goals try simp only[decide_eq_true_eq,decide_eq_false_iff_not]at*
 all_goals first
  |(have e:vS (ak,a) (bk,b)=(bk,b):=by
     unfold vS;simp only[aW];exact if_pos Om
    rw[e];exact⟨aB.refl _,trivial⟩)
  |(have e:vS (ak,a) (bk,b)=(ak,a):=by
     unfold vS;simp only[aW];exact if_neg Om
    rw[e];exact⟨aB.refl _,trivial⟩)
theorem NI(ak:List UInt8)(a:Bool)(bk:List UInt8)(b:Bool):Sc 337 [.agg [.d (.str ak),.d (.bool a)],.agg [.d (.str bk),.d (.bool b)]] [] (.agg [.d (.str (vT (ak,a) (bk,b)).1),.d (.bool (vT (ak,a) (bk,b)).2)]) []:=by
 have hn:=cmp_neg (ak,a) (bk,b)
 simp only[aW]at hn
 refine Si (fn:=Tryz.f337) Tryz.call337 ?_
 conv=>whnf
 repeat' first|((first|refine Ci (dG _ _ _ _) ?_|refine Sg ?_|refine Ni ?_ ?_);conv=>whnf)|(refine ah (fun _=> ?_) (fun _=> ?_)<;>(conv=>whnf))
 all_goals try simp only[decide_eq_true_eq,decide_eq_false_iff_not]at*
 all_goals first
  |(have e:vT (ak,a) (bk,b)=(bk,b):=by
     unfold vT;simp only[aW];exact if_pos Om
    rw[e];exact⟨aB.refl _,trivial⟩)
  |(have e:vT (ak,a) (bk,b)=(ak,a):=by
     unfold vT;simp only[aW];exact if_neg Om
    rw[e];exact⟨aB.refl _,trivial⟩)
theorem Xo(ak:List UInt8)(a:Bool)(bk:List UInt8)(b:Bool):Sc 338 [.agg [.d (.str ak),.d (.bool a)],.agg [.d (.str bk),.d (.bool b)]] [] (.agg [.d (.str (vS (ak,a) (bk,b)).1),.d (.bool (vS (ak,a) (bk,b)).2)]) []:=by
 have hn:=cmp_neg (ak,a) (bk,b)
 simp only[aW]at hn
 refine Si (fn:=Tryz.f338) Tryz.call338 ?_
 conv=>whnf
 repeat' first|((first|refine Ci (dG _ _ _ _) ?_|refine Sg ?_|refine Ni ?_ ?_);conv=>whnf)|(refine ah (fun _=> ?_) (fun _=> ?_)<;>(conv=>whnf))
 all_goals try simp only[decide_eq_true_eq,decide_eq_false_iff_not]at*
 all_goals first
  |(have e:vS (ak,a) (bk,b)=(bk,b):=by
     unfold vS;simp only[aW];exact if_pos Om
    rw[e];exact⟨aB.refl _,trivial⟩)
  |(have e:vS (ak,a) (bk,b)=(ak,a):=by
     unfold vS;simp only[aW];exact if_neg Om
    rw[e];exact⟨aB.refl _,trivial⟩)
abbrev aiy(r:jl):List SV:=[.d (.str r.1),.d (.bool r.2.1),.d (.str r.2.2.1),.d (.bool r.2.2.2)]
theorem Ic(lk:List UInt8)(lt:Bool)(hk:List UInt8)(ht:Bool):Sc 336 [.agg [.d (.str lk),.d (.bool lt),.d (.str hk),.d (.bool ht)]] [] (.agg (aiy (if eH lk lt hk ht then oV else(lk,lt,hk,ht)))) []:=by
 refine Si (fn:=Tryz.f336) Tryz.call336 ?_
 conv=>whnf
 repeat' first|((first|refine Ci (f_ _ _ _ _) ?_|refine Sg ?_|refine Ni ?_ ?_);conv=>whnf)|(refine ah (fun _=> ?_) (fun _=> ?_)<;>(conv=>whnf))
 all_goals simp only[*,if_true,if_false,Bool.false_eq_true]
 all_goals exact⟨aB.refl _,trivial⟩
theorem AL(lk:List UInt8)(lt:Bool)(hk:List UInt8)(ht:Bool)(IY:List UInt8)(IW:Bool)(hk2:List UInt8)(ht2:Bool):Sc 181 [.agg [.d (.str lk),.d (.bool lt),.d (.str hk),.d (.bool ht)],.agg [.d (.str IY),.d (.bool IW),.d (.str hk2),.d (.bool ht2)]] [] (.agg (aiy (gU (lk,lt,hk,ht) (IY,IW,hk2,ht2)))) []:=by
 refine Si (fn:=Tryz.f181) Tryz.call181 ?_
 conv=>whnf
 repeat' first|((first|refine Ci (QW _ _ _ _) ?_|refine Ci (Uu _ _ _ _) ?_|refine Ci (fC _ _ _ _) ?_|refine Ci (Ic _ _ _ _) ?_|refine Sg ?_|refine Ni ?_ ?_);conv=>whnf)|(refine ah (fun _=> ?_) (fun _=> ?_)<;>(conv=>whnf))
 all_goals first
  |(have e:gU (lk,lt,hk,ht) (IY,IW,hk2,ht2)=oV:=by
     simp only[gU,aK,tV, *,Bool.true_or,Bool.or_true,Bool.false_or,Bool.or_false,if_true]
    rw[e];exact⟨aB.refl _,trivial⟩)
  |(have e:gU (lk,lt,hk,ht) (IY,IW,hk2,ht2)=tV (lk,lt,hk,ht) (IY,IW,hk2,ht2):=by
     simp only[gU,aK,tV, *,Bool.or_self,Bool.false_eq_true,if_false]
    rw[e];exact⟨aB.refl _,trivial⟩)
  |(have e:gU (lk,lt,hk,ht) (IY,IW,hk2,ht2)=if aK (tV (lk,lt,hk,ht) (IY,IW,hk2,ht2))then oV else tV (lk,lt,hk,ht) (IY,IW,hk2,ht2):=by
     have h1:aK (lk,lt,hk,ht)=false:=As
     have h2:aK (IY,IW,hk2,ht2)=false:=As
     unfold gU
     rw[h1,h2];rfl
    rw[e];exact⟨aB.refl _,trivial⟩)
theorem Iq(lk:List UInt8)(lt:Bool)(hk:List UInt8)(ht:Bool)(IY:List UInt8)(IW:Bool)(hk2:List UInt8)(ht2:Bool):Sc 249 [.agg [.d (.str lk),.d (.bool lt),.d (.str hk),.d (.bool ht)],.agg [.d (.str IY),.d (.bool IW),.d (.str hk2),.d (.bool ht2)]] [] (.agg (aiy (gU (lk,lt,hk,ht) (IY,IW,hk2,ht2)))) []:=by
 refine Si (fn:=Tryz.f249) Tryz.call249 ?_
 conv=>whnf
 repeat' first|((first|refine Ci (NI _ _ _ _) ?_|refine Ci (Xo _ _ _ _) ?_|refine Ci (f_ _ _ _ _) ?_|refine Ci (Ic _ _ _ _) ?_|refine Sg ?_|refine Ni ?_ ?_);conv=>whnf)|(refine ah (fun _=> ?_) (fun _=> ?_)<;>(conv=>whnf))
 all_goals first
  |(have e:gU (lk,lt,hk,ht) (IY,IW,hk2,ht2)=oV:=by
     simp only[gU,aK,tV, *,Bool.true_or,Bool.or_true,Bool.false_or,Bool.or_false,if_true]
    rw[e];exact⟨aB.refl _,trivial⟩)
  |(have e:gU (lk,lt,hk,ht) (IY,IW,hk2,ht2)=tV (lk,lt,hk,ht) (IY,IW,hk2,ht2):=by
     simp only[gU,aK,tV, *,Bool.or_self,Bool.false_eq_true,if_false]
    rw[e];exact⟨aB.refl _,trivial⟩)
  |(have e:gU (lk,lt,hk,ht) (IY,IW,hk2,ht2)=if aK (tV (lk,lt,hk,ht) (IY,IW,hk2,ht2))then oV else tV (lk,lt,hk,ht) (IY,IW,hk2,ht2):=by
     have h1:aK (lk,lt,hk,ht)=false:=As
     have h2:aK (IY,IW,hk2,ht2)=false:=As
     unfold gU
     rw[h1,h2];rfl
    rw[e];exact⟨aB.refl _,trivial⟩)
theorem pX(n:Int):Sc 54 [.d (.int .i64 n)] [] (.d (.bool (gQ n))) []:=by
 refine Si (fn:=Tryz.f54) Tryz.call54 ?_
 conv=>whnf
 repeat' first|((first|refine Sg ?_|refine Ni ?_ ?_);conv=>whnf)|(refine ah (fun _=> ?_) (fun _=> ?_)<;>(conv=>whnf))
 all_goals exact⟨aB.of_eq (by first|(simp_all[gQ];done)|(simp_all[gQ];omega)),trivial⟩
theorem Qw(n:Int):Sc 334 [.d (.int .i64 n)] [] (.d (.bool (gQ n))) []:=by
 refine Si (fn:=Tryz.f334) Tryz.call334 ?_
 conv=>whnf
 repeat' first|((first|refine Sg ?_|refine Ni ?_ ?_);conv=>whnf)|(refine ah (fun _=> ?_) (fun _=> ?_)<;>(conv=>whnf))
 all_goals exact⟨aB.of_eq (by first|(simp_all[gQ];done)|(simp_all[gQ];omega)),trivial⟩
theorem wL(e v:Int):Sc 103 [.agg [.d (.int .i64 e),.d (.int .i64 v)]] [] (.d (.bool (jP e v))) []:=by
 refine Si (fn:=Tryz.f103) Tryz.call103 ?_
 conv=>whnf
 repeat' first|((first|refine Sg ?_|refine Ni ?_ ?_);conv=>whnf)|(refine ah (fun _=> ?_) (fun _=> ?_)<;>(conv=>whnf))
 all_goals exact⟨aB.of_eq (by first|(simp_all[jP];done)|(simp_all[jP];omega)),trivial⟩
theorem Nj(e v:Int):Sc 335 [.agg [.d (.int .i64 e),.d (.int .i64 v)]] [] (.d (.bool (jP e v))) []:=by
 refine Si (fn:=Tryz.f335) Tryz.call335 ?_
 conv=>whnf
 repeat' first|((first|refine Sg ?_|refine Ni ?_ ?_);conv=>whnf)|(refine ah (fun _=> ?_) (fun _=> ?_)<;>(conv=>whnf))
 all_goals exact⟨aB.of_eq (by first|(simp_all[jP];done)|(simp_all[jP];omega)),trivial⟩
theorem Jq(k v:List UInt8):Sc 48 [.agg [.d (.str k),.d (.str v)]] [] (.d (.bool (rowOk (k,v)))) []:=by
 refine Si (fn:=Tryz.f48) Tryz.call48 ?_
 conv=>whnf
 repeat' first|((first|refine Ci (jG _) ?_|refine Sg ?_|refine Ni ?_ ?_);conv=>whnf)|(refine ah (fun _=> ?_) (fun _=> ?_)<;>(conv=>whnf))
 all_goals exact⟨aB.of_eq (by first|(simp_all[rowOk];done)|(simp_all[rowOk];omega)|(simp_all[rowOk];intros;omega)),trivial⟩
theorem yC(rows:List Row):Sc 16 [.d (ay bF 2 rows)] [] (.d (.bool (iI rows))) []:=by
 refine Si (fn:=Tryz.f16) Tryz.call16 ?_
 conv=>whnf
 repeat' first|((first|refine Sg ?_|refine Ni ?_ ?_);conv=>whnf)|(refine ah (fun _=> ?_) (fun _=> ?_)<;>(conv=>whnf))
 all_goals try simp only[decide_eq_true_eq,decide_eq_false_iff_not]at*
 ·refine⟨aB.of_eq ?_,trivial⟩
  have: ¬rows.length<=1024:=Om
  simp[iI,this]
 ·refine aA [0,8,9] [] (fun i:Nat=>[(10,.d (.int .i64 i))]) (fun i=>[]) (fun i=>i<=rows.length∧∀j,j<i->wZ rows j=true) (fun i=>rows.length-i) 0 ?_ (fun i hx=> ?_) ⟨Nat.zero_le _,fun j hj=>absurd hj (Nat.not_lt_zero j)⟩
  ·conv=>whnf
   repeat' first|((first|refine Sg ?_|refine Ni ?_ ?_);conv=>whnf)|(refine ah (fun _=> ?_) (fun _=> ?_)<;>(conv=>whnf))
   all_goals try first|exact Lq
  ·obtain⟨hi,hc⟩:=hx
   have hw:0<i->(IntKind.i64.wrap ((i:Int)-1)).toNat=i-1:=fun h=>by rw[bQ Om Om];omega
   have hs:IntKind.i64.wrap ((i:Int)+1)=((i+1:Nat):Int):=wrap_succ (n:=1025) Om Om
   have hk:0<i->0<=IntKind.i64.wrap ((i:Int)-1)∧IntKind.i64.wrap ((i:Int)-1)<rows.length:=fun h=>by rw[bQ Om Om];omega
   conv=>whnf
   repeat' first|((first|refine Ci (Jq _ _) ?_|refine aG.mk (i+1) ?_ ?_ ?_|refine Sg ?_|refine Ni ?_ ?_);conv=>whnf)|(refine ah (fun _=> ?_) (fun _=> ?_)<;>(conv=>whnf))
   all_goals try simp only[decide_eq_true_eq,decide_eq_false_iff_not,Bool.not_eq_true',Bool.not_eq_false',Int.toNat_natCast]at*
   all_goals try rw[hw Om]at*
   all_goals first
    |exact trivial|omega|exact aF.refl _|exact aF.of_eq (by rw[hs])|exact hk Om|exact⟨Om,Om⟩
    |(refine⟨Om,fun j hj=> ?_⟩
      by_cases e:j=i
      ·subst e
       have hz:(j:Int)>0∨j=0:=Om
       rcases hz with hz|rfl
       ·have:(j==0)=false:=by simp;omega
        simp_all[wZ,rowOk]
       ·simp_all[wZ,rowOk]
      ·exact hc j Om)
    |(refine⟨aB.of_eq ?_,trivial⟩
      have e:i=rows.length:=Om
      subst e
      rw[zU Om hc])
    |(refine⟨aB.of_eq ?_,trivial⟩
      rw[Ei (i:=i) Om]
      have hz:(i:Int)>0∨i=0:=Om
      rcases hz with hz|rfl
      ·have:(i==0)=false:=by simp;omega
       first|(simp_all[wZ,rowOk];done)|(simp_all[wZ,rowOk];intros;omega)
      ·first|(simp_all[wZ,rowOk];done)|(simp_all[wZ,rowOk];intros;omega))
theorem PN(k v:List UInt8)(d:Bool):Sc 105 [.agg [.d (.str k),.d (.str v),.d (.bool d)]] [] (.d (.bool (Dq k v d))) []:=by
 refine Si (fn:=Tryz.f105) Tryz.call105 ?_
 conv=>whnf
 repeat' first|((first|refine Ci (jG _) ?_|refine Sg ?_|refine Ni ?_ ?_);conv=>whnf)|(refine ah (fun _=> ?_) (fun _=> ?_)<;>(conv=>whnf))
 all_goals exact⟨aB.of_eq (by first|(simp_all[Dq];done)|(simp_all[Dq];omega)|(simp_all[Dq];intros;omega)),trivial⟩
theorem Ee(lk:List UInt8)(lt:Bool)(hk:List UInt8)(ht:Bool)(rows:List Row):rows.length<=8796093022208->Sc 104 [.agg [.d (.str lk),.d (.bool lt),.d (.str hk),.d (.bool ht)],.d (ay bF 2 rows)] [] (.d (.bool (jO (lk,lt,hk,ht) rows))) []:=by
 intro hlen
 have hw:=V5 (r:=(lk,lt,hk,ht)) (rows:=rows)
 simp only at hw
 refine Si (fn:=Tryz.f104) Tryz.call104 ?_
 conv=>whnf
 repeat' first|((first|refine Ci (yC _) ?_|refine Cf (kV _ _ _ _ _) ?_ ?_|refine Sg ?_|refine Ni ?_ ?_);conv=>whnf)|(refine ah (fun _=> ?_) (fun _=> ?_)<;>(conv=>whnf))
 all_goals first
  |omega
  |(have hv:=yD (rows:=rows) As
    omega)
  |(have e:jO (lk,lt,hk,ht) rows=false:=by simp only[jO, *,Bool.false_and]
    rw[e];exact⟨aB.refl _,trivial⟩)
  |(refine⟨aB.of_eq ?_,trivial⟩
    simp only[jO,hw]
    have hv:iI rows=true:=As
    rw[hv,Bool.true_and]
    congr 2
    rw[Bool.eq_iff_iff,beq_iff_eq,decide_eq_true_eq]
    omega)
theorem tY(lk:List UInt8)(lt:Bool)(hk:List UInt8)(ht:Bool)(rows:List Row):rows.length<=8796093022208->Sc 253 [.d (ay bF 2 rows),.agg [.d (.str lk),.d (.bool lt),.d (.str hk),.d (.bool ht)]] [] (.d (.bool (qj (lk,lt,hk,ht) rows))) []:=by
 intro hlen
 refine Si (fn:=Tryz.f253) Tryz.call253 ?_
 conv=>whnf
 repeat' first|((first|refine Sg ?_|refine Ni ?_ ?_);conv=>whnf)|(refine ah (fun _=> ?_) (fun _=> ?_)<;>(conv=>whnf))
 refine aA [3,7,8] [3] (fun i:Nat=>[(9,.d (.int .i64 i))]) (fun i=>[]) (fun i=>i<=rows.length∧∀j,j<i->mY (lk,lt,hk,ht) (rows.getD j default).1=true) (fun i=>rows.length-i) 0 ?_ (fun i hx=> ?_) ⟨Nat.zero_le _,fun j hj=>absurd hj (Nat.not_lt_zero j)⟩
 ·conv=>whnf
  repeat' first|((first|refine Sg ?_|refine Ni ?_ ?_);conv=>whnf)|(refine ah (fun _=> ?_) (fun _=> ?_)<;>(conv=>whnf))
  all_goals try first|exact Lq
 ·obtain⟨hi,hc⟩:=hx
  have hs:IntKind.i64.wrap ((i:Int)+1)=((i+1:Nat):Int):=wrap_succ (n:=8796093022209) Om Om
  conv=>whnf
  repeat' first|((first|refine Ci (tJ _ _ _ _ _) ?_|refine aG.mk (i+1) ?_ ?_ ?_|refine Sg ?_|refine Ni ?_ ?_);conv=>whnf)|(refine ah (fun _=> ?_) (fun _=> ?_)<;>(conv=>whnf))
  all_goals try simp only[decide_eq_true_eq,decide_eq_false_iff_not,Int.toNat_natCast,Bool.not_eq_true',Bool.not_eq_false']at*
  all_goals first
   |exact trivial|omega|exact aF.refl _|exact aF.of_eq (by rw[hs])|exact⟨Om,Om⟩
   |(refine⟨Om,fun j hj=> ?_⟩
     by_cases e:j=i
     ·subst e;assumption
     ·exact hc j Om)
   |(unfold qj;rw[all_false (l:=rows) (i:=i) (p:=fun x=>mY (lk,lt,hk,ht) x.1) Om As];exact⟨aB.refl _,trivial⟩)
   |(unfold qj;rw[all_true (l:=rows) (p:=fun x=>mY (lk,lt,hk,ht) x.1) (fun j hj=>hc j Om)];exact⟨aB.refl _,trivial⟩)
theorem IK(p:jL):p.rows.length<=8796093022208->Sc 180 [.agg (YX p)] [] (.d (.bool (xu p))) []:=by
 intro hlen
 refine Si (fn:=Tryz.f180) Tryz.call180 ?_
 conv=>whnf
 repeat' first|((first|refine Ci (pX _) ?_|refine Ci (fC _ _ _ _) ?_|refine Ci (wL _ _) ?_|refine Cf (Ee _ _ _ _ _) ?_ ?_|refine Sg ?_|refine Ni ?_ ?_);conv=>whnf)|(refine ah (fun _=> ?_) (fun _=> ?_)<;>(conv=>whnf))
 all_goals first
  |omega
  |(refine⟨aB.of_eq ?_,trivial⟩
    first
     |(simp_all[xu,Ac,aK,jL.rng,jO];done)
     |(simp_all[xu,Ac,aK,jL.rng,jO];omega)
     |(simp_all[xu,Ac,aK,jL.rng,jO];intros;omega))
theorem CV(lk:List UInt8)(lt:Bool)(hk:List UInt8)(ht:Bool)(p:jL):p.rows.length<=8796093022208->Sc 106 [.agg [.d (.str lk),.d (.bool lt),.d (.str hk),.d (.bool ht)],.agg (YX p)] [] (.d (.bool (sG (lk,lt,hk,ht) p))) []:=by
 intro hlen
 refine Si (fn:=Tryz.f106) Tryz.call106 ?_
 conv=>whnf
 repeat' first|((first|refine Cf (IK p) ?_ ?_|refine Ci (AL _ _ _ _ _ _ _ _) ?_|refine Ci (fC _ _ _ _) ?_|refine Sg ?_|refine Ni ?_ ?_);conv=>whnf)|(refine ah (fun _=> ?_) (fun _=> ?_)<;>(conv=>whnf))
 all_goals first
  |omega
  |(refine⟨aB.of_eq ?_,trivial⟩
    have hcm:=UE p.rng (lk,lt,hk,ht)
    simp_all[sG,aK,jL.rng]
    done)
theorem RV(c:bD):(c.rows.length<=1000000∧c.pend.length<=1000000∧c.out.rows.length<=4398046511104∧c.inn.rows.length<=4398046511104)->Sc 55 [.agg (O8 c)] [] (.d (.bool (gJ c))) []:=by
 rintro⟨hr,hp,ho,hi⟩
 have w1:IntKind.i64.wrap ((c.rows.length:Int)+(c.pend.length:Int))=((c.rows.length+c.pend.length:Nat):Int):=by rw[bQ Om Om];omega
 refine Si (fn:=Tryz.f55) Tryz.call55 ?_
 conv=>whnf
 repeat' first|((first|refine Ci (Ej _ _ _ _) ?_|refine Ci (wL _ _) ?_|refine Cf (Ee _ _ _ _ _) ?_ ?_|refine Sg ?_|refine Ni ?_ ?_);conv=>whnf)|(refine ah (fun _=> ?_) (fun _=> ?_)<;>(conv=>whnf))
 all_goals try simp only[w1,decide_eq_true_eq,decide_eq_false_iff_not,Bool.not_eq_true',Bool.not_eq_false']at*
 all_goals try first
  |omega
  |(have e:Di c=false:=by
     first
      |(simp_all[Di,iM,bD.rng];done)
      |(simp_all[Di,iM,bD.rng];omega)
      |(simp_all[Di,iM,bD.rng];intros;omega)
    have e2:gJ c=false:=by simp only[gJ,e,Bool.false_and]
    rw[e2];exact⟨aB.refl _,trivial⟩)
 have hh:Di c=true:=by
  first
   |(simp_all[Di,iM,bD.rng];done)
   |(simp_all[Di,iM,bD.rng];omega)
 refine aA [1,40,41] [1] (fun i:Nat=>[(42,.d (.int .i64 i))]) (fun i=>[]) (fun i=>i<=c.pend.length∧∀j,j<i->Dv c.rng (c.pend.getD j default)=true) (fun i=>c.pend.length-i) 0 ?_ (fun i hx=> ?_) ⟨Nat.zero_le _,fun j hj=>absurd hj (Nat.not_lt_zero j)⟩
 ·conv=>whnf
  repeat' first|((first|refine Sg ?_|refine Ni ?_ ?_);conv=>whnf)|(refine ah (fun _=> ?_) (fun _=> ?_)<;>(conv=>whnf))
  all_goals try first|exact Lq
 ·obtain⟨hil,hc⟩:=hx
  have hs:IntKind.i64.wrap ((i:Int)+1)=((i+1:Nat):Int):=wrap_succ (n:=8796093022209) Om Om
  conv=>whnf
  repeat' first|((first|refine Ci (PN _ _ _) ?_|refine Ci (zJ _ _ _ _ _) ?_|refine Cf (CV _ _ _ _ c.out) ?_ ?_|refine Cf (CV _ _ _ _ c.inn) ?_ ?_|refine Ci (pX _) ?_|refine aG.mk (i+1) ?_ ?_ ?_|refine Sg ?_|refine Ni ?_ ?_);conv=>whnf)|(refine ah (fun _=> ?_) (fun _=> ?_)<;>(conv=>whnf))
  all_goals try simp only[decide_eq_true_eq,decide_eq_false_iff_not,Int.toNat_natCast,Bool.not_eq_true',Bool.not_eq_false']at*
  all_goals try first
   |exact trivial|omega|exact aF.refl _|exact aF.of_eq (by rw[hs])|exact⟨Om,Om⟩
   |(refine⟨Om,fun j hj=> ?_⟩
     by_cases e:j=i
     ·subst e
      simp only[Dv,mY,bD.rng, *,Bool.and_self]
     ·exact hc j Om)
   |(have ep:=all_false (l:=c.pend) (p:=Dv c.rng) (i:=i) Om (by simp only[Dv,mY,bD.rng, *,Bool.false_and,Bool.and_false])
     have e2:gJ c=false:=by simp only[gJ,ep,Bool.false_and,Bool.and_false]
     rw[e2];exact⟨aB.refl _,trivial⟩)
  all_goals
   have ep:=all_true (l:=c.pend) (p:=Dv c.rng) (fun j hj=>hc j Om)
   have e2:gJ c=(yQ c&&Ju c):=by simp only[gJ,hh,ep,Bool.true_and]
   rw[e2]
   refine⟨aB.of_eq ?_,trivial⟩
   clear hc ep e2 hh
   first
    |(simp_all[yQ,Ju,Ac,sG,aK,bD.rng,jL.rng];done)
    |(have hso:=acY (n:=c.took) As As As
      simp_all[yQ,Ju,sG,aK,bD.rng,jL.rng]
      done)
    |(have hso:=acY (n:=c.took) As As As
      simp_all[yQ,Ju,bD.rng,jL.rng]
      done)
    |(have hso:=aga (n:=c.took) Om
      have h0: ¬c.took=0:=Om
      simp_all[yQ,Ju,sG,aK,bD.rng,jL.rng]
      done)
theorem abX:Tryz.prog.cellsOf 54=2:=Kq
theorem ahs:Tryz.prog.cellsOf 222=3:=Kq
theorem ahu:Tryz.prog.bytesOf 222=40:=Kq
theorem IC(xs:List Row):xs.length<=4398046511104->Sc 17 [.d (ay bF 2 xs)] [] (.d (ay bF 2 xs)) []:=by
 intro hl
 refine Si (fn:=Tryz.f17) Tryz.call17 ?_
 conv=>whnf
 repeat' first|((first|refine Sg ?_|refine Ni ?_ ?_);conv=>whnf)|(refine ah (fun _=> ?_) (fun _=> ?_)<;>(conv=>whnf))
 all_goals try simp only[abX,bytesRow,true_and,and_true]at*
 all_goals first|omega|exact⟨Om,Om⟩|exact⟨bn rfl,trivial⟩
theorem Iz(xs:List Wr):xs.length<=1000000->Sc 107 [.d (ay Va 3 xs)] [] (.d (ay Va 3 xs)) []:=by
 intro hl
 refine Si (fn:=Tryz.f107) Tryz.call107 ?_
 conv=>whnf
 repeat' first|((first|refine Sg ?_|refine Ni ?_ ?_);conv=>whnf)|(refine ah (fun _=> ?_) (fun _=> ?_)<;>(conv=>whnf))
 all_goals try simp only[ahs,ahu,true_and,and_true]at*
 all_goals first|omega|exact⟨Om,Om⟩|exact⟨bn rfl,trivial⟩
theorem IE(p:jL):p.rows.length<=4398046511104->Sc 108 [.agg (YX p)] [] (.agg (YX p)) []:=by
 intro h
 refine Si (fn:=Tryz.f108) Tryz.call108 ?_
 conv=>whnf
 repeat' first|((first|refine Cf (IC _) ?_ ?_|refine Sg ?_|refine Ni ?_ ?_);conv=>whnf)|(refine ah (fun _=> ?_) (fun _=> ?_)<;>(conv=>whnf))
 all_goals first|omega|exact⟨aB.refl _,trivial⟩
theorem Bc(c:bD):(c.rows.length<=1000000∧c.pend.length<=1000000∧c.out.rows.length<=4398046511104∧c.inn.rows.length<=4398046511104)->Sc 57 [.agg (O8 c)] [] (.agg (O8 c)) []:=by
 rintro⟨h1,h2,h3,h4⟩
 refine Si (fn:=Tryz.f57) Tryz.call57 ?_
 conv=>whnf
 repeat' first|((first|refine Cf (IC _) ?_ ?_|refine Cf (Iz _) ?_ ?_|refine Cf (IE c.out) ?_ ?_|refine Cf (IE c.inn) ?_ ?_|refine Sg ?_|refine Ni ?_ ?_);conv=>whnf)|(refine ah (fun _=> ?_) (fun _=> ?_)<;>(conv=>whnf))
 all_goals first|omega|exact⟨aB.refl _,trivial⟩
/-! New, Get -/
/-! the place of a bound -/
def Small(c:bD):Prop:=c.rows.length<=1000000∧c.pend.length<=1000000∧c.out.rows.length<=4398046511104∧c.inn.rows.length<=4398046511104
theorem SY(a b:List Row):(a.length<=5000000000000∧b.length<=5000000000000)->Sc 342 [.d (ay bF 2 a),.d (ay bF 2 b)] [] (.d (.bool (tN a b))) []:=by
 rintro⟨hla,hlb⟩
 refine Si (fn:=Tryz.f342) Tryz.call342 ?_
 conv=>whnf
 repeat' first|((first|refine Sg ?_|refine Ni ?_ ?_);conv=>whnf)|(refine ah (fun _=> ?_) (fun _=> ?_)<;>(conv=>whnf))
 all_goals try simp only[bne_iff_ne,bne_eq_false_iff_eq,beq_iff_eq,beq_eq_false_iff_ne,ne_eq,Bool.not_eq_true',Bool.not_eq_false']at*
 all_goals try first
  |(rw[SS Om];exact⟨aB.refl _,trivial⟩)
 refine aA [0,1,12] [] (fun i:Nat=>[(13,.d (.int .i64 i))]) (fun i=>[]) (fun i=>i<=a.length∧∀j,j<i->a.getD j default=b.getD j default) (fun i=>a.length-i) 0 ?_ (fun i hx=> ?_) ⟨Nat.zero_le _,fun j hj=>absurd hj (Nat.not_lt_zero j)⟩
 ·conv=>whnf
  repeat' first|((first|refine Sg ?_|refine Ni ?_ ?_);conv=>whnf)|(refine ah (fun _=> ?_) (fun _=> ?_)<;>(conv=>whnf))
  all_goals try first|exact Lq
 ·obtain⟨hi,hc⟩:=hx
  have hs:IntKind.i64.wrap ((i:Int)+1)=((i+1:Nat):Int):=wrap_succ (n:=8796093022209) Om Om
  conv=>whnf
  repeat' first|((first|refine aG.mk (i+1) ?_ ?_ ?_|refine Sg ?_|refine Ni ?_ ?_);conv=>whnf)|(refine ah (fun _=> ?_) (fun _=> ?_)<;>(conv=>whnf))
  all_goals try simp only[decide_eq_true_eq,decide_eq_false_iff_not,Int.toNat_natCast,Bool.and_eq_true,Bool.and_eq_false_iff,bne_iff_ne,bne_eq_false_iff_eq,beq_iff_eq,beq_eq_false_iff_ne,ne_eq,Bool.not_eq_true',Bool.not_eq_false']at*
  all_goals first
   |exact trivial|omega|exact aF.refl _|exact aF.of_eq (by rw[hs])|exact⟨Om,Om⟩
   |(refine⟨Om,fun j hj=> ?_⟩
     by_cases e:j=i
     ·subst e;(exact Prod.ext (by simp_all) (by simp_all))
     ·exact hc j Om)
   |(rw[JJ (i:=i) (fun e=>by rename_i z;exact z.elim (fun z=>z (congrArg Prod.fst e)) (fun z=>z (congrArg Prod.snd e)))];exact⟨aB.refl _,trivial⟩)
   |(rw[Oa Om (fun j hj=>hc j Om)];exact⟨aB.refl _,trivial⟩)
theorem S_(a b:List Row):(a.length<=5000000000000∧b.length<=5000000000000)->Sc 406 [.d (ay bF 2 a),.d (ay bF 2 b)] [] (.d (.bool (tN a b))) []:=by
 rintro⟨hla,hlb⟩
 refine Si (fn:=Tryz.f406) Tryz.call406 ?_
 conv=>whnf
 repeat' first|((first|refine Sg ?_|refine Ni ?_ ?_);conv=>whnf)|(refine ah (fun _=> ?_) (fun _=> ?_)<;>(conv=>whnf))
 all_goals try simp only[bne_iff_ne,bne_eq_false_iff_eq,beq_iff_eq,beq_eq_false_iff_ne,ne_eq,Bool.not_eq_true',Bool.not_eq_false']at*
 all_goals try first
  |(rw[SS Om];exact⟨aB.refl _,trivial⟩)
 refine aA [0,1,12] [] (fun i:Nat=>[(13,.d (.int .i64 i))]) (fun i=>[]) (fun i=>i<=a.length∧∀j,j<i->a.getD j default=b.getD j default) (fun i=>a.length-i) 0 ?_ (fun i hx=> ?_) ⟨Nat.zero_le _,fun j hj=>absurd hj (Nat.not_lt_zero j)⟩
 ·conv=>whnf
  repeat' first|((first|refine Sg ?_|refine Ni ?_ ?_);conv=>whnf)|(refine ah (fun _=> ?_) (fun _=> ?_)<;>(conv=>whnf))
  all_goals try first|exact Lq
 ·obtain⟨hi,hc⟩:=hx
  have hs:IntKind.i64.wrap ((i:Int)+1)=((i+1:Nat):Int):=wrap_succ (n:=8796093022209) Om Om
  conv=>whnf
  repeat' first|((first|refine aG.mk (i+1) ?_ ?_ ?_|refine Sg ?_|refine Ni ?_ ?_);conv=>whnf)|(refine ah (fun _=> ?_) (fun _=> ?_)<;>(conv=>whnf))
  all_goals try simp only[decide_eq_true_eq,decide_eq_false_iff_not,Int.toNat_natCast,Bool.and_eq_true,Bool.and_eq_false_iff,bne_iff_ne,bne_eq_false_iff_eq,beq_iff_eq,beq_eq_false_iff_ne,ne_eq,Bool.not_eq_true',Bool.not_eq_false']at*
  all_goals first
   |exact trivial|omega|exact aF.refl _|exact aF.of_eq (by rw[hs])|exact⟨Om,Om⟩
   |(refine⟨Om,fun j hj=> ?_⟩
     by_cases e:j=i
     ·subst e;(exact Prod.ext (by simp_all) (by simp_all))
     ·exact hc j Om)
   |(rw[JJ (i:=i) (fun e=>by rename_i z;exact z.elim (fun z=>z (congrArg Prod.fst e)) (fun z=>z (congrArg Prod.snd e)))];exact⟨aB.refl _,trivial⟩)
   |(rw[Oa Om (fun j hj=>hc j Om)];exact⟨aB.refl _,trivial⟩)
theorem S9(a b:List Row):(a.length<=5000000000000∧b.length<=5000000000000)->Sc 377 [.d (ay bF 2 a),.d (ay bF 2 b)] [] (.d (.bool (tN a b))) []:=by
 intro h
 refine Si (fn:=Tryz.f377) Tryz.call377 ?_
 conv=>whnf
 repeat' first|((first|refine Cf (S_ _ _) ?_ ?_|refine Sg ?_|refine Ni ?_ ?_);conv=>whnf)|(refine ah (fun _=> ?_) (fun _=> ?_)<;>(conv=>whnf))
 all_goals first|exact h|exact⟨aB.refl _,trivial⟩
theorem CP(lk:List UInt8)(lt:Bool)(hk:List UInt8)(ht:Bool)(IY:List UInt8)(IW:Bool)(hk2:List UInt8)(ht2:Bool):Sc 341 [.agg [.d (.str lk),.d (.bool lt),.d (.str hk),.d (.bool ht)],.agg [.d (.str IY),.d (.bool IW),.d (.str hk2),.d (.bool ht2)]] [] (.d (.bool (wB (lk,lt,hk,ht) (IY,IW,hk2,ht2)))) []:=by
 refine Si (fn:=Tryz.f341) Tryz.call341 ?_
 conv=>whnf
 repeat' first|((first|refine Ci (dG _ _ _ _) ?_|refine Sg ?_|refine Ni ?_ ?_);conv=>whnf)|(refine ah (fun _=> ?_) (fun _=> ?_)<;>(conv=>whnf))
 all_goals
  refine⟨aB.of_eq ?_,trivial⟩
  simp only[wB, *,Bool.true_and,Bool.false_and]
theorem CQ(lk:List UInt8)(lt:Bool)(hk:List UInt8)(ht:Bool)(IY:List UInt8)(IW:Bool)(hk2:List UInt8)(ht2:Bool):Sc 376 [.agg [.d (.str lk),.d (.bool lt),.d (.str hk),.d (.bool ht)],.agg [.d (.str IY),.d (.bool IW),.d (.str hk2),.d (.bool ht2)]] [] (.d (.bool (wB (lk,lt,hk,ht) (IY,IW,hk2,ht2)))) []:=by
 refine Si (fn:=Tryz.f376) Tryz.call376 ?_
 conv=>whnf
 repeat' first|((first|refine Ci (b_ _ _ _ _) ?_|refine Sg ?_|refine Ni ?_ ?_);conv=>whnf)|(refine ah (fun _=> ?_) (fun _=> ?_)<;>(conv=>whnf))
 all_goals
  refine⟨aB.of_eq ?_,trivial⟩
  simp only[wB, *,Bool.true_and,Bool.false_and]
theorem Ib(n:Int):Sc 402 [.d (.int .i64 n)] [] (.d (.bool (n==3||n==4))) []:=by
 refine Si (fn:=Tryz.f402) Tryz.call402 ?_
 conv=>whnf
 repeat' first|((first|refine Sg ?_|refine Ni ?_ ?_);conv=>whnf)|(refine ah (fun _=> ?_) (fun _=> ?_)<;>(conv=>whnf))
 all_goals first
  |(refine⟨aB.of_eq ?_,trivial⟩
    simp_all)
abbrev ahr(f:Nat):D:= .val (.func (.func f) ⟨[]⟩ ⟨[]⟩)
def akd(q:List Int):Bool:=q==[4]||(q==[3]||(q==[2]||(q==[1]||false)))
def mkGet(q:List Int)(j:Nat):FC:=if q=[4]then [FC.d (ahr 421)].getD j default else if q=[3]then [FC.d (ahr 420)].getD j default else if q=[2]then [FC.d (ahr 418)].getD j default else if q=[1]then [FC.d (ahr 417)].getD j default else default
theorem QG:Sc 401 [] [] (.mp 2000) [(2000,.dW 900000 false [.i64] false 1 akd mkGet),(900000,.fam 0 fun _=>none)]:=by
 refine rZ (E:=EE) (fn:=Tryz.f401) AZ Kq Kq Tryz.call401 Kq Kq Kq ?_
 conv=>whnf
 repeat' first|((first|refine Sg ?_|refine Ni ?_ ?_);conv=>whnf)
 all_goals first
  |exact Lf
  |exact gq.of_eq (fun _=>rfl) (fun _ _ _ _=>rfl)
abbrev kR(dn:Bool)(k:List UInt8):List SV:=[.d (.int .i64 (sJ dn)),.d (ay dF 4 []),.d (.str k),.d (.int .i64 1)]
theorem qA(dn:Bool)(k:List UInt8):(k.length:Int)<=64->Sc 251 [.agg (kR dn k)] [] (.d (.int .i64 0)) []:=by
 intro hk
 have hv:=mM k
 rw[decide_eq_true hk]at hv
 cases dn<;>cases k
 all_goals
  refine Si (fn:=Tryz.f251) Tryz.call251 ?_
  conv=>whnf
  repeat' first|((first|refine Ci hv ?_|refine Sr ?_|refine aU 1 ?_|refine Sg ?_|refine Ni ?_ ?_);conv=>whnf)
 all_goals first|exact⟨aB.refl _,trivial⟩
theorem kX(dn:Bool)(k:List UInt8):(k.length:Int)<=64->Sc 364 [.agg (kR dn k)] [] (.d (.int .i64 0)) []:=by
 intro hk
 have hv:=jG k
 rw[decide_eq_true hk]at hv
 cases dn<;>cases k
 all_goals
  refine Si (fn:=Tryz.f364) Tryz.call364 ?_
  conv=>whnf
  repeat' first|((first|refine Ci QG ?_|refine Ci hv ?_|refine Ci (Ib _) ?_|refine Sr ?_|refine aU 1 ?_|refine Sg ?_|refine Ni ?_ ?_);conv=>whnf)
 all_goals first|exact⟨aB.refl _,trivial⟩|exact⟨rfl,rfl,Kq,Kq⟩
theorem ni(dn:Bool)(k:List UInt8):Sc 375 [.agg (kR dn k)] [] (.d (.bool dn)) []:=by
 cases dn
 all_goals
  refine Si (fn:=Tryz.f375) Tryz.call375 ?_
  conv=>whnf
  repeat' first|((first|refine Sr ?_|refine Sg ?_|refine Ni ?_ ?_);conv=>whnf)
  exact⟨aB.refl _,trivial⟩
theorem ng(dn:Bool)(k:List UInt8):Sc 247 [.agg (kR dn k)] [] (.d (.bool dn)) []:=by
 cases dn
 all_goals
  refine Si (fn:=Tryz.f247) Tryz.call247 ?_
  conv=>whnf
  repeat' first|((first|refine Sr ?_|refine Sg ?_|refine Ni ?_ ?_);conv=>whnf)
  exact⟨aB.refl _,trivial⟩
theorem qw(dn:Bool)(k:List UInt8)(n:Nat):Sc 367 [.agg (kR dn k),.d (.int .i64 n)] [] (.d (.bool (decide (0<n)))) []:=by
 cases dn
 all_goals
  refine Si (fn:=Tryz.f367) Tryz.call367 ?_
  conv=>whnf
  repeat' first|((first|refine Ci (Ib _) ?_|refine Sr ?_|refine Sg ?_|refine Ni ?_ ?_);conv=>whnf)
 all_goals
  refine⟨aB.of_eq ?_,trivial⟩
  congr 3
  rw[eq_iff_iff]
  omega
theorem qp(dn:Bool)(k:List UInt8)(n:Nat):Sc 255 [.agg (kR dn k),.d (.int .i64 n)] [] (.d (.bool (decide (0<n)))) []:=by
 cases dn
 all_goals
  refine Si (fn:=Tryz.f255) Tryz.call255 ?_
  conv=>whnf
  repeat' first|((first|refine Sr ?_|refine Sg ?_|refine Ni ?_ ?_);conv=>whnf)
 all_goals
  refine⟨aB.of_eq ?_,trivial⟩
  congr 3
  rw[eq_iff_iff]
  omega
end Go.Proofs.YtgdgkekpfmhbbaaGreatDoor
