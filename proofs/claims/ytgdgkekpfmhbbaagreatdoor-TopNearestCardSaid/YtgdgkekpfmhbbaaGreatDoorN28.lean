/- Contracts of functions that the law reaches: YtgdgkekpfmhbbaaGreatDoorN28. Written for this claim. -/
import Derived.Test.YtgdgkekpfmhbbaaGreatDoorN26
import Derived.Test.YtgdgkekpfmhbbaaGreatDoorGrp
import Derived.Test.YtgdgkekpfmhbbaaGreatDoorBase
namespace Go.Proofs.YtgdgkekpfmhbbaaGreatDoor
open Go Go.Sx Go.ChangeShapes Go.WideShapes Go.ChangeAt Go.RowKit
set_option linter.unusedVariables false
set_option linter.unusedSimpArgs false
set_option maxRecDepth 100000
structure RG (g:bC):Prop where
 b:MP 1000 g
 ne: ¬g.mem.length=0
 up:(g.mem.getD 0 default).up=true
 opn:g.opn=true
abbrev Hw(v:gV):List SV:=oW v.own v.lk v.lt v.hk v.ht v.se v.sv v.rows
abbrev zV(g:bC):gV:=yA (g.mem.getD 0 default)
theorem YG{g:bC}(h:RG g):Go.Sx.zB g=(zV g,0):=by
 unfold Go.Sx.zB
 rw[Dw h.ne h.up,h.opn];rfl
theorem aja(g:bC)(h:RG g):Sc 310 [.agg (GV g)] [] (.cO [.agg (Hw (zV g)),.d (.int .i64 0)]) []:=by
 have h1:=V_ g h.b
 rw[YG h]at h1
 exact h1
theorem ai_(g:bC)(h:RG g):Sc 76 [.agg (GV g)] [] (.cO [.agg (Hw (zV g)),.d (.int .i64 0)]) []:=by
 have h1:=V9 g h.b
 rw[YG h]at h1
 exact h1
set_option maxRecDepth 100000 in
theorem Ug(l:List UInt8):Sc 407 [.d (.str l)] [] (.cO [.d (.int .i64 (number l).1),.d (.bool (number l).2)]) []:=by
 refine Si (fn:=Tryz.f407) Tryz.call407 ?_
 conv=>whnf
 repeat' first|((first|refine Sg ?_|refine Ni ?_ ?_);conv=>whnf)|(refine ah (fun _=> ?_) (fun _=> ?_)<;>(conv=>whnf))
 all_goals try simp only[decide_eq_true_eq,decide_eq_false_iff_not,beq_iff_eq,beq_eq_false_iff_ne,ne_eq,Int.toNat_one,Int.toNat_zero]at*
 all_goals first
  |omega
  |(exfalso;have:=ad7 (by assumption: ¬l=[]);omega)
  |(have:=ad7 (by assumption: ¬List.drop 1 l=[]);exact⟨by decide,Om⟩)
  |(refine⟨aB.of_eq ?_,trivial⟩;simp only[number,iO, *,eq_self,List.length_nil,gt_iff_lt,Int.natCast_zero,Int.cast_ofNat_Int,and_self,true_and,and_true,true_or,or_true,or_false,false_or,and_false,false_and,if_true,if_false,not_true_eq_false,not_false_eq_true,reduceIte,reduceCtorEq,Bool.false_eq_true,Int.reduceEq,Int.reduceLT,Int.reduceLE,Int.reduceGT,Int.reduceGE];done)|(refine⟨aB.of_eq ?_,trivial⟩;simp_all[number,iO];done)
  |(exfalso;simp_all;done)
  |skip
 ·skip
  refine aA [5,36] [] (fun x:Nat×Nat×Int=>[(6,.d (.int .i64 x.2.2))]) (fun x=>[(36,.iter (l.drop 1) x.2.1)]) (wP (l.drop 1)) (fun x=>x.1) (List.length (l.drop 1),0,0) ?_ (fun x hx=> ?_) ⟨by simp,rfl⟩
  ·conv=>whnf
   repeat' first|((first|refine Sg ?_|refine Ni ?_ ?_);conv=>whnf)|(refine ah (fun _=> ?_) (fun _=> ?_)<;>(conv=>whnf))
   all_goals try first|exact Lq
  ·conv=>whnf
   repeat' first|((first|refine aG.mk (x.1-1,x.2.1+(gW (l.drop 1) x.2.1).2,IntKind.i64.wrap (IntKind.i64.wrap (x.2.2*10)+IntKind.i64.wrap (IntKind.i32.wrap ((gW (l.drop 1) x.2.1).1-48)))) ?_ ?_ ?_|refine Sg ?_|refine Ni ?_ ?_);conv=>whnf)|(refine ah (fun _=> ?_) (fun _=> ?_)<;>(conv=>whnf))
   all_goals try simp only[decide_eq_true_eq,decide_eq_false_iff_not,beq_iff_eq,beq_eq_false_iff_ne,ne_eq,Int.toNat_one,Int.toNat_zero]at*
   all_goals first
    |exact⟨trivial,trivial⟩|exact⟨rfl,rfl⟩|exact aF.refl _|exact trivial|exact Aq hx As As As As|exact GI hx As
    |(have e:=rD hx As (.inl As);refine⟨aB.of_eq ?_,trivial⟩;simp only[number,iO, *,eq_self,List.length_nil,gt_iff_lt,Int.natCast_zero,Int.cast_ofNat_Int,and_self,true_and,and_true,true_or,or_true,or_false,false_or,and_false,false_and,if_true,if_false,not_true_eq_false,not_false_eq_true,reduceIte,reduceCtorEq,Bool.false_eq_true,Int.reduceEq,Int.reduceLT,Int.reduceLE,Int.reduceGT,Int.reduceGE];done)
    |(have e:=rD hx As (.inr As);refine⟨aB.of_eq ?_,trivial⟩;simp only[number,iO, *,eq_self,List.length_nil,gt_iff_lt,Int.natCast_zero,Int.cast_ofNat_Int,and_self,true_and,and_true,true_or,or_true,or_false,false_or,and_false,false_and,if_true,if_false,not_true_eq_false,not_false_eq_true,reduceIte,reduceCtorEq,Bool.false_eq_true,Int.reduceEq,Int.reduceLT,Int.reduceLE,Int.reduceGT,Int.reduceGE];done)
    |(have e:=Dy hx As As As As;refine⟨aB.of_eq ?_,trivial⟩;simp only[number,iO, *,eq_self,List.length_nil,gt_iff_lt,Int.natCast_zero,Int.cast_ofNat_Int,and_self,true_and,and_true,true_or,or_true,or_false,false_or,and_false,false_and,if_true,if_false,not_true_eq_false,not_false_eq_true,reduceIte,reduceCtorEq,Bool.false_eq_true,Int.reduceEq,Int.reduceLT,Int.reduceLE,Int.reduceGT,Int.reduceGE];done)
    |(have e:=Dx hx As;refine⟨aB.of_eq ?_,trivial⟩;simp only[number,iO, *,eq_self,List.length_nil,gt_iff_lt,Int.natCast_zero,Int.cast_ofNat_Int,and_self,true_and,and_true,true_or,or_true,or_false,false_or,and_false,false_and,if_true,if_false,not_true_eq_false,not_false_eq_true,reduceIte,reduceCtorEq,Bool.false_eq_true,Int.reduceEq,Int.reduceLT,Int.reduceLE,Int.reduceGT,Int.reduceGE];done)
 ·skip
  refine aA [5,36] [] (fun x:Nat×Nat×Int=>[(6,.d (.int .i64 x.2.2))]) (fun x=>[(36,.iter (l) x.2.1)]) (wP (l)) (fun x=>x.1) (List.length (l),0,0) ?_ (fun x hx=> ?_) ⟨by simp,rfl⟩
  ·conv=>whnf
   repeat' first|((first|refine Sg ?_|refine Ni ?_ ?_);conv=>whnf)|(refine ah (fun _=> ?_) (fun _=> ?_)<;>(conv=>whnf))
   all_goals try first|exact Lq
  ·conv=>whnf
   repeat' first|((first|refine aG.mk (x.1-1,x.2.1+(gW (l) x.2.1).2,IntKind.i64.wrap (IntKind.i64.wrap (x.2.2*10)+IntKind.i64.wrap (IntKind.i32.wrap ((gW (l) x.2.1).1-48)))) ?_ ?_ ?_|refine Sg ?_|refine Ni ?_ ?_);conv=>whnf)|(refine ah (fun _=> ?_) (fun _=> ?_)<;>(conv=>whnf))
   all_goals try simp only[decide_eq_true_eq,decide_eq_false_iff_not,beq_iff_eq,beq_eq_false_iff_ne,ne_eq,Int.toNat_one,Int.toNat_zero]at*
   all_goals first
    |exact⟨trivial,trivial⟩|exact⟨rfl,rfl⟩|exact aF.refl _|exact trivial|exact Aq hx As As As As|exact GI hx As
    |(have e:=rD hx As (.inl As);refine⟨aB.of_eq ?_,trivial⟩;simp only[number,iO, *,eq_self,List.length_nil,gt_iff_lt,Int.natCast_zero,Int.cast_ofNat_Int,and_self,true_and,and_true,true_or,or_true,or_false,false_or,and_false,false_and,if_true,if_false,not_true_eq_false,not_false_eq_true,reduceIte,reduceCtorEq,Bool.false_eq_true,Int.reduceEq,Int.reduceLT,Int.reduceLE,Int.reduceGT,Int.reduceGE];done)
    |(have e:=rD hx As (.inr As);refine⟨aB.of_eq ?_,trivial⟩;simp only[number,iO, *,eq_self,List.length_nil,gt_iff_lt,Int.natCast_zero,Int.cast_ofNat_Int,and_self,true_and,and_true,true_or,or_true,or_false,false_or,and_false,false_and,if_true,if_false,not_true_eq_false,not_false_eq_true,reduceIte,reduceCtorEq,Bool.false_eq_true,Int.reduceEq,Int.reduceLT,Int.reduceLE,Int.reduceGT,Int.reduceGE];done)
    |(have e:=Dy hx As As As As;refine⟨aB.of_eq ?_,trivial⟩;simp only[number,iO, *,eq_self,List.length_nil,gt_iff_lt,Int.natCast_zero,Int.cast_ofNat_Int,and_self,true_and,and_true,true_or,or_true,or_false,false_or,and_false,false_and,if_true,if_false,not_true_eq_false,not_false_eq_true,reduceIte,reduceCtorEq,Bool.false_eq_true,Int.reduceEq,Int.reduceLT,Int.reduceLE,Int.reduceGT,Int.reduceGE];done)
    |(have e:=Dx hx As;refine⟨aB.of_eq ?_,trivial⟩;simp only[number,iO, *,eq_self,List.length_nil,gt_iff_lt,Int.natCast_zero,Int.cast_ofNat_Int,and_self,true_and,and_true,true_or,or_true,or_false,false_or,and_false,false_and,if_true,if_false,not_true_eq_false,not_false_eq_true,reduceIte,reduceCtorEq,Bool.false_eq_true,Int.reduceEq,Int.reduceLT,Int.reduceLE,Int.reduceGT,Int.reduceGE];done)
 ·skip
  refine aA [5,36] [] (fun x:Nat×Nat×Int=>[(6,.d (.int .i64 x.2.2))]) (fun x=>[(36,.iter (l) x.2.1)]) (wP (l)) (fun x=>x.1) (List.length (l),0,0) ?_ (fun x hx=> ?_) ⟨by simp,rfl⟩
  ·conv=>whnf
   repeat' first|((first|refine Sg ?_|refine Ni ?_ ?_);conv=>whnf)|(refine ah (fun _=> ?_) (fun _=> ?_)<;>(conv=>whnf))
   all_goals try first|exact Lq
  ·conv=>whnf
   repeat' first|((first|refine aG.mk (x.1-1,x.2.1+(gW (l) x.2.1).2,IntKind.i64.wrap (IntKind.i64.wrap (x.2.2*10)+IntKind.i64.wrap (IntKind.i32.wrap ((gW (l) x.2.1).1-48)))) ?_ ?_ ?_|refine Sg ?_|refine Ni ?_ ?_);conv=>whnf)|(refine ah (fun _=> ?_) (fun _=> ?_)<;>(conv=>whnf))
   all_goals try simp only[decide_eq_true_eq,decide_eq_false_iff_not,beq_iff_eq,beq_eq_false_iff_ne,ne_eq,Int.toNat_one,Int.toNat_zero]at*
   all_goals first
    |exact⟨trivial,trivial⟩|exact⟨rfl,rfl⟩|exact aF.refl _|exact trivial|exact Aq hx As As As As|exact GI hx As
    |(have e:=rD hx As (.inl As);refine⟨aB.of_eq ?_,trivial⟩;simp only[number,iO, *,eq_self,List.length_nil,gt_iff_lt,Int.natCast_zero,Int.cast_ofNat_Int,and_self,true_and,and_true,true_or,or_true,or_false,false_or,and_false,false_and,if_true,if_false,not_true_eq_false,not_false_eq_true,reduceIte,reduceCtorEq,Bool.false_eq_true,Int.reduceEq,Int.reduceLT,Int.reduceLE,Int.reduceGT,Int.reduceGE];done)
    |(have e:=rD hx As (.inr As);refine⟨aB.of_eq ?_,trivial⟩;simp only[number,iO, *,eq_self,List.length_nil,gt_iff_lt,Int.natCast_zero,Int.cast_ofNat_Int,and_self,true_and,and_true,true_or,or_true,or_false,false_or,and_false,false_and,if_true,if_false,not_true_eq_false,not_false_eq_true,reduceIte,reduceCtorEq,Bool.false_eq_true,Int.reduceEq,Int.reduceLT,Int.reduceLE,Int.reduceGT,Int.reduceGE];done)
    |(have e:=Dy hx As As As As;refine⟨aB.of_eq ?_,trivial⟩;simp only[number,iO, *,eq_self,List.length_nil,gt_iff_lt,Int.natCast_zero,Int.cast_ofNat_Int,and_self,true_and,and_true,true_or,or_true,or_false,false_or,and_false,false_and,if_true,if_false,not_true_eq_false,not_false_eq_true,reduceIte,reduceCtorEq,Bool.false_eq_true,Int.reduceEq,Int.reduceLT,Int.reduceLE,Int.reduceGT,Int.reduceGE];done)
    |(have e:=Dx hx As;refine⟨aB.of_eq ?_,trivial⟩;simp only[number,iO, *,eq_self,List.length_nil,gt_iff_lt,Int.natCast_zero,Int.cast_ofNat_Int,and_self,true_and,and_true,true_or,or_true,or_false,false_or,and_false,false_and,if_true,if_false,not_true_eq_false,not_false_eq_true,reduceIte,reduceCtorEq,Bool.false_eq_true,Int.reduceEq,Int.reduceLT,Int.reduceLE,Int.reduceGT,Int.reduceGE];done)
set_option maxRecDepth 100000 in
theorem ab8(f:mD)(k v:List UInt8):Sc 378 [.ptr 1000 0,Q9 k v] [(1000,.box (cells f))] (.cO []) [(1000,.box (cells (I7 f k v)))]:=by
 refine Si (fn:=Tryz.f378) Tryz.call378 ?_
 conv=>whnf
 repeat' first|((first|refine Ci (Ug _) ?_|refine Sg ?_|refine Ni ?_ ?_);conv=>whnf)|(refine ah (fun _=> ?_) (fun _=> ?_)<;>(conv=>whnf))
 all_goals try simp only[decide_eq_true_eq,decide_eq_false_iff_not,beq_iff_eq,beq_eq_false_iff_ne,ne_eq,Int.toNat_one,Int.toNat_zero,Bool.not_eq_true',Bool.not_eq_false']at*
 all_goals refine⟨aB.refl _,aI.of_eq ?_,trivial⟩
 all_goals simp only[I7, *,eq_self,List.length_nil,gt_iff_lt,Int.natCast_zero,Int.cast_ofNat_Int,and_self,true_and,and_true,true_or,or_true,or_false,false_or,and_false,false_and,if_true,if_false,not_true_eq_false,not_false_eq_true,reduceIte,reduceCtorEq,Bool.false_eq_true,Int.reduceEq,Int.reduceLT,Int.reduceLE,Int.reduceGT,Int.reduceGE]
theorem afy(m:Nat)(f:mD)(k v:List UInt8):Sc 378 [.ptr m 0,Q9 k v] [(m,.box (cells f))] (.cO []) [(m,.box (cells (I7 f k v)))]:=(ab8 f k v).at m
theorem Y6(rows:List Row):rows.length<=9223372036854775807->Sc 320 [.d (ay bF 2 rows)] [] (zk (qm rows)) []:=by
 intro hlen
 refine Si (fn:=Tryz.f320) Tryz.call320 ?_
 conv=>whnf
 repeat' first|((first|refine Sg ?_|refine Ni ?_ ?_);conv=>whnf)|(refine ah (fun _=> ?_) (fun _=> ?_)<;>(conv=>whnf))
 refine aA [2,6,7,3] [2] (fun i:Nat=>[(8,.d (.int .i64 i))]) (fun i=>[(3,.box (cells (qm (rows.take i))))]) (fun i=>i<=rows.length) (fun i=>rows.length-i) 0 ?_ (fun i hi=> ?_) (by simp)
 ·conv=>whnf
  repeat' first|((first|refine Sg ?_|refine Ni ?_ ?_);conv=>whnf)|(refine ah (fun _=> ?_) (fun _=> ?_)<;>(conv=>whnf))
  all_goals try first|exact Lq
 ·conv=>whnf
  repeat' first|((first|refine Ci (afy 3 _ _ _) ?_|refine aG.mk (i+1) ?_ ?_ ?_|refine Sg ?_|refine Ni ?_ ?_);conv=>whnf)|(refine ah (fun _=> ?_) (fun _=> ?_)<;>(conv=>whnf))
  all_goals try simp only[decide_eq_true_eq,decide_eq_false_iff_not,Int.toNat_natCast]at*
  all_goals first
   |omega|exact trivial|exact aF.refl _|exact aF.of_eq (by rw[UY Om])|exact aF.of_eq (by rw[wrap_succ Om hlen])
   |(have:i=rows.length:=Om
     subst this
     refine⟨aB.of_eq ?_,trivial⟩
     simp only[List.take_length])
theorem aef(c n s l h:Int)(f la:List UInt8)(c' n' s' l' h':Int)(f' la':List UInt8):Sc 257 [ahX c n s l h f la,ahX c' n' s' l' h' f' la'] [] (zk (Ip ⟨c,n,s,l,h,f,la⟩ ⟨c',n',s',l',h',f',la'⟩)) []:=by
 refine Si (fn:=Tryz.f257) Tryz.call257 ?_
 conv=>whnf
 repeat' first|((first|refine Sg ?_|refine Ni ?_ ?_);conv=>whnf)|(refine ah (fun _=> ?_) (fun _=> ?_)<;>(conv=>whnf))
 all_goals try simp only[decide_eq_true_eq,decide_eq_false_iff_not,beq_iff_eq,beq_eq_false_iff_ne,ne_eq]at*
 all_goals (refine⟨aB.of_eq ?_,trivial⟩;simp only[Ip, *,eq_self,List.length_nil,gt_iff_lt,Int.natCast_zero,Int.cast_ofNat_Int,and_self,true_and,and_true,true_or,or_true,or_false,false_or,and_false,false_and,if_true,if_false,not_true_eq_false,not_false_eq_true,reduceIte,reduceCtorEq,Bool.false_eq_true,Int.reduceEq,Int.reduceLT,Int.reduceLE,Int.reduceGT,Int.reduceGE])
theorem Xv(a b:mD):Sc 257 [zk a,zk b] [] (zk (Ip a b)) []:=aef a.count a.numbers a.sum a.low a.high a.first a.last b.count b.numbers b.sum b.low b.high b.first b.last
set_option maxRecDepth 100000 in
theorem ac9(l:List UInt8):Sc 343 [.d (.str l)] [] (.cO [.d (.int .i64 (gI l).1),.d (.bool (gI l).2)]) []:=by
 refine Si (fn:=Tryz.f343) Tryz.call343 ?_
 conv=>whnf
 repeat' first|((first|refine Sg ?_|refine Ni ?_ ?_);conv=>whnf)|(refine ah (fun _=> ?_) (fun _=> ?_)<;>(conv=>whnf))
 all_goals simp only[decide_eq_true_eq,decide_eq_false_iff_not,beq_iff_eq,beq_eq_false_iff_ne,ne_eq,Int.toNat_one,Int.toNat_zero]at*
 all_goals first
  |omega|exact⟨Om,Om⟩
  |(exfalso;omega)
  |(refine⟨aB.of_eq ?_,trivial⟩;simp only[gI,jQ, *,eq_self,List.length_nil,gt_iff_lt,Int.natCast_zero,Int.cast_ofNat_Int,and_self,true_and,and_true,true_or,or_true,or_false,false_or,and_false,false_and,if_true,if_false,not_true_eq_false,not_false_eq_true,reduceIte,reduceCtorEq,Bool.false_eq_true,Int.reduceEq,Int.reduceLT,Int.reduceLE,Int.reduceGT,Int.reduceGE];done)|(refine⟨aB.of_eq ?_,trivial⟩;simp_all[gI,jQ];done)
  |skip
 ·refine aA [4,5] [] (fun x:Nat×Int=>[(6,.d (.int .i64 x.2)),(7,.d (.int .i64 x.1))]) (fun _=>[]) (Ah (l.drop 1)) (fun x=>List.length (l.drop 1)-x.1) (0,0) ?_ (fun x hx=> ?_) ⟨by simp,rfl⟩
  ·conv=>whnf
   repeat' first|((first|refine Sg ?_|refine Ni ?_ ?_);conv=>whnf)|(refine ah (fun _=> ?_) (fun _=> ?_)<;>(conv=>whnf))
   all_goals try first|exact Lq
  ·conv=>whnf
   repeat' first|((first|refine aG.mk (x.1+1,wC x.2 (List.getD (l.drop 1) x.1 0)) ?_ ?_ ?_|refine Sg ?_|refine Ni ?_ ?_);conv=>whnf)|(refine ah (fun _=> ?_) (fun _=> ?_)<;>(conv=>whnf))
   all_goals try simp only[decide_eq_true_eq,decide_eq_false_iff_not,beq_iff_eq,beq_eq_false_iff_ne,ne_eq,Int.toNat_natCast]at*
   all_goals first
    |exact trivial|omega|exact⟨Om,Om⟩|exact aF.refl _|exact aF.of_eq rfl|exact aF.of_eq (by rw[yM As As])|exact wE hx As As As
    |(have e:=mP hx As (.inl As);refine⟨aB.of_eq ?_,trivial⟩;simp only[gI,jQ, *,eq_self,List.length_nil,gt_iff_lt,Int.natCast_zero,Int.cast_ofNat_Int,and_self,true_and,and_true,true_or,or_true,or_false,false_or,and_false,false_and,if_true,if_false,not_true_eq_false,not_false_eq_true,reduceIte,reduceCtorEq,Bool.false_eq_true,Int.reduceEq,Int.reduceLT,Int.reduceLE,Int.reduceGT,Int.reduceGE];done)
    |(have e:=mP hx As (.inr As);refine⟨aB.of_eq ?_,trivial⟩;simp only[gI,jQ, *,eq_self,List.length_nil,gt_iff_lt,Int.natCast_zero,Int.cast_ofNat_Int,and_self,true_and,and_true,true_or,or_true,or_false,false_or,and_false,false_and,if_true,if_false,not_true_eq_false,not_false_eq_true,reduceIte,reduceCtorEq,Bool.false_eq_true,Int.reduceEq,Int.reduceLT,Int.reduceLE,Int.reduceGT,Int.reduceGE];done)
    |(have e:=yN hx As;refine⟨aB.of_eq ?_,trivial⟩;simp only[gI,jQ, *,eq_self,List.length_nil,gt_iff_lt,Int.natCast_zero,Int.cast_ofNat_Int,and_self,true_and,and_true,true_or,or_true,or_false,false_or,and_false,false_and,if_true,if_false,not_true_eq_false,not_false_eq_true,reduceIte,reduceCtorEq,Bool.false_eq_true,Int.reduceEq,Int.reduceLT,Int.reduceLE,Int.reduceGT,Int.reduceGE];done)
 ·refine aA [4,5] [] (fun x:Nat×Int=>[(6,.d (.int .i64 x.2)),(7,.d (.int .i64 x.1))]) (fun _=>[]) (Ah (l)) (fun x=>List.length (l)-x.1) (0,0) ?_ (fun x hx=> ?_) ⟨by simp,rfl⟩
  ·conv=>whnf
   repeat' first|((first|refine Sg ?_|refine Ni ?_ ?_);conv=>whnf)|(refine ah (fun _=> ?_) (fun _=> ?_)<;>(conv=>whnf))
   all_goals try first|exact Lq
  ·conv=>whnf
   repeat' first|((first|refine aG.mk (x.1+1,wC x.2 (List.getD (l) x.1 0)) ?_ ?_ ?_|refine Sg ?_|refine Ni ?_ ?_);conv=>whnf)|(refine ah (fun _=> ?_) (fun _=> ?_)<;>(conv=>whnf))
   all_goals try simp only[decide_eq_true_eq,decide_eq_false_iff_not,beq_iff_eq,beq_eq_false_iff_ne,ne_eq,Int.toNat_natCast]at*
   all_goals first
    |exact trivial|omega|exact⟨Om,Om⟩|exact aF.refl _|exact aF.of_eq rfl|exact aF.of_eq (by rw[yM As As])|exact wE hx As As As
    |(have e:=mP hx As (.inl As);refine⟨aB.of_eq ?_,trivial⟩;simp only[gI,jQ, *,eq_self,List.length_nil,gt_iff_lt,Int.natCast_zero,Int.cast_ofNat_Int,and_self,true_and,and_true,true_or,or_true,or_false,false_or,and_false,false_and,if_true,if_false,not_true_eq_false,not_false_eq_true,reduceIte,reduceCtorEq,Bool.false_eq_true,Int.reduceEq,Int.reduceLT,Int.reduceLE,Int.reduceGT,Int.reduceGE];done)
    |(have e:=mP hx As (.inr As);refine⟨aB.of_eq ?_,trivial⟩;simp only[gI,jQ, *,eq_self,List.length_nil,gt_iff_lt,Int.natCast_zero,Int.cast_ofNat_Int,and_self,true_and,and_true,true_or,or_true,or_false,false_or,and_false,false_and,if_true,if_false,not_true_eq_false,not_false_eq_true,reduceIte,reduceCtorEq,Bool.false_eq_true,Int.reduceEq,Int.reduceLT,Int.reduceLE,Int.reduceGT,Int.reduceGE];done)
    |(have e:=yN hx As;refine⟨aB.of_eq ?_,trivial⟩;simp only[gI,jQ, *,eq_self,List.length_nil,gt_iff_lt,Int.natCast_zero,Int.cast_ofNat_Int,and_self,true_and,and_true,true_or,or_true,or_false,false_or,and_false,false_and,if_true,if_false,not_true_eq_false,not_false_eq_true,reduceIte,reduceCtorEq,Bool.false_eq_true,Int.reduceEq,Int.reduceLT,Int.reduceLE,Int.reduceGT,Int.reduceGE];done)
 ·refine aA [4,5] [] (fun x:Nat×Int=>[(6,.d (.int .i64 x.2)),(7,.d (.int .i64 x.1))]) (fun _=>[]) (Ah (l)) (fun x=>List.length (l)-x.1) (0,0) ?_ (fun x hx=> ?_) ⟨by simp,rfl⟩
  ·conv=>whnf
   repeat' first|((first|refine Sg ?_|refine Ni ?_ ?_);conv=>whnf)|(refine ah (fun _=> ?_) (fun _=> ?_)<;>(conv=>whnf))
   all_goals try first|exact Lq
  ·conv=>whnf
   repeat' first|((first|refine aG.mk (x.1+1,wC x.2 (List.getD (l) x.1 0)) ?_ ?_ ?_|refine Sg ?_|refine Ni ?_ ?_);conv=>whnf)|(refine ah (fun _=> ?_) (fun _=> ?_)<;>(conv=>whnf))
   all_goals try simp only[decide_eq_true_eq,decide_eq_false_iff_not,beq_iff_eq,beq_eq_false_iff_ne,ne_eq,Int.toNat_natCast]at*
   all_goals first
    |exact trivial|omega|exact⟨Om,Om⟩|exact aF.refl _|exact aF.of_eq rfl|exact aF.of_eq (by rw[yM As As])|exact wE hx As As As
    |(have e:=mP hx As (.inl As);refine⟨aB.of_eq ?_,trivial⟩;simp only[gI,jQ, *,eq_self,List.length_nil,gt_iff_lt,Int.natCast_zero,Int.cast_ofNat_Int,and_self,true_and,and_true,true_or,or_true,or_false,false_or,and_false,false_and,if_true,if_false,not_true_eq_false,not_false_eq_true,reduceIte,reduceCtorEq,Bool.false_eq_true,Int.reduceEq,Int.reduceLT,Int.reduceLE,Int.reduceGT,Int.reduceGE];done)
    |(have e:=mP hx As (.inr As);refine⟨aB.of_eq ?_,trivial⟩;simp only[gI,jQ, *,eq_self,List.length_nil,gt_iff_lt,Int.natCast_zero,Int.cast_ofNat_Int,and_self,true_and,and_true,true_or,or_true,or_false,false_or,and_false,false_and,if_true,if_false,not_true_eq_false,not_false_eq_true,reduceIte,reduceCtorEq,Bool.false_eq_true,Int.reduceEq,Int.reduceLT,Int.reduceLE,Int.reduceGT,Int.reduceGE];done)
    |(have e:=yN hx As;refine⟨aB.of_eq ?_,trivial⟩;simp only[gI,jQ, *,eq_self,List.length_nil,gt_iff_lt,Int.natCast_zero,Int.cast_ofNat_Int,and_self,true_and,and_true,true_or,or_true,or_false,false_or,and_false,false_and,if_true,if_false,not_true_eq_false,not_false_eq_true,reduceIte,reduceCtorEq,Bool.false_eq_true,Int.reduceEq,Int.reduceLT,Int.reduceLE,Int.reduceGT,Int.reduceGE];done)
 ·refine aA [4,5] [] (fun x:Nat×Int=>[(6,.d (.int .i64 x.2)),(7,.d (.int .i64 x.1))]) (fun _=>[]) (Ah (l)) (fun x=>List.length (l)-x.1) (0,0) ?_ (fun x hx=> ?_) ⟨by simp,rfl⟩
  ·conv=>whnf
   repeat' first|((first|refine Sg ?_|refine Ni ?_ ?_);conv=>whnf)|(refine ah (fun _=> ?_) (fun _=> ?_)<;>(conv=>whnf))
   all_goals try first|exact Lq
  ·conv=>whnf
   repeat' first|((first|refine aG.mk (x.1+1,wC x.2 (List.getD (l) x.1 0)) ?_ ?_ ?_|refine Sg ?_|refine Ni ?_ ?_);conv=>whnf)|(refine ah (fun _=> ?_) (fun _=> ?_)<;>(conv=>whnf))
   all_goals try simp only[decide_eq_true_eq,decide_eq_false_iff_not,beq_iff_eq,beq_eq_false_iff_ne,ne_eq,Int.toNat_natCast]at*
   all_goals first
    |exact trivial|omega|exact⟨Om,Om⟩|exact aF.refl _|exact aF.of_eq rfl|exact aF.of_eq (by rw[yM As As])|exact wE hx As As As
    |(have e:=mP hx As (.inl As);refine⟨aB.of_eq ?_,trivial⟩;simp only[gI,jQ, *,eq_self,List.length_nil,gt_iff_lt,Int.natCast_zero,Int.cast_ofNat_Int,and_self,true_and,and_true,true_or,or_true,or_false,false_or,and_false,false_and,if_true,if_false,not_true_eq_false,not_false_eq_true,reduceIte,reduceCtorEq,Bool.false_eq_true,Int.reduceEq,Int.reduceLT,Int.reduceLE,Int.reduceGT,Int.reduceGE];done)
    |(have e:=mP hx As (.inr As);refine⟨aB.of_eq ?_,trivial⟩;simp only[gI,jQ, *,eq_self,List.length_nil,gt_iff_lt,Int.natCast_zero,Int.cast_ofNat_Int,and_self,true_and,and_true,true_or,or_true,or_false,false_or,and_false,false_and,if_true,if_false,not_true_eq_false,not_false_eq_true,reduceIte,reduceCtorEq,Bool.false_eq_true,Int.reduceEq,Int.reduceLT,Int.reduceLE,Int.reduceGT,Int.reduceGE];done)
    |(have e:=yN hx As;refine⟨aB.of_eq ?_,trivial⟩;simp only[gI,jQ, *,eq_self,List.length_nil,gt_iff_lt,Int.natCast_zero,Int.cast_ofNat_Int,and_self,true_and,and_true,true_or,or_true,or_false,false_or,and_false,false_and,if_true,if_false,not_true_eq_false,not_false_eq_true,reduceIte,reduceCtorEq,Bool.false_eq_true,Int.reduceEq,Int.reduceLT,Int.reduceLE,Int.reduceGT,Int.reduceGE];done)
theorem J4(l:List UInt8):Sc 343 [.d (.str l)] [] (.cO [.d (.int .i64 (number l).1),.d (.bool (number l).2)]) []:=number_eq l▸ac9 l
theorem adG(k v:List UInt8):Sc 258 [Q9 k v] [] (zk (Ue k v)) []:=by
 refine Si (fn:=Tryz.f258) Tryz.call258 ?_
 conv=>whnf
 repeat' first|((first|refine Ci (J4 _) ?_|refine Sg ?_|refine Ni ?_ ?_);conv=>whnf)|(refine ah (fun _=> ?_) (fun _=> ?_)<;>(conv=>whnf))
 all_goals (refine⟨aB.of_eq ?_,trivial⟩;simp only[Ue, *,eq_self,List.length_nil,gt_iff_lt,Int.natCast_zero,Int.cast_ofNat_Int,and_self,true_and,and_true,true_or,or_true,or_false,false_or,and_false,false_and,if_true,if_false,not_true_eq_false,not_false_eq_true,reduceIte,reduceCtorEq,Bool.false_eq_true,Int.reduceEq,Int.reduceLT,Int.reduceLE,Int.reduceGT,Int.reduceGE])
theorem J3(rows:List Row):rows.length<=9223372036854775807->Sc 157 [.d (ay bF 2 rows)] [] (zk (EI rows)) []:=by
 intro hlen
 refine Si (fn:=Tryz.f157) Tryz.call157 ?_
 conv=>whnf
 repeat' first|((first|refine Sg ?_|refine Ni ?_ ?_);conv=>whnf)|(refine ah (fun _=> ?_) (fun _=> ?_)<;>(conv=>whnf))
 refine aA [2,6,7,3] [2] (fun i:Nat=>[(8,.d (.int .i64 i))]) (fun i=>[(3,.box (cells (EI (rows.take i))))]) (fun i=>i<=rows.length) (fun i=>rows.length-i) 0 ?_ (fun i hi=> ?_) (by simp)
 ·conv=>whnf
  repeat' first|((first|refine Sg ?_|refine Ni ?_ ?_);conv=>whnf)|(refine ah (fun _=> ?_) (fun _=> ?_)<;>(conv=>whnf))
  all_goals try first|exact Lq
 ·conv=>whnf
  repeat' first|((first|refine Ci (adG _ _) ?_|refine oN (Xv (EI (rows.take i)) (Ue _ _)) ?_ Fl|refine aG.mk (i+1) ?_ ?_ ?_|refine Sg ?_|refine Ni ?_ ?_);conv=>whnf)|(refine ah (fun _=> ?_) (fun _=> ?_)<;>(conv=>whnf))
  all_goals try simp only[decide_eq_true_eq,decide_eq_false_iff_not,Int.toNat_natCast]at*
  all_goals first
   |omega|exact trivial|exact aF.refl _|exact aF.of_eq (by rw[WO Om])|exact aF.of_eq (by rw[wrap_succ Om hlen])
   |(have:i=rows.length:=Om
     subst this
     refine⟨aB.of_eq ?_,trivial⟩
     simp only[List.take_length])
/-! All -/
theorem NT{vis:List dL}{dn:Bool}{k:List UInt8}{a:dQ}(h:vJ dn k vis a){i:Nat}(hi:i<vis.length):(vis.getD i default).rows.length<=1000000:=by
 have:=V8 (h.fit i hi);omega
theorem YQ(vis:List dL)(hl:vis.length<=1000)(hr: ∀i,i<vis.length->(vis.getD i default).rows.length<=1000000):Sc 154 [.d (ay dD 12 vis),.d (ay dD 12 vis)] [] (.d (.bool true)) []:=by
 have e1:(((vis.length:Nat):Int) !=((vis.length:Nat):Int))=false:=by simp
 refine Si (fn:=Tryz.f154) Tryz.call154 ?_
 conv=>whnf
 repeat' first|((first|refine Sr ?_|refine Sg ?_|refine Ni ?_ ?_);conv=>whnf)
 refine aA [0,1,4,11,12] [] (fun i:Nat=>[(13,.d (.int .i64 i))]) (fun i=>[]) (fun i=>i<=vis.length) (fun i=>vis.length-i) 0 ?_ (fun i hi=> ?_) Om
 ·conv=>whnf
  repeat' first|((first|refine Sg ?_|refine Ni ?_ ?_);conv=>whnf)|(refine ah (fun _=> ?_) (fun _=> ?_)<;>(conv=>whnf))
  all_goals try first|exact Lq
 ·conv=>whnf
  refine ah (fun hlt=> ?_) (fun hlt=> ?_)
  ·have hlt0:i<vis.length:=by simpa using hlt
   have h1:=SN (vis.getD i default) (hr i hlt0)
   have hw1:IntKind.i64.wrap ((i:Int)+1)=((i+1:Nat):Int):=wrap_succ (n:=1000) Om Om
   conv=>whnf
   repeat' first|((first|refine Ci h1 ?_|refine Sr ?_|refine aG.mk (i+1) ?_ ?_ ?_|refine Sg ?_|refine Ni ?_ ?_);conv=>whnf)
   all_goals first
    |exact Lf|exact aF.of_eq (by rw[hw1])|exact⟨Om,Om⟩
    |skip
  ·conv=>whnf
   repeat' first|((first|refine Sr ?_|refine Sg ?_|refine Ni ?_ ?_);conv=>whnf)
   all_goals first
    |exact Lf
    |(refine⟨?_,trivial⟩
      repeat' first|exact aI.nil|refine aB.cO ?_|refine aB.agg ?_|refine aI.cons ?_ ?_|exact aB.refl _|exact aN rfl|exact bn rfl|exact bY rfl
      done)
    |skip
abbrev zQ(rows:List Row)(f:mD):List SV:=[.d (ay bF 2 rows),.d (.int .i64 f.count),.d (.int .i64 f.numbers),.d (.int .i64 f.sum),.d (.int .i64 f.low),.d (.int .i64 f.high),.d (.str f.first),.d (.str f.last)]
theorem Yg{dn:Bool}{k:List UInt8}{vis:List dL}{a:dQ}(h:vJ dn k vis a):Sc 82 [.agg (xE dn k vis vis)] [] (.cO [.agg (zQ (fK dn (aS vis)) (EI (fK dn (aS vis)))),.d (.int .i64 0)]) []:=by
 have h1:=aaq h
 have h2:=YQ vis h.len (fun i hi=>NT h hi)
 have h3:=oG vis ⟨h.len,h.rows⟩
 have h4:=Hy dn k (aS vis) h.rows
 have h5:=J3 (fK dn (aS vis)) (by have:=uo dn (aS vis);omega)
 refine Si (fn:=Tryz.f82) Tryz.call82 ?_
 conv=>whnf
 repeat' first|((first|refine Ci h1 ?_|refine Ci h2 ?_|refine Ci h3 ?_|refine Ci h4 ?_|refine Ci h5 ?_|refine Sr ?_|refine Sg ?_|refine Ni ?_ ?_);conv=>whnf)
 all_goals first
  |exact Lf
  |(refine⟨?_,trivial⟩
    repeat' first|exact aI.nil|refine aB.cO ?_|refine aB.agg ?_|refine aI.cons ?_ ?_|exact aB.refl _|exact aN rfl|exact bn rfl|exact bY rfl
    done)
  |skip
theorem Vu{dn:Bool}{k:List UInt8}{vis:List dL}{a:dQ}(h:vJ dn k vis a):Sc 229 [.agg (xE dn k vis vis)] [] (.cO [.agg (zQ (fK dn (aS vis)) (qm (fK dn (aS vis)))),.d (.int .i64 0)]) []:=by
 have h1:=aar h
 have h3:=rC vis ⟨h.len,h.rows⟩
 have h4:=Jv dn k (aS vis) h.rows
 have h5:=Y6 (fK dn (aS vis)) (by have:=uo dn (aS vis);omega)
 have e1:(((vis.length:Nat):Int) !=((vis.length:Nat):Int))=false:=by simp
 have hl:=h.len
 refine Si (fn:=Tryz.f229) Tryz.call229 ?_
 conv=>whnf
 repeat' first|((first|refine Ci h1 ?_|refine Sr ?_|refine Sg ?_|refine Ni ?_ ?_);conv=>whnf)
 refine aU 3 ?_
 conv=>whnf
 repeat' first|((first|refine Ci h1 ?_|refine Sr ?_|refine Sg ?_|refine Ni ?_ ?_);conv=>whnf)
 all_goals try first|exact Lf|exact⟨by decide,by decide⟩
 refine aA [1,2,3,38,39] [1,2] (fun i:Nat=>[(40,.d (.int .i64 i))]) (fun i=>[]) (fun i=>i<=vis.length) (fun i=>vis.length-i) 0 ?_ (fun i hi=> ?_) Om
 ·conv=>whnf
  repeat' first|((first|refine Sg ?_|refine Ni ?_ ?_);conv=>whnf)|(refine ah (fun _=> ?_) (fun _=> ?_)<;>(conv=>whnf))
  all_goals try first|exact Lq
 ·conv=>whnf
  refine ah (fun hlt=> ?_) (fun hlt=> ?_)
  ·have hlt0:i<vis.length:=by simpa using hlt
   have h1:=SQ (vis.getD i default) (NT h hlt0)
   have hw1:IntKind.i64.wrap ((i:Int)+1)=((i+1:Nat):Int):=wrap_succ (n:=1000) Om Om
   conv=>whnf
   repeat' first|((first|refine Ci h1 ?_|refine Sr ?_|refine aG.mk (i+1) ?_ ?_ ?_|refine Sg ?_|refine Ni ?_ ?_);conv=>whnf)
   all_goals first
    |exact Lf|exact aF.of_eq (by rw[hw1])|exact⟨Om,Om⟩
    |skip
  ·conv=>whnf
   repeat' first|((first|refine Ci h3 ?_|refine Ci h4 ?_|refine Ci h5 ?_|refine Sr ?_|refine Sg ?_|refine Ni ?_ ?_);conv=>whnf)
   all_goals first
    |exact Lf
    |(refine⟨?_,trivial⟩
      repeat' first|exact aI.nil|refine aB.cO ?_|refine aB.agg ?_|refine aI.cons ?_ ?_|exact aB.refl _|exact aN rfl|exact bn rfl|exact bY rfl
      done)
    |skip
end Go.Proofs.YtgdgkekpfmhbbaaGreatDoor
