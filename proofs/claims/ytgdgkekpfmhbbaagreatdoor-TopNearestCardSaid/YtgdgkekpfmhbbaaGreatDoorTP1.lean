/- Contracts of functions that the law reaches: YtgdgkekpfmhbbaaGreatDoorTP1. Written for this claim. -/
import Derived.Test.YtgdgkekpfmhbbaaGreatDoorN28
namespace Go.Proofs.YtgdgkekpfmhbbaaGreatDoor
open Go Go.Sx Go.ChangeShapes Go.WideShapes Go.ChangeAt Go.RowKit
set_option linter.unusedVariables false
set_option linter.unusedSimpArgs false
set_option maxRecDepth 100000
theorem PO(n:Nat):Sc 45 [.d (.int .u32 (n:Int))] [] (.d (.bool (decide (n<=65535)))) []:=by
 refine Si (fn:=Tryz.f45) Tryz.call45 ?_
 conv=>whnf
 repeat' first|((first|refine Sg ?_|refine Ni ?_ ?_);conv=>whnf)|(refine ah (fun _=> ?_) (fun _=> ?_)<;>(conv=>whnf))
 exact⟨aB.of_eq (congrArg (fun b=>SV.d (.bool b)) (decide_eq_decide.2 Om)),trivial⟩
theorem PL(n:Nat):Sc 264 [.d (.int .u32 (n:Int))] [] (.d (.bool (decide (n<=65535)))) []:=by
 refine Si (fn:=Tryz.f264) Tryz.call264 ?_
 conv=>whnf
 repeat' first|((first|refine Sg ?_|refine Ni ?_ ?_);conv=>whnf)|(refine ah (fun _=> ?_) (fun _=> ?_)<;>(conv=>whnf))
 exact⟨aB.of_eq (congrArg (fun b=>SV.d (.bool b)) (decide_eq_decide.2 Om)),trivial⟩
abbrev nV(x:aj):bG:= .box [.d (.int .i64 x.id),.d (.str x.key),.d (.int .u32 (x.word:Int))]
theorem Vx(x y:aj):Sc 47 [zF y,.ptr 1000 0] [(1000,nV x)] (.d (.bool (clash x y))) [(1000,nV x)]:=by
 refine Si (fn:=Tryz.f47) Tryz.call47 ?_
 conv=>whnf
 repeat' first|((first|refine Sg ?_|refine Ni ?_ ?_);conv=>whnf)|(refine ah (fun _=> ?_) (fun _=> ?_)<;>(conv=>whnf))
 all_goals exact⟨aB.of_eq (by rename_i h;simp only[clash,h,Bool.true_or,Bool.false_or]),aI.refl _,trivial⟩
theorem XT(id:Int)(y:aj):Sc 144 [zF y,.ptr 1000 0] [(1000,.box [.d (.int .i64 id)])] (.d (.bool (y.id==id))) [(1000,.box [.d (.int .i64 id)])]:=by
 refine Si (fn:=Tryz.f144) Tryz.call144 ?_
 conv=>whnf
 repeat' first|((first|refine Sg ?_|refine Ni ?_ ?_);conv=>whnf)|(refine ah (fun _=> ?_) (fun _=> ?_)<;>(conv=>whnf))
 all_goals exact⟨aB.refl _,aI.refl _,trivial⟩
theorem UL(x:aj)(xs:List aj):xs.length<=1000->Sc 96 [.d (ay aZ 3 xs),.clo 47 [.ptr 1000 0]] [(1000,nV x)] (.d (.int .i64 (iP (clash x) xs 0))) [(1000,nV x)]:=by
 intro hl
 refine Si (fn:=Tryz.f96) Tryz.call96 ?_
 conv=>whnf
 repeat' first|((first|refine Sg ?_|refine Ni ?_ ?_);conv=>whnf)|(refine ah (fun _=> ?_) (fun _=> ?_)<;>(conv=>whnf))
 refine aA [0,0+1,6,7] [1000] (fun i:Nat=>[(8,.d (.int .i64 i))]) (fun _=>[]) (fun i=>i<=xs.length∧iP (clash x) xs 0=iP (clash x) (xs.drop i) i) (fun i=>xs.length-i) 0 ?_ (fun i hi=> ?_) ⟨Nat.zero_le _,by simp⟩
 ·conv=>whnf
  repeat' first|((first|refine Sg ?_|refine Ni ?_ ?_);conv=>whnf)|(refine ah (fun _=> ?_) (fun _=> ?_)<;>(conv=>whnf))
  all_goals try first|exact Lq
 ·obtain⟨h1,h2⟩:=hi
  have e1:i<xs.length->IntKind.i64.wrap ((i:Int)+1)=((i+1:Nat):Int):=fun h=>wrap_succ (n:=1000) Om Om
  conv=>whnf
  repeat' first|((first|refine Ci (Vx _ _) ?_|refine aG.mk (i+1) ?_ ?_ ?_|refine Sg ?_|refine Ni ?_ ?_);conv=>whnf)|(refine ah (fun _=> ?_) (fun _=> ?_)<;>(conv=>whnf))
  all_goals try simp only[decide_eq_true_eq,decide_eq_false_iff_not]at*
  all_goals first|exact trivial|exact aF.refl _|omega|exact aF.of_eq (by rw[e1 Om])|(refine⟨aB.of_eq ?_,aI.refl _,trivial⟩;rw[h2,sK Om])|(refine⟨aB.of_eq ?_,aI.refl _,trivial⟩;rw[h2,fV Om];simp_all)|(refine⟨Om,?_⟩;rw[h2,fV Om];simp_all)
theorem QU(id:Int)(xs:List aj):xs.length<=1000->Sc 96 [.d (ay aZ 3 xs),.clo 144 [.ptr 1000 0]] [(1000,.box [.d (.int .i64 id)])] (.d (.int .i64 (iP (fun y=>y.id==id) xs 0))) [(1000,.box [.d (.int .i64 id)])]:=by
 intro hl
 refine Si (fn:=Tryz.f96) Tryz.call96 ?_
 conv=>whnf
 repeat' first|((first|refine Sg ?_|refine Ni ?_ ?_);conv=>whnf)|(refine ah (fun _=> ?_) (fun _=> ?_)<;>(conv=>whnf))
 refine aA [0,0+1,6,7] [1000] (fun i:Nat=>[(8,.d (.int .i64 i))]) (fun _=>[]) (fun i=>i<=xs.length∧iP (fun y=>y.id==id) xs 0=iP (fun y=>y.id==id) (xs.drop i) i) (fun i=>xs.length-i) 0 ?_ (fun i hi=> ?_) ⟨Nat.zero_le _,by simp⟩
 ·conv=>whnf
  repeat' first|((first|refine Sg ?_|refine Ni ?_ ?_);conv=>whnf)|(refine ah (fun _=> ?_) (fun _=> ?_)<;>(conv=>whnf))
  all_goals try first|exact Lq
 ·obtain⟨h1,h2⟩:=hi
  have e1:i<xs.length->IntKind.i64.wrap ((i:Int)+1)=((i+1:Nat):Int):=fun h=>wrap_succ (n:=1000) Om Om
  conv=>whnf
  repeat' first|((first|refine Ci (XT _ _) ?_|refine aG.mk (i+1) ?_ ?_ ?_|refine Sg ?_|refine Ni ?_ ?_);conv=>whnf)|(refine ah (fun _=> ?_) (fun _=> ?_)<;>(conv=>whnf))
  all_goals try simp only[decide_eq_true_eq,decide_eq_false_iff_not]at*
  all_goals first|exact trivial|exact aF.refl _|omega|exact aF.of_eq (by rw[e1 Om])|(refine⟨aB.of_eq ?_,aI.refl _,trivial⟩;rw[h2,sK Om])|(refine⟨aB.of_eq ?_,aI.refl _,trivial⟩;rw[h2,fV Om];simp_all)|(refine⟨Om,?_⟩;rw[h2,fV Om];simp_all)
theorem Hf(x:aj)(xs:List aj):xs.length<=1000->Sc 46 [.d (ay aZ 3 xs),.clo 47 [.ptr 1000 0]] [(1000,nV x)] (.d (.bool (xs.any (clash x)))) [(1000,nV x)]:=by
 intro hl
 refine Si (fn:=Tryz.f46) Tryz.call46 ?_
 conv=>whnf
 repeat' first|((first|refine Cf (UL _ _) ?_ ?_|refine Sg ?_|refine Ni ?_ ?_);conv=>whnf)|(refine ah (fun _=> ?_) (fun _=> ?_)<;>(conv=>whnf))
 all_goals first|assumption|exact⟨aB.of_eq (by rw[<-AQ (p:=clash x)]),aI.refl _,trivial⟩
theorem XJ(m:Nat)(id:Int)(xs:List aj):xs.length<=1000->Sc 96 [.d (ay aZ 3 xs),.clo 144 [.ptr m 0]] [(m,.box [.d (.int .i64 id)])] (.d (.int .i64 (iP (fun y=>y.id==id) xs 0))) [(m,.box [.d (.int .i64 id)])]:=fun h=>(QU id xs h).at m
theorem LH(m:Nat)(x:aj)(xs:List aj):xs.length<=1000->Sc 46 [.d (ay aZ 3 xs),.clo 47 [.ptr m 0]] [(m,nV x)] (.d (.bool (xs.any (clash x)))) [(m,nV x)]:=fun h=>(Hf x xs h).at m
theorem He(m:Nat)(xs:List aj)(k:Nat){n:Nat}{x:aj}:(k<=xs.length∧n=k∧xs.length<=1000)->Sc 46 [.d (.list n 3 fun i j=>cellOf aZ xs (0+i) j),.clo 47 [.ptr m 0]] [(m,nV x)] (.d (.bool ((xs.take k).any (clash x)))) [(m,nV x)]:=by
 rintro⟨h1,rfl,h2⟩
 refine(LH m x (xs.take n) (by simp;omega)).arg (aI.cons (aB.d (aF.rows (by simp;omega) ?_)) (aI.refl _))
 simp only[Nat.zero_add]
 have:=ac1 (enc:=aZ) (k:=3) (n:=n) (xs:=xs) h1
 rw[List.length_take,Nat.min_eq_left h1]
 exact this
theorem find_spec(id:Int)(xs:List aj):xs.length<=1000->Sc 71 [.d (ay aZ 3 xs),.d (.int .i64 id)] [] (.cO [zF ((o9 xs id).getD default),.d (.bool (o9 xs id).isSome)]) []:=by
 intro hl
 have hf:(iP (fun y:aj=>y.id==id) xs 0= -1∧o9 xs id=none)∨∃i,iP (fun y:aj=>y.id==id) xs 0=((i:Nat):Int)∧i<xs.length∧o9 xs id=some (xs.getD i default):=by
  rcases jk (p:=fun y:aj=>y.id==id) (xs:=xs) (f:=0)with⟨h1,h2⟩|⟨i,h1,h2,h3,h4⟩
  ·refine .inl ⟨h1,?_⟩
   simp only[o9,List.find?_eq_none]
   intro x hx
   simpa using List.any_eq_false.1 h2 x hx
  ·refine .inr ⟨i,by simpa using h1,h2,?_⟩
   simp only[o9]
   rw[List.find?_eq_some_iff_getElem]
   refine⟨h3,i,h2,by simp[List.getD,h2],fun j hj=> ?_⟩
   have:=h4 j hj
   simp only[List.getD,List.getElem?_eq_getElem (show j<xs.length by omega),Option.getD_some]at this
   simpa using this
 refine Si (fn:=Tryz.f71) Tryz.call71 ?_
 conv=>whnf
 repeat' first|((first|refine Cf (XJ _ _ _) ?_ ?_|refine Sg ?_|refine Ni ?_ ?_);conv=>whnf)|(refine ah (fun _=> ?_) (fun _=> ?_)<;>(conv=>whnf))
 all_goals try simp only[decide_eq_true_eq,decide_eq_false_iff_not]at*
 ·rcases hf with⟨h1,h2⟩|⟨i,h1,h2,h3⟩
  ·rw[h2];exact⟨aB.refl _,trivial⟩
  ·omega
 ·rcases hf with⟨h1,h2⟩|⟨i,h1,h2,h3⟩
  ·omega
  ·rw[h3,h1];exact⟨aB.refl _,trivial⟩
 ·rcases hf with⟨h1,h2⟩|⟨i,h1,h2,h3⟩
  ·omega
  ·rw[h1];exact⟨Om,Om⟩
 ·exact hl
theorem sW(xs:List aj):xs.length<=1000->Sc 15 [.d (ay aZ 3 xs)] [] (.d (.int .i64 (lZ xs))) []:=by
 intro hl
 refine Si (fn:=Tryz.f15) Tryz.call15 ?_
 conv=>whnf
 repeat' first|((first|refine Sg ?_|refine Ni ?_ ?_);conv=>whnf)|(refine ah (fun _=> ?_) (fun _=> ?_)<;>(conv=>whnf))
 ·refine⟨aB.of_eq ?_,trivial⟩
  simp only[decide_eq_true_eq]at*
  unfold lZ;rw[if_pos Om]
 rename_i h64
 have h64: ¬64<xs.length:=by simp only[decide_eq_false_iff_not]at h64;omega
 have e1: ∀i:Nat,i<xs.length->IntKind.i64.wrap ((i:Int)+1)=((i+1:Nat):Int):=fun i h=>wrap_succ (n:=1000) Om Om
 refine aA [0,2,10,11] [] (fun i:Nat=>[(12,.d (.int .i64 i))]) (fun _=>[]) (fun i=>i<=xs.length∧xs.all VW=(xs.drop i).all VW) (fun i=>xs.length-i) 0 ?_ (fun i hi=> ?_) ⟨Nat.zero_le _,by simp⟩
 ·conv=>whnf
  repeat' first|((first|refine Sg ?_|refine Ni ?_ ?_);conv=>whnf)|(refine ah (fun _=> ?_) (fun _=> ?_)<;>(conv=>whnf))
  all_goals try first|exact Lq
 obtain⟨h1,h2⟩:=hi
 conv=>whnf
 repeat' first|((first|refine Ci (jG _) ?_|refine Ci (PO _) ?_|refine aG.mk (i+1) ?_ ?_ ?_|refine Sg ?_|refine Ni ?_ ?_);conv=>whnf)|(refine ah (fun _=> ?_) (fun _=> ?_)<;>(conv=>whnf))
 all_goals try simp only[decide_eq_true_eq,decide_eq_false_iff_not]at*
 all_goals try first
  |exact trivial|exact aF.refl _|omega|exact aF.of_eq (by rw[e1 _ Om])
  |(refine⟨aB.of_eq ?_,trivial⟩
    rw[Pm Om (i:=i) Om h2]
    cases hh:VW (xs.getD i default)with
    |false=>rfl
    |true=>
     have:=BJ.1 hh
     simp only[Int.toNat_natCast,Bool.not_eq_true',decide_eq_false_iff_not]at*
     omega)
  |(refine⟨Om,?_⟩
    rw[h2,Ht Om]
    rw[BJ.2 (by simp only[Int.toNat_natCast,Bool.not_eq_false',decide_eq_true_eq]at*;omega),Bool.true_and])
 have hall:xs.all VW=true:=by
  rw[h2,List.drop_eq_nil_of_le Om];rfl
 refine aA [0,2,37,38] [] (fun i:Nat=>[(39,.d (.int .i64 i))]) (fun _=>[]) (fun i=>i<=xs.length∧zO [] xs=zO (xs.take i) (xs.drop i)) (fun i=>xs.length-i) 0 ?_ (fun k hk=> ?_) ⟨Nat.zero_le _,by simp⟩
 ·conv=>whnf
  repeat' first|((first|refine Sg ?_|refine Ni ?_ ?_);conv=>whnf)|(refine ah (fun _=> ?_) (fun _=> ?_)<;>(conv=>whnf))
  all_goals try first|exact Lq
 obtain⟨k1,k2⟩:=hk
 conv=>whnf
 repeat' first|((first|refine Cf (He _ _ k) ?_ ?_|refine aG.mk (k+1) ?_ ?_ ?_|refine Sg ?_|refine Ni ?_ ?_);conv=>whnf)|(refine ah (fun _=> ?_) (fun _=> ?_)<;>(conv=>whnf))
 all_goals try simp only[decide_eq_true_eq,decide_eq_false_iff_not]at*
 all_goals first
  |exact trivial|exact aF.refl _|omega|exact aF.of_eq (by rw[e1 _ Om])|exact⟨Om,by simp only[Option.getD,Int.toNat_natCast];omega,Om⟩|exact⟨by simp only[Option.getD];omega,by simp only[Option.getD];omega,by simp only[Option.getD];omega⟩|(refine⟨aB.of_eq ?_,trivial⟩;rw[Pj Om (i:=k) Om hall k2 As])|(refine⟨aB.of_eq ?_,trivial⟩;rw[Vs Om (i:=k) Om hall k2])
  |(refine⟨Om,?_⟩
    rw[k2,G_ Om]
    rename_i hf _
    simp only[Int.toNat_natCast]at hf
    rw[hf,Bool.false_or])
theorem Vw(xs:List aj):xs.length<=1000->Sc 165 [.d (ay aZ 3 xs)] [] (.d (.int .i64 (lZ xs))) []:=by
 intro hl
 refine Si (fn:=Tryz.f165) Tryz.call165 ?_
 conv=>whnf
 repeat' first|((first|refine Sg ?_|refine Ni ?_ ?_);conv=>whnf)|(refine ah (fun _=> ?_) (fun _=> ?_)<;>(conv=>whnf))
 ·refine⟨aB.of_eq ?_,trivial⟩
  simp only[decide_eq_true_eq]at*
  unfold lZ;rw[if_pos Om]
 rename_i h64
 have h64: ¬64<xs.length:=by simp only[decide_eq_false_iff_not]at h64;omega
 have e1: ∀i:Nat,i<xs.length->IntKind.i64.wrap ((i:Int)+1)=((i+1:Nat):Int):=fun i h=>wrap_succ (n:=1000) Om Om
 refine aA [0,2] [] (fun i:Nat=>[(3,.d (.int .i64 i))]) (fun _=>[]) (fun i=>i<=xs.length∧xs.all VW=(xs.drop i).all VW) (fun i=>xs.length-i) 0 ?_ (fun i hi=> ?_) ⟨Nat.zero_le _,by simp⟩
 ·conv=>whnf
  repeat' first|((first|refine Sg ?_|refine Ni ?_ ?_);conv=>whnf)|(refine ah (fun _=> ?_) (fun _=> ?_)<;>(conv=>whnf))
  all_goals try first|exact Lq
 obtain⟨h1,h2⟩:=hi
 conv=>whnf
 repeat' first|((first|refine Ci (mM _) ?_|refine Ci (PL _) ?_|refine aG.mk (i+1) ?_ ?_ ?_|refine Sg ?_|refine Ni ?_ ?_);conv=>whnf)|(refine ah (fun _=> ?_) (fun _=> ?_)<;>(conv=>whnf))
 all_goals try simp only[decide_eq_true_eq,decide_eq_false_iff_not]at*
 all_goals try first
  |exact trivial|exact aF.refl _|omega|exact aF.of_eq (by rw[e1 _ Om])
  |(refine⟨aB.of_eq ?_,trivial⟩
    rw[Pm Om (i:=i) Om h2]
    cases hh:VW (xs.getD i default)with
    |false=>rfl
    |true=>
     have:=BJ.1 hh
     simp only[Int.toNat_natCast,Bool.not_eq_true',decide_eq_false_iff_not]at*
     omega)
  |(refine⟨Om,?_⟩
    rw[h2,Ht Om]
    rw[BJ.2 (by simp only[Int.toNat_natCast,Bool.not_eq_false',decide_eq_true_eq]at*;omega),Bool.true_and])
 have hall:xs.all VW=true:=by
  rw[h2,List.drop_eq_nil_of_le Om];rfl
 refine aA [0,2] [] (fun i:Nat=>[(4,.d (.int .i64 i))]) (fun _=>[]) (fun i=>i<=xs.length∧zO [] xs=zO (xs.take i) (xs.drop i)) (fun i=>xs.length-i) 0 ?_ (fun k hk=> ?_) ⟨Nat.zero_le _,by simp⟩
 ·conv=>whnf
  repeat' first|((first|refine Sg ?_|refine Ni ?_ ?_);conv=>whnf)|(refine ah (fun _=> ?_) (fun _=> ?_)<;>(conv=>whnf))
  all_goals try first|exact Lq
 obtain⟨k1,k2⟩:=hk
 conv=>whnf
 repeat' first|((first|refine Sg ?_|refine Ni ?_ ?_);conv=>whnf)|(refine ah (fun _=> ?_) (fun _=> ?_)<;>(conv=>whnf))
 ·refine aA [0,2,4] [] (fun i:Nat×Unit=>[(5,.d (.int .i64 i.1))]) (fun _=>[]) (fun i=>i.1<=k∧(xs.take k).any (clash (xs.getD k default))=((xs.take k).drop i.1).any (clash (xs.getD k default))) (fun i=>k-i.1) (0,()) ?_ (fun j hj=> ?_) ⟨Nat.zero_le _,by simp⟩
  ·conv=>whnf
   repeat' first|((first|refine Sg ?_|refine Ni ?_ ?_);conv=>whnf)|(refine ah (fun _=> ?_) (fun _=> ?_)<;>(conv=>whnf))
   all_goals try first|exact Lq
  obtain⟨j,_⟩:=j
  obtain⟨j1,j2⟩:=hj
  simp only at j1 j2
  simp only[decide_eq_true_eq,decide_eq_false_iff_not]at*
  conv=>whnf
  repeat' first|((first|refine aG.mk (j+1,()) ?_ ?_ ?_|refine aG.mk (k+1) ?_ ?_ ?_|refine Sg ?_|refine Ni ?_ ?_);conv=>whnf)|(refine ah (fun _=> ?_) (fun _=> ?_)<;>(conv=>whnf))
  all_goals try simp only[decide_eq_true_eq,decide_eq_false_iff_not]at*
  all_goals first
   |exact trivial|exact aF.refl _|omega|exact aF.of_eq (by rw[e1 _ Om])
   |(refine⟨aB.of_eq ?_,trivial⟩
     rw[Pj Om (i:=k) Om hall k2 (by
      rw[j2,Dl k1 Om]
      first|rw[abV As,Bool.true_or]|rw[abU As,Bool.true_or])])
   |(refine⟨Om,?_⟩
     rw[j2,Dl k1 Om,abW As As,Bool.false_or])
   |(refine⟨Om,?_⟩
     rw[k2,G_ Om,j2,RD Om,Bool.false_or])
 ·refine⟨aB.of_eq ?_,trivial⟩
  simp only[decide_eq_true_eq,decide_eq_false_iff_not]at*
  rw[Vs Om (i:=k) Om hall k2]
theorem aej(xs:List aj):xs.length<=1000->Sc 91 [.d (ay aZ 3 xs)] [] (.d (.bool (lZ xs==0))) []:=by
 intro hl
 refine Si (fn:=Tryz.f91) Tryz.call91 ?_
 conv=>whnf
 repeat' first|((first|refine Cf (Vw _) ?_ ?_|refine Sg ?_|refine Ni ?_ ?_);conv=>whnf)|(refine ah (fun _=> ?_) (fun _=> ?_)<;>(conv=>whnf))
 ·exact⟨aB.refl _,trivial⟩
 ·exact hl
theorem ajD{l:List Int}{a:Nat}:bg l a-> ∃x:Nat×Nat,(x.1<=65535∧bg l x.2)∧Sc 40 [.ptr 1000 0] [(1000,aX l a)] (.d (.int .u32 (x.1:Int))) [(1000,aX l x.2)]:=by
 intro h
 have w: ∀v:Int,0<=v->v<=65535->IntKind.u32.wrap v=((v.toNat:Nat):Int):=by
  intro v h1 h2
  simp[IntKind.wrap,IntKind.bits,IntKind.signed]
  omega
 refine dZ (E:=EE) (fn:=Tryz.f40) _ _ _ false AZ Kq Kq Tryz.call40 Kq (fun _=>by kernel_rfl) (fun _=>by kernel_rfl) ?_
 conv=>whnf
 repeat' first|((first|refine aY (lH _) (fun _=>Fl) (Ni ?_ ?_);rintro⟨v,b⟩ ⟨⟨h1,h2⟩,h3⟩|refine aY (agu _ [0,65535,32768] (.of_eq fun i j hi hj=>by match i,j,hi,hj with|0,0,_,_=>rfl|1,0,_,_=>rfl|2,0,_,_=>rfl)) (fun _=>Fl) (Ni ?_ ?_);rintro⟨v,b⟩ ⟨h1,h2⟩|refine Sg ?_|refine Ni ?_ ?_);conv=>whnf)|(refine ah (fun _=> ?_) (fun _=> ?_)<;>(conv=>whnf))
 all_goals try simp only[decide_eq_true_eq,decide_eq_false_iff_not,beq_iff_eq,beq_eq_false_iff_ne,kW]at*
 all_goals try first|assumption|exact⟨As,Om,Om⟩|exact⟨Om,Om,Om⟩|exact⟨Om,Om⟩
 ·refine⟨(v.toNat,b),⟨by simp only;omega,h3⟩,aB.of_eq ?_,aI.refl _,trivial⟩
  rw[w _ Om Om]
 ·simp only[List.mem_cons,List.not_mem_nil,or_false]at h1
  refine⟨(v.toNat,b),⟨by simp only;omega,h2⟩,aB.of_eq ?_,aI.refl _,trivial⟩
  rw[w _ Om Om]
 ·exact⟨by rfl,h3,by simp,by simp⟩
 ·refine⟨(v.toNat,b),⟨by simp only;omega,h3⟩,aB.of_eq ?_,aI.refl _,trivial⟩
  rw[w _ Om Om]
theorem YD(m:Nat){l:List Int}{a:Nat}:bg l a-> ∃x:Nat×Nat,(x.1<=65535∧bg l x.2)∧Sc 40 [.ptr m 0] [(m,aX l a)] (.d (.int .u32 (x.1:Int))) [(m,aX l x.2)]:=fun h=>by
 obtain⟨x,hx,hs⟩:=ajD h
 exact⟨x,hx,hs.at m⟩
theorem rG{α:Type}[Inhabited α]{xs:List α}{i:Nat}(h:i<xs.length):xs.getD i default∈xs:=by
 simp only[List.getD,List.getElem?_eq_getElem h,Option.getD_some];exact List.getElem_mem h
theorem agZ{xs:List aj}{n K:Nat}{g:Nat->Nat->D}(hK:K=3)(h:aJ n 3 g (cellOf aZ xs)):(n=xs.length∧xs.length<=1000)->Sc 91 [.d (.list n K g)] [] (.d (.bool (lZ xs==0))) []:=by
 rintro⟨rfl,hl⟩
 subst hK
 exact(aej xs hl).arg (aI.cons (aB.d (aF.rows rfl h)) aI.nil)
theorem ajT{o:List aj}{x:aj}{g:Nat->Nat->D}(h: ∀j,j<3->aF (g 0 j) ((aZ x).getD j default)):
 aJ (o.length+1) 3 (fun i j=>(fun i j=>if i<o.length then(fun i j=>cellOf aZ o (0+i) j) i j else g (i-o.length) j) (0+i) j) (cellOf aZ (o++[x])):=by
 simp only[Nat.zero_add]
 exact dN rfl (aJ.refl _ _ _) h
theorem agk{l:List Int}{a:Nat}{n:Int}:(bg l a∧0<=n∧n<=20)-> ∃x:List aj×Nat,((vK x.1∧(x.1.length:Int)<=n)∧bg l x.2)∧
 Sc 39 [.ptr 1000 0,.d (.int .i64 n)] [(1000,aX l a)] (.d (ay aZ 3 x.1)) [(1000,aX l x.2)]:=by
 rintro⟨h,hn⟩
 have wn:IntKind.i64.wrap (n+1)=n+1:=bQ Om Om
 have w3:IntKind.i64.wrap (3*n)=3*n:=bQ Om Om
 have cB:Tryz.prog.cellsOf 72=3:=Kq
 have bB:Tryz.prog.bytesOf 72=32:=Kq
 refine dZ (E:=EE) (fn:=Tryz.f39) _ _ _ false AZ Kq Kq Tryz.call39 Kq (fun _=>by kernel_rfl) (fun _=>by kernel_rfl) ?_
 conv=>whnf
 repeat' first|((first|refine aY (lH _) (fun _=>Fl) (Ni ?_ ?_);rintro⟨v,b⟩ ⟨⟨h1,h2⟩,h3⟩|refine Sg ?_|refine Ni ?_ ?_);conv=>whnf)|(refine ah (fun _=> ?_) (fun _=> ?_)<;>(conv=>whnf))
 ·rw[wn]at h2
  refine aA [0,0+1] [] (fun x:Int×List aj×Nat=>[(6,.d (.int .i64 x.1)),(5,.bW 500 3 0 x.2.1.length)]) (fun x=>[(1000,aX l x.2.2),(500,.row 72 3 x.2.1.length (cellOf aZ x.2.1))]) (fun x=>(0<=x.1∧x.1<=n)∧((x.2.1.length:Int)<=n-x.1)∧vK x.2.1∧bg l x.2.2) (fun x=>x.1.toNat) (v,[],b) ?_ (fun x hx=> ?_) ⟨by simp only;omega,by simp;omega,⟨by simp,by simp,by simp,by simp⟩,h3⟩
  ·conv=>whnf
   repeat' first|((first|refine Sg ?_|refine Ni ?_ ?_);conv=>whnf)|(refine ah (fun _=> ?_) (fun _=> ?_)<;>(conv=>whnf))
   all_goals try first|exact Lq
  ·obtain⟨i,o,c⟩:=x
   obtain⟨hi,ho,hr,hc⟩:=hx
   simp only at hi ho hr hc
   have hs:0<i->IntKind.i64.wrap (i-1)=i-1:=fun _=>bQ Om Om
   conv=>whnf
   repeat' first|((first|refine aY (lH _) (fun _=>Fl) (Ni ?_ ?_);rintro⟨v,b⟩ ⟨⟨h1,h2⟩,h3⟩|refine aY (GK _) (fun _=>Fl) (Ni ?_ ?_);rintro⟨k,b⟩ ⟨g1,g2⟩|refine aY (YD _) (fun _=>Fl) (Ni ?_ ?_);rintro⟨w,b⟩ ⟨f1,f2⟩|refine iD (agZ (xs:=o++[⟨IntKind.i64.wrap (1+v),k,w⟩]) cB (ajT (xO (aF.of_eq rfl) (aF.of_eq rfl) (aF.of_eq rfl)))) Fl (Ni ?_ ?_)|refine aG.mk (i-1,if lZ (o++[⟨IntKind.i64.wrap (1+v),k,w⟩])==0 then o++[⟨IntKind.i64.wrap (1+v),k,w⟩]else o,b) ?_ ?_ ?_|refine Sg ?_|refine Ni ?_ ?_);conv=>whnf)|(refine ah (fun _=> ?_) (fun _=> ?_)<;>(conv=>whnf))
   all_goals try simp only[decide_eq_true_eq,decide_eq_false_iff_not,cB,bB]at*
   all_goals try rw[w3]at*
   all_goals try first
    |(have hc0:(lZ (o++[⟨IntKind.i64.wrap (1+v),k,w⟩])==0)=true:=As
      simp only[hc0,if_true,List.length_append,List.length_singleton])
    |(have hc0:(lZ (o++[⟨IntKind.i64.wrap (1+v),k,w⟩])==0)=false:=As
      simp only[hc0,Bool.false_eq_true,if_false])
   all_goals first
    |exact trivial|omega|exact aF.refl _|exact aJ.refl _ _ _|exact aF.of_eq (by rw[hs Om])|exact⟨rfl,rfl,rfl⟩|exact⟨Om,Om⟩|exact⟨Om,Om,Om⟩|exact⟨As,Om,Om⟩|assumption|exact dN rfl (aJ.refl _ _ _) (xO (aF.of_eq rfl) (aF.of_eq rfl) (aF.of_eq rfl))|exact⟨by simp,by simp;omega⟩|exact⟨Om,Om,oM.1 (by simpa using hc0),As⟩|exact⟨Om,Om,hr,As⟩
    |exact⟨(o,c),⟨⟨hr,by simp only;omega⟩,hc⟩,aB.d (aF.rows rfl (.of_eq fun i j _ _=>by rw[Nat.zero_add])),aI.refl _,trivial⟩
 ·exact⟨h,Om,Om⟩
theorem aaF(m:Nat){l:List Int}{a:Nat}{n:Int}:(bg l a∧0<=n∧n<=20)-> ∃x:List aj×Nat,((vK x.1∧(x.1.length:Int)<=n)∧bg l x.2)∧
 Sc 39 [.ptr m 0,.d (.int .i64 n)] [(m,aX l a)] (.d (ay aZ 3 x.1)) [(m,aX l x.2)]:=fun h=>by
 obtain⟨x,hx,hs⟩:=agk h
 exact⟨x,hx,hs.at m⟩
theorem agd{x:aj}(h:1<=x.id∧x.id<=2147483647∧x.key.length<=64∧x.word<=65535):vK [x]:=⟨by simp,by simpa using h,by simp,by simp⟩
theorem Vo{len:Nat}{get:Nat->Nat->D}:len<=100000->Sc 49 [.d (.list len 3 get)] [] (.bW 2000 3 0 len) [(2000,.row 72 3 len get)]:=by
 intro hl
 have cB:Tryz.prog.cellsOf 72=3:=Kq
 have bB:Tryz.prog.bytesOf 72=32:=Kq
 refine .ZK (fun h0 c=> ?_) ?_
 ·subst h0
  refine Si (fn:=Tryz.f49) Tryz.call49 ?_
  conv=>whnf
  repeat' first|((first|refine Sg ?_|refine Ni ?_ ?_);conv=>whnf)|(refine ah (fun _=> ?_) (fun _=> ?_)<;>(conv=>whnf))
  all_goals first|exact trivial|exact⟨rfl,rfl⟩
 ·refine Si (fn:=Tryz.f49) Tryz.call49 ?_
  conv=>whnf
  repeat' first|((first|refine Sg ?_|refine Ni ?_ ?_);conv=>whnf)|(refine ah (fun _=> ?_) (fun _=> ?_)<;>(conv=>whnf))
  all_goals try simp only[cB,bB]at*
  all_goals first
   |exact trivial|exact⟨by simp only[List.length_nil,Nat.zero_add];omega,by simp only[Nat.zero_add];omega⟩|exact⟨Om,Om⟩|exact⟨rfl,rfl⟩|exact⟨rfl,rfl,rfl⟩|exact⟨trivial,trivial,Nat.zero_add _⟩
   |exact .of_eq fun i j hi hj=>by simp
   |exact aJ.refl _ _ _|omega
theorem abQ(m:Nat){len:Nat}{get:Nat->Nat->D}:len<=100000->Sc 49 [.d (.list len 3 get)] [] (.bW m 3 0 len) [(m,.row 72 3 len get)]:=fun h=>(Vo h).new1 m
theorem Vq{len:Nat}{get:Nat->Nat->D}:len<=100000->Sc 121 [.d (.list len 1 get)] [] (.bW 2000 1 0 len) [(2000,.row 3 1 len get)]:=by
 intro hl
 have cB:Tryz.prog.cellsOf 3=1:=Kq
 have bB:Tryz.prog.bytesOf 3=8:=Kq
 refine .ZK (fun h0 c=> ?_) ?_
 ·subst h0
  refine Si (fn:=Tryz.f121) Tryz.call121 ?_
  conv=>whnf
  repeat' first|((first|refine Sg ?_|refine Ni ?_ ?_);conv=>whnf)|(refine ah (fun _=> ?_) (fun _=> ?_)<;>(conv=>whnf))
  all_goals first|exact trivial|exact⟨rfl,rfl⟩
 ·refine Si (fn:=Tryz.f121) Tryz.call121 ?_
  conv=>whnf
  repeat' first|((first|refine Sg ?_|refine Ni ?_ ?_);conv=>whnf)|(refine ah (fun _=> ?_) (fun _=> ?_)<;>(conv=>whnf))
  all_goals try simp only[cB,bB]at*
  all_goals first
   |exact trivial|exact⟨by simp only[List.length_nil,Nat.zero_add];omega,by simp only[Nat.zero_add];omega⟩|exact⟨Om,Om⟩|exact⟨rfl,rfl⟩|exact⟨rfl,rfl,rfl⟩|exact⟨trivial,trivial,Nat.zero_add _⟩
   |exact .of_eq fun i j hi hj=>by simp
   |exact aJ.refl _ _ _|omega
theorem Ph(m:Nat){len:Nat}{get:Nat->Nat->D}:len<=100000->Sc 121 [.d (.list len 1 get)] [] (.bW m 1 0 len) [(m,.row 3 1 len get)]:=fun h=>(Vq h).new1 m
theorem Rl{len:Nat}{get:Nat->Nat->D}:len<=100000->Sc 122 [.d (.list len 4 get)] [] (.bW 2000 4 0 len) [(2000,.row 152 4 len get)]:=by
 intro hl
 have cB:Tryz.prog.cellsOf 152=4:=Kq
 have bB:Tryz.prog.bytesOf 152=32:=Kq
 refine .ZK (fun h0 c=> ?_) ?_
 ·subst h0
  refine Si (fn:=Tryz.f122) Tryz.call122 ?_
  conv=>whnf
  repeat' first|((first|refine Sg ?_|refine Ni ?_ ?_);conv=>whnf)|(refine ah (fun _=> ?_) (fun _=> ?_)<;>(conv=>whnf))
  all_goals first|exact trivial|exact⟨rfl,rfl⟩
 ·refine Si (fn:=Tryz.f122) Tryz.call122 ?_
  conv=>whnf
  repeat' first|((first|refine Sg ?_|refine Ni ?_ ?_);conv=>whnf)|(refine ah (fun _=> ?_) (fun _=> ?_)<;>(conv=>whnf))
  all_goals try simp only[cB,bB]at*
  all_goals first
   |exact trivial|exact⟨by simp only[List.length_nil,Nat.zero_add];omega,by simp only[Nat.zero_add];omega⟩|exact⟨Om,Om⟩|exact⟨rfl,rfl⟩|exact⟨rfl,rfl,rfl⟩|exact⟨trivial,trivial,Nat.zero_add _⟩
   |exact .of_eq fun i j hi hj=>by simp
   |exact aJ.refl _ _ _|omega
theorem Yb(m:Nat){len:Nat}{get:Nat->Nat->D}:len<=100000->Sc 122 [.d (.list len 4 get)] [] (.bW m 4 0 len) [(m,.row 152 4 len get)]:=fun h=>(Rl h).new1 m
end Go.Proofs.YtgdgkekpfmhbbaaGreatDoor
