/- Contracts of functions that the law reaches: YtgdgkekpfmhbbaaGreatDoorBase. Written for this claim. -/
import Derived.Test.YtgdgkekpfmhbbaaGreatDoorSxTab
import Derived.Test.YtgdgkekpfmhbbaaGreatDoorSxRen
import Derived.Test.YtgdgkekpfmhbbaaGreatDoorSxTabB
import Derived.Test.YtgdgkekpfmhbbaaGreatDoorRows
import Derived.Test.YtgdgkekpfmhbbaaGreatDoorProg
namespace Go.Proofs.YtgdgkekpfmhbbaaGreatDoor
open Go Go.Sx Go.ChangeShapes Go.WideShapes Go.ChangeAt Go.RowKit
set_option linter.unusedVariables false
set_option linter.unusedSimpArgs false
set_option maxRecDepth 100000
abbrev EE:List Nat:=[54,58,74,222,85,72,147,152,7000000,6000000+109,6000000+31,6000000+278,6000000+361,6000000+190,6000000+191,6000000+245,6000000+459,2000000+432,2000000+430,2000000+425,2000000+423,2000000+109,2000000+59,2000000+23,1000000+178,2000000+369,2000000+225,8000000+197,8000000+18,8000000+25,12000000+169,12000000+257]
theorem AZ:I8 Tryz.prog EE:=by
 refine⟨Kq,?_⟩
 intro T hT
 simp only[fP]at hT
 simp only[List.mem_cons,List.not_mem_nil,or_false]at hT
 rcases hT with rfl|rfl|rfl|rfl|rfl|rfl|rfl|rfl|rfl|rfl|rfl|rfl|rfl|rfl|rfl|rfl|rfl|rfl|rfl|rfl|rfl|rfl|rfl|rfl|rfl|rfl|rfl|rfl|rfl|rfl|rfl|rfl<;>exact⟨Kq,Kq⟩
def E_:Nat->List UInt8
 |0=>[97]
 |1=>[98]
 |2=>[99]
 |3=>[0]
 |4=>[255]
 |_=>[109]
theorem kW: ∀n,(E_ n).length=1
 |0=>rfl
 |1=>rfl
 |2=>rfl
 |3=>rfl
 |4=>rfl
 |_+5=>rfl
def afZ(n:Nat):Int:=([0,1,28,2,29,14,24,3,30,22,20,15,25,17,4,8,31,27,13,23,21,19,16,7,26,12,18,6,11,5,10,9]:List Int).getD n 0
def GG:Nat->Option (Nat×(Nat->D))
 |0=>some (6,fun j=> .str (E_ j))
 |1=>some (32,fun j=> .int .u8 (afZ j))
 |_=>none
abbrev Sc(f:FuncId)(args:List SV)(pre:List (Nat×bG))(res:SV)(post:List (Nat×bG)):Prop:=Sx.Spec Tryz.prog GG f args pre res post
theorem Si{f:FuncId}{fn:Func}{args:List SV}{pre:List (Nat×bG)}{res:SV}{post:List (Nat×bG)}(c: ∀(vs:Array Value)(w:World),(callFunc f vs).run Tryz.prog w= .ok (.enter f vs) w)(h:exec Tryz.prog GG EE fn.ntmps (oO fn) ⟨gZ 0 args,pre,aQ pre,aQ pre⟩ (ab_ Tryz.prog fn.results.toList (aQ pre) res post))(h1:Tryz.prog.funcs[f]? =some fn:=by kernel_rfl)(h2:fn.body=some (oO fn):=by kernel_rfl)(h3:Nat.ble args.length fn.ntmps=true:=by kernel_rfl)(h4:(Hz args pre res post&&wF res)=true:=by kernel_rfl):Sx.Spec Tryz.prog GG f args pre res post:=qZ (E:=EE) (fn:=fn) AZ h1 h2 c h3 h4 h
theorem jG(k:List UInt8):Sc 44 [.d (.str k)] [] (.d (.bool (decide ((k.length:Int)<=64)))) []:=by
 refine Si (fn:=Tryz.f44) Tryz.call44 ?_
 conv=>whnf
 repeat' first|((first|refine Sg ?_|refine Ni ?_ ?_);conv=>whnf)|(refine ah (fun _=> ?_) (fun _=> ?_)<;>(conv=>whnf))
 exact⟨aB.refl _,trivial⟩
theorem qX(k:List UInt8)(t:Bool):Sc 179 [.agg [.d (.str k),.d (.bool t)]] [] (.d (.bool (aP k t))) []:=by
 refine Si (fn:=Tryz.f179) Tryz.call179 ?_
 conv=>whnf
 repeat' first|((first|refine Ci (jG _) ?_|refine Sg ?_|refine Ni ?_ ?_);conv=>whnf)|(refine ah (fun _=> ?_) (fun _=> ?_)<;>(conv=>whnf))
 all_goals exact⟨aB.of_eq (by first|(simp_all[aP];done)|(simp_all[aP];omega)|(simp_all[aP];intros;omega)),trivial⟩
theorem b_(ak:List UInt8)(a:Bool)(bk:List UInt8)(b:Bool):Sc 62 [.agg [.d (.str ak),.d (.bool a)],.agg [.d (.str bk),.d (.bool b)]] [] (.d (.int .i64 (aV ak a bk b))) []:=by
 refine Si (fn:=Tryz.f62) Tryz.call62 ?_
 conv=>whnf
 repeat' first|((first|refine Sg ?_|refine Ni ?_ ?_);conv=>whnf)|(refine ah (fun _=> ?_) (fun _=> ?_)<;>(conv=>whnf))
 all_goals try simp only[Yp]at*
 all_goals exact⟨aB.of_eq (by first|(simp_all[aV];done)|(simp_all[aV,L9];done)),trivial⟩
theorem Ej(lk:List UInt8)(lt:Bool)(hk:List UInt8)(ht:Bool):Sc 102 [.agg [.d (.str lk),.d (.bool lt),.d (.str hk),.d (.bool ht)]] [] (.d (.bool (mJ lk lt hk ht))) []:=by
 refine Si (fn:=Tryz.f102) Tryz.call102 ?_
 conv=>whnf
 repeat' first|((first|refine Ci (qX _ _) ?_|refine Ci (b_ _ _ _ _) ?_|refine Sg ?_|refine Ni ?_ ?_);conv=>whnf)|(refine ah (fun _=> ?_) (fun _=> ?_)<;>(conv=>whnf))
 all_goals exact⟨aB.of_eq (by first|(simp_all[mJ];done)|(simp_all[mJ];omega)|(simp_all[mJ];intros;omega)),trivial⟩
theorem fC(lk:List UInt8)(lt:Bool)(hk:List UInt8)(ht:Bool):Sc 61 [.agg [.d (.str lk),.d (.bool lt),.d (.str hk),.d (.bool ht)]] [] (.d (.bool (eH lk lt hk ht))) []:=by
 refine Si (fn:=Tryz.f61) Tryz.call61 ?_
 conv=>whnf
 repeat' first|((first|refine Ci (Ej _ _ _ _) ?_|refine Ci (b_ _ _ _ _) ?_|refine Sg ?_|refine Ni ?_ ?_);conv=>whnf)|(refine ah (fun _=> ?_) (fun _=> ?_)<;>(conv=>whnf))
 all_goals exact⟨aB.of_eq (by first|(simp_all[eH];done)|(simp_all[eH];omega)|(simp_all[eH];intros;omega)),trivial⟩
theorem zJ(lk:List UInt8)(lt:Bool)(hk:List UInt8)(ht:Bool)(k:List UInt8):Sc 58 [.agg [.d (.str lk),.d (.bool lt),.d (.str hk),.d (.bool ht)],.d (.str k)] [] (.d (.bool (fF lk lt hk ht k))) []:=by
 refine Si (fn:=Tryz.f58) Tryz.call58 ?_
 conv=>whnf
 repeat' first|((first|refine Ci (jG _) ?_|refine Ci (fC _ _ _ _) ?_|refine Ci (b_ _ _ _ _) ?_|refine Sg ?_|refine Ni ?_ ?_);conv=>whnf)|(refine ah (fun _=> ?_) (fun _=> ?_)<;>(conv=>whnf))
 all_goals exact⟨aB.of_eq (by first|(simp_all[fF];done)|(simp_all[fF];omega)|(simp_all[fF];intros;omega)),trivial⟩
theorem mM(k:List UInt8):Sc 83 [.d (.str k)] [] (.d (.bool (decide ((k.length:Int)<=64)))) []:=by
 refine Si (fn:=Tryz.f83) Tryz.call83 ?_
 conv=>whnf
 repeat' first|((first|refine Sg ?_|refine Ni ?_ ?_);conv=>whnf)|(refine ah (fun _=> ?_) (fun _=> ?_)<;>(conv=>whnf))
 exact⟨aB.refl _,trivial⟩
theorem kM(k:List UInt8)(t:Bool):Sc 33 [.agg [.d (.str k),.d (.bool t)]] [] (.d (.bool (aP k t))) []:=by
 refine Si (fn:=Tryz.f33) Tryz.call33 ?_
 conv=>whnf
 repeat' first|((first|refine Ci (mM _) ?_|refine Sg ?_|refine Ni ?_ ?_);conv=>whnf)|(refine ah (fun _=> ?_) (fun _=> ?_)<;>(conv=>whnf))
 all_goals exact⟨aB.of_eq (by first|(simp_all[aP];done)|(simp_all[aP];omega)|(simp_all[aP];intros;omega)),trivial⟩
theorem dG(ak:List UInt8)(a:Bool)(bk:List UInt8)(b:Bool):Sc 73 [.agg [.d (.str ak),.d (.bool a)],.agg [.d (.str bk),.d (.bool b)]] [] (.d (.int .i64 (aV ak a bk b))) []:=by
 refine Si (fn:=Tryz.f73) Tryz.call73 ?_
 conv=>whnf
 repeat' first|((first|refine Sg ?_|refine Ni ?_ ?_);conv=>whnf)|(refine ah (fun _=> ?_) (fun _=> ?_)<;>(conv=>whnf))
 all_goals try simp only[Yp]at*
 all_goals exact⟨aB.of_eq (by first|(simp_all[aV];done)|(simp_all[aV,L9];done)),trivial⟩
theorem PS(lk:List UInt8)(lt:Bool)(hk:List UInt8)(ht:Bool):Sc 150 [.agg [.d (.str lk),.d (.bool lt),.d (.str hk),.d (.bool ht)]] [] (.d (.bool (mJ lk lt hk ht))) []:=by
 refine Si (fn:=Tryz.f150) Tryz.call150 ?_
 conv=>whnf
 repeat' first|((first|refine Ci (kM _ _) ?_|refine Ci (dG _ _ _ _) ?_|refine Sg ?_|refine Ni ?_ ?_);conv=>whnf)|(refine ah (fun _=> ?_) (fun _=> ?_)<;>(conv=>whnf))
 all_goals exact⟨aB.of_eq (by first|(simp_all[mJ];done)|(simp_all[mJ];omega)|(simp_all[mJ];intros;omega)),trivial⟩
theorem f_(lk:List UInt8)(lt:Bool)(hk:List UInt8)(ht:Bool):Sc 78 [.agg [.d (.str lk),.d (.bool lt),.d (.str hk),.d (.bool ht)]] [] (.d (.bool (eH lk lt hk ht))) []:=by
 refine Si (fn:=Tryz.f78) Tryz.call78 ?_
 conv=>whnf
 repeat' first|((first|refine Ci (PS _ _ _ _) ?_|refine Ci (dG _ _ _ _) ?_|refine Sg ?_|refine Ni ?_ ?_);conv=>whnf)|(refine ah (fun _=> ?_) (fun _=> ?_)<;>(conv=>whnf))
 all_goals exact⟨aB.of_eq (by first|(simp_all[eH];done)|(simp_all[eH];omega)|(simp_all[eH];intros;omega)),trivial⟩
theorem tJ(lk:List UInt8)(lt:Bool)(hk:List UInt8)(ht:Bool)(k:List UInt8):Sc 167 [.agg [.d (.str lk),.d (.bool lt),.d (.str hk),.d (.bool ht)],.d (.str k)] [] (.d (.bool (fF lk lt hk ht k))) []:=by
 refine Si (fn:=Tryz.f167) Tryz.call167 ?_
 conv=>whnf
 repeat' first|((first|refine Ci (mM _) ?_|refine Ci (f_ _ _ _ _) ?_|refine Ci (dG _ _ _ _) ?_|refine Sg ?_|refine Ni ?_ ?_);conv=>whnf)|(refine ah (fun _=> ?_) (fun _=> ?_)<;>(conv=>whnf))
 all_goals exact⟨aB.of_eq (by first|(simp_all[fF];done)|(simp_all[fF];omega)|(simp_all[fF];intros;omega)),trivial⟩
def encI(n:Int):List D:=[.int .i64 n]
structure bg (l:List Int) (a:Nat):Prop where
 h1:l.length<=600
 h2:a<=l.length
 h3: ∀x∈l,-9223372036854775808<=x∧x<9223372036854775808
abbrev aX(l:List Int)(a:Nat):bG:= .box [.d (ay encI 1 l),.d (.int .i64 a)]
theorem bg.get{l:List Int}{a i:Nat}(h:bg l a)(hi:i<l.length): -9223372036854775808<=l.getD i default∧l.getD i default<9223372036854775808:=by
 have:l.getD i default=l[i]:=by simp[List.getD,hi]
 rw[this]
 exact h.h3 _ (List.getElem_mem hi)
theorem aai{n:Nat}(hn:n<=9223372036854775806):IntKind.i64.wrap (((n+1:Nat):Int)-1)=n:=by
 rw[bQ Om Om];omega
theorem adR(v n:Int):((0<n∧n<9223372036854775808)∧ -9223372036854775808<=v∧v<9223372036854775808)->Sc 43 [.d (.int .i64 v),.d (.int .i64 n)] [] (.d (.int .i64 (v % n))) []:=by
 rintro⟨hn,hv⟩
 have r1:=Int.tmod_lt_of_pos v hn.1
 have r2:=Int.lt_tmod_of_pos v hn.1
 have e0:v % n=if v.tmod n<0 then v.tmod n+n else v.tmod n:=by
  have h1:=Int.tmod_add_mul_tdiv v n
  have h2:=Int.emod_add_mul_ediv v n
  have h3:=Int.emod_nonneg v (by omega:n≠0)
  have h4:=Int.emod_lt_of_pos v hn.1
  rw[Int.tmod_eq_emod]
  split<;>split at* <;>omega
 refine Si (fn:=Tryz.f43) Tryz.call43 ?_
 conv=>whnf
 repeat' first|((first|refine Sg ?_|refine Ni ?_ ?_);conv=>whnf)|(refine ah (fun _=> ?_) (fun _=> ?_)<;>(conv=>whnf))
 all_goals try simp only[decide_eq_true_eq,decide_eq_false_iff_not]at*
 all_goals first|omega|(refine⟨aB.of_eq ?_,trivial⟩;rw[bQ Om Om,e0,if_pos As])|(refine⟨aB.of_eq ?_,trivial⟩;rw[e0,if_neg As])
theorem akc{l:List Int}{a:Nat}{n:Int}:(bg l a∧ -9223372036854775808<=n∧n<9223372036854775808)->
 ∃x:Int×Nat,((0<=x.1∧(x.1<n∨x.1=0))∧bg l x.2)∧Sc 14 [.ptr 1000 0,.d (.int .i64 n)] [(1000,aX l a)] (.d (.int .i64 x.1)) [(1000,aX l x.2)]:=by
 rintro⟨h,hn⟩
 have h1:=h.h1
 have h2:=h.h2
 have w1:IntKind.i64.wrap ((a:Int)+1)=((a+1:Nat):Int):=wrap_succ (n:=601) Om Om
 have w2:=aai (n:=a) Om
 refine dZ (E:=EE) (fn:=Tryz.f14) _ _ _ false AZ Kq Kq Tryz.call14 Kq (fun _=>by kernel_rfl) (fun _=>by kernel_rfl) ?_
 conv=>whnf
 repeat' first|((first|refine Cf (adR _ _) ?_ ?_|refine Sg ?_|refine Ni ?_ ?_);conv=>whnf)|(refine ah (fun _=> ?_) (fun _=> ?_)<;>(conv=>whnf))
 all_goals try simp only[w1,w2,decide_eq_true_eq,decide_eq_false_iff_not]at*
 ·exact⟨(0,a),⟨⟨Int.le_refl 0,.inr rfl⟩,h⟩,aB.refl _,aI.refl _,trivial⟩
 ·exact⟨(0,a),⟨⟨Int.le_refl 0,.inr rfl⟩,h⟩,aB.refl _,aI.refl _,trivial⟩
 ·refine⟨(_,_),?_,aB.refl _,aI.refl _,trivial⟩
  exact⟨⟨Int.emod_nonneg _ Om,.inl (Int.emod_lt_of_pos _ Om)⟩,⟨h1,by simp only;omega,h.h3⟩⟩
 ·exact⟨⟨Om,Om⟩,h.get Om⟩
 ·exact⟨Om,Om⟩
theorem lH(m:Nat){l:List Int}{a:Nat}{n:Int}:(bg l a∧ -9223372036854775808<=n∧n<9223372036854775808)->
 ∃x:Int×Nat,((0<=x.1∧(x.1<n∨x.1=0))∧bg l x.2)∧Sc 14 [.ptr m 0,.d (.int .i64 n)] [(m,aX l a)] (.d (.int .i64 x.1)) [(m,aX l x.2)]:=fun h=>by
 obtain⟨x,hx,hs⟩:=akc (n:=n) h
 exact⟨x,hx,hs.at m⟩
theorem akX{l:List Int}{a:Nat}{n:Int}:(bg l a∧0<=n∧n<9223372036854775808)->
 ∃x:Bool×Nat,bg l x.2∧Sc 79 [.ptr 1000 0,.d (.int .i64 n)] [(1000,aX l a)] (.d (.bool x.1)) [(1000,aX l x.2)]:=by
 rintro⟨h,hn⟩
 refine dZ (E:=EE) (fn:=Tryz.f79) _ _ _ false AZ Kq Kq Tryz.call79 Kq (fun _=>by kernel_rfl) (fun _=>by kernel_rfl) ?_
 conv=>whnf
 repeat' first|((first|refine aY (lH _) (fun _=>Fl) (Ni ?_ ?_);rintro⟨v,b⟩ ⟨⟨h1,h2⟩,h3⟩|refine Sg ?_|refine Ni ?_ ?_);conv=>whnf)|(refine ah (fun _=> ?_) (fun _=> ?_)<;>(conv=>whnf))
 ·exact⟨(_,_),h3,aB.refl _,aI.refl _,trivial⟩
 ·exact⟨h,Om,hn.2⟩
theorem Rt(m:Nat){l:List Int}{a:Nat}{n:Int}:(bg l a∧0<=n∧n<9223372036854775808)->
 ∃x:Bool×Nat,bg l x.2∧Sc 79 [.ptr m 0,.d (.int .i64 n)] [(m,aX l a)] (.d (.bool x.1)) [(m,aX l x.2)]:=fun h=>by
 obtain⟨x,hx,hs⟩:=akX (n:=n) h
 exact⟨x,hx,hs.at m⟩
theorem QI{s:List UInt8}{n:Int}:(s.length<=1∧0<=n∧n<=100)-> ∃x:List UInt8,(x.length:Int)<=n∧Sc 28 [.d (.str s),.d (.int .i64 n)] [] (.d (.str x)) []:=by
 rintro⟨hs,hn⟩
 refine dZ (E:=EE) (fn:=Tryz.f28) _ _ _ false AZ Kq Kq Tryz.call28 Kq (fun _=>by kernel_rfl) (fun _=>by kernel_rfl) ?_
 conv=>whnf
 repeat' first|((first|refine Sg ?_|refine Ni ?_ ?_);conv=>whnf)|(refine ah (fun _=> ?_) (fun _=> ?_)<;>(conv=>whnf))
 refine aA [0,0+1] [] (fun x:Nat×List UInt8=>[(5,.d (.str x.2)),(6,.d (.int .i64 x.1))]) (fun _=>[]) (fun x=>(x.1:Int)<=n∧(x.2.length:Int)<=x.1) (fun x=>n.toNat-x.1) (0,[]) ?_ (fun x hx=> ?_) ⟨by simp;omega,by simp⟩
 ·conv=>whnf
  repeat' first|((first|refine Sg ?_|refine Ni ?_ ?_);conv=>whnf)|(refine ah (fun _=> ?_) (fun _=> ?_)<;>(conv=>whnf))
  all_goals try first|exact Lq
 ·have e1:IntKind.i64.wrap ((x.1:Int)+1)=((x.1+1:Nat):Int):=wrap_succ (n:=101) Om Om
  conv=>whnf
  repeat' first|((first|refine aG.mk (x.1+1,x.2++s) ?_ ?_ ?_|refine Sg ?_|refine Ni ?_ ?_);conv=>whnf)|(refine ah (fun _=> ?_) (fun _=> ?_)<;>(conv=>whnf))
  all_goals try simp only[decide_eq_true_eq,decide_eq_false_iff_not,List.length_append]at*
  all_goals first|exact trivial|omega|exact aF.refl _|exact aF.of_eq (by rw[e1])|exact⟨Om,Om⟩|(refine⟨x.2,?_,aB.refl _,trivial⟩;omega)
theorem key0{l:List Int}{a:Nat}:bg l a-> ∃x:List UInt8×Nat,((x.1.length:Int)<=64∧bg l x.2)∧Sc 7 [.ptr 1000 0] [(1000,aX l a)] (.d (.str x.1)) [(1000,aX l x.2)]:=by
 intro h
 refine dZ (E:=EE) (fn:=Tryz.f7) _ _ _ false AZ Kq Kq Tryz.call7 Kq (fun _=>by kernel_rfl) (fun _=>by kernel_rfl) ?_
 conv=>whnf
 repeat' first|((first|refine aY (lH _) (fun _=>Fl) (Ni ?_ ?_);rintro⟨v,b⟩ ⟨⟨h1,h2⟩,h3⟩|refine aY (QI) (fun _=>Fl) (Ni ?_ ?_);rintro x hx|refine Sg ?_|refine Ni ?_ ?_);conv=>whnf)|(refine ah (fun _=> ?_) (fun _=> ?_)<;>(conv=>whnf))
 all_goals try simp only[decide_eq_true_eq,decide_eq_false_iff_not,beq_iff_eq,beq_eq_false_iff_ne,kW]at*
 all_goals try first
  |exact⟨As,Om,Om⟩|exact⟨Om,Om,Om⟩|exact⟨Om,Om⟩
  |(refine⟨(_,_),⟨?_,As⟩,aB.refl _,aI.refl _,trivial⟩;first|assumption|simp)
 have e1:IntKind.i64.wrap (1+v)=1+v:=bQ Om Om
 rw[e1]
 refine aA [0] [] (fun x:Int×List UInt8×Nat=>[(3,.d (.str x.2.1)),(4,.d (.int .i64 x.1))]) (fun x=>[(1000,aX l x.2.2)]) (fun x=>0<=x.1∧x.1<=3∧(x.2.1.length:Int)<=3-x.1∧bg l x.2.2) (fun x=>x.1.toNat) (1+v,[],b) ?_ (fun x hx=> ?_) ⟨by simp only;omega,by simp only;omega,by simp;omega,h3⟩
 ·conv=>whnf
  repeat' first|((first|refine Sg ?_|refine Ni ?_ ?_);conv=>whnf)|(refine ah (fun _=> ?_) (fun _=> ?_)<;>(conv=>whnf))
  all_goals try first|exact Lq
 ·obtain⟨k,o,c⟩:=x
  obtain⟨k1,k2,k3,k4⟩:=hx
  simp only at k1 k2 k3 k4
  have e2:0<k->IntKind.i64.wrap (k-1)=k-1:=fun _=>bQ Om Om
  conv=>whnf
  repeat' first|((first|refine aY (lH _) (fun _=>Fl) (Ni ?_ ?_);rintro⟨u,d⟩ ⟨⟨g1,g2⟩,g3⟩|refine aG.mk (k-1,o++E_ (u.toNat*Tryz.prog.cellsOf 9+0),d) ?_ ?_ ?_|refine Sg ?_|refine Ni ?_ ?_);conv=>whnf)|(refine ah (fun _=> ?_) (fun _=> ?_)<;>(conv=>whnf))
  all_goals try simp only[decide_eq_true_eq,decide_eq_false_iff_not,List.length_append,kW]at*
  all_goals first|exact trivial|exact⟨As,Om,Om⟩|exact⟨Om,Om⟩|omega|exact aF.refl _|exact aF.of_eq (by rw[e2 Om])|exact⟨Om,Om,Om,As⟩|(refine⟨(_,_),⟨?_,As⟩,aB.refl _,aI.refl _,trivial⟩;simp only;omega)
theorem GK(m:Nat){l:List Int}{a:Nat}:bg l a-> ∃x:List UInt8×Nat,((x.1.length:Int)<=64∧bg l x.2)∧Sc 7 [.ptr m 0] [(m,aX l a)] (.d (.str x.1)) [(m,aX l x.2)]:=fun h=>by
 obtain⟨x,hx,hs⟩:=key0 h
 exact⟨x,hx,hs.at m⟩
theorem agH{l:List Int}{a:Nat}:bg l a-> ∃x:List UInt8×Nat,((x.1.length:Int)<=65∧bg l x.2)∧Sc 245 [.ptr 1000 0] [(1000,aX l a)] (.d (.str x.1)) [(1000,aX l x.2)]:=by
 intro h
 refine dZ (E:=EE) (fn:=Tryz.f245) _ _ _ false AZ Kq Kq Tryz.call245 Kq (fun _=>by kernel_rfl) (fun _=>by kernel_rfl) ?_
 conv=>whnf
 repeat' first|((first|refine aY (Rt _) (fun _=>Fl) (Ni ?_ ?_);rintro⟨v,b⟩ h1|refine aY (lH _) (fun _=>Fl) (Ni ?_ ?_);rintro⟨v,b⟩ ⟨⟨h1,h2⟩,h3⟩|refine aY (QI) (fun _=>Fl) (Ni ?_ ?_);rintro x hx|refine aY (GK _) (fun _=>Fl) (Ni ?_ ?_);rintro⟨k,b⟩ ⟨h1,h2⟩|refine Sg ?_|refine Ni ?_ ?_);conv=>whnf)|(refine ah (fun _=> ?_) (fun _=> ?_)<;>(conv=>whnf))
 all_goals try simp only[decide_eq_true_eq,decide_eq_false_iff_not,beq_iff_eq,beq_eq_false_iff_ne,kW]at*
 all_goals try first|assumption|exact⟨As,Om,Om⟩|exact⟨Om,Om,Om⟩|exact⟨Om,Om⟩
 all_goals (refine⟨(_,_),⟨?_,As⟩,aB.refl _,aI.refl _,trivial⟩;simp only;omega)
theorem aa2(m:Nat){l:List Int}{a:Nat}:bg l a-> ∃x:List UInt8×Nat,((x.1.length:Int)<=65∧bg l x.2)∧Sc 245 [.ptr m 0] [(m,aX l a)] (.d (.str x.1)) [(m,aX l x.2)]:=fun h=>by
 obtain⟨x,hx,hs⟩:=agH h
 exact⟨x,hx,hs.at m⟩
theorem ajo{l:List Int}{a:Nat}:bg l a-> ∃x:List UInt8×Bool×Nat,((x.1.length:Int)<=65∧bg l x.2.2)∧Sc 145 [.ptr 1000 0] [(1000,aX l a)] (.agg [.d (.str x.1),.d (.bool x.2.1)]) [(1000,aX l x.2.2)]:=by
 intro h
 refine dZ (E:=EE) (fn:=Tryz.f145) _ _ _ false AZ Kq Kq Tryz.call145 Kq (fun _=>by kernel_rfl) (fun _=>by kernel_rfl) ?_
 conv=>whnf
 repeat' first|((first|refine aY (lH _) (fun _=>Fl) (Ni ?_ ?_);rintro⟨v,b⟩ ⟨⟨h1,h2⟩,h3⟩|refine aY (Rt _) (fun _=>Fl) (Ni ?_ ?_);rintro⟨v,b⟩ h1|refine aY (GK _) (fun _=>Fl) (Ni ?_ ?_);rintro⟨k,b⟩ ⟨h1,h2⟩|refine aY (aa2 _) (fun _=>Fl) (Ni ?_ ?_);rintro⟨k,b⟩ ⟨h1,h2⟩|refine Sg ?_|refine Ni ?_ ?_);conv=>whnf)|(refine ah (fun _=> ?_) (fun _=> ?_)<;>(conv=>whnf))
 all_goals try simp only[decide_eq_true_eq,decide_eq_false_iff_not,beq_iff_eq,beq_eq_false_iff_ne,kW]at*
 all_goals try first|assumption|exact⟨As,Om,Om⟩|exact⟨Om,Om,Om⟩|exact⟨Om,Om⟩
 all_goals (refine⟨(_,_,_),⟨?_,As⟩,aB.refl _,aI.refl _,trivial⟩;first|(simp only;omega)|simp)
theorem afi(m:Nat){l:List Int}{a:Nat}:bg l a-> ∃x:List UInt8×Bool×Nat,((x.1.length:Int)<=65∧bg l x.2.2)∧Sc 145 [.ptr m 0] [(m,aX l a)] (.agg [.d (.str x.1),.d (.bool x.2.1)]) [(m,aX l x.2.2)]:=fun h=>by
 obtain⟨x,hx,hs⟩:=ajo h
 exact⟨x,hx,hs.at m⟩
theorem aie{l:List Int}{a:Nat}:bg l a-> ∃x:List UInt8×Nat,((x.1.length:Int)<=64∧bg l x.2)∧Sc 95 [.ptr 1000 0] [(1000,aX l a)] (.d (.str x.1)) [(1000,aX l x.2)]:=by
 intro h
 refine dZ (E:=EE) (fn:=Tryz.f95) _ _ _ false AZ Kq Kq Tryz.call95 Kq (fun _=>by kernel_rfl) (fun _=>by kernel_rfl) ?_
 conv=>whnf
 repeat' first|((first|refine aY (lH _) (fun _=>Fl) (Ni ?_ ?_);rintro⟨v,b⟩ ⟨⟨h1,h2⟩,h3⟩|refine aY (QI) (fun _=>Fl) (Ni ?_ ?_);rintro x hx|refine Sg ?_|refine Ni ?_ ?_);conv=>whnf)|(refine ah (fun _=> ?_) (fun _=> ?_)<;>(conv=>whnf))
 all_goals try simp only[decide_eq_true_eq,decide_eq_false_iff_not,beq_iff_eq,beq_eq_false_iff_ne,kW]at*
 all_goals try first|assumption|exact⟨As,Om,Om⟩|exact⟨Om,Om,Om⟩|exact⟨Om,Om⟩
 all_goals try first
  |(refine⟨(_,_),⟨?_,As⟩,aB.refl _,aI.refl _,trivial⟩;first|assumption|(simp;done))
  |exact⟨by simp,Om,Om⟩|exact⟨by simp;omega,by simp;omega⟩
 rename_i v _ _ _ _ _ _
 have hv:v=0∨v=1∨v=2∨v=3∨v=4∨v=5:=Om
 rcases hv with rfl|rfl|rfl|rfl|rfl|rfl<;>(refine⟨(_,_),⟨?_,As⟩,aB.refl _,aI.refl _,trivial⟩;simp)
theorem aj7{l:List Int}{a:Nat}{xs:List Int}:(bg l a∧0<xs.length∧xs.length<=1000)-> ∃x:Int×Nat,(x.1∈xs∧bg l x.2)∧
 Sc 92 [.ptr 1000 0,.d (ay encI 1 xs)] [(1000,aX l a)] (.d (.int .i64 x.1)) [(1000,aX l x.2)]:=by
 rintro⟨h,hn⟩
 refine dZ (E:=EE) (fn:=Tryz.f92) _ _ _ false AZ Kq Kq Tryz.call92 Kq (fun _=>by kernel_rfl) (fun _=>by kernel_rfl) ?_
 conv=>whnf
 repeat' first|((first|refine aY (lH _) (fun _=>Fl) (Ni ?_ ?_);rintro⟨v,b⟩ ⟨⟨h1,h2⟩,h3⟩|refine Sg ?_|refine Ni ?_ ?_);conv=>whnf)|(refine ah (fun _=> ?_) (fun _=> ?_)<;>(conv=>whnf))
 ·refine⟨(_,_),⟨?_,As⟩,aB.refl _,aI.refl _,trivial⟩
  have hv:v.toNat<xs.length:=Om
  show xs.getD v.toNat default∈xs
  have e:xs.getD v.toNat default=xs[v.toNat]:=by simp only[List.getD,List.getElem?_eq_getElem hv,Option.getD_some]
  rw[e]
  exact List.getElem_mem hv
 ·exact⟨Om,Om⟩
 ·exact⟨h,Om,Om⟩
theorem agu(m:Nat){l:List Int}{a:Nat}(xs:List Int){n:Nat}{g:Nat->Nat->D}(hg:aJ n 1 g (cellOf encI xs)):(n=xs.length∧bg l a∧0<xs.length∧xs.length<=1000)-> ∃x:Int×Nat,(x.1∈xs∧bg l x.2)∧
 Sc 92 [.ptr m 0,.d (.list n 1 g)] [(m,aX l a)] (.d (.int .i64 x.1)) [(m,aX l x.2)]:=by
 rintro⟨rfl,h,hn⟩
 obtain⟨x,hx,hs⟩:=aj7 (xs:=xs) ⟨h,hn⟩
 exact⟨x,hx,(hs.at m).arg (aI.cons (aB.refl _) (aI.cons (aB.d (aF.rows rfl hg)) aI.nil))⟩
theorem pI(rows:List Row):Sc 32 [.d (ay bF 2 rows)] [] (.d (.bool (iI rows))) []:=by
 refine Si (fn:=Tryz.f32) Tryz.call32 ?_
 conv=>whnf
 repeat' first|((first|refine Sg ?_|refine Ni ?_ ?_);conv=>whnf)|(refine ah (fun _=> ?_) (fun _=> ?_)<;>(conv=>whnf))
 all_goals try simp only[decide_eq_true_eq,decide_eq_false_iff_not]at*
 ·refine⟨aB.of_eq ?_,trivial⟩
  have: ¬rows.length<=1024:=Om
  simp[iI,this]
 ·refine aA [0,8,9] [] (fun i:Nat=>[(10,.d (.int .i64 i))]) (fun i=>[]) (fun i=>i<=rows.length∧∀j,j<i->wZ rows j=true) (fun i=>rows.length-i) 0 ?_ (fun i hx=> ?_) ⟨Nat.zero_le _,fun j hj=>absurd hj (Nat.not_lt_zero j)⟩
  ·conv=>whnf
   repeat' first|((first|refine Sg ?_|refine Ni ?_ ?_);conv=>whnf)|(refine ah (fun _=> ?_) (fun _=> ?_)<;>(conv=>whnf))
   all_goals try first|exact Lq
  ·obtain⟨hi,hc⟩:=hx
   have hw:0<i->(IntKind.i64.wrap ((i:Int)-1)).toNat=i-1:=fun h=>by rw[bQ Om Om];omega
   have hs:IntKind.i64.wrap ((i:Int)+1)=((i+1:Nat):Int):=wrap_succ (n:=1025) Om Om
   have hk:0<i->0<=IntKind.i64.wrap ((i:Int)-1)∧IntKind.i64.wrap ((i:Int)-1)<rows.length:=fun h=>by rw[bQ Om Om];omega
   conv=>whnf
   repeat' first|((first|refine Ci (mM _) ?_|refine aG.mk (i+1) ?_ ?_ ?_|refine Sg ?_|refine Ni ?_ ?_);conv=>whnf)|(refine ah (fun _=> ?_) (fun _=> ?_)<;>(conv=>whnf))
   all_goals try simp only[decide_eq_true_eq,decide_eq_false_iff_not,Bool.not_eq_true',Bool.not_eq_false',Int.toNat_natCast]at*
   all_goals try rw[hw Om]at*
   all_goals first
    |exact trivial|omega|exact aF.refl _|exact aF.of_eq (by rw[hs])|exact hk Om|exact⟨Om,Om⟩
    |(refine⟨Om,fun j hj=> ?_⟩
      by_cases e:j=i
      ·subst e
       have hz:(j:Int)>0∨j=0:=Om
       rcases hz with hz|rfl
       ·have:(j==0)=false:=by simp;omega
        simp_all[wZ,rowOk]
       ·simp_all[wZ,rowOk]
      ·exact hc j Om)
    |(refine⟨aB.of_eq ?_,trivial⟩
      have e:i=rows.length:=Om
      subst e
      rw[zU Om hc])
    |(refine⟨aB.of_eq ?_,trivial⟩
      rw[Ei (i:=i) Om]
      have hz:(i:Int)>0∨i=0:=Om
      rcases hz with hz|rfl
      ·have:(i==0)=false:=by simp;omega
       first|(simp_all[wZ,rowOk];done)|(simp_all[wZ,rowOk];intros;omega)
      ·first|(simp_all[wZ,rowOk];done)|(simp_all[wZ,rowOk];intros;omega))
theorem Bf:Tryz.prog.cellsOf 54=2:=Kq
theorem bytesRow:Tryz.prog.bytesOf 54=32:=Kq
theorem MV(rows:List Row)(k:List UInt8):rows.length<=1099511627776->Sc 265 [.d (ay bF 2 rows),.d (.str k)] [] (.d (ay bF 2 (iq rows k))) []:=by
 intro hlen
 refine Si (fn:=Tryz.f265) Tryz.call265 ?_
 conv=>whnf
 repeat' first|((first|refine Sg ?_|refine Ni ?_ ?_);conv=>whnf)|(refine ah (fun _=> ?_) (fun _=> ?_)<;>(conv=>whnf))
 refine aA [0,0+1,8,9] [] (fun i:Nat=>[(5,.bW 500 2 0 (iq (rows.take i) k).length),(10,.d (.int .i64 i))]) (fun i=>[(500,.row 54 2 (iq (rows.take i) k).length (cellOf bF (iq (rows.take i) k)))]) (fun i=>i<=rows.length) (fun i=>rows.length-i) 0 ?_ (fun i hi=> ?_) (Nat.zero_le _)
 ·conv=>whnf
  repeat' first|((first|refine Sg ?_|refine Ni ?_ ?_);conv=>whnf)|(refine ah (fun _=> ?_) (fun _=> ?_)<;>(conv=>whnf))
  all_goals try first|exact Lq
 ·have hs:IntKind.i64.wrap ((i:Int)+1)=((i+1:Nat):Int):=wrap_succ (n:=1099511627777) Om Om
  have hl:(iq (rows.take i) k).length<=i:=Nat.le_trans zT (by simp;omega)
  conv=>whnf
  repeat' first|((first|refine aG.mk (i+1) ?_ ?_ ?_|refine Sg ?_|refine Ni ?_ ?_);conv=>whnf)|(refine ah (fun _=> ?_) (fun _=> ?_)<;>(conv=>whnf))
  all_goals try simp only[decide_eq_true_eq,decide_eq_false_iff_not,Int.toNat_natCast,Bf,bytesRow,true_and,and_true]at*
  all_goals first
   |exact trivial|omega|exact aF.refl _|exact aJ.refl _ _ _|exact aF.of_eq (by rw[hs])|exact⟨Om,Om⟩
   |(rw[Ec Om As];simp only[List.length_append,List.length_singleton];done)
   |(rw[Ed Om As];done)
   |(rw[Ed Om As];exact aJ.refl _ _ _)
   |(rw[Ec Om As];simp only[List.length_append,List.length_singleton];exact dN rfl (aJ.refl _ _ _) (Cc (aF.of_eq rfl) (aF.of_eq rfl)))
   |exact⟨bn (by rw[show i=rows.length by omega,List.take_length]),trivial⟩
theorem V4(rows:List Row)(k v:List UInt8):rows.length<=1099511627776->Sc 166 [.d (ay bF 2 rows),.agg [.d (.str k),.d (.str v)]] [] (.d (ay bF 2 (zA rows (k,v)))) []:=by
 intro hlen
 refine Si (fn:=Tryz.f166) Tryz.call166 ?_
 conv=>whnf
 repeat' first|((first|refine Cf (MV _ _) ?_ ?_|refine Sg ?_|refine Ni ?_ ?_);conv=>whnf)|(refine ah (fun _=> ?_) (fun _=> ?_)<;>(conv=>whnf))
 all_goals try omega
 have hwl:(iq rows k).length<=1099511627776:=Nat.le_trans zT hlen
 generalize hw:iq rows k=w at hwl
 have hF:zA rows (k,v)=AO (k,v) w:=by rw[zA,hw]
 rw[hF]
 clear hF hw
 refine aA [3,12,13] [3] (fun x:Nat×Bool×List Row=>[(6,.d (.bool x.2.1)),(5,.bW 500 2 0 x.2.2.length),(14,.d (.int .i64 x.1))]) (fun x=>[(500,.row 54 2 x.2.2.length (cellOf bF x.2.2))])
  (fun x=>x.1<=w.length∧x.2.2.length<=x.1+x.2.1.toNat∧x.2.2++(if x.2.1 then w.drop x.1 else AO (k,v) (w.drop x.1))=AO (k,v) w) (fun x=>w.length-x.1) (0,false,[]) ?_ (fun x hx=> ?_) ⟨Nat.zero_le _,by simp,rfl⟩
 ·conv=>whnf
  repeat' first|((first|refine Sg ?_|refine Ni ?_ ?_);conv=>whnf)|(refine ah (fun _=> ?_) (fun _=> ?_)<;>(conv=>whnf))
  all_goals try first|exact Lq
 ·obtain⟨i,dn,o⟩:=x
  obtain⟨hi,hol,he⟩:=hx
  simp only at hi hol he
  have hs:IntKind.i64.wrap ((i:Int)+1)=((i+1:Nat):Int):=wrap_succ (n:=1099511627777) Om Om
  have aks:o.length<=i+1:=by cases dn<;>simp at hol<;>omega
  have ai0:dn=false->o.length<=i:=fun h=>by rw[h]at hol;simpa using hol
  conv=>whnf
  repeat' first|((first|refine Sg ?_|refine Ni ?_ ?_);conv=>whnf)|(refine ah (fun _=> ?_) (fun _=> ?_)<;>(conv=>whnf))
  all_goals try simp only[decide_eq_true_eq,decide_eq_false_iff_not,Int.toNat_natCast,Bf,bytesRow,Yp,Bool.not_eq_true',Bool.not_eq_false',Nat.reduceAdd,true_and]at*
  all_goals first
   |(have hd:dn=true:=As
     refine aG.mk (i+1,true,o++[w.getD i default]) ?_ ?_ ?_;(conv=>whnf))
   |(have hd:Op.bytesLess k (w.getD i default).1=true:=As
     refine aG.mk (i+1,true,o++[(k,v)]++[w.getD i default]) ?_ ?_ ?_;(conv=>whnf))
   |(refine aG.mk (i+1,false,o++[w.getD i default]) ?_ ?_ ?_;(conv=>whnf))
   |skip
  conv=>whnf
  repeat' first|((first|refine Sg ?_|refine Ni ?_ ?_);conv=>whnf)|(refine ah (fun _=> ?_) (fun _=> ?_)<;>(conv=>whnf))
  all_goals try simp only[Bf,true_and]at*
  all_goals first
   |exact trivial|omega|exact aF.refl _|exact aJ.refl _ _ _|exact aF.of_eq (by rw[hs])|exact⟨Om,Om⟩
   |(simp only[List.length_append,List.length_singleton];done)
   |(simp only[List.length_append,List.length_singleton];exact dN rfl (aJ.refl _ _ _) (Cc (aF.of_eq rfl) (aF.of_eq rfl)))
   |(simp only[List.length_append,List.length_singleton];exact dN (by simp) (dN rfl (aJ.refl _ _ _) (Cc (aF.of_eq rfl) (aF.of_eq rfl))) (Cc (aF.of_eq rfl) (aF.of_eq rfl)))
   |exact aF.of_eq (by simp only[*])
   |(refine⟨Om,by simp only[List.length_append,List.length_singleton,Bool.toNat_true,Bool.toNat_false];omega,?_⟩
     rw[<-he,Lu (show i<w.length by omega)]
     clear he hol aks ai0
     simp only[AO, *,if_true,if_false,Bool.false_eq_true,List.append_assoc,List.cons_append,List.nil_append];done)
   |(have:=ai0 As
     refine⟨Om,by simp only[List.length_append,List.length_singleton,Bool.toNat_true,Bool.toNat_false];omega,?_⟩
     rw[<-he,Lu (show i<w.length by omega)]
     clear he hol aks ai0
     simp only[AO, *,if_true,if_false,Bool.false_eq_true,List.append_assoc,List.cons_append,List.nil_append];done)
   |(have hd:dn=true:=As
     refine⟨bn ?_,trivial⟩
     rw[<-he,List.drop_eq_nil_of_le (show w.length<=i by omega)]
     simp[hd];done)
   |(have hd:dn=false:=As
     have e:AO (k,v) w=o++[(k,v)]:=by
      rw[<-he,List.drop_eq_nil_of_le (show w.length<=i by omega)]
      simp[hd,AO]
     rw[e]
     exact⟨agW (by simp) (dN rfl (aJ.refl _ _ _) (Cc (aF.of_eq rfl) (aF.of_eq rfl))),trivial⟩)
theorem TA(rows:List Row)(k v:List UInt8):Sc 93 [.d (ay bF 2 rows),.agg [.d (.str k),.d (.str v)]] [] (.cO [.d (ay bF 2 (Ai rows k v).1),.d (.int .i64 (Ai rows k v).2)]) []:=by
 refine Si (fn:=Tryz.f93) Tryz.call93 ?_
 conv=>whnf
 repeat' first|((first|refine Ci (pI _) ?_|refine oN ((pI [(k,v)]).arg (aI.cons (aB.d (aF.rows rfl (row_one (Cc (aF.of_eq rfl) (aF.of_eq rfl))))) aI.nil)) ?_ Fl|refine Cf (V4 _ _ _) ?_ ?_|refine Sg ?_|refine Ni ?_ ?_);conv=>whnf)|(refine ah (fun _=> ?_) (fun _=> ?_)<;>(conv=>whnf))
 all_goals try simp only[decide_eq_true_eq,decide_eq_false_iff_not]at*
 ·have e:Ai rows k v=([],1):=by simp[Ai, *]
  rw[e];exact⟨aB.cO (aI.cons (aN rfl) (aI.cons (aB.refl _) aI.nil)),trivial⟩
 ·have e:Ai rows k v=([],1):=by simp[Ai, *]
  rw[e];exact⟨aB.cO (aI.cons (aN rfl) (aI.cons (aB.refl _) aI.nil)),trivial⟩
 ·have e:Ai rows k v=([],16):=by
   have:(zA rows (k,v)).length>1024:=Om
   simp[Ai, *]
  rw[e];exact⟨aB.cO (aI.cons (aN rfl) (aI.cons (aB.refl _) aI.nil)),trivial⟩
 ·have e:Ai rows k v=(zA rows (k,v),0):=by
   have: ¬(zA rows (k,v)).length>1024:=Om
   simp[Ai, *]
  rw[e];exact⟨aB.refl _,trivial⟩
 ·have:=yD (by simpa using‹(!iI rows)=false›)
  omega
theorem acv(m:Nat){l:List Int}{a:Nat}:bg l a-> ∃x:List UInt8×Nat,((x.1.length:Int)<=64∧bg l x.2)∧Sc 95 [.ptr m 0] [(m,aX l a)] (.d (.str x.1)) [(m,aX l x.2)]:=fun h=>by
 obtain⟨x,hx,hs⟩:=aie h
 exact⟨x,hx,hs.at m⟩
theorem afw:Sc 42 [] [] (.agg [.d (.str []),.d (.bool false),.d (.str []),.d (.bool true)]) []:=by
 refine Si (fn:=Tryz.f42) Tryz.call42 ?_
 conv=>whnf
 repeat' first|((first|refine Sg ?_|refine Ni ?_ ?_);conv=>whnf)|(refine ah (fun _=> ?_) (fun _=> ?_)<;>(conv=>whnf))
 exact⟨aB.refl _,trivial⟩
theorem aiR{l:List Int}{a:Nat}{lk:List UInt8}{lt:Bool}{hk:List UInt8}{ht:Bool}:(bg l a∧eH lk lt hk ht=false)-> ∃x:List UInt8×Nat,((x.1.length:Int)<=64∧fF lk lt hk ht x.1=true∧bg l x.2)∧
 Sc 94 [.ptr 1000 0,.agg [.d (.str lk),.d (.bool lt),.d (.str hk),.d (.bool ht)]] [(1000,aX l a)] (.d (.str x.1)) [(1000,aX l x.2)]:=by
 rintro⟨h,he⟩
 refine dZ (E:=EE) (fn:=Tryz.f94) _ _ _ false AZ Kq Kq Tryz.call94 Kq (fun _=>by kernel_rfl) (fun _=>by kernel_rfl) ?_
 conv=>whnf
 repeat' first|((first|refine Sg ?_|refine Ni ?_ ?_);conv=>whnf)|(refine ah (fun _=> ?_) (fun _=> ?_)<;>(conv=>whnf))
 refine aA [0,3] [3] (fun x:Nat×Nat=>[(5,.d (.int .i64 x.1))]) (fun x=>[(1000,aX l x.2)]) (fun x=>x.1<=4∧bg l x.2) (fun x=>4-x.1) (0,a) ?_ (fun x hx=> ?_) ⟨by simp,h⟩
 ·conv=>whnf
  repeat' first|((first|refine Sg ?_|refine Ni ?_ ?_);conv=>whnf)|(refine ah (fun _=> ?_) (fun _=> ?_)<;>(conv=>whnf))
  all_goals try first|exact Lq
 ·obtain⟨i,c⟩:=x
  obtain⟨hi,hc⟩:=hx
  simp only at hi hc
  have hs:IntKind.i64.wrap ((i:Int)+1)=((i+1:Nat):Int):=wrap_succ (n:=5) Om Om
  conv=>whnf
  repeat' first|((first|refine aY (GK _) (fun _=>Fl) (Ni ?_ ?_);rintro⟨k,b⟩ ⟨h1,h2⟩|refine Ci (tJ _ _ _ _ _) ?_|refine aG.mk (i+1,b) ?_ ?_ ?_|refine Sg ?_|refine Ni ?_ ?_);conv=>whnf)|(refine ah (fun _=> ?_) (fun _=> ?_)<;>(conv=>whnf))
  all_goals try simp only[decide_eq_true_eq,decide_eq_false_iff_not,beq_iff_eq,beq_eq_false_iff_ne,kW]at*
  all_goals try first|assumption|exact⟨As,Om,Om⟩|exact⟨Om,Om,Om⟩|exact⟨Om,Om⟩
  all_goals first
   |exact trivial|omega|exact aF.refl _|exact aJ.refl _ _ _|exact aF.of_eq (by rw[hs])|exact⟨Om,Om⟩
   |(simp only[List.length_append,List.length_singleton];done)
   |(simp only[List.length_append,List.length_singleton];exact dN rfl (aJ.refl _ _ _) (Cc (aF.of_eq rfl) (aF.of_eq rfl)))
   |(simp only[List.length_append,List.length_singleton];exact dN (by simp) (dN rfl (aJ.refl _ _ _) (Cc (aF.of_eq rfl) (aF.of_eq rfl))) (Cc (aF.of_eq rfl) (aF.of_eq rfl)))
   |exact⟨by simp only;omega,As⟩|exact⟨(_,_),⟨As,As,As⟩,aB.refl _,aI.refl _,trivial⟩
   |(refine⟨(_,_),?_,aB.refl _,aI.refl _,trivial⟩
     have:=abo he
     exact⟨this.1,this.2,As⟩)
theorem aee(m:Nat){l:List Int}{a:Nat}{lk:List UInt8}{lt:Bool}{hk:List UInt8}{ht:Bool}:(bg l a∧eH lk lt hk ht=false)-> ∃x:List UInt8×Nat,((x.1.length:Int)<=64∧fF lk lt hk ht x.1=true∧bg l x.2)∧
 Sc 94 [.ptr m 0,.agg [.d (.str lk),.d (.bool lt),.d (.str hk),.d (.bool ht)]] [(m,aX l a)] (.d (.str x.1)) [(m,aX l x.2)]:=fun h=>by
 obtain⟨x,hx,hs⟩:=aiR h
 exact⟨x,hx,hs.at m⟩
structure Dn (lk:List UInt8) (lt:Bool) (hk:List UInt8) (ht:Bool) (n:Int) (rows:List Row):Prop where
 ok:iW rows
 len:(rows.length:Int)<=n
 within: ∀r∈rows,fF lk lt hk ht r.1=true
theorem Dn.nil{lk:List UInt8}{lt:Bool}{hk:List UInt8}{ht:Bool}{n:Int}(h:0<=n):Dn lk lt hk ht n []:=⟨Gg,by simpa using h,by simp⟩
theorem Dn.put{lk:List UInt8}{lt:Bool}{hk:List UInt8}{ht:Bool}{n:Int}{rows:List Row}{k v:List UInt8}(h:Dn lk lt hk ht n rows)(hc:fF lk lt hk ht k=true):Dn lk lt hk ht (n+1) (Ai rows k v).1:=by
 have hp:=aiC (k:=k) (v:=v) h.ok
 have hl:=h.len
 refine⟨hp.1,Om,fun r hr=> ?_⟩
 unfold Ai at hr
 split at hr
 ·simp at hr
 ·split at hr
  ·simp at hr
  ·rcases Ji.1 hr with rfl|hr
   ·exact hc
   ·exact h.within r (Dp hr).1
theorem agh{l:List Int}{a:Nat}{lk:List UInt8}{lt:Bool}{hk:List UInt8}{ht:Bool}{n:Int}:(bg l a∧0<=n∧n<=1000)-> ∃x:List Row×Nat,(Dn lk lt hk ht n x.1∧bg l x.2)∧
 Sc 41 [.ptr 1000 0,.agg [.d (.str lk),.d (.bool lt),.d (.str hk),.d (.bool ht)],.d (.int .i64 n)] [(1000,aX l a)] (.d (ay bF 2 x.1)) [(1000,aX l x.2)]:=by
 rintro⟨h,hn⟩
 have wn:IntKind.i64.wrap (n+1)=n+1:=bQ Om Om
 refine dZ (E:=EE) (fn:=Tryz.f41) _ _ _ false AZ Kq Kq Tryz.call41 Kq (fun _=>by kernel_rfl) (fun _=>by kernel_rfl) ?_
 conv=>whnf
 repeat' first|((first|refine Ci (f_ _ _ _ _) ?_|refine aY (lH _) (fun _=>Fl) (Ni ?_ ?_);rintro⟨v,b⟩ ⟨⟨h1,h2⟩,h3⟩|refine Sg ?_|refine Ni ?_ ?_);conv=>whnf)|(refine ah (fun _=> ?_) (fun _=> ?_)<;>(conv=>whnf))
 ·exact⟨([],_),⟨Dn.nil hn.1,As⟩,aN rfl,aI.refl _,trivial⟩
 ·refine aA [0,4] [4] (fun x:Int×List Row×Nat=>[(8,.d (.int .i64 x.1)),(7,.d (ay bF 2 x.2.1))]) (fun x=>[(1000,aX l x.2.2)]) (fun x=>(0<=x.1∧x.1<=n)∧Dn lk lt hk ht (n-x.1) x.2.1∧bg l x.2.2) (fun x=>x.1.toNat) (v,[],b) ?_ (fun x hx=> ?_) ⟨by simp only;rw[wn]at h2;omega,Dn.nil (by simp only;rw[wn]at h2;omega),h3⟩
  ·conv=>whnf
   repeat' first|((first|refine Sg ?_|refine Ni ?_ ?_);conv=>whnf)|(refine ah (fun _=> ?_) (fun _=> ?_)<;>(conv=>whnf))
   all_goals first|exact trivial|exact aF.nil|exact aF.refl _
  ·obtain⟨i,o,c⟩:=x
   obtain⟨hi,ho,hc⟩:=hx
   simp only at hi ho hc
   have hs:0<i->IntKind.i64.wrap (i-1)=i-1:=fun _=>bQ Om Om
   have he:eH lk lt hk ht=false:=As
   conv=>whnf
   repeat' first|((first|refine aY (aee _) (fun _=>Fl) (Ni ?_ ?_);rintro⟨k,b⟩ ⟨h1,h2,h3⟩|refine aY (acv _) (fun _=>Fl) (Ni ?_ ?_);rintro⟨v,b⟩ ⟨h1,h2⟩|refine Ci (TA _ _ _) ?_|refine aG.mk (i-1,(Ai o k v).1,b) ?_ ?_ ?_|refine Sg ?_|refine Ni ?_ ?_);conv=>whnf)|(refine ah (fun _=> ?_) (fun _=> ?_)<;>(conv=>whnf))
   all_goals try simp only[decide_eq_true_eq,decide_eq_false_iff_not,beq_iff_eq,beq_eq_false_iff_ne,kW]at*
   all_goals try first|assumption|exact⟨As,Om,Om⟩|exact⟨Om,Om,Om⟩|exact⟨Om,Om⟩
   all_goals first
    |exact trivial|omega|exact aF.refl _|exact aF.of_eq (by rw[hs Om])|exact⟨As,As⟩
    |(refine⟨⟨Om,Om⟩,?_,As⟩
      have:=ho.put (k:=k) (v:=v) As
      rw[show n-i+1=n-(i-1)by omega]at this
      exact this)
    |(have e:i=0:=Om
      subst e
      rw[Int.sub_zero]at ho
      exact⟨(_,_),⟨ho,As⟩,aB.refl _,aI.refl _,trivial⟩)
 ·exact⟨h,by rw[wn];omega,by rw[wn];omega⟩
theorem aaA(m:Nat){l:List Int}{a:Nat}{lk:List UInt8}{lt:Bool}{hk:List UInt8}{ht:Bool}{n:Int}:(bg l a∧0<=n∧n<=1000)-> ∃x:List Row×Nat,(Dn lk lt hk ht n x.1∧bg l x.2)∧
 Sc 41 [.ptr m 0,.agg [.d (.str lk),.d (.bool lt),.d (.str hk),.d (.bool ht)],.d (.int .i64 n)] [(m,aX l a)] (.d (ay bF 2 x.1)) [(m,aX l x.2)]:=fun h=>by
 obtain⟨x,hx,hs⟩:=agh h
 exact⟨x,hx,hs.at m⟩
theorem ajZ{l:List Int}{a:Nat}{n:Int}:(bg l a∧0<=n∧n<=1000)-> ∃x:List Row×Nat,((iW x.1∧(x.1.length:Int)<=n)∧bg l x.2)∧
 Sc 13 [.ptr 1000 0,.d (.int .i64 n)] [(1000,aX l a)] (.d (ay bF 2 x.1)) [(1000,aX l x.2)]:=by
 rintro⟨h,hn⟩
 refine dZ (E:=EE) (fn:=Tryz.f13) _ _ _ false AZ Kq Kq Tryz.call13 Kq (fun _=>by kernel_rfl) (fun _=>by kernel_rfl) ?_
 conv=>whnf
 repeat' first|((first|refine Ci afw ?_|refine aY (aaA _) (fun _=>Fl) (Ni ?_ ?_);rintro⟨o,b⟩ ⟨h1,h2⟩|refine Sg ?_|refine Ni ?_ ?_);conv=>whnf)|(refine ah (fun _=> ?_) (fun _=> ?_)<;>(conv=>whnf))
 ·exact⟨(_,_),⟨⟨h1.ok,h1.len⟩,h2⟩,aB.refl _,aI.refl _,trivial⟩
 ·exact⟨h,hn⟩
theorem agf(m:Nat){l:List Int}{a:Nat}{n:Int}:(bg l a∧0<=n∧n<=1000)-> ∃x:List Row×Nat,((iW x.1∧(x.1.length:Int)<=n)∧bg l x.2)∧
 Sc 13 [.ptr m 0,.d (.int .i64 n)] [(m,aX l a)] (.d (ay bF 2 x.1)) [(m,aX l x.2)]:=fun h=>by
 obtain⟨x,hx,hs⟩:=ajZ h
 exact⟨x,hx,hs.at m⟩
theorem aiL(m:Nat){l:List Int}(hl: ∀x∈l,-9223372036854775808<=x∧x<9223372036854775808): ∃x:List Int×Nat,bg x.1 x.2∧
 Sc 4 [.d (ay encI 1 l)] [] (.ptr m 0) [(m,aX x.1 x.2)]:=by
 have key: ∃x:List Int×Nat,bg x.1 x.2∧Sc 4 [.d (ay encI 1 l)] [] (.ptr 1000 0) [(1000,aX x.1 x.2)]:=by
  refine dZ (E:=EE) (fn:=Tryz.f4) _ _ _ true AZ Kq Kq Tryz.call4 Kq (fun _=>by kernel_rfl) (fun _=>by kernel_rfl) ?_
  conv=>whnf
  repeat' first|((first|refine Sg ?_|refine Ni ?_ ?_);conv=>whnf)|(refine ah (fun _=> ?_) (fun _=> ?_)<;>(conv=>whnf))
  all_goals simp only[decide_eq_true_eq,decide_eq_false_iff_not]at*
  ·refine⟨(l.take 600,0),⟨by simp;omega,by simp,fun x hx=>hl x (List.mem_of_mem_take hx)⟩,?_⟩
   conv=>whnf
   repeat' first|((first|refine Sg ?_|refine Ni ?_ ?_);conv=>whnf)|(refine ah (fun _=> ?_) (fun _=> ?_)<;>(conv=>whnf))
   all_goals first
    |exact trivial|exact aF.refl _
    |(refine aF.rows (by simp;omega) (.of_eq fun i j hi hj=> ?_)
      have hi:i<600:=by simp at hi;omega
      simp[cellOf,List.getD,List.getElem?_take,hi])
  ·simp
   omega
  ·refine⟨(l,0),⟨by simp only;omega,by simp,hl⟩,?_⟩
   conv=>whnf
   repeat' first|((first|refine Sg ?_|refine Ni ?_ ?_);conv=>whnf)|(refine ah (fun _=> ?_) (fun _=> ?_)<;>(conv=>whnf))
   all_goals first|exact trivial|exact aF.refl _
 obtain⟨x,hx,hs⟩:=key
 exact⟨x,hx,hs.new1 m⟩
theorem kV(rows:List Row)(lk:List UInt8)(lt:Bool)(hk:List UInt8)(ht:Bool):rows.length<=1099511627776->Sc 22 [.d (ay bF 2 rows),.agg [.d (.str lk),.d (.bool lt),.d (.str hk),.d (.bool ht)]] [] (.d (ay bF 2 (iJ rows lk lt hk ht))) []:=by
 intro hlen
 refine Si (fn:=Tryz.f22) Tryz.call22 ?_
 conv=>whnf
 repeat' first|((first|refine Sg ?_|refine Ni ?_ ?_);conv=>whnf)|(refine ah (fun _=> ?_) (fun _=> ?_)<;>(conv=>whnf))
 refine aA [0,3,8,9] [3] (fun i:Nat=>[(5,.bW 500 2 0 (iJ (rows.take i) lk lt hk ht).length),(10,.d (.int .i64 i))]) (fun i=>[(500,.row 54 2 (iJ (rows.take i) lk lt hk ht).length (cellOf bF (iJ (rows.take i) lk lt hk ht)))]) (fun i=>i<=rows.length) (fun i=>rows.length-i) 0 ?_ (fun i hi=> ?_) (Nat.zero_le _)
 ·conv=>whnf
  repeat' first|((first|refine Sg ?_|refine Ni ?_ ?_);conv=>whnf)|(refine ah (fun _=> ?_) (fun _=> ?_)<;>(conv=>whnf))
  all_goals try first|exact Lq
 ·have hs:IntKind.i64.wrap ((i:Int)+1)=((i+1:Nat):Int):=wrap_succ (n:=1099511627777) Om Om
  have hl:(iJ (rows.take i) lk lt hk ht).length<=i:=Nat.le_trans Gj (by simp;omega)
  conv=>whnf
  repeat' first|((first|refine Ci (zJ _ _ _ _ _) ?_|refine aG.mk (i+1) ?_ ?_ ?_|refine Sg ?_|refine Ni ?_ ?_);conv=>whnf)|(refine ah (fun _=> ?_) (fun _=> ?_)<;>(conv=>whnf))
  all_goals try simp only[decide_eq_true_eq,decide_eq_false_iff_not,Int.toNat_natCast,Bf,bytesRow,true_and,and_true]at*
  all_goals first
   |exact trivial|omega|exact aF.refl _|exact aJ.refl _ _ _|exact aF.of_eq (by rw[hs])|exact⟨Om,Om⟩
   |(rw[yG Om As];simp only[List.length_append,List.length_singleton];done)
   |(rw[yH Om As];done)
   |(rw[yH Om As];exact aJ.refl _ _ _)
   |(rw[yG Om As];simp only[List.length_append,List.length_singleton];exact dN rfl (aJ.refl _ _ _) (Cc (aF.of_eq rfl) (aF.of_eq rfl)))
   |exact⟨bn (by rw[show i=rows.length by omega,List.take_length]),trivial⟩
theorem H6(rows:List Row)(lk:List UInt8)(lt:Bool)(hk:List UInt8)(ht:Bool):rows.length<=1099511627776->Sc 250 [.d (ay bF 2 rows),.agg [.d (.str lk),.d (.bool lt),.d (.str hk),.d (.bool ht)]] [] (.d (ay bF 2 (iJ rows lk lt hk ht))) []:=by
 intro hlen
 refine Si (fn:=Tryz.f250) Tryz.call250 ?_
 conv=>whnf
 repeat' first|((first|refine Sg ?_|refine Ni ?_ ?_);conv=>whnf)|(refine ah (fun _=> ?_) (fun _=> ?_)<;>(conv=>whnf))
 refine aA [0,3,8,9] [3] (fun i:Nat=>[(5,.bW 500 2 0 (iJ (rows.take i) lk lt hk ht).length),(10,.d (.int .i64 i))]) (fun i=>[(500,.row 54 2 (iJ (rows.take i) lk lt hk ht).length (cellOf bF (iJ (rows.take i) lk lt hk ht)))]) (fun i=>i<=rows.length) (fun i=>rows.length-i) 0 ?_ (fun i hi=> ?_) (Nat.zero_le _)
 ·conv=>whnf
  repeat' first|((first|refine Sg ?_|refine Ni ?_ ?_);conv=>whnf)|(refine ah (fun _=> ?_) (fun _=> ?_)<;>(conv=>whnf))
  all_goals try first|exact Lq
 ·have hs:IntKind.i64.wrap ((i:Int)+1)=((i+1:Nat):Int):=wrap_succ (n:=1099511627777) Om Om
  have hl:(iJ (rows.take i) lk lt hk ht).length<=i:=Nat.le_trans Gj (by simp;omega)
  conv=>whnf
  repeat' first|((first|refine Ci (tJ _ _ _ _ _) ?_|refine aG.mk (i+1) ?_ ?_ ?_|refine Sg ?_|refine Ni ?_ ?_);conv=>whnf)|(refine ah (fun _=> ?_) (fun _=> ?_)<;>(conv=>whnf))
  all_goals try simp only[decide_eq_true_eq,decide_eq_false_iff_not,Int.toNat_natCast,Bf,bytesRow,true_and,and_true]at*
  all_goals first
   |exact trivial|omega|exact aF.refl _|exact aJ.refl _ _ _|exact aF.of_eq (by rw[hs])|exact⟨Om,Om⟩
   |(rw[yG Om As];simp only[List.length_append,List.length_singleton];done)
   |(rw[yH Om As];done)
   |(rw[yH Om As];exact aJ.refl _ _ _)
   |(rw[yG Om As];simp only[List.length_append,List.length_singleton];exact dN rfl (aJ.refl _ _ _) (Cc (aF.of_eq rfl) (aF.of_eq rfl)))
   |exact⟨bn (by rw[show i=rows.length by omega,List.take_length]),trivial⟩
end Go.Proofs.YtgdgkekpfmhbbaaGreatDoor
