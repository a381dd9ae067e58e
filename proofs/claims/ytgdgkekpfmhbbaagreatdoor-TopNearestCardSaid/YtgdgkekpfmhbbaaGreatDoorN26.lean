/- Contracts of functions that the law reaches: YtgdgkekpfmhbbaaGreatDoorN26. Written for this claim. -/
import Derived.Test.YtgdgkekpfmhbbaaGreatDoorN25
namespace Go.Proofs.YtgdgkekpfmhbbaaGreatDoor
open Go Go.Sx Go.ChangeShapes Go.WideShapes Go.ChangeAt Go.RowKit
set_option linter.unusedVariables false
set_option linter.unusedSimpArgs false
set_option maxRecDepth 100000
abbrev afW(v:dL):List SV:=[.d (.int .i64 v.own),.d (.str v.lk),.d (.bool v.lt),.d (.str v.hk),.d (.bool v.ht),.d (.int .i64 v.se),.d (.int .i64 v.sv),.d (ay bF 2 v.rows),.d (.str v.pk),.d (.bool v.pt),.d (.str v.qk),.d (.bool v.qt)]
theorem SQ(v:dL):v.rows.length<=1000000->Sc 317 [.agg (afW v),.agg (afW v)] [] (.d (.bool true)) []:=by
 intro h
 have h1:=CQ v.lk v.lt v.hk v.ht v.lk v.lt v.hk v.ht
 rw[t_]at h1
 have h2:=CQ v.pk v.pt v.qk v.qt v.pk v.pt v.qk v.qt
 rw[t_]at h2
 have h3:=S9 v.rows v.rows ⟨Om,Om⟩
 rw[show tN v.rows v.rows=true from by simp[tN]]at h3
 have e1:(v.own==v.own)=true:=beq_self_eq_true _
 have e2:(v.se==v.se&&v.sv==v.sv)=true:=by simp
 refine Si (fn:=Tryz.f317) Tryz.call317 ?_
 conv=>whnf
 repeat' first|((first|refine Ci h1 ?_|refine Ci h2 ?_|refine Ci h3 ?_|refine Sr ?_|refine Sg ?_|refine Ni ?_ ?_);conv=>whnf)
 all_goals first
  |exact Lf|exact⟨aB.refl _,trivial⟩
  |skip
theorem SN(v:dL):v.rows.length<=1000000->Sc 256 [.agg (afW v),.agg (afW v)] [] (.d (.bool true)) []:=by
 intro h
 have h1:=CP v.lk v.lt v.hk v.ht v.lk v.lt v.hk v.ht
 rw[t_]at h1
 have h2:=CP v.pk v.pt v.qk v.qt v.pk v.pt v.qk v.qt
 rw[t_]at h2
 have h3:=SY v.rows v.rows ⟨Om,Om⟩
 rw[show tN v.rows v.rows=true from by simp[tN]]at h3
 have e1:(v.own==v.own)=true:=beq_self_eq_true _
 have e2:(v.se==v.se&&v.sv==v.sv)=true:=by simp
 refine Si (fn:=Tryz.f256) Tryz.call256 ?_
 conv=>whnf
 repeat' first|((first|refine Ci h1 ?_|refine Ci h2 ?_|refine Ci h3 ?_|refine Sr ?_|refine Sg ?_|refine Ni ?_ ?_);conv=>whnf)
 all_goals first
  |exact Lf|exact⟨aB.refl _,trivial⟩
  |skip
def fK(dn:Bool)(rows:List Row):List Row:=if dn then rows.drop (rows.length-1)else rows.take 1
theorem agj{α:Type}[Inhabited α]{enc:α->List D}{k a n:Nat}{xs:List α}:aJ n k (fun i j=>cellOf enc xs (a+i) j) (cellOf enc ((xs.drop a).take n)):= .of_eq fun i j hi _=>by
 simp[cellOf,List.getD,List.getElem?_take,List.getElem?_drop,hi]
theorem NY(dn:Bool)(rows:List Row){N a:Nat}(hN:N=min 1 rows.length)(ha:a=if dn then rows.length-N else 0):fK dn rows=(rows.drop a).take N:=by
 unfold fK
 cases dn with
 |false=>
  simp only[Bool.false_eq_true,if_false]at ha⊢
  subst ha hN
  rw[List.drop_zero,List.take_eq_take_iff];omega
 |true=>
  simp only[if_true]at ha⊢
  subst ha hN
  rcases Nat.eq_zero_or_pos rows.length with h|h
  ·rw[List.eq_nil_of_length_eq_zero h];rfl
  ·rw[show min 1 rows.length=1 by omega]
   rw[List.take_of_length_le (by rw[List.length_drop];omega)]
theorem uo(dn:Bool)(rows:List Row):(fK dn rows).length<=1:=by
 rw[NY dn rows rfl rfl,List.length_take];omega
theorem F9(dn:Bool)(rows:List Row){N k a:Nat}:(k=2∧N=min 1 rows.length∧a=(if dn then rows.length-N else 0))->aB (.d (.list N k fun i j=>cellOf bF rows (a+i) j)) (.d (ay bF 2 (fK dn rows))):=by
 rintro⟨rfl,hN,ha⟩
 rw[NY dn rows hN ha]
 have hl:((rows.drop a).take N).length=N:=by
  rw[List.length_take,List.length_drop]
  subst hN
  cases dn with
  |false=>simp only[Bool.false_eq_true,if_false]at ha;omega
  |true=>simp only[if_true]at ha;omega
 exact aB.d (aF.rows hl.symm (by rw[hl];exact agj))
theorem IB(dn:Bool)(rows:List Row){N k a:Nat}:(k=2∧N=min 1 rows.length∧a=(if dn then rows.length-N else 0))->Sc 17 [.d (.list N k fun i j=>cellOf bF rows (a+i) j)] [] (.d (ay bF 2 (fK dn rows))) []:=fun h=>
 (uj (fK dn rows) (by have:=uo dn rows;omega)).arg (aI.cons (F9 dn rows h) aI.nil)
theorem min1(n:Nat):(if(n:Int)<(if(0:Int)>1 then 0 else 1)then(n:Int)else if(0:Int)>1 then 0 else 1)=((min 1 n:Nat):Int):=by
 simp only[show¬((0:Int)>1)by decide,if_false]
 split<;>omega
theorem acp{n m:Nat}(h:n<=1000000)(hm:m<=n):IntKind.i64.wrap ((n:Int)-(m:Int))=((n-m:Nat):Int):=by rw[bQ Om Om];omega
theorem Jv(dn:Bool)(k:List UInt8)(rows:List Row):rows.length<=1000000->Sc 318 [.agg (kR dn k),.d (ay bF 2 rows)] [] (.d (ay bF 2 (fK dn rows))) []:=by
 intro h
 have hm:=min1 rows.length
 have hw:=acp h (Nat.min_le_right 1 rows.length)
 cases dn
 ·refine Si (fn:=Tryz.f318) Tryz.call318 ?_
  conv=>whnf
  repeat' first|((first|refine Cf (IB false rows) ?_ ?_|refine Sr ?_|refine Sg ?_|refine Ni ?_ ?_);conv=>whnf)
  all_goals try simp only[hm,hw,Option.getD]
  all_goals first
   |exact Lf|exact⟨trivial,Om,by simp⟩|exact⟨Om,Om,Om⟩
   |(refine⟨?_,trivial⟩
     repeat' first|exact aI.nil|refine aB.cO ?_|refine aB.agg ?_|refine aI.cons ?_ ?_|exact aB.refl _|exact aN rfl|exact bn rfl|exact bY rfl
     done)
   |skip
 ·refine Si (fn:=Tryz.f318) Tryz.call318 ?_
  conv=>whnf
  repeat' first|((first|refine Cf (IB true rows) ?_ ?_|refine Sr ?_|refine Sg ?_|refine Ni ?_ ?_);conv=>whnf)
  all_goals try simp only[hm,hw,Option.getD]
  all_goals first
   |exact Lf|exact⟨trivial,Om,by simp only[if_true];omega⟩|exact⟨Om,Om,Om⟩
   |(refine⟨?_,trivial⟩
     repeat' first|exact aI.nil|refine aB.cO ?_|refine aB.agg ?_|refine aI.cons ?_ ?_|exact aB.refl _|exact aN rfl|exact bn rfl|exact bY rfl
     done)
   |skip
theorem min2(n:Nat):(if(if(n:Int)<1 then(n:Int)else 1)>0 then(if(n:Int)<1 then(n:Int)else 1)else 0)=((min 1 n:Nat):Int):=by
 split<;>split<;>omega
theorem Hy(dn:Bool)(k:List UInt8)(rows:List Row):rows.length<=1000000->Sc 155 [.agg (kR dn k),.d (ay bF 2 rows)] [] (.d (ay bF 2 (fK dn rows))) []:=by
 intro h
 have hm:=min2 rows.length
 have hw:=acp h (Nat.min_le_right 1 rows.length)
 cases dn
 ·refine Si (fn:=Tryz.f155) Tryz.call155 ?_
  conv=>whnf
  repeat' first|((first|refine Sr ?_|refine Sg ?_|refine Ni ?_ ?_);conv=>whnf)
  all_goals try simp only[hm,hw,Option.getD,Yr]
  all_goals first
   |exact Lf|exact⟨Om,Om,Om⟩|exact⟨Om,Om⟩
   |(simp only[Nat.zero_add];exact⟨F9 false rows ⟨zn,Om,by simp⟩,trivial⟩)
   |skip
 ·refine Si (fn:=Tryz.f155) Tryz.call155 ?_
  conv=>whnf
  repeat' first|((first|refine Sr ?_|refine Sg ?_|refine Ni ?_ ?_);conv=>whnf)
  all_goals try simp only[hm,hw,Option.getD,Yr]
  all_goals first
   |exact Lf|exact⟨Om,Om,Om⟩|exact⟨Om,Om⟩
   |(simp only[Nat.zero_add];exact⟨F9 true rows ⟨zn,Om,by simp only[if_true];omega⟩,trivial⟩)
   |skip
end Go.Proofs.YtgdgkekpfmhbbaaGreatDoor
