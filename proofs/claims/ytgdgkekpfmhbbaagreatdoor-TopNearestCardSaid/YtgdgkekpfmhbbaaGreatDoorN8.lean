/- Contracts of functions that the law reaches: YtgdgkekpfmhbbaaGreatDoorN8. Written for this claim. -/
import Derived.Test.YtgdgkekpfmhbbaaGreatDoorN2
namespace Go.Proofs.YtgdgkekpfmhbbaaGreatDoor
open Go Go.Sx Go.ChangeShapes Go.WideShapes Go.ChangeAt Go.RowKit
set_option linter.unusedVariables false
set_option linter.unusedSimpArgs false
set_option maxRecDepth 100000
theorem Eh{vis:List dL}{x:dL}{g1:Nat->Nat->D}(h: ∀j,j<12->aF (g1 0 j) ((dD x).getD j default)):
 aF (.list (1+vis.length) 12 fun i j=>if i<1 then g1 i j else cellOf dD vis (i-1) j) (ay dD 12 (x::vis)):=by
 unfold ay
 rw[show(x::vis).length=1+vis.length by simp;omega]
 exact aF.rows rfl (yJ (xs:=[x]) (ys:=vis) rfl (row_one h) (aJ.refl _ _ _))
theorem w11:(IntKind.i64.wrap (((1:Nat):Int)-1)-0).toNat=0:=by decide
theorem acG{k:List UInt8}{r:jl}{vis:List dL}{own:Int}{lk:List UInt8}{lt:Bool}{hk:List UInt8}{ht:Bool}{se sv:Int}{rows:List Row}:
 (((vis.length<=900∧(aS vis).length<=1000000)∧eX ([r],vis)=false)∧Cm own lk lt hk ht se sv rows∧fitsV true ⟨own,lk,lt,hk,ht,se,sv,rows⟩ r=true)->
 Sc 149 [.agg (rX true k [r] vis),.agg (oW own lk lt hk ht se sv rows)] [] (.cO [.agg (rX true k (iT true ([r],vis) ⟨own,lk,lt,hk,ht,se,sv,rows⟩).1 (iT true ([r],vis) ⟨own,lk,lt,hk,ht,se,sv,rows⟩).2),.d (.int .i64 0)]) []:=by
 rintro⟨⟨h,hd⟩,hv,hf⟩
 have h1:=Bo true k r vis ⟨⟨Om,h.2⟩,hd⟩
 have h2:=qV hv
 have h3:=ng true k
 have hlen:=hv.len
 have hf2:=hf
 simp[fitsV]at hf2
 have f1:decide (aV hk ht r.2.2.1 r.2.2.2<0)=false:=by have:=hf2;simp;omega
 have f2:decide (aV lk lt r.2.2.1 r.2.2.2>=0)=false:=by have:=hf2;simp;omega
 refine Si (fn:=Tryz.f149) Tryz.call149 ?_
 conv=>whnf
 repeat' first|((first|refine Ci h1 ?_|refine Ci h2 ?_|refine Ci h3 ?_|refine Ci (dG _ _ _ _) ?_|refine Ci (Iq _ _ _ _ _ _ _ _) ?_|refine Cf (H6 rows _ _ _ _) ?_ ?_|refine Ci (f_ _ _ _ _) ?_|refine Sr ?_|refine Sg ?_|refine Ni ?_ ?_);conv=>whnf)|(refine ah (fun _=> ?_) (fun _=> ?_)<;>(conv=>whnf))
 all_goals try simp only[cR,Vz,bR,Yq,List.length_singleton,Option.getD,Nat.zero_add,w11]
 all_goals first
  |exact Lf|exact⟨trivial,Om,Om⟩|exact⟨rfl,Om,Om⟩|exact⟨Om,Om⟩|exact⟨trivial,by decide,by decide⟩|exact⟨by decide,by decide⟩
  |skip
 ·rename_i hh
  have hh2:aK (uM true ⟨own,lk,lt,hk,ht,se,sv,rows⟩ r)=false:=by rw[Bool.not_eq_true']at hh;exact hh
  rw[Jb,lM hh2]
  dsimp only
  refine⟨zW (aF.rows (by simp) (row_of (F5 rfl rfl rfl rfl))) (Eh (x:=lg ⟨own,lk,lt,hk,ht,se,sv,rows⟩ r) (IX (aF.refl _) (aF.refl _) (aF.refl _) (aF.refl _) (aF.refl _) (aF.refl _) (aF.refl _) (aF.refl _) (aF.refl _) (aF.refl _) (aF.refl _) (aF.refl _))),trivial⟩
 ·rename_i hh
  have hh2:aK (uM true ⟨own,lk,lt,hk,ht,se,sv,rows⟩ r)=true:=by rw[Bool.not_eq_false']at hh;exact hh
  rw[Jb,yE hh2]
  dsimp only
  refine⟨zW (aF.rows (by simp) (.of_eq fun i j hi hj=>by simp at hi)) (Eh (x:=lg ⟨own,lk,lt,hk,ht,se,sv,rows⟩ r) (IX (aF.refl _) (aF.refl _) (aF.refl _) (aF.refl _) (aF.refl _) (aF.refl _) (aF.refl _) (aF.refl _) (aF.refl _) (aF.refl _) (aF.refl _) (aF.refl _))),trivial⟩
theorem aas{dn:Bool}{k:List UInt8}{r:jl}{vis:List dL}{own:Int}{lk:List UInt8}{lt:Bool}{hk:List UInt8}{ht:Bool}{se sv:Int}{rows:List Row}:
 (((vis.length<=900∧(aS vis).length<=1000000)∧eX ([r],vis)=false)∧Cm own lk lt hk ht se sv rows∧fitsV dn ⟨own,lk,lt,hk,ht,se,sv,rows⟩ r=false)->
 Sc 149 [.agg (rX dn k [r] vis),.agg (oW own lk lt hk ht se sv rows)] [] (.cO [.agg aci,.d (.int .i64 12)]) []:=by
 rintro⟨⟨h,hd⟩,hv,hf⟩
 have h1:=Bo dn k r vis ⟨⟨Om,h.2⟩,hd⟩
 have h2:=qV hv
 have h3:=ng dn k
 have hlen:=hv.len
 have hf2:=hf
 cases dn
 ·simp[fitsV]at hf2
  refine Si (fn:=Tryz.f149) Tryz.call149 ?_
  conv=>whnf
  repeat' first|((first|refine Ci h1 ?_|refine Ci h2 ?_|refine Ci h3 ?_|refine Ci (dG _ _ _ _) ?_|refine Sr ?_|refine Sg ?_|refine Ni ?_ ?_);conv=>whnf)|(refine ah (fun _=> ?_) (fun _=> ?_)<;>(conv=>whnf))
  all_goals first
   |exact Lf|exact⟨aN rfl,trivial⟩|exact⟨aB.of_eq rfl,trivial⟩
   |(exfalso;rename_i a b;simp at a b;omega)
   |skip
 ·simp[fitsV]at hf2
  refine Si (fn:=Tryz.f149) Tryz.call149 ?_
  conv=>whnf
  repeat' first|((first|refine Ci h1 ?_|refine Ci h2 ?_|refine Ci h3 ?_|refine Ci (dG _ _ _ _) ?_|refine Sr ?_|refine Sg ?_|refine Ni ?_ ?_);conv=>whnf)|(refine ah (fun _=> ?_) (fun _=> ?_)<;>(conv=>whnf))
  all_goals first
   |exact Lf|exact⟨aN rfl,trivial⟩|exact⟨aB.of_eq rfl,trivial⟩
   |(exfalso;rename_i a b;simp at a b;omega)
   |skip
theorem uj(xs:List Row):xs.length<=1000000->Sc 17 [.d (ay bF 2 xs)] [] (.d (ay bF 2 xs)) []:=by
 intro hl
 refine Si (fn:=Tryz.f17) Tryz.call17 ?_
 conv=>whnf
 repeat' first|((first|refine Sg ?_|refine Ni ?_ ?_);conv=>whnf)|(refine ah (fun _=> ?_) (fun _=> ?_)<;>(conv=>whnf))
 all_goals try simp only[zn,Yr,true_and,and_true]at*
 all_goals first|omega|exact⟨Om,Om⟩|exact⟨bn rfl,trivial⟩
theorem ae3(xs:List jl):xs.length<=1000000->Sc 272 [.d (ay dF 4 xs)] [] (.bW 1000 4 0 xs.length) [(1000,.row 74 4 xs.length (cellOf dF xs))]:=by
 intro hl
 refine Si (fn:=Tryz.f272) Tryz.call272 ?_
 conv=>whnf
 repeat' first|((first|refine Sg ?_|refine Ni ?_ ?_);conv=>whnf)|(refine ah (fun _=> ?_) (fun _=> ?_)<;>(conv=>whnf))
 all_goals try simp only[cR,bR,true_and,and_true]at*
 all_goals first|exact trivial|omega|exact aF.refl _|exact aJ.refl _ _ _|exact⟨Om,Om⟩
theorem LV(m:Nat)(xs:List jl):xs.length<=1000000->Sc 272 [.d (ay dF 4 xs)] [] (.bW m 4 0 xs.length) [(m,.row 74 4 xs.length (cellOf dF xs))]:=fun h=>(ae3 xs h).new1 m
theorem FM(xs:List jl):xs.length<=1000000->Sc 272 [.d (ay dF 4 xs)] [] (.d (ay dF 4 xs)) []:=by
 intro hl
 refine Si (fn:=Tryz.f272) Tryz.call272 ?_
 conv=>whnf
 repeat' first|((first|refine Sg ?_|refine Ni ?_ ?_);conv=>whnf)|(refine ah (fun _=> ?_) (fun _=> ?_)<;>(conv=>whnf))
 all_goals try simp only[cR,bR,true_and,and_true]at*
 all_goals first|omega|exact⟨Om,Om⟩|exact⟨bn rfl,trivial⟩
theorem ae2(xs:List dL):xs.length<=1000000->Sc 275 [.d (ay dD 12 xs)] [] (.bW 1000 12 0 xs.length) [(1000,.row 352 12 xs.length (cellOf dD xs))]:=by
 intro hl
 refine Si (fn:=Tryz.f275) Tryz.call275 ?_
 conv=>whnf
 repeat' first|((first|refine Sg ?_|refine Ni ?_ ?_);conv=>whnf)|(refine ah (fun _=> ?_) (fun _=> ?_)<;>(conv=>whnf))
 all_goals try simp only[Vz,Yq,true_and,and_true]at*
 all_goals first|exact trivial|omega|exact aF.refl _|exact aJ.refl _ _ _|exact⟨Om,Om⟩
theorem X8(m:Nat)(xs:List dL):xs.length<=1000000->Sc 275 [.d (ay dD 12 xs)] [] (.bW m 12 0 xs.length) [(m,.row 352 12 xs.length (cellOf dD xs))]:=fun h=>(ae2 xs h).new1 m
theorem iV(dn:Bool)(k:List UInt8):Sc 194 [.agg (kR dn k)] [] (.agg (kR dn k)) []:=by
 have h:=FM [] (by decide)
 refine Si (fn:=Tryz.f194) Tryz.call194 ?_
 conv=>whnf
 repeat' first|((first|refine Ci h ?_|refine Sg ?_|refine Ni ?_ ?_);conv=>whnf)|(refine ah (fun _=> ?_) (fun _=> ?_)<;>(conv=>whnf))
 all_goals first|exact Lf|exact⟨aB.refl _,trivial⟩
theorem LU{own:Int}{lk:List UInt8}{lt:Bool}{hk:List UInt8}{ht:Bool}{se sv:Int}{rows:List Row}:rows.length<=1000000->
 Sc 276 [.agg (oW own lk lt hk ht se sv rows)] [] (.agg (oW own lk lt hk ht se sv rows)) []:=by
 intro h
 refine Si (fn:=Tryz.f276) Tryz.call276 ?_
 conv=>whnf
 repeat' first|((first|refine Cf (uj rows) ?_ ?_|refine Sg ?_|refine Ni ?_ ?_);conv=>whnf)|(refine ah (fun _=> ?_) (fun _=> ?_)<;>(conv=>whnf))
 all_goals first|exact Lf|exact⟨aB.refl _,trivial⟩
theorem aaC{vis:List dL}{p n:Nat}{g:Nat->Nat->D}(h: ∀j,j<12->g p j=cellOf dD vis p j)(h2: ∀i j,¬i=p->g i j=cellOf dD vis i j):aJ n 12 g (cellOf dD vis):= .of_eq fun i j hi hj=>by
 by_cases e:i=p
 ·rw[e];exact h j hj
 ·exact h2 i j e
theorem abM(vis:List dL):(vis.length<=1000∧∀i,i<vis.length->(vis.getD i default).rows.length<=1000000)->Sc 197 [.d (ay dD 12 vis)] [] (.bW 4000 12 0 vis.length) [(4000,.row 352 12 vis.length (cellOf dD vis))]:=by
 rintro⟨hv,hr⟩
 have hc:=X8 3000 vis Om
 refine Si (fn:=Tryz.f197) Tryz.call197 ?_
 conv=>whnf
 repeat' first|((first|refine Ci hc ?_|refine Sg ?_|refine Ni ?_ ?_);conv=>whnf)
 refine aA [0,7] [] (fun i:Nat=>[(8,.d (.int .i64 i))]) (fun i=>[(3000,.row 352 12 vis.length (cellOf dD vis))])
  (fun i=>i<=vis.length) (fun i=>vis.length-i) 0 ?_ (fun i hi=> ?_) (Nat.zero_le _)
 ·conv=>whnf
  repeat' first|((first|refine Sg ?_|refine Ni ?_ ?_);conv=>whnf)|(refine ah (fun _=> ?_) (fun _=> ?_)<;>(conv=>whnf))
  all_goals try first|exact Lq
 ·conv=>whnf
  refine ah (fun hlt=> ?_) (fun hlt=> ?_)
  ·have hlt0:i<vis.length:=by simpa using hlt
   have hri:=hr (0+i) Om
   have hcv:=LU (own:=(vis.getD (0+i) default).own) (lk:=(vis.getD (0+i) default).lk) (lt:=(vis.getD (0+i) default).lt) (hk:=(vis.getD (0+i) default).hk) (ht:=(vis.getD (0+i) default).ht) (se:=(vis.getD (0+i) default).se) (sv:=(vis.getD (0+i) default).sv) hri
   have hw1:IntKind.i64.wrap ((i:Int)+1)=((i+1:Nat):Int):=wrap_succ (n:=1000) Om Om
   conv=>whnf
   repeat' first|((first|refine Ci hcv ?_|refine aG.mk (i+1) ?_ ?_ ?_|refine Sg ?_|refine Ni ?_ ?_);conv=>whnf)
   all_goals try simp only[Int.toNat_natCast,Vz,hw1]
   all_goals first
    |exact Lf
    |exact aaC (p:=0+i) (fun j hj=>(if_pos rfl).trans (by revert j;exact IX rfl rfl rfl rfl rfl rfl rfl rfl rfl rfl rfl rfl)) (fun i j h=>if_neg h)
  ·conv=>whnf
   repeat' first|((first|refine Sg ?_|refine Ni ?_ ?_);conv=>whnf)
   all_goals first|exact Lf
theorem Ba(m:Nat)(vis:List dL):(vis.length<=1000∧∀i,i<vis.length->(vis.getD i default).rows.length<=1000000)->Sc 197 [.d (ay dD 12 vis)] [] (.bW m 12 0 vis.length) [(m,.row 352 12 vis.length (cellOf dD vis))]:=fun h=>(abM vis h).new1 m
theorem LQ(dn:Bool)(k:List UInt8)(todo:List jl)(vis:List dL):(todo.length<=1000∧vis.length<=1000∧∀i,i<vis.length->(vis.getD i default).rows.length<=1000000)->
 Sc 274 [.agg (rX dn k todo vis)] [] (.agg [.d (.int .i64 (sJ dn)),.d (ay dF 4 []),.d (.str k),.d (.int .i64 1),.bW 5000 4 0 todo.length,.bW 5001 12 0 vis.length]) [(5000,.row 74 4 todo.length (cellOf dF todo)),(5001,.row 352 12 vis.length (cellOf dD vis))]:=by
 rintro⟨ht,h⟩
 have h1:=iV dn k
 have h2:=LV 5100 todo Om
 have h3:=Ba 5101 vis h
 refine Si (fn:=Tryz.f274) Tryz.call274 ?_
 conv=>whnf
 repeat' first|((first|refine Ci h1 ?_|refine Ci h2 ?_|refine Ci h3 ?_|refine Sg ?_|refine Ni ?_ ?_);conv=>whnf)|(refine ah (fun _=> ?_) (fun _=> ?_)<;>(conv=>whnf))
 all_goals first|exact Lf|exact trivial|exact aF.refl _|exact aJ.refl _ _ _|exact⟨aB.refl _,trivial⟩
theorem LP(dn:Bool)(k:List UInt8)(todo:List jl)(vis:List dL):(todo.length<=1000∧vis.length<=1000∧∀i,i<vis.length->(vis.getD i default).rows.length<=1000000)->
 Sc 274 [.agg (rX dn k todo vis)] [] (.agg (rX dn k todo vis)) []:=by
 rintro⟨ht,h⟩
 have h1:=iV dn k
 have h2:=LV 5100 todo Om
 have h3:=Ba 5101 vis h
 refine Si (fn:=Tryz.f274) Tryz.call274 ?_
 conv=>whnf
 repeat' first|((first|refine Ci h1 ?_|refine Ci h2 ?_|refine Ci h3 ?_|refine Sg ?_|refine Ni ?_ ?_);conv=>whnf)|(refine ah (fun _=> ?_) (fun _=> ?_)<;>(conv=>whnf))
 all_goals first|exact Lf|exact⟨aB.agg (aI.cons (aB.refl _) (aI.cons (aB.refl _) (aI.cons (aB.refl _) (aI.cons (aB.refl _) (aI.cons (bn rfl) (aI.cons (bn rfl) aI.nil)))))),trivial⟩
theorem Ez{vis:List dL}(h:(aS vis).length<=1000000): ∀i,i<vis.length->(vis.getD i default).rows.length<=1000000:=fun i hi=>by
 have h1:=uK hi
 have h2:=Ae (vis:=vis) (i:=i+1)
 rw[h1,List.length_append]at h2
 omega
theorem acH{k:List UInt8}{r:jl}{vis:List dL}{own:Int}{lk:List UInt8}{lt:Bool}{hk:List UInt8}{ht:Bool}{se sv:Int}{rows:List Row}:
 (((vis.length<=900∧(aS vis).length<=1000000)∧eX ([r],vis)=false)∧Cm own lk lt hk ht se sv rows∧fitsV false ⟨own,lk,lt,hk,ht,se,sv,rows⟩ r=true)->
 Sc 370 [.agg (rX false k [r] vis),.agg (oW own lk lt hk ht se sv rows)] [] (.cO [.agg (rX false k (iT false ([r],vis) ⟨own,lk,lt,hk,ht,se,sv,rows⟩).1 (iT false ([r],vis) ⟨own,lk,lt,hk,ht,se,sv,rows⟩).2),.d (.int .i64 0)]) []:=by
 rintro⟨⟨h,hd⟩,hv,hf⟩
 have h1:=F6 false k r vis ⟨⟨Om,h.2⟩,hd⟩
 have h2:=qW hv
 have h3:=ni false k
 have h4:=(LQ false k [r] vis ⟨by simp,Om,Ez h.2⟩)
 have hlen:=hv.len
 have hf2:decide (aV lk lt r.1 r.2.1<=0)=true∧decide (0<aV hk ht r.1 r.2.1)=true:=by
  simpa[fitsV]using hf
 have f1:decide (aV lk lt r.1 r.2.1>0)=false:=by have:=hf2.1;simp at this⊢;omega
 have f2:decide (aV hk ht r.1 r.2.1<=0)=false:=by have:=hf2.2;simp at this⊢;omega
 refine Si (fn:=Tryz.f370) Tryz.call370 ?_
 conv=>whnf
 repeat' first|((first|refine Ci h1 ?_|refine Ci h2 ?_|refine Ci h3 ?_|refine Ci h4 ?_|refine Ci (b_ _ _ _ _) ?_|refine Ci (AL _ _ _ _ _ _ _ _) ?_|refine Cf (kV rows _ _ _ _) ?_ ?_|refine Ci (fC _ _ _ _) ?_|refine Sr ?_|refine Sg ?_|refine Ni ?_ ?_);conv=>whnf)|(refine ah (fun _=> ?_) (fun _=> ?_)<;>(conv=>whnf))
 all_goals try simp only[cR,Vz,bR,Yq,List.length_singleton,Option.getD,Nat.zero_add]
 all_goals first
  |exact Lf|exact⟨trivial,Om,Om⟩|exact⟨rfl,Om,Om⟩|exact⟨Om,Om⟩|exact⟨by decide,by decide,by decide⟩|exact⟨by decide,by decide⟩|exact⟨trivial,by decide,by decide⟩
  |(rename_i hh
    have hh2:aK (uM false ⟨own,lk,lt,hk,ht,se,sv,rows⟩ r)=true:=hh
    rw[Ja,yE hh2]
    dsimp only
    refine⟨zW (aF.rows (by decide) (.of_eq fun i j hi hj=>by simp at hi)) (YE (x:=lg ⟨own,lk,lt,hk,ht,se,sv,rows⟩ r) (IX (aF.refl _) (aF.refl _) (aF.refl _) (aF.refl _) (aF.refl _) (aF.refl _) (aF.refl _) (aF.refl _) (aF.refl _) (aF.refl _) (aF.refl _) (aF.refl _))),trivial⟩)
  |(rename_i hh
    have hh2:aK (uM false ⟨own,lk,lt,hk,ht,se,sv,rows⟩ r)=false:=hh
    rw[Ja,lM hh2]
    dsimp only
    refine⟨zW (aF.rows (by rfl) (row_of (F5 rfl rfl rfl rfl))) (YE (x:=lg ⟨own,lk,lt,hk,ht,se,sv,rows⟩ r) (IX (aF.refl _) (aF.refl _) (aF.refl _) (aF.refl _) (aF.refl _) (aF.refl _) (aF.refl _) (aF.refl _) (aF.refl _) (aF.refl _) (aF.refl _) (aF.refl _))),trivial⟩)
  |skip
theorem acI{k:List UInt8}{r:jl}{vis:List dL}{own:Int}{lk:List UInt8}{lt:Bool}{hk:List UInt8}{ht:Bool}{se sv:Int}{rows:List Row}:
 (((vis.length<=900∧(aS vis).length<=1000000)∧eX ([r],vis)=false)∧Cm own lk lt hk ht se sv rows∧fitsV true ⟨own,lk,lt,hk,ht,se,sv,rows⟩ r=true)->
 Sc 370 [.agg (rX true k [r] vis),.agg (oW own lk lt hk ht se sv rows)] [] (.cO [.agg (rX true k (iT true ([r],vis) ⟨own,lk,lt,hk,ht,se,sv,rows⟩).1 (iT true ([r],vis) ⟨own,lk,lt,hk,ht,se,sv,rows⟩).2),.d (.int .i64 0)]) []:=by
 rintro⟨⟨h,hd⟩,hv,hf⟩
 have h1:=F6 true k r vis ⟨⟨Om,h.2⟩,hd⟩
 have h2:=qW hv
 have h3:=ni true k
 have h4:=(LQ true k [r] vis ⟨by simp,Om,Ez h.2⟩)
 have hlen:=hv.len
 have hf2:=hf
 simp[fitsV]at hf2
 have f1:decide (aV hk ht r.2.2.1 r.2.2.2<0)=false:=by have:=hf2;simp;omega
 have f2:decide (aV lk lt r.2.2.1 r.2.2.2>=0)=false:=by have:=hf2;simp;omega
 refine Si (fn:=Tryz.f370) Tryz.call370 ?_
 conv=>whnf
 repeat' first|((first|refine Ci h1 ?_|refine Ci h2 ?_|refine Ci h3 ?_|refine Ci h4 ?_|refine Ci (b_ _ _ _ _) ?_|refine Ci (AL _ _ _ _ _ _ _ _) ?_|refine Cf (kV rows _ _ _ _) ?_ ?_|refine Ci (fC _ _ _ _) ?_|refine Sr ?_|refine Sg ?_|refine Ni ?_ ?_);conv=>whnf)|(refine ah (fun _=> ?_) (fun _=> ?_)<;>(conv=>whnf))
 all_goals try simp only[cR,Vz,bR,Yq,List.length_singleton,Option.getD,Nat.zero_add]
 all_goals first
  |decide
  |exact Lf|exact⟨trivial,Om,Om⟩|exact⟨rfl,Om,Om⟩|exact⟨Om,Om⟩|exact⟨by decide,by decide,by decide⟩|exact⟨by decide,by decide⟩|exact⟨trivial,by decide,by decide⟩
  |(rename_i hh
    have hh2:aK (uM true ⟨own,lk,lt,hk,ht,se,sv,rows⟩ r)=true:=hh
    rw[Jb,yE hh2]
    dsimp only
    refine⟨zW (aF.rows (by decide) (.of_eq fun i j hi hj=>by simp at hi)) (Eh (x:=lg ⟨own,lk,lt,hk,ht,se,sv,rows⟩ r) (IX (aF.refl _) (aF.refl _) (aF.refl _) (aF.refl _) (aF.refl _) (aF.refl _) (aF.refl _) (aF.refl _) (aF.refl _) (aF.refl _) (aF.refl _) (aF.refl _))),trivial⟩)
  |(rename_i hh
    have hh2:aK (uM true ⟨own,lk,lt,hk,ht,se,sv,rows⟩ r)=false:=hh
    rw[Jb,lM hh2]
    dsimp only
    refine⟨zW (aF.rows (by rfl) (row_of (F5 rfl rfl rfl rfl))) (Eh (x:=lg ⟨own,lk,lt,hk,ht,se,sv,rows⟩ r) (IX (aF.refl _) (aF.refl _) (aF.refl _) (aF.refl _) (aF.refl _) (aF.refl _) (aF.refl _) (aF.refl _) (aF.refl _) (aF.refl _) (aF.refl _) (aF.refl _))),trivial⟩)
  |skip
theorem aat{dn:Bool}{k:List UInt8}{r:jl}{vis:List dL}{own:Int}{lk:List UInt8}{lt:Bool}{hk:List UInt8}{ht:Bool}{se sv:Int}{rows:List Row}:
 (((vis.length<=900∧(aS vis).length<=1000000)∧eX ([r],vis)=false)∧Cm own lk lt hk ht se sv rows∧fitsV dn ⟨own,lk,lt,hk,ht,se,sv,rows⟩ r=false)->
 Sc 370 [.agg (rX dn k [r] vis),.agg (oW own lk lt hk ht se sv rows)] [] (.cO [.agg aci,.d (.int .i64 12)]) []:=by
 rintro⟨⟨h,hd⟩,hv,hf⟩
 have h1:=F6 dn k r vis ⟨⟨Om,h.2⟩,hd⟩
 have h2:=qW hv
 have h3:=ni dn k
 have hlen:=hv.len
 have hf2:=hf
 cases dn
 ·simp[fitsV]at hf2
  refine Si (fn:=Tryz.f370) Tryz.call370 ?_
  conv=>whnf
  repeat' first|((first|refine Ci h1 ?_|refine Ci h2 ?_|refine Ci h3 ?_|refine Ci (b_ _ _ _ _) ?_|refine Sr ?_|refine Sg ?_|refine Ni ?_ ?_);conv=>whnf)|(refine ah (fun _=> ?_) (fun _=> ?_)<;>(conv=>whnf))
  all_goals first
   |exact Lf|exact⟨aN rfl,trivial⟩|exact⟨aB.of_eq rfl,trivial⟩
   |(exfalso;rename_i a b;simp at a b;omega)
   |skip
 ·simp[fitsV]at hf2
  refine Si (fn:=Tryz.f370) Tryz.call370 ?_
  conv=>whnf
  repeat' first|((first|refine Ci h1 ?_|refine Ci h2 ?_|refine Ci h3 ?_|refine Ci (b_ _ _ _ _) ?_|refine Sr ?_|refine Sg ?_|refine Ni ?_ ?_);conv=>whnf)|(refine ah (fun _=> ?_) (fun _=> ?_)<;>(conv=>whnf))
  all_goals first
   |exact Lf|exact⟨aN rfl,trivial⟩|exact⟨aB.of_eq rfl,trivial⟩
   |(exfalso;rename_i a b;simp at a b;omega)
   |skip
def dI(dn:Bool)(k:List UInt8)(s:nR):List D:=[.int .i64 (sJ dn),ay dF 4 [],.str k,.int .i64 1,ay dF 4 s.1,ay dD 12 s.2]
abbrev mV(dn:Bool)(k:List UInt8)(cu:D)(f s:nR)(t:Bool):List SV:=[.d (.int .i64 (sJ dn)),.d (ay dF 4 []),.d (.str k),.d (.int .i64 1),.d cu,.d (ay (dI dn k) 6 [f]),.d (ay (dI dn k) 6 [s]),.d (.bool t)]
abbrev sD(f s:nR)(t:Bool):nR:=if t then s else f
theorem cWk:Tryz.prog.cellsOf 264=6:=Kq
theorem yP(dn:Bool)(k:List UInt8)(cu:D)(f s:nR)(t:Bool):Sc 146 [.agg (mV dn k cu f s t)] [] (.d (ay (dI dn k) 6 [sD f s t])) []:=by
 cases t
 ·refine Si (fn:=Tryz.f146) Tryz.call146 ?_
  conv=>whnf
  repeat' first|((first|refine Sr ?_|refine Sg ?_|refine Ni ?_ ?_);conv=>whnf)|(refine ah (fun _=> ?_) (fun _=> ?_)<;>(conv=>whnf))
  all_goals first|exact Lf|exact⟨aB.of_eq rfl,trivial⟩
 ·refine Si (fn:=Tryz.f146) Tryz.call146 ?_
  conv=>whnf
  repeat' first|((first|refine Sr ?_|refine Sg ?_|refine Ni ?_ ?_);conv=>whnf)|(refine ah (fun _=> ?_) (fun _=> ?_)<;>(conv=>whnf))
  all_goals first|exact Lf|exact⟨aB.of_eq rfl,trivial⟩
theorem J9(dn:Bool)(k:List UInt8)(cu:D)(f s:nR)(t:Bool):Sc 369 [.agg (mV dn k cu f s t)] [] (.d (ay (dI dn k) 6 [sD f s t])) []:=by
 cases t
 ·refine Si (fn:=Tryz.f369) Tryz.call369 ?_
  conv=>whnf
  repeat' first|((first|refine Sr ?_|refine Sg ?_|refine Ni ?_ ?_);conv=>whnf)|(refine ah (fun _=> ?_) (fun _=> ?_)<;>(conv=>whnf))
  all_goals first|exact Lf|exact⟨aB.of_eq rfl,trivial⟩
 ·refine Si (fn:=Tryz.f369) Tryz.call369 ?_
  conv=>whnf
  repeat' first|((first|refine Sr ?_|refine Sg ?_|refine Ni ?_ ?_);conv=>whnf)|(refine ah (fun _=> ?_) (fun _=> ?_)<;>(conv=>whnf))
  all_goals first|exact Lf|exact⟨aB.of_eq rfl,trivial⟩
theorem VG:Tryz.prog.bytesOf 264=104:=Kq
theorem lt6{p:Nat->Prop}(h0:p 0)(h1:p 1)(h2:p 2)(h3:p 3)(h4:p 4)(h5:p 5): ∀j,j<6->p j:=fun j hj=>match j,hj with
 |0,_=>h0
 |1,_=>h1
 |2,_=>h2
 |3,_=>h3
 |4,_=>h4
 |5,_=>h5
theorem MW(dn:Bool)(k:List UInt8)(cu:D)(f s:nR)(t:Bool)(r:jl)(vis:List dL)(hp:sD f s t=([r],vis)):((vis.length<=1000∧(aS vis).length<=1000000)∧eX ([r],vis)=false)->
 Sc 75 [.agg (mV dn k cu f s t),.d (.int .i64 0)] [] (.cO [aaI r,.d (.bool true)]) []:=by
 intro h
 have h1:=yP dn k cu f s t
 rw[hp]at h1
 have h2:=Bo dn k r vis h
 refine Si (fn:=Tryz.f75) Tryz.call75 ?_
 conv=>whnf
 repeat' first|((first|refine Ci h1 ?_|refine Ci h2 ?_|refine Sr ?_|refine Sg ?_|refine Ni ?_ ?_);conv=>whnf)|(refine ah (fun _=> ?_) (fun _=> ?_)<;>(conv=>whnf))
 all_goals first
  |exact Lf|exact⟨aB.of_eq rfl,trivial⟩
  |decide
  |exact⟨Int.le_refl _,by show(0:Int)<((1:Nat):Int);decide⟩
abbrev I_:List SV:=[.d (.int .i64 0),.d (.val (.slice none 0 0)),.d (.str []),.d (.int .i64 0),.d (.val (.slice none 0 0)),.d (.val (.slice none 0 0)),.d (.val (.slice none 0 0)),.d (.bool false)]
theorem PX{dn:Bool}{k:List UInt8}{cu:D}{f s:nR}{t:Bool}{r:jl}{vis:List dL}(hp:sD f s t=([r],vis)){own:Int}{lk:List UInt8}{lt:Bool}{hk:List UInt8}{ht:Bool}{se sv:Int}{rows:List Row}:
 (((vis.length<=900∧(aS vis).length<=1000000)∧eX ([r],vis)=false)∧Cm own lk lt hk ht se sv rows∧fitsV dn ⟨own,lk,lt,hk,ht,se,sv,rows⟩ r=true)->
 Sc 77 [.agg (mV dn k cu f s t),.d (.int .i64 0),.agg (oW own lk lt hk ht se sv rows)] []
  (.cO [.agg (mV dn k cu (if t then f else iT dn ([r],vis) ⟨own,lk,lt,hk,ht,se,sv,rows⟩) (if t then iT dn ([r],vis) ⟨own,lk,lt,hk,ht,se,sv,rows⟩else s) t),.d (.int .i64 0)]) []:=by
 intro h
 have h1:=yP dn k cu f s t
 rw[hp]at h1
 have h2:Sc 149 [.agg (rX dn k [r] vis),.agg (oW own lk lt hk ht se sv rows)] [] (.cO [.agg (rX dn k (iT dn ([r],vis) ⟨own,lk,lt,hk,ht,se,sv,rows⟩).1 (iT dn ([r],vis) ⟨own,lk,lt,hk,ht,se,sv,rows⟩).2),.d (.int .i64 0)]) []:=by
  cases dn
  ·exact acF h
  ·exact acG h
 generalize iT dn ([r],vis) ⟨own,lk,lt,hk,ht,se,sv,rows⟩=z at h2⊢
 obtain⟨z1,z2⟩:=z
 cases t
 ·refine Si (fn:=Tryz.f77) Tryz.call77 ?_
  conv=>whnf
  repeat' first|((first|refine Ci h1 ?_|refine Ci h2 ?_|refine Sr ?_|refine Sg ?_|refine Ni ?_ ?_);conv=>whnf)|(refine ah (fun _=> ?_) (fun _=> ?_)<;>(conv=>whnf))
  all_goals try simp only[cWk,VG,List.length_singleton]
  all_goals first
   |exact Lf|exact⟨aB.of_eq rfl,trivial⟩
   |decide
   |exact⟨Int.le_refl _,by show(0:Int)<((1:Nat):Int);decide⟩|exact⟨by decide,by decide⟩
   |(show(0:Nat)<1;decide)
   |exact⟨aB.cO (aI.cons (aB.agg (aI.cons (aB.refl _) (aI.cons (aB.refl _) (aI.cons (aB.refl _) (aI.cons (aB.refl _) (aI.cons (aB.refl _) (aI.cons (aB.d (aF.rows rfl (row_one (x:=(z1,z2)) (enc:=dI dn k) (lt6 (aF.refl _) (aF.refl _) (aF.refl _) (aF.refl _) (aF.refl _) (aF.refl _))))) (aI.cons (aB.d (aF.refl _)) (aI.cons (aB.refl _) aI.nil))))))))) (aI.refl _)),trivial⟩
   |skip
 ·refine Si (fn:=Tryz.f77) Tryz.call77 ?_
  conv=>whnf
  repeat' first|((first|refine Ci h1 ?_|refine Ci h2 ?_|refine Sr ?_|refine Sg ?_|refine Ni ?_ ?_);conv=>whnf)|(refine ah (fun _=> ?_) (fun _=> ?_)<;>(conv=>whnf))
  all_goals try simp only[cWk,VG,List.length_singleton]
  all_goals first
   |exact Lf|exact⟨aB.of_eq rfl,trivial⟩
   |decide
   |exact⟨Int.le_refl _,by show(0:Int)<((1:Nat):Int);decide⟩|exact⟨by decide,by decide⟩
   |(show(0:Nat)<1;decide)
   |exact⟨aB.cO (aI.cons (aB.agg (aI.cons (aB.refl _) (aI.cons (aB.refl _) (aI.cons (aB.refl _) (aI.cons (aB.refl _) (aI.cons (aB.refl _) (aI.cons (aB.d (aF.refl _)) (aI.cons (aB.d (aF.rows rfl (row_one (x:=(z1,z2)) (enc:=dI dn k) (lt6 (aF.refl _) (aF.refl _) (aF.refl _) (aF.refl _) (aF.refl _) (aF.refl _))))) (aI.cons (aB.refl _) aI.nil))))))))) (aI.refl _)),trivial⟩
   |skip
theorem Nb{dn:Bool}{k:List UInt8}{cu:D}{f s:nR}{t:Bool}{r:jl}{vis:List dL}(hp:sD f s t=([r],vis)){own:Int}{lk:List UInt8}{lt:Bool}{hk:List UInt8}{ht:Bool}{se sv:Int}{rows:List Row}:
 (((vis.length<=900∧(aS vis).length<=1000000)∧eX ([r],vis)=false)∧Cm own lk lt hk ht se sv rows∧fitsV dn ⟨own,lk,lt,hk,ht,se,sv,rows⟩ r=false)->
 Sc 77 [.agg (mV dn k cu f s t),.d (.int .i64 0),.agg (oW own lk lt hk ht se sv rows)] [] (.cO [.agg I_,.d (.int .i64 12)]) []:=by
 intro h
 have h1:=yP dn k cu f s t
 rw[hp]at h1
 have h2:=aas (k:=k) h
 refine Si (fn:=Tryz.f77) Tryz.call77 ?_
 conv=>whnf
 repeat' first|((first|refine Ci h1 ?_|refine Ci h2 ?_|refine Sr ?_|refine Sg ?_|refine Ni ?_ ?_);conv=>whnf)|(refine ah (fun _=> ?_) (fun _=> ?_)<;>(conv=>whnf))
 all_goals try simp only[cWk,VG,List.length_singleton]
 all_goals first
  |exact Lf|exact⟨aB.of_eq rfl,trivial⟩
  |decide
  |exact⟨Int.le_refl _,by show(0:Int)<((1:Nat):Int);decide⟩|exact⟨by decide,by decide⟩
  |skip
theorem afx(dn:Bool)(k:List UInt8)(s:nR):(s.2.length<=1000∧(aS s.2).length<=1000000)->Sc 151 [.d (ay (dI dn k) 6 [s])] [] (.d (.bool (eX s))) []:=by
 intro h
 obtain⟨td,vs⟩:=s
 have h1:=DU dn k td vs h
 cases hd:eX (td,vs)
 ·rw[hd]at h1
  refine Si (fn:=Tryz.f151) Tryz.call151 ?_
  conv=>whnf
  repeat' first|((first|refine Ci h1 ?_|refine Sr ?_|refine aU 2 ?_|refine Sg ?_|refine Ni ?_ ?_);conv=>whnf)
  all_goals first
   |exact Lf|exact⟨aB.of_eq rfl,trivial⟩
   |decide
   |exact⟨Int.le_refl _,by show(0:Int)<((1:Nat):Int);decide⟩
   |skip
 ·rw[hd]at h1
  refine Si (fn:=Tryz.f151) Tryz.call151 ?_
  conv=>whnf
  repeat' first|((first|refine Ci h1 ?_|refine Sr ?_|refine aU 2 ?_|refine Sg ?_|refine Ni ?_ ?_);conv=>whnf)
  all_goals first
   |exact Lf|exact⟨aB.of_eq rfl,trivial⟩
   |decide
   |exact⟨Int.le_refl _,by show(0:Int)<((1:Nat):Int);decide⟩
   |skip
theorem LC(dn:Bool)(k:List UInt8)(cu:D)(f s:nR)(t:Bool):(s.2.length<=1000∧(aS s.2).length<=1000000)->Sc 80 [.agg (mV dn k cu f s t)] [] (.d (.bool (t&&eX s))) []:=by
 intro h
 have h1:=afx dn k s h
 cases t
 ·refine Si (fn:=Tryz.f80) Tryz.call80 ?_
  conv=>whnf
  repeat' first|((first|refine Ci h1 ?_|refine Sr ?_|refine Sg ?_|refine Ni ?_ ?_);conv=>whnf)|(refine ah (fun _=> ?_) (fun _=> ?_)<;>(conv=>whnf))
  all_goals first
   |exact Lf|exact⟨aB.of_eq rfl,trivial⟩
   |skip
 ·refine Si (fn:=Tryz.f80) Tryz.call80 ?_
  conv=>whnf
  repeat' first|((first|refine Ci h1 ?_|refine Sr ?_|refine Sg ?_|refine Ni ?_ ?_);conv=>whnf)|(refine ah (fun _=> ?_) (fun _=> ?_)<;>(conv=>whnf))
  all_goals first
   |exact Lf|exact⟨aB.of_eq rfl,trivial⟩
   |skip
theorem VK(dn:Bool)(k:List UInt8)(s:nR):(s.2.length<=1000∧(aS s.2).length<=1000000)->Sc 312 [.d (ay (dI dn k) 6 [s])] [] (.d (.bool (eX s))) []:=by
 intro h
 obtain⟨td,vs⟩:=s
 have h1:=DV dn k td vs h
 cases hd:eX (td,vs)
 ·rw[hd]at h1
  refine Si (fn:=Tryz.f312) Tryz.call312 ?_
  conv=>whnf
  repeat' first|((first|refine Ci h1 ?_|refine Sr ?_|refine aU 2 ?_|refine Sg ?_|refine Ni ?_ ?_);conv=>whnf)
  all_goals first
   |exact Lf|exact⟨aB.of_eq rfl,trivial⟩
   |decide
   |exact⟨Int.le_refl _,by show(0:Int)<((1:Nat):Int);decide⟩
   |skip
 ·rw[hd]at h1
  refine Si (fn:=Tryz.f312) Tryz.call312 ?_
  conv=>whnf
  repeat' first|((first|refine Ci h1 ?_|refine Sr ?_|refine aU 2 ?_|refine Sg ?_|refine Ni ?_ ?_);conv=>whnf)
  all_goals first
   |exact Lf|exact⟨aB.of_eq rfl,trivial⟩
   |decide
   |exact⟨Int.le_refl _,by show(0:Int)<((1:Nat):Int);decide⟩
   |skip
theorem X4(dn:Bool)(k:List UInt8)(cu:D)(f s:nR)(t:Bool):(s.2.length<=1000∧(aS s.2).length<=1000000)->Sc 314 [.agg (mV dn k cu f s t)] [] (.d (.bool (t&&eX s))) []:=by
 intro h
 have h1:=VK dn k s h
 cases t
 ·refine Si (fn:=Tryz.f314) Tryz.call314 ?_
  conv=>whnf
  repeat' first|((first|refine Ci h1 ?_|refine Sr ?_|refine Sg ?_|refine Ni ?_ ?_);conv=>whnf)|(refine ah (fun _=> ?_) (fun _=> ?_)<;>(conv=>whnf))
  all_goals first
   |exact Lf|exact⟨aB.of_eq rfl,trivial⟩
   |skip
 ·refine Si (fn:=Tryz.f314) Tryz.call314 ?_
  conv=>whnf
  repeat' first|((first|refine Ci h1 ?_|refine Sr ?_|refine Sg ?_|refine Ni ?_ ?_);conv=>whnf)|(refine ah (fun _=> ?_) (fun _=> ?_)<;>(conv=>whnf))
  all_goals first
   |exact Lf|exact⟨aB.of_eq rfl,trivial⟩
   |skip
theorem abL(dn:Bool)(k:List UInt8)(s:nR):Sc 273 [.d (ay (dI dn k) 6 [s])] [] (.bW 1000 6 0 1) [(1000,.row 264 6 1 (cellOf (dI dn k) [s]))]:=by
 refine Si (fn:=Tryz.f273) Tryz.call273 ?_
 conv=>whnf
 repeat' first|((first|refine Sg ?_|refine Ni ?_ ?_);conv=>whnf)|(refine ah (fun _=> ?_) (fun _=> ?_)<;>(conv=>whnf))
 all_goals try simp only[cWk,VG,List.length_singleton,true_and,and_true]at*
 all_goals first
  |exact trivial|omega
  |decide
  |exact aF.refl _|exact aJ.refl _ _ _|exact⟨by decide,by decide⟩
theorem Vl(dn:Bool)(k:List UInt8)(td:List jl)(vs:List dL):(td.length<=1000∧vs.length<=1000∧(aS vs).length<=1000000)->Sc 196 [.d (ay (dI dn k) 6 [(td,vs)])] [] (.bW 3000 6 0 1) [(3000,.row 264 6 1 (cellOf (dI dn k) [(td,vs)]))]:=by
 rintro⟨ht,hv,hr⟩
 have h1:=(abL dn k (td,vs)).new1 2000
 have h2:=LP dn k td vs ⟨ht,hv,Ez hr⟩
 refine Si (fn:=Tryz.f196) Tryz.call196 ?_
 conv=>whnf
 repeat' first|((first|refine Ci h1 ?_|refine Ci h2 ?_|refine Sr ?_|refine aU 2 ?_|refine Sg ?_|refine Ni ?_ ?_);conv=>whnf)
 all_goals try simp only[cWk,VG,List.length_singleton]
 all_goals first
  |exact Lf|exact trivial|exact aF.refl _
  |decide
  |exact⟨Int.le_refl _,by show(0:Int)<((1:Nat):Int);decide⟩|exact aJ.refl _ _ _|exact row_one (x:=(td,vs)) (enc:=dI dn k) (lt6 (aF.refl _) (aF.refl _) (aF.refl _) (aF.refl _) (aF.refl _) (aF.refl _))
  |skip
theorem wY(m:Nat)(dn:Bool)(k:List UInt8)(s:nR):(s.1.length<=1000∧s.2.length<=1000∧(aS s.2).length<=1000000)->Sc 196 [.d (ay (dI dn k) 6 [s])] [] (.bW m 6 0 1) [(m,.row 264 6 1 (cellOf (dI dn k) [s]))]:=fun h=>(Vl dn k s.1 s.2 h).new1 m
theorem cBnd:Tryz.prog.cellsOf 58=2:=Kq
theorem bBnd:Tryz.prog.bytesOf 58=24:=Kq
theorem qy(xs:List dQ):xs.length<=1000000->Sc 195 [.d (ay dH 2 xs)] [] (.d (ay dH 2 xs)) []:=by
 intro hl
 refine Si (fn:=Tryz.f195) Tryz.call195 ?_
 conv=>whnf
 repeat' first|((first|refine Sg ?_|refine Ni ?_ ?_);conv=>whnf)|(refine ah (fun _=> ?_) (fun _=> ?_)<;>(conv=>whnf))
 all_goals try simp only[cBnd,bBnd,true_and,and_true]at*
 all_goals first|omega|exact⟨Om,Om⟩|exact⟨bn rfl,trivial⟩
abbrev zy(s:nR):Prop:=s.1.length<=1000∧s.2.length<=900∧(aS s.2).length<=1000000
theorem V6(dn:Bool)(k:List UInt8)(cu:List dQ)(f s:nR)(t:Bool):(cu.length<=1000∧zy f∧zy s)->Sc 313 [.agg (mV dn k (ay dH 2 cu) f s t)] []
 (.agg [.d (.int .i64 (sJ dn)),.d (ay dF 4 []),.d (.str k),.d (.int .i64 1),.d (ay dH 2 cu),.bW 5000 6 0 1,.bW 5001 6 0 1,.d (.bool t)])
 [(5000,.row 264 6 1 (cellOf (dI dn k) [f])),(5001,.row 264 6 1 (cellOf (dI dn k) [s]))]:=by
 rintro⟨hc,hf,hs⟩
 have h1:=iV dn k
 have h2:=qy cu Om
 have h3:=wY 5100 dn k f ⟨hf.1,by have:=hf.2.1;omega,hf.2.2⟩
 have h4:=wY 5101 dn k s ⟨hs.1,by have:=hs.2.1;omega,hs.2.2⟩
 refine Si (fn:=Tryz.f313) Tryz.call313 ?_
 conv=>whnf
 repeat' first|((first|refine Ci h1 ?_|refine Ci h2 ?_|refine Ci h3 ?_|refine Ci h4 ?_|refine Sg ?_|refine Ni ?_ ?_);conv=>whnf)|(refine ah (fun _=> ?_) (fun _=> ?_)<;>(conv=>whnf))
 all_goals first
  |exact Lf|exact trivial|exact aF.refl _|exact aJ.refl _ _ _|exact⟨aB.refl _,trivial⟩
  |skip
abbrev pthO(dn:Bool)(k:List UInt8)(cu:D)(a b:Nat)(t:Bool):List SV:=[.d (.int .i64 (sJ dn)),.d (ay dF 4 []),.d (.str k),.d (.int .i64 1),.d cu,.bW a 6 0 1,.bW b 6 0 1,.d (.bool t)]
theorem adi(dn:Bool)(k:List UInt8)(cu:D)(f s:nR)(t:Bool):Sc 369 [.agg (pthO dn k cu 5000 5001 t)] [(5000,.row 264 6 1 (cellOf (dI dn k) [f])),(5001,.row 264 6 1 (cellOf (dI dn k) [s]))]
 (.bW (if t then 5001 else 5000) 6 0 1) [(5000,.row 264 6 1 (cellOf (dI dn k) [f])),(5001,.row 264 6 1 (cellOf (dI dn k) [s]))]:=by
 cases t
 ·refine Si (fn:=Tryz.f369) Tryz.call369 ?_
  conv=>whnf
  repeat' first|((first|refine Sr ?_|refine Sg ?_|refine Ni ?_ ?_);conv=>whnf)|(refine ah (fun _=> ?_) (fun _=> ?_)<;>(conv=>whnf))
  all_goals first
   |exact Lf|exact trivial|exact aF.refl _|exact aJ.refl _ _ _
   |skip
 ·refine Si (fn:=Tryz.f369) Tryz.call369 ?_
  conv=>whnf
  repeat' first|((first|refine Sr ?_|refine Sg ?_|refine Ni ?_ ?_);conv=>whnf)|(refine ah (fun _=> ?_) (fun _=> ?_)<;>(conv=>whnf))
  all_goals first
   |exact Lf|exact trivial|exact aF.refl _|exact aJ.refl _ _ _
   |skip
end Go.Proofs.YtgdgkekpfmhbbaaGreatDoor
