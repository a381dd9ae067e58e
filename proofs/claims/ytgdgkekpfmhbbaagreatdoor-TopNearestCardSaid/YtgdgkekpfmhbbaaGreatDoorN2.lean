/- Contracts of functions that the law reaches: YtgdgkekpfmhbbaaGreatDoorN2. Written for this claim. -/
import Derived.Test.YtgdgkekpfmhbbaaGreatDoorInter
namespace Go.Proofs.YtgdgkekpfmhbbaaGreatDoor
open Go Go.Sx Go.ChangeShapes Go.WideShapes Go.ChangeAt Go.RowKit
set_option linter.unusedVariables false
set_option linter.unusedSimpArgs false
set_option maxRecDepth 100000
theorem cR:Tryz.prog.cellsOf 74=4:=Kq
theorem bR:Tryz.prog.bytesOf 74=48:=Kq
theorem row_of{g:Nat->Nat->D}{r:jl}(h: ∀j,j<4->g 0 j=(dF r).getD j default):aJ 1 4 g (cellOf dF [r]):= .of_eq fun i j hi hj=>by
 have:i=0:=Om
 subst this
 exact h j hj
theorem F5{p:Nat->Prop}(h0:p 0)(h1:p 1)(h2:p 2)(h3:p 3): ∀j,j<4->p j:=fun j hj=>match j,hj with
 |0,_=>h0
 |1,_=>h1
 |2,_=>h2
 |3,_=>h3
theorem Wj{lk:List UInt8}{lt:Bool}{hk:List UInt8}{ht:Bool}(h:eH lk lt hk ht=true):Sc 340 [.d (ay dF 4 [(lk,lt,hk,ht)])] [] (.d (ay dF 4 [])) []:=by
 have he:=f_ lk lt hk ht
 rw[h]at he
 refine Si (fn:=Tryz.f340) Tryz.call340 ?_
 conv=>whnf
 repeat' first|((first|refine Ci he ?_|refine Sr ?_|refine aU 2 ?_|refine Sg ?_|refine Ni ?_ ?_);conv=>whnf)
 all_goals
  first
   |exact Lf|exact⟨aN rfl,trivial⟩|exact⟨rfl,cR,rfl⟩|exact⟨cR,rfl,rfl⟩|exact⟨by rw[bR];decide,by decide⟩|exact⟨by decide,by decide⟩
   |(simp;done)
   |(simp;decide)
   |exact row_of (F5 rfl rfl rfl rfl)|exact⟨aB.of_eq rfl,trivial⟩
   |decide
theorem Wi{lk:List UInt8}{lt:Bool}{hk:List UInt8}{ht:Bool}(h:eH lk lt hk ht=false):Sc 340 [.d (ay dF 4 [(lk,lt,hk,ht)])] [] (.bW 2000 4 0 1) [(2000,.row 74 4 1 (cellOf dF [(lk,lt,hk,ht)]))]:=by
 have he:=f_ lk lt hk ht
 rw[h]at he
 refine Si (fn:=Tryz.f340) Tryz.call340 ?_
 conv=>whnf
 repeat' first|((first|refine Ci he ?_|refine Sr ?_|refine aU 2 ?_|refine Sg ?_|refine Ni ?_ ?_);conv=>whnf)
 all_goals
  first
   |exact Lf|exact⟨aN rfl,trivial⟩|exact⟨rfl,cR,rfl⟩|exact⟨cR,rfl,rfl⟩|exact⟨by rw[bR];decide,by decide⟩|exact⟨by decide,by decide⟩
   |(simp;done)
   |(simp;decide)
   |exact row_of (F5 rfl rfl rfl rfl)|exact⟨aB.of_eq rfl,trivial⟩
   |decide
theorem abN(r:jl):Sc 424 [.d (.nl 1 4 (cellOf dF [r]))] [] (.bW 2000 4 0 1) [(2000,.row 74 4 1 (cellOf dF [r]))]:=by
 refine Si (fn:=Tryz.f424) Tryz.call424 ?_
 conv=>whnf
 repeat' first|((first|refine Sr ?_|refine Sg ?_|refine Ni ?_ ?_);conv=>whnf)
 all_goals
  first
   |exact Lf|exact⟨aN rfl,trivial⟩|exact⟨rfl,cR,rfl⟩|exact⟨cR,rfl,rfl⟩|exact⟨by rw[bR];decide,by decide⟩|exact⟨by decide,by decide⟩
   |(simp;done)
   |(simp;decide)
   |exact row_of (F5 rfl rfl rfl rfl)|exact⟨aB.of_eq rfl,trivial⟩
   |decide
theorem OO{lk:List UInt8}{lt:Bool}{hk:List UInt8}{ht:Bool}:Sc 429 [.d (ay dF 4 [(lk,lt,hk,ht)]),.clo 61 []] [] (.d (.int .i64 (if eH lk lt hk ht then 0 else-1))) []:=by
 have he:=fC lk lt hk ht
 cases h:eH lk lt hk ht
 all_goals
  rw[h]at he
  refine Si (fn:=Tryz.f429) Tryz.call429 ?_
  conv=>whnf
  repeat' first|((first|refine Ci he ?_|refine Sr ?_|refine aU 2 ?_|refine Sg ?_|refine Ni ?_ ?_);conv=>whnf)
 all_goals
  first
   |exact Lf|exact⟨aN rfl,trivial⟩|exact⟨rfl,cR,rfl⟩|exact⟨cR,rfl,rfl⟩|exact⟨by rw[bR];decide,by decide⟩|exact⟨by decide,by decide⟩
   |(simp;done)
   |(simp;decide)
   |exact row_of (F5 rfl rfl rfl rfl)|exact⟨aB.of_eq rfl,trivial⟩
   |decide
theorem akQ{lk:List UInt8}{lt:Bool}{hk:List UInt8}{ht:Bool}(h:eH lk lt hk ht=false):Sc 423 [.bW 1000 4 0 1,.clo 61 []] [(1000,.row 74 4 1 (cellOf dF [(lk,lt,hk,ht)]))] (.bW 1000 4 0 1) [(1000,.row 74 4 1 (cellOf dF [(lk,lt,hk,ht)]))]:=by
 have hx:=OO (lk:=lk) (lt:=lt) (hk:=hk) (ht:=ht)
 rw[h]at hx
 have hx:=hx.arg (show aI [.d (.list 1 4 fun i j=>cellOf dF [(lk,lt,hk,ht)] (0+i) j),.clo 61 []] _ from aI.cons (aB.d (aF.rows rfl row_zero)) (aI.refl _))
 simp only[Bool.false_eq_true,if_false,if_true]at hx
 refine Si (fn:=Tryz.f423) Tryz.call423 ?_
 conv=>whnf
 repeat' first|((first|refine Ci hx ?_|refine Sr ?_|refine aU 2 ?_|refine Sg ?_|refine Ni ?_ ?_);conv=>whnf)
 all_goals
  first
   |exact Lf|exact⟨aN rfl,trivial⟩|exact⟨rfl,cR,rfl⟩|exact⟨cR,rfl,rfl⟩|exact⟨by rw[bR];decide,by decide⟩|exact⟨by decide,by decide⟩
   |(simp;done)
   |(simp;decide)
   |exact row_of (F5 rfl rfl rfl rfl)|exact⟨aB.of_eq rfl,trivial⟩
   |decide
theorem akP{lk:List UInt8}{lt:Bool}{hk:List UInt8}{ht:Bool}(h:eH lk lt hk ht=true): ∃g,Sc 423 [.bW 1000 4 0 1,.clo 61 []] [(1000,.row 74 4 1 (cellOf dF [(lk,lt,hk,ht)]))] (.bW 1000 4 0 0) [(1000,.row 74 4 1 g)]:=by
 have hx:=OO (lk:=lk) (lt:=lt) (hk:=hk) (ht:=ht)
 rw[h]at hx
 have hx:=hx.arg (show aI [.d (.list 1 4 fun i j=>cellOf dF [(lk,lt,hk,ht)] (0+i) j),.clo 61 []] _ from aI.cons (aB.d (aF.rows rfl row_zero)) (aI.refl _))
 simp only[Bool.false_eq_true,if_false,if_true]at hx
 refine⟨?_,?_⟩
 rotate_left
 ·refine Si (fn:=Tryz.f423) Tryz.call423 ?_
  conv=>whnf
  repeat' first|((first|refine Ci hx ?_|refine Sr ?_|refine aU 1 ?_|refine Sg ?_|refine Ni ?_ ?_);conv=>whnf)
  all_goals
   first
    |exact Lf|exact⟨aN rfl,trivial⟩|exact⟨rfl,cR,rfl⟩|exact⟨cR,rfl,rfl⟩|exact⟨by rw[bR];decide,by decide⟩|exact⟨by decide,by decide⟩
    |(simp;done)
    |(simp;decide)
    |exact row_of (F5 rfl rfl rfl rfl)|exact⟨aB.of_eq rfl,trivial⟩
    |decide
theorem akk{n:Nat}{g:Nat->Nat->D}(h:n<=1):Sc 432 [.bW 1000 4 0 n,.d (.int .i64 0),.d (.int .i64 n),.clo 426 []] [(1000,.row 74 4 1 g)] (.cO []) [(1000,.row 74 4 1 g)]:=by
 rcases(show n=0∨n=1 by omega)with rfl|rfl
 all_goals
  refine Si (fn:=Tryz.f432) Tryz.call432 ?_
  conv=>whnf
  repeat' first|((first|refine Sr ?_|refine aU 1 ?_|refine Sg ?_|refine Ni ?_ ?_);conv=>whnf)
 all_goals
  first
   |exact Lf|exact⟨aN rfl,trivial⟩|exact⟨rfl,cR,rfl⟩|exact⟨cR,rfl,rfl⟩|exact⟨by rw[bR];decide,by decide⟩|exact⟨by decide,by decide⟩
   |(simp;done)
   |(simp;decide)
   |exact row_of (F5 rfl rfl rfl rfl)|exact⟨aB.of_eq rfl,trivial⟩
   |decide
theorem aj8{n:Nat}{g:Nat->Nat->D}{lim:Int}(h:n<=1):Sc 430 [.bW 1000 4 0 n,.d (.int .i64 0),.d (.int .i64 n),.d (.int .i64 lim),.clo 426 []] [(1000,.row 74 4 1 g)] (.cO []) [(1000,.row 74 4 1 g)]:=by
 have hi:=akk (n:=n) (g:=g) h
 rcases(show n=0∨n=1 by omega)with rfl|rfl
 all_goals
  refine Si (fn:=Tryz.f430) Tryz.call430 ?_
  conv=>whnf
  repeat' first|((first|refine Ci hi ?_|refine Sr ?_|refine aU 1 ?_|refine Sg ?_|refine Ni ?_ ?_);conv=>whnf)
 all_goals
  first
   |exact Lf|exact⟨aN rfl,trivial⟩|exact⟨rfl,cR,rfl⟩|exact⟨cR,rfl,rfl⟩|exact⟨by rw[bR];decide,by decide⟩|exact⟨by decide,by decide⟩
   |(simp;done)
   |(simp;decide)
   |exact row_of (F5 rfl rfl rfl rfl)|exact⟨aB.of_eq rfl,trivial⟩
   |decide
theorem Xn{n:Nat}(h:n<=1):Sc 118 [.d (.int .u64 n)] [] (.d (.int .i64 n)) []:=by
 rcases(show n=0∨n=1 by omega)with rfl|rfl
 all_goals
  refine Si (fn:=Tryz.f118) Tryz.call118 ?_
  conv=>whnf
  repeat' first|((first|refine Sr ?_|refine Sg ?_|refine Ni ?_ ?_);conv=>whnf)
 all_goals
  first
   |exact Lf|exact⟨aN rfl,trivial⟩|exact⟨rfl,cR,rfl⟩|exact⟨cR,rfl,rfl⟩|exact⟨by rw[bR];decide,by decide⟩|exact⟨by decide,by decide⟩
   |(simp;done)
   |(simp;decide)
   |exact row_of (F5 rfl rfl rfl rfl)|exact⟨aB.of_eq rfl,trivial⟩
   |decide
theorem ad9{n:Nat}(h:n<=1):Sc 60 [.d (.int .u64 n)] [] (.d (.int .i64 n)) []:=by
 have hl:=Xn h
 refine Si (fn:=Tryz.f60) Tryz.call60 ?_
 conv=>whnf
 repeat' first|((first|refine Ci hl ?_|refine Sr ?_|refine Sg ?_|refine Ni ?_ ?_);conv=>whnf)
 all_goals
  first
   |exact Lf|exact⟨aN rfl,trivial⟩|exact⟨rfl,cR,rfl⟩|exact⟨cR,rfl,rfl⟩|exact⟨by rw[bR];decide,by decide⟩|exact⟨by decide,by decide⟩
   |(simp;done)
   |(simp;decide)
   |exact row_of (F5 rfl rfl rfl rfl)|exact⟨aB.of_eq rfl,trivial⟩
   |decide
theorem acT{n:Nat}{g:Nat->Nat->D}(h:n<=1):Sc 425 [.bW 1000 4 0 n,.clo 426 []] [(1000,.row 74 4 1 g)] (.cO []) [(1000,.row 74 4 1 g)]:=by
 have hp:=aj8 (n:=n) (g:=g) (lim:=n) h
 have hl:=ad9 h
 rcases(show n=0∨n=1 by omega)with rfl|rfl
 all_goals
  refine Si (fn:=Tryz.f425) Tryz.call425 ?_
  conv=>whnf
  repeat' first|((first|refine Ci hl ?_|refine Ci hp ?_|refine Sr ?_|refine Sg ?_|refine Ni ?_ ?_);conv=>whnf)
 all_goals
  first
   |exact Lf|exact⟨aN rfl,trivial⟩|exact⟨rfl,cR,rfl⟩|exact⟨cR,rfl,rfl⟩|exact⟨by rw[bR];decide,by decide⟩|exact⟨by decide,by decide⟩
   |(simp;done)
   |(simp;decide)
   |exact row_of (F5 rfl rfl rfl rfl)|exact⟨aB.of_eq rfl,trivial⟩
   |decide
theorem Pg{r:jl}{g:Nat->Nat->D}(hg:aJ 1 4 g (cellOf dF [r])):Sc 424 [.d (.list 1 4 g)] [] (.bW 2000 4 0 1) [(2000,.row 74 4 1 (cellOf dF [r]))]:=
 (Spec.ZK (fun h=>Om) (abN r)).arg (aI.cons (aB.d (aF.rows rfl hg)) aI.nil)
theorem Wp{lk:List UInt8}{lt:Bool}{hk:List UInt8}{ht:Bool}(h:eH lk lt hk ht=true){g:Nat->Nat->D}(hg:aJ 1 4 g (cellOf dF [(lk,lt,hk,ht)])):Sc 405 [.d (.list 1 4 g)] [] (.d (ay dF 4 [])) []:=by
 have hc:=Pg hg
 obtain⟨g2,hd⟩:=akP h
 have hd:=hd.at 2000
 have hs:=(acT (n:=0) (g:=g2) Om).at 2000
 refine Si (fn:=Tryz.f405) Tryz.call405 ?_
 conv=>whnf
 repeat' first|((first|refine Ci hc ?_|refine Ci hd ?_|refine Ci hs ?_|refine Sr ?_|refine aU 1 ?_|refine Sg ?_|refine Ni ?_ ?_);conv=>whnf)
 all_goals
  first
   |exact Lf|exact⟨aN rfl,trivial⟩|exact⟨rfl,cR,rfl⟩|exact⟨cR,rfl,rfl⟩|exact⟨by rw[bR];decide,by decide⟩|exact⟨by decide,by decide⟩
   |(simp;done)
   |(simp;decide)
   |exact row_of (F5 rfl rfl rfl rfl)|exact⟨aB.of_eq rfl,trivial⟩
   |decide
theorem Wn{lk:List UInt8}{lt:Bool}{hk:List UInt8}{ht:Bool}(h:eH lk lt hk ht=false){g:Nat->Nat->D}(hg:aJ 1 4 g (cellOf dF [(lk,lt,hk,ht)])):Sc 405 [.d (.list 1 4 g)] [] (.bW 3000 4 0 1) [(3000,.row 74 4 1 (cellOf dF [(lk,lt,hk,ht)]))]:=by
 have hc:=Pg hg
 have hd:=(akQ h).at 2000
 have hs:=(acT (n:=1) (g:=cellOf dF [(lk,lt,hk,ht)]) Om).at 2000
 refine Si (fn:=Tryz.f405) Tryz.call405 ?_
 conv=>whnf
 repeat' first|((first|refine Ci hc ?_|refine Ci hd ?_|refine Ci hs ?_|refine Sr ?_|refine aU 2 ?_|refine Sg ?_|refine Ni ?_ ?_);conv=>whnf)
 all_goals
  first
   |exact Lf|exact⟨aN rfl,trivial⟩|exact⟨rfl,cR,rfl⟩|exact⟨cR,rfl,rfl⟩|exact⟨by rw[bR];decide,by decide⟩|exact⟨by decide,by decide⟩
   |(simp;done)
   |(simp;decide)
   |exact row_of (F5 rfl rfl rfl rfl)|exact⟨aB.of_eq rfl,trivial⟩
   |decide
def eU(dn:Bool)(k:List UInt8):jl:=if dn then([],false,k,false)else(k,false,[],true)
theorem RX{r:jl}{g:Nat->Nat->D}:aJ 1 4 g (cellOf dF [r])->Sc 340 [.d (.list 1 4 g)] [] (.d (ay dF 4 (iF r))) []:=fun hg=>by
 obtain⟨lk,lt,hk,ht⟩:=r
 have hle:aI [.d (.list 1 4 g)] [.d (ay dF 4 [(lk,lt,hk,ht)])]:=aI.cons (aB.d (aF.rows rfl hg)) aI.nil
 unfold iF
 cases h:aK (lk,lt,hk,ht)with
 |true=>exact(Wj h).arg hle
 |false=>exact((Wi h).Nu).arg hle
theorem RY{r:jl}{g:Nat->Nat->D}:aJ 1 4 g (cellOf dF [r])->Sc 405 [.d (.list 1 4 g)] [] (.d (ay dF 4 (iF r))) []:=fun hg=>by
 obtain⟨lk,lt,hk,ht⟩:=r
 unfold iF
 cases h:aK (lk,lt,hk,ht)with
 |true=>exact Wp h hg
 |false=>exact((Wn h hg).new1 2000).Nu
theorem uf(dn:Bool)(k:List UInt8):(k.length:Int)<=64->Sc 254 [.agg (kR dn k)] [] (.d (ay dF 4 (iF (eU dn k)))) []:=by
 intro hk
 have hc:=qA dn k hk
 cases dn
 ·refine Si (fn:=Tryz.f254) Tryz.call254 ?_
  conv=>whnf
  repeat' first|((first|refine Ci hc ?_|refine iD (RX (r:=eU false k)) Fl (Ni ?_ ?_)|refine Sr ?_|refine Sg ?_|refine Ni ?_ ?_);conv=>whnf)
  all_goals
   first
    |exact Lf|exact⟨aN rfl,trivial⟩|exact⟨rfl,cR,rfl⟩|exact⟨cR,rfl,rfl⟩|exact⟨by rw[bR];decide,by decide⟩|exact⟨by decide,by decide⟩
    |(simp;done)
    |(simp;decide)
    |exact row_of (F5 rfl rfl rfl rfl)|exact⟨aB.of_eq rfl,trivial⟩
    |decide
 ·refine Si (fn:=Tryz.f254) Tryz.call254 ?_
  conv=>whnf
  repeat' first|((first|refine Ci hc ?_|refine iD (RX (r:=eU true k)) Fl (Ni ?_ ?_)|refine Sr ?_|refine Sg ?_|refine Ni ?_ ?_);conv=>whnf)
  all_goals
   first
    |exact Lf|exact⟨aN rfl,trivial⟩|exact⟨rfl,cR,rfl⟩|exact⟨cR,rfl,rfl⟩|exact⟨by rw[bR];decide,by decide⟩|exact⟨by decide,by decide⟩
    |(simp;done)
    |(simp;decide)
    |exact row_of (F5 rfl rfl rfl rfl)|exact⟨aB.of_eq rfl,trivial⟩
    |decide
theorem adS(k:List UInt8):Sc 421 [.agg (kR true k)] [] (.d (.list 1 4 (cellOf dF [eU true k]))) []:=by
 refine Si (fn:=Tryz.f421) Tryz.call421 ?_
 conv=>whnf
 repeat' first|((first|refine Sr ?_|refine Sg ?_|refine Ni ?_ ?_);conv=>whnf)
 all_goals
  exact⟨aB.d (by rw[cR];exact aF.rows rfl (row_of (F5 rfl rfl rfl rfl))),trivial⟩
theorem adT(k:List UInt8):Sc 420 [.agg (kR false k)] [] (.d (.list 1 4 (cellOf dF [eU false k]))) []:=by
 refine Si (fn:=Tryz.f420) Tryz.call420 ?_
 conv=>whnf
 repeat' first|((first|refine Sr ?_|refine Sg ?_|refine Ni ?_ ?_);conv=>whnf)
 all_goals
  exact⟨aB.d (by rw[cR];exact aF.rows rfl (row_of (F5 rfl rfl rfl rfl))),trivial⟩
theorem lD(dn:Bool)(k:List UInt8):(k.length:Int)<=64->Sc 374 [.agg (kR dn k)] [] (.d (ay dF 4 (iF (eU dn k)))) []:=by
 intro hk
 have hc:=kX dn k hk
 cases dn
 ·refine Si (fn:=Tryz.f374) Tryz.call374 ?_
  conv=>whnf
  repeat' first|((first|refine Ci hc ?_|refine Ci QG ?_|refine Ci (adT k) ?_|refine iD (RY (r:=eU false k)) Fl (Ni ?_ ?_)|refine Sr ?_|refine Sg ?_|refine Ni ?_ ?_);conv=>whnf)
  all_goals
   first
    |exact Lf|exact⟨aN rfl,trivial⟩|exact⟨rfl,cR,rfl⟩|exact⟨cR,rfl,rfl⟩|exact⟨by rw[bR];decide,by decide⟩|exact⟨by decide,by decide⟩
    |(simp;done)
    |(simp;decide)
    |exact row_of (F5 rfl rfl rfl rfl)|exact⟨aB.of_eq rfl,trivial⟩
    |decide
 ·refine Si (fn:=Tryz.f374) Tryz.call374 ?_
  conv=>whnf
  repeat' first|((first|refine Ci hc ?_|refine Ci QG ?_|refine Ci (adS k) ?_|refine iD (RY (r:=eU true k)) Fl (Ni ?_ ?_)|refine Sr ?_|refine Sg ?_|refine Ni ?_ ?_);conv=>whnf)
  all_goals
   first
    |exact Lf|exact⟨aN rfl,trivial⟩|exact⟨rfl,cR,rfl⟩|exact⟨cR,rfl,rfl⟩|exact⟨by rw[bR];decide,by decide⟩|exact⟨by decide,by decide⟩
    |(simp;done)
    |(simp;decide)
    |exact row_of (F5 rfl rfl rfl rfl)|exact⟨aB.of_eq rfl,trivial⟩
    |decide
abbrev rX(dn:Bool)(k:List UInt8)(todo:List jl)(vis:List dL):List SV:=[.d (.int .i64 (sJ dn)),.d (ay dF 4 []),.d (.str k),.d (.int .i64 1),.d (ay dF 4 todo),.d (ay dD 12 vis)]
theorem uK{vis:List dL}{i:Nat}(h:i<vis.length):aS (vis.take (i+1))=aS (vis.take i)++(vis.getD i default).rows:=by
 have e:vis.take (i+1)=vis.take i++[vis.getD i default]:=by
  rw[List.take_add_one];simp[List.getD,List.getElem?_eq_getElem h]
 rw[e]
 simp[aS,List.flatMap_append]
theorem Ae{vis:List dL}{i:Nat}:(aS (vis.take i)).length<=(aS vis).length:=by
 have:aS vis=aS (vis.take i)++aS (vis.drop i):=by rw[aS,aS,aS,<-List.flatMap_append,List.take_append_drop]
 rw[this,List.length_append];omega
theorem zn:Tryz.prog.cellsOf 54=2:=Kq
theorem Yr:Tryz.prog.bytesOf 54=32:=Kq
theorem H_(q1 q2 q3 q4 q5:D)(vis:List dL):(vis.length<=1000∧(aS vis).length<=1000000)->Sc 368 [.agg [.d q1,.d q2,.d q3,.d q4,.d q5,.d (ay dD 12 vis)]] [] (.d (ay bF 2 (aS vis))) []:=by
 rintro⟨hv,hr⟩
 refine Si (fn:=Tryz.f368) Tryz.call368 ?_
 conv=>whnf
 repeat' first|((first|refine Sg ?_|refine Ni ?_ ?_);conv=>whnf)
 refine aA [7,8] [] (fun i:Nat=>[(9,.d (.int .i64 i)),(3,if i=0 then .d (.val (.slice none 0 0))else .bW 3000 2 0 (aS (vis.take i)).length)]) (fun i=>if i=0 then []else [(3000,.row 54 2 (aS (vis.take i)).length (cellOf bF (aS (vis.take i))))])
  (fun i=>i<=vis.length) (fun i=>vis.length-i) 0 ?_ (fun i hi=> ?_) (Nat.zero_le _)
 ·conv=>whnf
  repeat' first|((first|refine Sg ?_|refine Ni ?_ ?_);conv=>whnf)|(refine ah (fun _=> ?_) (fun _=> ?_)<;>(conv=>whnf))
  all_goals try first|exact Lq
 ·have hrl:=Ae (vis:=vis) (i:=i)
  have hrl2:=Ae (vis:=vis) (i:=i+1)
  rcases Nat.eq_zero_or_pos i with h0|h0
  ·subst h0
   simp only[if_true]
   conv=>whnf
   refine ah (fun hlt=> ?_) (fun hlt=> ?_)
   ·have hlt0:0<vis.length:=by simpa using hlt
    have hs:=uK hlt0
    have he:aS (vis.take 0)=[]:=rfl
    rw[he,List.nil_append]at hs
    rw[hs]at hrl2
    conv=>whnf
    repeat' first|((first|refine aG.mk 1 ?_ ?_ ?_|refine Sg ?_|refine Ni ?_ ?_);conv=>whnf)
    all_goals try simp only[Int.toNat_natCast,show((0:Nat):Int).toNat=0 from rfl,hs,Yr]
    all_goals first|exact Lf|exact⟨rfl,zn,rfl⟩|exact⟨zn,rfl,rfl⟩|exact⟨trivial,zn,trivial⟩|exact⟨zn,trivial,trivial⟩|exact⟨Om,Om⟩
   ·have hlt0:vis.length<=0:=by simpa using hlt
    obtain rfl:vis=[]:=List.eq_nil_of_length_eq_zero Om
    conv=>whnf
    repeat' first|((first|refine Sg ?_|refine Ni ?_ ?_);conv=>whnf)
    exact⟨aN rfl,trivial⟩
  ·have hne: ¬i=0:=Om
   simp only[if_neg hne]
   conv=>whnf
   refine ah (fun hlt=> ?_) (fun hlt=> ?_)
   ·have hlt0:i<vis.length:=by simpa using hlt
    have hs:=uK hlt0
    rw[hs,List.length_append]at hrl2
    have hw1:IntKind.i64.wrap ((i:Int)+1)=((i+1:Nat):Int):=wrap_succ (n:=1000) Om Om
    conv=>whnf
    repeat' first|((first|refine aG.mk (i+1) ?_ ?_ ?_|refine Sg ?_|refine Ni ?_ ?_);conv=>whnf)
    all_goals try simp only[Int.toNat_natCast,hs,Yr,hw1,List.length_append]
    all_goals first|exact Lf|exact⟨rfl,zn,rfl⟩|exact⟨zn,rfl,rfl⟩|exact⟨trivial,zn,trivial⟩|exact⟨zn,trivial,trivial⟩|exact⟨Om,Om⟩|exact⟨trivial,Om,Om⟩|exact yJ rfl (aJ.refl _ _ _) (aJ.refl _ _ _)
   ·have hlt0:vis.length<=i:=by simpa using hlt
    have he:vis.take i=vis:=List.take_of_length_le hlt0
    conv=>whnf
    repeat' first|((first|refine Sg ?_|refine Ni ?_ ?_);conv=>whnf)
    rw[he]
    exact⟨bn rfl,trivial⟩
theorem WJ(dn:Bool)(k:List UInt8)(todo:List jl)(vis:List dL)(h:vis.length<=1000∧(aS vis).length<=1000000):Sc 368 [.agg (rX dn k todo vis)] [] (.d (ay bF 2 (aS vis))) []:=H_ _ _ _ _ _ vis h
theorem oG(vis:List dL):(vis.length<=1000∧(aS vis).length<=1000000)->Sc 156 [.d (ay dD 12 vis)] [] (.d (ay bF 2 (aS vis))) []:=by
 rintro⟨hv,hr⟩
 refine Si (fn:=Tryz.f156) Tryz.call156 ?_
 conv=>whnf
 repeat' first|((first|refine Sg ?_|refine Ni ?_ ?_);conv=>whnf)
 refine aA [6,7] [] (fun i:Nat=>[(8,.d (.int .i64 i)),(3,if i=0 then .d (.val (.slice none 0 0))else .bW 3000 2 0 (aS (vis.take i)).length)]) (fun i=>if i=0 then []else [(3000,.row 54 2 (aS (vis.take i)).length (cellOf bF (aS (vis.take i))))])
  (fun i=>i<=vis.length) (fun i=>vis.length-i) 0 ?_ (fun i hi=> ?_) (Nat.zero_le _)
 ·conv=>whnf
  repeat' first|((first|refine Sg ?_|refine Ni ?_ ?_);conv=>whnf)|(refine ah (fun _=> ?_) (fun _=> ?_)<;>(conv=>whnf))
  all_goals try first|exact Lq
 ·have hrl:=Ae (vis:=vis) (i:=i)
  have hrl2:=Ae (vis:=vis) (i:=i+1)
  rcases Nat.eq_zero_or_pos i with h0|h0
  ·subst h0
   simp only[if_true]
   conv=>whnf
   refine ah (fun hlt=> ?_) (fun hlt=> ?_)
   ·have hlt0:0<vis.length:=by simpa using hlt
    have hs:=uK hlt0
    have he:aS (vis.take 0)=[]:=rfl
    rw[he,List.nil_append]at hs
    rw[hs]at hrl2
    conv=>whnf
    repeat' first|((first|refine aG.mk 1 ?_ ?_ ?_|refine Sg ?_|refine Ni ?_ ?_);conv=>whnf)
    all_goals try simp only[Int.toNat_natCast,show((0:Nat):Int).toNat=0 from rfl,hs,Yr]
    all_goals first|exact Lf|exact⟨rfl,zn,rfl⟩|exact⟨zn,rfl,rfl⟩|exact⟨trivial,zn,trivial⟩|exact⟨zn,trivial,trivial⟩|exact⟨Om,Om⟩
   ·have hlt0:vis.length<=0:=by simpa using hlt
    obtain rfl:vis=[]:=List.eq_nil_of_length_eq_zero Om
    conv=>whnf
    repeat' first|((first|refine Sg ?_|refine Ni ?_ ?_);conv=>whnf)
    exact⟨aN rfl,trivial⟩
  ·have hne: ¬i=0:=Om
   simp only[if_neg hne]
   conv=>whnf
   refine ah (fun hlt=> ?_) (fun hlt=> ?_)
   ·have hlt0:i<vis.length:=by simpa using hlt
    have hs:=uK hlt0
    rw[hs,List.length_append]at hrl2
    have hw1:IntKind.i64.wrap ((i:Int)+1)=((i+1:Nat):Int):=wrap_succ (n:=1000) Om Om
    conv=>whnf
    repeat' first|((first|refine aG.mk (i+1) ?_ ?_ ?_|refine Sg ?_|refine Ni ?_ ?_);conv=>whnf)
    all_goals try simp only[Int.toNat_natCast,hs,Yr,hw1,List.length_append]
    all_goals first|exact Lf|exact⟨rfl,zn,rfl⟩|exact⟨zn,rfl,rfl⟩|exact⟨trivial,zn,trivial⟩|exact⟨zn,trivial,trivial⟩|exact⟨Om,Om⟩|exact⟨trivial,Om,Om⟩|exact yJ rfl (aJ.refl _ _ _) (aJ.refl _ _ _)
   ·have hlt0:vis.length<=i:=by simpa using hlt
    have he:vis.take i=vis:=List.take_of_length_le hlt0
    conv=>whnf
    repeat' first|((first|refine Sg ?_|refine Ni ?_ ?_);conv=>whnf)
    rw[he]
    exact⟨bn rfl,trivial⟩
theorem DV(dn:Bool)(k:List UInt8)(todo:List jl)(vis:List dL):(vis.length<=1000∧(aS vis).length<=1000000)->Sc 309 [.agg (rX dn k todo vis)] [] (.d (.bool (eX (todo,vis)))) []:=by
 intro h
 have hr:=WJ dn k todo vis h
 have he:=qw dn k (aS vis).length
 refine Si (fn:=Tryz.f309) Tryz.call309 ?_
 conv=>whnf
 repeat' first|((first|refine Ci hr ?_|refine Ci he ?_|refine Sg ?_|refine Ni ?_ ?_);conv=>whnf)|(refine ah (fun _=> ?_) (fun _=> ?_)<;>(conv=>whnf))
 all_goals
  refine⟨aB.of_eq ?_,trivial⟩
  congr 2
  unfold eX
  first
   |(have h0:todo=[]:=by simp_all
     subst h0;rfl)
   |(have h0:todo.isEmpty=false:=by cases todo<;>simp_all
     rw[h0,Bool.false_or]
     cases aS vis<;>simp)
theorem DU(dn:Bool)(k:List UInt8)(todo:List jl)(vis:List dL):(vis.length<=1000∧(aS vis).length<=1000000)->Sc 246 [.agg (rX dn k todo vis)] [] (.d (.bool (eX (todo,vis)))) []:=by
 intro h
 have hr:=oG vis h
 have he:=qp dn k (aS vis).length
 refine Si (fn:=Tryz.f246) Tryz.call246 ?_
 conv=>whnf
 repeat' first|((first|refine Ci hr ?_|refine Ci he ?_|refine Sg ?_|refine Ni ?_ ?_);conv=>whnf)|(refine ah (fun _=> ?_) (fun _=> ?_)<;>(conv=>whnf))
 all_goals
  refine⟨aB.of_eq ?_,trivial⟩
  congr 2
  unfold eX
  first
   |(have h0:todo=[]:=by simp_all
     subst h0;rfl)
   |(have h0:todo.isEmpty=false:=by cases todo<;>simp_all
     rw[h0,Bool.false_or]
     cases aS vis<;>simp)
theorem ug(a b:jl):Sc 373 [.agg [.d (.str a.1),.d (.bool a.2.1),.d (.str a.2.2.1),.d (.bool a.2.2.2)],.agg [.d (.str b.1),.d (.bool b.2.1),.d (.str b.2.2.1),.d (.bool b.2.2.2)]] [] (.d (.bool (!(aK a)&&(decide (aV a.1 a.2.1 b.1 b.2.1<=0)&&decide (aV b.2.2.1 b.2.2.2 a.2.2.1 a.2.2.2<=0))))) []:=by
 refine Si (fn:=Tryz.f373) Tryz.call373 ?_
 conv=>whnf
 repeat' first|((first|refine Ci (fC _ _ _ _) ?_|refine Ci (b_ _ _ _ _) ?_|refine Sg ?_|refine Ni ?_ ?_);conv=>whnf)|(refine ah (fun _=> ?_) (fun _=> ?_)<;>(conv=>whnf))
 all_goals
  refine⟨aB.of_eq ?_,trivial⟩
  simp_all[aK]
  try (intros;omega)
theorem yY(a b:jl):Sc 252 [.agg [.d (.str a.1),.d (.bool a.2.1),.d (.str a.2.2.1),.d (.bool a.2.2.2)],.agg [.d (.str b.1),.d (.bool b.2.1),.d (.str b.2.2.1),.d (.bool b.2.2.2)]] [] (.d (.bool (decide (aV b.1 b.2.1 a.1 a.2.1<=0)&&(decide (aV a.2.2.1 a.2.2.2 b.2.2.1 b.2.2.2<=0)&& !(aK b))))) []:=by
 refine Si (fn:=Tryz.f252) Tryz.call252 ?_
 conv=>whnf
 repeat' first|((first|refine Ci (f_ _ _ _ _) ?_|refine Ci (dG _ _ _ _) ?_|refine Sg ?_|refine Ni ?_ ?_);conv=>whnf)|(refine ah (fun _=> ?_) (fun _=> ?_)<;>(conv=>whnf))
 all_goals
  refine⟨aB.of_eq ?_,trivial⟩
  simp_all[aK]
  try (intros;omega)
abbrev oW(own:Int)(lk:List UInt8)(lt:Bool)(hk:List UInt8)(ht:Bool)(se sv:Int)(rows:List Row):List SV:=[.d (.int .i64 own),.d (.str lk),.d (.bool lt),.d (.str hk),.d (.bool ht),.d (.int .i64 se),.d (.int .i64 sv),.d (ay bF 2 rows)]
structure Cm (own:Int) (lk:List UInt8) (lt:Bool) (hk:List UInt8) (ht:Bool) (se sv:Int) (rows:List Row):Prop where
 num:gQ own=true
 ne:eH lk lt hk ht=false
 st:jP se sv=true
 tab:iI rows=true
 inn:qj (lk,lt,hk,ht) rows=true
theorem Cm.len{own:Int}{lk:List UInt8}{lt:Bool}{hk:List UInt8}{ht:Bool}{se sv:Int}{rows:List Row}(h:Cm own lk lt hk ht se sv rows):rows.length<=1024:=(jf.1 h.tab).len
theorem qV{own:Int}{lk:List UInt8}{lt:Bool}{hk:List UInt8}{ht:Bool}{se sv:Int}{rows:List Row}:Cm own lk lt hk ht se sv rows->Sc 248 [.agg (oW own lk lt hk ht se sv rows)] [] (.d (.bool true)) []:=by
 intro h
 have h1:=Qw own
 have h2:=f_ lk lt hk ht
 have h3:=Nj se sv
 have h4:=pI rows
 have h5:=tY lk lt hk ht rows (by have:=h.len;omega)
 rw[h.num]at h1
 rw[h.ne]at h2
 rw[h.st]at h3
 rw[h.tab]at h4
 rw[show qj (lk,lt,hk,ht) rows=true from h.inn]at h5
 refine Si (fn:=Tryz.f248) Tryz.call248 ?_
 conv=>whnf
 repeat' first|((first|refine Ci h1 ?_|refine Ci h2 ?_|refine Ci h3 ?_|refine Ci h4 ?_|refine Ci h5 ?_|refine Sr ?_|refine Sg ?_|refine Ni ?_ ?_);conv=>whnf)
 all_goals
  first
   |exact Lf|exact⟨aN rfl,trivial⟩|exact⟨rfl,cR,rfl⟩|exact⟨cR,rfl,rfl⟩|exact⟨by rw[bR];decide,by decide⟩|exact⟨by decide,by decide⟩
   |(simp;done)
   |(simp;decide)
   |exact row_of (F5 rfl rfl rfl rfl)|exact⟨aB.of_eq rfl,trivial⟩
   |decide
theorem qW{own:Int}{lk:List UInt8}{lt:Bool}{hk:List UInt8}{ht:Bool}{se sv:Int}{rows:List Row}:Cm own lk lt hk ht se sv rows->Sc 372 [.agg (oW own lk lt hk ht se sv rows)] [] (.d (.bool true)) []:=by
 intro h
 have h2:=fC lk lt hk ht
 have h3:=wL se sv
 have h4:=yC rows
 have h5:=kV rows lk lt hk ht (by have:=h.len;omega)
 have hn:=h.num
 simp only[gQ,Bool.and_eq_true,decide_eq_true_eq]at hn
 have hn1:decide (own>=1)=true:=by simpa using hn.1
 have hn2:decide (own<=2147483647)=true:=by simpa using hn.2
 have hs:iJ rows lk lt hk ht=rows:=by
  unfold iJ
  rw[List.filter_eq_self]
  exact fun x hx=>BN.1 h.inn x hx
 rw[hs]at h5
 have hb:((rows.length:Int)==(rows.length:Int))=true:=beq_self_eq_true _
 rw[h.ne]at h2
 rw[h.st]at h3
 rw[h.tab]at h4
 refine Si (fn:=Tryz.f372) Tryz.call372 ?_
 conv=>whnf
 repeat' first|((first|refine Ci h2 ?_|refine Ci h3 ?_|refine Ci h4 ?_|refine Ci h5 ?_|refine Sr ?_|refine Sg ?_|refine Ni ?_ ?_);conv=>whnf)
 all_goals
  first
   |exact⟨aB.of_eq (by rw[hb]),trivial⟩
   |first
     |exact Lf|exact⟨aN rfl,trivial⟩|exact⟨rfl,cR,rfl⟩|exact⟨cR,rfl,rfl⟩|exact⟨by rw[bR];decide,by decide⟩|exact⟨by decide,by decide⟩
     |(simp;done)
     |(simp;decide)
     |exact row_of (F5 rfl rfl rfl rfl)|exact⟨aB.of_eq rfl,trivial⟩
     |decide
abbrev aaI(r:jl):SV:= .agg [.d (.str r.1),.d (.bool r.2.1),.d (.str r.2.2.1),.d (.bool r.2.2.2)]
theorem F6(dn:Bool)(k:List UInt8)(r:jl)(vis:List dL):((vis.length<=1000∧(aS vis).length<=1000000)∧eX ([r],vis)=false)->Sc 404 [.agg (rX dn k [r] vis)] [] (.cO [aaI r,.d (.bool true)]) []:=by
 rintro⟨h,hd⟩
 have h1:=DV dn k [r] vis h
 rw[hd]at h1
 have h2:=ni dn k
 cases dn
 all_goals
  refine Si (fn:=Tryz.f404) Tryz.call404 ?_
  conv=>whnf
  repeat' first|((first|refine Ci h1 ?_|refine Ci h2 ?_|refine Sr ?_|refine Sg ?_|refine Ni ?_ ?_);conv=>whnf)
 all_goals
  first
   |exact⟨aB.refl _,trivial⟩
   |first
     |exact Lf|exact⟨aN rfl,trivial⟩|exact⟨rfl,cR,rfl⟩|exact⟨cR,rfl,rfl⟩|exact⟨by rw[bR];decide,by decide⟩|exact⟨by decide,by decide⟩
     |(simp;done)
     |(simp;decide)
     |exact row_of (F5 rfl rfl rfl rfl)|exact⟨aB.of_eq rfl,trivial⟩
     |decide
theorem Bo(dn:Bool)(k:List UInt8)(r:jl)(vis:List dL):((vis.length<=1000∧(aS vis).length<=1000000)∧eX ([r],vis)=false)->Sc 147 [.agg (rX dn k [r] vis)] [] (.cO [aaI r,.d (.bool true)]) []:=by
 rintro⟨h,hd⟩
 have h1:=DU dn k [r] vis h
 rw[hd]at h1
 have h2:=ng dn k
 cases dn
 all_goals
  refine Si (fn:=Tryz.f147) Tryz.call147 ?_
  conv=>whnf
  repeat' first|((first|refine Ci h1 ?_|refine Ci h2 ?_|refine Sr ?_|refine Sg ?_|refine Ni ?_ ?_);conv=>whnf)
 all_goals
  first
   |exact⟨aB.refl _,trivial⟩
   |first
     |exact Lf|exact⟨aN rfl,trivial⟩|exact⟨rfl,cR,rfl⟩|exact⟨cR,rfl,rfl⟩|exact⟨by rw[bR];decide,by decide⟩|exact⟨by decide,by decide⟩
     |(simp;done)
     |(simp;decide)
     |exact row_of (F5 rfl rfl rfl rfl)|exact⟨aB.of_eq rfl,trivial⟩
     |decide
theorem acs(dn:Bool)(k:List UInt8)(todo:List jl)(vis:List dL):((vis.length<=1000∧(aS vis).length<=1000000)∧eX (todo,vis)=true)->Sc 147 [.agg (rX dn k todo vis)] [] (.cO [aaI oV,.d (.bool false)]) []:=by
 rintro⟨h,hd⟩
 have h1:=DU dn k todo vis h
 rw[hd]at h1
 refine Si (fn:=Tryz.f147) Tryz.call147 ?_
 conv=>whnf
 repeat' first|((first|refine Ci h1 ?_|refine Sr ?_|refine Sg ?_|refine Ni ?_ ?_);conv=>whnf)
 all_goals
  first
   |exact⟨aB.refl _,trivial⟩
   |first
     |exact Lf|exact⟨aN rfl,trivial⟩|exact⟨rfl,cR,rfl⟩|exact⟨cR,rfl,rfl⟩|exact⟨by rw[bR];decide,by decide⟩|exact⟨by decide,by decide⟩
     |(simp;done)
     |(simp;decide)
     |exact row_of (F5 rfl rfl rfl rfl)|exact⟨aB.of_eq rfl,trivial⟩
     |decide
abbrev aci:List SV:=[.d (.int .i64 0),.d (.val (.slice none 0 0)),.d (.str []),.d (.int .i64 0),.d (.val (.slice none 0 0)),.d (.val (.slice none 0 0))]
theorem Vz:Tryz.prog.cellsOf 352=12:=Kq
theorem Yq:Tryz.prog.bytesOf 352=144:=Kq
theorem IX{p:Nat->Prop}(h0:p 0)(h1:p 1)(h2:p 2)(h3:p 3)(h4:p 4)(h5:p 5)(h6:p 6)(h7:p 7)(h8:p 8)(h9:p 9)(h10:p 10)(h11:p 11): ∀j,j<12->p j:=fun j hj=>match j,hj with
 |0,_=>h0
 |1,_=>h1
 |2,_=>h2
 |3,_=>h3
 |4,_=>h4
 |5,_=>h5
 |6,_=>h6
 |7,_=>h7
 |8,_=>h8
 |9,_=>h9
 |10,_=>h10
 |11,_=>h11
theorem Ja(todo:List jl)(vis:List dL)(r:jl)(v:gV):iT false (r::todo,vis) v=(iF (uM false v r),vis++[lg v r]):=rfl
theorem Jb(todo:List jl)(vis:List dL)(r:jl)(v:gV):iT true (r::todo,vis) v=(iF (uM true v r),lg v r::vis):=rfl
theorem lM{r:jl}(h:aK r=false):iF r=[r]:=by unfold iF;rw[h];rfl
theorem yE{r:jl}(h:aK r=true):iF r=[]:=by unfold iF;rw[h];rfl
theorem afV{vis:List dL}{x:dL}{g2:Nat->Nat->D}(h: ∀j,j<12->aF (g2 0 j) ((dD x).getD j default)):
 aJ (vis.length+1) 12 (fun i j=>if i<vis.length then cellOf dD vis i j else g2 (i-vis.length) j) (cellOf dD (vis++[x])):=
 dN (xs:=vis) (enc:=dD) (x:=x) rfl (aJ.refl _ _ _) h
theorem YE{vis:List dL}{x:dL}{g2:Nat->Nat->D}(h: ∀j,j<12->aF (g2 0 j) ((dD x).getD j default)):
 aF (.list (vis.length+1) 12 fun i j=>if i<vis.length then cellOf dD vis i j else g2 (i-vis.length) j) (ay dD 12 (vis++[x])):=by
 have e:(vis++[x]).length=vis.length+1:=by simp
 unfold ay
 rw[e]
 exact aF.rows rfl (afV h)
theorem zW{a k d:SV}{e:D}{t1 t2 v1 v2:D}(h1:aF t1 t2)(h2:aF v1 v2):aB (.cO [.agg [a,.d e,k,d,.d t1,.d v1],.d (.int .i64 0)]) (.cO [.agg [a,.d e,k,d,.d t2,.d v2],.d (.int .i64 0)]):=
 aB.cO (aI.cons (aB.agg (aI.cons (aB.refl _) (aI.cons (aB.refl _) (aI.cons (aB.refl _) (aI.cons (aB.refl _) (aI.cons (aB.d h1) (aI.cons (aB.d h2) aI.nil))))))) (aI.refl _))
theorem acF{k:List UInt8}{r:jl}{vis:List dL}{own:Int}{lk:List UInt8}{lt:Bool}{hk:List UInt8}{ht:Bool}{se sv:Int}{rows:List Row}:
 (((vis.length<=900∧(aS vis).length<=1000000)∧eX ([r],vis)=false)∧Cm own lk lt hk ht se sv rows∧fitsV false ⟨own,lk,lt,hk,ht,se,sv,rows⟩ r=true)->
 Sc 149 [.agg (rX false k [r] vis),.agg (oW own lk lt hk ht se sv rows)] [] (.cO [.agg (rX false k (iT false ([r],vis) ⟨own,lk,lt,hk,ht,se,sv,rows⟩).1 (iT false ([r],vis) ⟨own,lk,lt,hk,ht,se,sv,rows⟩).2),.d (.int .i64 0)]) []:=by
 rintro⟨⟨h,hd⟩,hv,hf⟩
 have h1:=Bo false k r vis ⟨⟨Om,h.2⟩,hd⟩
 have h2:=qV hv
 have h3:=ng false k
 have hlen:=hv.len
 have hf2:decide (aV lk lt r.1 r.2.1<=0)=true∧decide (0<aV hk ht r.1 r.2.1)=true:=by
  simpa[fitsV]using hf
 have f1:decide (aV lk lt r.1 r.2.1>0)=false:=by have:=hf2.1;simp at this⊢;omega
 have f2:decide (aV hk ht r.1 r.2.1<=0)=false:=by have:=hf2.2;simp at this⊢;omega
 refine Si (fn:=Tryz.f149) Tryz.call149 ?_
 conv=>whnf
 repeat' first|((first|refine Ci h1 ?_|refine Ci h2 ?_|refine Ci h3 ?_|refine Ci (dG _ _ _ _) ?_|refine Ci (Iq _ _ _ _ _ _ _ _) ?_|refine Cf (H6 rows _ _ _ _) ?_ ?_|refine Ci (f_ _ _ _ _) ?_|refine Sr ?_|refine Sg ?_|refine Ni ?_ ?_);conv=>whnf)|(refine ah (fun _=> ?_) (fun _=> ?_)<;>(conv=>whnf))
 all_goals try simp only[cR,Vz,bR,Yq,List.length_singleton,Option.getD,Nat.zero_add]
 all_goals first
  |exact Lf|exact⟨trivial,Om,Om⟩|exact⟨rfl,Om,Om⟩|exact⟨Om,Om⟩
  |skip
 ·rename_i hh
  have hh2:aK (uM false ⟨own,lk,lt,hk,ht,se,sv,rows⟩ r)=false:=by rw[Bool.not_eq_true']at hh;exact hh
  rw[Ja,lM hh2]
  dsimp only
  refine⟨zW (aF.rows (by simp) (row_of (F5 rfl rfl rfl rfl))) (YE (x:=lg ⟨own,lk,lt,hk,ht,se,sv,rows⟩ r) (IX (aF.refl _) (aF.refl _) (aF.refl _) (aF.refl _) (aF.refl _) (aF.refl _) (aF.refl _) (aF.refl _) (aF.refl _) (aF.refl _) (aF.refl _) (aF.refl _))),trivial⟩
 ·rename_i hh
  have hh2:aK (uM false ⟨own,lk,lt,hk,ht,se,sv,rows⟩ r)=true:=by rw[Bool.not_eq_false']at hh;exact hh
  rw[Ja,yE hh2]
  dsimp only
  refine⟨zW (aF.rows (by simp) (.of_eq fun i j hi hj=>by simp at hi)) (YE (x:=lg ⟨own,lk,lt,hk,ht,se,sv,rows⟩ r) (IX (aF.refl _) (aF.refl _) (aF.refl _) (aF.refl _) (aF.refl _) (aF.refl _) (aF.refl _) (aF.refl _) (aF.refl _) (aF.refl _) (aF.refl _) (aF.refl _))),trivial⟩
end Go.Proofs.YtgdgkekpfmhbbaaGreatDoor
