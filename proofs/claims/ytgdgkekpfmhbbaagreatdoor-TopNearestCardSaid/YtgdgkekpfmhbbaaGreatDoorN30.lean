/- Contracts of functions that the law reaches: YtgdgkekpfmhbbaaGreatDoorN30. Written for this claim. -/
import Derived.Test.YtgdgkekpfmhbbaaGreatDoorN28
import Derived.Test.YtgdgkekpfmhbbaaGreatDoorTP13
namespace Go.Proofs.YtgdgkekpfmhbbaaGreatDoor
open Go Go.Sx Go.ChangeShapes Go.WideShapes Go.ChangeAt Go.RowKit
set_option linter.unusedVariables false
set_option linter.unusedSimpArgs false
set_option maxRecDepth 100000
def m_(g:bC):List D:=[.int .i64 g.num,.bool g.opn,ay lY 32 g.mem]
structure AskT where
 dn:Bool
 k:List UInt8
 cu:List dQ
 F:List nR
 S:List nR
 t:Bool
 en:Bool
instance:Inhabited AskT:=⟨⟨false,[],[],[],[],false,false⟩⟩
def oL(a:AskT):List D:=[.int .i64 (sJ a.dn),ay dF 4 [],.str a.k,.int .i64 1,ay dH 2 a.cu,ay (dI a.dn a.k) 6 a.F,ay (dI a.dn a.k) 6 a.S,.bool a.t,.bool a.en]
abbrev vP(a:AskT):List SV:=[.d (.int .i64 (sJ a.dn)),.d (ay dF 4 []),.d (.str a.k),.d (.int .i64 1),.d (ay dH 2 a.cu),.d (ay (dI a.dn a.k) 6 a.F),.d (ay (dI a.dn a.k) 6 a.S),.d (.bool a.t)]
structure NP where
 kd:Int
 n:Int
 dn:Bool
 k:List UInt8
 A:List dL
 B:List dL
instance:Inhabited NP:=⟨⟨0,0,false,[],[],[]⟩⟩
def u_(r:NP):List D:=[.int .i64 r.kd,ay Va 3 [],.str [],.str [],.bool false,.int .i64 r.n,.int .i64 (sJ r.dn),ay dF 4 [],.str r.k,.int .i64 1,ay dD 12 r.A,ay dD 12 r.B]
structure WT where
 ht:Int
 names:List aj
 used:List Int
 VU:Int
 grp:List bC
 Oh:List aO
 asked:List AskT
 rows:List Row
 log:List NP
abbrev dM(w:WT):List SV:=[.d (.int .i64 w.ht),.d (ay aZ 3 w.names),.d (ay encZ 1 w.used),.d (.int .i64 w.VU),.d (ay m_ 3 w.grp),.d (ay lI 5 w.Oh),.d (ay encZ 2 []),.d (ay encZ 9 []),.d (ay oL 9 w.asked),.d (ay bF 2 w.rows),.d (ay u_ 12 w.log)]
abbrev lK(kd node oth idx:Int):List SV:=[.d (.int .i64 kd),.d (.int .i64 node),.d (.int .i64 0),.d (.int .i64 oth),.d (.int .i64 0),.d (.int .i64 idx),.d (.str []),.d (.str []),.d (.str []),.d (.bool false),.d (.int .i64 0),.d (.val (.slice none 0 0)),.d (.str []),.d (.int .i64 0),.d (.val (.slice none 0 0))]
def RI(gs:List bC):Prop:= ∀i,i<gs.length->RG (gs.getD i default)∧yB (zV (gs.getD i default))=true
theorem Bq{v:gV}(h:yB v=true):Cm v.own v.lk v.lt v.hk v.ht v.se v.sv v.rows:=by
 unfold yB jO at h
 simp only[Bool.and_eq_true,Bool.not_eq_true']at h
 exact⟨h.1,h.2.1,h.2.2.1,h.2.2.2.1,h.2.2.2.2⟩
theorem Ef(dn:Bool)(k:List UInt8)(cu:D)(f s:nR)(t:Bool)(hd:eX (sD f s t)=true)(hb:(sD f s t).2.length<=1000∧(aS (sD f s t).2).length<=1000000):
 Sc 75 [.agg (mV dn k cu f s t),.d (.int .i64 0)] [] (.cO [aaI oV,.d (.bool false)]) []:=by
 have h1:=yP dn k cu f s t
 generalize sD f s t=z at*
 obtain⟨td,vs⟩:=z
 have h2:=acs dn k td vs ⟨hb,hd⟩
 refine Si (fn:=Tryz.f75) Tryz.call75 ?_
 conv=>whnf
 repeat' first|((first|refine Ci h1 ?_|refine Ci h2 ?_|refine Sr ?_|refine Sg ?_|refine Ni ?_ ?_);conv=>whnf)|(refine ah (fun _=> ?_) (fun _=> ?_)<;>(conv=>whnf))
 all_goals first
  |exact Lf|exact⟨aB.of_eq rfl,trivial⟩
  |decide
  |exact⟨Int.le_refl _,by show(0:Int)<((1:Nat):Int);decide⟩
  |skip
theorem acC{l:List Int}{a:Nat}(w:WT)(n:Nat){f s:nR}{r:jl}{vis:List dL}(hn:n<w.asked.length)(hF:(w.asked.getD n default).F=[f])(hS:(w.asked.getD n default).S=[s])
 (hp:sD f s (w.asked.getD n default).t=([r],vis)) (hv:(vis.length<=900∧(aS vis).length<=1000000)∧eX ([r],vis)=false)
 (hg:RI w.grp) (hgl:w.grp.length<=1000) {j:Nat} (hj:j<w.grp.length) (h1:fitsV (w.asked.getD n default).dn (zV (w.grp.getD j default)) r=true) (h2: ∀i,i<w.grp.length->i≠j->fitsV (w.asked.getD n default).dn (zV (w.grp.getD i default)) r=false):
 Sc 31 [.ptr 1000 0,.agg (dM w),.d (.int .i64 n)] [(1000,aX l a)] (.agg (lK 26 (zV (w.grp.getD j default)).own 0 n)) [(1000,aX l a)]:=by
 have e1:decide ((n:Int)<0)=false:=decide_eq_false Om
 have e2:decide ((n:Int)>=(w.asked.length:Int))=false:=decide_eq_false Om
 have q1:=MW (w.asked.getD n default).dn (w.asked.getD n default).k (ay dH 2 (w.asked.getD n default).cu) f s (w.asked.getD n default).t r vis hp ⟨Om,hv.2⟩
 unfold mV at q1;rw[<-hF,<-hS]at q1
 have e3:decide ((0:Int)<((w.asked.getD n default).F.length:Int))=true:=by rw[hF];rfl
 refine Si (fn:=Tryz.f31) Tryz.call31 ?_
 conv=>whnf
 repeat' first|((first|refine Sr ?_|refine Sg ?_|refine Ni ?_ ?_);conv=>whnf)
 all_goals try first|exact⟨Om,Om⟩
 refine aU 1 ?_
 conv=>whnf
 repeat' first|((first|refine Ci q1 ?_|refine Sr ?_|refine Sg ?_|refine Ni ?_ ?_);conv=>whnf)
 refine aA [0,2,4,6,7,8,9,10,42,43,44,56,57] [1000,4,6,7,9] (fun i:Nat=>[(58,.d (.int .i64 i))]) (fun i=>[]) (fun i=>i<=j) (fun i=>w.grp.length-i) 0 ?_ (fun i hi=> ?_) (Nat.zero_le _)
 ·conv=>whnf
  repeat' first|((first|refine Sg ?_|refine Ni ?_ ?_);conv=>whnf)|(refine ah (fun _=> ?_) (fun _=> ?_)<;>(conv=>whnf))
  all_goals try first|exact Lq
 ·have hlt:decide ((i:Int)<(w.grp.length:Int))=true:=decide_eq_true Om
  have hw1:IntKind.i64.wrap ((i:Int)+1)=((i+1:Nat):Int):=wrap_succ (n:=1000) Om Om
  obtain⟨g1,g2⟩:=hg i Om
  have q2:=ai_ (w.grp.getD i default) g1
  by_cases hij:i=j
  ·subst hij
   have q3:=PX (k:=(w.asked.getD n default).k) (cu:=ay dH 2 (w.asked.getD n default).cu) hp ⟨hv,Bq g2,h1⟩
   unfold mV at q3;rw[<-hF,<-hS]at q3
   conv=>whnf
   repeat' first|((first|refine Ci q2 ?_|refine Ci q3 ?_|refine Sr ?_|refine aG.mk (i+1) ?_ ?_ ?_|refine Sg ?_|refine Ni ?_ ?_);conv=>whnf)
   all_goals first
    |exact Lf|exact⟨Om,Om⟩|exact⟨aB.refl _,aI.refl _,trivial⟩
    |skip
  ·have q3:=Nb (k:=(w.asked.getD n default).k) (cu:=ay dH 2 (w.asked.getD n default).cu) hp ⟨hv,Bq g2,h2 i Om hij⟩
   unfold mV at q3;rw[<-hF,<-hS]at q3
   conv=>whnf
   repeat' first|((first|refine Ci q2 ?_|refine Ci q3 ?_|refine Sr ?_|refine aG.mk (i+1) ?_ ?_ ?_|refine Sg ?_|refine Ni ?_ ?_);conv=>whnf)
   all_goals first
    |exact Lf|exact aF.of_eq (by rw[hw1])|exact⟨Om,Om⟩|exact⟨aB.refl _,aI.refl _,trivial⟩
    |skip
theorem acD{l:List Int}{a:Nat}(w:WT)(n:Nat){f s:nR}(hn:n<w.asked.length)(hF:(w.asked.getD n default).F=[f])(hS:(w.asked.getD n default).S=[s])
 (ht:(w.asked.getD n default).t=false) (hd:eX f=true) (hb:f.2.length<=1000∧(aS f.2).length<=1000000):
 Sc 31 [.ptr 1000 0,.agg (dM w),.d (.int .i64 n)] [(1000,aX l a)] (.agg (lK 27 0 0 n)) [(1000,aX l a)]:=by
 have e1:decide ((n:Int)<0)=false:=decide_eq_false Om
 have e2:decide ((n:Int)>=(w.asked.length:Int))=false:=decide_eq_false Om
 have q1:=Ef (w.asked.getD n default).dn (w.asked.getD n default).k (ay dH 2 (w.asked.getD n default).cu) f s (w.asked.getD n default).t (by rw[ht];exact hd) (by rw[ht];exact hb)
 unfold mV at q1;rw[<-hF,<-hS]at q1
 have e3:decide ((0:Int)<((w.asked.getD n default).F.length:Int))=true:=by rw[hF];rfl
 have e4:decide (IntKind.i64.wrap ((0:Int)+1)<((w.asked.getD n default).F.length:Int))=false:=by rw[hF];rfl
 have e5:(!(w.asked.getD n default).t)=true:=by rw[ht];rfl
 refine Si (fn:=Tryz.f31) Tryz.call31 ?_
 conv=>whnf
 repeat' first|((first|refine Sr ?_|refine Sg ?_|refine Ni ?_ ?_);conv=>whnf)
 all_goals try first|exact⟨Om,Om⟩
 refine aU 2 ?_
 conv=>whnf
 repeat' first|((first|refine Ci q1 ?_|refine Sr ?_|refine Sg ?_|refine Ni ?_ ?_);conv=>whnf)
 all_goals first
  |exact Lf|exact⟨aB.refl _,aI.refl _,trivial⟩
  |skip
theorem acE{l:List Int}{a:Nat}(w:WT)(n:Nat){f s:nR}{b:dQ}(hn:n<w.asked.length)(hF:(w.asked.getD n default).F=[f])(hS:(w.asked.getD n default).S=[s])(hfs:f=s)
 (ht:(w.asked.getD n default).t=true) (hd:eX s=true) (hT:vJ (w.asked.getD n default).dn (w.asked.getD n default).k s.2 b):
 Sc 31 [.ptr 1000 0,.agg (dM w),.d (.int .i64 n)] [(1000,aX l a)] (.agg (lK 29 0 0 n)) [(1000,aX l a)]:=by
 have e1:decide ((n:Int)<0)=false:=decide_eq_false Om
 have e2:decide ((n:Int)>=(w.asked.length:Int))=false:=decide_eq_false Om
 have hb:s.2.length<=1000∧(aS s.2).length<=1000000:=⟨hT.len,hT.rows⟩
 have q1:=Ef (w.asked.getD n default).dn (w.asked.getD n default).k (ay dH 2 (w.asked.getD n default).cu) f s (w.asked.getD n default).t (by rw[ht];exact hd) (by rw[ht];exact hb)
 have q2:=LC (w.asked.getD n default).dn (w.asked.getD n default).k (ay dH 2 (w.asked.getD n default).cu) f s (w.asked.getD n default).t hb
 rw[show((w.asked.getD n default).t&&eX s)=true by rw[ht,hd];rfl]at q2
 have q3:=Qg (w.asked.getD n default).dn (w.asked.getD n default).k (ay dH 2 (w.asked.getD n default).cu) f s ⟨by rw[hfs];exact hb,hb,hd⟩
 rw[show f.2=s.2 from congrArg Prod.snd hfs]at q3
 unfold mV at q1 q2 q3
 rw[<-hF,<-hS]at q1 q2
 rw[<-ht,<-hF,<-hS]at q3
 have q4:=Yg hT
 have e3:decide ((0:Int)<((w.asked.getD n default).F.length:Int))=true:=by rw[hF];rfl
 have e4:decide (IntKind.i64.wrap ((0:Int)+1)<((w.asked.getD n default).F.length:Int))=false:=by rw[hF];rfl
 have e5:(!(w.asked.getD n default).t)=false:=by rw[ht];rfl
 refine Si (fn:=Tryz.f31) Tryz.call31 ?_
 conv=>whnf
 repeat' first|((first|refine Sr ?_|refine Sg ?_|refine Ni ?_ ?_);conv=>whnf)
 all_goals try first|exact⟨Om,Om⟩
 refine aU 2 ?_
 conv=>whnf
 repeat' first|((first|refine Ci q1 ?_|refine Ci q2 ?_|refine Ci q3 ?_|refine Ci q4 ?_|refine Sr ?_|refine Sg ?_|refine Ni ?_ ?_);conv=>whnf)
 all_goals first
  |exact Lf|exact⟨aB.refl _,aI.refl _,trivial⟩
  |skip
theorem aia(dn:Bool)(k:List UInt8)(cu:List dQ)(t:Bool):cu.length<=1000->Sc 313 [.agg (Qk dn k (ay dH 2 cu) t)] [] (.agg (Qk dn k (ay dH 2 cu) t)) []:=by
 intro hc
 have h1:=iV dn k
 have h2:=qy cu Om
 have h3:=vF dn k
 refine Si (fn:=Tryz.f313) Tryz.call313 ?_
 conv=>whnf
 repeat' first|((first|refine Ci h1 ?_|refine Ci h2 ?_|refine Ci h3 ?_|refine Sr ?_|refine Sg ?_|refine Ni ?_ ?_);conv=>whnf)
 all_goals first
  |exact Lf
  |(refine⟨?_,trivial⟩
    repeat' first|exact aI.nil|refine aB.cO ?_|refine aB.agg ?_|refine aI.cons ?_ ?_|exact aB.refl _|exact aN rfl|exact bn rfl|exact bY rfl
    done)
  |exact⟨aB.refl _,aI.refl _,trivial⟩
  |skip
theorem aeS(dn:Bool)(k:List UInt8):Sc 312 [.d (ay (dI dn k) 6 [])] [] (.d (.bool true)) []:=by
 refine Si (fn:=Tryz.f312) Tryz.call312 ?_
 conv=>whnf
 repeat' first|((first|refine Sr ?_|refine aU 1 ?_|refine Sg ?_|refine Ni ?_ ?_);conv=>whnf)
 all_goals first
  |exact Lf
  |(refine⟨?_,trivial⟩
    repeat' first|exact aI.nil|refine aB.cO ?_|refine aB.agg ?_|refine aI.cons ?_ ?_|exact aB.refl _|exact aN rfl|exact bn rfl|exact bY rfl
    done)
  |exact⟨aB.refl _,aI.refl _,trivial⟩
  |skip
theorem aje(dn:Bool)(k:List UInt8):Sc 151 [.d (ay (dI dn k) 6 [])] [] (.d (.bool true)) []:=by
 refine Si (fn:=Tryz.f151) Tryz.call151 ?_
 conv=>whnf
 repeat' first|((first|refine Sr ?_|refine aU 1 ?_|refine Sg ?_|refine Ni ?_ ?_);conv=>whnf)
 all_goals first
  |exact Lf
  |(refine⟨?_,trivial⟩
    repeat' first|exact aI.nil|refine aB.cO ?_|refine aB.agg ?_|refine aI.cons ?_ ?_|exact aB.refl _|exact aN rfl|exact bn rfl|exact bY rfl
    done)
  |exact⟨aB.refl _,aI.refl _,trivial⟩
  |skip
theorem aii(dn:Bool)(k:List UInt8)(cu:List dQ):cu.length<=1000->Sc 226 [.agg (Qk dn k (ay dH 2 cu) false)] [] (.cO [.agg (Qk dn k (ay dH 2 cu) true),.d (.int .i64 0)]) []:=by
 intro hc
 have h1:=aeS dn k
 have h2:=aia dn k cu false hc
 refine Si (fn:=Tryz.f226) Tryz.call226 ?_
 conv=>whnf
 repeat' first|((first|refine Ci h1 ?_|refine Ci h2 ?_|refine Sr ?_|refine Sg ?_|refine Ni ?_ ?_);conv=>whnf)
 all_goals first
  |exact Lf
  |(refine⟨?_,trivial⟩
    repeat' first|exact aI.nil|refine aB.cO ?_|refine aB.agg ?_|refine aI.cons ?_ ?_|exact aB.refl _|exact aN rfl|exact bn rfl|exact bY rfl
    done)
  |exact⟨aB.refl _,aI.refl _,trivial⟩
  |skip
theorem ahi(dn:Bool)(k:List UInt8)(cu:D):Sc 314 [.agg (Qk dn k cu true)] [] (.d (.bool true)) []:=by
 have h1:=aeS dn k
 refine Si (fn:=Tryz.f314) Tryz.call314 ?_
 conv=>whnf
 repeat' first|((first|refine Ci h1 ?_|refine Sr ?_|refine Sg ?_|refine Ni ?_ ?_);conv=>whnf)
 all_goals first
  |exact Lf
  |(refine⟨?_,trivial⟩
    repeat' first|exact aI.nil|refine aB.cO ?_|refine aB.agg ?_|refine aI.cons ?_ ?_|exact aB.refl _|exact aN rfl|exact bn rfl|exact bY rfl
    done)
  |exact⟨aB.refl _,aI.refl _,trivial⟩
  |skip
theorem ZG(dn:Bool)(k:List UInt8)(cu:D):Sc 80 [.agg (Qk dn k cu true)] [] (.d (.bool true)) []:=by
 have h1:=aje dn k
 refine Si (fn:=Tryz.f80) Tryz.call80 ?_
 conv=>whnf
 repeat' first|((first|refine Ci h1 ?_|refine Sr ?_|refine Sg ?_|refine Ni ?_ ?_);conv=>whnf)
 all_goals first
  |exact Lf
  |(refine⟨?_,trivial⟩
    repeat' first|exact aI.nil|refine aB.cO ?_|refine aB.agg ?_|refine aI.cons ?_ ?_|exact aB.refl _|exact aN rfl|exact bn rfl|exact bY rfl
    done)
  |exact⟨aB.refl _,aI.refl _,trivial⟩
  |skip
theorem aaM(dn:Bool)(k:List UInt8)(cu:D):Sc 228 [.agg (Qk dn k cu true)] [] (.cO [.agg (xE dn k [] []),.d (.int .i64 0)]) []:=by
 have h1:=ahi dn k cu
 have h2:=Un dn k (Jp dn k) (Jp dn k)
 refine Si (fn:=Tryz.f228) Tryz.call228 ?_
 conv=>whnf
 repeat' first|((first|refine Ci h1 ?_|refine Ci h2 ?_|refine Sr ?_|refine Sg ?_|refine Ni ?_ ?_);conv=>whnf)
 all_goals first
  |exact Lf
  |(refine⟨?_,trivial⟩
    repeat' first|exact aI.nil|refine aB.cO ?_|refine aB.agg ?_|refine aI.cons ?_ ?_|exact aB.refl _|exact aN rfl|exact bn rfl|exact bY rfl
    done)
  |exact⟨aB.refl _,aI.refl _,trivial⟩
  |skip
theorem aaL(dn:Bool)(k:List UInt8)(cu:D):Sc 81 [.agg (Qk dn k cu true)] [] (.cO [.agg (xE dn k [] []),.d (.int .i64 0)]) []:=by
 have h1:=ZG dn k cu
 have h2:=abh dn k
 refine Si (fn:=Tryz.f81) Tryz.call81 ?_
 conv=>whnf
 repeat' first|((first|refine Ci h1 ?_|refine Ci h2 ?_|refine Sr ?_|refine Sg ?_|refine Ni ?_ ?_);conv=>whnf)
 all_goals first
  |exact Lf
  |(refine⟨?_,trivial⟩
    repeat' first|exact aI.nil|refine aB.cO ?_|refine aB.agg ?_|refine aI.cons ?_ ?_|exact aB.refl _|exact aN rfl|exact bn rfl|exact bY rfl
    done)
  |exact⟨aB.refl _,aI.refl _,trivial⟩
  |skip
theorem ajN{dn:Bool}{k:List UInt8}(hk:(k.length:Int)<=64)(he:aK (eU dn k)=true):Sc 316 [.agg (kR dn k),.d (ay dD 12 [])] [] (.d (.int .i64 0)) []:=by
 have h1:=kX dn k hk
 have h2:=lD dn k hk
 rw[yE he]at h2
 have h3:=rC [] ⟨by decide,by decide⟩
 have h4:=qw dn k (aS []).length
 have h5:=ni dn k
 cases dn
 all_goals
  refine Si (fn:=Tryz.f316) Tryz.call316 ?_
  conv=>whnf
  repeat' first|((first|refine Ci h1 ?_|refine Ci h2 ?_|refine Ci h3 ?_|refine Ci h4 ?_|refine Ci h5 ?_|refine Sr ?_|refine aU 1 ?_|refine Sg ?_|refine Ni ?_ ?_);conv=>whnf)
  all_goals first
   |exact Lf
   |(refine⟨?_,trivial⟩
     repeat' first|exact aI.nil|refine aB.cO ?_|refine aB.agg ?_|refine aI.cons ?_ ?_|exact aB.refl _|exact aN rfl|exact bn rfl|exact bY rfl
     done)
   |exact⟨aB.refl _,aI.refl _,trivial⟩
   |skip
theorem ajJ{dn:Bool}{k:List UInt8}(hk:(k.length:Int)<=64)(he:aK (eU dn k)=true):Sc 153 [.agg (kR dn k),.d (ay dD 12 [])] [] (.d (.int .i64 0)) []:=by
 have h1:=qA dn k hk
 have h2:=uf dn k hk
 rw[yE he]at h2
 have h3:=oG [] ⟨by decide,by decide⟩
 have h4:=qp dn k (aS []).length
 have h5:=ng dn k
 cases dn
 all_goals
  refine Si (fn:=Tryz.f153) Tryz.call153 ?_
  conv=>whnf
  repeat' first|((first|refine Ci h1 ?_|refine Ci h2 ?_|refine Ci h3 ?_|refine Ci h4 ?_|refine Ci h5 ?_|refine Sr ?_|refine aU 1 ?_|refine Sg ?_|refine Ni ?_ ?_);conv=>whnf)
  all_goals first
   |exact Lf
   |(refine⟨?_,trivial⟩
     repeat' first|exact aI.nil|refine aB.cO ?_|refine aB.agg ?_|refine aI.cons ?_ ?_|exact aB.refl _|exact aN rfl|exact bn rfl|exact bY rfl
     done)
   |exact⟨aB.refl _,aI.refl _,trivial⟩
   |skip
theorem Vt{dn:Bool}{k:List UInt8}(hk:(k.length:Int)<=64)(he:aK (eU dn k)=true):Sc 82 [.agg (xE dn k [] [])] [] (.cO [.agg (zQ (fK dn []) (EI (fK dn []))),.d (.int .i64 0)]) []:=by
 have h1:=ajJ hk he
 have h2:=YQ [] (by decide) (fun i hi=>by simp at hi)
 have h3:=oG [] ⟨by decide,by decide⟩
 have h4:=Hy dn k (aS []) (by decide)
 have h5:=J3 (fK dn []) (by have:=uo dn [];omega)
 refine Si (fn:=Tryz.f82) Tryz.call82 ?_
 conv=>whnf
 repeat' first|((first|refine Ci h1 ?_|refine Ci h2 ?_|refine Ci h3 ?_|refine Ci h4 ?_|refine Ci h5 ?_|refine Sr ?_|refine Sg ?_|refine Ni ?_ ?_);conv=>whnf)
 all_goals first
  |exact Lf
  |(refine⟨?_,trivial⟩
    repeat' first|exact aI.nil|refine aB.cO ?_|refine aB.agg ?_|refine aI.cons ?_ ?_|exact aB.refl _|exact aN rfl|exact bn rfl|exact bY rfl
    done)
  |exact⟨aB.refl _,aI.refl _,trivial⟩
  |skip
theorem Rn{dn:Bool}{k:List UInt8}(hk:(k.length:Int)<=64)(he:aK (eU dn k)=true):Sc 229 [.agg (xE dn k [] [])] [] (.cO [.agg (zQ (fK dn []) (qm (fK dn []))),.d (.int .i64 0)]) []:=by
 have h1:=ajN hk he
 have h3:=rC [] ⟨by decide,by decide⟩
 have h4:=Jv dn k (aS []) (by decide)
 have h5:=Y6 (fK dn []) (by have:=uo dn [];omega)
 refine Si (fn:=Tryz.f229) Tryz.call229 ?_
 conv=>whnf
 repeat' first|((first|refine Ci h1 ?_|refine Sr ?_|refine Sg ?_|refine Ni ?_ ?_);conv=>whnf)
 refine aU 3 ?_
 conv=>whnf
 repeat' first|((first|refine Ci h1 ?_|refine Ci h3 ?_|refine Ci h4 ?_|refine Ci h5 ?_|refine Sr ?_|refine aU 1 ?_|refine Sg ?_|refine Ni ?_ ?_);conv=>whnf)
 all_goals try first|exact⟨by decide,by decide⟩
 all_goals first
  |exact Lf
  |(refine⟨?_,trivial⟩
    repeat' first|exact aI.nil|refine aB.cO ?_|refine aB.agg ?_|refine aI.cons ?_ ?_|exact aB.refl _|exact aN rfl|exact bn rfl|exact bY rfl
    done)
  |exact⟨aB.refl _,aI.refl _,trivial⟩
  |skip
theorem ahh(a:AskT)(hF:a.F=[])(hS:a.S=[])(ht:a.t=true):Sc 80 [.agg (vP a)] [] (.d (.bool true)) []:=by
 obtain⟨dn,k,cu,F,S,t,en⟩:=a
 dsimp only at hF hS ht
 subst hF hS ht
 exact ZG dn k _
theorem aaK(a:AskT)(hF:a.F=[])(hS:a.S=[])(ht:a.t=true):Sc 81 [.agg (vP a)] [] (.cO [.agg (xE a.dn a.k [] []),.d (.int .i64 0)]) []:=by
 obtain⟨dn,k,cu,F,S,t,en⟩:=a
 dsimp only at hF hS ht
 subst hF hS ht
 exact aaL dn k _
theorem aao{l:List Int}{a:Nat}(w:WT)(n:Nat)(hn:n<w.asked.length)(hF:(w.asked.getD n default).F=[])(hS:(w.asked.getD n default).S=[])
 (ht:(w.asked.getD n default).t=false) (hk:((w.asked.getD n default).k.length:Int)<=64) (he:aK (eU (w.asked.getD n default).dn (w.asked.getD n default).k)=true):
 Sc 31 [.ptr 1000 0,.agg (dM w),.d (.int .i64 n)] [(1000,aX l a)] (.agg (lK 27 0 0 n)) [(1000,aX l a)]:=by
 have e1:decide ((n:Int)<0)=false:=decide_eq_false Om
 have e2:decide ((n:Int)>=(w.asked.length:Int))=false:=decide_eq_false Om
 have e3:decide ((0:Int)<((w.asked.getD n default).F.length:Int))=false:=by rw[hF];rfl
 have e5:(!(w.asked.getD n default).t)= !false:=by rw[ht]
 skip
 refine Si (fn:=Tryz.f31) Tryz.call31 ?_
 conv=>whnf
 repeat' first|((first|refine Sr ?_|refine Sg ?_|refine Ni ?_ ?_);conv=>whnf)
 all_goals try first|exact⟨Om,Om⟩
 refine aU 1 ?_
 conv=>whnf
 repeat' first|((first|refine Sr ?_|refine Sg ?_|refine Ni ?_ ?_);conv=>whnf)
 all_goals first
  |exact Lf
  |(refine⟨?_,trivial⟩
    repeat' first|exact aI.nil|refine aB.cO ?_|refine aB.agg ?_|refine aI.cons ?_ ?_|exact aB.refl _|exact aN rfl|exact bn rfl|exact bY rfl
    done)
  |exact⟨aB.refl _,aI.refl _,trivial⟩
  |skip
theorem aap{l:List Int}{a:Nat}(w:WT)(n:Nat)(hn:n<w.asked.length)(hF:(w.asked.getD n default).F=[])(hS:(w.asked.getD n default).S=[])
 (ht:(w.asked.getD n default).t=true) (hk:((w.asked.getD n default).k.length:Int)<=64) (he:aK (eU (w.asked.getD n default).dn (w.asked.getD n default).k)=true):
 Sc 31 [.ptr 1000 0,.agg (dM w),.d (.int .i64 n)] [(1000,aX l a)] (.agg (lK 29 0 0 n)) [(1000,aX l a)]:=by
 have e1:decide ((n:Int)<0)=false:=decide_eq_false Om
 have e2:decide ((n:Int)>=(w.asked.length:Int))=false:=decide_eq_false Om
 have e3:decide ((0:Int)<((w.asked.getD n default).F.length:Int))=false:=by rw[hF];rfl
 have e5:(!(w.asked.getD n default).t)= !true:=by rw[ht]
 have q2:=ahh _ hF hS ht;have q3:=aaK _ hF hS ht;have q4:=Vt hk he
 refine Si (fn:=Tryz.f31) Tryz.call31 ?_
 conv=>whnf
 repeat' first|((first|refine Sr ?_|refine Sg ?_|refine Ni ?_ ?_);conv=>whnf)
 all_goals try first|exact⟨Om,Om⟩
 refine aU 1 ?_
 conv=>whnf
 repeat' first|((first|refine Ci q2 ?_|refine Ci q3 ?_|refine Ci q4 ?_|refine Sr ?_|refine Sg ?_|refine Ni ?_ ?_);conv=>whnf)
 all_goals first
  |exact Lf
  |(refine⟨?_,trivial⟩
    repeat' first|exact aI.nil|refine aB.cO ?_|refine aB.agg ?_|refine aI.cons ?_ ?_|exact aB.refl _|exact aN rfl|exact bn rfl|exact bY rfl
    done)
  |exact⟨aB.refl _,aI.refl _,trivial⟩
  |skip
theorem cNd:Tryz.prog.cellsOf 72=3:=Kq
theorem bNd:Tryz.prog.bytesOf 72=32:=Kq
theorem cIn:Tryz.prog.cellsOf 3=1:=Kq
theorem bIn:Tryz.prog.bytesOf 3=8:=Kq
theorem cGr:Tryz.prog.cellsOf 79=3:=Kq
theorem bGr:Tryz.prog.bytesOf 79=40:=Kq
theorem cPe:Tryz.prog.cellsOf 114=5:=Kq
theorem bPe:Tryz.prog.bytesOf 114=72:=Kq
theorem cNe:Tryz.prog.cellsOf 152=4:=Kq
theorem bNe:Tryz.prog.bytesOf 152=32:=Kq
theorem cAs:Tryz.prog.cellsOf 169=9:=Kq
theorem bAs:Tryz.prog.bytesOf 169=144:=Kq
theorem cRe:Tryz.prog.cellsOf 257=12:=Kq
theorem bRe:Tryz.prog.bytesOf 257=184:=Kq
theorem ae8(xs:List aj):xs.length<=1000000->Sc 128 [.d (ay aZ 3 xs)] [] (.bW 1000 3 0 xs.length) [(1000,.row 72 3 xs.length (cellOf aZ xs))]:=by
 intro hl
 refine Si (fn:=Tryz.f128) Tryz.call128 ?_
 conv=>whnf
 repeat' first|((first|refine Sg ?_|refine Ni ?_ ?_);conv=>whnf)|(refine ah (fun _=> ?_) (fun _=> ?_)<;>(conv=>whnf))
 all_goals try simp only[cNd,bNd,true_and,and_true]at*
 all_goals first|exact trivial|omega|exact aF.refl _|exact aJ.refl _ _ _|exact⟨Om,Om⟩
theorem Yc(m:Nat)(xs:List aj)(h:xs.length<=1000000):Sc 128 [.d (ay aZ 3 xs)] [] (.bW m 3 0 xs.length) [(m,.row 72 3 xs.length (cellOf aZ xs))]:=(ae8 xs h).new1 m
theorem abP(xs:List aj)(h:xs.length<=1000000):Sc 128 [.d (ay aZ 3 xs)] [] (.d (ay aZ 3 xs)) []:=(Yc 1000 xs h).Nu
theorem ae1(xs:List Int):xs.length<=1000000->Sc 129 [.d (ay encZ 1 xs)] [] (.bW 1000 1 0 xs.length) [(1000,.row 3 1 xs.length (cellOf encZ xs))]:=by
 intro hl
 refine Si (fn:=Tryz.f129) Tryz.call129 ?_
 conv=>whnf
 repeat' first|((first|refine Sg ?_|refine Ni ?_ ?_);conv=>whnf)|(refine ah (fun _=> ?_) (fun _=> ?_)<;>(conv=>whnf))
 all_goals try simp only[cIn,bIn,true_and,and_true]at*
 all_goals first|exact trivial|omega|exact aF.refl _|exact aJ.refl _ _ _|exact⟨Om,Om⟩
theorem X7(m:Nat)(xs:List Int)(h:xs.length<=1000000):Sc 129 [.d (ay encZ 1 xs)] [] (.bW m 1 0 xs.length) [(m,.row 3 1 xs.length (cellOf encZ xs))]:=(ae1 xs h).new1 m
theorem O9(xs:List Int)(h:xs.length<=1000000):Sc 129 [.d (ay encZ 1 xs)] [] (.d (ay encZ 1 xs)) []:=(X7 1000 xs h).Nu
theorem afb(xs:List bC):xs.length<=1000000->Sc 188 [.d (ay m_ 3 xs)] [] (.bW 1000 3 0 xs.length) [(1000,.row 79 3 xs.length (cellOf m_ xs))]:=by
 intro hl
 refine Si (fn:=Tryz.f188) Tryz.call188 ?_
 conv=>whnf
 repeat' first|((first|refine Sg ?_|refine Ni ?_ ?_);conv=>whnf)|(refine ah (fun _=> ?_) (fun _=> ?_)<;>(conv=>whnf))
 all_goals try simp only[cGr,bGr,true_and,and_true]at*
 all_goals first|exact trivial|omega|exact aF.refl _|exact aJ.refl _ _ _|exact⟨Om,Om⟩
theorem Yd(m:Nat)(xs:List bC)(h:xs.length<=1000000):Sc 188 [.d (ay m_ 3 xs)] [] (.bW m 3 0 xs.length) [(m,.row 79 3 xs.length (cellOf m_ xs))]:=(afb xs h).new1 m
theorem ae7(xs:List aO):xs.length<=1000000->Sc 191 [.d (ay lI 5 xs)] [] (.bW 1000 5 0 xs.length) [(1000,.row 114 5 xs.length (cellOf lI xs))]:=by
 intro hl
 refine Si (fn:=Tryz.f191) Tryz.call191 ?_
 conv=>whnf
 repeat' first|((first|refine Sg ?_|refine Ni ?_ ?_);conv=>whnf)|(refine ah (fun _=> ?_) (fun _=> ?_)<;>(conv=>whnf))
 all_goals try simp only[cPe,bPe,true_and,and_true]at*
 all_goals first|exact trivial|omega|exact aF.refl _|exact aJ.refl _ _ _|exact⟨Om,Om⟩
theorem X_(m:Nat)(xs:List aO)(h:xs.length<=1000000):Sc 191 [.d (ay lI 5 xs)] [] (.bW m 5 0 xs.length) [(m,.row 114 5 xs.length (cellOf lI xs))]:=(ae7 xs h).new1 m
theorem abO(xs:List kH):xs.length<=1000000->Sc 193 [.d (ay encR 4 xs)] [] (.bW 1000 4 0 xs.length) [(1000,.row 152 4 xs.length (cellOf encR xs))]:=by
 intro hl
 refine Si (fn:=Tryz.f193) Tryz.call193 ?_
 conv=>whnf
 repeat' first|((first|refine Sg ?_|refine Ni ?_ ?_);conv=>whnf)|(refine ah (fun _=> ?_) (fun _=> ?_)<;>(conv=>whnf))
 all_goals try simp only[cNe,bNe,true_and,and_true]at*
 all_goals first|exact trivial|omega|exact aF.refl _|exact aJ.refl _ _ _|exact⟨Om,Om⟩
theorem Vm(m:Nat)(xs:List kH)(h:xs.length<=1000000):Sc 193 [.d (ay encR 4 xs)] [] (.bW m 4 0 xs.length) [(m,.row 152 4 xs.length (cellOf encR xs))]:=(abO xs h).new1 m
theorem Ya(xs:List kH)(h:xs.length<=1000000):Sc 193 [.d (ay encR 4 xs)] [] (.d (ay encR 4 xs)) []:=(Vm 1000 xs h).Nu
theorem afc(xs:List AskT):xs.length<=1000000->Sc 133 [.d (ay oL 9 xs)] [] (.bW 1000 9 0 xs.length) [(1000,.row 169 9 xs.length (cellOf oL xs))]:=by
 intro hl
 refine Si (fn:=Tryz.f133) Tryz.call133 ?_
 conv=>whnf
 repeat' first|((first|refine Sg ?_|refine Ni ?_ ?_);conv=>whnf)|(refine ah (fun _=> ?_) (fun _=> ?_)<;>(conv=>whnf))
 all_goals try simp only[cAs,bAs,true_and,and_true]at*
 all_goals first|exact trivial|omega|exact aF.refl _|exact aJ.refl _ _ _|exact⟨Om,Om⟩
theorem Ye(m:Nat)(xs:List AskT)(h:xs.length<=1000000):Sc 133 [.d (ay oL 9 xs)] [] (.bW m 9 0 xs.length) [(m,.row 169 9 xs.length (cellOf oL xs))]:=(afc xs h).new1 m
theorem ae4(xs:List NP):xs.length<=1000000->Sc 134 [.d (ay u_ 12 xs)] [] (.bW 1000 12 0 xs.length) [(1000,.row 257 12 xs.length (cellOf u_ xs))]:=by
 intro hl
 refine Si (fn:=Tryz.f134) Tryz.call134 ?_
 conv=>whnf
 repeat' first|((first|refine Sg ?_|refine Ni ?_ ?_);conv=>whnf)|(refine ah (fun _=> ?_) (fun _=> ?_)<;>(conv=>whnf))
 all_goals try simp only[cRe,bRe,true_and,and_true]at*
 all_goals first|exact trivial|omega|exact aF.refl _|exact aJ.refl _ _ _|exact⟨Om,Om⟩
theorem X9(m:Nat)(xs:List NP)(h:xs.length<=1000000):Sc 134 [.d (ay u_ 12 xs)] [] (.bW m 12 0 xs.length) [(m,.row 257 12 xs.length (cellOf u_ xs))]:=(ae4 xs h).new1 m
theorem ae9:Sc 192 [.d (ay encZ 2 [])] [] (.d (ay encZ 2 [])) []:=by
 refine Si (fn:=Tryz.f192) Tryz.call192 ?_
 conv=>whnf
 repeat' first|((first|refine Sg ?_|refine Ni ?_ ?_);conv=>whnf)|(refine ah (fun _=> ?_) (fun _=> ?_)<;>(conv=>whnf))
 all_goals first
  |exact Lf
  |(refine⟨?_,trivial⟩
    repeat' first|exact aI.nil|refine aB.cO ?_|refine aB.agg ?_|refine aI.cons ?_ ?_|exact aB.refl _|exact aN rfl|exact bn rfl|exact bY rfl
    done)
  |exact⟨aB.refl _,aI.refl _,trivial⟩|exact⟨by rw[List.length_nil,Nat.zero_mul];decide,by decide⟩
  |skip
theorem ae_:Sc 190 [.d (ay encZ 9 [])] [] (.d (ay encZ 9 [])) []:=by
 refine Si (fn:=Tryz.f190) Tryz.call190 ?_
 conv=>whnf
 repeat' first|((first|refine Sg ?_|refine Ni ?_ ?_);conv=>whnf)|(refine ah (fun _=> ?_) (fun _=> ?_)<;>(conv=>whnf))
 all_goals first
  |exact Lf
  |(refine⟨?_,trivial⟩
    repeat' first|exact aI.nil|refine aB.cO ?_|refine aB.agg ?_|refine aI.cons ?_ ?_|exact aB.refl _|exact aN rfl|exact bn rfl|exact bY rfl
    done)
  |exact⟨aB.refl _,aI.refl _,trivial⟩|exact⟨by rw[List.length_nil,Nat.zero_mul];decide,by decide⟩
  |skip
theorem Vp:Sc 131 [.d (ay encZ 9 [])] [] (.d (ay encZ 9 [])) []:=by
 have h1:=ae_
 refine Si (fn:=Tryz.f131) Tryz.call131 ?_
 conv=>whnf
 repeat' first|((first|refine Ci h1 ?_|refine Sr ?_|refine aU 1 ?_|refine Sg ?_|refine Ni ?_ ?_);conv=>whnf)
 all_goals first
  |exact Lf
  |(refine⟨?_,trivial⟩
    repeat' first|exact aI.nil|refine aB.cO ?_|refine aB.agg ?_|refine aI.cons ?_ ?_|exact aB.refl _|exact aN rfl|exact bn rfl|exact bY rfl
    done)
  |exact⟨aB.refl _,aI.refl _,trivial⟩|exact⟨by rw[List.length_nil,Nat.zero_mul];decide,by decide⟩
  |skip
theorem EC{α:Type}[Inhabited α]{enc:α->List D}{xs:List α}{p n k:Nat}{g:Nat->Nat->D}(h: ∀j,j<k->g p j=cellOf enc xs p j)(h2: ∀i j,¬i=p->g i j=cellOf enc xs i j):aJ n k g (cellOf enc xs):= .of_eq fun i j hi hj=>by
 by_cases e:i=p
 ·rw[e];exact h j hj
 ·exact h2 i j e
theorem ahp(g:bC):MP 1000 g->Sc 189 [.agg (GV g)] [] (.agg (GV g)) []:=by
 intro h
 have hl:=h.len
 refine Si (fn:=Tryz.f189) Tryz.call189 ?_
 conv=>whnf
 repeat' first|((first|refine Cf (abR 1000 g.mem) ?_ ?_|refine Sg ?_|refine Ni ?_ ?_);conv=>whnf)
 all_goals try first|omega
 refine aA [1,2,10] [2] (fun i:Nat=>[(11,.d (.int .i64 i))]) (fun i=>[(1,.box [.d (.int .i64 g.num),.d (.bool g.opn),.bW 1000 32 0 g.mem.length]),(1000,.row 138 32 g.mem.length (cellOf lY g.mem))]) (fun i=>i<=g.mem.length) (fun i=>g.mem.length-i) 0 ?_ (fun i hi=> ?_) Om
 ·conv=>whnf
  repeat' first|((first|refine Sg ?_|refine Ni ?_ ?_);conv=>whnf)|(refine ah (fun _=> ?_) (fun _=> ?_)<;>(conv=>whnf))
  all_goals first|exact trivial|exact aF.refl _|exact aJ.refl _ _ _|exact⟨rfl,rfl⟩|exact⟨rfl,rfl,rfl⟩|trace_state
 ·have hs:IntKind.i64.wrap ((i:Int)+1)=((i+1:Nat):Int):=wrap_succ (n:=2000) Om Om
  conv=>whnf
  repeat' first|((first|refine iD (Bc (g.mem.getD (0+i) default).copy) Fl (Ni ?_ ?_)|refine aG.mk (i+1) ?_ ?_ ?_|refine Sg ?_|refine Ni ?_ ?_);conv=>whnf)|(refine ah (fun _=> ?_) (fun _=> ?_)<;>(conv=>whnf))
  all_goals try simp only[decide_eq_true_eq,decide_eq_false_iff_not,Int.toNat_natCast]at*
  all_goals first|exact trivial|omega|exact aF.refl _|exact aJ.refl _ _ _|exact OA h _|exact aF.of_eq (by rw[hs])|exact⟨Om,Om⟩|exact⟨rfl,rfl⟩|exact⟨rfl,rfl,rfl⟩|exact⟨trivial,trivial,trivial⟩|exact aaD Om|exact⟨aB.agg (aI.cons (aB.refl _) (aI.cons (aB.refl _) (aI.cons (bn rfl) aI.nil))),trivial⟩
structure GsB (gs:List bC):Prop where
 len:gs.length<=1000
 all: ∀i,i<gs.length->MP 1000 (gs.getD i default)
theorem afa(gs:List bC)(h:GsB gs):Sc 130 [.d (ay m_ 3 gs)] [] (.bW 4000 3 0 gs.length) [(4000,.row 79 3 gs.length (cellOf m_ gs))]:=by
 have hl:=h.len
 have hc:=Yd 3000 gs Om
 refine Si (fn:=Tryz.f130) Tryz.call130 ?_
 conv=>whnf
 repeat' first|((first|refine Ci hc ?_|refine Sg ?_|refine Ni ?_ ?_);conv=>whnf)
 refine aA [0,7] [] (fun i:Nat=>[(8,.d (.int .i64 i))]) (fun i=>[(3000,.row 79 3 gs.length (cellOf m_ gs))])
  (fun i=>i<=gs.length) (fun i=>gs.length-i) 0 ?_ (fun i hi=> ?_) (Nat.zero_le _)
 ·conv=>whnf
  repeat' first|((first|refine Sg ?_|refine Ni ?_ ?_);conv=>whnf)|(refine ah (fun _=> ?_) (fun _=> ?_)<;>(conv=>whnf))
  all_goals try first|exact Lq
 ·conv=>whnf
  refine ah (fun hlt=> ?_) (fun hlt=> ?_)
  ·have hlt0:i<gs.length:=by simpa using hlt
   have hcg:=ahp (gs.getD (0+i) default) (h.all _ Om)
   have hw1:IntKind.i64.wrap ((i:Int)+1)=((i+1:Nat):Int):=wrap_succ (n:=1000) Om Om
   conv=>whnf
   repeat' first|((first|refine Ci hcg ?_|refine aG.mk (i+1) ?_ ?_ ?_|refine Sg ?_|refine Ni ?_ ?_);conv=>whnf)
   all_goals try simp only[Int.toNat_natCast,cGr,hw1]
   all_goals first
    |exact Lf
    |exact EC (p:=0+i) (fun j hj=>(if_pos rfl).trans (by revert j;exact xO rfl rfl rfl)) (fun i j h=>if_neg h)
  ·conv=>whnf
   repeat' first|((first|refine Sg ?_|refine Ni ?_ ?_);conv=>whnf)
   all_goals first|exact Lf
theorem abS(gs:List bC)(h:GsB gs):Sc 130 [.d (ay m_ 3 gs)] [] (.d (ay m_ 3 gs)) []:=(afa gs h).Nu
structure PsB (ps:List aO):Prop where
 len:ps.length<=1000
 kn: ∀i,i<ps.length->(ps.getD i default).known.length<=1000000
 nr: ∀i,i<ps.length->(ps.getD i default).near.length<=1000000
theorem lt5{p:Nat->Prop}(h0:p 0)(h1:p 1)(h2:p 2)(h3:p 3)(h4:p 4): ∀j,j<5->p j:=fun j hj=>match j,hj with
 |0,_=>h0
 |1,_=>h1
 |2,_=>h2
 |3,_=>h3
 |4,_=>h4
theorem ahq(ps:List aO)(h:PsB ps):Sc 132 [.agg [.d (ay lI 5 ps),.d (ay encZ 2 [])]] [] (.agg [.d (ay lI 5 ps),.d (ay encZ 2 [])]) []:=by
 have hl:=h.len
 have hc:=X_ 3000 ps Om
 have hm:=ae9
 refine Si (fn:=Tryz.f132) Tryz.call132 ?_
 conv=>whnf
 repeat' first|((first|refine Ci hc ?_|refine Ci hm ?_|refine Sg ?_|refine Ni ?_ ?_);conv=>whnf)
 refine aA [1,2,14] [2] (fun i:Nat=>[(15,.d (.int .i64 i))]) (fun i=>[(1,.box [.bW 3000 5 0 ps.length,.d (ay encZ 2 [])]),(3000,.row 114 5 ps.length (cellOf lI ps))])
  (fun i=>i<=ps.length) (fun i=>ps.length-i) 0 ?_ (fun i hi=> ?_) (Nat.zero_le _)
 ·conv=>whnf
  repeat' first|((first|refine Sg ?_|refine Ni ?_ ?_);conv=>whnf)|(refine ah (fun _=> ?_) (fun _=> ?_)<;>(conv=>whnf))
  all_goals try first|exact Lq
 ·conv=>whnf
  refine ah (fun hlt=> ?_) (fun hlt=> ?_)
  ·have hlt0:i<ps.length:=by simpa using hlt
   have h1:=O9 (ps.getD (0+i) default).known (h.kn _ Om)
   have h2:=Ya (ps.getD (0+i) default).near (h.nr _ Om)
   have hw1:IntKind.i64.wrap ((i:Int)+1)=((i+1:Nat):Int):=wrap_succ (n:=1000) Om Om
   conv=>whnf
   repeat' first|((first|refine Ci h1 ?_|refine Ci h2 ?_|refine aG.mk (i+1) ?_ ?_ ?_|refine Sg ?_|refine Ni ?_ ?_);conv=>whnf)
   all_goals try simp only[Int.toNat_natCast,cPe,hw1]
   all_goals first
    |exact Lf
    |exact EC (p:=0+i) (by refine lt5 ?_ ?_ ?_ ?_ ?_<;>simp[cellOf,lI]) (fun i' j' hne=>by rw[if_neg hne,if_neg hne])
    |skip
  ·conv=>whnf
   repeat' first|((first|refine Sg ?_|refine Ni ?_ ?_);conv=>whnf)
   all_goals first
    |exact Lf
    |(refine⟨?_,trivial⟩
      repeat' first|exact aI.nil|refine aB.cO ?_|refine aB.agg ?_|refine aI.cons ?_ ?_|exact aB.refl _|exact aN rfl|exact bn rfl|exact bY rfl
      done)
    |exact⟨aB.refl _,aI.refl _,trivial⟩
    |skip
def ajw(F:List nR):Prop:=F=[]∨∃s,F=[s]∧zy s
theorem O_(dn:Bool)(k:List UInt8){F:List nR}(h:ajw F):Sc 196 [.d (ay (dI dn k) 6 F)] [] (.d (ay (dI dn k) 6 F)) []:=by
 rcases h with rfl|⟨s,rfl,hs⟩
 ·exact vF dn k
 ·exact FK dn k s ⟨hs.1,by have:=hs.2.1;omega,hs.2.2⟩
structure VR (a:AskT):Prop where
 cu:a.cu.length<=1000
 F:ajw a.F
 S:ajw a.S
theorem ae6(a:AskT)(h:VR a):Sc 135 [.agg (vP a)] [] (.agg (vP a)) []:=by
 have h1:=iV a.dn a.k
 have h2:=qy a.cu (by have:=h.cu;omega)
 have h3:=O_ a.dn a.k h.F
 have h4:=O_ a.dn a.k h.S
 refine Si (fn:=Tryz.f135) Tryz.call135 ?_
 conv=>whnf
 repeat' first|((first|refine Ci h1 ?_|refine Ci h2 ?_|refine Ci h3 ?_|refine Ci h4 ?_|refine Sg ?_|refine Ni ?_ ?_);conv=>whnf)
 all_goals first
  |exact Lf
  |(refine⟨?_,trivial⟩
    repeat' first|exact aI.nil|refine aB.cO ?_|refine aB.agg ?_|refine aI.cons ?_ ?_|exact aB.refl _|exact aN rfl|exact bn rfl|exact bY rfl
    done)
  |exact⟨aB.refl _,aI.refl _,trivial⟩
  |skip
structure acd (r:NP):Prop where
 A:r.A.length<=1000∧(aS r.A).length<=1000000
 B:r.B.length<=1000∧(aS r.B).length<=1000000
theorem ae5(r:NP)(h:acd r):Sc 136 [.agg (xE r.dn r.k r.A r.B)] [] (.agg (xE r.dn r.k r.A r.B)) []:=by
 have h1:=iV r.dn r.k
 have h2:=ZJ 4000 r.A h.A
 have h3:=ZJ 4000 r.B h.B
 refine Si (fn:=Tryz.f136) Tryz.call136 ?_
 conv=>whnf
 repeat' first|((first|refine Ci h1 ?_|refine Ci h2 ?_|refine Ci h3 ?_|refine Sg ?_|refine Ni ?_ ?_);conv=>whnf)
 all_goals first
  |exact Lf
  |(refine⟨?_,trivial⟩
    repeat' first|exact aI.nil|refine aB.cO ?_|refine aB.agg ?_|refine aI.cons ?_ ?_|exact aB.refl _|exact aN rfl|exact bn rfl|exact bY rfl
    done)
  |exact⟨aB.refl _,aI.refl _,trivial⟩
  |skip
end Go.Proofs.YtgdgkekpfmhbbaaGreatDoor
