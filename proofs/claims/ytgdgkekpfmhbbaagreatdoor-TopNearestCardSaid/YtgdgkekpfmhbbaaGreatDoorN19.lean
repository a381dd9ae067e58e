/- Contracts of functions that the law reaches: YtgdgkekpfmhbbaaGreatDoorN19. Written for this claim. -/
import Derived.Test.YtgdgkekpfmhbbaaGreatDoorN8
namespace Go.Proofs.YtgdgkekpfmhbbaaGreatDoor
open Go Go.Sx Go.ChangeShapes Go.WideShapes Go.ChangeAt Go.RowKit
set_option linter.unusedVariables false
set_option linter.unusedSimpArgs false
set_option maxRecDepth 100000
theorem PY{dn:Bool}{k:List UInt8}{cu:List dQ}{f s:nR}{t:Bool}{r:jl}{vis:List dL}(hp:sD f s t=([r],vis)){own:Int}{lk:List UInt8}{lt:Bool}{hk:List UInt8}{ht:Bool}{se sv:Int}{rows:List Row}:
 ((cu.length<=1000∧zy f∧zy s)∧((vis.length<=900∧(aS vis).length<=1000000)∧eX ([r],vis)=false)∧Cm own lk lt hk ht se sv rows∧fitsV dn ⟨own,lk,lt,hk,ht,se,sv,rows⟩ r=true)->
 Sc 311 [.agg (mV dn k (ay dH 2 cu) f s t),.d (.int .i64 0),.agg (oW own lk lt hk ht se sv rows)] []
  (.cO [.agg (mV dn k (ay dH 2 cu) (if t then f else iT dn ([r],vis) ⟨own,lk,lt,hk,ht,se,sv,rows⟩) (if t then iT dn ([r],vis) ⟨own,lk,lt,hk,ht,se,sv,rows⟩else s) t),.d (.int .i64 0)]) []:=by
 rintro⟨hc,h⟩
 have h0:=J9 dn k (ay dH 2 cu) f s t
 have h1:=V6 dn k cu f s t hc
 have h3:=adi dn k (ay dH 2 cu) f s t
 have h2:Sc 370 [.agg (rX dn k [r] vis),.agg (oW own lk lt hk ht se sv rows)] [] (.cO [.agg (rX dn k (iT dn ([r],vis) ⟨own,lk,lt,hk,ht,se,sv,rows⟩).1 (iT dn ([r],vis) ⟨own,lk,lt,hk,ht,se,sv,rows⟩).2),.d (.int .i64 0)]) []:=by
  cases dn
  ·exact acH h
  ·exact acI h
 generalize iT dn ([r],vis) ⟨own,lk,lt,hk,ht,se,sv,rows⟩=z at h2⊢
 obtain⟨z1,z2⟩:=z
 cases t
 ·obtain rfl:f=([r],vis):=hp
  refine Si (fn:=Tryz.f311) Tryz.call311 ?_
  conv=>whnf
  repeat' first|((first|refine Ci h0 ?_|refine Ci h1 ?_|refine Ci h3 ?_|refine Ci h2 ?_|refine Sr ?_|refine Sg ?_|refine Ni ?_ ?_);conv=>whnf)|(refine ah (fun _=> ?_) (fun _=> ?_)<;>(conv=>whnf))
  all_goals first
   |exact Lf
   |decide
   |exact⟨Int.le_refl _,by show(0:Int)<((1:Nat):Int);decide⟩
   |(show(0:Nat)<1;decide)
   |exact⟨aB.cO (aI.cons (aB.agg (aI.cons (aB.refl _) (aI.cons (aB.refl _) (aI.cons (aB.refl _) (aI.cons (aB.refl _) (aI.cons (aB.refl _) (aI.cons (aB.d (aF.rows rfl (row_one (x:=(z1,z2)) (enc:=dI dn k) (lt6 (aF.refl _) (aF.refl _) (aF.refl _) (aF.refl _) (aF.refl _) (aF.refl _))))) (aI.cons (aB.d (aF.rows rfl (row_one (x:=s) (enc:=dI dn k) (lt6 (aF.refl _) (aF.refl _) (aF.refl _) (aF.refl _) (aF.refl _) (aF.refl _))))) (aI.cons (aB.refl _) aI.nil))))))))) (aI.refl _)),trivial⟩
   |skip
 ·obtain rfl:s=([r],vis):=hp
  refine Si (fn:=Tryz.f311) Tryz.call311 ?_
  conv=>whnf
  repeat' first|((first|refine Ci h0 ?_|refine Ci h1 ?_|refine Ci h3 ?_|refine Ci h2 ?_|refine Sr ?_|refine Sg ?_|refine Ni ?_ ?_);conv=>whnf)|(refine ah (fun _=> ?_) (fun _=> ?_)<;>(conv=>whnf))
  all_goals first
   |exact Lf
   |decide
   |exact⟨Int.le_refl _,by show(0:Int)<((1:Nat):Int);decide⟩
   |(show(0:Nat)<1;decide)
   |exact⟨aB.cO (aI.cons (aB.agg (aI.cons (aB.refl _) (aI.cons (aB.refl _) (aI.cons (aB.refl _) (aI.cons (aB.refl _) (aI.cons (aB.refl _) (aI.cons (aB.d (aF.rows rfl (row_one (x:=f) (enc:=dI dn k) (lt6 (aF.refl _) (aF.refl _) (aF.refl _) (aF.refl _) (aF.refl _) (aF.refl _))))) (aI.cons (aB.d (aF.rows rfl (row_one (x:=(z1,z2)) (enc:=dI dn k) (lt6 (aF.refl _) (aF.refl _) (aF.refl _) (aF.refl _) (aF.refl _) (aF.refl _))))) (aI.cons (aB.refl _) aI.nil))))))))) (aI.refl _)),trivial⟩
   |skip
theorem Nc{dn:Bool}{k:List UInt8}{cu:List dQ}{f s:nR}{t:Bool}{r:jl}{vis:List dL}(hp:sD f s t=([r],vis)){own:Int}{lk:List UInt8}{lt:Bool}{hk:List UInt8}{ht:Bool}{se sv:Int}{rows:List Row}:
 ((cu.length<=1000∧zy f∧zy s)∧((vis.length<=900∧(aS vis).length<=1000000)∧eX ([r],vis)=false)∧Cm own lk lt hk ht se sv rows∧fitsV dn ⟨own,lk,lt,hk,ht,se,sv,rows⟩ r=false)->
 Sc 311 [.agg (mV dn k (ay dH 2 cu) f s t),.d (.int .i64 0),.agg (oW own lk lt hk ht se sv rows)] [] (.cO [.agg I_,.d (.int .i64 12)]) []:=by
 rintro⟨hc,h⟩
 have h0:=J9 dn k (ay dH 2 cu) f s t
 have h1:=V6 dn k cu f s t hc
 have h3:=adi dn k (ay dH 2 cu) f s t
 have h2:=aat (k:=k) h
 cases t
 ·obtain rfl:f=([r],vis):=hp
  refine Si (fn:=Tryz.f311) Tryz.call311 ?_
  conv=>whnf
  repeat' first|((first|refine Ci h0 ?_|refine Ci h1 ?_|refine Ci h3 ?_|refine Ci h2 ?_|refine Sr ?_|refine Sg ?_|refine Ni ?_ ?_);conv=>whnf)|(refine ah (fun _=> ?_) (fun _=> ?_)<;>(conv=>whnf))
  all_goals first
   |exact Lf|exact⟨aB.of_eq rfl,trivial⟩
   |decide
   |exact⟨Int.le_refl _,by show(0:Int)<((1:Nat):Int);decide⟩
   |(show(0:Nat)<1;decide)
   |skip
 ·obtain rfl:s=([r],vis):=hp
  refine Si (fn:=Tryz.f311) Tryz.call311 ?_
  conv=>whnf
  repeat' first|((first|refine Ci h0 ?_|refine Ci h1 ?_|refine Ci h3 ?_|refine Ci h2 ?_|refine Sr ?_|refine Sg ?_|refine Ni ?_ ?_);conv=>whnf)|(refine ah (fun _=> ?_) (fun _=> ?_)<;>(conv=>whnf))
  all_goals first
   |exact Lf|exact⟨aB.of_eq rfl,trivial⟩
   |decide
   |exact⟨Int.le_refl _,by show(0:Int)<((1:Nat):Int);decide⟩
   |(show(0:Nat)<1;decide)
   |skip
theorem bY{α:Type}[Inhabited α]{enc:α->List D}{k n:Nat}{xs:List α}(h:n=xs.length):aB (.d (.list n k fun i j=>cellOf enc xs (0+i) j)) (.d (ay enc k xs)):=
 aB.d (aF.rows h (by simp only[Nat.zero_add];exact aJ.refl _ _ _))
theorem Wq(dn:Bool)(k:List UInt8)(cu:List dQ)(f s:nR):((cu.length<=1000∧zy f∧zy s)∧eX f=true)->
 Sc 226 [.agg (mV dn k (ay dH 2 cu) f s false)] [] (.cO [.agg (mV dn k (ay dH 2 cu) f s true),.d (.int .i64 0)]) []:=by
 rintro⟨hc,hd⟩
 have h0:=VK dn k f ⟨by have:=hc.2.1.2.1;omega,hc.2.1.2.2⟩
 rw[hd]at h0
 have h1:=V6 dn k cu f s false hc
 refine Si (fn:=Tryz.f226) Tryz.call226 ?_
 conv=>whnf
 repeat' first|((first|refine Ci h0 ?_|refine Ci h1 ?_|refine Sr ?_|refine Sg ?_|refine Ni ?_ ?_);conv=>whnf)|(refine ah (fun _=> ?_) (fun _=> ?_)<;>(conv=>whnf))
 all_goals first
  |exact Lf
  |(refine⟨?_,trivial⟩
    repeat' first|exact aI.nil|refine aB.cO ?_|refine aB.agg ?_|refine aI.cons ?_ ?_|exact aB.refl _|exact aN rfl|exact bn rfl|exact bY rfl
    done)
  |skip
theorem UF{r:jl}(h:aK r=false):(!(aK r)&&(decide (aV r.1 r.2.1 r.1 r.2.1<=0)&&decide (aV r.2.2.1 r.2.2.2 r.2.2.1 r.2.2.2<=0)))=true:=by simp[h,iH]
theorem Sz(dn:Bool)(k:List UInt8):((k.length:Int)<=64∧aK (eU dn k)=false)->
 Sc 366 [.agg (kR dn k),.d (ay dF 4 [eU dn k])] [] (.cO [.agg (rX dn k [eU dn k] []),.d (.int .i64 0)]) []:=by
 rintro⟨hk,he⟩
 have h1:=kX dn k hk
 have h2:=lD dn k hk
 rw[lM he]at h2
 have h3:=fC (eU dn k).1 (eU dn k).2.1 (eU dn k).2.2.1 (eU dn k).2.2.2
 rw[show eH (eU dn k).1 (eU dn k).2.1 (eU dn k).2.2.1 (eU dn k).2.2.2=false from he]at h3
 have h4:=ug (eU dn k) (eU dn k)
 rw[UF he]at h4
 have h5:=iV dn k
 have h6:=FM [eU dn k] (by show 1<=1000000;decide)
 generalize eU dn k=r at h2 h3 h4 h6⊢
 refine Si (fn:=Tryz.f366) Tryz.call366 ?_
 conv=>whnf
 repeat' first|((first|refine Ci h1 ?_|refine Ci h2 ?_|refine Ci h3 ?_|refine Ci h4 ?_|refine Ci h5 ?_|refine Ci h6 ?_|refine Sr ?_|refine aU 2 ?_|refine Sg ?_|refine Ni ?_ ?_);conv=>whnf)
 all_goals first
  |exact Lf|exact⟨Int.le_refl _,by show(0:Int)<((1:Nat):Int);decide⟩
  |(refine⟨?_,trivial⟩
    repeat' first|exact aI.nil|refine aB.cO ?_|refine aB.agg ?_|refine aI.cons ?_ ?_|exact aB.refl _|exact aN rfl|exact bn rfl|exact bY rfl
    done)
  |skip
def XZ(l:List jl):List D:=[ay dF 4 l]
theorem row1{α:Type}[Inhabited α]{enc:α->List D}{x:α}{k:Nat}{g:Nat->Nat->D}(h: ∀j,j<k->aF (g 0 j) ((enc x).getD j default)):aJ 1 k g (cellOf enc [x]):=row_one h
theorem aad(dn:Bool)(k:List UInt8)(cu:D):((k.length:Int)<=64∧aK (eU dn k)=false)->
 Sc 365 [.agg (kR dn k),.d cu] [] (.d (ay XZ 1 [[eU dn k]])) []:=by
 rintro⟨hk,he⟩
 have h2:=lD dn k hk
 rw[lM he]at h2
 generalize eU dn k=r at h2⊢
 cases dn
 all_goals
  refine Si (fn:=Tryz.f365) Tryz.call365 ?_
  conv=>whnf
  repeat' first|((first|refine Ci h2 ?_|refine Sr ?_|refine Sg ?_|refine Ni ?_ ?_);conv=>whnf)
 all_goals first
  |exact Lf|exact⟨aB.d (aF.rows rfl (row1 (x:=[r]) (enc:=XZ) (AB (aF.refl _)))),trivial⟩
  |skip
theorem aae(dn:Bool)(k:List UInt8)(cu:D):((k.length:Int)<=64∧aK (eU dn k)=true)->
 Sc 365 [.agg (kR dn k),.d cu] [] (.d (ay XZ 1 [])) []:=by
 rintro⟨hk,he⟩
 have h2:=lD dn k hk
 rw[yE he]at h2
 cases dn
 all_goals
  refine Si (fn:=Tryz.f365) Tryz.call365 ?_
  conv=>whnf
  repeat' first|((first|refine Ci h2 ?_|refine Sr ?_|refine Sg ?_|refine Ni ?_ ?_);conv=>whnf)
 all_goals first
  |exact Lf|exact⟨aN rfl,trivial⟩
  |skip
structure w_ (cu:List dQ):Prop where
 len:cu.length<=2
 ok: ∀i,i<cu.length->aP (cu.getD i default).1 (cu.getD i default).2=true
 lt: ∀i,i<cu.length->0<i->0<aV (cu.getD i default).1 (cu.getD i default).2 (cu.getD (i-1) default).1 (cu.getD (i-1) default).2
theorem Vh(dn:Bool)(k:List UInt8)(cu:List dQ):(w_ cu∧(k.length:Int)<=64∧aK (eU dn k)=false)->
 Sc 308 [.agg (kR dn k),.d (ay dH 2 cu)] [] (.cO [.d (ay (dI dn k) 6 [([eU dn k],[])]),.d (.int .i64 0)]) []:=by
 rintro⟨hc,h⟩
 have h1:=kX dn k h.1
 have h2:=aad dn k (ay dH 2 cu) h
 have h3:=Sz dn k h
 have hl:=hc.len
 have hg0:decide ((cu.length:Int)>64)=false:=by simp;omega
 refine Si (fn:=Tryz.f308) Tryz.call308 ?_
 conv=>whnf
 repeat' first|((first|refine Ci h1 ?_|refine Sr ?_|refine Sg ?_|refine Ni ?_ ?_);conv=>whnf)
 refine aA [1,2,4,5,22,23] [2] (fun i:Nat=>[(24,.d (.int .i64 i))]) (fun i=>[]) (fun i=>i<=cu.length) (fun i=>cu.length-i) 0 ?_ (fun i hi=> ?_) Om
 ·conv=>whnf
  repeat' first|((first|refine Sg ?_|refine Ni ?_ ?_);conv=>whnf)|(refine ah (fun _=> ?_) (fun _=> ?_)<;>(conv=>whnf))
  all_goals try first|exact Lq
 ·conv=>whnf
  refine ah (fun hlt=> ?_) (fun hlt=> ?_)
  ·have hlt0:i<cu.length:=by simpa using hlt
   have hv:=qX (cu.getD i default).1 (cu.getD i default).2
   rw[hc.ok i hlt0]at hv
   have hw1:IntKind.i64.wrap ((i:Int)+1)=((i+1:Nat):Int):=wrap_succ (n:=1000) Om Om
   rcases Nat.eq_zero_or_pos i with h0|h0
   ·subst h0
    conv=>whnf
    repeat' first|((first|refine Ci hv ?_|refine Sr ?_|refine aG.mk 1 ?_ ?_ ?_|refine Sg ?_|refine Ni ?_ ?_);conv=>whnf)
    all_goals first
     |exact Lf
     |skip
   ·have hw2:IntKind.i64.wrap ((i:Int)-1)=((i-1:Nat):Int):=by rw[bQ Om Om];omega
    have hg:decide ((i:Int)>0)=true:=by simp;omega
    have hcmp:=b_ (cu.getD i default).1 (cu.getD i default).2 (cu.getD (IntKind.i64.wrap ((i:Int)-1)).toNat default).1 (cu.getD (IntKind.i64.wrap ((i:Int)-1)).toNat default).2
    have hle:decide (aV (cu.getD i default).1 (cu.getD i default).2 (cu.getD (IntKind.i64.wrap ((i:Int)-1)).toNat default).1 (cu.getD (IntKind.i64.wrap ((i:Int)-1)).toNat default).2<=0)=false:=by
     have:=hc.lt i hlt0 h0
     rw[hw2,Int.toNat_natCast]
     exact decide_eq_false Om
    conv=>whnf
    repeat' first|((first|refine Ci hv ?_|refine Ci hcmp ?_|refine Sr ?_|refine aG.mk (i+1) ?_ ?_ ?_|refine Sg ?_|refine Ni ?_ ?_);conv=>whnf)
    all_goals first
     |exact Lf|exact aF.of_eq (by rw[hw1])
     |(rw[hw2];exact⟨Om,Om⟩)
     |skip
  ·conv=>whnf
   repeat' first|((first|refine Ci h2 ?_|refine Ci h3 ?_|refine Sr ?_|refine aU 2 ?_|refine Sg ?_|refine Ni ?_ ?_);conv=>whnf)
   all_goals try simp only[cWk,VG,List.length_singleton]
   all_goals first
    |exact Lf|exact⟨Int.le_refl _,by show(0:Int)<((1:Nat):Int);decide⟩|exact⟨by decide,by decide⟩|exact⟨aB.cO (aI.cons (aB.d (aF.rows rfl (row_one (x:=([eU dn k],[])) (enc:=dI dn k) (lt6 (aF.refl _) (aF.refl _) (aF.refl _) (aF.refl _) (aF.refl _) (aF.refl _))))) (aI.refl _)),trivial⟩
    |(refine⟨?_,trivial⟩
      repeat' first|exact aI.nil|refine aB.cO ?_|refine aB.agg ?_|refine aI.cons ?_ ?_|exact aB.refl _|exact aN rfl|exact bn rfl|exact bY rfl
      done)
    |skip
theorem Vj(dn:Bool)(k:List UInt8)(cu:List dQ):(w_ cu∧(k.length:Int)<=64∧aK (eU dn k)=true)->
 Sc 308 [.agg (kR dn k),.d (ay dH 2 cu)] [] (.cO [.d (ay (dI dn k) 6 []),.d (.int .i64 0)]) []:=by
 rintro⟨hc,h⟩
 have h1:=kX dn k h.1
 have h2:=aae dn k (ay dH 2 cu) h
 have h3:=trivial
 have hl:=hc.len
 have hg0:decide ((cu.length:Int)>64)=false:=by simp;omega
 refine Si (fn:=Tryz.f308) Tryz.call308 ?_
 conv=>whnf
 repeat' first|((first|refine Ci h1 ?_|refine Sr ?_|refine Sg ?_|refine Ni ?_ ?_);conv=>whnf)
 refine aA [1,2,4,5,22,23] [2] (fun i:Nat=>[(24,.d (.int .i64 i))]) (fun i=>[]) (fun i=>i<=cu.length) (fun i=>cu.length-i) 0 ?_ (fun i hi=> ?_) Om
 ·conv=>whnf
  repeat' first|((first|refine Sg ?_|refine Ni ?_ ?_);conv=>whnf)|(refine ah (fun _=> ?_) (fun _=> ?_)<;>(conv=>whnf))
  all_goals try first|exact Lq
 ·conv=>whnf
  refine ah (fun hlt=> ?_) (fun hlt=> ?_)
  ·have hlt0:i<cu.length:=by simpa using hlt
   have hv:=qX (cu.getD i default).1 (cu.getD i default).2
   rw[hc.ok i hlt0]at hv
   have hw1:IntKind.i64.wrap ((i:Int)+1)=((i+1:Nat):Int):=wrap_succ (n:=1000) Om Om
   rcases Nat.eq_zero_or_pos i with h0|h0
   ·subst h0
    conv=>whnf
    repeat' first|((first|refine Ci hv ?_|refine Sr ?_|refine aG.mk 1 ?_ ?_ ?_|refine Sg ?_|refine Ni ?_ ?_);conv=>whnf)
    all_goals first
     |exact Lf
     |skip
   ·have hw2:IntKind.i64.wrap ((i:Int)-1)=((i-1:Nat):Int):=by rw[bQ Om Om];omega
    have hg:decide ((i:Int)>0)=true:=by simp;omega
    have hcmp:=b_ (cu.getD i default).1 (cu.getD i default).2 (cu.getD (IntKind.i64.wrap ((i:Int)-1)).toNat default).1 (cu.getD (IntKind.i64.wrap ((i:Int)-1)).toNat default).2
    have hle:decide (aV (cu.getD i default).1 (cu.getD i default).2 (cu.getD (IntKind.i64.wrap ((i:Int)-1)).toNat default).1 (cu.getD (IntKind.i64.wrap ((i:Int)-1)).toNat default).2<=0)=false:=by
     have:=hc.lt i hlt0 h0
     rw[hw2,Int.toNat_natCast]
     exact decide_eq_false Om
    conv=>whnf
    repeat' first|((first|refine Ci hv ?_|refine Ci hcmp ?_|refine Sr ?_|refine aG.mk (i+1) ?_ ?_ ?_|refine Sg ?_|refine Ni ?_ ?_);conv=>whnf)
    all_goals first
     |exact Lf|exact aF.of_eq (by rw[hw1])
     |(rw[hw2];exact⟨Om,Om⟩)
     |skip
  ·conv=>whnf
   repeat' first|((first|refine Ci h2 ?_|refine Ci h3 ?_|refine Sr ?_|refine aU 2 ?_|refine Sg ?_|refine Ni ?_ ?_);conv=>whnf)
   all_goals try simp only[cWk,VG,List.length_singleton]
   all_goals first
    |exact Lf|exact⟨Int.le_refl _,by show(0:Int)<((1:Nat):Int);decide⟩|exact⟨by decide,by decide⟩|exact⟨aB.cO (aI.cons (aB.d (aF.rows rfl (row_one (x:=([eU dn k],[])) (enc:=dI dn k) (lt6 (aF.refl _) (aF.refl _) (aF.refl _) (aF.refl _) (aF.refl _) (aF.refl _))))) (aI.refl _)),trivial⟩
    |(refine⟨?_,trivial⟩
      repeat' first|exact aI.nil|refine aB.cO ?_|refine aB.agg ?_|refine aI.cons ?_ ?_|exact aB.refl _|exact aN rfl|exact bn rfl|exact bY rfl
      done)
    |skip
theorem FK(dn:Bool)(k:List UInt8)(s:nR)(h:s.1.length<=1000∧s.2.length<=1000∧(aS s.2).length<=1000000):Sc 196 [.d (ay (dI dn k) 6 [s])] [] (.d (ay (dI dn k) 6 [s])) []:=(wY 4000 dn k s h).Nu
theorem Rk(dn:Bool)(k:List UInt8):Sc 273 [.d (ay (dI dn k) 6 [])] [] (.bW 1000 6 0 0) [(1000,.row 264 6 0 (cellOf (dI dn k) []))]:=by
 refine Si (fn:=Tryz.f273) Tryz.call273 ?_
 conv=>whnf
 repeat' first|((first|refine Sg ?_|refine Ni ?_ ?_);conv=>whnf)|(refine ah (fun _=> ?_) (fun _=> ?_)<;>(conv=>whnf))
 all_goals try simp only[cWk,VG,List.length_nil,true_and,and_true]at*
 all_goals first
  |exact Lf|exact⟨by decide,by decide⟩
  |skip
theorem vF(dn:Bool)(k:List UInt8):Sc 196 [.d (ay (dI dn k) 6 [])] [] (.d (ay (dI dn k) 6 [])) []:=by
 have h1:=(Rk dn k).new1 2000
 refine Si (fn:=Tryz.f196) Tryz.call196 ?_
 conv=>whnf
 repeat' first|((first|refine Ci h1 ?_|refine Sr ?_|refine aU 1 ?_|refine Sg ?_|refine Ni ?_ ?_);conv=>whnf)
 all_goals first
  |exact Lf
  |(refine⟨?_,trivial⟩
    repeat' first|exact aI.nil|refine aB.cO ?_|refine aB.agg ?_|refine aI.cons ?_ ?_|exact aB.refl _|exact aN rfl|exact bn rfl|exact bY rfl
    done)
  |skip
abbrev Qk(dn:Bool)(k:List UInt8)(cu:D)(t:Bool):List SV:=[.d (.int .i64 (sJ dn)),.d (ay dF 4 []),.d (.str k),.d (.int .i64 1),.d cu,.d (ay (dI dn k) 6 []),.d (ay (dI dn k) 6 []),.d (.bool t)]
theorem SB(dn:Bool)(k:List UInt8)(cu:List dQ):(w_ cu∧(k.length:Int)<=64∧aK (eU dn k)=false)->
 Sc 224 [.agg (kR dn k),.d (ay dH 2 cu)] [] (.cO [.agg (mV dn k (ay dH 2 cu) ([eU dn k],[]) ([eU dn k],[]) false),.d (.int .i64 0)]) []:=by
 intro h
 have h1:=Vh dn k cu h
 have h2:=iV dn k
 have h3:=qy cu (by have:=h.1.len;omega)
 have h4:=FK dn k ([eU dn k],[]) ⟨by show 1<=1000;decide,by show 0<=1000;decide,by show 0<=1000000;decide⟩
 refine Si (fn:=Tryz.f224) Tryz.call224 ?_
 conv=>whnf
 repeat' first|((first|refine Ci h1 ?_|refine Ci h2 ?_|refine Ci h3 ?_|refine Ci h4 ?_|refine Sr ?_|refine Sg ?_|refine Ni ?_ ?_);conv=>whnf)
 all_goals first
  |exact Lf
  |(refine⟨?_,trivial⟩
    repeat' first|exact aI.nil|refine aB.cO ?_|refine aB.agg ?_|refine aI.cons ?_ ?_|exact aB.refl _|exact aN rfl|exact bn rfl|exact bY rfl
    done)
  |skip
theorem SC(dn:Bool)(k:List UInt8)(cu:List dQ):(w_ cu∧(k.length:Int)<=64∧aK (eU dn k)=true)->
 Sc 224 [.agg (kR dn k),.d (ay dH 2 cu)] [] (.cO [.agg (Qk dn k (ay dH 2 cu) false),.d (.int .i64 0)]) []:=by
 intro h
 have h1:=Vj dn k cu h
 have h2:=iV dn k
 have h3:=qy cu (by have:=h.1.len;omega)
 have h4:=vF dn k
 refine Si (fn:=Tryz.f224) Tryz.call224 ?_
 conv=>whnf
 repeat' first|((first|refine Ci h1 ?_|refine Ci h2 ?_|refine Ci h3 ?_|refine Ci h4 ?_|refine Sr ?_|refine Sg ?_|refine Ni ?_ ?_);conv=>whnf)
 all_goals first
  |exact Lf
  |(refine⟨?_,trivial⟩
    repeat' first|exact aI.nil|refine aB.cO ?_|refine aB.agg ?_|refine aI.cons ?_ ?_|exact aB.refl _|exact aN rfl|exact bn rfl|exact bY rfl
    done)
  |skip
theorem ZJ(m:Nat)(vis:List dL):(vis.length<=1000∧(aS vis).length<=1000000)->Sc 197 [.d (ay dD 12 vis)] [] (.d (ay dD 12 vis)) []:=fun h=>(Ba m vis ⟨h.1,Ez h.2⟩).Nu
theorem akV{n k:Nat}{g:Nat->Nat->D}(vis:List dL):((vis.length<=1000∧(aS vis).length<=1000000)∧n=vis.length∧k=12∧aJ n 12 g (cellOf dD vis))->Sc 197 [.d (.list n k g)] [] (.d (ay dD 12 vis)) []:=by
 rintro⟨h,rfl,rfl,h2⟩
 exact(ZJ 4000 vis h).arg (aI.cons (aB.d (aF.rows rfl h2)) aI.nil)
theorem ahO{α:Type}[Inhabited α]{enc:α->List D}{n k:Nat}{xs:List α}:aJ n k (fun i j=>cellOf enc xs (0+i) j) (cellOf enc xs):=by simp only[Nat.zero_add];exact aJ.refl _ _ _
theorem Jo(dn:Bool)(k:List UInt8)(s:nR):(s.2.length<=1000∧(aS s.2).length<=1000000)->Sc 371 [.d (ay (dI dn k) 6 [s])] [] (.d (ay dD 12 s.2)) []:=by
 obtain⟨td,vs⟩:=s
 intro h
 have hl:vs.length<=1000:=h.1
 refine Si (fn:=Tryz.f371) Tryz.call371 ?_
 conv=>whnf
 repeat' first|((first|refine Cf (akV vs) ?_ ?_|refine Sr ?_|refine aU 2 ?_|refine Sg ?_|refine Ni ?_ ?_);conv=>whnf)
 all_goals try simp only[Yq]
 all_goals first
  |exact Lf|exact⟨h,rfl,Vz,ahO⟩
  |(show vs.length*144<=140737488355328∧vs.length<=9223372036854775807;exact⟨Om,Om⟩)
  |exact⟨Int.le_refl _,by show(0:Int)<((1:Nat):Int);decide⟩|exact⟨aB.refl _,trivial⟩
  |skip
theorem Jp(dn:Bool)(k:List UInt8):Sc 371 [.d (ay (dI dn k) 6 [])] [] (.d (ay dD 12 [])) []:=by
 have h1:=(ZJ 4000 [] ⟨by decide,by decide⟩).arg (args:=[.d (.val (.slice none 0 0))]) (aI.cons (aN rfl) aI.nil)
 refine Si (fn:=Tryz.f371) Tryz.call371 ?_
 conv=>whnf
 repeat' first|((first|refine Ci h1 ?_|refine Sr ?_|refine aU 2 ?_|refine Sg ?_|refine Ni ?_ ?_);conv=>whnf)
 all_goals first
  |exact Lf|exact⟨aB.refl _,trivial⟩|exact⟨aN rfl,trivial⟩
  |skip
abbrev xE(dn:Bool)(k:List UInt8)(a b:List dL):List SV:=[.d (.int .i64 (sJ dn)),.d (ay dF 4 []),.d (.str k),.d (.int .i64 1),.d (ay dD 12 a),.d (ay dD 12 b)]
theorem Un(dn:Bool)(k:List UInt8){F S:D}{a b:List dL}(ha:Sc 371 [.d F] [] (.d (ay dD 12 a)) [])(hb:Sc 371 [.d S] [] (.d (ay dD 12 b)) []):
 Sc 315 [.agg (kR dn k),.d F,.d S] [] (.agg (xE dn k a b)) []:=by
 have h1:=iV dn k
 refine Si (fn:=Tryz.f315) Tryz.call315 ?_
 conv=>whnf
 repeat' first|((first|refine Ci h1 ?_|refine Ci ha ?_|refine Ci hb ?_|refine Sg ?_|refine Ni ?_ ?_);conv=>whnf)|(refine ah (fun _=> ?_) (fun _=> ?_)<;>(conv=>whnf))
 all_goals first
  |exact Lf|exact⟨aB.refl _,trivial⟩
  |skip
theorem Qh(dn:Bool)(k:List UInt8)(cu:D)(f s:nR):((f.2.length<=1000∧(aS f.2).length<=1000000)∧(s.2.length<=1000∧(aS s.2).length<=1000000)∧eX s=true)->
 Sc 228 [.agg (mV dn k cu f s true)] [] (.cO [.agg (xE dn k f.2 s.2),.d (.int .i64 0)]) []:=by
 rintro⟨hf,hs,hd⟩
 have h1:=X4 dn k cu f s true hs
 rw[hd]at h1
 have h2:=Un dn k (Jo dn k f hf) (Jo dn k s hs)
 refine Si (fn:=Tryz.f228) Tryz.call228 ?_
 conv=>whnf
 repeat' first|((first|refine Ci h1 ?_|refine Ci h2 ?_|refine Sr ?_|refine Sg ?_|refine Ni ?_ ?_);conv=>whnf)|(refine ah (fun _=> ?_) (fun _=> ?_)<;>(conv=>whnf))
 all_goals first
  |exact Lf|exact⟨aB.refl _,trivial⟩
  |skip
theorem abg(dn:Bool)(k:List UInt8)(f s:nR):(f.2.length<=1000∧s.2.length<=1000)->
 Sc 152 [.agg (kR dn k),.d (ay (dI dn k) 6 [f]),.d (ay (dI dn k) 6 [s])] [] (.agg (xE dn k f.2 s.2)) []:=by
 obtain⟨ft,fv⟩:=f
 obtain⟨st,sv⟩:=s
 intro h
 have hf:fv.length<=1000:=h.1
 have hs:sv.length<=1000:=h.2
 clear h
 refine Si (fn:=Tryz.f152) Tryz.call152 ?_
 conv=>whnf
 repeat' first|((first|refine Sr ?_|refine aU 2 ?_|refine Sg ?_|refine Ni ?_ ?_);conv=>whnf)
 all_goals try simp only[Vz,Yq,List.length_singleton]
 all_goals first
  |exact Lf
  |(show fv.length*144<=140737488355328∧fv.length<=9223372036854775807;exact⟨Om,Om⟩)
  |(show sv.length*144<=140737488355328∧sv.length<=9223372036854775807;exact⟨Om,Om⟩)
  |(refine⟨aB.agg (aI.cons (aB.refl _) (aI.cons (aB.refl _) (aI.cons (aB.refl _) (aI.cons (aB.refl _) (aI.cons ?_ (aI.cons ?_ aI.nil)))))),trivial⟩
    ·exact bY (enc:=dD) (xs:=fv) rfl
    ·exact bY (enc:=dD) (xs:=sv) rfl)
  |skip
theorem abh(dn:Bool)(k:List UInt8):Sc 152 [.agg (kR dn k),.d (ay (dI dn k) 6 []),.d (ay (dI dn k) 6 [])] [] (.agg (xE dn k [] [])) []:=by
 refine Si (fn:=Tryz.f152) Tryz.call152 ?_
 conv=>whnf
 repeat' first|((first|refine Sr ?_|refine aU 2 ?_|refine Sg ?_|refine Ni ?_ ?_);conv=>whnf)
 all_goals first
  |exact Lf|exact⟨aB.agg (aI.cons (aB.refl _) (aI.cons (aB.refl _) (aI.cons (aB.refl _) (aI.cons (aB.refl _) (aI.cons (aN rfl) (aI.cons (aN rfl) aI.nil)))))),trivial⟩
  |skip
theorem Qg(dn:Bool)(k:List UInt8)(cu:D)(f s:nR):((f.2.length<=1000∧(aS f.2).length<=1000000)∧(s.2.length<=1000∧(aS s.2).length<=1000000)∧eX s=true)->
 Sc 81 [.agg (mV dn k cu f s true)] [] (.cO [.agg (xE dn k f.2 s.2),.d (.int .i64 0)]) []:=by
 rintro⟨hf,hs,hd⟩
 have h1:=LC dn k cu f s true hs
 rw[hd]at h1
 have h2:=abg dn k f s ⟨hf.1,hs.1⟩
 refine Si (fn:=Tryz.f81) Tryz.call81 ?_
 conv=>whnf
 repeat' first|((first|refine Ci h1 ?_|refine Ci h2 ?_|refine Sr ?_|refine Sg ?_|refine Ni ?_ ?_);conv=>whnf)|(refine ah (fun _=> ?_) (fun _=> ?_)<;>(conv=>whnf))
 all_goals first
  |exact Lf|exact⟨aB.refl _,trivial⟩
  |skip
end Go.Proofs.YtgdgkekpfmhbbaaGreatDoor
