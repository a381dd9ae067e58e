/- Part of a symbolic executor over the model, proved sound, with plain laws: SxTab. Written for this claim. -/
import Derived.Test.YtgdgkekpfmhbbaaGreatDoorSxRen
set_option linter.unusedVariables false
set_option linter.unusedSimpArgs false
namespace Go.Sx
open Go
def aP(k:List UInt8)(t:Bool):Bool:=decide ((k.length:Int)<=64)&&(!t||k==[])
def aV(ak:List UInt8)(at_:Bool)(bk:List UInt8)(bt:Bool):Int:=
 if at_&&bt then 0 else if at_ then 1 else if bt||Op.bytesLess ak bk then-1 else if Op.bytesLess bk ak then 1 else 0
def mJ(lk:List UInt8)(lt:Bool)(hk:List UInt8)(ht:Bool):Bool:=aP lk lt&&aP hk ht&&decide (aV lk lt hk ht<=0)
def eH(lk:List UInt8)(lt:Bool)(hk:List UInt8)(ht:Bool):Bool:= !(mJ lk lt hk ht)||aV lk lt hk ht==0
def fF(lk:List UInt8)(lt:Bool)(hk:List UInt8)(ht:Bool)(k:List UInt8):Bool:=
 !(eH lk lt hk ht)&&decide ((k.length:Int)<=64)&&decide (aV lk lt k false<=0)&&decide (aV k false hk ht<0)
abbrev Row:=List UInt8×List UInt8
def bF(r:Row):List D:=[.str r.1,.str r.2]
def rowOk(r:Row):Bool:=decide ((r.1.length:Int)<=64)&&decide ((r.2.length:Int)<=64)
def wZ(rows:List Row)(i:Nat):Bool:=rowOk (rows.getD i default)&&(i==0||Op.bytesLess (rows.getD (i-1) default).1 (rows.getD i default).1)
def iI(rows:List Row):Bool:=decide (rows.length<=1024)&&(List.range rows.length).all (wZ rows)
theorem Ei{rows:List Row}{i:Nat}(hi:i<rows.length)(h:wZ rows i=false):iI rows=false:=by
 unfold iI
 cases h1:(List.range rows.length).all (wZ rows)with
 |false=>simp
 |true=>
  have:=List.all_eq_true.1 h1 i (List.mem_range.2 hi)
  rw[h]at this
  cases this
theorem zU{rows:List Row}(hl:rows.length<=1024)(h: ∀i,i<rows.length->wZ rows i=true):iI rows=true:=by
 unfold iI
 rw[List.all_eq_true.2 (fun i hi=>h i (List.mem_range.1 hi))]
 simp[hl]
def iq(rows:List Row)(k:List UInt8):List Row:=rows.filter fun r=> !(r.1==k)
theorem Ec{rows:List Row}{k:List UInt8}{i:Nat}(h:i<rows.length)(hk:(!((rows.getD i default).1==k))=true):iq (rows.take (i+1)) k=iq (rows.take i) k++[rows.getD i default]:=by
 rw[take_succ' h,iq,List.filter_append,List.filter_cons,if_pos hk,List.filter_nil];rfl
theorem Ed{rows:List Row}{k:List UInt8}{i:Nat}(h:i<rows.length)(hk:(!((rows.getD i default).1==k))=false):iq (rows.take (i+1)) k=iq (rows.take i) k:=by
 rw[take_succ' h,iq,List.filter_append,List.filter_cons,if_neg (by rw[hk];simp),List.filter_nil,List.append_nil];rfl
def AO(x:Row):List Row->List Row
 |[]=>[x]
 |r::l=>if Op.bytesLess x.1 r.1 then x::r::l else r::AO x l
def zA(rows:List Row)(x:Row):List Row:=AO x (iq rows x.1)
theorem zT{rows:List Row}{k:List UInt8}:(iq rows k).length<=rows.length:=List.length_filter_le _ _
theorem Zq{x:Row}: ∀{l:List Row},(AO x l).length=l.length+1
 |[]=>rfl
 |r::l=>by
  simp only[AO]
  split
  ·rfl
  ·simp[Zq (l:=l)]
def Ai(rows:List Row)(k v:List UInt8):List Row×Int:=
 if !(iI rows)|| !(iI [(k,v)])then([],1)else if(zA rows (k,v)).length>1024 then([],16)else(zA rows (k,v),0)
theorem yD{rows:List Row}(h:iI rows=true):rows.length<=1024:=by
 simp only[iI,Bool.and_eq_true,decide_eq_true_eq]at h
 exact h.1
def Sorted(rows:List Row):Prop:=rows.Pairwise fun a b=>Op.bytesLess a.1 b.1=true
structure iW (rows:List Row):Prop where
 len:rows.length<=1024
 ok: ∀r∈rows,rowOk r=true
 sorted:Sorted rows
theorem jf{rows:List Row}:iI rows=true↔iW rows:=by
 constructor
 ·intro h
  simp only[iI,Bool.and_eq_true,decide_eq_true_eq,List.all_eq_true,List.mem_range]at h
  obtain⟨h1,h2⟩:=h
  have ok: ∀i(hi:i<rows.length),rowOk rows[i]=true∧(∀j(hj:j+1=i),Op.bytesLess (rows[j]'Om).1 rows[i].1=true):=by
   intro i hi
   have:=h2 i hi
   simp only[wZ,Bool.and_eq_true,Bool.or_eq_true,beq_iff_eq]at this
   refine⟨by simpa[List.getD,hi]using this.1,fun j hj=> ?_⟩
   subst hj
   have h3:=this.2.resolve_left Om
   simpa[List.getD,hi,show j<rows.length by omega]using h3
  refine⟨h1,fun r hr=> ?_,?_⟩
  ·obtain⟨i,hi,rfl⟩:=List.getElem_of_mem hr
   exact(ok i hi).1
  ·rw[Sorted,List.pairwise_iff_getElem]
   intro i j hi hj hij
   induction j with
   |zero=>omega
   |succ j ih=>
    have hs:=(ok (j+1) hj).2 j rfl
    rcases Nat.lt_or_ge i j with h|h
    ·exact jy (ih Om h) hs
    ·have:i=j:=Om
     subst this
     exact hs
 ·intro h
  refine zU h.len (fun i hi=> ?_)
  have h1:rowOk (rows.getD i default)=true:=by
   have e:rows.getD i default=rows[i]:=by simp[List.getD,hi]
   rw[e]
   exact h.ok _ (List.getElem_mem hi)
  simp only[wZ,h1,Bool.true_and,Bool.or_eq_true,beq_iff_eq]
  rcases Nat.eq_zero_or_pos i with h0|h0
  ·exact .inl h0
  ·right
   have:=List.pairwise_iff_getElem.1 h.sorted (i-1) i Om hi Om
   simpa[List.getD,hi,show i-1<rows.length by omega]using this
theorem Sorted.sub{l m:List Row}(h:Sorted m)(hs:l.Sublist m):Sorted l:=List.Pairwise.sublist hs h
theorem RU{rows:List Row}{k:List UInt8}:(iq rows k).Sublist rows:=List.filter_sublist
theorem Dp{rows:List Row}{k:List UInt8}{r:Row}(h:r∈iq rows k):r∈rows∧r.1≠k:=by
 simp only[iq,List.mem_filter,Bool.not_eq_true',beq_eq_false_iff_ne,ne_eq]at h
 exact h
theorem Ji{x r:Row}: ∀{l:List Row},r∈AO x l↔r=x∨r∈l
 |[]=>by simp[AO]
 |y::l=>by
  simp only[AO]
  split
  ·simp
  ·simp only[List.mem_cons,Ji (l:=l)]
   constructor
   ·rintro(h|h|h)
    ·exact .inr (.inl h)
    ·exact .inl h
    ·exact .inr (.inr h)
   ·rintro(h|h|h)
    ·exact .inr (.inl h)
    ·exact .inl h
    ·exact .inr (.inr h)
theorem KX{x:Row}: ∀{l:List Row},Sorted l->(∀r∈l,r.1≠x.1)->Sorted (AO x l)
 |[],_,_=>by simp[AO,Sorted]
 |y::l,h,hn=>by
  simp only[Sorted,List.pairwise_cons]at h
  simp only[AO]
  split
  ·rename_i hx
   simp only[Sorted,List.pairwise_cons]
   refine⟨fun r hr=> ?_,h⟩
   rcases List.mem_cons.1 hr with rfl|hr
   ·exact hx
   ·exact jy hx (h.1 r hr)
  ·rename_i hx
   have hx:Op.bytesLess x.1 y.1=false:=by simpa using hx
   have hyx:Op.bytesLess y.1 x.1=true:=by
    cases h2:Op.bytesLess y.1 x.1 with
    |true=>rfl
    |false=>exact absurd (L8 h2 hx) (hn y (by simp))
   simp only[Sorted,List.pairwise_cons]
   refine⟨fun r hr=> ?_,KX h.2 (fun r hr=>hn r (by simp[hr]))⟩
   rcases Ji.1 hr with rfl|hr
   ·exact hyx
   ·exact h.1 r hr
theorem afU{rows:List Row}{x:Row}(h:iW rows)(hx:rowOk x=true):(∀r∈zA rows x,rowOk r=true)∧Sorted (zA rows x)∧(zA rows x).length<=rows.length+1:=by
 refine⟨fun r hr=> ?_,?_,?_⟩
 ·rcases Ji.1 hr with rfl|hr
  ·exact hx
  ·exact h.ok r (Dp hr).1
 ·exact KX (h.sorted.sub RU) (fun r hr=>(Dp hr).2)
 ·unfold zA
  rw[Zq]
  have:=zT (rows:=rows) (k:=x.1)
  omega
theorem Gg:iW []:=⟨by simp,by simp,.nil⟩
theorem Wh{k v:List UInt8}:iI [(k,v)]=rowOk (k,v):=by
 simp[iI,wZ,List.range_succ]
theorem aiC{rows:List Row}{k v:List UInt8}(h:iW rows):iW (Ai rows k v).1∧(Ai rows k v).1.length<=rows.length+1:=by
 unfold Ai
 split
 ·exact⟨Gg,by simp⟩
 ·rename_i hv
  split
  ·exact⟨Gg,by simp⟩
  ·rename_i hl
   simp only[Bool.or_eq_true,Bool.not_eq_true',not_or,Bool.not_eq_false,Wh]at hv
   have hk:=afU h hv.2
   exact⟨⟨by simp only;omega,hk.1,hk.2.1⟩,hk.2.2⟩
theorem iH{k:List UInt8}{t:Bool}:aV k t k t=0:=by cases t<;>simp[aV,jX]
theorem abo{lk:List UInt8}{lt:Bool}{hk:List UInt8}{ht:Bool}(h:eH lk lt hk ht=false):(lk.length:Int)<=64∧fF lk lt hk ht lk=true:=by
 have h0:=h
 simp only[eH,mJ,aP,Bool.or_eq_false_iff,Bool.not_eq_false',Bool.and_eq_true,decide_eq_true_eq,beq_eq_false_iff_ne]at h
 obtain⟨⟨⟨⟨h1,h2⟩,h3,h4⟩,h5⟩,h6⟩:=h
 have hlt:lt=false:=by
  cases lt with
  |false=>rfl
  |true=>
   exfalso
   cases ht with
   |true=>exact h6 (by simp[aV])
   |false=>simp[aV]at h5
 subst hlt
 refine⟨h1,?_⟩
 simp only[fF,h0,Bool.not_false,Bool.true_and,Bool.and_eq_true,decide_eq_true_eq]
 exact⟨⟨h1,by rw[iH];decide⟩,Om⟩
abbrev dQ:=List UInt8×Bool
abbrev jl:=List UInt8×Bool×List UInt8×Bool
def dH(b:dQ):List D:=[.str b.1,.bool b.2]
def dF(r:jl):List D:=[.str r.1,.bool r.2.1,.str r.2.2.1,.bool r.2.2.2]
def iJ(rows:List Row)(lk:List UInt8)(lt:Bool)(hk:List UInt8)(ht:Bool):List Row:=rows.filter fun r=>fF lk lt hk ht r.1
theorem yG{rows:List Row}{lk:List UInt8}{lt:Bool}{hk:List UInt8}{ht:Bool}{i:Nat}(h:i<rows.length)(hc:fF lk lt hk ht (rows.getD i default).1=true):iJ (rows.take (i+1)) lk lt hk ht=iJ (rows.take i) lk lt hk ht++[rows.getD i default]:=by
 rw[take_succ' h,iJ,List.filter_append,List.filter_cons,if_pos hc,List.filter_nil];rfl
theorem yH{rows:List Row}{lk:List UInt8}{lt:Bool}{hk:List UInt8}{ht:Bool}{i:Nat}(h:i<rows.length)(hc:fF lk lt hk ht (rows.getD i default).1=false):iJ (rows.take (i+1)) lk lt hk ht=iJ (rows.take i) lk lt hk ht:=by
 rw[take_succ' h,iJ,List.filter_append,List.filter_cons,if_neg (by rw[hc];simp),List.filter_nil,List.append_nil];rfl
theorem Gj{rows:List Row}{lk:List UInt8}{lt:Bool}{hk:List UInt8}{ht:Bool}:(iJ rows lk lt hk ht).length<=rows.length:=List.length_filter_le _ _
theorem Rj{ak:List UInt8}{a:Bool}{bk:List UInt8}{b:Bool}:aV ak a bk b<0↔(a=false∧(b=true∨Op.bytesLess ak bk=true)):=by
 unfold aV
 cases a<;>cases b<;>cases h:Op.bytesLess ak bk<;>simp
 split<;>omega
theorem DW{ak:List UInt8}{a:Bool}{bk:List UInt8}{b:Bool}:aV ak a bk b<=0↔(b=true∨(a=false∧Op.bytesLess bk ak=false)):=by
 unfold aV
 cases a<;>cases b<;>cases h:Op.bytesLess ak bk<;>cases h2:Op.bytesLess bk ak<;>simp
 exact absurd (jy h h2) (by rw[jX];simp)
theorem LK{ak:List UInt8}{a:Bool}{bk:List UInt8}{b:Bool}:aV ak a bk b<=0↔¬aV bk b ak a<0:=by
 rw[DW,Rj]
 cases a<;>cases b<;>simp
end Go.Sx
namespace Go.Sx
open Go
structure aj where
 id:Int
 key:List UInt8
 word:Nat
deriving DecidableEq
instance:Inhabited aj:=⟨⟨0,[],0⟩⟩
def aZ(x:aj):List D:=[.int .i64 x.id,.str x.key,.int .u32 (x.word:Int)]
abbrev zF(x:aj):SV:= .agg [.d (.int .i64 x.id),.d (.str x.key),.d (.int .u32 (x.word:Int))]
def VW(x:aj):Bool:=decide (1<=x.id)&&(decide (x.id<=2147483647)&&(decide (x.key.length<=64)&&decide (x.word<=65535)))
def clash(x y:aj):Bool:=(y.id==x.id)||(y.key==x.key)
def zO:List aj->List aj->Bool
 |_,[]=>false
 |done,x::l=>done.any (clash x)||zO (done++[x]) l
def lZ(l:List aj):Int:=if 64<l.length then 3 else if l.all VW then(if zO [] l then 5 else 0)else 1
structure vK (l:List aj):Prop where
 len:l.length<=64
 ok: ∀x∈l,1<=x.id∧x.id<=2147483647∧x.key.length<=64∧x.word<=65535
 ids:(l.map (·.id)).Nodup
 keys:(l.map (·.key)).Nodup
theorem BJ{x:aj}:VW x=true↔1<=x.id∧x.id<=2147483647∧x.key.length<=64∧x.word<=65535:=by
 simp[VW]
theorem Lp: ∀{l done:List aj},(done.map (·.id)).Nodup->(done.map (·.key)).Nodup->(zO done l=false↔((done++l).map (·.id)).Nodup∧((done++l).map (·.key)).Nodup)
 |[],done,h1,h2=>by simp only[zO,List.append_nil,true_iff];exact⟨h1,h2⟩
 |x::l,done,h1,h2=>by
  have e:done++x::l=(done++[x])++l:=by simp
  rw[e]
  simp only[zO,Bool.or_eq_false_iff]
  by_cases hc:done.any (clash x)=true
  ·simp only[hc,Bool.true_eq_false,false_and,false_iff,not_and]
   intro h3 h4
   obtain⟨y,hy,hxy⟩:=List.any_eq_true.1 hc
   simp only[clash,Bool.or_eq_true,beq_iff_eq]at hxy
   rw[List.map_append,List.nodup_append]at h3 h4
   have g3:=h3.1
   have g4:=h4.1
   rw[List.map_append,List.nodup_append]at g3 g4
   rcases hxy with hxy|hxy
   ·exact g3.2.2 y.id (List.mem_map.2 ⟨y,hy,rfl⟩) x.id (by simp) hxy
   ·exact g4.2.2 y.key (List.mem_map.2 ⟨y,hy,rfl⟩) x.key (by simp) hxy
  ·have hc:done.any (clash x)=false:=by simpa using hc
   have hn: ∀y∈done,y.id≠x.id∧y.key≠x.key:=by
    intro y hy
    have:=List.any_eq_false.1 hc y hy
    simpa[clash]using this
   simp only[hc,true_and]
   refine Lp ?_ ?_
   ·rw[List.map_append,List.nodup_append]
    refine⟨h1,by simp,?_⟩
    intro a ha b hb
    simp only[List.map_cons,List.map_nil,List.mem_singleton]at hb
    obtain⟨y,hy,rfl⟩:=List.mem_map.1 ha
    rw[hb];exact(hn y hy).1
   ·rw[List.map_append,List.nodup_append]
    refine⟨h2,by simp,?_⟩
    intro a ha b hb
    simp only[List.map_cons,List.map_nil,List.mem_singleton]at hb
    obtain⟨y,hy,rfl⟩:=List.mem_map.1 ha
    rw[hb];exact(hn y hy).2
theorem oM{l:List aj}:lZ l=0↔vK l:=by
 unfold lZ
 constructor
 ·intro h
  split at h
  ·simp at h
  ·rename_i h1
   split at h
   ·rename_i h2
    split at h
    ·simp at h
    ·rename_i h3
     have h3:zO [] l=false:=by simpa using h3
     have:=(Lp (by simp) (by simp)).1 h3
     exact⟨Om,fun x hx=>BJ.1 (List.all_eq_true.1 h2 x hx),this.1,this.2⟩
   ·simp at h
 ·rintro⟨h1,h2,h3,h4⟩
  rw[if_neg Om,if_pos (List.all_eq_true.2 fun x hx=>BJ.2 (h2 x hx)),if_neg]
  rw[(Lp (l:=l) (done:=[]) (by simp) (by simp)).2 ⟨h3,h4⟩]
  simp
theorem Ht{α:Type}[Inhabited α]{p:α->Bool}{xs:List α}{i:Nat}(h:i<xs.length):(xs.drop i).all p=(p (xs.getD i default)&&(xs.drop (i+1)).all p):=by
 rw[List.drop_eq_getElem_cons h,List.all_cons]
 simp only[List.getD,List.getElem?_eq_getElem h,Option.getD_some]
theorem G_{xs:List aj}{i:Nat}(h:i<xs.length):zO (xs.take i) (xs.drop i)=((xs.take i).any (clash (xs.getD i default))||zO (xs.take (i+1)) (xs.drop (i+1))):=by
 have e:xs.take (i+1)=xs.take i++[xs.getD i default]:=by
  rw[List.take_add_one,List.getElem?_eq_getElem h];simp[List.getD,h]
 rw[e,List.drop_eq_getElem_cons h]
 simp only[zO,List.getD,List.getElem?_eq_getElem h,Option.getD_some]
theorem Pm{xs:List aj}{i:Nat}(h1: ¬64<xs.length)(hi:i<xs.length)(h2:xs.all VW=(xs.drop i).all VW)(h3:VW (xs.getD i default)=false):lZ xs=1:=by
 unfold lZ
 rw[if_neg h1,if_neg]
 rw[h2,Ht hi,h3];simp
theorem Pj{xs:List aj}{i:Nat}(h1: ¬64<xs.length)(hi:i<xs.length)(h2:xs.all VW=true)(h3:zO [] xs=zO (xs.take i) (xs.drop i))(h4:(xs.take i).any (clash (xs.getD i default))=true):lZ xs=5:=by
 unfold lZ
 rw[if_neg h1,if_pos h2,if_pos]
 rw[h3,G_ hi,h4];rfl
theorem Vs{xs:List aj}{i:Nat}(h1: ¬64<xs.length)(hi:xs.length<=i)(h2:xs.all VW=true)(h3:zO [] xs=zO (xs.take i) (xs.drop i)):lZ xs=0:=by
 unfold lZ
 rw[if_neg h1,if_pos h2,if_neg]
 rw[h3,List.drop_eq_nil_of_le hi];simp[zO]
theorem abV{x y:aj}(h:(x.id==y.id)=true):clash x y=true:=by
 have:=eq_of_beq h;simp[clash,this]
theorem abU{x y:aj}(h:(x.key==y.key)=true):clash x y=true:=by
 have:=eq_of_beq h;simp[clash,this]
theorem abW{x y:aj}(h:(x.id==y.id)=false)(h':(x.key==y.key)=false):clash x y=false:=by
 simp only[clash,Bool.or_eq_false_iff,beq_eq_false_iff_ne]at*
 exact⟨Ne.symm h,Ne.symm h'⟩
theorem Dl{xs:List aj}{k j:Nat}{p:aj->Bool}(hk:k<=xs.length)(hj:j<k):((xs.take k).drop j).any p=(p (xs.getD j default)||((xs.take k).drop (j+1)).any p):=by
 have hjl:j<(xs.take k).length:=by simp;omega
 rw[List.drop_eq_getElem_cons hjl,List.any_cons]
 congr 2
 simp[List.getD,show j<xs.length by omega]
theorem RD{xs:List aj}{k j:Nat}{p:aj->Bool}(hj:k<=j):((xs.take k).drop j).any p=false:=by
 rw[List.drop_eq_nil_of_le (by simp;omega)];rfl
def iP{α:Type}(p:α->Bool):List α->Nat->Int
 |[],_=> -1
 |x::l,i=>if p x then(i:Int)else iP p l (i+1)
theorem fV{α:Type}[Inhabited α]{p:α->Bool}{xs:List α}{i:Nat}(h:i<xs.length):iP p (xs.drop i) i=if p (xs.getD i default)then(i:Int)else iP p (xs.drop (i+1)) (i+1):=by
 rw[List.drop_eq_getElem_cons h]
 simp[iP,List.getD,h]
theorem sK{α:Type}{p:α->Bool}{xs:List α}{i:Nat}(h:xs.length<=i):iP p (xs.drop i) i= -1:=by
 rw[List.drop_eq_nil_of_le h];rfl
theorem jk{α:Type}[Inhabited α]{p:α->Bool}: ∀{xs:List α}{f:Nat},iP p xs f= -1∧xs.any p=false∨∃i,iP p xs f=((f+i:Nat):Int)∧i<xs.length∧p (xs.getD i default)=true∧∀j,j<i->p (xs.getD j default)=false
 |[],f=> .inl ⟨rfl,rfl⟩
 |x::l,f=>by
  by_cases h:p x=true
  ·exact .inr ⟨0,by simp[iP,h],by simp,by simpa using h,by simp⟩
  ·have h:p x=false:=by simpa using h
   rcases jk (p:=p) (xs:=l) (f:=f+1)with⟨h1,h2⟩|⟨i,h1,h2,h3,h4⟩
   ·exact .inl ⟨by simp[iP,h,h1],by simp[h,h2]⟩
   ·refine .inr ⟨i+1,by simp[iP,h,h1];omega,by simpa using h2,by simpa using h3,fun j hj=> ?_⟩
    cases j with
    |zero=>simpa using h
    |succ j=>simpa using h4 j Om
theorem AQ{α:Type}[Inhabited α]{p:α->Bool}{xs:List α}:decide (iP p xs 0>=0)=xs.any p:=by
 rcases jk (p:=p) (xs:=xs) (f:=0)with⟨h1,h2⟩|⟨i,h1,h2,h3,h4⟩
 ·rw[h1,h2];rfl
 ·rw[h1]
  have:xs.any p=true:=List.any_eq_true.2 ⟨xs.getD i default,by simp[List.getD,h2],h3⟩
  rw[this];simp
def o9(l:List aj)(id:Int):Option aj:=l.find? fun x=>x.id==id
end Go.Sx
namespace Go.Sx
open Go
variable {P:Program}{G:Nat->Option (Nat×(Nat->D))}
theorem Spec.ZK{f:FuncId}{len sz:Nat}{get:Nat->Nat->D}{res:SV}{post:List (Nat×bG)}(h1:len=0-> ∀c,Spec P G f [.d (.val (.slice none 0 c))] [] res post)(h2:Spec P G f [.d (.nl len sz get)] [] res post):
 Spec P G f [.d (.list len sz get)] [] res post where
 keys:=h2.keys
 apart:=h2.apart
 lu:=h2.lu
 jI:=h2.jI
 kind:=h2.kind
 enter:=h2.enter
 calls:=by
  intro w I ρ vs hr hp hi hl hg
  simp only[aT,aC,bM]at hr
  obtain⟨v,r,rfl,⟨ad,cap,rfl,hc,hk⟩,rfl⟩:=hr
  cases ad with
  |none=>
   have h0:len=0:=by
    rcases Nat.eq_zero_or_pos len with h|h
    ·exact h
    ·obtain⟨_,_,e,_⟩:=hk h;cases e
   subst h0
   exact(h1 rfl cap).calls w I ρ _ (by simp only[aT,aC,bM];exact⟨_,_,rfl,⟨rfl,rfl⟩,rfl⟩) hp hi hl hg
  |some a=>
   refine h2.calls w I ρ _ (by
    simp only[aT,aC,bM]
    refine⟨_,_,rfl,⟨a,cap,rfl,hc,fun h=> ?_⟩,rfl⟩
    obtain⟨b,o,e,hb⟩:=hk h
    exact⟨b,o,by cases e;rfl,hb⟩) hp hi hl hg
end Go.Sx
namespace Go.Sx
open Go
structure mD where
 count:Int
 numbers:Int
 sum:Int
 low:Int
 high:Int
 first:List UInt8
 last:List UInt8
abbrev zk(f:mD):SV:= .agg [.d (.int .i64 f.count),.d (.int .i64 f.numbers),.d (.int .i64 f.sum),.d (.int .i64 f.low),.d (.int .i64 f.high),.d (.str f.first),.d (.str f.last)]
def ku(s:List UInt8):Nat->Nat->Int->Option Int
 |0,_,acc=>some acc
 |f+1,pos,acc=>if pos<s.length then
   (if((gW s pos).1:Int)<48∨((gW s pos).1:Int)>57 then none
    else
     if IntKind.i64.wrap (IntKind.i64.wrap (acc*10)+IntKind.i64.wrap (IntKind.i32.wrap ((gW s pos).1-48)))>1000000000000 then none
     else ku s f (pos+(gW s pos).2) (IntKind.i64.wrap (IntKind.i64.wrap (acc*10)+IntKind.i64.wrap (IntKind.i32.wrap ((gW s pos).1-48)))))
  else some acc
theorem WC{s:List UInt8}{pos:Nat}(h:pos<s.length):1<=(gW s pos).2:=by
 unfold gW
 by_cases ha:((ByteArray.mk ⟨s⟩)[pos]'h).toNat<128
 ·rw[decode_ascii ⟨⟨s⟩⟩ pos h ha];exact Nat.le_refl _
 ·exact(decode_high ⟨⟨s⟩⟩ pos h Om).2
theorem Uh{s:List UInt8}{f pos:Nat}{acc:Int}(h: ¬pos<s.length):ku s f pos acc=some acc:=by
 cases f with
 |zero=>rfl
 |succ f=>simp[ku,h]
def iO(s:List UInt8)(neg:Bool):Int×Bool:=
 if s=[]then(0,false)
 else if((s.getD 0 0).toNat:Int)=48∧((s.length:Int)>1∨neg=true)then(0,false)
 else match ku s s.length 0 0 with
  |none=>(0,false)
  |some v=>(if neg then IntKind.i64.wrap (0-v)else v,true)
def number(l:List UInt8):Int×Bool:=
 if(l.length:Int)>0∧((l.getD 0 0).toNat:Int)=45 then iO (l.drop 1) true else iO l false
def wP(s:List UInt8)(x:Nat×Nat×Int):Prop:=s.length<=x.2.1+x.1∧ku s x.1 x.2.1 x.2.2=ku s s.length 0 0
theorem yU{s:List UInt8}{x:Nat×Nat×Int}(h:wP s x)(hp:x.2.1.blt s.length=true): ∃f,x.1=f+1∧x.2.1<s.length:=by
 have hp:x.2.1<s.length:=Nat.le_of_ble_eq_true hp
 have:=h.1
 exact⟨x.1-1,Om,hp⟩
theorem rD{s:List UInt8}{x:Nat×Nat×Int}(h:wP s x)(hp:x.2.1.blt s.length=true)(hc:((gW s x.2.1).1:Int)<48∨((gW s x.2.1).1:Int)>57):ku s s.length 0 0=none:=by
 obtain⟨f,e,hlt⟩:=yU h hp
 rw[<-h.2,e]
 simp only[ku,hlt,hc,if_true]
theorem Dy{s:List UInt8}{x:Nat×Nat×Int}(h:wP s x)(hp:x.2.1.blt s.length=true)(h1: ¬((gW s x.2.1).1:Int)<48)(h2: ¬((gW s x.2.1).1:Int)>57)
 (h3:IntKind.i64.wrap (IntKind.i64.wrap (x.2.2*10)+IntKind.i64.wrap (IntKind.i32.wrap ((gW s x.2.1).1-48)))>1000000000000):ku s s.length 0 0=none:=by
 obtain⟨f,e,hlt⟩:=yU h hp
 rw[<-h.2,e]
 simp only[ku,hlt,h1,h2,h3,or_self,if_true,if_false]
theorem Aq{s:List UInt8}{x:Nat×Nat×Int}(h:wP s x)(hp:x.2.1.blt s.length=true)(h1: ¬((gW s x.2.1).1:Int)<48)(h2: ¬((gW s x.2.1).1:Int)>57)
 (h3: ¬IntKind.i64.wrap (IntKind.i64.wrap (x.2.2*10)+IntKind.i64.wrap (IntKind.i32.wrap ((gW s x.2.1).1-48)))>1000000000000):
 wP s (x.1-1,x.2.1+(gW s x.2.1).2,IntKind.i64.wrap (IntKind.i64.wrap (x.2.2*10)+IntKind.i64.wrap (IntKind.i32.wrap ((gW s x.2.1).1-48)))):=by
 obtain⟨f,e,hlt⟩:=yU h hp
 have hw:=WC hlt
 refine⟨by have:=h.1;simp only;omega,?_⟩
 rw[<-h.2,e]
 simp only[ku,hlt,h1,h2,h3,or_self,if_true,if_false,Nat.add_sub_cancel]
theorem GI{s:List UInt8}{x:Nat×Nat×Int}(h:wP s x)(hp:x.2.1.blt s.length=true):x.1-1<x.1:=by
 obtain⟨f,e,hlt⟩:=yU h hp
 omega
theorem Dx{s:List UInt8}{x:Nat×Nat×Int}(h:wP s x)(hp:x.2.1.blt s.length=false):ku s s.length 0 0=some x.2.2:=by
 rw[<-h.2]
 refine Uh (fun hlt=> ?_)
 rw[show x.2.1.blt s.length=true from Nat.ble_eq_true_of_le hlt]at hp
 cases hp
abbrev cells(f:mD):List SV:=[.d (.int .i64 f.count),.d (.int .i64 f.numbers),.d (.int .i64 f.sum),.d (.int .i64 f.low),.d (.int .i64 f.high),.d (.str f.first),.d (.str f.last)]
abbrev Q9(k v:List UInt8):SV:= .agg [.d (.str k),.d (.str v)]
def I7(f:mD)(k v:List UInt8):mD:=
 if(number v).2=true then
  {count:=IntKind.i64.wrap (f.count+1),first:=if f.count=0 then k else f.first,last:=k,numbers:=IntKind.i64.wrap (f.numbers+1),sum:=IntKind.i64.wrap (f.sum+(number v).1),
   low:=if f.numbers=0∨(number v).1<f.low then(number v).1 else f.low,high:=if f.numbers=0∨(number v).1>f.high then(number v).1 else f.high}
 else {count:=IntKind.i64.wrap (f.count+1),first:=if f.count=0 then k else f.first,last:=k,numbers:=f.numbers,sum:=f.sum,low:=f.low,high:=f.high}
def wC(acc:Int)(b:UInt8):Int:=IntKind.i64.wrap (IntKind.i64.wrap (10*acc)+IntKind.i64.wrap (IntKind.u8.wrap ((b.toNat:Int)-48)))
def kJ:List UInt8->Int->Option Int
 |[],acc=>some acc
 |b::l,acc=>if(b.toNat:Int)<48∨(b.toNat:Int)>57 then none else kJ l (wC acc b)
def jQ(s:List UInt8)(neg:Bool):Int×Bool:=
 if(s.length:Int)=0∨(s.length:Int)>13 then(0,false)
 else if((s.getD 0 0).toNat:Int)=48∧((s.length:Int)>1∨neg=true)then(0,false)
 else match kJ s 0 with
  |none=>(0,false)
  |some v=>if v>1000000000000 then(0,false)else(if neg then IntKind.i64.wrap (0-v)else v,true)
def gI(l:List UInt8):Int×Bool:=
 if(l.length:Int)>1∧((l.getD 0 0).toNat:Int)=45 then jQ (l.drop 1) true else jQ l false
def Ah(s:List UInt8)(x:Nat×Int):Prop:=x.1<=s.length∧kJ (s.drop x.1) x.2=kJ s 0
theorem Ag{s:List UInt8}{i:Nat}(h:i<s.length):s.drop i=s.getD i 0::s.drop (i+1):=by
 rw[List.drop_eq_getElem_cons h]
 simp[List.getD,h]
theorem mP{s:List UInt8}{x:Nat×Int}(h:Ah s x)(h1:(x.1:Int)<s.length)(hc:((s.getD x.1 0).toNat:Int)<48∨((s.getD x.1 0).toNat:Int)>57):kJ s 0=none:=by
 rw[<-h.2,Ag Om]
 simp only[kJ,hc,if_true]
theorem wE{s:List UInt8}{x:Nat×Int}(h:Ah s x)(h1:(x.1:Int)<s.length)(h2: ¬((s.getD x.1 0).toNat:Int)<48)(h3: ¬((s.getD x.1 0).toNat:Int)>57):Ah s (x.1+1,wC x.2 (s.getD x.1 0)):=by
 refine⟨by simp only;omega,?_⟩
 rw[<-h.2,Ag (show x.1<s.length by omega)]
 simp only[kJ,h2,h3,or_self,if_false]
theorem yN{s:List UInt8}{x:Nat×Int}(h:Ah s x)(h1: ¬(x.1:Int)<s.length):kJ s 0=some x.2:=by
 rw[<-h.2,List.drop_eq_nil_of_le Om]
 rfl
theorem yM{s:List UInt8}{x:Nat×Int}(h:(x.1:Int)<s.length)(hl: ¬(s.length:Int)>13):IntKind.i64.wrap ((x.1:Int)+1)=((x.1+1:Nat):Int):=by
 rw[bQ Om Om];rfl
def jw:List UInt8->Int->Option Int
 |[],acc=>some acc
 |b::l,acc=>if(b.toNat:Int)<48∨(b.toNat:Int)>57 then none else if acc*10+(b.toNat-48)>1000000000000 then none else jw l (acc*10+(b.toNat-48))
theorem aaj{n:Int}(h1: -2147483648<=n)(h2:n<2147483648):IntKind.i32.wrap n=n:=by
 simp[IntKind.wrap,IntKind.bits,IntKind.signed]
 split<;>omega
theorem aah{n:Int}(h1:0<=n)(h2:n<256):IntKind.u8.wrap n=n:=by
 simp[IntKind.wrap,IntKind.bits,IntKind.signed]
 omega
theorem WE{s:List UInt8}{pos:Nat}(h:pos<s.length)(hb:(s.getD pos 0).toNat<128):gW s pos=((s.getD pos 0).toNat,1):=by
 have e:(s.getD pos 0)=(ByteArray.mk ⟨s⟩)[pos]'h:=by simp[List.getD,h];rfl
 rw[e]at hb⊢
 exact decode_ascii ⟨⟨s⟩⟩ pos h hb
theorem Tf{s:List UInt8}{pos:Nat}(h:pos<s.length)(hb: ¬(s.getD pos 0).toNat<128):128<=(gW s pos).1:=by
 have e:(s.getD pos 0)=(ByteArray.mk ⟨s⟩)[pos]'h:=by simp[List.getD,h];rfl
 rw[e]at hb
 exact(decode_high ⟨⟨s⟩⟩ pos h Om).1
theorem CY{s:List UInt8}: ∀(f pos:Nat)(acc:Int),s.length<=pos+f->0<=acc->acc<=1000000000000->ku s f pos acc=jw (s.drop pos) acc
 |0,pos,acc,h,_,_=>by rw[List.drop_eq_nil_of_le Om];rfl
 |f+1,pos,acc,h,h0,h1=>by
  by_cases hp:pos<s.length
  ·rw[Ag hp]
   by_cases hb:(s.getD pos 0).toNat<128
   ·simp only[ku,hp,if_true,WE hp hb,jw]
    generalize (s.getD pos 0).toNat=b at*
    by_cases hd:(b:Int)<48∨(b:Int)>57
    ·simp only[hd,if_true]
    ·simp only[hd,if_false]
     have w1:IntKind.i64.wrap (acc*10)=acc*10:=bQ Om Om
     have w2:IntKind.i32.wrap ((b:Int)-48)=(b:Int)-48:=aaj Om Om
     have w3:IntKind.i64.wrap ((b:Int)-48)=(b:Int)-48:=bQ Om Om
     have w4:IntKind.i64.wrap (acc*10+((b:Int)-48))=acc*10+((b:Int)-48):=bQ Om Om
     rw[w1,w2,w3,w4]
     by_cases hbig:acc*10+((b:Int)-48)>1000000000000
     ·simp only[hbig,if_true]
     ·simp only[hbig,if_false]
      exact CY f (pos+1) _ Om Om Om
   ·have hr:=Tf hp hb
    simp only[ku,hp,if_true,jw]
    rw[if_pos (Or.inr (show((gW s pos).1:Int)>57 by omega)),if_pos (Or.inr (show((s.getD pos 0).toNat:Int)>57 by omega))]
  ·rw[List.drop_eq_nil_of_le Om]
   simp only[ku,hp,if_false,jw]
theorem Ar(s:List UInt8):ku s s.length 0 0=jw s 0:=by
 rw[CY s.length 0 0 Om (by decide) (by decide)];rfl
theorem zo: ∀{l:List UInt8}{acc v:Int},jw l acc=some v->0<=acc->acc*10^l.length<=v∧(acc<=1000000000000->v<=1000000000000)
 |[],acc,v,h,_=>by
  simp only[jw,Option.some.injEq]at h
  subst h
  simp
 |b::l,acc,v,h,h0=>by
  simp only[jw]at h
  split at h
  ·cases h
  ·rename_i hd
   split at h
   ·cases h
   ·rename_i hb
    obtain⟨h1,h2⟩:=zo h Om
    refine⟨?_,fun _=>h2 Om⟩
    rw[List.length_cons,Int.pow_succ]
    have hp:(0:Int)<=10^l.length:=Int.pow_nonneg (by decide)
    have h3:acc*10*10^l.length<=(acc*10+((b.toNat:Int)-48))*10^l.length:=Int.mul_le_mul_of_nonneg_right Om hp
    have h4:acc*(10^l.length*10)=acc*10*10^l.length:=by rw[Int.mul_comm (10^l.length) 10,Int.mul_assoc]
    rw[h4]
    omega
theorem NK{l:List UInt8}(h:l.length>13)(h0: ¬((l.getD 0 0).toNat:Int)=48):jw l 0=none:=by
 cases l with
 |nil=>simp at h
 |cons b l=>
  simp only[List.getD_cons_zero]at h0
  cases hv:jw (b::l) 0 with
  |none=>rfl
  |some v=>
   exfalso
   simp only[jw]at hv
   split at hv
   ·cases hv
   ·split at hv
    ·cases hv
    ·obtain⟨h1,h2⟩:=zo hv Om
     have h3:=h2 Om
     have hp:(10:Int)^13<=10^l.length:=by
      have:(10:Nat)^13<=10^l.length:=Nat.pow_le_pow_right (by decide) (by simp at h;omega)
      exact_mod_cast this
     have h4:1*10^l.length<=(0*10+((b.toNat:Int)-48))*10^l.length:=Int.mul_le_mul_of_nonneg_right Om (Int.pow_nonneg (by decide))
     have h5:(10:Int)^13=10000000000000:=rfl
     omega
theorem JZ{acc:Int}{b:UInt8}(h0:0<=acc)(h1:acc<=100000000000000000)(h2: ¬((b.toNat:Int)<48∨(b.toNat:Int)>57)):wC acc b=acc*10+(b.toNat-48):=by
 unfold wC
 rw[bQ (n:=10*acc) Om Om,aah (n:=(b.toNat:Int)-48) Om Om,bQ (n:=(b.toNat:Int)-48) Om Om,bQ Om Om]
 omega
theorem L6{acc d:Int}{k:Nat}(h0:0<=acc)(hd:d<=9)(h:(acc+1)*10^(k+1)<=100000000000000000):acc<=100000000000000000∧(acc*10+d+1)*10^k<=100000000000000000:=by
 rw[Int.pow_succ]at h
 have hp:(1:Int)<=10^k:=by
  have:1<=(10:Nat)^k:=Nat.one_le_pow _ _ (by decide)
  exact_mod_cast this
 generalize (10:Int)^k=p at*
 have e:(acc+1)*(p*10)=(acc*10+10)*p:=by rw[Int.mul_comm p 10,<-Int.mul_assoc,Int.add_mul];rfl
 rw[e]at h
 refine⟨?_,?_⟩
 ·have:(acc*10+10)*1<=(acc*10+10)*p:=Int.mul_le_mul_of_nonneg_left hp Om
  omega
 ·have:(acc*10+d+1)*p<=(acc*10+10)*p:=Int.mul_le_mul_of_nonneg_right Om Om
  omega
theorem EJ: ∀{l:List UInt8}{acc v:Int},0<=acc->(acc+1)*10^l.length<=100000000000000000->kJ l acc=some v->acc<=v
 |[],acc,v,_,_,h=>by simp only[kJ,Option.some.injEq]at h;omega
 |b::l,acc,v,h0,hb,h=>by
  simp only[kJ]at h
  split at h
  ·cases h
  ·rename_i hd
   rw[List.length_cons]at hb
   obtain⟨k1,k2⟩:=L6 (d:=(b.toNat:Int)-48) h0 Om hb
   rw[JZ h0 k1 hd]at h
   have:=EJ Om k2 h
   omega
theorem CU: ∀{l:List UInt8}{acc:Int},0<=acc->acc<=1000000000000->(acc+1)*10^l.length<=100000000000000000->
 jw l acc=match kJ l acc with|none=>none|some v=>if v>1000000000000 then none else some v
 |[],acc,_,h1,_=>by simp only[jw,kJ];rw[if_neg Om]
 |b::l,acc,h0,h1,hb=>by
  simp only[jw,kJ]
  by_cases hd:(b.toNat:Int)<48∨(b.toNat:Int)>57
  ·simp only[hd,if_true]
  ·simp only[hd,if_false]
   rw[List.length_cons]at hb
   obtain⟨k1,k2⟩:=L6 (d:=(b.toNat:Int)-48) h0 Om hb
   rw[JZ h0 k1 hd]
   by_cases hbig:acc*10+((b.toNat:Int)-48)>1000000000000
   ·simp only[hbig,if_true]
    cases hr:kJ l (acc*10+((b.toNat:Int)-48))with
    |none=>rfl
    |some v=>
     have:=EJ Om k2 hr
     simp only
     rw[if_pos Om]
   ·simp only[hbig,if_false]
    exact CU Om Om k2
theorem YJ(s:List UInt8)(neg:Bool):jQ s neg=iO s neg:=by
 unfold jQ iO
 by_cases h0:s=[]
 ·subst h0;simp
 ·have hl:=ad7 h0
  rw[if_neg h0]
  by_cases h13:(s.length:Int)>13
  ·rw[if_pos (.inr h13)]
   split
   ·rfl
   ·rename_i hz
    rw[Ar,NK Om (fun e=>hz ⟨e,.inl Om⟩)]
  ·rw[if_neg Om]
   split
   ·rfl
   ·rw[Ar,CU (by decide) (by decide)]
    ·cases kJ s 0 with
     |none=>rfl
     |some v=>
      simp only
      by_cases hv:v>1000000000000
      ·simp only[hv,if_true]
      ·simp only[hv,if_false]
    ·have:(10:Nat)^s.length<=10^13:=Nat.pow_le_pow_right (by decide) Om
     have h2:(10:Int)^s.length<=10^13:=by exact_mod_cast this
     have h5:(10:Int)^13=10000000000000:=rfl
     omega
theorem number_eq(l:List UInt8):gI l=number l:=by
 unfold gI number
 by_cases h1:(l.length:Int)>1
 ·simp only[h1,true_and,YJ,show(l.length:Int)>0 by omega]
 ·rw[if_neg (fun h=>h1 h.1),YJ]
  by_cases h2:(l.length:Int)>0∧((l.getD 0 0).toNat:Int)=45
  ·rw[if_pos h2]
   match l,h1,h2 with
   |[b],_,h2=>
    have hb:b=45:=UInt8.toNat.inj (by have:=h2.2;simp only[List.getD_cons_zero]at this;show b.toNat=45;omega)
    subst hb
    decide
   |[],_,h2=>simp at h2
   |_::_::_,h1,_=>simp at h1;omega
  ·rw[if_neg h2]
def OW:mD:=⟨0,0,0,0,0,[],[]⟩
def qm(rows:List Row):mD:=rows.foldl (fun f r=>I7 f r.1 r.2) OW
theorem UY{rows:List Row}{i:Nat}(h:i<rows.length):qm (rows.take (i+1))=I7 (qm (rows.take i)) (rows.getD i default).1 (rows.getD i default).2:=by
 rw[take_succ' h,qm,List.foldl_append];rfl
def Ip(a b:mD):mD:=
 {count:=IntKind.i64.wrap (a.count+b.count),numbers:=IntKind.i64.wrap (a.numbers+b.numbers),sum:=IntKind.i64.wrap (a.sum+b.sum),
  low:=if a.numbers=0 then b.low else if b.numbers=0 then a.low else if b.low<a.low then b.low else a.low,
  high:=if a.numbers=0 then b.high else if b.numbers=0 then a.high else if b.high>a.high then b.high else a.high,
  first:=if a.count=0 then b.first else a.first,last:=if b.count=0 then a.last else b.last}
def Ue(k v:List UInt8):mD:=
 if(number v).2=true then⟨1,1,(number v).1,(number v).1,(number v).1,k,k⟩else⟨1,0,0,0,0,k,k⟩
def EI(rows:List Row):mD:=rows.foldl (fun f r=>Ip f (Ue r.1 r.2)) OW
theorem WO{rows:List Row}{i:Nat}(h:i<rows.length):EI (rows.take (i+1))=Ip (EI (rows.take i)) (Ue (rows.getD i default).1 (rows.getD i default).2):=by
 rw[take_succ' h,EI,List.foldl_append];rfl
structure PD (m:Nat) (f:mD):Prop where
 c:f.count=m
 n1:0<=f.numbers
 n2:f.numbers<=m
 s1: -(m*1000000000000)<=f.sum
 s2:f.sum<=m*1000000000000
 l1: -1000000000000<=f.low
 l2:f.low<=1000000000000
 h1: -1000000000000<=f.high
 h2:f.high<=1000000000000
 z:f.numbers=0->f.sum=0∧f.low=0∧f.high=0
 zc:f.count=0->f.first=[]∧f.last=[]
theorem Oy(v:List UInt8): -1000000000000<=(number v).1∧(number v).1<=1000000000000:=by
 have key: ∀(s:List UInt8)(neg:Bool),-1000000000000<=(iO s neg).1∧(iO s neg).1<=1000000000000:=by
  intro s neg
  unfold iO
  split
  ·exact⟨by decide,by decide⟩
  ·split
   ·exact⟨by decide,by decide⟩
   ·rw[Ar]
    cases hv:jw s 0 with
    |none=>exact⟨by simp,by simp⟩
    |some v=>
     obtain⟨h1,h2⟩:=zo hv (by decide)
     have h2:=h2 (by decide)
     simp only
     split
     ·rw[bQ Om Om];omega
     ·omega
 unfold number
 split
 ·exact key _ _
 ·exact key _ _
theorem afz{f:mD}{m:Nat}{k v:List UInt8}(hm:m<=9000000)(h:PD m f):I7 f k v=Ip f (Ue k v):=by
 have hn:=Oy v
 have h1:=h.n1
 have h2:=h.n2
 have h3:=h.s1
 have h4:=h.s2
 unfold I7 Ip Ue
 by_cases hv:(number v).2=true
 ·simp only[hv,if_true]
  by_cases h0:f.numbers=0
  ·simp[h0]
  ·simp[h0]
 ·simp only[hv,if_false,Bool.false_eq_true,if_true]
  have w1:IntKind.i64.wrap (f.numbers+0)=f.numbers:=by rw[Int.add_zero];exact bQ Om Om
  have w2:IntKind.i64.wrap (f.sum+0)=f.sum:=by rw[Int.add_zero];exact bQ Om Om
  rw[w1,w2]
  by_cases h0:f.numbers=0
  ·simp[h0,h.z h0]
  ·simp[h0]
theorem ak2{f:mD}{m:Nat}{k v:List UInt8}(hm:m<9000000)(h:PD m f):PD (m+1) (I7 f k v):=by
 have hn:=Oy v
 obtain⟨c,n1,n2,s1,s2,l1,l2,h1,h2,z,zc⟩:=h
 have wc:IntKind.i64.wrap (f.count+1)=f.count+1:=bQ Om Om
 have wn:IntKind.i64.wrap (f.numbers+1)=f.numbers+1:=bQ Om Om
 have ws:IntKind.i64.wrap (f.sum+(number v).1)=f.sum+(number v).1:=bQ Om Om
 unfold I7
 by_cases hv:(number v).2=true
 ·simp only[hv,if_true,wc,wn,ws]
  constructor<;>simp only<;>first|(intro hz;exfalso;omega)|omega|(split<;>omega)
 ·simp only[hv,if_false,Bool.false_eq_true,wc]
  constructor<;>simp only<;>first|omega|exact z|(intro hz;exfalso;omega)
theorem UZ: ∀(rows:List Row)(m:Nat)(f:mD),PD m f->m+rows.length<=9000000->
 rows.foldl (fun f r=>I7 f r.1 r.2) f=rows.foldl (fun f r=>Ip f (Ue r.1 r.2)) f∧PD (m+rows.length) (rows.foldl (fun f r=>I7 f r.1 r.2) f)
 |[],m,f,h,_=>⟨rfl,h⟩
 |r::rows,m,f,h,hm=>by
  simp only[List.length_cons]at hm
  obtain⟨h1,h2⟩:=UZ rows (m+1) (I7 f r.1 r.2) (ak2 Om h) Om
  simp only[List.foldl_cons,List.length_cons]
  rw[<-afz Om h]
  rw[show m+(rows.length+1)=m+1+rows.length by omega]
  exact⟨h1,h2⟩
theorem aha:PD 0 OW:=by constructor<;>simp[OW]
theorem of_eq{rows:List Row}(h:rows.length<=9000000):EI rows=qm rows:=(UZ rows 0 OW aha Om).1.symm
instance:Inhabited mD:=⟨OW⟩
abbrev ahX(c n s l h:Int)(f la:List UInt8):SV:= .agg [.d (.int .i64 c),.d (.int .i64 n),.d (.int .i64 s),.d (.int .i64 l),.d (.int .i64 h),.d (.str f),.d (.str la)]
end Go.Sx
