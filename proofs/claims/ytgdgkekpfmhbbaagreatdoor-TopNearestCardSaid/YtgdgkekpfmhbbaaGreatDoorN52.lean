/- Contracts of functions that the law reaches: YtgdgkekpfmhbbaaGreatDoorN52. Written for this claim. -/
import Derived.Test.YtgdgkekpfmhbbaaGreatDoorN46
namespace Go.Proofs.YtgdgkekpfmhbbaaGreatDoor
open Go Go.Sx Go.ChangeShapes Go.WideShapes Go.ChangeAt Go.RowKit
set_option linter.unusedVariables false
set_option linter.unusedSimpArgs false
set_option maxRecDepth 100000
def vw(ns:List aj)(i:Nat):dQ:=if i<ns.length then(if 0<i then(ns.getD i default).key else [],false)else([],true)
theorem BM{ns:List aj}{n:Nat}(hn:n<ns.length):gu ns n=gB (vw ns n) (vw ns (n+1)):=by
 unfold gu gB vw
 by_cases h:n+1<ns.length<;>by_cases h0:0<n<;>simp[h,h0,hn]
theorem pz{ns:List aj}(h:vK ns)(i:Nat):aP (vw ns i).1 (vw ns i).2=true:=by
 unfold vw
 split
 ·rename_i hi
  have h1:=(h.ok _ (eF hi)).2.2.1
  split
  ·simp only[aP,Bool.not_false,Bool.true_or,Bool.and_true,decide_eq_true_eq];omega
  ·rfl
 ·rfl
theorem afr{ns:List aj}(hs:Asc ns){i j:Nat}(hij:i<j)(hj:j<ns.length):VX (ns.getD i default) (ns.getD j default):=by
 have:=List.pairwise_iff_getElem.1 hs i j Om hj hij
 simpa[List.getD,hj,show i<ns.length by omega]using this
theorem aec{a b:aj}(h:VX a b):b.key≠[]:=by
 intro e
 unfold VX at h
 rw[e]at h
 cases hk:a.key<;>rw[hk]at h<;>simp[Op.bytesLess]at h
theorem adM{k:List UInt8}(h:k≠[]):Op.bytesLess [] k=true:=by
 cases k with
 |nil=>exact absurd rfl h
 |cons x l=>simp[Op.bytesLess]
theorem Rh{ns:List aj}(hs:Asc ns){i:Nat}(hi:i<ns.length):aW (vw ns i) (vw ns (i+1))<0:=by
 show aV (vw ns i).1 (vw ns i).2 (vw ns (i+1)).1 (vw ns (i+1)).2<0
 rw[Rj]
 unfold vw
 rw[if_pos hi]
 refine⟨rfl,?_⟩
 by_cases h:i+1<ns.length
 ·have hk:=afr hs (Nat.lt_succ_self i) h
  rw[if_pos h,if_pos (Nat.succ_pos i)]
  right
  split
  ·exact hk
  ·exact adM (aec hk)
 ·rw[if_neg h];exact .inl rfl
def I4(T:List Row)(r:jl):bD:=⟨r.1,r.2.1,r.2.2.1,r.2.2.2,0,0,dw T r,[],jh,jh,0,0⟩
def Cj(T:List Row)(ns:List aj)(c n:Nat):bC:=⟨n+1,true,nO (I4 T (gu ns n)) ((KN ns n).take c)⟩
def kT(T:List Row)(ns:List aj)(c k:Nat):List bC:=(List.range k).map (Cj T ns c)
theorem lS{T:List Row}{ns:List aj}{c k:Nat}:(kT T ns c k).length=k:=by simp[kT]
theorem Jj{T:List Row}{ns:List aj}{c k i:Nat}(h:i<k):(kT T ns c k).getD i default=Cj T ns c i:=by simp[kT,List.getD,h]
theorem abC{T:List Row}{ns:List aj}{c k:Nat}:kT T ns c (k+1)=kT T ns c k++[Cj T ns c k]:=by simp[kT,List.range_succ]
theorem QD{ns:List aj}{n:Nat}: ∀{j:Nat},j<=n-> ∀x∈Cb ns n j,∃i,n-j<=i∧i<=n∧x=qK ns i
 |0,_,x,hx=>by
  rw[Cb,List.mem_singleton]at hx
  exact⟨n,Om,Om,hx⟩
 |j+1,hj,x,hx=>by
  rw[Cb,List.mem_append,List.mem_singleton]at hx
  rcases hx with hx|hx
  ·obtain⟨i,h1,h2,h3⟩:=QD Om x hx
   exact⟨i,Om,h2,h3⟩
  ·exact⟨n-1-j,Om,Om,hx⟩
theorem QE{ns:List aj}{n:Nat}: ∀{j:Nat}(x:Int),x∈EZ ns n j-> ∃i,i<=n+j∧x=qK ns i
 |0,x,hx=>by
  obtain⟨i,_,h2,h3⟩:=QD (Nat.le_refl _) x hx
  exact⟨i,Om,h3⟩
 |j+1,x,hx=>by
  rw[EZ,List.mem_append,List.mem_singleton]at hx
  rcases hx with hx|hx
  ·obtain⟨i,h1,h2⟩:=QE x hx
   exact⟨i,Om,h2⟩
  ·exact⟨n+1+j,Om,hx⟩
theorem adQ{l:List Int}(h:l.Nodup){i j:Nat}(hij:i<j)(hj:j<l.length):l[i]'Om≠l[j]:=by
 rw[List.nodup_iff_pairwise_ne,List.pairwise_iff_getElem]at h
 exact h i j Om hj hij
theorem QV{ns:List aj}(h:vK ns){i j:Nat}(hi:i<ns.length)(hj:j<ns.length)(e:qK ns i=qK ns j):i=j:=by
 have h1:=h.ids
 unfold qK at e
 simp only[List.getD,List.getElem?_eq_getElem hi,List.getElem?_eq_getElem hj,Option.getD_some]at e
 rcases Nat.lt_trichotomy i j with h2|h2|h2
 ·exact absurd (by rw[List.getElem_map,List.getElem_map];exact e) (adQ h1 h2 (by simpa using hj))
 ·exact h2
 ·exact absurd (by rw[List.getElem_map,List.getElem_map];exact e.symm) (adQ h1 h2 (by simpa using hi))
theorem Za{ns:List aj}(h:vK ns){n:Nat}(hn:n<ns.length): ∀{j:Nat},j<=n->(Cb ns n j).Nodup
 |0,_=>by simp[Cb]
 |j+1,hj=>by
  rw[Cb,List.nodup_append]
  refine⟨Za h hn Om,by simp,fun a ha b hb=> ?_⟩
  rw[List.mem_singleton]at hb
  subst hb
  obtain⟨i,h1,h2,rfl⟩:=QD Om a ha
  intro e
  have:=QV h Om Om e
  omega
theorem Zd{ns:List aj}(h:vK ns){n:Nat}: ∀{j:Nat},n+j<ns.length->(EZ ns n j).Nodup
 |0,hj=>Za h Om (Nat.le_refl _)
 |j+1,hj=>by
  rw[EZ,List.nodup_append]
  refine⟨Zd h Om,by simp,fun a ha b hb=> ?_⟩
  rw[List.mem_singleton]at hb
  subst hb
  obtain⟨i,h1,rfl⟩:=QE a ha
  intro e
  have:=QV h Om Om e
  omega
theorem agO{ns:List aj}(h:vK ns){n:Nat}(hn:n<ns.length):(KN ns n).Nodup:=Zd h Om
theorem KL{ns:List aj}{n:Nat}(hn:n<ns.length):(KN ns n).length=ns.length:=by unfold KN;rw[Aw];omega
theorem agP{ns:List aj}{n:Nat}(hn:n<ns.length){x:Int}(hx:x∈KN ns n): ∃y∈ns,y.id=x:=by
 obtain⟨i,h1,h2⟩:=QE x hx
 have hi:i<ns.length:=Om
 exact⟨_,eF hi,h2.symm⟩
theorem ad1{ns:List aj}{n:Nat}: ∀{j:Nat},(Cb ns n j).getD 0 default=qK ns n
 |0=>rfl
 |j+1=>by
  have:=ad1 (ns:=ns) (n:=n) (j:=j)
  have hl:=EY (ns:=ns) (n:=n) j
  rw[Cb]
  simp only[List.getD]at this⊢
  rw[List.getElem?_append_left Om]
  exact this
theorem ad4{ns:List aj}{n:Nat}: ∀{j:Nat},(EZ ns n j).getD 0 default=qK ns n
 |0=>ad1
 |j+1=>by
  have:=ad4 (ns:=ns) (n:=n) (j:=j)
  have hl:=Aw (ns:=ns) (n:=n) j
  rw[EZ]
  simp only[List.getD]at this⊢
  rw[List.getElem?_append_left Om]
  exact this
theorem adY{T:List Row}{ns:List aj}{c n:Nat}(hn:n<ns.length)(hc:1<=c):(Cj T ns c n).mem.getD 0 default=⟨qK ns n,true,I4 T (gu ns n)⟩:=by
 have h0:(KN ns n).getD 0 default=qK ns n:=ad4
 have hl:=KL hn
 unfold Cj nO
 simp only[List.getD]at h0⊢
 rw[List.getElem?_map,List.getElem?_take,if_pos Om]
 rw[List.getElem?_eq_getElem Om]at h0⊢
 simpa using h0
theorem Y_{T:List Row}{ns:List aj}{c n:Nat}(hn:n<ns.length):(Cj T ns c n).mem.length=min c ns.length:=by
 unfold Cj
 rw[KI,List.length_take,KL hn]
theorem ajd{ids:List Int}(h:ids.Nodup):Fz ids 0=false:=by
 cases e:Fz ids 0 with
 |false=>rfl
 |true=>
  simp only[Fz,List.any_eq_true,List.mem_range,Bool.and_eq_true,decide_eq_true_eq]at e
  obtain⟨i,h1,_,h3⟩:=e
  rw[List.contains_iff_mem,List.mem_take_iff_getElem]at h3
  obtain⟨j,hj,e2⟩:=h3
  simp only[List.getD,List.getElem?_eq_getElem h1,Option.getD_some]at e2
  exact absurd e2 (adQ h Om h1)
theorem ajl{T:List Row}(hT:iW T){a b:dQ}(ha:aP a.1 a.2=true)(hb:aP b.1 b.2=true)(hab:aW a b<0):gJ (I4 T (gB a b))=true:=by
 have hl:=(oZ (r:=gB a b) hT).len
 refine acw (gX ha hb (Int.le_of_lt hab)) rfl (oZ hT) Aa (by simp[I4]) ?_ (by simp[I4]) ?_ rfl
 ·show(dw T (gB a b)).length+0<=1024;omega
 ·show yQ (I4 T (gB a b))=true
  simp[yQ,sG,I4,jh]
theorem aex{T:List Row}(hT:iW T){ns:List aj}(h:vK ns)(hs:Asc ns){c n:Nat}(hn:n<ns.length)(hc:1<=c)(hc5:c<=5):newG (n+1) ((KN ns n).take c) (I4 T (gu ns n))=(Cj T ns c n,0):=by
 have hl:=KL hn
 have h64:=h.len
 have hv:gJ (I4 T (gu ns n))=true:=by
  rw[BM hn]
  exact ajl hT (pz h _) (pz h _) (Rh hs hn)
 refine Y8 ?_ hv ?_ ?_ ?_ (ajd ((agO h hn).sublist (List.take_sublist _ _)))
 ·simp only[gQ,Bool.and_eq_true,decide_eq_true_eq];omega
 ·rw[List.all_eq_true]
  intro x hx
  obtain⟨y,hy,e⟩:=agP hn (List.mem_of_mem_take hx)
  have:=h.ok y hy
  rw[<-e]
  simp only[gQ,Bool.and_eq_true,decide_eq_true_eq]
  omega
 ·rw[List.length_take];omega
 ·rw[List.length_take];omega
theorem aey{T:List Row}(hT:iW T){ns:List aj}{c n:Nat}(hc5:c<=5):MP 1000 (Cj T ns c n):=by
 have hl:=(oZ (r:=gu ns n) hT).len
 refine⟨by unfold Cj;rw[KI,List.length_take];omega,fun m hm=> ?_⟩
 simp only[Cj,nO,List.mem_map]at hm
 obtain⟨i,_,rfl⟩:=hm
 refine⟨⟨?_,by simp[I4],by simp[I4,jh],by simp[I4,jh]⟩,by simp[I4,I64]⟩
 show(dw T (gu ns n)).length<=1000000
 omega
theorem YH{T:List Row}{ns:List aj}{c n:Nat}(hn:n<ns.length)(hc:1<=c):zV (Cj T ns c n)=⟨qK ns n,(gu ns n).1,(gu ns n).2.1,(gu ns n).2.2.1,(gu ns n).2.2.2,0,0,dw T (gu ns n)⟩:=by
 unfold zV;rw[adY hn hc];rfl
theorem BO{T:List Row}{ns:List aj}{c i:Nat}(hi:i<ns.length)(hc:1<=c):((kT T ns c ns.length).map zV).getD i default=⟨qK ns i,(gu ns i).1,(gu ns i).2.1,(gu ns i).2.2.1,(gu ns i).2.2.2,0,0,dw T (gu ns i)⟩:=by
 rw[pY (by rw[lS];exact hi),Jj hi,YH hi hc]
theorem aeu{ns:List aj}(h:vK ns){i:Nat}(hi:i<ns.length):gQ (qK ns i)=true:=by
 have:=h.ok _ (eF hi)
 simp only[gQ,qK,Bool.and_eq_true,decide_eq_true_eq]
 exact⟨decide_eq_true this.1,decide_eq_true this.2.1⟩
theorem abB{T:List Row}(hT:iW T){ns:List aj}(h:vK ns)(hs:Asc ns)(hp:0<ns.length){c:Nat}(hc:1<=c):qF T (vw ns) ((kT T ns c ns.length).map zV):=by
 have hl:((kT T ns c ns.length).map zV).length=ns.length:=by rw[List.length_map,lS]
 refine⟨by rw[hl];exact hp,?_,?_,fun i _=>pz h i,?_,?_,?_,?_,?_,hT⟩
 ·unfold vw;rw[if_pos hp];rfl
 ·rw[hl];unfold vw;rw[if_neg (Nat.lt_irrefl _)]
 ·intro i hi;rw[hl]at hi;exact Rh hs hi
 ·intro i hi;rw[hl]at hi;rw[BO hi hc,<-BM hi];rfl
 ·intro i hi;rw[hl]at hi;rw[BO hi hc,<-BM hi]
 ·intro i hi;rw[hl]at hi;rw[BO hi hc];exact aeu h hi
 ·intro i hi;rw[hl]at hi;rw[BO hi hc];rfl
theorem ag6{T:List Row}(hT:iW T){ns:List aj}(h:vK ns)(hs:Asc ns){c:Nat}(hc:1<=c)(hc5:c<=5):RI (kT T ns c ns.length):=by
 intro i hi
 rw[lS]at hi
 rw[Jj hi]
 refine⟨⟨aey hT hc5,?_,?_,rfl⟩,?_⟩
 ·rw[Y_ hi];omega
 ·rw[adY hi hc]
 ·rw[YH hi hc]
  have e:aK (gu ns i)=false:=by
   rw[BM hi]
   exact jJ (pz h _) (pz h _) (Rh hs hi)
  have e2:aK (vO ⟨qK ns i,(gu ns i).1,(gu ns i).2.1,(gu ns i).2.2.1,(gu ns i).2.2.2,0,0,dw T (gu ns i)⟩)=false:=e
  have e3:jO (gu ns i) (dw T (gu ns i))=true:=by
   unfold jO
   rw[jf.2 (oZ hT),Aa];rfl
  unfold yB
  rw[e2,aeu h hi]
  show(true&&(!false&&(true&&jO (gu ns i) (dw T (gu ns i)))))=true
  rw[e3];rfl
def blank(x:aj):aj:=⟨x.id,[],x.word⟩
theorem adt{T:List Row}{ns:List aj}(h:vK ns)(hs:Asc ns){c:Nat}(hc:1<=c){j:Nat}(hj:j<ns.length): ∀k,k<=ns.length->
 Nv (kT T ns c ns.length) k (blank (ns.getD j default))=if j<k then(⟨qK ns j,(vw ns j).1,(ns.getD j default).word⟩,true)else(blank (ns.getD j default),false)
 |0,_=>rfl
 |k+1,hk=>by
  have hk':k<ns.length:=Om
  rw[Oo (by rw[lS];omega),Jj hk',adt h hs hc hj k Om]
  have hm:=adY (T:=T) hk' hc
  have hne: ¬(Cj T ns c k).mem.length=0:=by rw[Y_ hk'];omega
  by_cases e:j=k
  ·subst e
   rw[if_neg (Nat.lt_irrefl _),if_pos (Nat.lt_succ_self _)]
   unfold jR
   rw[hm]
   have he:eH (I4 T (gu ns j)).lk (I4 T (gu ns j)).lt (I4 T (gu ns j)).hk (I4 T (gu ns j)).ht=false:=by
    show aK (gu ns j)=false
    rw[BM hj]
    exact jJ (pz h _) (pz h _) (Rh hs hj)
   rw[if_neg,if_pos (.inl rfl)]
   ·show((⟨(blank (ns.getD j default)).id,(gu ns j).1,_⟩:aj),true)=_
    rw[BM hj];rfl
   ·rintro((h1|h1)|h1)
    ·exact hne h1
    ·exact h1 rfl
    ·rw[he]at h1;cases h1
  ·have hid:qK ns k≠qK ns j:=fun h1=>e (QV h hk' hj h1).symm
   by_cases hlt:j<k
   ·rw[if_pos hlt,if_pos Om]
    unfold jR
    rw[if_pos (.inl (.inr (by rw[hm];exact hid)))]
   ·rw[if_neg hlt,if_neg Om]
    unfold jR
    rw[if_pos (.inl (.inr (by rw[hm];exact hid)))]
theorem Y0{T:List Row}{ns:List aj}(h:vK ns)(hs:Asc ns){c:Nat}(hc:1<=c){j:Nat}(hj:j<ns.length):TL (kT T ns c ns.length) (blank (ns.getD j default))=(⟨qK ns j,(vw ns j).1,(ns.getD j default).word⟩,true):=by
 rw[<-TK (j:=ns.length) (by rw[lS];omega),adt h hs hc hj _ (Nat.le_refl _),if_pos hj]
def pG(ns:List aj):List aj:=(List.range ns.length).map fun j=>⟨qK ns j,(vw ns j).1,(ns.getD j default).word⟩
theorem zS{ns:List aj}{i:Nat}(hi:i<(pG ns).length):(pG ns)[i]=⟨qK ns i,(vw ns i).1,(ns.getD i default).word⟩:=by simp[pG]
theorem Jl{ns:List aj}:(pG ns).length=ns.length:=by simp[pG]
theorem ach{ns:List aj}(h:vK ns)(hs:Asc ns):vK (pG ns):=by
 refine⟨by rw[Jl];exact h.len,fun x hx=> ?_,?_,?_⟩
 ·obtain⟨j,hj,rfl⟩:=List.mem_map.1 hx
  have hj:=List.mem_range.1 hj
  have h1:=h.ok _ (eF hj)
  refine⟨h1.1,h1.2.1,?_,h1.2.2.2⟩
  have hv:=pz h j
  simp only[aP,Bool.and_eq_true,decide_eq_true_eq]at hv
  show(vw ns j).1.length<=64
  omega
 ·rw[List.nodup_iff_pairwise_ne,List.pairwise_map,List.pairwise_iff_getElem]
  intro i j hi hj hij e
  rw[zS,zS]at e
  rw[Jl]at hi hj
  exact absurd (QV h hi hj e) Om
 ·rw[List.nodup_iff_pairwise_ne,List.pairwise_map,List.pairwise_iff_getElem]
  intro i j hi hj hij e
  rw[zS,zS]at e
  rw[Jl]at hi hj
  have hk:=afr hs hij hj
  simp only[vw,if_pos hi,if_pos hj,if_pos (show 0<j by omega)]at e
  split at e
  ·exact hk.ne e
  ·exact aec hk e.symm
theorem aaG{T:List Row}{ns:List aj}(h:vK ns)(hs:Asc ns){c:Nat}(hc:1<=c):Gt (ns.map blank) (kT T ns c ns.length)=pG ns:=by
 unfold Gt
 refine List.ext_getElem (by simp[pG]) (fun i h1 h2=> ?_)
 have hi:i<ns.length:=by simpa using h1
 rw[zS]
 have:=Y0 (T:=T) h hs hc hi
 rw[List.getElem_map,List.getElem_map]
 have e:ns[i]=ns.getD i default:=by simp[List.getD,hi]
 rw[e,this]
theorem aa6{T:List Row}{ns:List aj}(h:vK ns)(hs:Asc ns)(hl:ns.length<=19){c:Nat}(hc:1<=c){names:List aj}(hn:names.Perm (ns.map blank)):NM names (kT T ns c ns.length):=by
 have hp:(Gt names (kT T ns c ns.length)).Perm (pG ns):=by
  rw[<-aaG (T:=T) h hs hc]
  exact hn.map _
 refine⟨by rw[hn.length_eq,List.length_map];exact hl,by rw[lS];omega,fun i hi=> ?_,(ach h hs).perm hp⟩
 have hm:=hn.mem_iff.1 (eF hi)
 obtain⟨x,hx,e⟩:=List.mem_map.1 hm
 obtain⟨j,hj,e2⟩:=List.mem_iff_getElem.1 hx
 have e3:ns.getD j default=x:=by simp[List.getD,hj,e2]
 rw[<-e,<-e3,Y0 h hs hc hj]
theorem aiV{ns names:List aj}(h:vK ns)(hn:names.Perm (ns.map blank)):Z5 names:=by
 have hb: ∀ys:List aj,ys.Perm names-> ∀a,a<ys.length->1<=(ys.getD a default).id∧(ys.getD a default).id<=2147483647:=fun ys hy a ha=>by
  have hm:=hn.mem_iff.1 (hy.mem_iff.1 (eF ha))
  obtain⟨x,hx,e⟩:=List.mem_map.1 hm
  have:=h.ok x hx
  rw[<-e]
  exact⟨this.1,this.2.1⟩
 intro ys hy a b ha hb'
 have h1:=hb ys hy a ha
 have h2:=hb ys hy b hb'
 exact bQ Om Om
theorem aiq{l:List Int}{a:Nat}{n:Int}:(bg l a∧1<=n∧n<=20)-> ∃x:List aj×Nat,((vK x.1∧(x.1.length:Int)<=n∧0<x.1.length)∧bg l x.2)∧
 Sc 12 [.ptr 1000 0,.d (.int .i64 n)] [(1000,aX l a)] (.d (ay aZ 3 x.1)) [(1000,aX l x.2)]:=by
 rintro⟨h,hn⟩
 have w3:IntKind.i64.wrap (3*n)=3*n:=bQ Om Om
 have w1: ∀v:Int,0<=v->v<=60->IntKind.i64.wrap (1+v)=1+v:=fun v h1 h2=>bQ Om Om
 refine dZ (E:=EE) (fn:=Tryz.f12) _ _ _ false AZ Kq Kq Tryz.call12 Kq (fun _=>by kernel_rfl) (fun _=>by kernel_rfl) ?_
 conv=>whnf
 repeat' first|((first|refine aY (aaF _) (fun _=>Fl) (Ni ?_ ?_);rintro⟨o,b⟩ ⟨⟨o1,o2⟩,o3⟩|refine aY (lH _) (fun _=>Fl) (Ni ?_ ?_);rintro⟨v,b⟩ ⟨⟨h1,h2⟩,h3⟩|refine aY (GK _) (fun _=>Fl) (Ni ?_ ?_);rintro⟨k,b⟩ ⟨g1,g2⟩|refine aY (YD _) (fun _=>Fl) (Ni ?_ ?_);rintro⟨w,b⟩ ⟨f1,f2⟩|refine Sg ?_|refine Ni ?_ ?_);conv=>whnf)|(refine ah (fun _=> ?_) (fun _=> ?_)<;>(conv=>whnf))
 all_goals try rw[w3]at*
 all_goals first
  |assumption|exact⟨As,Om,Om⟩|(refine⟨([⟨IntKind.i64.wrap (1+v),k,w⟩],b),⟨⟨agd ⟨?_,?_,by simp only at*;omega,by simp only at*;omega⟩,by simp only[List.length_singleton];omega,by simp⟩,f2⟩,aB.d (BX Kq rfl (row_one (xO (aF.of_eq rfl) (aF.of_eq rfl) (aF.of_eq rfl)))),aI.refl _,trivial⟩<;>(simp only at*;rw[w1 _ Om Om];omega))
  |(have hz:decide ((o.length:Int)=0)=false∨((o.length:Int)==0)=false:=by first|exact .inl As|exact .inr As
    exact⟨(o,b),⟨⟨o1,o2,by rcases hz with h|h<;>simp at h<;>(try simp only)<;>(rcases o with _|_<;>simp_all)⟩,o3⟩,aB.refl _,aI.refl _,trivial⟩)
theorem acU(m:Nat){l:List Int}{a:Nat}{n:Int}:(bg l a∧1<=n∧n<=20)-> ∃x:List aj×Nat,((vK x.1∧(x.1.length:Int)<=n∧0<x.1.length)∧bg l x.2)∧
 Sc 12 [.ptr m 0,.d (.int .i64 n)] [(m,aX l a)] (.d (ay aZ 3 x.1)) [(m,aX l x.2)]:=fun h=>by
 obtain⟨x,hx,hs⟩:=aiq h
 exact⟨x,hx,hs.at m⟩
abbrev ais(ns:List aj)(T:List Row)(c h:Int):List SV:=[.d (ay aZ 3 ns),.d (ay bF 2 T),.d (.int .i64 c),.d (.int .i64 h)]
theorem air{l:List Int}{a:Nat}:bg l a-> ∃x:(List aj×List Row)×(Nat×Nat)×Nat,((vK x.1.1∧x.1.1.length<=5∧0<x.1.1.length)∧iW x.1.2∧(1<=x.2.1.1∧x.2.1.1<=3)∧x.2.1.2<=3∧bg l x.2.2)∧
 Sc 5 [.ptr 1000 0,.d (.int .i64 5)] [(1000,aX l a)] (.agg (ais x.1.1 x.1.2 x.2.1.1 x.2.1.2)) [(1000,aX l x.2.2)]:=by
 intro h
 obtain⟨⟨o,b⟩,⟨⟨o1,o2,o3⟩,o4⟩,q1⟩:=acU 1000 (n:=5) ⟨h,by decide,by decide⟩
 obtain⟨⟨T,b2⟩,⟨⟨t1,t2⟩,t3⟩,q2⟩:=agf 1000 (n:=6) ⟨o4,by decide,by decide⟩
 obtain⟨⟨v,b3⟩,⟨⟨g1,g2⟩,g3⟩,q3⟩:=lH 1000 (n:=3) ⟨t3,by decide,by decide⟩
 obtain⟨⟨u,b4⟩,⟨⟨f1,f2⟩,f3⟩,q4⟩:=lH 1000 (n:=4) ⟨g3,by decide,by decide⟩
 simp only at o1 o2 o3 o4 t1 t2 t3 g1 g2 g3 f1 f2 f3 q1 q2 q3 q4
 obtain⟨c,rfl⟩:=Int.eq_ofNat_of_zero_le g1
 obtain⟨d,rfl⟩:=Int.eq_ofNat_of_zero_le f1
 have w1:IntKind.i64.wrap (1+(c:Int))=((c+1:Nat):Int):=by rw[bQ Om Om];omega
 refine⟨((o,T),(c+1,d),b4),⟨⟨o1,by simp only;omega,o3⟩,t1,⟨by simp only;omega,by simp only;omega⟩,by simp only;omega,f3⟩,?_⟩
 refine Si (fn:=Tryz.f5) Tryz.call5 ?_
 conv=>whnf
 repeat' first|((first|refine Ci q1 ?_|refine Ci q2 ?_|refine Ci q3 ?_|refine Ci q4 ?_|refine Sg ?_|refine Ni ?_ ?_);conv=>whnf)
 all_goals first
  |(rw[w1];exact⟨aB.refl _,aI.refl _,trivial⟩)
theorem acW(m:Nat){l:List Int}{a:Nat}:bg l a-> ∃x:(List aj×List Row)×(Nat×Nat)×Nat,((vK x.1.1∧x.1.1.length<=5∧0<x.1.1.length)∧iW x.1.2∧(1<=x.2.1.1∧x.2.1.1<=3)∧x.2.1.2<=3∧bg l x.2.2)∧
 Sc 5 [.ptr m 0,.d (.int .i64 5)] [(m,aX l a)] (.agg (ais x.1.1 x.1.2 x.2.1.1 x.2.1.2)) [(m,aX l x.2.2)]:=fun h=>by
 obtain⟨x,hx,hs⟩:=air h
 exact⟨x,hx,hs.at m⟩
theorem aen{α:Type}[Inhabited α]{L:List α}{x:α}{k a:Nat}(h:k<=L.length):(L.take k++x::L.drop k).getD a default=if a<k then L.getD a default else if a=k then x else L.getD (a-1) default:=by
 have ht:(L.take k).length=k:=by rw[List.length_take];omega
 by_cases h1:a<k
 ·rw[if_pos h1];simp only[List.getD];rw[List.getElem?_append_left Om,List.getElem?_take,if_pos h1]
 ·rw[if_neg h1]
  simp only[List.getD]
  rw[List.getElem?_append_right Om,ht]
  by_cases h2:a=k
  ·subst h2;simp
  ·rw[if_neg h2,show a-k=(a-1-k)+1 by omega,List.getElem?_cons_succ,List.getElem?_drop]
   congr 2;omega
theorem KY{o:List dQ}{k N:Nat}{bk:List UInt8}{bt:Bool}{g:Nat->Nat->D}(hk:k<=o.length)(h1: ∀i j,i<k->g i j=cellOf dH o i j)(h2: ∀j,j<2->g k j=(dH (bk,bt)).getD j default)(h3: ∀i j,k<i->g i j=cellOf dH o (i-1) j):
 aJ N 2 g (cellOf dH (o.take k++(bk,bt)::o.drop k)):= .of_eq fun i j _ hj=>by
 simp only[cellOf,aen hk]
 by_cases e1:i<k
 ·rw[if_pos e1];exact h1 i j e1
 ·rw[if_neg e1]
  by_cases e2:i=k
  ·subst e2;rw[if_pos rfl];exact h2 j hj
  ·rw[if_neg e2];exact h3 i j Om
set_option maxHeartbeats 4000000 in
theorem ajk{l:List Int}{a:Nat}{n:Int}:(bg l a∧0<=n∧n<=20)-> ∃x:List dQ×Nat,((x.1.length:Int)<=n∧bg l x.2)∧Sc 72 [.ptr 1000 0,.d (.int .i64 n)] [(1000,aX l a)] (.d (ay dH 2 x.1)) [(1000,aX l x.2)]:=by
 rintro⟨h,hn⟩
 have wn:IntKind.i64.wrap (n+1)=n+1:=bQ Om Om
 have cB:Tryz.prog.cellsOf 58=2:=Kq
 have bB:Tryz.prog.bytesOf 58=24:=Kq
 refine dZ (E:=EE) (fn:=Tryz.f72) _ _ _ false AZ Kq Kq Tryz.call72 Kq (fun _=>by kernel_rfl) (fun _=>by kernel_rfl) ?_
 conv=>whnf
 repeat' first|((first|refine aY (lH _) (fun _=>Fl) (Ni ?_ ?_);rintro⟨v,b⟩ ⟨⟨h1,h2⟩,h3⟩|refine Sg ?_|refine Ni ?_ ?_);conv=>whnf)|(refine ah (fun _=> ?_) (fun _=> ?_)<;>(conv=>whnf))
 ·rw[wn]at h2
  refine aA [0,0+1] [] (fun x:Int×List dQ×Nat=>[(6,.d (.int .i64 x.1)),(5,.bW 500 2 0 x.2.1.length)]) (fun x=>[(1000,aX l x.2.2),(500,.row 58 2 x.2.1.length (cellOf dH x.2.1))]) (fun x=>(0<=x.1∧x.1<=n)∧((x.2.1.length:Int)<=n-x.1)∧bg l x.2.2) (fun x=>x.1.toNat) (v,[],b) ?_ (fun x hx=> ?_) ⟨by simp only;omega,by simp;omega,h3⟩
  ·conv=>whnf
   repeat' first|((first|refine Sg ?_|refine Ni ?_ ?_);conv=>whnf)|(refine ah (fun _=> ?_) (fun _=> ?_)<;>(conv=>whnf))
   all_goals try first|exact Lq
   all_goals exact pO
  ·obtain⟨i,o,c⟩:=x
   obtain⟨hi,ho,hc⟩:=hx
   simp only at hi ho hc
   have hs:0<i->IntKind.i64.wrap (i-1)=i-1:=fun _=>bQ Om Om
   conv=>whnf
   refine ah (fun hlt=> ?_) (fun hlt=> ?_)
   ·have hlt0:0<i:=by simpa using hlt
    have hsi:=hs hlt0
    obtain⟨⟨bk,bt,b1⟩,⟨g1,g2⟩,q1⟩:=afi 1000 hc
    simp only at g1 g2 q1
    conv=>whnf
    repeat' first|((first|refine Ci q1 ?_|refine Sg ?_|refine Ni ?_ ?_);conv=>whnf)
    refine aA [0,0+1,5,6,7] [500,7] (fun x:Nat×Nat=>[(8,.d (.int .i64 x.1))]) (fun x=>[(1000,aX l x.2)]) (fun x=>x.1<=o.length∧bg l x.2) (fun x=>x.1) (o.length,b1) ?_ (fun x hx=> ?_) ⟨Nat.le_refl _,g2⟩
    ·conv=>whnf
     repeat' first|((first|refine Sg ?_|refine Ni ?_ ?_);conv=>whnf)|(refine ah (fun _=> ?_) (fun _=> ?_)<;>(conv=>whnf))
     all_goals try first|exact Lq
    ·obtain⟨k,b⟩:=x
     obtain⟨f1,f2⟩:=hx
     simp only at f1 f2
     have hw2:0<k->IntKind.i64.wrap ((k:Int)-1)=((k-1:Nat):Int):=fun h=>by rw[bQ Om Om];omega
     conv=>whnf
     repeat' first|((first|refine Ci (dG _ _ _ _) ?_|refine Ci (kM _ _) ?_|refine aY (Rt _) (fun _=>Fl) (Ni ?_ ?_);rintro⟨v,b⟩ e1|refine Sg ?_|refine Ni ?_ ?_);conv=>whnf)|(refine ah (fun _=> ?_) (fun _=> ?_)<;>(conv=>whnf))
     all_goals try simp only[decide_eq_true_eq,decide_eq_false_iff_not,gt_iff_lt]at*
     all_goals try simp only[cB,bB,Option.getD_some,Option.getD_none]
     all_goals try first
      |exact⟨As,by decide,by decide⟩|exact⟨Om,Om⟩|exact⟨Om,Om,Om⟩|exact⟨trivial,Om,Om⟩
      |(rw[hw2 Om];exact⟨Om,Om⟩)
      |(rw[hw2 Om,Int.toNat_natCast];omega)
      |(refine aG.mk ((k-1,b):Nat×Nat) ?_ ?_ ?_
        conv=>whnf
        repeat' first|((first|refine Sg ?_|refine Ni ?_ ?_);conv=>whnf)|(refine ah (fun _=> ?_) (fun _=> ?_)<;>(conv=>whnf))
        all_goals try first|exact Lq
        all_goals try simp only[cB,bB,Option.getD_some,Option.getD_none,Int.sub_zero,Int.toNat_natCast,Int.toNat_zero,Nat.zero_add]
        all_goals first
           |exact aF.of_eq (by rw[hw2 Om])|exact aF.of_eq (by rw[hsi])|exact⟨Om,As⟩|exact⟨⟨Om,Om⟩,Om,As⟩|exact⟨⟨Om,Om⟩,by simp only[List.length_append,List.length_cons,List.length_take,List.length_drop];omega,As⟩
           |(simp only[List.length_append,List.length_cons,List.length_take,List.length_drop];omega)
           |exact⟨rfl,rfl,by simp only[List.length_append,List.length_cons,List.length_take,List.length_drop];omega⟩|exact⟨trivial,trivial,by simp only[List.length_append,List.length_cons,List.length_take,List.length_drop];omega⟩
           |(refine KY Om (fun i' j' h=> ?_) (fun j' hj=> ?_) (fun i' j' h=> ?_)
             ·rw[if_pos Om,if_pos Om]
             ·rw[if_pos Om,if_neg Om,Nat.sub_self]
              match j',hj with
              |0,_=>rfl
              |1,_=>rfl
             ·rw[if_neg Om,show k+(i'-(k+1))=i'-1 by omega])
        done)
      |(refine aG.mk ((i-1,o,b):Int×List dQ×Nat) ?_ ?_ ?_
        conv=>whnf
        repeat' first|((first|refine Sg ?_|refine Ni ?_ ?_);conv=>whnf)|(refine ah (fun _=> ?_) (fun _=> ?_)<;>(conv=>whnf))
        all_goals try first|exact Lq
        all_goals try simp only[cB,bB,Option.getD_some,Option.getD_none,Int.sub_zero,Int.toNat_natCast,Int.toNat_zero,Nat.zero_add]
        all_goals first
           |exact aF.of_eq (by rw[hw2 Om])|exact aF.of_eq (by rw[hsi])|exact⟨Om,As⟩|exact⟨⟨Om,Om⟩,Om,As⟩|exact⟨⟨Om,Om⟩,by simp only[List.length_append,List.length_cons,List.length_take,List.length_drop];omega,As⟩
           |(simp only[List.length_append,List.length_cons,List.length_take,List.length_drop];omega)
           |exact⟨rfl,rfl,by simp only[List.length_append,List.length_cons,List.length_take,List.length_drop];omega⟩|exact⟨trivial,trivial,by simp only[List.length_append,List.length_cons,List.length_take,List.length_drop];omega⟩
           |(refine KY Om (fun i' j' h=> ?_) (fun j' hj=> ?_) (fun i' j' h=> ?_)
             ·rw[if_pos Om,if_pos Om]
             ·rw[if_pos Om,if_neg Om,Nat.sub_self]
              match j',hj with
              |0,_=>rfl
              |1,_=>rfl
             ·rw[if_neg Om,show k+(i'-(k+1))=i'-1 by omega])
        done)
      |(refine aG.mk ((i-1,o.take k++(bk,bt)::o.drop k,b):Int×List dQ×Nat) ?_ ?_ ?_
        conv=>whnf
        repeat' first|((first|refine Sg ?_|refine Ni ?_ ?_);conv=>whnf)|(refine ah (fun _=> ?_) (fun _=> ?_)<;>(conv=>whnf))
        all_goals try first|exact Lq
        all_goals try simp only[cB,bB,Option.getD_some,Option.getD_none,Int.sub_zero,Int.toNat_natCast,Int.toNat_zero,Nat.zero_add]
        all_goals first
           |exact aF.of_eq (by rw[hw2 Om])|exact aF.of_eq (by rw[hsi])|exact⟨Om,As⟩|exact⟨⟨Om,Om⟩,Om,As⟩|exact⟨⟨Om,Om⟩,by simp only[List.length_append,List.length_cons,List.length_take,List.length_drop];omega,As⟩
           |(simp only[List.length_append,List.length_cons,List.length_take,List.length_drop];omega)
           |exact⟨rfl,rfl,by simp only[List.length_append,List.length_cons,List.length_take,List.length_drop];omega⟩|exact⟨trivial,trivial,by simp only[List.length_append,List.length_cons,List.length_take,List.length_drop];omega⟩
           |(refine KY Om (fun i' j' h=> ?_) (fun j' hj=> ?_) (fun i' j' h=> ?_)
             ·rw[if_pos Om,if_pos Om]
             ·rw[if_pos Om,if_neg Om,Nat.sub_self]
              match j',hj with
              |0,_=>rfl
              |1,_=>rfl
             ·rw[if_neg Om,show k+(i'-(k+1))=i'-1 by omega])
        done)
   ·conv=>whnf
    repeat' first|((first|refine Sg ?_|refine Ni ?_ ?_);conv=>whnf)
    all_goals first
     |exact⟨(o,c),⟨by simp only;omega,hc⟩,aB.d (aF.rows rfl (.of_eq fun i j _ _=>by rw[Nat.zero_add])),aI.refl _,trivial⟩
 ·exact⟨h,Om,Om⟩
theorem aeX(m:Nat){l:List Int}{a:Nat}{n:Int}:(bg l a∧0<=n∧n<=20)-> ∃x:List dQ×Nat,((x.1.length:Int)<=n∧bg l x.2)∧Sc 72 [.ptr m 0,.d (.int .i64 n)] [(m,aX l a)] (.d (ay dH 2 x.1)) [(m,aX l x.2)]:=fun h=>by
 obtain⟨x,hx,hs⟩:=ajk h
 exact⟨x,hx,hs.at m⟩
structure PE (L:List dQ) (i:Nat):Prop where
 ok: ∀j,j<i->aP (L.getD j default).1 (L.getD j default).2=true
 lt: ∀j,j<i->0<j->aV (L.getD (j-1) default).1 (L.getD (j-1) default).2 (L.getD j default).1 (L.getD j default).2<0
theorem PE.next{L:List dQ}{i:Nat}(h:PE L i)(h1:aP (L.getD i default).1 (L.getD i default).2=true)(h2:0<i->aV (L.getD (i-1) default).1 (L.getD (i-1) default).2 (L.getD i default).1 (L.getD i default).2<0):PE L (i+1):=by
 refine⟨fun j hj=> ?_,fun j hj hp=> ?_⟩
 ·by_cases e:j=i
  ·subst e;exact h1
  ·exact h.ok j Om
 ·by_cases e:j=i
  ·subst e;exact h2 hp
  ·exact h.lt j Om hp
theorem PE.fin{L:List dQ}(h:PE L L.length)(hl:L.length<=2):w_ L:=by
 refine⟨hl,h.ok,fun j hj hp=> ?_⟩
 have:=h.lt j hj hp
 have h2:=cmp_neg (L.getD (j-1) default) (L.getD j default)
 have e1:aW (L.getD (j-1) default) (L.getD j default)=aV (L.getD (j-1) default).1 (L.getD (j-1) default).2 (L.getD j default).1 (L.getD j default).2:=rfl
 have e2:aW (L.getD j default) (L.getD (j-1) default)=aV (L.getD j default).1 (L.getD j default).2 (L.getD (j-1) default).1 (L.getD (j-1) default).2:=rfl
 omega
theorem Vf:w_ []:=⟨by decide,fun j hj=>absurd hj (Nat.not_lt_zero j),fun j hj=>absurd hj (Nat.not_lt_zero j)⟩
theorem aeW{l:List Int}{a:Nat}(h:bg l a): ∃x:List dQ×Nat,(w_ x.1∧bg l x.2)∧Sc 30 [.ptr 1000 0] [(1000,aX l a)] (.d (ay dH 2 x.1)) [(1000,aX l x.2)]:=by
 obtain⟨⟨L,a'⟩,⟨hl,hT⟩,hc⟩:=aeX 1000 (n:=2) ⟨h,by decide,by decide⟩
 simp only at hl hT hc
 refine dZ (E:=EE) (fn:=Tryz.f30) _ _ _ false AZ Kq Kq Tryz.call30 Kq (fun _=>by kernel_rfl) (fun _=>by kernel_rfl) ?_
 conv=>whnf
 repeat' first|((first|refine Ci hc ?_|refine Sg ?_|refine Ni ?_ ?_);conv=>whnf)
 refine aA [0,3] [1000] (fun i:Nat=>[(4,.d (.int .i64 i))]) (fun _=>[]) (fun i=>i<=L.length∧PE L i) (fun i=>L.length-i) 0 ?_ (fun i hi=> ?_) ⟨Nat.zero_le _,⟨fun j hj=>absurd hj (Nat.not_lt_zero _),fun j hj=>absurd hj (Nat.not_lt_zero _)⟩⟩
 ·conv=>whnf
  repeat' first|((first|refine Sg ?_|refine Ni ?_ ?_);conv=>whnf)|(refine ah (fun _=> ?_) (fun _=> ?_)<;>(conv=>whnf))
  all_goals try first|exact Lq
 ·obtain⟨hi,hp⟩:=hi
  conv=>whnf
  refine ah (fun hlt=> ?_) (fun hlt=> ?_)
  ·have hlt0:i<L.length:=by simpa using hlt
   have hw1:IntKind.i64.wrap ((i:Int)+1)=((i+1:Nat):Int):=wrap_succ (n:=1000) Om Om
   have q1:=kM (L.getD i default).1 (L.getD i default).2
   cases hv:aP (L.getD i default).1 (L.getD i default).2
   ·rw[hv]at q1
    conv=>whnf
    repeat' first|((first|refine Ci q1 ?_|refine Sr ?_|refine Sg ?_|refine Ni ?_ ?_);conv=>whnf)
    all_goals first|exact⟨Om,Om⟩|exact⟨([],a'),⟨Vf,hT⟩,aN rfl,aI.refl _,trivial⟩
   ·rw[hv]at q1
    rcases Nat.eq_zero_or_pos i with h0|h0
    ·have e0:decide ((i:Int)>0)=false:=decide_eq_false Om
     conv=>whnf
     repeat' first|((first|refine Ci q1 ?_|refine Sr ?_|refine aG.mk (i+1) ?_ ?_ ?_|refine Sg ?_|refine Ni ?_ ?_);conv=>whnf)
     all_goals first
      |exact Lf|exact aF.of_eq (by rw[hw1])|exact⟨Om,Om⟩
      |exact⟨Om,hp.next hv (fun h=>Om)⟩
    ·have e0:decide ((i:Int)>0)=true:=decide_eq_true Om
     have hw2:IntKind.i64.wrap ((i:Int)-1)=((i-1:Nat):Int):=by rw[bQ Om Om];omega
     have q2:=dG (L.getD (i-1) default).1 (L.getD (i-1) default).2 (L.getD i default).1 (L.getD i default).2
     have q3:Sc 73 [.agg [.d (.str (L.getD (IntKind.i64.wrap ((i:Int)-1)).toNat default).1),.d (.bool (L.getD (IntKind.i64.wrap ((i:Int)-1)).toNat default).2)],.agg [.d (.str (L.getD i default).1),.d (.bool (L.getD i default).2)]] []
          (.d (.int .i64 (aV (L.getD (i-1) default).1 (L.getD (i-1) default).2 (L.getD i default).1 (L.getD i default).2))) []:=by
      rw[hw2];exact q2
     cases hc2:decide (aV (L.getD (i-1) default).1 (L.getD (i-1) default).2 (L.getD i default).1 (L.getD i default).2>=0)
     ·have hc3:aV (L.getD (i-1) default).1 (L.getD (i-1) default).2 (L.getD i default).1 (L.getD i default).2<0:=by have:=of_decide_eq_false hc2;omega
      conv=>whnf
      repeat' first|((first|refine Ci q1 ?_|refine Ci q3 ?_|refine Sr ?_|refine aG.mk (i+1) ?_ ?_ ?_|refine Sg ?_|refine Ni ?_ ?_);conv=>whnf)
      all_goals first
          |exact Lf|exact aF.of_eq (by rw[hw1])|exact⟨Om,Om⟩
          |(rw[hw2];exact⟨Om,Om⟩)
          |exact⟨Om,hp.next hv (fun _=>hc3)⟩
     ·conv=>whnf
      repeat' first|((first|refine Ci q1 ?_|refine Ci q3 ?_|refine Sr ?_|refine Sg ?_|refine Ni ?_ ?_);conv=>whnf)
      all_goals first
          |exact⟨Om,Om⟩
          |(rw[hw2];exact⟨Om,Om⟩)
          |exact⟨([],a'),⟨Vf,hT⟩,aN rfl,aI.refl _,trivial⟩
  ·have e0:i=L.length:=by have: ¬i<L.length:=by simpa using hlt
                          omega
   subst e0
   conv=>whnf
   repeat' first|((first|refine Sr ?_|refine Sg ?_|refine Ni ?_ ?_);conv=>whnf)
   all_goals first|exact⟨(L,a'),⟨hp.fin Om,hT⟩,aB.refl _,aI.refl _,trivial⟩
theorem X6(m:Nat){l:List Int}{a:Nat}(h:bg l a): ∃x:List dQ×Nat,(w_ x.1∧bg l x.2)∧Sc 30 [.ptr m 0] [(m,aX l a)] (.d (ay dH 2 x.1)) [(m,aX l x.2)]:=by
 obtain⟨x,hx,hs⟩:=aeW h
 exact⟨x,hx,hs.at m⟩
theorem aer(x:aj)(xs:List aj):xs.length<=1000-> ∃k:Int,(-1<=k∧k<=1000)∧Sc 125 [.d (ay aZ 3 xs),zF x] [] (.d (.int .i64 k)) []:=by
 intro hl
 refine dZ (E:=EE) (fn:=Tryz.f125) _ _ _ false AZ Kq Kq Tryz.call125 Kq (fun _=>by kernel_rfl) (fun _=>by kernel_rfl) ?_
 conv=>whnf
 repeat' first|((first|refine Sg ?_|refine Ni ?_ ?_);conv=>whnf)
 refine aA [0,3,6,7] [3] (fun i:Nat=>[(8,.d (.int .i64 i))]) (fun _=>[]) (fun i=>i<=xs.length) (fun i=>xs.length-i) 0 ?_ (fun i hi=> ?_) (Nat.zero_le _)
 ·conv=>whnf
  repeat' first|((first|refine Sg ?_|refine Ni ?_ ?_);conv=>whnf)|(refine ah (fun _=> ?_) (fun _=> ?_)<;>(conv=>whnf))
  all_goals try first|exact Lq
 ·have e1:i<xs.length->IntKind.i64.wrap ((i:Int)+1)=((i+1:Nat):Int):=fun h=>wrap_succ (n:=1000) Om Om
  conv=>whnf
  repeat' first|((first|refine aG.mk (i+1) ?_ ?_ ?_|refine Sg ?_|refine Ni ?_ ?_);conv=>whnf)|(refine ah (fun _=> ?_) (fun _=> ?_)<;>(conv=>whnf))
  all_goals try simp only[decide_eq_true_eq,decide_eq_false_iff_not,Int.toNat_natCast]at*
  all_goals first|exact Lf|exact aF.of_eq (by rw[e1 Om])|exact⟨Om,Om⟩|exact⟨_,⟨Om,Om⟩,aB.refl _,trivial⟩
theorem adO{nodes:List aj}{x:aj}:(wK nodes∧x∈nodes)-> ∃p:Int×Int,True∧Sc 64 [.d (ay aZ 3 nodes),.d (.int .i64 x.id),.d (.int .i64 0)] [] (.cO [.agg [.d (.int .i64 p.1),.d (.int .i64 p.2)],.d (.bool true)]) []:=by
 rintro⟨hS,hx⟩
 have hl:=hS.Jh
 have hsl:=eY nodes
 have q0:=yS hS
 have q1:=wI (nodes:=nodes) (id:=x.id) (x:=x) ⟨BQ hS.r.ids hx,Om⟩
 have q2:Sc 124 [.d (ay aZ 3 (aH nodes)),.d (.int .i64 0),.d (.int .u32 (x.word:Int))] [] (.d (ay aZ 3 (DL x.word 0 (aH nodes)))) []:=
  AX (fun i hi=>hS.wd _ (kN.1 (eF hi))) Om (hS.wd _ hx) (lv:=0) Om
 have hgl:(DL x.word 0 (aH nodes)).length<=20:=Nat.le_trans (List.length_filter_le _ _) Om
 generalize DL x.word 0 (aH nodes)=G at q2 hgl
 refine dZ (E:=EE) (fn:=Tryz.f64) _ _ _ false AZ Kq Kq Tryz.call64 Kq (fun _=>by kernel_rfl) (fun _=>by kernel_rfl) ?_
 conv=>whnf
 repeat' first|((first|refine Ci q0 ?_|refine Ci q1 ?_|refine Ci q2 ?_|refine Sr ?_|refine Sg ?_|refine Ni ?_ ?_);conv=>whnf)
 refine aA [6,7,10,12,45,46] [6,10] (fun p:Nat×Int×Int=>[(47,.d (.int .i64 p.1))]) (fun p=>[(12,.box [.d (.int .i64 p.2.1),.d (.int .i64 p.2.2)])]) (fun p=>p.1<=G.length) (fun p=>G.length-p.1) (0,0,0) ?_ (fun p hp=> ?_) (Nat.zero_le _)
 ·conv=>whnf
  repeat' first|((first|refine Sg ?_|refine Ni ?_ ?_);conv=>whnf)|(refine ah (fun _=> ?_) (fun _=> ?_)<;>(conv=>whnf))
  all_goals try first|exact Lq
 ·obtain⟨i,a,b⟩:=p
  have hp:i<=G.length:=hp
  conv=>whnf
  refine ah (fun hlt=> ?_) (fun hlt=> ?_)
  ·have hlt0:i<G.length:=by simpa using hlt
   have hw1:IntKind.i64.wrap ((i:Int)+1)=((i+1:Nat):Int):=wrap_succ (n:=1000) Om Om
   conv=>whnf
   repeat' first|((first|refine Sg ?_|refine Ni ?_ ?_);conv=>whnf)|(refine ah (fun _=> ?_) (fun _=> ?_)<;>(conv=>whnf))
   all_goals first
    |exact⟨by simp only;omega,by simp only;omega⟩
    |(refine aG.mk ((i+1,a,b):Nat×Int×Int) ?_ ?_ ?_
      conv=>whnf
      repeat' first|((first|refine Sg ?_|refine Ni ?_ ?_);conv=>whnf)|(refine ah (fun _=> ?_) (fun _=> ?_)<;>(conv=>whnf))
      all_goals try first|exact Lq
      all_goals first|exact aF.of_eq (by rw[hw1])|exact⟨trivial,trivial⟩|exact Lf
      done)
    |(refine aG.mk ((i+1,a,(G.getD i default).id):Nat×Int×Int) ?_ ?_ ?_
      conv=>whnf
      repeat' first|((first|refine Sg ?_|refine Ni ?_ ?_);conv=>whnf)|(refine ah (fun _=> ?_) (fun _=> ?_)<;>(conv=>whnf))
      all_goals try first|exact Lq
      all_goals first|exact aF.of_eq (by rw[hw1])|exact⟨trivial,trivial⟩|exact Lf
      done)
    |(refine aG.mk ((i+1,(G.getD i default).id,b):Nat×Int×Int) ?_ ?_ ?_
      conv=>whnf
      repeat' first|((first|refine Sg ?_|refine Ni ?_ ?_);conv=>whnf)|(refine ah (fun _=> ?_) (fun _=> ?_)<;>(conv=>whnf))
      all_goals try first|exact Lq
      all_goals first|exact aF.of_eq (by rw[hw1])|exact⟨trivial,trivial⟩|exact Lf
      done)
    |(refine aG.mk ((i+1,(G.getD i default).id,(G.getD i default).id):Nat×Int×Int) ?_ ?_ ?_
      conv=>whnf
      repeat' first|((first|refine Sg ?_|refine Ni ?_ ?_);conv=>whnf)|(refine ah (fun _=> ?_) (fun _=> ?_)<;>(conv=>whnf))
      all_goals try first|exact Lq
      all_goals first|exact aF.of_eq (by rw[hw1])|exact⟨trivial,trivial⟩|exact Lf
      done)
  ·conv=>whnf
   repeat' first|((first|refine Sr ?_|refine Sg ?_|refine Ni ?_ ?_);conv=>whnf)
   all_goals first|exact⟨(a,b),trivial,aB.refl _,trivial⟩|exact Lf
end Go.Proofs.YtgdgkekpfmhbbaaGreatDoor
