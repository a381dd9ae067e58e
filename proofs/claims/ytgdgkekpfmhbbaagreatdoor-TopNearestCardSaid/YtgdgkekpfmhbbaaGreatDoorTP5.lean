/- Contracts of functions that the law reaches: YtgdgkekpfmhbbaaGreatDoorTP5. Written for this claim. -/
import Derived.Test.YtgdgkekpfmhbbaaGreatDoorTP1
import Derived.Test.YtgdgkekpfmhbbaaGreatDoorTP4
import Derived.Test.YtgdgkekpfmhbbaaGreatDoorTPGt
import Derived.Test.YtgdgkekpfmhbbaaGreatDoorSxIns
import Derived.Test.YtgdgkekpfmhbbaaGreatDoorSxWord
namespace Go.Proofs.YtgdgkekpfmhbbaaGreatDoor
open Go Go.Sx Go.Shelf Go.RowKit Go.Lib Go.Sort Go.Proofs
set_option linter.unusedVariables false
set_option linter.unusedSimpArgs false
set_option maxRecDepth 100000
theorem SK:ML Tryz.prog GG 50:=by
 intro xs i j hi hj hl
 refine Si (fn:=Tryz.f50) Tryz.call50 ?_
 conv=>whnf
 repeat' first|((first|refine Sg ?_|refine Ni ?_ ?_);conv=>whnf)|(refine ah (fun _=> ?_) (fun _=> ?_)<;>(conv=>whnf))
 all_goals try simp only[Int.toNat_natCast]at*
 all_goals first|exact⟨Om,Om⟩|(refine⟨aB.of_eq ?_,trivial⟩;simp_all[Nz])
noncomputable def nwE:TypeInfo:=(Tryz.prog.info? 72).get Kq
theorem nwK(n:Nat)(h2:2<=n):Lib.swapperK n nwE 25=9:=by
 have a:nwE.hasPointers=true:=Kq
 have b:nwE.bytes=32:=Kq
 have c:(n==0)=false:=by simp;omega
 have d:(n==1)=false:=by simp;omega
 simp[Lib.swapperK,a,b,c,d]
theorem nwK0:Lib.swapperK 0 nwE 25=1:=rfl
theorem nwK1:Lib.swapperK 1 nwE 25=2:=rfl
theorem acS:FY Tryz.prog GG 51 25 50 (fun l=> .d (.bool (uz l))) (fun l=> .bool (uz l)) (fun l=>l)where
 enter:=enters_of Tryz.func51 Kq rfl
 rep:=fun l I ρ w=>by simp only[aC,bM]
 names:=fun l n h=>by simp[dO]at h
 Qm:=fun _ _=>rfl
 WV:=fun _=>rfl
 less:=SK
 tiny:=fun l h p c la lb w=>by
  have e:uz l=true:=by unfold uz;rw[show l.length-1=0 by omega];rfl
  rw[e]
  exact ND 50 la lb p l.length c w h
 whole:=fun lb blk off c l h2 hsz w hless hH hblk=>by
  have:=NC enc3 3 Nz 50 lb blk off c l.toArray w (enters_of Tryz.func50 Kq rfl) (by simpa using hless) hH hblk (by simp;omega) (by simp;omega)
  simpa[uz]using this
theorem acP:FY Tryz.prog GG 52 25 50 (fun _=> .cO []) (fun _=> .tuple #[]) zC where
 enter:=enters_of Tryz.func52 Kq rfl
 rep:=fun l I ρ w=>by simp only[aC];exact⟨[],rfl,by simp[aT]⟩
 names:=fun l n h=>by simp[dO,jW]at h
 Qm:=fun l h=>by simp[zC,show l.length<2 by omega]
 WV:=aav
 less:=SK
 tiny:=fun l h p c la lb w=>by
  generalize l.length=n at*
  rcases(show n=0∨n=1 by omega)with rfl|rfl
  ·exact Any.sort_SliceStable_tiny Tryz.gt8 25 72 nvT nwE Kq Kq Kq Kq 25 (fun _=>by kernel_rfl) p 0 c Om 168 (by rw[nwK0];kernel_rfl) _ la lb w
  ·exact Any.sort_SliceStable_tiny Tryz.gt8 25 72 nvT nwE Kq Kq Kq Kq 25 (fun _=>by kernel_rfl) p 1 c Om 169 (by rw[nwK1];kernel_rfl) _ la lb w
 whole:=fun lb blk off c l h2 hsz w hless hH hblk=>by
  have e:zC l=(Sort.insertionSort Nz l.toArray 0 l.toArray.size).toList:=by simp[zC,show¬l.length<2 by omega]
  have:=Any.xA Tryz.gt8 25 72 nvT nwE Kq Kq Kq Kq 25 (fun _=>by kernel_rfl) enc3 3 aeP Kq (fun _=>by kernel_rfl)
   aeO Nz 50 lb (enters_of Tryz.func50 Kq rfl) blk off c l.toArray (by simpa using h2) (by simpa using hsz) 176 (by rw[nwK _ (by simpa using h2)];kernel_rfl) false
   (fun args W=>run_callFunc_extern Tryz.func176 Kq Kq Kq (e:=Extern.ReflectliteSwapper.swap false) Kq args W) w (by simpa using hless) hH hblk
  rw[e]
  exact this
theorem aaw{xs:List aj}(hr:vK xs)(h20:xs.length<20):Sc 18 [.d (ay aZ 3 xs)] [] (.bW 2000 3 0 xs.length) [(2000,.row 72 3 xs.length (cellOf aZ (aH xs)))]:=by
 refine Si (fn:=Tryz.f18) Tryz.call18 ?_
 conv=>whnf
 repeat' first|((first|refine Cf (abQ 2000) ?_ ?_|refine iD (N9 acS xs _ _ _ (by decide)) Fl (Ni ?_ ?_)|refine iD (N9 acP xs _ _ _ (by decide)) Fl (Ni ?_ ?_)|refine Sg ?_|refine Ni ?_ ?_);conv=>whnf)|(refine ah (fun _=> ?_) (fun _=> ?_)<;>(conv=>whnf))
 all_goals first
  |exact trivial|exact⟨rfl,rfl,rfl⟩|exact⟨rfl,aJ.refl _ _ _,h20⟩|omega|exact aJ.refl _ _ _
  |(rw[acQ hr];exact aJ.refl _ _ _)
  |(rw[UD hr (by simp_all)];exact aJ.refl _ _ _)
theorem wM{xs:List aj}:(vK xs∧xs.length<20)->Sc 18 [.d (ay aZ 3 xs)] [] (.d (ay aZ 3 (aH xs))) []:=fun h=>by
 have:=(aaw h.1 h.2).Nu
 show Sc _ _ _ (SV.d (.list (aH xs).length 3 (cellOf aZ (aH xs)))) _
 rw[eY xs]
 exact this
theorem afY(x:Nat){n:Int}:(n=x∧x<=65535)->Sc 352 [.d (.int .u32 n)] [] (.d (.int .i64 (tzF x))) []:=by
 rintro⟨rfl,hx⟩
 refine Si (fn:=Tryz.f352) Tryz.call352 ?_
 conv=>whnf
 repeat' first|((first|refine Sg ?_|refine Ni ?_ ?_);conv=>whnf)|(refine ah (fun _=> ?_) (fun _=> ?_)<;>(conv=>whnf))
 all_goals try simp only[beq_iff_eq,beq_eq_false_iff_ne]at*
 all_goals try rw[deb Om hx]
 all_goals first
  |omega|exact⟨Om,by have:=ajj (x:=x) Om hx;omega⟩|(refine⟨aB.of_eq ?_,trivial⟩;rw[show tzF x=32 by unfold tzF;rw[if_pos Om]])
  |(refine⟨aB.of_eq ?_,trivial⟩
    have e:tzF x=NV (((x&&&(2^32-x))*125613361) % 2^32/2^27):=by unfold tzF;rw[if_neg Om]
    have hr:=NU (x:=x)
    have e5:Tryz.prog.cellsOf 5=1:=Kq
    rw[e5,Int.toNat_natCast,Nat.mul_one,Nat.add_zero]
    show SV.d (D.int IntKind.i64 (IntKind.i64.wrap (NV _)))=_
    rw[<-e,bQ Om Om])
theorem L_(w:Nat)(i:Int):w<=65535->Sc 127 [.d (.int .u32 (w:Int)),.d (.int .i64 i)] [] (.d (.int .i64 (if 0<=i∧i<16 then(Mc w i.toNat:Int)else 0))) []:=by
 intro hx
 refine Si (fn:=Tryz.f127) Tryz.call127 ?_
 conv=>whnf
 repeat' first|((first|refine Sg ?_|refine Ni ?_ ?_);conv=>whnf)|(refine ah (fun _=> ?_) (fun _=> ?_)<;>(conv=>whnf))
 all_goals try simp only[decide_eq_true_eq,decide_eq_false_iff_not]at*
 all_goals first|omega|(refine⟨aB.of_eq ?_,trivial⟩;rw[if_neg Om])|(refine⟨aB.of_eq ?_,trivial⟩;rw[if_pos Om,ahw hx Om Om])
theorem Vg(a b:Nat):a<=65535∧b<=65535->Sc 270 [.d (.int .u32 (a:Int)),.d (.int .u32 (b:Int))] [] (.d (.int .i64 (min (tzF (a^^^b)) 16))) []:=by
 rintro⟨ha,hb⟩
 refine Si (fn:=Tryz.f270) Tryz.call270 ?_
 conv=>whnf
 repeat' first|((first|refine iD (afY (a^^^b)) Fl (Ni ?_ ?_)|refine Sg ?_|refine Ni ?_ ?_);conv=>whnf)|(refine ah (fun _=> ?_) (fun _=> ?_)<;>(conv=>whnf))
 all_goals first
  |(refine⟨aB.of_eq ?_,trivial⟩
    congr 2
    have:=NU (x:=a^^^b)
    split<;>omega)
  |exact⟨xor_val ha hb,by have:=Nat.xor_lt_two_pow (n:=16) (x:=a) (y:=b) Om Om;omega⟩
theorem Gm(a b l:Nat):(a<=65535∧b<=65535∧l<=16)->Sc 187 [.d (.int .u32 (a:Int)),.d (.int .u32 (b:Int)),.d (.int .i64 l)] [] (.d (.bool (wz a b l))) []:=by
 rintro⟨ha,hb,hl⟩
 refine Si (fn:=Tryz.f187) Tryz.call187 ?_
 conv=>whnf
 repeat' first|((first|refine Cf (Vg _ _) ?_ ?_|refine Sg ?_|refine Ni ?_ ?_);conv=>whnf)|(refine ah (fun _=> ?_) (fun _=> ?_)<;>(conv=>whnf))
 all_goals first|exact⟨ha,hb⟩|exact⟨aB.of_eq (by rw[SX ha hb hl]),trivial⟩
theorem Vr(c:List aj)(x:aj)(lv:Nat):(c≠[]∧(c.getD 0 default).word<=65535∧x.word<=65535∧lv<=16)->Sc 350 [.d (ay aZ 3 c),.ptr 1000 0,.ptr 1001 0] [(1000,nV x),(1001,.box [.d (.int .i64 lv)])] (.d (.bool (XE lv x c))) [(1000,nV x),(1001,.box [.d (.int .i64 lv)])]:=by
 rintro⟨h0,h1,h2,h3⟩
 have hc:=ad7 h0
 refine Si (fn:=Tryz.f350) Tryz.call350 ?_
 conv=>whnf
 repeat' first|((first|refine Cf (Gm _ _ _) ?_ ?_|refine Sg ?_|refine Ni ?_ ?_);conv=>whnf)|(refine ah (fun _=> ?_) (fun _=> ?_)<;>(conv=>whnf))
 all_goals first|exact⟨h1,h2,h3⟩|exact⟨Om,Om⟩|exact⟨aB.refl _,aI.refl _,aI.refl _,trivial⟩
structure VQ (cs:List (List aj)):Prop where
 len:cs.length<=1000
 ne: ∀c∈cs,c≠[]
 wd: ∀c∈cs,∀x∈c,x.word<=65535
theorem VQ.add{cs:List (List aj)}(h:VQ cs){lv:Nat}{x:aj}(hx:x.word<=65535)(hl:cs.length<=999):VQ (oP lv cs x):=by
 refine⟨by have:=MH (lv:=lv) (x:=x) (cs:=cs);omega,ZQ h.ne,fun c hc y hy=> ?_⟩
 rcases MG.1 ⟨c,hc,hy⟩with⟨d,hd,hy⟩|rfl
 ·exact h.wd d hd y hy
 ·exact hx
theorem VQ.at{cs:List (List aj)}(h:VQ cs){i:Nat}(hi:i<cs.length):cs.getD i default≠[]∧((cs.getD i default).getD 0 default).word<=65535:=by
 have hm:=rG hi
 have h1:=h.ne _ hm
 exact⟨h1,h.wd _ hm _ (rG (ad7 h1))⟩
theorem aby(cs:List (List aj))(x:aj)(lv:Nat):(VQ cs∧x.word<=65535∧lv<=16)->Sc 349 [.d (ay ajc 1 cs),.clo 350 [.ptr 1000 0,.ptr 1001 0]] [(1000,nV x),(1001,.box [.d (.int .i64 lv)])] (.d (.int .i64 (iP (XE lv x) cs 0))) [(1000,nV x),(1001,.box [.d (.int .i64 lv)])]:=by
 rintro⟨hB,hx,hlv⟩
 have hl:=hB.len
 refine Si (fn:=Tryz.f349) Tryz.call349 ?_
 conv=>whnf
 repeat' first|((first|refine Sg ?_|refine Ni ?_ ?_);conv=>whnf)|(refine ah (fun _=> ?_) (fun _=> ?_)<;>(conv=>whnf))
 refine aA [0,0+1,6,7] [1000,1001] (fun i:Nat=>[(8,.d (.int .i64 i))]) (fun _=>[]) (fun i=>i<=cs.length∧iP (XE lv x) cs 0=iP (XE lv x) (cs.drop i) i) (fun i=>cs.length-i) 0 ?_ (fun i hi=> ?_) ⟨Nat.zero_le _,by simp⟩
 ·conv=>whnf
  repeat' first|((first|refine Sg ?_|refine Ni ?_ ?_);conv=>whnf)|(refine ah (fun _=> ?_) (fun _=> ?_)<;>(conv=>whnf))
  all_goals try first|exact Lq
 ·obtain⟨h1,h2⟩:=hi
  have e1:i<cs.length->IntKind.i64.wrap ((i:Int)+1)=((i+1:Nat):Int):=fun h=>wrap_succ (n:=1000) Om Om
  conv=>whnf
  repeat' first|((first|refine Cf (Vr _ _ _) ?_ ?_|refine aG.mk (i+1) ?_ ?_ ?_|refine Sg ?_|refine Ni ?_ ?_);conv=>whnf)|(refine ah (fun _=> ?_) (fun _=> ?_)<;>(conv=>whnf))
  all_goals try simp only[decide_eq_true_eq,decide_eq_false_iff_not,Int.toNat_natCast]at*
  all_goals first|exact trivial|exact aF.refl _|omega|exact aF.of_eq (by rw[e1 Om])|exact⟨(hB.at Om).1,(hB.at Om).2,hx,hlv⟩|(refine⟨aB.of_eq ?_,aI.refl _,aI.refl _,trivial⟩;rw[h2,sK Om])|(refine⟨aB.of_eq ?_,aI.refl _,aI.refl _,trivial⟩;rw[h2,fV Om];simp_all)|(refine⟨Om,?_⟩;rw[h2,fV Om];simp_all)
theorem ag2(m k:Nat)(hmk:m≠k)(cs:List (List aj)){x:aj}{lv n:Nat}{g:Nat->Nat->D}:((n=cs.length∧aJ n 1 g (cellOf ajc cs))∧VQ cs∧x.word<=65535∧lv<=16)->Sc 349 [.d (.list n 1 g),.clo 350 [.ptr m 0,.ptr k 0]] [(m,nV x),(k,.box [.d (.int .i64 lv)])] (.d (.int .i64 (iP (XE lv x) cs 0))) [(m,nV x),(k,.box [.d (.int .i64 lv)])]:=by
 rintro⟨⟨rfl,hg⟩,h⟩
 have h1:=(aby cs x lv h).at2 m k (by decide) hmk
 simp only[qI,j_,lC,if_true,show¬(1001:Nat)=1000 by decide,if_false]at h1
 exact h1.arg (aI.cons (aB.d (aF.rows rfl hg)) (aI.refl _))
abbrev ah6(rows:Nat->Option fM)(nk:Nat)(get:Nat->Nat->FC)(cs:List (List aj)):Prop:=
 l7 rows nk 72 3 cs.length (fun i=>get i 0) (fun i=>(cs.getD i default).length) (fun i=>cellOf aZ (cs.getD i default))
theorem afd(l:List aj)(lv:Nat):(l.length<=64∧(∀x∈l,x.word<=65535)∧lv<=16)-> ∃x:Nat×(Nat->Option fM)×(Nat->Nat->FC),ah6 x.2.1 x.1 x.2.2 (fQ lv l)∧
 Sc 263 [.d (ay aZ 3 l),.d (.int .i64 lv)] [] (.bW 2000 1 0 (fQ lv l).length) [(2000,.dP 900000 25 1 (fQ lv l).length x.2.2),(900000,.fam x.1 x.2.1)]:=by
 rintro⟨hl,hw,hlv⟩
 have akz:decide ((lv:Int)>16)=false:=by rw[decide_eq_false_iff_not];omega
 have cB:Tryz.prog.cellsOf 25=1:=Kq
 have bB:Tryz.prog.bytesOf 25=24:=Kq
 have cN:Tryz.prog.cellsOf 72=3:=Kq
 have bN:Tryz.prog.bytesOf 72=32:=Kq
 refine uI (E:=EE) (fn:=Tryz.f263) _ _ _ true AZ Kq Kq Tryz.call263 Kq (fun _=>by kernel_rfl) (fun _=>by kernel_rfl) Kq ?_
 conv=>whnf
 repeat' first|((first|refine Sg ?_|refine Ni ?_ ?_);conv=>whnf)
 refine aA [3,11,12] [3] (fun x:(Nat×List (List aj))×Nat×(Nat->Option fM)×(Nat->Nat->FC)=>[(13,.d (.int .i64 x.1.1)),(5,.bW 2000 1 0 x.1.2.length)]) (fun x=>[(2000,.dP 900000 25 1 x.1.2.length x.2.2.2),(900000,.fam x.2.1 x.2.2.1)])
  (fun x=>((x.1.1<=l.length∧x.1.2.length<=x.1.1)∧(VQ x.1.2∧∀c∈x.1.2,c.length<=x.1.1)∧(l.drop x.1.1).foldl (oP lv) x.1.2=fQ lv l)∧ah6 x.2.2.1 x.2.1 x.2.2.2 x.1.2) (fun x=>l.length-x.1.1) ((0,[]),0,fun _=>none,fun _ _=>default) ?_ (fun x hx=> ?_) ⟨⟨⟨Nat.zero_le _,Nat.le_refl _⟩,⟨⟨by simp,by simp,by simp⟩,by simp⟩,rfl⟩,l7.nil⟩
 ·conv=>whnf
  repeat' first|((first|refine Sg ?_|refine Ni ?_ ?_);conv=>whnf)|(refine ah (fun _=> ?_) (fun _=> ?_)<;>(conv=>whnf))
  all_goals try first|exact Lq
 ·obtain⟨⟨i,cs⟩,nk,rows,get⟩:=x
  obtain⟨⟨⟨hi,hci⟩,⟨hB,hsz⟩,hf⟩,hN⟩:=hx
  simp only at hi hci hB hsz hf hN
  have hs:i<l.length->IntKind.i64.wrap ((i:Int)+1)=((i+1:Nat):Int):=fun h=>wrap_succ (n:=1000) Om Om
  conv=>whnf
  refine ah (fun hlt=> ?_) (fun hlt=> ?_)
  ·have hlt:i<l.length:=by simpa using hlt
   have hxw:=hw _ (rG hlt)
   have hsi:=hs hlt
   have hstep: ∀cs',cs'=oP lv cs (l.getD i default)->(l.drop (i+1)).foldl (oP lv) cs'=fQ lv l:=by
    rintro _ rfl
    rw[<-hf,List.drop_eq_getElem_cons hlt,List.foldl_cons]
    simp[List.getD,hlt]
   have hadd:=MH (lv:=lv) (x:=l.getD i default) (cs:=cs)
   have hB':=hB.add (lv:=lv) hxw Om
   have hsz':=RF (lv:=lv) (x:=l.getD i default) hsz
   conv=>whnf
   repeat' first|((first|refine iD (ag2 _ _ (by decide) cs) Fl (Ni ?_ ?_)|refine Sg ?_|refine Ni ?_ ?_);conv=>whnf)
   refine GL [3,7,11,12,13] [3,7,900000] (fun z:Nat×Nat×(Nat->Nat->FC)=>[(8,.d (.int .i64 z.1)),(5,.bW 2000 1 0 z.2.1)]) (fun z=>[(2000,.dP 900000 25 1 z.2.1 z.2.2)])
    (fun z=>z.1<z.2.1∧((z.2.1=cs.length∧z.2.2=get∧iP (XE lv (l.getD i default)) cs 0=z.1)∨(z.2.1=cs.length+1∧z.1=cs.length∧iP (XE lv (l.getD i default)) cs 0= -1∧z.2.2 z.1 0= .d (.val (.slice none 0 0))∧∀a,a<cs.length->z.2.2 a 0=get a 0))) (fun h1=> ?_) (fun h1=> ?_) ?_
   ·conv=>whnf
    repeat' first|((first|refine zu.mk (cs.length,cs.length+1,fun a b=>if a<cs.length then get a b else .d (.val (.slice none 0 0))) ?_ ?_|refine Sg ?_|refine Ni ?_ ?_);conv=>whnf)
    all_goals try simp only[cB,bB]
    all_goals first
     |exact Lf|exact⟨trivial,trivial,trivial⟩|exact⟨trivial,Om,Om⟩
     |(refine jo.of_eq fun a j ha hj=> ?_
       have hj:j=0:=Om
       subst hj
       by_cases ha':a<cs.length
       ·simp only[if_pos ha']
       ·simp only[if_neg ha',show a-cs.length=0 by omega];rfl)
     |(refine⟨Om,.inr ⟨trivial,trivial,?_,by simp only[Nat.lt_irrefl,if_false],fun a ha=>by simp only[if_pos ha]⟩⟩
       rcases jk (p:=XE lv (l.getD i default)) (xs:=cs) (f:=0)with⟨q1,q2⟩|⟨q,q1,_⟩
       ·exact q1
       ·simp only[decide_eq_true_eq,Int.toNat_natCast]at h1;omega)
     |skip
   ·conv=>whnf
    repeat' first|((first|refine zu.mk ((iP (XE lv (l.getD i default)) cs 0).toNat,cs.length,get) ?_ ?_|refine Sg ?_|refine Ni ?_ ?_);conv=>whnf)
    all_goals simp only[decide_eq_false_iff_not,Int.toNat_natCast]at h1
    all_goals rcases jk (p:=XE lv (l.getD i default)) (xs:=cs) (f:=0)with⟨q1,q2⟩|⟨q,q1,q2,q3,q4⟩
    all_goals first
     |exact Lf
     |(exfalso;omega)
     |(refine aF.of_eq ?_;simp only[Int.toNat_natCast];congr 1;omega)|exact⟨by simp only;omega,.inl ⟨rfl,rfl,by simp only;omega⟩⟩
     |skip
   ·rintro⟨k,len,get'⟩ ⟨hk,hz⟩
    simp only at hk hz
    conv=>whnf
    repeat' first|((first|refine Sg ?_|refine Ni ?_ ?_);conv=>whnf)
    ·rcases hz with⟨rfl,rfl,hix⟩|⟨rfl,rfl,hix,hnil,hold⟩
     ·obtain⟨kk,g,e1,e2,e3,e4⟩:=hN.cell k hk
      have eg:=e1
      have hck:=hsz _ (rG hk)
      have ea:oP lv cs (l.getD i default)=cs.set k (cs.getD k default++[l.getD i default]):=by
           rcases jk (p:=XE lv (l.getD i default)) (xs:=cs) (f:=0)with⟨q1,q2⟩|⟨q,q1,q2,q3,q4⟩
           ·omega
           ·have:q=k:=Om
            subst this
            exact ZR hk q3 q4
      have e1:get' (0+(k:Int).toNat) 0= .fs kk 3 (cs.getD k default).length:=by rw[Nat.zero_add,Int.toNat_natCast];exact e1
      dsimp only
      rw[e1]
      conv=>whnf
      repeat' first|((first|refine aG.mk ((i+1,oP lv cs (l.getD i default)),nk+1,jc (jc rows kk none) nk (some ⟨72,3,(cs.getD k default).length+1,cellOf aZ (cs.getD k default++[l.getD i default])⟩),fun a b=>if a=k then .fs nk 3 ((cs.getD k default).length+1)else get' a b) ?_ ?_ ?_|refine Sg ?_|refine Ni ?_ ?_);conv=>whnf)
      all_goals try simp only[cN,bN,Int.toNat_natCast,Nat.zero_add]
      all_goals try simp only[ea,List.length_set]
      all_goals first
           |exact Lf|exact⟨trivial,trivial,trivial⟩|exact aF.of_eq (by rw[hsi])
           |exact gy.put (gy.refl _) (dN rfl ⟨fun a j ha hj=>by simp only[mO,e3];exact e4.le a j ha hj⟩ (xO (aF.of_eq rfl) (aF.of_eq rfl) (aF.of_eq rfl)))
           |(refine jo.of_eq fun a j ha hj=> ?_
             have hj:j=0:=Om
             subst hj
             by_cases ha':a=k
             ·simp only[if_pos ha'];rfl
             ·simp only[if_neg ha'])
           |(refine⟨⟨_,e3,rfl,rfl,rfl⟩,?_,?_⟩<;>omega)
           |(refine⟨⟨⟨Om,Om⟩,⟨by rw[<-ea];exact hB',by rw[<-ea];exact hsz'⟩,hstep _ ea.symm⟩,?_⟩
             have hn:=l7.swap (sl':=fun a=>if a=k then .fs nk 3 ((cs.getD k default).length+1)else get' a 0) (Zi:=fun a=>((cs.set k (cs.getD k default++[l.getD i default])).getD a default).length)
              (cn':=fun a=>cellOf aZ ((cs.set k (cs.getD k default++[l.getD i default])).getD a default)) (g:=cellOf aZ (cs.getD k default++[l.getD i default])) hN hk eg (fun a ha hne=>by simp only[rP hk,if_neg hne];exact⟨trivial,trivial,trivial⟩)
              (by simp only[rP hk,if_true,List.length_append,List.length_singleton]) (by simp only[rP hk,if_true];exact aJ.refl _ _ _)
             simp only[rP hk,if_true,List.length_append,List.length_singleton]at hn
             show l7 _ _ _ _ _ _ _ _
             simp only[List.length_set,rP hk]
             exact hn)
     ·have ea:oP lv cs (l.getD i default)=cs++[[l.getD i default]]:=by
           rcases jk (p:=XE lv (l.getD i default)) (xs:=cs) (f:=0)with⟨q1,q2⟩|⟨q,q1,q2,q3,q4⟩
           ·exact Px q2
           ·omega
      have e1:get' (0+(cs.length:Int).toNat) 0= .d (.val (.slice none 0 0)):=by rw[Nat.zero_add,Int.toNat_natCast];exact hnil
      dsimp only
      rw[e1]
      conv=>whnf
      repeat' first|((first|refine aG.mk ((i+1,oP lv cs (l.getD i default)),nk+1,jc rows nk (some ⟨72,3,1,cellOf aZ [l.getD i default]⟩),fun a b=>if a=cs.length then .fs nk 3 1 else get' a b) ?_ ?_ ?_|refine Sg ?_|refine Ni ?_ ?_);conv=>whnf)
      all_goals try simp only[cN,bN,Int.toNat_natCast,Nat.zero_add]
      all_goals try simp only[ea,List.length_append,List.length_singleton]
      all_goals first
           |exact Lf|exact⟨trivial,trivial,trivial⟩|exact aF.of_eq (by rw[hsi])|exact gy.put (gy.refl _) (row_one (xO (aF.of_eq rfl) (aF.of_eq rfl) (aF.of_eq rfl)))
           |(refine jo.of_eq fun a j ha hj=> ?_
             have hj:j=0:=Om
             subst hj
             by_cases ha':a=cs.length
             ·simp only[if_pos ha'];rfl
             ·simp only[if_neg ha'])
           |(refine⟨⟨⟨Om,Om⟩,⟨by rw[<-ea];exact hB',by rw[<-ea];exact hsz'⟩,hstep _ ea.symm⟩,?_⟩
             have hn:=l7.push (sl':=fun a=>if a=cs.length then .fs nk 3 1 else get' a 0) (Zi:=fun a=>((cs++[[l.getD i default]]).getD a default).length)
              (cn':=fun a=>cellOf aZ ((cs++[[l.getD i default]]).getD a default)) (g:=cellOf aZ [l.getD i default]) hN (fun a ha=>by
                have hne:a≠cs.length:=Om
                simp only[dR,if_neg hne];exact⟨hold a ha,trivial,trivial⟩)
              (by simp only[dR,if_true,List.length_singleton]) (by simp only[dR,if_true];exact aJ.refl _ _ _)
             simp only[dR,if_true,List.length_singleton]at hn
             show l7 _ _ _ _ _ _ _ _
             simp only[List.length_append,List.length_singleton,dR]
             exact hn)
    all_goals simp only[Int.toNat_natCast]
    all_goals first|omega|exact⟨Om,Om⟩
   ·simp only[Int.toNat_natCast,Nat.zero_add]
    refine⟨⟨trivial,⟨fun a b ha hb=> ?_⟩⟩,hB,hw _ (rG hlt),hlv⟩
    have hb:b=0:=Om
    subst hb
    exact(hN.cell a ha).le
   ·intro a b ha hb
    have hb:b=0:=Om
    subst hb
    simp only[Nat.zero_add]
    exact(hN.cell a ha).ok
   ·exact⟨by simp only;omega,by simp only;omega⟩
  ·have hlt:l.length<=i:=by simpa using hlt
   have e:cs=fQ lv l:=by rw[<-hf,List.drop_eq_nil_of_le hlt];rfl
   subst e
   conv=>whnf
   repeat' first|((first|refine Sg ?_|refine Ni ?_ ?_);conv=>whnf)
   refine⟨(nk,rows,get),hN,?_⟩
   conv=>whnf
   repeat' first|((first|refine Sg ?_|refine Ni ?_ ?_);conv=>whnf)
   all_goals first|exact Lf
theorem abT{l:List aj}{lv:Nat}:(l.length<=64∧(∀x∈l,x.word<=65535)∧lv<=16)->Sc 263 [.d (ay aZ 3 l),.d (.int .i64 lv)] [] (.d (ay ajc 1 (fQ lv l))) []:=fun h=>by
 obtain⟨⟨nk,rows,get⟩,hN,hs⟩:=afd l lv h
 have:=Spec.yO (l9:=[]) (pre:=[]) (m:=2000) (fn:=900000) hs rfl (fun i j hi hj=>by
  have hj:j=0:=Om
  subst hj
  exact(hN.cell i hi).ok) (by simp) (by simp[pV,Nat.beq_refl,dO])
 simp only[pV,Nat.beq_refl]at this
 refine this.res (aB.d (aF.rows rfl ⟨fun i j hi hj=> ?_⟩)) (by simp[dO])
 have hj:j=0:=Om
 subst hj
 rw[Nat.zero_add]
 exact(hN.cell i hi).le
structure wK (l:List aj):Prop where
 r:vK l
 Jh:l.length<20
theorem wK.sort{l:List aj}(h:wK l):wK (aH l):=⟨h.r.sort,by rw[eY];exact h.Jh⟩
theorem wK.wd{l:List aj}(h:wK l): ∀x∈l,x.word<=65535:=fun x hx=>(h.r.ok x hx).2.2.2
theorem yS{l:List aj}:wK l->Sc 123 [.d (ay aZ 3 l)] [] (.cO [.d (ay aZ 3 (aH l)),.d (.bool true)]) []:=by
 intro h
 have hc:=oM.2 h.r
 have hl:=h.Jh
 refine Si (fn:=Tryz.f123) Tryz.call123 ?_
 conv=>whnf
 repeat' first|((first|refine Cf (wM) ?_ ?_|refine Cf (sW _) ?_ ?_|refine Sg ?_|refine Ni ?_ ?_);conv=>whnf)|(refine ah (fun _=> ?_) (fun _=> ?_)<;>(conv=>whnf))
 all_goals first|exact⟨h.r,hl⟩|omega|(refine⟨aB.of_eq ?_,trivial⟩;rw[hc];rfl)
theorem Hg{l:List aj}{lv:Nat}(hl:l.length<=64):(fQ lv l).length<=64∧∀c∈fQ lv l,c.length<=64:=by
 have key: ∀(m:List aj)(cs:List (List aj))(n:Nat),cs.length<=n->(∀c∈cs,c.length<=n)->(m.foldl (oP lv) cs).length<=n+m.length∧∀c∈m.foldl (oP lv) cs,c.length<=n+m.length:=by
  intro m
  induction m with
  |nil=>intro cs n h1 h2;exact⟨by simpa using h1,by simpa using h2⟩
  |cons x m ih=>
   intro cs n h1 h2
   have:=MH (lv:=lv) (x:=x) (cs:=cs)
   have h3:=ih (oP lv cs x) (n+1) Om (RF h2)
   rw[List.foldl_cons,List.length_cons]
   exact⟨Om,fun c hc=>by have:=h3.2 c hc;omega⟩
 have:=key l [] 0 (by simp) (by simp)
 exact⟨by simp only[fQ];omega,fun c hc=>by have:=this.2 c hc;omega⟩
theorem take_snoc{α:Type}[Inhabited α]{xs:List α}{i:Nat}(h:i<xs.length):xs.take (i+1)=xs.take i++[xs.getD i default]:=by
 rw[List.take_add_one,List.getElem?_eq_getElem h];simp[List.getD,h]
theorem vY{α:Type}{xs:List α}{i:Nat}(h:xs.length<=i):xs.take i=xs:=List.take_of_length_le h
theorem Xk{l:List aj}{lv:Nat}:(wK l∧lv<=16)->Sc 161 [.d (ay aZ 3 l),.d (.int .i64 lv)] [] (.d (ay ZE 1 (h_ l lv))) []:=by
 rintro⟨h,hlv⟩
 have hl:=h.sort.Jh
 have akz:decide ((lv:Int)<0)=false:=by rw[decide_eq_false_iff_not];omega
 have hlv2:decide ((lv:Int)>16)=false:=by rw[decide_eq_false_iff_not];omega
 have hb:=Hg (l:=aH l) (lv:=lv) Om
 have hw:=h.sort.wd
 have cI:Tryz.prog.cellsOf 22=1:=Kq
 have bI:Tryz.prog.bytesOf 22=24:=Kq
 have cZ:Tryz.prog.cellsOf 3=1:=Kq
 have bZ:Tryz.prog.bytesOf 3=8:=Kq
 have hll:(h_ l lv).length=(fQ lv (aH l)).length:=by simp[h_]
 refine Si (fn:=Tryz.f161) Tryz.call161 ?_
 conv=>whnf
 repeat' first|((first|refine Cf (yS) ?_ ?_|refine Cf (abT) ?_ ?_|refine Sg ?_|refine Ni ?_ ?_);conv=>whnf)|(refine ah (fun _=> ?_) (fun _=> ?_)<;>(conv=>whnf))
 ·refine aA [30,31] [] (fun i:Nat=>[(32,.d (.int .i64 i)),(7,.bW 2000 1 0 i)]) (fun i=>[(2000,.row 22 1 i (cellOf ZE ((h_ l lv).take i)))]) (fun i=>i<=(fQ lv (aH l)).length) (fun i=>(fQ lv (aH l)).length-i) 0 ?_ (fun i hi=> ?_) (Nat.zero_le _)
  ·conv=>whnf
   repeat' first|((first|refine Sg ?_|refine Ni ?_ ?_);conv=>whnf)|(refine ah (fun _=> ?_) (fun _=> ?_)<;>(conv=>whnf))
   all_goals try first|exact Lq
   all_goals exact pO
  ·have hs:i<(fQ lv (aH l)).length->IntKind.i64.wrap ((i:Int)+1)=((i+1:Nat):Int):=fun h=>wrap_succ (n:=1000) Om Om
   conv=>whnf
   refine ah (fun hlt=> ?_) (fun hlt=> ?_)
   ·have hlt0:i<(fQ lv (aH l)).length:=by simpa using hlt
    have hci:=hb.2 _ (rG hlt0)
    have hgi:(h_ l lv).getD i default=((fQ lv (aH l)).getD i default).map (·.id):=by simp[h_,List.getD,hlt0]
    have hcl:(((fQ lv (aH l)).getD i default).map (·.id)).length=((fQ lv (aH l)).getD i default).length:=by simp
    generalize hc:(fQ lv (aH l)).getD i default=c at*
    conv=>whnf
    repeat' first|((first|refine Sg ?_|refine Ni ?_ ?_);conv=>whnf)
    ·refine aA [30,31,32,7,36,37] [2000] (fun j:Nat=>[(38,.d (.int .i64 j)),(10,.bW 3000 1 0 j)]) (fun j=>[(3000,.row 3 1 j (cellOf encZ ((c.map (·.id)).take j)))]) (fun j=>j<=c.length) (fun j=>c.length-j) 0 ?_ (fun j hj=> ?_) (Nat.zero_le _)
     ·conv=>whnf
      repeat' first|((first|refine Sg ?_|refine Ni ?_ ?_);conv=>whnf)|(refine ah (fun _=> ?_) (fun _=> ?_)<;>(conv=>whnf))
      all_goals try first|exact Lq
      all_goals exact pO
     ·have hsj:j<c.length->IntKind.i64.wrap ((j:Int)+1)=((j+1:Nat):Int):=fun h=>wrap_succ (n:=1000) Om Om
      conv=>whnf
      refine ah (fun hlj=> ?_) (fun hlj=> ?_)
      ·have ag3:j<c.length:=by rw[decide_eq_true_eq]at hlj;simp only[Int.toNat_natCast,hc]at hlj;omega
       conv=>whnf
       repeat' first|((first|refine aG.mk (j+1) ?_ ?_ ?_|refine Sg ?_|refine Ni ?_ ?_);conv=>whnf)|(refine ah (fun _=> ?_) (fun _=> ?_)<;>(conv=>whnf))
       all_goals try simp only[cZ,bZ,Int.toNat_natCast,hc]
       all_goals first
        |exact Lf|exact⟨trivial,trivial,trivial⟩|exact⟨trivial,Om,Om⟩|exact⟨Om,Om⟩|exact aF.of_eq (by rw[hsj ag3])
        |(rw[take_snoc (by simpa using ag3)]
          refine dN (by rw[List.length_take,List.length_map];omega) (aJ.refl _ _ _) (AB (aF.of_eq ?_))
          have e:(c.map (·.id)).getD j default=(c.getD j default).id:=by simp[List.getD,ag3]
          rw[e]
          exact rfl)
      ·have ag3:c.length=j:=by rw[decide_eq_false_iff_not]at hlj;simp only[Int.toNat_natCast,hc]at hlj;omega
       conv=>whnf
       repeat' first|((first|refine aG.mk (i+1) ?_ ?_ ?_|refine Sg ?_|refine Ni ?_ ?_);conv=>whnf)|(refine ah (fun _=> ?_) (fun _=> ?_)<;>(conv=>whnf))
       all_goals try simp only[cI,bI,Int.toNat_natCast,hc]
       all_goals first
        |exact Lf|exact⟨trivial,trivial,trivial⟩|exact⟨trivial,Om,Om⟩|exact⟨Om,Om⟩|exact aF.of_eq (by rw[hs hlt0])
        |(rw[take_snoc (by simpa[h_]using hlt0)]
          refine dN (by simp[h_];omega) (aJ.refl _ _ _) (AB ?_)
          rw[hgi]
          refine aF.rows (by simp;omega) (.of_eq fun a b ha hb=> ?_)
          rw[Nat.zero_add,List.take_of_length_le (by simp;omega)];done)
    ·exact⟨Om,Om⟩
   ·have hlt0:(fQ lv (aH l)).length<=i:=by simpa using hlt
    have e:i=(h_ l lv).length:=Om
    conv=>whnf
    repeat' first|((first|refine Sg ?_|refine Ni ?_ ?_);conv=>whnf)|(refine ah (fun _=> ?_) (fun _=> ?_)<;>(conv=>whnf))
    all_goals first
     |(refine⟨aB.d (aF.rows e ?_),trivial⟩
       rw[vY Om]
       exact row_zero)
 ·exact⟨Om,hw,hlv⟩
 ·exact h
end Go.Proofs.YtgdgkekpfmhbbaaGreatDoor
