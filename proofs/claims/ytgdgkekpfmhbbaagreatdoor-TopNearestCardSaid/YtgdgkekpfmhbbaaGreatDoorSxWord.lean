/- Part of a symbolic executor over the model, proved sound, with plain laws: SxWord. Written for this claim. -/
import Derived.Test.YtgdgkekpfmhbbaaGreatDoorSxIns
import Derived.Test.YtgdgkekpfmhbbaaGreatDoorSxWlk3
set_option linter.unusedVariables false
set_option linter.unusedSimpArgs false
namespace Go.Sx
open Go
def NV(n:Nat):Int:=([0,1,28,2,29,14,24,3,30,22,20,15,25,17,4,8,31,27,13,23,21,19,16,7,26,12,18,6,11,5,10,9]:List Int).getD n 0
theorem Ox: ∀{n x:Nat},0<x->x<2^n-> ∃k m,k<n∧x=2^k*(2*m+1)
 |0,x,h0,h=>by simp at h;omega
 |n+1,x,h0,h=>by
  rcases Nat.mod_two_eq_zero_or_one x with e|e
  ·obtain⟨k,m,h1,h2⟩:=Ox (n:=n) (x:=x/2) Om (by rw[Nat.pow_succ]at h;omega)
   refine⟨k+1,m,Om,?_⟩
   have:x=2*(x/2):=Om
   rw[this,h2,Nat.pow_succ]
   have e:x/2*2/2=x/2:=Om
   rw[Nat.mul_comm (2^k) 2,Nat.mul_assoc]
  ·exact⟨0,x/2,Om,Om⟩
theorem aea{k m:Nat}(hk:k<32)(h:2^k*(2*m+1)<2^32):(2^k*(2*m+1))&&&(2^32-2^k*(2*m+1))=2^k:=by
 have e32:2^32=2^k*2^(32-k):=by rw[<-Nat.pow_add];congr 1;omega
 have hm:2*m+1<2^(32-k):=by
  rw[e32]at h
  exact Nat.lt_of_mul_lt_mul_left h
 have e31:2^(32-k)=2*2^(31-k):=by rw[<-Nat.pow_succ'];congr 1;omega
 have hm2:m<2^(31-k):=Om
 rw[e32,<-Nat.mul_sub,Nat.mul_comm (2^k) (2*m+1),Nat.mul_comm (2^k) (2^(32-k)-(2*m+1)),<-Nat.shiftLeft_eq,<-Nat.shiftLeft_eq,<-Nat.shiftLeft_and_distrib]
 have e1:2^(32-k)-(2*m+1)=2*(2^(31-k)-(m+1))+1:=Om
 rw[e1]
 have e2:(2*m+1)&&&(2*(2^(31-k)-(m+1))+1)=1:=by
  apply Nat.eq_of_testBit_eq
  intro i
  cases i with
  |zero=>simp[Nat.testBit_and]
  |succ i=>
   have h1: ∀q:Nat,(2*q+1).testBit (i+1)=q.testBit i:=by
    intro q
    rw[Nat.testBit_succ];congr 1;omega
   rw[Nat.testBit_and,h1,h1,Nat.testBit_two_pow_sub_succ hm2]
   have:Nat.testBit 1 (i+1)=false:=by rw[Nat.testBit_succ];simp
   rw[this];cases m.testBit i<;>simp
 rw[e2,Nat.shiftLeft_eq,Nat.one_mul]
theorem acB: ∀k:Nat,k<32->NV ((2^k*125613361) % 2^32/2^27)=(k:Int):=by decide
theorem akh{k m l:Nat}:2^k*(2*m+1) % 2^l=0↔l<=k:=by
 constructor
 ·intro h
  refine Nat.le_of_not_lt fun hl=> ?_
  have e:2^l=2^k*2^(l-k):=by rw[<-Nat.pow_add];congr 1;omega
  rw[e,Nat.mul_mod_mul_left]at h
  have h2:(2*m+1) % 2^(l-k)=0:=by
   rcases Nat.mul_eq_zero.1 h with h|h
   ·have:=Nat.two_pow_pos k;omega
   ·exact h
  have e2:2^(l-k)=2*2^(l-k-1):=by rw[<-Nat.pow_succ'];congr 1;omega
  have h3:=Nat.dvd_of_mod_eq_zero h2
  rw[e2]at h3
  have:=Nat.dvd_trans (Nat.dvd_mul_right 2 _) h3
  omega
 ·intro h
  have e:2^k=2^l*2^(k-l):=by rw[<-Nat.pow_add];congr 1;omega
  rw[e,Nat.mul_assoc]
  exact Nat.mul_mod_right _ _
theorem VZ{a b l:Nat}:(a^^^b) % 2^l=0↔a % 2^l=b % 2^l:=by
 rw[Nat.xor_mod_two_pow]
 constructor
 ·intro h
  apply Nat.eq_of_testBit_eq
  intro i
  have:=congrArg (fun q=>Nat.testBit q i) h
  simp only[Nat.testBit_xor,Nat.zero_testBit]at this
  revert this
  cases (a % 2^l).testBit i<;>cases (b % 2^l).testBit i<;>simp
 ·intro h;rw[h,Nat.xor_self]
def wz(a b l:Nat):Bool:=a % 2^l==b % 2^l
def Mc(w l:Nat):Nat:=w/2^l % 2
def tzF(x:Nat):Int:=if x=0 then 32 else NV (((x&&&(2^32-x))*125613361) % 2^32/2^27)
theorem aif{x l:Nat}(hx:x<65536)(hl:l<=16):(l:Int)<=min (tzF x) 16↔x % 2^l=0:=by
 unfold tzF
 by_cases h0:x=0
 ·subst h0;simp;omega
 ·rw[if_neg h0]
  obtain⟨k,m,h1,h2⟩:=Ox (n:=16) (x:=x) Om (by simpa using hx)
  have h3:=aea (k:=k) (m:=m) Om (by rw[<-h2];omega)
  rw[<-h2]at h3
  rw[h3,acB k Om,h2,akh]
  omega
theorem SX{a b l:Nat}(ha:a<=65535)(hb:b<=65535)(hl:l<=16):decide ((l:Int)<=min (tzF (a^^^b)) 16)=wz a b l:=by
 have hx:a^^^b<65536:=Nat.xor_lt_two_pow (n:=16) Om Om
 rw[wz]
 refine Bool.eq_iff_iff.2 ?_
 rw[decide_eq_true_eq,aif hx hl,VZ,beq_iff_eq]
end Go.Sx
namespace Go.Sx
open Go
theorem Em(n:Int):IntKind.u32.wrap n=n % 4294967296:=by
 simp[IntKind.wrap,IntKind.bits,IntKind.signed]
theorem aff{x:Nat}(h:x<4294967296):(BitVec.ofInt IntKind.u32.bits (x:Int)).toNat=x:=by
 simp only[IntKind.bits,BitVec.toNat_ofInt]
 omega
theorem deb{x:Nat}(h0:0<x)(hx:x<=65535):(IntKind.u32.wrap (IntKind.u32.wrap ↑(BitVec.ofInt IntKind.u32.bits (x:Int)&&&BitVec.ofInt IntKind.u32.bits (IntKind.u32.wrap (0-(x:Int)))).toNat*125613361)).fdiv (2^min (Int.toNat 27) IntKind.u32.bits)=
 ((((x&&&(2^32-x))*125613361) % 2^32/2^27:Nat):Int):=by
 have e1:IntKind.u32.wrap (0-(x:Int))=((2^32-x:Nat):Int):=by rw[Em];omega
 rw[e1,BitVec.toNat_and,aff Om,aff Om]
 have hl:x&&&(2^32-x)<=x:=Nat.and_le_left
 generalize x&&&(2^32-x)=y at*
 rw[Em,Em]
 have e2:(2:Int)^min (Int.toNat 27) IntKind.u32.bits=134217728:=by decide
 rw[e2,Int.fdiv_eq_ediv_of_nonneg _ (by decide)]
 omega
theorem ajj{x:Nat}(h0:0<x)(hx:x<=65535):(((x&&&(2^32-x))*125613361) % 2^32/2^27)<32:=Om
theorem NU{x:Nat}:0<=tzF x∧tzF x<=32:=by
 unfold tzF
 split
 ·omega
 ·have: ∀n,n<32->0<=NV n∧NV n<=32:=by decide
  exact this _ Om
theorem ahw{w:Nat}{i:Int}(hw:w<=65535)(h0:0<=i)(h1:i<16):
 IntKind.i64.wrap (IntKind.u32.wrap ↑(BitVec.ofInt IntKind.u32.bits ((w:Int).fdiv (2^min i.toNat IntKind.u32.bits))&&&BitVec.ofInt IntKind.u32.bits 1).toNat)=(Mc w i.toNat:Int):=by
 have e:min i.toNat IntKind.u32.bits=i.toNat:=by simp[IntKind.bits];omega
 rw[e]
 have e2:(w:Int).fdiv (2^i.toNat)=((w/2^i.toNat:Nat):Int):=by
  rw[Int.fdiv_eq_ediv_of_nonneg _ (by exact Int.pow_nonneg (by decide))];simp
 have hle:w/2^i.toNat<=w:=Nat.div_le_self _ _
 rw[e2,BitVec.toNat_and,aff Om]
 have e3:(BitVec.ofInt IntKind.u32.bits 1).toNat=1:=by decide
 rw[e3,Nat.and_one_is_mod,Em]
 unfold Mc
 generalize w/2^i.toNat=q at*
 rw[show(((q % 2:Nat):Int) % 4294967296)=((q % 2:Nat):Int)by omega]
 exact bQ Om Om
theorem xor_val{a b:Nat}(ha:a<=65535)(hb:b<=65535):IntKind.u32.wrap ↑(BitVec.ofInt IntKind.u32.bits (a:Int)^^^BitVec.ofInt IntKind.u32.bits (b:Int)).toNat=((a^^^b:Nat):Int):=by
 have hx:a^^^b<65536:=Nat.xor_lt_two_pow (n:=16) Om Om
 rw[BitVec.toNat_xor,aff Om,aff Om,Em]
 omega
end Go.Sx
namespace Go.Sx
open Go
def ajc(c:List aj):List D:=[ay aZ 3 c]
def oP(lv:Nat):List (List aj)->aj->List (List aj)
 |[],x=>[[x]]
 |c::cs,x=>if wz (c.getD 0 default).word x.word lv then(c++[x])::cs else c::oP lv cs x
def fQ(lv:Nat)(l:List aj):List (List aj):=l.foldl (oP lv) []
def XE(lv:Nat)(x:aj)(c:List aj):Bool:=wz (c.getD 0 default).word x.word lv
theorem Px{lv:Nat}{x:aj}: ∀{cs:List (List aj)},cs.any (XE lv x)=false->oP lv cs x=cs++[[x]]
 |[],_=>rfl
 |c::cs,h=>by
  simp only[List.any_cons,Bool.or_eq_false_iff]at h
  have h1:wz (c.getD 0 default).word x.word lv=false:=h.1
  simp only[oP,h1,Bool.false_eq_true,if_false,Px h.2,List.cons_append]
theorem ZR{lv:Nat}{x:aj}: ∀{cs:List (List aj)}{i:Nat},i<cs.length->XE lv x (cs.getD i default)=true->(∀j,j<i->XE lv x (cs.getD j default)=false)->oP lv cs x=cs.set i (cs.getD i default++[x])
 |[],i,h,_,_=>by simp at h
 |c::cs,0,_,h,_=>by
  have h1:wz (c.getD 0 default).word x.word lv=true:=h
  simp only[oP,h1,if_true];rfl
 |c::cs,i+1,hl,h,hb=>by
  have h0:=hb 0 Om
  have h1:wz (c.getD 0 default).word x.word lv=false:=h0
  have:=ZR (cs:=cs) (i:=i) (by simpa using hl) (by simpa using h) (fun j hj=>by simpa using hb (j+1) Om)
  simp only[oP,h1,Bool.false_eq_true,if_false,this];rfl
theorem ZQ{lv:Nat}{x:aj}: ∀{cs:List (List aj)},(∀c∈cs,c≠[])-> ∀c∈oP lv cs x,c≠[]
 |[],_,c,hc=>by simp[oP]at hc;subst hc;simp
 |d::cs,h,c,hc=>by
  simp only[oP]at hc
  split at hc
  ·rcases List.mem_cons.1 hc with rfl|hc
   ·simp
   ·exact h c (by simp[hc])
  ·rcases List.mem_cons.1 hc with rfl|hc
   ·exact h _ (by simp)
   ·exact ZQ (fun c hc=>h c (by simp[hc])) c hc
theorem MG{lv:Nat}{x:aj}: ∀{cs:List (List aj)}{y:aj},(∃c∈oP lv cs x,y∈c)↔(∃c∈cs,y∈c)∨y=x
 |[],y=>by simp[oP]
 |d::cs,y=>by
  simp only[oP]
  split
  ·simp only[List.mem_cons,exists_eq_or_imp,List.mem_append,List.mem_singleton,List.not_mem_nil,or_false]
   constructor
   ·rintro((h|h)|h)
    ·exact .inl (.inl h)
    ·exact .inr h
    ·exact .inl (.inr h)
   ·rintro((h|h)|h)
    ·exact .inl (.inl h)
    ·exact .inr h
    ·exact .inl (.inr h)
  ·have:=MG (lv:=lv) (x:=x) (cs:=cs) (y:=y)
   simp only[List.mem_cons,exists_eq_or_imp,this,or_assoc]
theorem MH{lv:Nat}{x:aj}{cs:List (List aj)}:(oP lv cs x).length<=cs.length+1:=by
 induction cs with
 |nil=>simp[oP]
 |cons c cs ih=>simp only[oP];split<;>simp<;>omega
end Go.Sx
namespace Go.Sx
open Go
theorem RF{lv n:Nat}{x:aj}: ∀{cs:List (List aj)},(∀c∈cs,c.length<=n)-> ∀c∈oP lv cs x,c.length<=n+1
 |[],_,c,hc=>by simp[oP]at hc;subst hc;simp
 |d::cs,h,c,hc=>by
  simp only[oP]at hc
  split at hc
  ·rcases List.mem_cons.1 hc with rfl|hc
   ·have:=h d (by simp);simp;omega
   ·have:=h c (by simp[hc]);omega
  ·rcases List.mem_cons.1 hc with rfl|hc
   ·have:=h c (by simp);omega
   ·exact RF (fun c hc=>h c (by simp[hc])) c hc
theorem rP{α:Type}[Inhabited α]{cs:List α}{k i:Nat}{y:α}(hk:k<cs.length):(cs.set k y).getD i default=if i=k then y else cs.getD i default:=by
 simp only[List.getD,List.getElem?_set]
 by_cases e:k=i
 ·subst e;simp[hk]
 ·simp[e,Ne.symm e]
theorem dR{α:Type}[Inhabited α]{cs:List α}{i:Nat}{y:α}:(cs++[y]).getD i default=if i=cs.length then y else cs.getD i default:=by
 by_cases e:i=cs.length
 ·subst e;simp[List.getD]
 ·by_cases h:i<cs.length
  ·rw[if_neg e,nJ h]
  ·rw[if_neg e,kD h]
   simp only[List.getD]
   rw[List.getElem?_eq_none (by simp;omega),List.getElem?_eq_none Om]
end Go.Sx
namespace Go.Sx
open Go
def encZ(n:Int):List D:=[.int .i64 n]
structure iY where
 left:Int
 right:Int
deriving DecidableEq
instance:Inhabited iY:=⟨⟨0,0⟩⟩
def sV(x:iY):List D:=[.int .i64 x.left,.int .i64 x.right]
structure mG where
 id:Int
 levels:List iY
deriving DecidableEq
instance:Inhabited mG:=⟨⟨0,[]⟩⟩
def zH(x:mG):List D:=[.int .i64 x.id,ay sV 2 x.levels]
def zf{α:Type}[Inhabited α](E s:Nat)(enc:α->List D)(Ls:List (List α)):Nat->Option fM:=fun k=>if k<Ls.length then some ⟨E,s,(Ls.getD k default).length,cellOf enc (Ls.getD k default)⟩else none
theorem y9{α:Type}[Inhabited α]{E s:Nat}{enc:α->List D}{Ls:List (List α)}{k:Nat}(h:k<Ls.length):zf E s enc Ls k=some ⟨E,s,(Ls.getD k default).length,cellOf enc (Ls.getD k default)⟩:=by simp only[zf,if_pos h]
theorem U7{α:Type}[Inhabited α]{E s:Nat}{enc:α->List D}:gy (fun _=>none) (zf E s enc ([]:List (List α))):=⟨fun k r h=>by simp[zf]at h⟩
theorem O5{α:Type}[Inhabited α]{E s n l:Nat}{enc:α->List D}{Ls:List (List α)}{x:List α}{g:Nat->Nat->D}(hn:n=Ls.length)(hl:l=x.length)(hg:aJ l s g (cellOf enc x)):
 gy (jc (zf E s enc Ls) n (some ⟨E,s,l,g⟩)) (zf E s enc (Ls++[x])):=by
 subst hn hl
 refine⟨fun k r' hr=> ?_⟩
 simp only[zf,jc]at hr⊢
 split at hr
 ·rename_i hk
  simp only[List.length_append,List.length_singleton]at hk
  cases hr
  by_cases e:k=Ls.length
  ·rw[if_pos e]
   simp only[dR,if_pos e]
   exact⟨_,rfl,rfl,rfl,rfl,hg⟩
  ·rw[if_neg e,if_pos Om]
   simp only[dR,if_neg e]
   exact⟨_,rfl,rfl,rfl,rfl,aJ.refl _ _ _⟩
 ·cases hr
theorem U6{α:Type}[Inhabited α]{E s a:Nat}{enc:α->List D}{Ls:List (List α)}{x:List α}{f:fM->fM}(hf: ∀r,(f r).E=r.E∧(f r).sz=r.sz∧(f r).len=r.len)(ha:a<Ls.length)(hl:x.length=(Ls.getD a default).length)
 (hg: ∀r,r=⟨E,s,(Ls.getD a default).length,cellOf enc (Ls.getD a default)⟩->aJ x.length s (f r).get (cellOf enc x)):
 gy (fun k=>if k=a then(zf E s enc Ls a).map f else zf E s enc Ls k) (zf E s enc (Ls.set a x)):=by
 refine⟨fun k r' hr=> ?_⟩
 simp only[zf,List.length_set,rP ha]at hr
 split at hr
 ·rename_i hk
  cases hr
  by_cases e:k=a
  ·subst e
   simp only[if_true,y9 ha,Option.map_some]
   obtain⟨h1,h2,h3⟩:=hf ⟨E,s,(Ls.getD k default).length,cellOf enc (Ls.getD k default)⟩
   refine⟨_,rfl,h1,h2,by rw[h3,hl],?_⟩
   rw[h2,h3]
   have:=hg _ rfl
   rw[hl]at this
   exact this
  ·simp only[if_neg e,y9 hk]
   exact⟨_,rfl,rfl,rfl,rfl,aJ.refl _ _ _⟩
 ·cases hr
def aeA(id:Nat->D)(s:Nat)(ln:Nat->Nat):Nat->Nat->FC:=fun a b=>match b with
 |0=> .d (id a)
 |_=> .fs a s (ln a)
def h_(nodes:List aj)(lv:Nat):List (List Int):=(fQ lv (aH nodes)).map fun c=>c.map (·.id)
def ZE(c:List Int):List D:=[ay encZ 1 c]
def pU(s:List aj)(q:List Int):Nat:=(s.takeWhile fun x=> !([x.id]==q)).length
end Go.Sx
namespace Go.Sx
open Go
def H8(Ls:List (List iY))(r lv:Nat)(v:Int):List (List iY):=Ls.set r ((Ls.getD r default).set lv ⟨v,((Ls.getD r default).getD lv default).right⟩)
def YN(Ls:List (List iY))(r lv:Nat)(v:Int):List (List iY):=Ls.set r ((Ls.getD r default).set lv ⟨((Ls.getD r default).getD lv default).left,v⟩)
def KQ(s:List aj)(lv:Nat)(c:List Int)(Ls:List (List iY))(i:Nat):List (List iY):=
 YN (H8 Ls (pU s [c.getD i default]) lv (c.getD (i-1) default)) (pU s [c.getD (i-1) default]) lv (c.getD i default)
def AA(s:List aj)(lv:Nat)(Ls:List (List iY))(c:List Int):List (List iY):=(List.range' 1 (c.length-1)).foldl (KQ s lv c) Ls
def xM(s:List aj)(Ls:List (List iY))(lv:Nat):List (List iY):=(h_ s lv).foldl (AA s lv) Ls
def wQ(n h:Nat):List (List iY):=List.replicate n (List.replicate (h+1) ⟨0,0⟩)
def nU(s:List aj)(h:Nat):List (List iY):=(List.range' 0 (h+1)).foldl (xM s) (wQ s.length h)
def CB(n h:Nat)(Ls:List (List iY)):Prop:=Ls.length=n∧∀r,r<n->(Ls.getD r default).length=h+1
theorem CB.set{n h r:Nat}{Ls:List (List iY)}{x:List iY}(hs:CB n h Ls)(hr:r<n)(hx:x.length=h+1):CB n h (Ls.set r x):=by
 refine⟨by rw[List.length_set];exact hs.1,fun q hq=> ?_⟩
 rw[rP (by rw[hs.1];exact hr)]
 split
 ·exact hx
 ·exact hs.2 q hq
theorem CB.H8{n h r lv:Nat}{v:Int}{Ls:List (List iY)}(hs:CB n h Ls)(hr:r<n):CB n h (H8 Ls r lv v):=hs.set hr (by rw[List.length_set];exact hs.2 r hr)
theorem CB.YN{n h r lv:Nat}{v:Int}{Ls:List (List iY)}(hs:CB n h Ls)(hr:r<n):CB n h (YN Ls r lv v):=hs.set hr (by rw[List.length_set];exact hs.2 r hr)
theorem shp0{n h:Nat}:CB n h (wQ n h):=⟨by simp[wQ],fun r hr=>by simp[wQ,List.getD,hr]⟩
theorem agq{s:List aj}{x:aj}(h:x∈s):pU s [x.id]<s.length:=by
 unfold pU
 induction s with
 |nil=>cases h
 |cons y s ih=>
  simp only[List.takeWhile_cons]
  split
  ·rename_i hy
   have hne:y≠x:=by rintro rfl;simp at hy
   have:=ih (by
    rcases List.mem_cons.1 h with rfl|h
    ·exact absurd rfl hne
    ·exact h)
   simp only[List.length_cons];omega
  ·simp
theorem eF{α:Type}[Inhabited α]{xs:List α}{i:Nat}(h:i<xs.length):xs.getD i default∈xs:=by
 simp only[List.getD,List.getElem?_eq_getElem h,Option.getD_some]
 exact List.getElem_mem h
theorem YW{s:List aj}(hn:(s.map (·.id)).Nodup){i:Nat}(h:i<s.length):pU s [(s.getD i default).id]=i:=by
 unfold pU
 induction s generalizing i with
 |nil=>simp at h
 |cons y s ih=>
  simp only[List.map_cons,List.nodup_cons]at hn
  cases i with
  |zero=>simp[List.getD]
  |succ i=>
   have hi:i<s.length:=by simpa using h
   have e:(y::s).getD (i+1) default=s.getD i default:=rfl
   rw[e,List.takeWhile_cons]
   have hne:y.id≠(s.getD i default).id:=fun h'=>hn.1 (h'▸List.mem_map.2 ⟨_,eF hi,rfl⟩)
   have hb:(!([y.id]==[(s.getD i default).id]))=true:=by simpa[-List.getD_eq_getElem?_getD]using hne
   rw[if_pos hb,List.length_cons,ih hn.2 hi]
end Go.Sx
namespace Go.Sx
open Go
theorem ahn{lv:Nat}{l:List aj}{y:aj}:(∃c∈fQ lv l,y∈c)↔y∈l:=by
 have key: ∀(m:List aj)(cs:List (List aj)),(∃c∈m.foldl (oP lv) cs,y∈c)↔(∃c∈cs,y∈c)∨y∈m:=by
  intro m
  induction m with
  |nil=>intro cs;simp
  |cons x m ih=>
   intro cs
   rw[List.foldl_cons,ih,MG,List.mem_cons,or_assoc]
 have:=key l []
 simpa[fQ]using this
theorem abl{lv:Nat}{l:List aj}{c:List Int}(hc:c∈h_ l lv){i:Int}(hi:i∈c): ∃x∈aH l,x.id=i:=by
 simp only[h_,List.mem_map]at hc
 obtain⟨d,hd,rfl⟩:=hc
 obtain⟨x,hx,rfl⟩:=List.mem_map.1 hi
 exact⟨x,ahn.1 ⟨d,hd,hx⟩,rfl⟩
end Go.Sx
namespace Go.Sx
open Go
theorem aF.trans{x y z:D}(h:aF x y)(k:aF y z):aF x z:=⟨fun I w v hv=>k.le I w v (h.le I w v hv)⟩
theorem aJ.trans{len sz:Nat}{f g h:Nat->Nat->D}(a:aJ len sz f g)(b:aJ len sz g h):aJ len sz f h:=⟨fun i j hi hj=>(a.le i j hi hj).trans (b.le i j hi hj)⟩
theorem gy.trans{r s t:Nat->Option fM}(h:gy r s)(k:gy s t):gy r t:=⟨fun i x hx=>by
 obtain⟨y,hy,a1,a2,a3,a4⟩:=k.le i x hx
 obtain⟨z,hz,b1,b2,b3,b4⟩:=h.le i y hy
 exact⟨z,hz,b1.trans a1,b2.trans a2,b3.trans a3,b4.trans (by rw[b2,b3];exact a4)⟩⟩
theorem gy.mod{rows rows':Nat->Option fM}{b:Nat}{g:fM->fM}(h:gy rows rows')(hg: ∀r,(g r).E=r.E∧(g r).sz=r.sz∧(g r).len=r.len)(hm: ∀r r',aJ r.len r.sz r.get r'.get->aJ r.len r.sz (g r).get (g r').get):
 gy (fun k=>if k=b then(rows b).map g else rows k) (fun k=>if k=b then(rows' b).map g else rows' k):=⟨fun k x hx=>by
 by_cases e:k=b
 ·rw[if_pos e]at hx⊢
  obtain⟨y,hy,rfl⟩:=Option.map_eq_some_iff.1 hx
  obtain⟨z,hz,b1,b2,b3,b4⟩:=h.le b y hy
  refine⟨g z,by rw[hz];rfl,?_,?_,?_,?_⟩
  ·rw[(hg z).1,(hg y).1,b1]
  ·rw[(hg z).2.1,(hg y).2.1,b2]
  ·rw[(hg z).2.2,(hg y).2.2,b3]
  ·rw[(hg z).2.1,(hg z).2.2];exact hm z y b4
 ·rw[if_neg e]at hx⊢
  exact h.le k x hx⟩
theorem ajG{L:List iY}{lv:Nat}{v:Int}(h:lv<L.length):aJ (L.set lv ⟨v,(L.getD lv default).right⟩).length 2
 (fun i' j'=>if i'=lv then(if j'<0 then cellOf sV L i' j' else if j'<[D.int .i64 v].length then [D.int .i64 v].getD (j'-0) default else cellOf sV L i' j')else cellOf sV L i' j') (cellOf sV (L.set lv ⟨v,(L.getD lv default).right⟩)):=by
 refine .of_eq fun i j hi hj=> ?_
 simp only[cellOf,rP h]
 by_cases e:i=lv
 ·subst e
  simp only[if_true]
  match j,hj with
  |0,_=>rfl
  |1,_=>rfl
 ·simp only[if_neg e]
theorem ajF{L:List iY}{lv:Nat}{v:Int}(h:lv<L.length):aJ (L.set lv ⟨(L.getD lv default).left,v⟩).length 2
 (fun i' j'=>if i'=lv then(if j'<1 then cellOf sV L i' j' else if j'<1+[D.int .i64 v].length then [D.int .i64 v].getD (j'-1) default else cellOf sV L i' j')else cellOf sV L i' j') (cellOf sV (L.set lv ⟨(L.getD lv default).left,v⟩)):=by
 refine .of_eq fun i j hi hj=> ?_
 simp only[cellOf,rP h]
 by_cases e:i=lv
 ·subst e
  simp only[if_true]
  match j,hj with
  |0,_=>rfl
  |1,_=>rfl
 ·simp only[if_neg e]
theorem acz{n s lv a b:Nat}{ds:List D}{g g':Nat->Nat->D}(h:aJ n s g g'):aJ n s (fun i' j'=>if i'=lv then(if j'<a then g i' j' else if j'<b then ds.getD (j'-a) default else g i' j')else g i' j')
 (fun i' j'=>if i'=lv then(if j'<a then g' i' j' else if j'<b then ds.getD (j'-a) default else g' i' j')else g' i' j'):=⟨fun i j hi hj=>by
 show aF (if _ then _ else _) (if _ then _ else _)
 split
 ·split
  ·exact h.le i j hi hj
  ·split
   ·exact aF.refl _
   ·exact h.le i j hi hj
 ·exact h.le i j hi hj⟩
end Go.Sx
namespace Go.Sx
open Go
theorem U8{α:Type}[Inhabited α][DecidableEq α]{a b:List α}{i:Nat}(ha:i<a.length)(hb:i<b.length):decide (a.drop i=b.drop i)=(decide (a.getD i default=b.getD i default)&&decide (a.drop (i+1)=b.drop (i+1))):=by
 rw[List.drop_eq_getElem_cons ha,List.drop_eq_getElem_cons hb]
 have e1:a.getD i default=a[i]:=by simp[List.getD,ha]
 have e2:b.getD i default=b[i]:=by simp[List.getD,hb]
 rw[e1,e2]
 simp only[List.cons.injEq]
 exact Bool.decide_and _ _
theorem ZC{α:Type}[DecidableEq α]{a b:List α}{i:Nat}(ha:a.length<=i)(hb:b.length<=i):decide (a.drop i=b.drop i)=true:=by
 rw[List.drop_eq_nil_of_le ha,List.drop_eq_nil_of_le hb];simp
theorem agV{x y:iY}:decide (x=y)=(x.left==y.left&&x.right==y.right):=by
 obtain⟨a,b⟩:=x
 obtain⟨c,d⟩:=y
 refine Bool.eq_iff_iff.2 ?_
 simp
theorem aiM{x y:mG}:decide (x=y)=(x.id==y.id&&decide (x.levels=y.levels)):=by
 obtain⟨a,b⟩:=x
 obtain⟨c,d⟩:=y
 refine Bool.eq_iff_iff.2 ?_
 simp
end Go.Sx
namespace Go.Sx
open Go
structure kH where
 l0:Int
 l1:Int
 r0:Int
 r1:Int
deriving DecidableEq
instance:Inhabited kH:=⟨⟨0,0,0,0⟩⟩
def encR(x:kH):List D:=[.int .i64 x.l0,.int .i64 x.l1,.int .i64 x.r0,.int .i64 x.r1]
structure aO where
 id:Int
 known:List Int
 left:Int
 right:Int
 near:List kH
deriving DecidableEq
instance:Inhabited aO:=⟨⟨0,[],0,0,[]⟩⟩
def lI(p:aO):List D:=[.int .i64 p.id,ay encZ 1 p.known,.int .i64 p.left,.int .i64 p.right,ay encR 4 p.near]
abbrev sF(p:aO):SV:= .agg [.d (.int .i64 p.id),.d (ay encZ 1 p.known),.d (.int .i64 p.left),.d (.int .i64 p.right),.d (ay encR 4 p.near)]
abbrev adP(x:kH):SV:= .agg [.d (.int .i64 x.l0),.d (.int .i64 x.l1),.d (.int .i64 x.r0),.d (.int .i64 x.r1)]
def C9(id:Int)(x:kH):Bool:=(x.l0==id)||((x.l1==id)||((x.r0==id)||(x.r1==id)))
def KG(p:aO)(id:Int):Bool:=(p.left==id)||((p.right==id)||(p.known.any (fun y=>id==y)||p.near.any (C9 id)))
def EG(p:aO)(x:aj):Bool:=(x.id !=p.id)&&KG p x.id
def iG(nodes:List aj)(p:aO):List Int:=((aH nodes).filter (EG p)).map (·.id)
def gtK(x y:aj):Bool:= !(Op.bytesLess x.key y.key||x.key==y.key)
def OQ(nodes:List aj)(own:aj)(id:Int):Bool:=gtK ((o9 nodes id).getD default) own
def jD(nodes:List aj)(p:aO):List Int:=((aH nodes).filter fun x=>x.id==p.id||KG p x.id).map (·.id)
structure RH (p:aO):Prop where
 known:p.known.length<=1000
 near:p.near.length<=1000
structure um (ps:List aO):Prop where
 len:ps.length<=1000
 ok: ∀p∈ps,RH p
theorem um.at{ps:List aO}(h:um ps){i:Nat}(hi:i<ps.length):RH (ps.getD i default):=h.ok _ (eF hi)
theorem aeH{l:List aj}{id:Int}{x:aj}(h:o9 l id=some x):x∈l∧x.id=id:=by
 unfold o9 at h
 exact⟨List.mem_of_find?_eq_some h,by simpa using List.find?_some h⟩
theorem BQ{l:List aj}(hn:(l.map (·.id)).Nodup){x:aj}(h:x∈l):o9 l x.id=some x:=by
 unfold o9
 induction l with
 |nil=>cases h
 |cons y l ih=>
  simp only[List.map_cons,List.nodup_cons]at hn
  rw[List.find?_cons]
  rcases List.mem_cons.1 h with rfl|h
  ·simp
  ·have hne:y.id≠x.id:=fun e=>hn.1 (e▸List.mem_map.2 ⟨x,h,rfl⟩)
   have:(y.id==x.id)=false:=by simpa using hne
   rw[this]
   exact ih hn.2 h
theorem Zv{x y:aj}:gtK x y=true↔VX y x:=by
 unfold gtK VX
 constructor
 ·intro h
  simp only[Bool.not_eq_true',Bool.or_eq_false_iff,beq_eq_false_iff_ne]at h
  exact Hq h.1 h.2
 ·intro h
  have h1:Op.bytesLess x.key y.key=false:=by
   cases e:Op.bytesLess x.key y.key with
   |false=>rfl
   |true=>have:=jy h e;rw[jX]at this;cases this
  have h2:x.key≠y.key:=by intro e;rw[e,jX]at h;cases h
  simp[h1,h2]
theorem aiv{nodes:List aj}(hr:vK nodes){p:aO}{x:aj}(hx:x∈nodes)(hid:x.id=p.id){k:Nat}
 (h1: ∀j,j<k->OQ nodes x ((iG nodes p).getD j default)=false) (h2:k<=(iG nodes p).length) (h3:k<(iG nodes p).length->OQ nodes x ((iG nodes p).getD k default)=true):
 (iG nodes p).take k++p.id::(iG nodes p).drop k=jD nodes p:=by
 have hxs:x∈aH nodes:=kN.2 hx
 obtain⟨A,B,hAB⟩:=List.append_of_mem hxs
 have hasc:=hr.asc
 have aev:=hr.sort.ids
 rw[hAB]at hasc aev
 have hA: ∀y∈A,VX y x:=fun y hy=>(List.pairwise_append.1 hasc).2.2 y hy x (by simp)
 have hB: ∀y∈B,VX x y:=fun y hy=>(List.pairwise_cons.1 (List.pairwise_append.1 hasc).2.1).1 y hy
 have hidA: ∀y∈A,y.id≠p.id:=by
  intro y hy e
  rw[List.map_append,List.nodup_append]at aev
  exact aev.2.2 y.id (List.mem_map.2 ⟨y,hy,rfl⟩) x.id (by simp) (by rw[e,hid])
 have hidB: ∀y∈B,y.id≠p.id:=by
  intro y hy e
  rw[List.map_append,List.nodup_append]at aev
  have:=aev.2.1
  simp only[List.map_cons,List.nodup_cons]at this
  exact this.1 (by rw[hid,<-e];exact List.mem_map.2 ⟨y,hy,rfl⟩)
 have hrefs:iG nodes p=(A.filter (EG p)).map (·.id)++(B.filter (EG p)).map (·.id):=by
  unfold iG
  rw[hAB,List.filter_append,List.filter_cons,if_neg (by simp[EG,hid]),List.map_append]
 have hrow:jD nodes p=(A.filter (EG p)).map (·.id)++p.id::(B.filter (EG p)).map (·.id):=by
  unfold jD
  have e1: ∀(L:List aj),(∀y∈L,y.id≠p.id)->(L.filter fun z=>z.id==p.id||KG p z.id)=L.filter (EG p):=by
   intro L hL
   refine List.filter_congr fun y hy=> ?_
   have hb:(y.id==p.id)=false:=by simpa using hL y hy
   simp only[EG,bne,hb,Bool.false_or,Bool.not_false,Bool.true_and]
  rw[hAB,List.filter_append,List.filter_cons,if_pos (by simp[hid]),e1 A hidA,e1 B hidB,List.map_append,List.map_cons,hid]
 have hgA: ∀y∈A,OQ nodes x y.id=false:=by
  intro y hy
  have hm:y∈nodes:=kN.1 (by rw[hAB];simp[hy])
  unfold OQ
  rw[BQ hr.ids hm]
  cases hg:gtK y x with
  |false=>simp[hg]
  |true=>
   have:=jy (hA y hy) (Zv.1 hg)
   rw[jX]at this;cases this
 have hgB: ∀y∈B,OQ nodes x y.id=true:=by
  intro y hy
  have hm:y∈nodes:=kN.1 (by rw[hAB];simp[hy])
  unfold OQ
  rw[BQ hr.ids hm]
  exact Zv.2 (hB y hy)
 generalize hAf:(A.filter (EG p)).map (·.id)=A' at hrefs hrow
 generalize hBf:(B.filter (EG p)).map (·.id)=B' at hrefs hrow
 have hA': ∀z∈A',OQ nodes x z=false:=by
  intro z hz
  rw[<-hAf]at hz
  obtain⟨y,hy,rfl⟩:=List.mem_map.1 hz
  exact hgA y (List.mem_filter.1 hy).1
 have hB': ∀z∈B',OQ nodes x z=true:=by
  intro z hz
  rw[<-hBf]at hz
  obtain⟨y,hy,rfl⟩:=List.mem_map.1 hz
  exact hgB y (List.mem_filter.1 hy).1
 rw[hrefs]at h1 h2 h3⊢
 have hk:k=A'.length:=by
  rcases Nat.lt_trichotomy k A'.length with h|h|h
  ·have:=h3 (by rw[List.length_append];omega)
   rw[nJ h,hA' _ (eF h)]at this;cases this
  ·exact h
  ·have:=h1 A'.length h
   rw[List.length_append]at h2
   have hb:0<B'.length:=Om
   rw[kD Om,Nat.sub_self,hB' _ (eF hb)]at this;cases this
 subst hk
 rw[List.take_left,List.drop_left,hrow]
def qh(l:List Int)(i:Nat):List (Int×Int):=[(l.getD (i-1) default,l.getD i default),(l.getD i default,l.getD (i-1) default)]
def ag0(own:Int)(l:List Int):List (Int×Int):=(List.range' 1 (l.length-1)).flatMap fun i=>(qh l i).filter fun x=>x.1 !=own
def rV(nodes:List aj)(p:aO):List (Int×Int):=ag0 p.id (jD nodes p)
theorem Zp{xs:List Int}{k n:Nat}{v:Int}(h:k<=xs.length)(hn:n=xs.length+1):aJ n 1 (wS (cellOf encZ xs) k (.int .i64 v)) (cellOf encZ (xs.take k++v::xs.drop k)):=by
 subst hn
 refine .of_eq fun i j hi hj=> ?_
 have hj:j=0:=Om
 subst hj
 have ht:(xs.take k).length=k:=by rw[List.length_take];omega
 unfold wS
 by_cases h1:i<k
 ·rw[if_pos h1]
  have e:(xs.take k++v::xs.drop k).getD i default=xs.getD i default:=by
   simp only[List.getD];rw[List.getElem?_append_left Om,List.getElem?_take,if_pos h1]
  simp only[cellOf,e]
 ·by_cases h2:i=k
  ·subst h2
   rw[if_neg h1,if_pos rfl]
   simp only[cellOf,kD (show¬i<(xs.take i).length by omega),ht,Nat.sub_self]
   rfl
  ·rw[if_neg h1,if_neg h2]
   have e:i-k=(i-1-k)+1:=Om
   simp only[cellOf,kD (show¬i<(xs.take k).length by omega),ht]
   rw[e]
   show(encZ (xs.getD (i-1) default)).getD 0 default=(encZ ((xs.drop k).getD (i-1-k) default)).getD 0 default
   congr 2
   simp only[List.getD,List.getElem?_drop]
   congr 2;omega
theorem Qc{nodes:List aj}{p:aO}:(jD nodes p).length<=nodes.length:=by
 rw[jD,List.length_map,<-eY nodes];exact List.length_filter_le _ _
def aeM(x:Int×Int):List D:=[.int .i64 x.1,.int .i64 x.2]
def Io(nodes:List aj)(p:aO):iY:=
 let l:=jD nodes p
 let at_:=iP (fun y=>p.id==y) l 0
 ⟨if at_>0 then l.getD (at_-1).toNat default else 0,if at_>=0∧at_+1<l.length then l.getD (at_+1).toNat default else 0⟩
def jr(ps:List aO)(x:aj):aO:=(ps.find? fun p=>p.id==x.id).getD ⟨x.id,[],0,0,[]⟩
def dB(nodes:List aj)(ps:List aO):List aO:=(aH nodes).map (jr ps)
def ajI(nodes:List aj)(ps:List aO)(id:Int):List Int:=((ps.flatMap (rV nodes)).filter fun x=>x.1==id).map (·.2)
def oq(nodes:List aj)(old:List aO)(p:aO):aO:=
 ⟨p.id,iG nodes ⟨p.id,ajI nodes old p.id,(Io nodes p).left,(Io nodes p).right,[]⟩,(Io nodes p).left,(Io nodes p).right,p.near⟩
def jV(nodes:List aj)(ps:List aO):List aO:=(dB nodes ps).map (oq nodes (dB nodes ps))
end Go.Sx
namespace Go.Sx
open Go
theorem agv{nodes:List aj}{p:aO}(h: ∃x∈nodes,x.id=p.id):p.id∈jD nodes p:=by
 obtain⟨x,hx,e⟩:=h
 rw[jD,List.mem_map]
 exact⟨x,List.mem_filter.2 ⟨kN.2 hx,by simp[e]⟩,e⟩
theorem agX{nodes:List aj}{p:aO}{q:Nat}(h:iP (fun y=>p.id==y) (jD nodes p) 0=(q:Int)):
 Io nodes p=⟨if 0<q then(jD nodes p).getD (q-1) default else 0,if q+1<(jD nodes p).length then(jD nodes p).getD (q+1) default else 0⟩:=by
 unfold Io
 simp only[h]
 have e1:((q:Int)-1).toNat=q-1:=Om
 have e2:((q:Int)+1).toNat=q+1:=Om
 rw[e1,e2]
 congr 1
 ·by_cases h0:0<q
  ·rw[if_pos h0,if_pos Om]
  ·rw[if_neg h0,if_neg Om]
 ·by_cases h0:q+1<(jD nodes p).length
  ·rw[if_pos h0,if_pos Om]
  ·rw[if_neg h0,if_neg Om]
end Go.Sx
