/- Part of a symbolic executor over the model, proved sound, with plain laws: SxIns. Written for this claim. -/
import Derived.Shelf.GgSortMore.Stable
import Derived.Shelf.GgSortFunc.InsertionK
import Derived.Shelf.GgSortFunc.SmallK
import Derived.Test.YtgdgkekpfmhbbaaGreatDoorSxWlk3
import Derived.Sort.AssemblyPlain
set_option linter.unusedVariables false
set_option linter.unusedSimpArgs false
namespace Go.Proofs
open Go.Shelf Go.RowKit Go.Lib Go.Sort
variable {P:Program}{ρ:Ren}{α:Type}[Inhabited α]
def jm(P:Program)(g:Nat)(lb:Array Value)(enc:α->List Value)(k:Nat)(lt:α->α->Bool)(blk off size:Nat)(w:World):Prop:=
 ∀(m:Nat)(os:Array Obj)(dk:Array α),dk.size=size-> ∀i j:Nat,i<size->j<size->
  Calls P g (#[.int .i64 i,.int .i64 j]++lb) (putRowK enc k (Sort.ahead (Sort.grow w os) m) blk off dk) fun e w'=>e= .returned (.bool (lt dk[i]! dk[j]!))∧∃q os',w'=putRowK enc k (Sort.ahead (Sort.grow w (os++os')) (m+q)) blk off dk
theorem jm.grow{g:Nat}{lb:Array Value}{enc:α->List Value}{k:Nat}{lt:α->α->Bool}{blk off size:Nat}{w:World}(h:jm P g lb enc k lt blk off size w)(os0:Array Obj):
 jm P g lb enc k lt blk off size (Sort.grow w os0):=fun m os dk hs i j hi hj=>by
 have:=h m (os0++os) dk hs i j hi hj
 rw[grow_grow]
 refine this.mono ?_
 rintro e w' ⟨he,q,os',rfl⟩
 exact⟨he,q,os',by rw[grow_grow,Array.append_assoc]⟩
theorem abE(w:World):Sort.grow w #[]=w:=by cases w;simp[Sort.grow]
set_option maxHeartbeats 2000000 in
set_option maxRecDepth 100000 in
theorem Any.Ce(L:LaysGg.n26 P ρ)(enc:α->List Value)(k:Nat)(hk: ∀x,(enc x).length=k)(lt:α->α->Bool)(g:Nat)(lb:Array Value)(sf:Nat)(sb:Array Value)(blk off a b:Nat)(d:Array α)(w:World)
 (eg: ∀args w,(callFunc g args).run P w= .ok (.enter g args) w) (hless:jm P g lb enc k lt blk off d.size w) (hswap:SwapSwapsK P sf sb enc k blk off d.size)
 (hH:HoldsK enc k w blk off d) (hblk:blk<w.heap.size) (hab:a<=b) (hb:b<=d.size) (hsz:d.size<4611686018427387904):
 Calls P (ρ.f 26) #[.agg #[.func (.func g) #[] lb,.func (.func sf) #[] sb],.int .i64 a,.int .i64 b] w fun e w'=>
  e= .returned (.tuple #[])∧∃n os,w'=putRowK enc k (Sort.ahead (Sort.grow (w.alloc (.cells #[.func (.func g) #[] lb,.func (.func sf) #[] sb] (ρ.t 44))) os) n) blk off (Sort.insertionSort lt d a b):=by
 have mixed:=L.mixed;have t0:=L.t0;have a0:=L.a0;have z0:=L.z0;have v0:=L.v0;have t3:=L.t3;have a3:=L.a3;have z3:=L.z3;have v3:=L.v3;have t4:=L.t4;have a4:=L.a4;have z4:=L.z4;have v4:=L.v4;have t26:=L.t26;have a26:=L.a26;have z26:=L.z26;have v26:=L.v26;have t37:=L.t37;have a37:=L.a37;have z37:=L.z37;have v37:=L.v37;have t44:=L.t44;have a44:=L.a44;have z44:=L.z44;have v44:=L.v44
 have u44:=run_underlying L.t44
 have hH1:HoldsK enc k (w.alloc (.cells #[.func (.func g) #[] lb,.func (.func sf) #[] sb] (ρ.t 44))) blk off d:=by rw[alloc_eq_grow];exact holdsK_grow enc k w _ blk off d hblk hH
 have hb1:blk<(w.alloc (.cells #[.func (.func g) #[] lb,.func (.func sf) #[] sb] (ρ.t 44))).heap.size:=by simp;omega
 have hl1:jm P g lb enc k lt blk off d.size (w.alloc (.cells #[.func (.func g) #[] lb,.func (.func sf) #[] sb] (ρ.t 44))):=by rw[alloc_eq_grow];exact hless.grow _
 have hsz1:w.heap.size<(w.alloc (.cells #[.func (.func g) #[] lb,.func (.func sf) #[] sb] (ρ.t 44))).heap.size:=by simp
 go_enter L.f26,BodyGg.n26_ntmps ρ
 go_wp2
 go_loopw [6] (fun vi wr=> ∃(i n:Nat)(os:Array Obj)(dk:Array α),vi= .int .i64 i∧a<i∧i<=b+1∧dk.size=d.size∧wr=putRowK enc k (Sort.ahead (Sort.grow (w.alloc (.cells #[.func (.func g) #[] lb,.func (.func sf) #[] sb] (ρ.t 44))) os) n) blk off dk∧
  insOuter lt a b i dk=insOuter lt a b (a+1) d) (fun vi _=>b+1-(intOf vi).toNat)
 case atStart=>exact⟨a+1,0, #[],d,by go_num,by omega,by omega,rfl,(by rw[abE];exact(putRowK_self _ _ _ _ _ _ hH1).symm),rfl⟩
 case round=>
  obtain⟨i,n,os,dk,rfl,hai,hib,hsk,hwr,hO⟩:=hrel
  have HO:Hid (insOuter lt a b i dk=insOuter lt a b (a+1) d):=hO
  clear hO
  go_wp2
  ·
   go_loopw [7] (fun vj wr2=> ∃(j m:Nat)(os2:Array Obj)(dj:Array α),vj= .int .i64 j∧a<=j∧j<=i∧dj.size=d.size∧wr2=putRowK enc k (Sort.ahead (Sort.grow (w.alloc (.cells #[.func (.func g) #[] lb,.func (.func sf) #[] sb] (ρ.t 44))) os2) m) blk off dj∧
    insInner lt a j dj=insInner lt a i dk) (fun vj _=>(intOf vj).toNat)
   case atStart=>exact⟨i,n,os,dk,rfl,by omega,Nat.le_refl _,hsk,rfl,rfl⟩
   case round=>
    obtain⟨j,m,os2,dj,rfl,haj,hji,hsj,hw2,hI⟩:=hrel
    have hlt:i<b:=by assumption
    have hHw: ∀q(os3:Array Obj),HoldsK enc k (putRowK enc k (Sort.ahead (Sort.grow (w.alloc (.cells #[.func (.func g) #[] lb,.func (.func sf) #[] sb] (ρ.t 44))) os3) q) blk off dj) blk off dj:=fun q os3=>
     holdsK_putRowK enc k _ blk off d dj (holdsK_ahead _ _ _ _ _ _ _ (holdsK_grow _ _ _ _ _ _ _ hb1 hH1)) hsj
    have cc: ∀kk v,((w.alloc (.cells #[.func (.func g) #[] lb,.func (.func sf) #[] sb] (ρ.t 44)))).cell? ⟨w.heap.size,kk,none⟩=some v-> ∀q(os3:Array Obj),(putRowK enc k (Sort.ahead (Sort.grow (w.alloc (.cells #[.func (.func g) #[] lb,.func (.func sf) #[] sb] (ρ.t 44))) os3) q) blk off dj).cell? ⟨w.heap.size,kk,none⟩=some v:=fun kk v h q os3=>by
     rw[cell?_putRowK_other enc k _ blk off dj _ (by show w.heap.size≠blk;omega)]
     exact(cell?_grow _ _ _ hsz1).trans h
    have c0:=cc 0 (.func (.func g) #[] lb) (by simp)
    have c1:=cc 1 (.func (.func sf) #[] sb) (by simp)
    have c0':wr.cell? ⟨w.heap.size,0,none⟩=some (.func (.func g) #[] lb):=by rw[hw2];exact c0 m os2
    have HW:Hid (wr=putRowK enc k (Sort.ahead (Sort.grow (w.alloc (.cells #[.func (.func g) #[] lb,.func (.func sf) #[] sb] (ρ.t 44))) os2) m) blk off dj):=hw2
    have HI:Hid (insInner lt a j dj=insInner lt a i dk):=hI
    clear hw2 hI hH hH1 cc
    have out:(j<=a∨lt dj[j]! dj[j-1]! =false)-> ∀(m':Nat)(os3:Array Obj),∃i' n' os' dk',Value.int .i64 ((i:Int)+1)= .int .i64 (i':Nat)∧a<i'∧i'<=b+1∧dk'.size=d.size∧
     putRowK enc k (Sort.ahead (Sort.grow (w.alloc (.cells #[.func (.func g) #[] lb,.func (.func sf) #[] sb] (ρ.t 44))) os3) m') blk off dj=putRowK enc k (Sort.ahead (Sort.grow (w.alloc (.cells #[.func (.func g) #[] lb,.func (.func sf) #[] sb] (ρ.t 44))) os') n') blk off dk'∧insOuter lt a b i' dk'=insOuter lt a b (a+1) d:=fun hs m' os3=>
     ⟨i+1,m',os3,dj,by go_num,by omega,by omega,hsj,rfl,
       by rw[<-HO.out,insOuter_go _ _ _ _ _ hlt,<-HI.out,insInner_stop _ _ _ _ hs]⟩
    have OUT:Hid _:=out
    clear out
    by_cases hja:a<j
    ·have hl:=hl1 m os2 dj hsj j (j-1) (by omega) (by omega)
     rw[<-HW.out]at hl
     rw[show(((j-1:Nat):Int))=(j:Int)-1 by omega]at hl
     cases hlv:lt dj[j]! dj[j-1]! with
     |true=>
      rw[hlv]at hl
      go_wp2_with (go_at_fn g;refine hl.mono ?_;rintro e w' ⟨rfl,q,os4,rfl⟩)
      have hs:=hswap _ dj (hHw (m+q) (os2++os4)) hsj j (j-1) (by omega) (by omega)
      rw[show(((j-1:Nat):Int))=(j:Int)-1 by omega]at hs
      rw[hs,Oper.upon_value]
      go_wp2
      go_roundw
      case rel=>
       (repeat apply Exists.intro)
       refine⟨⟨j-1,m+q,os2++os4,swp dj j (j-1),by congr 1<;>omega,by omega,by omega,by rw[size_swp];exact hsj,?_,?_⟩,by rw[decide_eq_true hlt,show((j-1:Nat):Int)=(j:Int)-1 by omega]⟩
       ·exact swap_worldK enc k hk _ (m+q) 0 blk off dj j (j-1) (by omega) (by omega)
       ·rw[<-HI.out,insInner_go lt a j dj hja hlv]
      case measure=>simp[intOf];omega
     |false=>
      rw[hlv]at hl
      go_wp2_with (go_at_fn g;refine hl.mono ?_;rintro e w' ⟨rfl,q,os4,rfl⟩)
      go_roundw
      case rel=>exact OUT.out (Or.inr hlv) (m+q) (os2++os4)
      case measure=>simp[intOf];omega
    ·go_wp2
     go_roundw
     case rel=>rw[HW.out];exact OUT.out (Or.inl (by omega)) m os2
     case measure=>simp[intOf];omega
  ·
   have hge: ¬i<b:=by assumption
   go_end0
   exact⟨rfl,n,os,by unfold Sort.insertionSort;rw[<-HO.out,insOuter_stop _ _ _ _ _ hge]⟩
end Go.Proofs
namespace Go.Sx
open Go Go.Shelf Go.RowKit Go.Lib Go.Sort Go.Proofs
theorem mZ{α:Type}[Inhabited α](l:List α)(i:Nat):(l.toArray)[i]! =l.getD i default:=by
 simp[List.getD,getElem!_def]
 cases l[i]? <;>rfl
theorem AY{α:Type}[Inhabited α](d:Array α)(i:Nat):d[i]! =d.toList.getD i default:=by
 have:=mZ d.toList i
 simpa using this
theorem aeN(r:aj): ∀j,j<3-> ∀I w,bM I w ((aZ r).getD j default) ((enc3 r)[j]!)
 |0,_,_,_=>rfl
 |1,_,_,_=>rfl
 |2,_,_,_=>rfl
variable {P:Program}{G:Nat->Option (Nat×(Nat->D))}
theorem Le(rows:List aj){i j:Nat}(hi:i<rows.length)(hj:j<3):(flatK enc3 3 rows.toArray)[i*3+j]! =(enc3 (rows.getD i default))[j]! :=by
 rw[get_flatK enc3 3 _ _ (by simp only[List.size_toArray];omega),show(i*3+j)/3=i by omega,show(i*3+j) % 3=j by omega,mZ]
def ML(P:Program)(G:Nat->Option (Nat×(Nat->D)))(g:Nat):Prop:= ∀(xs:List aj)(i j:Nat),i<xs.length->j<xs.length->xs.length<=1000->
 Sx.Spec P G g [.d (.int .i64 i),.d (.int .i64 j),.qN 1 fun _=> .list xs.length 3 (cellOf aZ xs)] [] (.d (.bool (Nz (xs.getD i default) (xs.getD j default)))) []
set_option maxHeartbeats 1000000 in
theorem Xm{g:Nat}(hL:ML P G g){I:Nat->Prop}{w:World}{B blk off n c:Nat}{l:List aj}(hG:GOk G I w)(hI: ∀b,I b->b<w.heap.size∧b≠blk)(hB:w.cell? ⟨B,0,none⟩=some (.slice (some ⟨blk,off,none⟩) n c))(hBb:B≠blk)
 (hBlt:B<w.heap.size) (hnc:n<=c) (hH:HoldsK enc3 3 w blk off l.toArray) (hl:l.length=n) (hblt:blk<w.heap.size) (hn:n<=1000):jm P g #[.pointer (some ⟨B,0,none⟩)] enc3 3 Nz blk off n w:=by
 intro m os dk hs i j hi hj
 have hHg:HoldsK enc3 3 (Sort.ahead (grow w os) m) blk off l.toArray:=holdsK_ahead _ _ _ _ _ _ _ (holdsK_grow _ _ _ _ blk off _ hblt hH)
 have hHW:=holdsK_putRowK enc3 3 _ blk off l.toArray dk hHg (by rw[hs];simp[hl])
 have hsz:(putRowK enc3 3 (Sort.ahead (grow w os) m) blk off dk).heap.size=w.heap.size+os.size:=by
  show((grow w os).heap.modify _ _).size=_
  simp[grow]
 have hother: ∀(b o:Nat),b≠blk->b<w.heap.size->(putRowK enc3 3 (Sort.ahead (grow w os) m) blk off dk).cell? ⟨b,o,none⟩=w.cell? ⟨b,o,none⟩:=by
  intro b o hb hlt
  rw[cell?_putRowK_other _ _ _ blk off dk _ hb]
  exact cell?_grow _ _ _ hlt
 have hxl:dk.toList.length=n:=by simpa using hs
 have hsp:=hL dk.toList i j Om Om Om
 rw[<-AY,<-AY]at hsp
 generalize hW:putRowK enc3 3 (Sort.ahead (grow w os) m) blk off dk=W at*
 refine(hsp.calls W (fun b=>I b∨b=B∨b=blk) (fun _=>Oz 0 0 0 0 0) [.int .i64 i,.int .i64 j,.pointer (some ⟨B,0,none⟩)] ?_ (fun n b h=>by simp at h) (fun n b m c h=>by simp at h) ?_ ?_).mono ?_
 ·simp only[aT,aC]
  refine⟨_,_,rfl,rfl,_,_,rfl,rfl,_,_,rfl,⟨B,0,rfl,.inr (.inl rfl),?_⟩,rfl⟩
  intro q hq
  have:q=0:=Om
  subst this
  refine⟨_,(hother B 0 hBb hBlt).trans hB,?_⟩
  simp only[bM]
  refine⟨_,c,by rw[hxl],Om,fun _=>⟨blk,off,rfl,.inr (.inr rfl),fun a b ha hb=> ?_⟩⟩
  have h1:=(hHW.cell (i:=a) (c:=b) (by simpa using ha) hb).1
  refine⟨_,h1,?_⟩
  rw[AY]
  exact aeN _ b hb _ _
 ·rintro b (hb|rfl|rfl)
  ·have:=(hI b hb).1;omega
  ·omega
  ·omega
 ·refine hG.mono (fun b hb=> .inl hb) ?_
  intro b o hb
  exact hother b o (hI b hb).2 (hI b hb).1
 ·rintro e w' ⟨v,I',ρ',rfl,ha⟩
  have hv:=ha.res
  simp only[aC,bM]at hv
  subst hv
  refine⟨rfl,w'.drawn-W.drawn,w'.heap.extract W.heap.size w'.heap.size,?_⟩
  have hk:=ha.keep
  have e1:w'=grow (W.drewN (w'.drawn-W.drawn)) (w'.heap.extract W.heap.size w'.heap.size):=by
   obtain⟨h',t',d',o',p'⟩:=w'
   obtain⟨k1,k2,k3,k4,k5,k6⟩:=hk
   simp only at k1 k2 k3 k4 k6
   simp only[grow,World.drewN]
   congr 1
   ·apply Array.ext'
    apply List.ext_getElem?
    intro q
    by_cases hq:q<W.heap.size
    ·have:=k5 q hq (by rintro⟨n,b,hn,_⟩;simp at hn)
     simp only at this
     simp only[Array.getElem?_toList,Array.getElem?_append_left hq]
     exact this
    ·simp only[Array.getElem?_toList]
     rw[Array.getElem?_append_right Om,Array.getElem?_extract]
     by_cases hq2:q<h'.size
     ·rw[if_pos Om];congr 1;omega
     ·rw[if_neg Om,Array.getElem?_eq_none Om]
   ·omega
  refine e1.trans ?_
  generalize w'.drawn-W.drawn=a1
  generalize w'.heap.extract W.heap.size w'.heap.size=a2
  rw[<-hW,putRowK_drewN,<-putRowK_grow _ _ _ _ _ _ _ (by show blk<(grow w os).heap.size;simp[grow];omega)]
  show _=putRowK enc3 3 (Sort.ahead (grow w (os++a2)) (m+a1)) blk off dk
  congr 1
  rw[<-grow_grow]
  rfl
end Go.Sx
namespace Go.Sx
open Go Go.Shelf Go.RowKit Go.Lib Go.Sort Go.Proofs
variable {P:Program}{G:Nat->Option (Nat×(Nat->D))}
structure FY (P:Program) (G:Nat->Option (Nat×(Nat->D))) (f t g:Nat) (R:List aj->SV) (V:List aj->Value) (zN:List aj->List aj):Prop where
 enter: ∀(vs:Array Value)(w:World),(callFunc f vs).run P w= .ok (.enter f vs) w
 rep: ∀l I ρ w,aC I ρ w (R l) (V l)
 names: ∀l n,¬dO n (R l)
 Qm: ∀l,l.length<=1->zN l=l
 WV: ∀l,(zN l).length=l.length
 tiny: ∀(l:List aj),l.length<=1-> ∀(p:Option Addr)(c:Nat)(la lb:Array Value)(w:World),Calls P f #[.iface t (.slice p l.length c),.func (.func g) la lb] w fun e w'=>e= .returned (V l)∧∃os,w'=grow w os
 whole: ∀(lb:Array Value)(blk off c:Nat)(l:List aj),2<=l.length->l.length<20-> ∀w:World,jm P g lb enc3 3 Nz blk off l.length w->HoldsK enc3 3 w blk off l.toArray->blk<w.heap.size->
  Calls P f #[.iface t (.slice (some ⟨blk,off,none⟩) l.length c),.func (.func g) #[] lb] w fun e w'=>
   e= .returned (V l)∧∃n os,w'=putRowK enc3 3 (Sort.ahead (Sort.grow w os) n) blk off (zN l).toArray
 less:ML P G g
theorem SG{f t g:Nat}{R:List aj->SV}{V:List aj->Value}{zN:List aj->List aj}(hS:FY P G f t g R V zN)(rows:List aj)(m b E:Nat)(hmb:m≠b){gg:Nat->Nat->D}(hgg:aJ rows.length 3 gg (cellOf aZ rows))(hsz:rows.length<20):
 Sx.Spec P G f [.VY t [.bW m 3 0 rows.length],.clo g [.ptr b 0]] [(b,.box [.bW m 3 0 rows.length]),(m,.row E 3 rows.length gg)] (R rows)
   [(b,.box [.bW m 3 0 rows.length]),(m,.row E 3 rows.length (cellOf aZ (zN rows)))]:=by
 have hnew:newP [(b,bG.box [.bW m 3 0 rows.length]),(m,.row E 3 rows.length gg)] [(b,bG.box [.bW m 3 0 rows.length]),(m,.row E 3 rows.length (cellOf aZ (zN rows)))]=[]:=rfl
 refine {keys:=rfl,apart:= ?_,lu:= ?_,jI:= ?_,kind:= ?_,enter:=hS.enter,calls:= ?_}
 ·intro n hn;rw[hnew]at hn;cases hn
 ·intro n hn;exact(hS.names _ _ hn).elim
 ·intro n c k hn hk
  simp only[List.mem_cons,Prod.mk.injEq,List.not_mem_nil,or_false]at hn
  rcases hn with⟨rfl,rfl⟩|⟨rfl,rfl⟩
  ·simp only[inB,jW,dO,or_false]at hk
   subst hk
   simp[aQ]
  ·simp[inB]at hk
 ·intro n c d hn hd
  simp only[List.mem_cons,Prod.mk.injEq,List.not_mem_nil,or_false]at hn hd
  rcases hn with⟨rfl,rfl⟩|⟨rfl,rfl⟩<;>rcases hd with⟨h,rfl⟩|⟨h,rfl⟩<;>first|trivial|exact absurd h hmb|exact absurd h.symm hmb
 ·intro w I ρ vs hargs hpre hinj hlt hg
  simp only[aT,aC]at hargs
  obtain⟨_,_,rfl,⟨v1,rfl,_,_,hv1,⟨hs2,hle,hcl,a,ha,hao⟩,hnil⟩,_,_,rfl,⟨us,rfl,_,_,hus,rfl,hnil2⟩,rfl⟩:=hargs
  simp only[List.cons.injEq]at hv1
  obtain⟨rfl,rfl⟩:=hv1
  subst ha hnil2 hus
  clear hnil
  obtain⟨hbx,hbI⟩:=hpre b (.box [.bW m 3 0 rows.length]) (by simp)
  obtain⟨hrw,hrI⟩:=hpre m (.row E 3 rows.length gg) (by simp)
  have hbI:=hbI trivial
  obtain⟨bus,Eb,hb1,hb2,hb3⟩:=hbx
  obtain⟨hrl,hrs,hrc,hra⟩:=hrw
  simp only[aT,aC]at hb2
  obtain⟨bv,_,rfl,⟨_,_,_,ba,rfl,ai6⟩,rfl⟩:=hb2
  have hblt:(ρ b).b<w.heap.size:=(Array.getElem?_eq_some_iff.1 hb1).1
  have done: ∀w',w'.os=w.os->w'.tape=w.tape->w'.output=w.output->w.drawn<=w'.drawn->w.heap.size<=w'.heap.size->(∀k,k<w.heap.size-> ¬(0<(ρ m).cap∧k=(ρ m).b)->w'.heap[k]? =w.heap[k]?)->
   (0<(ρ m).cap-> ∃arr,kY w' (ρ m).b arr E∧arr.size=(ρ m).o+(ρ m).cap*3∧∀i j,i<rows.length->j<3-> ∃u,arr[(ρ m).o+(i*3+j)]? =some u∧∀I w,bM I w (cellOf aZ (zN rows) i j) u)->
   ∃v I' ρ',Ending.returned (V rows)= .returned v∧After I ρ w [(b,.box [.bW m 3 0 rows.length]),(m,.row E 3 rows.length gg)] (R rows) [(b,.box [.bW m 3 0 rows.length]),(m,.row E 3 rows.length (cellOf aZ (zN rows)))] I' ρ' w' v:=by
   intro w' e1 e2 e3 e4 hsz hblk hrow
   have hbb:w'.heap[(ρ b).b]? =w.heap[(ρ b).b]? :=by
    refine hblk _ hblt ?_
    rintro⟨hc,e⟩
    exact hmb.symm (hinj b (.box [.bW m 3 0 rows.length]) m (.row E 3 rows.length gg) (by simp) (by simp) trivial hc e)
   refine⟨V rows,I,ρ,rfl,?_⟩
   exact {
    old:=fun _ _=>rfl
    res:=hS.rep _ _ _ _
    own:=by
     intro n c hn
     simp only[List.mem_cons,Prod.mk.injEq,List.not_mem_nil,or_false]at hn
     rcases hn with⟨rfl,rfl⟩|⟨rfl,rfl⟩
     ·refine⟨_,Eb,by rw[hbb];exact hb1,?_,hb3⟩
      simp only[aT,aC]
      exact⟨_,_,rfl,⟨hs2,hle,hcl,ba,rfl,ai6⟩,rfl⟩
     ·refine⟨hrl,hrs,hrc,fun hc=> ?_⟩
      obtain⟨arr,h1,h2,h3⟩:=hrow hc
      refine⟨arr,h1,h2,fun i j hi hj=> ?_⟩
      obtain⟨u,hu,hr⟩:=h3 i j hi hj
      exact⟨u,hu,hr _ _⟩
    i0:=fun _ h=>h
    i1:=fun _ h=> .inl h
    nT:=fun k hk=>Nat.lt_of_lt_of_le (hlt k hk) hsz
    keep:=⟨e1,e2,e3,hsz,fun k hk hn=>hblk k hk (by
     rintro⟨hc,rfl⟩
     exact hn ⟨m,.row E 3 rows.length gg,by simp,hc,rfl⟩),e4⟩
    sep:=fun n c _ _ hn=>by rw[hnew]at hn;cases hn
    inj:=fun n k c d _ _ _ hn=>by rw[hnew]at hn;cases hn}
  by_cases h2:rows.length<2
  ·refine(hS.tiny rows Om a _ #[] _ w).mono ?_
   rintro e w' ⟨rfl,os,rfl⟩
   refine done _ rfl rfl rfl (Nat.le_refl _) (by rw[size_grow];omega) (fun k hk _=>heap_grow_old w os hk) (fun hc=> ?_)
   obtain⟨arr,h3,h4,h5⟩:=hra hc
   refine⟨arr,h3.congr (heap_grow_old w os h3.lt),h4,fun i j hi hj=> ?_⟩
   obtain⟨u,hu,hr⟩:=h5 i j hi hj
   have hr:=(hgg.le i j hi hj).le _ _ _ hr
   refine⟨u,hu,fun I' w'=> ?_⟩
   rw[hS.Qm rows Om]
   match j,hj with
   |0,_=>exact hr
   |1,_=>exact hr
   |2,_=>exact hr
  ·have hcap:0<(ρ m).cap:=Om
   obtain⟨arr,h3,h4,h5⟩:=hra hcap
   have ai2:=h3.lt
   have hne:(ρ b).b≠(ρ m).b:=fun e=>hmb.symm (hinj b (.box [.bW m 3 0 rows.length]) m (.row E 3 rows.length gg) (by simp) (by simp) trivial hcap e)
   simp only[Nat.zero_mul,Nat.add_zero,Nat.sub_zero]at hao ai6
   obtain rfl:=hao.resolve_right Om
   obtain rfl:=ai6.resolve_right Om
   have hcell: ∀i j,i<rows.length->j<3->w.cell? ⟨(ρ m).b,(ρ m).o+(i*3+j),none⟩=some (enc3 (rows.getD i default))[j]! :=by
    intro i j hi hj
    obtain⟨u,hu,hr⟩:=h5 i j hi hj
    have hr:=(hgg.le i j hi hj).le _ _ _ hr
    rw[h3.cell,hu]
    match j,hj with
    |0,_=>exact congrArg some hr
    |1,_=>exact congrArg some hr
    |2,_=>exact congrArg some hr
   have hH:HoldsK enc3 3 w (ρ m).b (ρ m).o rows.toArray:=by
    intro k hk
    rw[size_flatK,List.size_toArray]at hk
    have hk2:k=k/3*3+k % 3:=Om
    have:=hcell (k/3) (k % 3) Om (Nat.mod_lt _ (by decide))
    refine⟨?_,h3.frozen (by rw[h4];omega)⟩
    rw[hk2,this,Le rows Om (Nat.mod_lt _ (by decide))]
    rfl
   have hreads:jm P g #[.pointer (some ⟨(ρ b).b,0,none⟩)] enc3 3 Nz (ρ m).b (ρ m).o rows.length w:=
    Xm hS.less (c:=(ρ m).cap) hg (fun k hk=>⟨hlt k hk,fun e=>hrI hcap (e▸hk)⟩) (by simp only[World.cell?,hb1];rfl) hne hblt Om hH rfl ai2 Om
   refine(hS.whole _ (ρ m).b (ρ m).o (ρ m).cap rows Om hsz w hreads hH ai2).mono ?_
   rintro e w' ⟨rfl,q,os,rfl⟩
   have hheap: ∀k,k<w.heap.size->k≠(ρ m).b->(putRowK enc3 3 (Sort.ahead (grow w os) q) (ρ m).b (ρ m).o (zN rows).toArray).heap[k]? =w.heap[k]? :=by
    intro k hk hne
    show((grow w os).heap.modify _ _)[k]? =_
    rw[QB _ _ _ _ hne]
    exact heap_grow_old w os hk
   refine done _ rfl rfl rfl (Nat.le_add_right _ _) ?_ (fun k hk hn=>hheap k hk (fun e=>hn ⟨hcap,e⟩)) (fun hc=> ?_)
   ·show w.heap.size<=((grow w os).heap.modify _ _).size
    simp[grow]
   ·obtain⟨fr,hf1,hf2⟩:=h3
    have hat:(putRowK enc3 3 (Sort.ahead (grow w os) q) (ρ m).b (ρ m).o (zN rows).toArray).heap[(ρ m).b]? =some (.cells (putCells id (ρ m).o (flatK enc3 3 (zN rows).toArray) arr) E fr):=by
     show((grow w os).heap.modify _ _)[_]? =_
     rw[aa8,heap_grow_old w os ai2,hf1]
     rfl
    refine⟨_,⟨fr,hat,by rw[show(putCells id (ρ m).o (flatK enc3 3 (zN rows).toArray) arr).size=arr.size by simp[putCells]];exact hf2⟩,by rw[<-h4];simp[putCells],fun i j hi hj=> ?_⟩
    have hlt2:(ρ m).o+(i*3+j)<arr.size:=by rw[h4];omega
    have hsl:=hS.WV rows
    refine⟨(enc3 ((zN rows).getD i default))[j]!,?_,?_⟩
    ·rw[<-Le (zN rows) Om hj]
     simp only[putCells,Array.getElem?_mapIdx,Array.getElem?_eq_getElem hlt2,Option.map_some,size_flatK,List.size_toArray]
     rw[if_pos ⟨Om,Om⟩,show(ρ m).o+(i*3+j)-(ρ m).o=i*3+j by omega]
     rfl
    ·intro I' w'
     match j,hj with
     |0,_=>exact rfl
     |1,_=>exact rfl
     |2,_=>exact rfl
theorem N9{f t g:Nat}{R:List aj->SV}{V:List aj->Value}{zN:List aj->List aj}(hS:FY P G f t g R V zN)(rows:List aj)(m b E:Nat)(hmb:m≠b){n:Nat}{gg:Nat->Nat->D}:(n=rows.length∧aJ n 3 gg (cellOf aZ rows)∧n<20)->
 Sx.Spec P G f [.VY t [.bW m 3 0 n],.clo g [.ptr b 0]] [(b,.box [.bW m 3 0 n]),(m,.row E 3 n gg)] (R rows)
   [(b,.box [.bW m 3 0 n]),(m,.row E 3 n (cellOf aZ (zN rows)))]:=by
 rintro⟨rfl,hg,hl⟩
 exact SG hS rows m b E hmb hg hl
end Go.Sx
namespace Go.Sx
open Go Go.Shelf Go.RowKit Go.Lib Go.Sort Go.Proofs
def VX(a b:aj):Prop:=Op.bytesLess a.key b.key=true
abbrev Asc(l:List aj):Prop:=l.Pairwise VX
def Xy(x:aj):List aj->List aj
 |[]=>[x]
 |y::l=>if Nz y x then y::Xy x l else x::y::l
def aH:List aj->List aj
 |[]=>[]
 |x::l=>Xy x (aH l)
theorem GR(x:aj): ∀l,(Xy x l).Perm (x::l)
 |[]=> .refl _
 |y::l=>by
  unfold Xy
  split
  ·exact((GR x l).cons y).trans (.swap x y l)
  ·exact .refl _
theorem ru: ∀l,(aH l).Perm l
 |[]=> .refl _
 |x::l=>(GR x _).trans ((ru l).cons x)
theorem eY(l:List aj):(aH l).length=l.length:=(ru l).length_eq
theorem kN{l:List aj}{x:aj}:x∈aH l↔x∈l:=(ru l).mem_iff
theorem Ze{a b:aj}(h:a.key≠b.key):Nz a b=Op.bytesLess a.key b.key:=by simp[Nz,h]
theorem QM{a b:aj}(h:a.key≠b.key)(h':Nz b a=false):VX a b:=by
 rw[Ze (Ne.symm h)]at h'
 exact Hq h' (Ne.symm h)
theorem VX.ne{a b:aj}(h:VX a b):a.key≠b.key:=by
 intro e;unfold VX at h;rw[e,jX]at h;cases h
theorem UG{x:aj}: ∀{l:List aj},Asc l->(∀y∈l,y.key≠x.key)->Asc (Xy x l)
 |[],_,_=>by simp[Xy]
 |y::l,h,hn=>by
  have h':=List.pairwise_cons.1 h
  unfold Xy
  have hne:=hn y (by simp)
  split
  ·rename_i hlt
   rw[Ze hne]at hlt
   refine List.pairwise_cons.2 ⟨fun z hz=> ?_,UG h'.2 (fun z hz=>hn z (by simp[hz]))⟩
   rcases List.mem_cons.1 ((GR x l).mem_iff.1 hz)with rfl|hz
   ·exact hlt
   ·exact h'.1 z hz
  ·rename_i hlt
   have hlt:VX x y:=QM (Ne.symm hne) (by simpa using hlt)
   refine List.pairwise_cons.2 ⟨fun z hz=> ?_,h⟩
   rcases List.mem_cons.1 hz with rfl|hz
   ·exact hlt
   ·exact jy hlt (h'.1 z hz)
theorem BD: ∀{l:List aj},(l.map (·.key)).Nodup->Asc (aH l)
 |[],_=>by simp[aH]
 |x::l,h=>by
  simp only[List.map_cons,List.nodup_cons]at h
  refine UG (BD h.2) (fun y hy e=>h.1 ?_)
  exact List.mem_map.2 ⟨y,kN.1 hy,e⟩
theorem DY: ∀{a b:List aj},Asc a->Asc b->a.Perm b->a=b
 |[],b,_,_,hp=>(List.nil_perm.1 hp).symm
 |x::a,[],_,_,hp=>by have:=hp.length_eq;simp at this
 |x::a,y::b,ha,hb,hp=>by
  have ha':=List.pairwise_cons.1 ha
  have hb':=List.pairwise_cons.1 hb
  have e:x=y:=by
   rcases List.mem_cons.1 (hp.mem_iff.1 (List.mem_cons_self))with h|h
   ·exact h
   ·rcases List.mem_cons.1 (hp.mem_iff.2 (List.mem_cons_self))with h'|h'
    ·exact h'.symm
    ·have h1:=hb'.1 x h
     have h2:=ha'.1 y h'
     have:=jy h1 h2
     rw[jX]at this;cases this
  subst e
  rw[DY ha'.2 hb'.2 (List.Perm.cons_inv hp)]
theorem SI{l:List aj}(h:Asc l):aH l=l:=DY (BD (by
 rw[List.nodup_iff_pairwise_ne,List.pairwise_map]
 exact h.imp VX.ne)) h (ru l)
theorem vK.perm{l m:List aj}(h:vK l)(p:m.Perm l):vK m:=
 ⟨by rw[p.length_eq];exact h.len,fun x hx=>h.ok x (p.mem_iff.1 hx),(p.map _).nodup_iff.2 h.ids,(p.map _).nodup_iff.2 h.keys⟩
theorem vK.sort{l:List aj}(h:vK l):vK (aH l):=h.perm (ru l)
theorem vK.asc{l:List aj}(h:vK l):Asc (aH l):=BD h.keys
theorem Yv{l:List aj}(hk:(l.map (·.key)).Nodup)(h: ∀i j,i<j->j<l.length->Nz (l.getD j default) (l.getD i default)=false):Asc l:=by
 rw[Asc,List.pairwise_iff_getElem]
 intro i j hi hj hij
 have h1:=h i j hij hj
 have ei:l.getD i default=l[i]:=by simp[List.getD,hi]
 have ej:l.getD j default=l[j]:=by simp[List.getD,hj]
 rw[ei,ej]at h1
 refine QM ?_ h1
 have:=List.pairwise_iff_getElem.1 (List.nodup_iff_pairwise_ne.1 hk) i j (by simpa using hi) (by simpa using hj) hij
 simpa using this
def zC(rows:List aj):List aj:=if rows.length<2 then rows else(Sort.insertionSort Nz rows.toArray 0 rows.toArray.size).toList
theorem Jz(rows:List aj):(zC rows).Perm rows∧∀i j,i<j->j<(zC rows).length->Nz ((zC rows).getD j default) ((zC rows).getD i default)=false:=by
 unfold zC
 split
 ·rename_i h
  exact⟨List.Perm.refl _,fun i j hij hj=>Om⟩
 ·have h:=insertionSort_holds af5 rows.toArray 0 rows.toArray.size (Nat.zero_le _) (Nat.le_refl _)
  generalize Sort.insertionSort Nz rows.toArray 0 rows.toArray.size=d at h
  obtain⟨⟨h1,h2,h3⟩,h4⟩:=h
  refine⟨?_,fun i j hij hj=> ?_⟩
  ·have e1:d.extract 0 rows.toArray.size=d:=by rw[<-h1];exact Array.extract_size
   have e2:rows.toArray.extract 0 rows.toArray.size=rows.toArray:=Array.extract_size
   rw[e1,e2]at h3
   exact h3
  ·have hj':j<d.size:=by simpa using hj
   have:=h4 i j (Nat.zero_le _) hij (by rw[<-h1];exact hj')
   have ed:d=d.toList.toArray:=by simp
   rw[ed,mZ,mZ]at this
   exact this
theorem aav(rows:List aj):(zC rows).length=rows.length:=(Jz rows).1.length_eq
theorem acQ{l:List aj}(h:vK l):zC l=aH l:=by
 obtain⟨h1,h2⟩:=Jz l
 have hk:((zC l).map (·.key)).Nodup:=(h1.map _).nodup_iff.2 h.keys
 exact DY (Yv hk h2) h.asc (h1.trans (ru l).symm)
def nZ{α:Type}[Inhabited α](lt:α->α->Bool)(d:Array α):Nat->Bool
 |0=>true
 |i+1=> !lt d[i+1]! d[i]! &&nZ lt d i
theorem Ep{α:Type}[Inhabited α]{lt:α->α->Bool}{d:Array α}: ∀{n:Nat},nZ lt d n=true↔∀i,i<n->lt d[i+1]! d[i]! =false
 |0=>by simp[nZ]
 |n+1=>by
  simp only[nZ,Bool.and_eq_true,Bool.not_eq_true',Ep (n:=n)]
  constructor
  ·rintro⟨h1,h2⟩ i hi
   by_cases e:i=n
   ·subst e;exact h1
   ·exact h2 i Om
  ·exact fun h=>⟨h n Om,fun i hi=>h i Om⟩
def uz(l:List aj):Bool:=nZ Nz l.toArray (l.length-1)
theorem UD{l:List aj}(h:vK l)(hs:uz l=true):aH l=l:=by
 refine SI ?_
 have h1:=Ep.1 hs
 rw[Asc,List.pairwise_iff_getElem]
 have step: ∀k i(hi:i+k+1<l.length),VX l[i] l[i+k+1]:=by
  intro k
  induction k with
  |zero=>
   intro i hi
   have:=h1 i Om
   rw[mZ,mZ]at this
   have ei:l.getD i default=l[i]:=by simp[List.getD,show i<l.length by omega]
   have ej:l.getD (i+1) default=l[i+1]:=by simp[List.getD,hi]
   rw[ei,ej]at this
   refine QM ?_ this
   have:=List.pairwise_iff_getElem.1 (List.nodup_iff_pairwise_ne.1 h.keys) i (i+1) (by simp;omega) (by simpa using hi) Om
   simpa using this
  |succ k ih=>
   intro i hi
   have h2:=ih i Om
   have:=h1 (i+k+1) Om
   rw[mZ,mZ]at this
   have ei:l.getD (i+k+1) default=l[i+k+1]:=by simp[List.getD,show i+k+1<l.length by omega]
   have ej:l.getD (i+k+1+1) default=l[i+k+1+1]:=by simp[List.getD,show i+k+1+1<l.length by omega]
   rw[ei,ej]at this
   have h3:VX l[i+k+1] l[i+k+1+1]:=by
    refine QM ?_ this
    have:=List.pairwise_iff_getElem.1 (List.nodup_iff_pairwise_ne.1 h.keys) (i+k+1) (i+k+1+1) (by simp;omega) (by simp;omega) Om
    simpa using this
   exact jy h2 h3
 intro i j hi hj hij
 have:=step (j-i-1) i Om
 have e:i+(j-i-1)+1=j:=Om
 simpa only[e]using this
end Go.Sx
namespace Go.Proofs
open Go.Shelf Go.RowKit Go.Lib Go.Sort
variable {P:Program}{ρ:Ren}{α:Type}[Inhabited α]
set_option maxHeartbeats 1600000 in
set_option maxRecDepth 100000 in
theorem Any.zZ(L:LaysGt.n15 P ρ)(enc:α->List Value)(k:Nat)(hk: ∀x,(enc x).length=k)(lt:α->α->Bool)(g:Nat)(lb:Array Value)(sf:Nat)(sb:Array Value)(blk off:Nat)(d:Array α)(W:World)
 (eg: ∀args w,(callFunc g args).run P w= .ok (.enter g args) w) (hless:jm P g lb enc k lt blk off d.size W) (hswap:SwapSwapsK P sf sb enc k blk off d.size)
 (hH:HoldsK enc k W blk off d) (hblk:blk<W.heap.size) (h20:d.size<20):
 Calls P (ρ.f 15) #[.agg #[.func (.func g) #[] lb,.func (.func sf) #[] sb],.int .i64 d.size] W fun e w'=>e= .returned (.tuple #[])∧∃n os,w'=putRowK enc k (Sort.ahead (Sort.grow W os) n) blk off (Sort.insertionSort lt d 0 d.size):=by
 have mixed:=L.mixed;have t0:=L.t0;have a0:=L.a0;have z0:=L.z0;have v0:=L.v0;have t3:=L.t3;have a3:=L.a3;have z3:=L.z3;have v3:=L.v3;have t4:=L.t4;have a4:=L.a4;have z4:=L.z4;have v4:=L.v4;have t26:=L.t26;have a26:=L.a26;have z26:=L.z26;have v26:=L.v26;have t38:=L.t38;have a38:=L.a38;have z38:=L.z38;have v38:=L.v38;have t42:=L.t42;have a42:=L.a42;have z42:=L.z42;have v42:=L.v42;have t47:=L.t47;have a47:=L.a47;have z47:=L.z47;have v47:=L.v47
 have u42:=run_underlying L.t42
 have e29: ∀args w,(callFunc (ρ.f 29) args).run P w= .ok (.enter (ρ.f 29) args) w:=enters_of L.f29 (by kernel_rfl) rfl
 have LI:LaysGg.n26 P ρ.viaGt:=({L with}:LaysGt.n29 P ρ).elder
 have hc:Calls P (ρ.f 29) #[.agg #[.func (.func g) #[] lb,.func (.func sf) #[] sb],.int .i64 (0:Nat),.int .i64 d.size] (W.alloc (.cells #[.func (.func g) #[] lb,.func (.func sf) #[] sb] (ρ.t 42))) fun e w'=>e= .returned (.tuple #[])∧∃n os,w'=putRowK enc k (Sort.ahead (Sort.grow W os) n) blk off (Sort.insertionSort lt d 0 d.size):=by
  have h1:jm P g lb enc k lt blk off d.size (W.alloc (.cells #[.func (.func g) #[] lb,.func (.func sf) #[] sb] (ρ.t 42))):=by
   rw[alloc_eq_grow];exact hless.grow _
  have h2:HoldsK enc k (W.alloc (.cells #[.func (.func g) #[] lb,.func (.func sf) #[] sb] (ρ.t 42))) blk off d:=by
   rw[alloc_eq_grow];exact holdsK_grow enc k W _ blk off d hblk hH
  have h3:blk<(W.alloc (.cells #[.func (.func g) #[] lb,.func (.func sf) #[] sb] (ρ.t 42))).heap.size:=by simp;omega
  refine(Any.Ce LI enc k hk lt g lb sf sb blk off 0 d.size d _ eg h1 hswap h2 h3 (Nat.zero_le _) (Nat.le_refl _) (by omega)).mono ?_
  rintro e w' ⟨rfl,n,os,rfl⟩
  exact⟨rfl,n,_,by rw[alloc_eq_grow,alloc_eq_grow,grow_grow,grow_grow]⟩
 clear hless hswap hH
 go_enter L.f15,BodyGt.n15_ntmps ρ
 go_wp2
 refine wp_loop_rounds 1 ?_
 rw[rounds_succ]
 go_wp2_with (go_at_fn (ρ.f 29);refine hc.mono ?_;rintro e w1 ⟨rfl,n,os,rfl⟩)
 refine wp_loop_rounds 1 ?_
 rw[rounds_succ]
 go_wp2
 all_goals first|(exfalso;omega)|(go_end0;exact⟨rfl,n,os,rfl⟩)
theorem Any.xA(L:LaysGt.n8 P ρ)(t e:TypeId)(i ie:TypeInfo)(hi:P.info? t=some i)(hd:i.desc= .slice e)(hpk:P.packed t=false)(hie:P.info? e=some ie)(ke:Nat)(hke: ∀w,(Extern.Rtype.kind e).run P w= .ok ke w)
 (enc:α->List Value) (k:Nat) (hk: ∀x,(enc x).length=k) (hs:ie.size=k) (hagg: ∀w,(isAgg e).run P w= .ok true w) (h1: ∀x,∀v∈enc x,v.oneCell'=true) (lt:α->α->Bool) (g:Nat) (lb:Array Value)
 (eg: ∀args w,(callFunc g args).run P w= .ok (.enter g args) w) (blk off c:Nat) (d:Array α) (h2:2<=d.size) (h20:d.size<20)
 (f:Nat) (hf:P.funcs.findIdx? (·.name== "internal/reflectlite" ++ ".Swapper$" ++toString (swapperK d.size ie ke))=some f)
 (gS:Bool) (hx: ∀args W,(callFunc f args).run P W=((Extern.ReflectliteSwapper.swap gS args).run P W).andThen fun v w'=> .ok (.value v) w')
 (w:World) (hless:jm P g lb enc k lt blk off d.size w) (hH:HoldsK enc k w blk off d) (hblk:blk<w.heap.size):
 Calls P (ρ.f 8) #[.iface t (.slice (some ⟨blk,off,none⟩) d.size c),.func (.func g) #[] lb] w fun e w'=>
  e= .returned (.tuple #[])∧∃n os,w'=putRowK enc k (Sort.ahead (Sort.grow w os) n) blk off (Sort.insertionSort lt d 0 d.size):=by
 refine Any.sort_SliceStable_of_stable L t e i ie hi hd hpk hie ke hke _ d.size c (by omega) f hf (.func g) #[] lb w _ ?_
 have hB:sliceBound P e ie ke (some ⟨blk,off,none⟩) d.size c= #[.slice (some ⟨blk,off,none⟩) d.size c,typeHandle P e]:=by
  unfold sliceBound;rw[if_neg (swapperK_gt _ _ _ h2)]
 have hW:stableWorld P ρ t (some ⟨blk,off,none⟩) d.size c w=grow w #[.cells #[.slice (some ⟨blk,off,none⟩) d.size c] t,.cells #[.pointer (some ⟨P.globals.size,t,none⟩),.pointer (some ⟨w.heap.size,0,none⟩),.int .u64 151] (ρ.t 36)]:=by
  unfold stableWorld;rw[alloc_eq_grow,alloc_eq_grow,grow_grow];rfl
 generalize (#[.cells #[.slice (some ⟨blk,off,none⟩) d.size c] t,.cells #[.pointer (some ⟨P.globals.size,t,none⟩),.pointer (some ⟨w.heap.size,0,none⟩),.int .u64 151] (ρ.t 36)]:Array Obj)=os0 at hW
 rw[hB,hW]
 have hp:=Any.zZ (P:=P) (ρ:=ρ) {L with} enc k hk lt g lb f _ blk off d (grow w os0) eg (hless.grow os0)
  (swapSwapsK_of_literal gS f hx e ie hie enc k hk hs hagg h1 blk off d.size c) (holdsK_grow enc k w _ blk off d hblk hH) (by rw[size_grow];omega) h20
 refine hp.mono ?_
 rintro e w' ⟨rfl,n,os,rfl⟩
 exact⟨rfl,n,_,by rw[grow_grow]⟩
end Go.Proofs
