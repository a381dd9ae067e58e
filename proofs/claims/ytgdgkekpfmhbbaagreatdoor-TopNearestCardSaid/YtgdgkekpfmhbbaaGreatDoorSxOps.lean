/- Part of a symbolic executor over the model, proved sound, with plain laws: SxOps. Written for this claim. -/
import Derived.Test.YtgdgkekpfmhbbaaGreatDoorSxSem
set_option linter.unusedVariables false
set_option linter.unusedSimpArgs false
namespace Go.Sx
open Go
variable {P:Program}{G:Nat->Option (Nat×(Nat->D))}{nt:Nat}{C:Ctx}{I:Nat->Prop}{ρ:Nat->Loc}{F:Fs}{a:Act}{w:World}{E:List Nat}
theorem Conc.pubs{F':Fs}{ns:List Nat}(p:fH F ns F')(h:Conc G nt C I ρ F a w): ∃I',Conc G nt C I' ρ F' a w∧∀b,I b->I' b:=by
 induction p generalizing I with
 |nil=>exact⟨I,h,fun _ h=>h⟩
 |row hn h0 _ ih=>
  obtain⟨I',h1,h2⟩:=ih (h.pub hn h0)
  exact⟨I',h1,fun b hb=>h2 b (.inl hb)⟩
 |nest hn hf hok h0 hf0 _ ih=>
  obtain⟨I',h1,h2⟩:=ih (h.aj6 hn hf hok h0 hf0)
  exact⟨I',h1,fun b hb=>h2 b (.inl hb)⟩
 |none _ _ ih=>exact ih h
def iU(F:Fs):List Nat->Fs
 |[]=>F
 |n::ns=>iU (jK F n) ns
def jS(F:Fs):List (Nat×bG)->Fs
 |[]=>F
 |(n,b)::ns=>jS (fE F n b) ns
def EW(F:Fs):List Nat->Fs
 |[]=>F
 |n::ns=>EW {F with nm:=fun m=>m=n∨F.nm m} ns
def eG(F:Fs)(u:bf):Fs:=oH (EW (jS (iU F u.del) u.own) u.new) u.dst u.v
theorem dY{o:Oper}{v:Value}{w':World}{next:Act->World->Prop}{Q:Exit->Act->World->Prop}(h:(execOp a.eval o).run P w= .ok (.value v) w')
 (hn:next (a.put o.dst v) w'):o.wp P a w next Q:=by
 unfold Oper.wp;rw[h];exact hn
theorem xq{o:Oper}{w':World}{next:Act->World->Prop}{Q:Exit->Act->World->Prop}(h:(execOp a.eval o).run P w= .ok .skip w')
 (hn:next (a.put o.dst undef) w'):o.wp P a w next Q:=by
 unfold Oper.wp;rw[h];exact hn
def fJ(P:Program)(G:Nat->Option (Nat×(Nat->D)))(nt:Nat)(C:Ctx)(I:Nat->Prop)(ρ:Nat->Loc)(a:Act)(w:World)(o:Oper)(F':Fs):Prop:=
 ∀(next:Act->World->Prop)(Q:Exit->Act->World->Prop),(∀I' ρ' v w',Conc G nt C I' ρ' F' (a.put o.dst v) w'->next (a.put o.dst v) w')->o.wp P a w next Q
theorem bJ(hc:Conc G nt C I ρ F a w){o:Oper}{sv:SV}{v:Value}(hv:Val G I ρ F w sv v)(hd:dJ nt o.dst)
 (h:(execOp a.eval o).run P w= .ok (.value v) w):fJ P G nt C I ρ a w o (oH F o.dst sv):=
 fun next Q hn=>dY h (hn I ρ v w (hc.put hd hv.rep hv.nm))
theorem dA{dst:Option Nat}{sv:SV}{u:bf}(h:To P G F (upd dst sv) u):u={dst,v:=sv,own:=[],del:=[],new:=[],pub:=[]}:=h.dV
theorem jv{dst:Option Nat}{k:Nat->M bf}{u:bf}(h:To P G F (zl dst k) u): ∃d,dst=some d∧To P G F (k d) u:=by
 cases dst with
 |none=>exact h.au.elim
 |some d=>exact⟨d,rfl,h⟩
theorem rW(w:World)(o:Obj){k:Nat}(h:k<w.heap.size):(w.alloc o).heap[k]? =w.heap[k]? :=by
 show(w.heap.push o)[k]? =_
 rw[Array.getElem?_push,if_neg Om]
theorem dS(w:World)(o:Obj):(w.alloc o).heap[w.heap.size]? =some o:=by
 show(w.heap.push o)[w.heap.size]? =_
 simp
theorem DI(S:Nat->Prop)(w:World)(o:Obj):Keep S w (w.alloc o):=
 ⟨rfl,rfl,rfl,by simp,fun _ hk _=>rW w o hk,Nat.le_refl _⟩
theorem abp(S:Nat->Prop)(w:World):Keep S w w.drew:=⟨rfl,rfl,rfl,Nat.le_refl _,fun _ _ _=>rfl,Nat.le_succ _⟩
theorem Conc.QJ(hc:Conc G nt C I ρ F a w){m:Nat}{b:bG}(hm:F.o m=some b)(hl:live (ρ m) b):(ρ m).b<w.heap.size:=hc.kL hm (fZ hl)
theorem Conc.iw(hc:Conc G nt C I ρ F a w)(o:Obj):Same I w (w.alloc o):=
 fun b _ hb=>World.cell?_of_block (rW w o (hc.nT b hb))
theorem Conc.mW(hc:Conc G nt C I ρ F a w){n:Nat}(hn: ¬F.nm n){blk:bG}{o:Obj}{cap rl sz:Nat}
 (hblk:dX I ρ (w.alloc o) (Oz w.heap.size cap rl sz 0) blk) (AV: ∀m,inB m blk->F.nm m):
 Conc G nt C I (dU ρ n (Oz w.heap.size cap rl sz 0)) (kS F n blk) a (w.alloc o):=by
 refine hc.new hn (hc.iw o) (fun m b k hm hl=>rW w o (hc.kL hm hl)) (hc.keep.trans (DI (fun _=>False) w o) (fun _ h=>h.elim))
  (fun b hb=>by have:=hc.nT b hb;simp;omega) hblk AV ?_
 intro j hj
 have hj':j=w.heap.size:=by
  rcases UU hj with⟨_,h⟩|⟨nk,rows,_,i,r,_,hc0,h⟩
  ·exact h
  ·exact absurd hc0 (Nat.lt_irrefl 0)
 subst hj'
 refine⟨fun hi=> ?_,.inl hc.keep.size,fun m b hm hl=> ?_⟩
 ·have:=hc.nT _ hi;omega
 ·have:=hc.kL hm hl;omega
theorem Conc.drew(hc:Conc G nt C I ρ F a w):Conc G nt C I ρ F a w.drew:=
 hc.world (fun _ h=>h) (fun _ _ _=>rfl) (fun _ _ _ _ _=>rfl) (fun m b k hm hl=>(hc.jA m b k hm hl).1) hc.nT hc.i1 (hc.keep.trans (abp (fun _=>False) w) (fun _ h=>h.elim))
theorem sQ{n:Nat}{blk:bG}{dst:Option Nat}{sv:SV}:eG F {dst,v:=sv,own:=[(n,blk)],del:=[],new:=[n],pub:=[]}=oH (kS F n blk) dst sv:=rfl
theorem aeI{dst:Option Nat}{sv:SV}{ns:List Nat}:eG F {dst,v:=sv,own:=[],del:=[],new:=[],pub:=ns}=oH F dst sv:=rfl
theorem xW{n:Nat}{blk:bG}{dst:Option Nat}{sv:SV}:eG F {dst,v:=sv,own:=[(n,blk)],del:=[],new:=[],pub:=[]}=oH (fE F n blk) dst sv:=rfl
theorem JL(T:Nat)(v:Value):(newVar T v).run P w= .ok ⟨w.heap.size,0,none⟩ (w.alloc (.cells v.cells T)):=by
 simp[newVar,newRow]
theorem To.qU{T:Nat}{k:List SV->M bf}{u:bf}(h:To P G F (pG P T k) u):
 ∃i z cs us,P.info? T=some i∧i.zero=some z∧z.cells=⟨us⟩∧us.length=i.size∧To P G F (k cs) u∧Cells I ρ w cs us∧∀n,¬jW n cs:=by
 unfold pG at h
 split at h
 ·rename_i i hi
  split at h
  ·rename_i cs hz
   split at h
   ·rename_i hl
    obtain⟨ds,h1,h2,h3,h4⟩:=To.Eo (I:=I) (ρ:=ρ) (w:=w) h
    exact⟨i,_,ds,cs,hi,hz,rfl,Nat.eq_of_beq_eq_true hl,h1,⟨h2,h4⟩,h3⟩
   ·exact h.au.elim
  ·rename_i v hne hz
   split at h
   ·rename_i hl
    obtain⟨sv,h1,h2,h3,h4⟩:=To.zX (I:=I) (ρ:=ρ) (w:=w) h
    have hcell:v.cells=⟨[v]⟩:=by cases v<;>first|rfl|(simp[Value.oneCell']at h4)
    exact⟨i,v,[sv],[v],hi,hz,hcell,Nat.eq_of_beq_eq_true hl,h1,⟨by simp only[aT];exact⟨v,[],rfl,h2,rfl⟩,by simpa using h4⟩,by simp[jW,h3]⟩
   ·exact h.au.elim
  ·exact h.au.elim
 ·exact h.au.elim
theorem kP{T:TypeId}{i:TypeInfo}{z:Value}(h:P.info? T=some i)(hz:i.zero=some z):(zeroValue T).run P w= .ok z w:=by
 simp[zeroValue,typeInfo,h,hz]
theorem Cells.alloc(hc:Conc G nt C I ρ F a w){cs:List SV}{us:List Value}(h:Cells I ρ w cs us)(o:Obj):Cells I ρ (w.alloc o) cs us:=
 h.mono (fun _ h=>h) (hc.iw o) (fun _ _=>rfl)
theorem ZL(hc:Conc G nt C I ρ F a w){n:Nat}(hn: ¬F.nm n){cs:List SV}{us:List Value}{T:Nat}(h:Cells I ρ w cs us)(hnm: ∀m,jW m cs->F.nm m):
 Conc G nt C I (dU ρ n (Oz w.heap.size 0 0 0 0)) (kS F n (.box cs)) a (w.alloc (.cells ⟨us⟩ T)):=
 hc.mW hn ⟨us,T,dS w _,h.alloc hc _⟩ hnm
theorem adF(hc:Conc G nt C I ρ F a w){o:Oper}{T:Nat}(ho:o.op= .alloc T)(hd:dJ nt o.dst){u:bf}(t:To P G F (n_ P G E o.dst o.op) u)
 {F1:Fs} (hp:fH F u.pub F1) (hf:jB F u):fJ P G nt C I ρ a w o (eG F1 u):=by
 rw[ho]at t
 obtain⟨d,hdst,t⟩:=jv t
 obtain⟨i,z,cs,us,hi,hz,hzc,_,t,h1,h2⟩:=To.qU (I:=I) (ρ:=ρ) (w:=w) t
 have:=t.dV;subst this
 cases hp
 rw[sQ]
 have hcn:=ZL hc (T:=T) (hf.new d (by simp)) h1 (fun m hm=>(h2 m hm).elim)
 intro next Q hn
 refine dY (v:= .pointer (some ⟨w.heap.size,0,none⟩)) (w':=w.alloc (.cells ⟨us⟩ T)) ?_ (hn _ _ _ _ (hcn.put (by rw[hdst]at hd⊢;exact hd) ?_ ?_))
 ·simp only[execOp,ho,Sem.run_bind,Instr.alloc,kP hi hz,Result.andThen_ok,JL,Sem.run_pure,hzc]
 ·simp[aC,dU]
 ·intro m hm;simp only[dO]at hm;exact .inl hm.symm
theorem aiG(hc:Conc G nt C I ρ F a w){o:Oper}{T:Nat}{x:Operand}(ho:o.op= .box T x)(hd:dJ nt o.dst){u:bf}(t:To P G F (n_ P G E o.dst o.op) u)
 {F1:Fs} (hp:fH F u.pub F1) (hf:jB F u):fJ P G nt C I ρ a w o (eG F1 u):=by
 rw[ho]at t
 obtain⟨d,hdst,t⟩:=jv t
 obtain⟨sv,t,hv⟩:=To.bU hc t
 obtain⟨cs,us,t,h1,h2,h3⟩:=To.nC t hv.rep
 have:=t.dV;subst this
 cases hp
 rw[sQ]
 have hcn:=ZL hc (T:=T) (hf.new d (by simp)) h1 (fun m hm=>hv.nm m (h3 m hm))
 intro next Q hn
 refine dY (v:= .pointer (some ⟨w.heap.size,0,none⟩)) (w':=w.alloc (.cells ⟨us⟩ T)) ?_ (hn _ _ _ _ (hcn.put (by rw[hdst]at hd⊢;exact hd) ?_ ?_))
 ·simp only[execOp,ho,Sem.run_bind,Instr.box,Result.andThen_ok,JL,Sem.run_pure,h2]
 ·simp[aC,dU]
 ·intro m hm;simp only[dO]at hm;exact .inl hm.symm
theorem Y2(hc:Conc G nt C I ρ F a w){o:Oper}{x:Operand}(ho:o.op= .move x∨o.op= .assign x)(hd:dJ nt o.dst){u:bf}(t:To P G F (n_ P G E o.dst o.op) u)
 {F1:Fs} (hp:fH F u.pub F1):fJ P G nt C I ρ a w o (eG F1 u):=by
 have t:To P G F (ev x (upd o.dst)) u:=by rcases ho with ho|ho<;>(rw[ho]at t;exact t)
 obtain⟨sv,t,hv⟩:=To.bU hc t
 have:=dA t;subst this
 cases hp
 refine bJ hc hv hd ?_
 rcases ho with ho|ho<;>simp[execOp,ho]
theorem agz(hc:Conc G nt C I ρ F a w){o:Oper}{c x y:Operand}(ho:o.op= .pick c x y)(hd:dJ nt o.dst){u:bf}(t:To P G F (n_ P G E o.dst o.op) u)
 {F1:Fs} (hp:fH F u.pub F1):fJ P G nt C I ρ a w o (eG F1 u):=by
 rw[ho]at t
 obtain⟨sv,t,hv⟩:=To.bU hc t
 split at t
 ·rename_i b
  have hcb:a.eval c= .bool b:=by have:=hv.rep;simpa only[aC,bM]using this
  cases t with
  |qY h t=>
   subst h
   obtain⟨sv,t,hv⟩:=To.bU hc t
   have:=dA t;subst this
   cases hp
   exact bJ hc hv hd (by simp[execOp,ho,hcb,asBool])
  |split2 h t=>
   subst h
   obtain⟨sv,t,hv⟩:=To.bU hc t
   have:=dA t;subst this
   cases hp
   exact bJ hc hv hd (by simp[execOp,ho,hcb,asBool])
 ·exact t.au.elim
theorem LX{b:Nat}{us:List Value}{E:Nat}(h:w.heap[b]? =some (.cells ⟨us⟩ E (0,0)))(o j:Nat):w.cell? ((⟨b,o,none⟩:Addr).add j)=us[o+j]? :=by
 rw[add_eq];simp[World.cell?,h]
theorem To.GZ{get:Nat->D}{u:bf}: ∀{n j:Nat}{k:List SV->M bf},To P G F (aez get j n k) u->To P G F (k ((List.range n).map fun i=> .d (get (j+i)))) u
 |0,_,_,h=>h
 |n+1,j,k,h=>by
  have:=To.GZ (n:=n) h
  rw[List.range_succ_eq_map,List.map_cons,List.map_map]
  simpa[Function.comp_def,Nat.add_assoc,Nat.add_comm 1]using this
theorem aT.of_cells{get:Nat->D}{f:Nat->Value}: ∀{n j:Nat},(∀i,i<n->bM I w (get (j+i)) (f (j+i)))->
 aT I ρ w ((List.range n).map fun i=> .d (get (j+i))) ((List.range n).map fun i=>f (j+i)):=by
 intro n
 induction n with
 |zero=>intro j _;simp[aT]
 |succ n ih=>
  intro j h
  rw[List.range_succ_eq_map,List.map_cons,List.map_cons,List.map_map,List.map_map]
  simp only[aT]
  refine⟨_,_,rfl,by simpa[aC]using h 0 Om,?_⟩
  have:=ih (j:=j+1) (fun i hi=>by have:=h (i+1) Om;rwa [show j+(i+1)=j+1+i by omega]at this)
  simpa[Function.comp_def,Nat.add_assoc,Nat.add_comm 1]using this
theorem UJ{get:Nat->D}{n m:Nat}: ¬jW m ((List.range n).map fun i=>SV.d (get i)):=by
 rw[jd]
 rintro⟨c,hc,hn⟩
 simp only[List.mem_map]at hc
 obtain⟨i,_,rfl⟩:=hc
 exact hn
theorem To.Oj{T sz:Nat}{get:Nat->D}{k:SV->M bf}{u:bf}(h:To P G F (Kr P T sz get k) u){ad:Addr}
 (hcell: ∀j,j<sz-> ∃x,w.cell? (ad.add j)=some x∧bM I w (get j) x):
 ∃sv v,To P G F (k sv) u∧Val G I ρ F w sv v∧(loadVar T ad).run P w= .ok v w:=by
 unfold Kr at h
 split at h
 ·exact h.au.elim
 ·rename_i d hd
  split at h
  ·rename_i ha
   split at h
   ·rename_i hle
    have hle:P.cellsOf T<=sz:=Nat.le_of_ble_eq_true hle
    have t:=To.GZ h
    simp only[Nat.zero_add]at t
    let f:Nat->Value:=fun j=>(w.cell? (ad.add j)).getD undef
    have hf: ∀j,j<sz->w.cell? (ad.add j)=some (f j)∧bM I w (get j) (f j):=by
     intro j hj
     obtain⟨x,h1,h2⟩:=hcell j hj
     have:f j=x:=by simp[f,h1]
     rw[this];exact⟨h1,h2⟩
    have hr:aT I ρ w ((List.range (P.cellsOf T)).map fun i=> .d (get i)) ((List.range (P.cellsOf T)).map f):=by
     have:=aT.of_cells (ρ:=ρ) (get:=get) (f:=f) (n:=P.cellsOf T) (j:=0) (w:=w) (I:=I) (fun i hi=>by simpa using(hf i Om).2)
     simpa using this
    refine⟨_,.agg ⟨(List.range (P.cellsOf T)).map f⟩,t,⟨?_,?_⟩,?_⟩
    ·simp only[aC]
     refine⟨_,rfl,hr,?_⟩
     intro x hx
     simp only[List.mem_map,List.mem_range]at hx
     obtain⟨j,hj,rfl⟩:=hx
     exact(hf j Om).2.one
    ·intro m hm
     simp only[dO]at hm
     exact(UJ hm).elim
    ·refine jC hd (us:=(List.range (P.cellsOf T)).map f) ?_ ?_
     ·unfold kK
      rw[if_pos ha,List.take_of_length_le (by simp)]
      exact⟨rfl,by simp⟩
     ·intro j x hx
      simp only[List.getElem?_map,Option.map_eq_some_iff]at hx
      obtain⟨i,hi,rfl⟩:=hx
      have hij:=List.getElem?_eq_some_iff.1 hi
      obtain⟨hlt,he⟩:=hij
      simp at hlt he
      subst he
      exact(hf j Om).1
   ·exact h.au.elim
  ·rename_i ha
   split at h
   ·rename_i hle
    have hle:1<=sz:=Nat.le_of_ble_eq_true hle
    obtain⟨x,h1,h2⟩:=hcell 0 Om
    refine⟨_,x,h,⟨by simpa[aC]using h2,by simp[dO]⟩,?_⟩
    refine jC hd (us:=[x]) ?_ ?_
    ·unfold kK;rw[if_neg (by simp[ha])];rfl
    ·intro j y hy
     cases j with
     |zero=>simp at hy;subst hy;exact h1
     |succ j=>simp at hy
   ·exact h.au.elim
theorem To.WR{T sz:Nat}{get:Nat->D}{k:SV->M bf}{u:bf}(h:To P G F (Kr P T sz get k) u){us:List Value}
 (hcell: ∀j,j<sz-> ∃x,us[j]? =some x∧bM I w (get j) x):
 ∃sv v d,To P G F (k sv) u∧Val G I ρ F w sv v∧P.underlying T=some d∧kK d (P.cellsOf T) us v:=by
 unfold Kr at h
 split at h
 ·exact h.au.elim
 ·rename_i d hd
  split at h
  ·rename_i ha
   split at h
   ·rename_i hle
    have hle:P.cellsOf T<=sz:=Nat.le_of_ble_eq_true hle
    have t:=To.GZ h
    simp only[Nat.zero_add]at t
    let f:Nat->Value:=fun j=>(us[j]?).getD undef
    have hf: ∀j,j<sz->us[j]? =some (f j)∧bM I w (get j) (f j):=by
     intro j hj
     obtain⟨x,h1,h2⟩:=hcell j hj
     have:f j=x:=by simp[f,h1]
     rw[this];exact⟨h1,h2⟩
    have hr:aT I ρ w ((List.range (P.cellsOf T)).map fun i=> .d (get i)) ((List.range (P.cellsOf T)).map f):=by
     have:=aT.of_cells (ρ:=ρ) (get:=get) (f:=f) (n:=P.cellsOf T) (j:=0) (w:=w) (I:=I) (fun i hi=>by simpa using(hf i Om).2)
     simpa using this
    have hlen:P.cellsOf T<=us.length:=by
     rcases Nat.eq_zero_or_pos (P.cellsOf T)with h0|h0
     ·omega
     ·have:=(List.getElem?_eq_some_iff.1 (hf (P.cellsOf T-1) Om).1).1
      omega
    have he:(List.range (P.cellsOf T)).map f=us.take (P.cellsOf T):=by
     apply List.ext_getElem?
     intro j
     by_cases hj:j<P.cellsOf T
     ·rw[List.getElem?_map,List.getElem?_range hj,List.getElem?_take,if_pos hj]
      exact(hf j Om).1.symm
     ·rw[List.getElem?_eq_none (by simp;omega),List.getElem?_eq_none (by simp;omega)]
    refine⟨_,.agg ⟨(List.range (P.cellsOf T)).map f⟩,d,t,⟨?_,?_⟩,hd,?_⟩
    ·simp only[aC]
     refine⟨_,rfl,hr,?_⟩
     intro x hx
     simp only[List.mem_map,List.mem_range]at hx
     obtain⟨j,hj,rfl⟩:=hx
     exact(hf j Om).2.one
    ·intro m hm
     simp only[dO]at hm
     exact(UJ hm).elim
    ·unfold kK
     rw[if_pos ha,he]
     exact⟨rfl,hlen⟩
   ·exact h.au.elim
  ·rename_i ha
   split at h
   ·rename_i hle
    have hle:1<=sz:=Nat.le_of_ble_eq_true hle
    obtain⟨x,h1,h2⟩:=hcell 0 Om
    refine⟨_,x,d,h,⟨by simpa[aC]using h2,by simp[dO]⟩,hd,?_⟩
    unfold kK;rw[if_neg (by simp[ha])];exact h1
   ·exact h.au.elim
theorem agB(hc:Conc G nt C I ρ F a w){o:Oper}{T:Nat}{x:Operand}(ho:o.op= .load T x)(hd:dJ nt o.dst){u:bf}(t:To P G F (n_ P G E o.dst o.op) u)
 {F1:Fs} (hp:fH F u.pub F1):fJ P G nt C I ρ a w o (eG F1 u):=by
 rw[ho]at t
 obtain⟨sv,t,hv⟩:=To.bU hc t
 have hrun: ∀ad v,a.eval x= .pointer (some ad)->(loadVar T ad).run P w= .ok v w->(execOp a.eval o).run P w= .ok (.value v) w:=by
  intro ad v h1 h2
  simp[execOp,ho,h1,Instr.loadAt,Instr.sureAddr,h2]
 split at t
 ·rename_i n off
  obtain⟨b,hb,t⟩:=t.eP
  have hx:a.eval x= .pointer (some ⟨(ρ n).b,off,none⟩):=by simpa only[aC]using hv.rep
  split at t
  ·rename_i cs
   obtain⟨us,Eb,h1,h2⟩:=hc.own n _ hb
   obtain⟨h3,t⟩:=To.rJ t
   have hdr:Cells I ρ w (cs.drop off) (us.drop off):=⟨h2.1.drop off,fun x hx=>h2.2 x (List.mem_of_mem_drop hx)⟩
   obtain⟨d,sv,v,hd',t,hv,hpv⟩:=To.uw (F:=F) t hdr (fun m hm=>hc.fA n _ m hb (yZ (fun c hc=>List.mem_of_mem_drop hc) hm))
   have:=dA t;subst this
   cases hp
   refine bJ hc hv hd (hrun _ v hx (jC hd' hpv ?_))
   intro j y hy
   rw[LX h1]
   simpa using hy
  ·exact t.au.elim
 ·rename_i n sz i off
  obtain⟨b,hb,t⟩:=t.eP
  have hx:=hv.rep
  simp only[aC]at hx
  split at t
  ·rename_i E sz' len get
   obtain⟨hi,t⟩:=t.dh
   obtain⟨h1,h2,h3,h4⟩:=hc.own n _ hb
   obtain⟨arr,h5,h6,h7⟩:=h4 Om
   obtain⟨sv,v,t,hv,hl⟩:=To.Oj (I:=I) (ρ:=ρ) (w:=w) (ad:=⟨(ρ n).b,(ρ n).o+(i*sz+off),none⟩) t (by
    intro j hj
    obtain⟨y,hy,hr⟩:=h7 i (off+j) hi Om
    refine⟨y,?_,hr⟩
    rw[add_eq]
    rw[h5.cell]
    rw[<-hx.1,h2,Nat.add_assoc,Nat.add_assoc]
    exact hy)
   have:=dA t;subst this
   cases hp
   exact bJ hc hv hd (hrun _ v hx.2 hl)
  ·rename_i sz' cs
   obtain⟨g1,g2,us,Eb,h1,h2⟩:=hc.own n _ hb
   obtain⟨h3,t⟩:=To.rJ t
   have hdr:Cells I ρ w (cs.drop (i*sz'+off)) (us.drop (i*sz'+off)):=⟨h2.1.drop _,fun x hx=>h2.2 x (List.mem_of_mem_drop hx)⟩
   obtain⟨d,sv,v,hd',t,hv,hpv⟩:=To.uw (F:=F) t hdr (fun m hm=>hc.fA n _ m hb (yZ (fun c hc=>List.mem_of_mem_drop hc) hm))
   have:=dA t;subst this
   cases hp
   have hss:sz'=sz:=by rw[<-g2,hx.1]
   refine bJ hc hv hd (hrun _ v hx.2 (jC hd' hpv ?_))
   intro j y hy
   rw[g1,Nat.zero_add,<-hss,LX h1]
   simpa using hy
  ·exact t.au.elim
 ·rename_i sz get
  have hx:=hv.rep
  simp only[aC]at hx
  obtain⟨b,off,hx,hI,hcell⟩:=hx
  obtain⟨sv,v,t,hv,hl⟩:=To.Oj (I:=I) (ρ:=ρ) (w:=w) (ad:=⟨b,off,none⟩) t (by
   intro j hj
   rw[add_eq]
   exact hcell j hj)
  have:=dA t;subst this
  cases hp
  exact bJ hc hv hd (hrun _ v hx hl)
 ·exact t.au.elim
end Go.Sx
namespace Go.Sx
open Go
variable {P:Program}{G:Nat->Option (Nat×(Nat->D))}{nt:Nat}{C:Ctx}{I:Nat->Prop}{ρ:Nat->Loc}{F:Fs}{a:Act}{w:World}{E:List Nat}
theorem uq(w:World)(g:Nat)(cs:Array Value)(k:Nat)(h:k≠g):(w.setRow g cs).heap[k]? =w.heap[k]? :=setRow_other w g k cs h
theorem wG(S:Nat->Prop)(w:World)(g:Nat)(cs:Array Value)(h:S g):Keep S w (w.setRow g cs):=
 ⟨rfl,rfl,rfl,by simp[World.setRow],fun k _ hs=>uq w g cs k (by rintro rfl;exact hs h),Nat.le_refl _⟩
theorem jZ{g:Nat}{cs:Array Value}(h: ¬I g):Same I w (w.setRow g cs):=
 fun b _ hb=>World.cell?_of_block (uq w g cs b (by rintro rfl;exact h hb))
theorem Conc.zY(hc:Conc G nt C I ρ F a w){n:Nat}{b0 blk:bG}(h0:F.o n=some b0)(hl:live (ρ n) b0)(hl0: ∀k,foot (ρ n) blk k->foot (ρ n) b0 k)(hr0:oh blk->oh b0)
 {cs:Array Value} (hblk:dX I ρ (w.setRow (ρ n).b cs) (ρ n) blk) (AV: ∀m,inB m blk->F.nm m):
 Conc G nt C I ρ (fE F n blk) a (w.setRow (ρ n).b cs):=by
 have hs:=hc.sep n b0 h0 hl
 refine hc.store h0 hl0 hr0 (jZ hs.1) (fun m b k hm hne hlm=>uq _ _ _ _ (fun e=>hne (hc.iE m n b b0 k hm h0 hlm (by rw[e];exact fZ hl)))) ?_ ?_ hblk AV
 ·refine hc.keep.trans (wG (fun k=>k=(ρ n).b) w _ cs rfl) ?_
  rintro i rfl
  exact hs.2.symm
 ·intro b hb;have:=hc.nT b hb;simpa[World.setRow]using this
theorem rQ{T:Nat}{i:TypeInfo}(hi:P.info? T=some i){g off E:Nat}{us:List Value}(hg:kY w g ⟨us⟩ E){v:Value}{new:List Value}(hv:v.cells=⟨new⟩)
 (hsz:new.length=i.size) (hfit:off+new.length<=us.length) (h1: ∀x∈new,x.oneCell'=true):
 (storeVar T ⟨g,off,none⟩ v).run P w= .ok () (w.setRow g (us.take off++new++us.drop (off+new.length)).toArray):=by
 have hst:=jH (P:=P) g off E new 0 ⟨us⟩ w hg (by simpa using hfit) h1
 simp only[Nat.add_zero]at hst
 have hsz':v.cells.size=i.size:=by rw[hv];exact hsz
 simp only[storeVar,Sem.run_bind,fG hi,Result.andThen_ok,hsz',ne_eq,not_true_eq_false,if_false,Sem.run_pure]
 rw[hv]
 exact hst
theorem DJ{m off:Nat}{new cs:List SV}(h:jW m (cs.take off++new++cs.drop (off+new.length))):jW m cs∨jW m new:=by
 rw[jd]at h
 obtain⟨c,hc,hn⟩:=h
 simp only[List.mem_append]at hc
 rcases hc with(hc|hc)|hc
 ·exact .inl (jd.2 ⟨c,List.mem_of_mem_take hc,hn⟩)
 ·exact .inr (jd.2 ⟨c,hc,hn⟩)
 ·exact .inl (jd.2 ⟨c,List.mem_of_mem_drop hc,hn⟩)
theorem To.aeV{sv:SV}{k:D->M bf}{u:bf}(h:To P G F (dK sv k) u): ∃x,sv= .d x∧To P G F (k x) u:=by
 cases sv<;>first|exact⟨_,rfl,h⟩|exact h.au.elim
theorem To.lJ{u:bf}: ∀{cs:List SV}{k:List D->M bf},To P G F (vk cs k) u-> ∃ds,cs=ds.map .d∧To P G F (k ds) u
 |[],k,h=>⟨[],rfl,h⟩
 |c::cs,k,h=>by
  simp only[vk,DC]at h
  obtain⟨x,e1,h1⟩:=To.aeV h
  obtain⟨ds,e2,h2⟩:=To.lJ (cs:=cs) h1
  exact⟨x::ds,by rw[e1,e2];rfl,h2⟩
theorem aT.data{ds:List D}{us:List Value}(h:aT I ρ w (ds.map .d) us): ∀j,j<ds.length-> ∃u,us[j]? =some u∧bM I w (ds.getD j default) u:=by
 intro j hj
 obtain⟨v,hv,hr⟩:=h.get (n:=j) (x:= .d (ds.getD j default)) (by simp[List.getD,hj])
 exact⟨v,hv,by simpa only[aC]using hr⟩
end Go.Sx
namespace Go.Sx
open Go
variable {P:Program}{G:Nat->Option (Nat×(Nat->D))}{nt:Nat}{C:Ctx}{I:Nat->Prop}{ρ:Nat->Loc}{F:Fs}{a:Act}{w:World}{E:List Nat}{T:Nat}
theorem TP(hc:Conc G nt C I ρ F a w){o:Oper}{x:Operand}(ho:o.op= .nilCheck x)(hd:dJ nt o.dst){u:bf}(t:To P G F (n_ P G E o.dst o.op) u)
 {F1:Fs} (hp:fH F u.pub F1):fJ P G nt C I ρ a w o (eG F1 u):=by
 rw[ho]at t
 obtain⟨sv,t,hv⟩:=To.bU hc t
 have hrun: ∀ad,a.eval x= .pointer (some ad)->(execOp a.eval o).run P w= .ok (.value (a.eval x)) w:=by
  intro ad h1;simp[execOp,ho,h1]
 split at t
 ·have:=dA t;subst this
  cases hp
  have hx:=hv.rep
  simp only[aC]at hx
  exact bJ hc hv hd (hrun _ hx)
 ·have:=dA t;subst this
  cases hp
  have hx:=hv.rep
  simp only[aC]at hx
  exact bJ hc hv hd (hrun _ hx.2)
 ·have:=dA t;subst this
  cases hp
  have hx:=hv.rep
  simp only[aC]at hx
  obtain⟨b,off,hx,_⟩:=hx
  exact bJ hc hv hd (hrun _ hx)
 ·exact t.au.elim
theorem iy{i:IntKind}{n:Int}{v:Value}(h:aC I ρ w (.d (.int i n)) v):v= .int i n:=by simpa only[aC,bM]using h
theorem pR{b:Bool}{v:Value}(h:aC I ρ w (.d (.bool b)) v):v= .bool b:=by simpa only[aC,bM]using h
theorem ou{l:List UInt8}{v:Value}(h:aC I ρ w (.d (.str l)) v):v= .string ⟨⟨l⟩⟩:=by simpa only[aC,bM]using h
def lq:D->Value
 | .int k n=> .int k n
 | .bool b=> .bool b
 | .str l=> .string ⟨⟨l⟩⟩
 | .val x=>x
 | .list _ _ _=>undef
 | .nl _ _ _=>undef
def P_:D->Prop
 | .int _ _| .bool _| .str _=>True
 |_=>False
theorem qO(x:D)(h:P_ x):bM I w x (lq x):=by cases x<;>simp_all[bM,lq,P_]
theorem pJ{x:D}{v:Value}(h:bM I w x v):Val G I ρ F w (.d x) v:=⟨by simpa only[aC]using h,by simp[dO]⟩
theorem agy(hc:Conc G nt C I ρ F a w){o:Oper}{op:UnOp}{T:Nat}{x:Operand}(ho:o.op= .unOp op T x)(hd:dJ nt o.dst){u:bf}(t:To P G F (n_ P G E o.dst o.op) u)
 {F1:Fs} (hp:fH F u.pub F1):fJ P G nt C I ρ a w o (eG F1 u):=by
 rw[ho]at t
 obtain⟨sv,t,hv⟩:=To.bU hc t
 unfold unK at t
 split at t
 ·have hx:=iy hv.rep
  have:=dA t;subst this
  cases hp
  exact bJ hc (pJ (qO _ trivial)) hd (by simp[execOp,ho,hx,Op.unary,Op.intArith,lq])
 ·have hx:=pR hv.rep
  have:=dA t;subst this
  cases hp
  exact bJ hc (pJ (qO _ trivial)) hd (by simp[execOp,ho,hx,Op.unary,lq])
 ·exact t.au.elim
structure I8 (P:Program) (E:List Nat):Prop where
 mixed:P.follows .mixedOrders=true
 eq: ∀T,g_ T E=true->P.stoodInHeld T=false∧P.eqGuardType P.depth T=false
theorem xB{t:Nat}{d:TypeDesc}(hd:P.underlying t=some d){us:List Value}{off:Nat}{v:Value}(hv:kK d (P.cellsOf t) (us.drop off) v):
 (part t ⟨us⟩ off).run P w= .ok v w:=by
 obtain⟨i,hi,hsz⟩:=Jr hd
 simp only[part,Sem.run_bind,JM hd,Result.andThen_ok]
 unfold kK at hv
 split at hv
 ·rename_i ha
  obtain⟨rfl,hl⟩:=hv
  simp only[ha,if_true,Sem.run_bind,fG hi,Result.andThen_ok,Sem.run_pure,<-hsz]
  have:(Array.extract ⟨us⟩ off (off+P.cellsOf t))=⟨(us.drop off).take (P.cellsOf t)⟩:=by
   apply Array.ext'
   simp
  rw[this]
 ·rename_i ha
  have h0:us[off]? =some v:=by simpa using hv
  have h1:(Array.mk us)[off]? =some v:=by simpa using h0
  simp[ha,h1]
def ah9(P:Program)(w:World)(n T:Nat)(x y:Value)(b:Bool):Prop:= ∀d,n<=d->(Op.equalIn d T x y).run P w= .ok b w
theorem To.Dk{n:Nat}{rec:Nat->SV->SV->(Bool->M bf)->M bf}{u:bf}
 (hrec: ∀{T:Nat}{x y:SV}{vx vy:Value}{k:Bool->M bf},To P G F (rec T x y k) u->aC I ρ w x vx->aC I ρ w y vy->(∀m,dO m x->F.nm m)->(∀m,dO m y->F.nm m)-> ∃b,To P G F (k b) u∧ah9 P w n T vx vy b):
 ∀{fs:List Field}{cs ds:List SV}{us vs:List Value}{k:Bool->M bf},To P G F (BR P rec fs cs ds k) u->Cells I ρ w cs us->Cells I ρ w ds vs->(∀m,jW m cs->F.nm m)->(∀m,jW m ds->F.nm m)->
  ∃b,To P G F (k b) u∧∀d,n<=d->(Op.eqFields d ⟨us⟩ ⟨vs⟩ fs).run P w= .ok b w
 |[],_,_,_,_,_,h,_,_,_,_=>⟨true,h,fun _ _=>rfl⟩
 |⟨name,t,off,e1,e2,e3,e4⟩::fs,cs,ds,us,vs,k,h,h1,h2,n1,n2=>by
  simp only[BR]at h
  split at h
  ·exact h.au.elim
  ·rename_i hne
   obtain⟨_,h⟩:=To.rJ h
   obtain⟨dd,sx,vx,hdx,h,hx,px⟩:=To.uw (F:=F) h ⟨h1.1.drop off,fun x hx=>h1.2 x (List.mem_of_mem_drop hx)⟩ (fun m hm=>n1 m (yZ (fun c hc=>List.mem_of_mem_drop hc) hm))
   obtain⟨_,h⟩:=To.rJ h
   obtain⟨dd',sy,vy,hdy,h,hy,py⟩:=To.uw (F:=F) h ⟨h2.1.drop off,fun x hx=>h2.2 x (List.mem_of_mem_drop hx)⟩ (fun m hm=>n2 m (yZ (fun c hc=>List.mem_of_mem_drop hc) hm))
   obtain⟨b,h,hb⟩:=hrec h hx.rep hy.rep hx.nm hy.nm
   have hname:name≠ "_" :=by simpa using hne
   have hstep: ∀d,n<=d->(Op.eqFields d ⟨us⟩ ⟨vs⟩ (⟨name,t,off,e1,e2,e3,e4⟩::fs)).run P w=if b=true then(Op.eqFields d ⟨us⟩ ⟨vs⟩ fs).run P w else .ok false w:=by
    intro d hd
    simp only[Op.eqFields,hname,ne_eq,not_false_eq_true,if_true,Sem.run_bind,xB hdx px,xB hdy py,Result.andThen_ok,hb d hd]
    cases b<;>simp
   split at h
   ·refine⟨b,h,fun d hd=> ?_⟩
    rw[hstep d hd]
    cases b<;>simp[Op.eqFields]
   ·obtain⟨c,h,hc⟩:=To.Dk hrec h h1 h2 n1 n2
    refine⟨b&&c,h,fun d hd=> ?_⟩
    rw[hstep d hd,hc d hd]
    cases b<;>simp
theorem To.Q5(hE:I8 P E){u:bf}: ∀{n T:Nat}{x y:SV}{vx vy:Value}{k:Bool->M bf},To P G F (eqK P E n T x y k) u->aC I ρ w x vx->aC I ρ w y vy->
 (∀m,dO m x->F.nm m)->(∀m,dO m y->F.nm m)-> ∃b,To P G F (k b) u∧ah9 P w n T vx vy b
 |0,_,_,_,_,_,_,h,_,_,_,_=>h.au.elim
 |n+1,T,x,y,vx,vy,k,h,hx,hy,nx,ny=>by
  have hd: ∀d,n+1<=d-> ∃e,d=e+1∧n<=e:=fun d h=>⟨d-1,Om,Om⟩
  simp only[eqK]at h
  split at h
  ·rename_i i hT
   split at h
   ·split at h
    ·rename_i h1 h2
     have e1:=KU h1
     have e2:=KU h2
     subst e1;subst e2
     refine⟨_,h,fun d hdd=> ?_⟩
     obtain⟨e,rfl,_⟩:=hd d hdd
     rw[iy hx,iy hy]
     exact run_equalIn_int w e T _ _ _ _ hT
    ·exact h.au.elim
   ·exact h.au.elim
  ·rename_i hT
   split at h
   ·refine⟨_,h,fun d hdd=> ?_⟩
    obtain⟨e,rfl,_⟩:=hd d hdd
    rw[pR hx,pR hy]
    exact run_equalIn_bool' w e T _ _ hT
   ·exact h.au.elim
  ·rename_i hT
   split at h
   ·refine⟨_,h,fun d hdd=> ?_⟩
    obtain⟨e,rfl,_⟩:=hd d hdd
    rw[ou hx,ou hy]
    rw[run_equalIn_string w e T _ _ hT,ByteArray.toList_eq,ByteArray.toList_eq]
   ·exact h.au.elim
  ·rename_i fs hT
   split at h
   ·rename_i cs ds hm
    simp only[aC]at hx hy
    obtain⟨us,rfl,h1,h1'⟩:=hx
    obtain⟨vs,rfl,h2,h2'⟩:=hy
    obtain⟨b,h,hb⟩:=To.Dk (n:=n) (fun h a b c d=>To.Q5 hE h a b c d) h ⟨h1,h1'⟩ ⟨h2,h2'⟩ (fun m hm=>nx m (by simpa[dO]using hm)) (fun m hm=>ny m (by simpa[dO]using hm))
    refine⟨b,h,fun d hdd=> ?_⟩
    obtain⟨e,rfl,hle⟩:=hd d hdd
    have hf:P.fieldsOf T=⟨fs⟩:=by simp[Program.fieldsOf,hT]
    rw[run_equalIn_agg w e T _ _ (by rw[hf];exact hT) (hE.eq T hm).1,hf]
    exact hb e hle
   ·exact h.au.elim
  ·exact h.au.elim
theorem JF{op:BinOp}{k j:IntKind}{x y:Int}{r:D->M bf}{u:bf}(h:To P G F (JG op k x y r) u):
 ∃z,To P G F (r z) u∧P_ z∧(binOp op T (.int k x) (.int j y)).run P w= .ok (lq z) w:=by
 cases op<;>simp only[JG]at h<;>first
  |exact h.au.elim
  |(obtain⟨hne,h⟩:=h.dh;exact⟨_,h,trivial,by simp[binOp,Op.shift,lq,Int.not_lt.2 hne]⟩)
theorem abt{op:BinOp}{k:IntKind}{x y:Int}{r:D->M bf}{u:bf}(h:To P G F (ael op k x y r) u):
 ∃z,To P G F (r z) u∧P_ z∧(binOp op T (.int k x) (.int k y)).run P w= .ok (lq z) w:=by
 cases op<;>simp only[ael]at h<;>first
  |exact h.au.elim
  |exact JF h
  |(obtain⟨hne,h⟩:=h.dh;exact⟨_,h,trivial,by simp[binOp,Op.intDiv,hne,lq]⟩)
  |exact⟨_,h,trivial,by simp[binOp,Op.intArith,Op.intCmp,Op.intBits,lq]⟩
theorem aau{op:BinOp}{x y:List UInt8}{r:D->M bf}{u:bf}(h:To P G F (acM op x y r) u):
 ∃z,To P G F (r z) u∧P_ z∧(binOp op T (.string ⟨⟨x⟩⟩) (.string ⟨⟨y⟩⟩)).run P w= .ok (lq z) w:=by
 have ht: ∀l:List UInt8,(ByteArray.mk ⟨l⟩).toList=l:=fun l=>by rw[ByteArray.toList_eq]
 have hs: ∀l:List UInt8,(ByteArray.mk ⟨l⟩).size=l.length:=fun l=>rfl
 have hmax:IntKind.i64.max=9223372036854775807:=rfl
 have happ:(ByteArray.mk ⟨x⟩++ByteArray.mk ⟨y⟩)=ByteArray.mk ⟨x++y⟩:=by
  apply ByteArray.ext
  simp
 cases op<;>simp only[acM]at h<;>first
  |exact h.au.elim
  |(obtain⟨hle,h⟩:=h.dh
    refine⟨_,h,trivial,?_⟩
    have: ¬((x.length+y.length:Nat):Int)>9223372036854775807:=Om
    simp only[binOp,Op.stringOp,hs,hmax,this,if_false,Sem.run_pure,happ,lq])
  |exact⟨_,h,trivial,by simp[binOp,Op.stringOp,ht,lq]⟩
theorem kQ(op:BinOp)(x y:Operand)(c d:D)(hc:P_ c)(hd:P_ d):(eqGuard op T x y (lq c) (lq d)).run P w= .ok () w:=by
 cases c<;>cases d<;>first|exact hc.elim|exact hd.elim|(cases op<;>simp[eqGuard,lq])
theorem adE(hE:I8 P E)(hc:Conc G nt C I ρ F a w){o:Oper}{op:BinOp}{T T':Nat}{x y:Operand}(ho:o.op= .binOp op T x y T')(hd:dJ nt o.dst){u:bf}(t:To P G F (n_ P G E o.dst o.op) u)
 {F1:Fs} (hp:fH F u.pub F1):fJ P G nt C I ρ a w o (eG F1 u):=by
 rw[ho]at t
 obtain⟨sx,t,hx⟩:=To.bU hc t
 obtain⟨sy,t,hy⟩:=To.bU hc t
 have fin: ∀z:D,P_ z->To P G F (upd o.dst (.d z)) u->(eqGuard op T x y (a.eval x) (a.eval y)).run P w= .ok () w->(binOp op T (a.eval x) (a.eval y)).run P w= .ok (lq z) w->
  fJ P G nt C I ρ a w o (eG F1 u):=by
  intro z hz t h1 h2
  have:=dA t;subst this
  cases hp
  exact bJ hc (pJ (qO z hz)) hd (by simp[execOp,ho,h1,h2])
 unfold ak0 at t
 split at t
 ·split at t
  ·rename_i hk
   have hk:=KU hk
   subst hk
   have ex:a.eval x=lq (.int _ _):=iy hx.rep
   have ey:a.eval y=lq (.int _ _):=iy hy.rep
   obtain⟨z,t,hz,hr⟩:=abt (T:=T) (w:=w) t
   exact fin z hz t (by rw[ex,ey];exact kQ op x y _ _ trivial trivial) (by rw[ex,ey];exact hr)
  ·have ex:a.eval x=lq (.int _ _):=iy hx.rep
   have ey:a.eval y=lq (.int _ _):=iy hy.rep
   obtain⟨z,t,hz,hr⟩:=JF (T:=T) (w:=w) t
   exact fin z hz t (by rw[ex,ey];exact kQ op x y _ _ trivial trivial) (by rw[ex,ey];exact hr)
 ·have ex:a.eval x=lq (.str _):=ou hx.rep
  have ey:a.eval y=lq (.str _):=ou hy.rep
  obtain⟨z,t,hz,hr⟩:=aau (T:=T) (w:=w) t
  exact fin z hz t (by rw[ex,ey];exact kQ op x y _ _ trivial trivial) (by rw[ex,ey];exact hr)
 ·have ex:a.eval x=lq (.bool _):=pR hx.rep
  have ey:a.eval y=lq (.bool _):=pR hy.rep
  split at t
  ·have hT:=‹P.underlying T=some .bool›
   refine fin (.bool _) trivial t (by rw[ex,ey];exact kQ _ x y _ _ trivial trivial) ?_
   rw[ex,ey]
   simp[lq,binOp,Op.equal,Op.maxDepth,run_equalIn_bool' w 9999 T _ _ hT]
  ·have hT:=‹P.underlying T=some .bool›
   refine fin (.bool _) trivial t (by rw[ex,ey];exact kQ _ x y _ _ trivial trivial) ?_
   rw[ex,ey]
   simp[lq,binOp,Op.equal,Op.maxDepth,run_equalIn_bool' w 9999 T _ _ hT]
  ·exact t.au.elim
 ·have ex:=hx.rep
  have ey:=hy.rep
  split at t
  ·obtain⟨b,t,hb⟩:=To.Q5 hE t ex ey hx.nm hy.nm
   simp only[aC]at ex ey
   obtain⟨us,ex,_⟩:=ex
   obtain⟨vs,ey,_⟩:=ey
   have hb:=hb 10000 (by decide)
   refine fin (.bool _) trivial t ?_ ?_
   ·rw[ex,ey];exact run_eqGuard_agg w _ T x y _ _ (hE.eq T ‹g_ T E=true›).2
   ·rw[ex,ey]at hb⊢
    rw[run_eql_struct,hb];rfl
  ·obtain⟨b,t,hb⟩:=To.Q5 hE t ex ey hx.nm hy.nm
   simp only[aC]at ex ey
   obtain⟨us,ex,_⟩:=ex
   obtain⟨vs,ey,_⟩:=ey
   have hb:=hb 10000 (by decide)
   refine fin (.bool _) trivial t ?_ ?_
   ·rw[ex,ey];exact run_eqGuard_agg w _ T x y _ _ (hE.eq T ‹g_ T E=true›).2
   ·rw[ex,ey]at hb⊢
    rw[run_neq_struct,hb];rfl
  ·exact t.au.elim
 ·exact t.au.elim
theorem Qr(hc:Conc G nt C I ρ F a w){o:Oper}{T f:Nat}{x:Operand}(ho:o.op= .fieldAddr T x f)(hd:dJ nt o.dst){u:bf}(t:To P G F (n_ P G E o.dst o.op) u)
 {F1:Fs} (hp:fH F u.pub F1):fJ P G nt C I ρ a w o (eG F1 u):=by
 rw[ho]at t
 obtain⟨sv,t,hv⟩:=To.bU hc t
 obtain⟨fs,fx,hT,hf,t⟩:=To.DR t
 have hrun: ∀b off,BH P fx.type=true->a.eval x= .pointer (some ⟨b,off,none⟩)->(execOp a.eval o).run P w= .ok (.value (.pointer (some ⟨b,off+fx.offset,none⟩))) w:=by
  intro b off hp h1
  unfold BH at hp
  split at hp
  ·rename_i i hi
   have hne:i.size≠0:=by intro e;rw[e]at hp;simp at hp
   have hf':fs[f]? =some fx:=hf
   simp[execOp,ho,h1,Instr.fieldAt,Instr.sureAddr,run_underlying hT,hf',fieldPlace,fG hi,hne,add_eq]
  ·simp at hp
 split at t
 ·have:=dA t;subst this
  cases hp
  have hx:=hv.rep
  simp only[aC]at hx
  refine bJ hc ⟨?_,fun m hm=>hv.nm m (by simpa[dO]using hm)⟩ hd (hrun _ _ ‹_› hx)
  simp only[aC]
 ·have:=dA t;subst this
  cases hp
  have hx:=hv.rep
  simp only[aC]at hx
  refine bJ hc ⟨?_,fun m hm=>hv.nm m (by simpa[dO]using hm)⟩ hd (hrun _ _ ‹_› hx.2)
  simp only[aC,Nat.add_assoc]
  exact⟨hx.1,trivial⟩
 ·have:=dA t;subst this
  cases hp
  have hx:=hv.rep
  simp only[aC]at hx
  obtain⟨b,off,hx,hI,hcell⟩:=hx
  refine bJ hc ⟨?_,by simp[dO]⟩ hd (hrun _ _ ‹_› hx)
  simp only[aC]
  refine⟨_,_,rfl,hI,fun j hj=> ?_⟩
  obtain⟨y,hy,hr⟩:=hcell (fx.offset+j) Om
  exact⟨y,by rw[Nat.add_assoc];exact hy,hr⟩
 ·exact t.au.elim
theorem adA(hc:Conc G nt C I ρ F a w){o:Oper}{T f:Nat}{x:Operand}(ho:o.op= .field T x f)(hd:dJ nt o.dst){u:bf}(t:To P G F (n_ P G E o.dst o.op) u)
 {F1:Fs} (hp:fH F u.pub F1):fJ P G nt C I ρ a w o (eG F1 u):=by
 rw[ho]at t
 obtain⟨sv,t,hv⟩:=To.bU hc t
 obtain⟨fs,fx,hT,hf,t⟩:=To.DR t
 split at t
 ·have hx:=hv.rep
  simp only[aC]at hx
  obtain⟨us,hx,h1,h1'⟩:=hx
  obtain⟨_,t⟩:=To.rJ t
  obtain⟨d,sv,v,hd',t,hv',hpv⟩:=To.uw (F:=F) t ⟨h1.drop fx.offset,fun x hx=>h1' x (List.mem_of_mem_drop hx)⟩
   (fun m hm=>hv.nm m (by simp only[dO];exact yZ (fun c hc=>List.mem_of_mem_drop hc) hm))
  have:=dA t;subst this
  cases hp
  have hf':fs[f]? =some fx:=hf
  exact bJ hc hv' hd (by simp[execOp,ho,hx,Instr.field,run_underlying hT,hf',asAgg,xB hd' hpv])
 ·exact t.au.elim
theorem W9(hc:Conc G nt C I ρ F a w){o:Oper}{i:Nat}{x:Operand}(ho:o.op= .extract x i)(hd:dJ nt o.dst){u:bf}(t:To P G F (n_ P G E o.dst o.op) u)
 {F1:Fs} (hp:fH F u.pub F1):fJ P G nt C I ρ a w o (eG F1 u):=by
 rw[ho]at t
 obtain⟨sv,t,hv⟩:=To.bU hc t
 split at t
 ·have hx:=hv.rep
  simp only[aC]at hx
  obtain⟨us,hx,h1⟩:=hx
  obtain⟨y,hy,t⟩:=To.Ky t
  obtain⟨v,h2,h3⟩:=h1.get hy
  have:=dA t;subst this
  cases hp
  have h2':(Array.mk us)[i]? =some v:=by simpa using h2
  exact bJ hc ⟨h3,fun m hm=>hv.nm m (by simp only[dO];exact jd.2 ⟨y,List.mem_of_getElem? hy,hm⟩)⟩ hd (by simp[execOp,ho,hx,Instr.extract,h2'])
 ·exact t.au.elim
theorem Np{T:Nat}(hT:P.underlying T=some .string)(l:List UInt8)(k:IntKind)(i:Int)(h:0<=i∧i<l.length):
 (Instr.index T (.string ⟨⟨l⟩⟩) (.int k i)).run P w= .ok (.int .u8 (l.getD i.toNat 0).toNat) w:=by
 have hlt:i.toNat<l.length:=Om
 have h1:(ByteArray.mk ⟨l⟩)[i.toNat]? =some (l.getD i.toNat 0):=by
  rw[getElem?_pos (ByteArray.mk ⟨l⟩) i.toNat (by show i.toNat<l.length;omega)]
  simp only[List.getD,List.getElem?_eq_getElem hlt,Option.getD_some]
  rfl
 simp[Instr.index,asIntOf,run_underlying hT,h.1,h1]
theorem adz(hc:Conc G nt C I ρ F a w){o:Oper}{T:Nat}{x y:Operand}(ho:o.op= .index T x y)(hd:dJ nt o.dst){u:bf}(t:To P G F (n_ P G E o.dst o.op) u)
 {F1:Fs} (hp:fH F u.pub F1):fJ P G nt C I ρ a w o (eG F1 u):=by
 rw[ho]at t
 obtain⟨sx,t,hx⟩:=To.bU hc t
 obtain⟨sy,t,hy⟩:=To.bU hc t
 split at t
 ·obtain⟨hi,t⟩:=t.dh
  have ex:=ou hx.rep
  have ey:=iy hy.rep
  have:=dA t;subst this
  cases hp
  have hT:=‹P.underlying T=some .string›
  refine bJ hc (pJ (qO (.int .u8 _) trivial)) hd ?_
  simp[execOp,ho,ex,ey,Np hT _ _ _ hi,lq]
 ·rename_i n e cs k0 i hT _
  obtain⟨ds,hcs,t1⟩:=To.lJ t
  subst hcs
  clear t
  split at t1
  ·rename_i hle
   have hle:n*P.cellsOf e<=ds.length:=Nat.le_of_ble_eq_true hle
   obtain⟨hi,t⟩:=t1.dh
   have ey:=iy hy.rep
   have hxr:=hx.rep
   simp only[aC]at hxr
   obtain⟨us,hxe,hr,_⟩:=hxr
   have hlen:=hr.length
   simp only[List.length_map]at hlen
   obtain⟨sv,v,d,t,hv,hd',hpv⟩:=To.WR (I:=I) (ρ:=ρ) (w:=w) (us:=us.drop (i.toNat*P.cellsOf e)) t (fun j hj=>by
    have hb:i.toNat*P.cellsOf e+j<ds.length:=by
     have h1:i.toNat<n:=(Int.toNat_lt hi.1).2 hi.2
     have h2:=Nat.mul_le_mul_right (P.cellsOf e) (Nat.succ_le_of_lt h1)
     rw[Nat.succ_mul]at h2
     omega
    obtain⟨x,h1,h2⟩:=hr.get (n:=i.toNat*P.cellsOf e+j) (x:= .d (ds.getD (i.toNat*P.cellsOf e+j) default)) (by simp[List.getD,hb])
    simp only[aC]at h2
    exact⟨x,by simpa using h1,h2⟩)
   have:=dA t;subst this
   cases hp
   obtain⟨ie,hie,hsz⟩:=Jr hd'
   refine bJ hc hv hd ?_
   have hp':=xB (w:=w) hd' hpv
   simp only[execOp,ho,hxe,ey,Instr.index,asIntOf,Sem.run_bind,Sem.run_pure,Result.andThen_ok,run_underlying hT,if_pos hi,fG hie,<-hsz]
   simp only[hp',Result.andThen_ok]
  ·exact t1.au.elim
 ·exact t.au.elim
theorem gY{T n:Nat}(h:jT P T n=true): ∃i,P.info? T=some i∧n=i.size:=by
 unfold jT at h
 split at h
 ·exact⟨_,As,Nat.eq_of_beq_eq_true h⟩
 ·simp at h
theorem run_indexAt_slice{T Et len cap b off:Nat}{i:Int}{k:IntKind}{ti:TypeInfo}(hT:P.underlying T=some (.slice Et))(hti:P.info? Et=some ti)(hi:0<=i∧i<len):
 (Instr.indexAt T (.slice (some ⟨b,off,none⟩) len cap) (.int k i)).run P w= .ok (.pointer (some ⟨b,off+i.toNat*ti.size,none⟩)) w:=by
 simp[Instr.indexAt,asIntOf,run_underlying hT,hi.1,hi.2,fG hti,add_eq]
theorem run_indexAt_array{T Et len b off:Nat}{i:Int}{k:IntKind}{ti:TypeInfo}(hT:P.underlying T=some (.array len Et))(hti:P.info? Et=some ti)(hi:0<=i∧i<len):
 (Instr.indexAt T (.pointer (some ⟨b,off,none⟩)) (.int k i)).run P w= .ok (.pointer (some ⟨b,off+i.toNat*ti.size,none⟩)) w:=by
 simp[Instr.indexAt,asIntOf,run_underlying hT,hi.1,hi.2,fG hti,add_eq,Instr.sureAddr]
theorem aes{T:Nat}{sx:SV}{i:Int}{k:IntKind}{r:SV->M bf}{u:bf}{x:Value}(h:To P G F (abx P T sx i r) u)(hx:Val G I ρ F w sx x):
 ∃sv v,To P G F (r sv) u∧Val G I ρ F w sv v∧(Instr.indexAt T x (.int k i)).run P w= .ok v w:=by
 unfold abx at h
 split at h
 ·rename_i Et hT
  split at h
  ·split at h
   ·rename_i hsz
    obtain⟨ti,hti,rfl⟩:=gY hsz
    obtain⟨hi,h⟩:=h.dh
    have hr:=hx.rep
    simp only[aC,bM]at hr
    obtain⟨ad,cap,rfl,_,hr⟩:=hr
    obtain⟨b,off,rfl,hI,hcell⟩:=hr Om
    refine⟨_,_,h,⟨?_,by simp[dO]⟩,run_indexAt_slice hT hti hi⟩
    simp only[aC]
    exact⟨_,_,rfl,hI,fun j hj=>hcell i.toNat j Om hj⟩
   ·exact h.au.elim
  ·split at h
   ·rename_i hsz
    obtain⟨ti,hti,rfl⟩:=gY hsz
    obtain⟨hi,h⟩:=h.dh
    have hr:=hx.rep
    simp only[aC]at hr
    obtain⟨h1,h2,h3,ad,rfl,h4⟩:=hr
    have h4:=h4.resolve_right Om
    subst h4
    refine⟨_,_,h,⟨?_,fun m hm=>hx.nm m (by simpa[dO]using hm)⟩,run_indexAt_slice hT hti hi⟩
    simp only[aC,Nat.add_mul,Nat.add_zero,Nat.add_assoc]
    exact⟨h1,trivial⟩
   ·exact h.au.elim
  ·exact h.au.elim
 ·rename_i len Et hT
  split at h
  ·rename_i hsz
   obtain⟨ti,hti,hsz⟩:=gY hsz
   split at h
   ·split at h
    ·rename_i hle
     have hle:=Nat.le_of_ble_eq_true hle
     obtain⟨hi,h⟩:=h.dh
     have hr:=hx.rep
     simp only[aC]at hr
     obtain⟨b,off,rfl,hI,hcell⟩:=hr
     refine⟨_,_,h,⟨?_,by simp[dO]⟩,run_indexAt_array hT hti hi⟩
     simp only[aC]
     refine⟨_,_,rfl,hI,fun j hj=> ?_⟩
     have hb:i.toNat*P.cellsOf Et+P.cellsOf Et<=len*P.cellsOf Et:=by rw[<-Nat.succ_mul];exact Nat.mul_le_mul_right _ Om
     obtain⟨y,hy,hr⟩:=hcell (i.toNat*P.cellsOf Et+j) Om
     exact⟨y,by rw[Nat.add_assoc,<-hsz];exact hy,hr⟩
    ·exact h.au.elim
   ·obtain⟨hi,h⟩:=h.dh
    have hr:=hx.rep
    simp only[aC]at hr
    subst hr
    refine⟨_,_,h,⟨?_,fun m hm=>hx.nm m (by simpa[dO]using hm)⟩,run_indexAt_array hT hti hi⟩
    simp only[aC,hsz]
   ·exact h.au.elim
  ·exact h.au.elim
 ·exact h.au.elim
theorem Qq(hc:Conc G nt C I ρ F a w){o:Oper}{T:Nat}{x y:Operand}(ho:o.op= .indexAddr T x y)(hd:dJ nt o.dst){u:bf}(t:To P G F (n_ P G E o.dst o.op) u)
 {F1:Fs} (hp:fH F u.pub F1):fJ P G nt C I ρ a w o (eG F1 u):=by
 rw[ho]at t
 have fin: ∀sx k i,a.eval y= .int k i->Val G I ρ F w sx (a.eval x)->To P G F (abx P T sx i (upd o.dst)) u->fJ P G nt C I ρ a w o (eG F1 u):=by
  intro sx k i ey hx t
  obtain⟨sv,v,t,hv,hr⟩:=aes (k:=k) t hx
  have:=dA t;subst this
  cases hp
  exact bJ hc hv hd (by simp[execOp,ho,ey,hr])
 have gen:To P G F (ev x fun v=>ev y fun
  | .d (.int _ i)=>abx P T v i (upd o.dst)
  |_=> .fail "indexAddr") u->fJ P G nt C I ρ a w o (eG F1 u):=by
  intro t
  obtain⟨sx,t,hx⟩:=To.bU hc t
  obtain⟨sy,t,hy⟩:=To.bU hc t
  split at t
  ·exact fin _ _ _ (iy hy.rep) hx t
  ·exact t.au.elim
 cases x with
 |global g=>
  obtain⟨sy,t,hy⟩:=To.bU hc t
  split at t
  ·split at t
   ·rename_i sz get hg
    refine fin _ _ _ (iy hy.rep) ⟨?_,by simp[dO]⟩ t
    simp only[aC,Act.eval]
    obtain⟨h1,h2⟩:=hc.glob g sz get hg
    exact⟨g,0,rfl,h1,fun j hj=>by simpa using h2 j hj⟩
   ·exact t.au.elim
  ·exact t.au.elim
 |tmp _=>exact gen t
 |const _=>exact gen t
 |func _=>exact gen t
end Go.Sx
namespace Go.Sx
open Go
variable {P:Program}{G:Nat->Option (Nat×(Nat->D))}{nt:Nat}{C:Ctx}{I:Nat->Prop}{ρ:Nat->Loc}{F:Fs}{a:Act}{w:World}{E:List Nat}{T:Nat}
theorem UW(off:Nat)(new:List Value): ∀(k:Nat)(cs:List Value),off+k+new.length<=cs.length->
 (new.zipIdx k).foldl (fun(cs:Array Value)(x:Value×Nat)=>cs.setIfInBounds (off+x.2) x.1) ⟨cs⟩=⟨cs.take (off+k)++new++cs.drop (off+k+new.length)⟩:=by
 induction new with
 |nil=>intro k cs _;simp
 |cons x new ih=>
  intro k cs h
  simp only[List.length_cons]at h
  simp only[List.zipIdx_cons,List.foldl_cons]
  have e:(Array.mk cs).setIfInBounds (off+k) x=⟨cs.set (off+k) x⟩:=by simp
  rw[e,ih (k+1) _ (by simp;omega)]
  congr 1
  have:=list_seg_step cs (off+k) x new Om
  simp only[Nat.add_assoc,Nat.add_comm 1,List.length_cons]at this⊢
  exact this
theorem wJ{place:Nat->Option (Nat×Nat)}{i off:Nat}{v:Value}{new cs:List Value}{rest:List (Nat×Value)}(hv:v.cells=⟨new⟩)(hp:place i=some (off,new.length))(hfit:off+new.length<=cs.length):
 Instr.fill place ⟨cs⟩ ((i,v)::rest)=Instr.fill place ⟨cs.take off++new++cs.drop (off+new.length)⟩ rest:=by
 have h:=UW off new 0 cs (by simpa using hfit)
 simp only[Nat.add_zero]at h
 have hz:(Array.mk new).zipIdx=⟨new.zipIdx⟩:=by simp
 simp only[Instr.fill,hp,hv]
 have hsz:(Array.mk new).size=new.length:=rfl
 have hsz2:(Array.mk cs).size=cs.length:=rfl
 simp only[hsz,hsz2,ne_eq,not_true_eq_false,decide_false,Bool.false_or,decide_eq_true_eq]
 rw[if_neg Om]
 congr 1
 rw[<-h,hz]
 rw[List.foldl_toArray']
 rfl
theorem KZ: ∀{fs:List Field},infos P fs=true->fs.mapM (fun f=>(P.info? f.type).map fun i=>(f.offset,i.size))=some (fs.map fun f=>(f.offset,P.cellsOf f.type))
 |[],_=>rfl
 |⟨name,t,off,e1,e2,e3,e4⟩::fs,h=>by
  simp only[infos]at h
  split at h
  ·rename_i hs
   obtain⟨i,hi,hsz⟩:=gY hs
   simp[List.mapM_cons,KZ h,hi,hsz]
  ·cases h
inductive D9 (I:Nat->Prop) (ρ:Nat->Loc) (F:Fs) (w:World):List (Nat×List SV)->List (Nat×Value)->Prop where
 |nil:D9 I ρ F w [] []
 |cons {i:Nat} {cs:List SV} {v:Value} {us:List Value} {ps:List (Nat×List SV)} {vs:List (Nat×Value)} (h:v.cells=⟨us⟩) (hc:Cells I ρ w cs us) (hn: ∀n,jW n cs->F.nm n)
   (r:D9 I ρ F w ps vs):D9 I ρ F w ((i,cs)::ps) ((i,v)::vs)
theorem To.BI(hc:Conc G nt C I ρ F a w){u:bf}: ∀{xs:List (Nat×Operand)}{k:List (Nat×List SV)->M bf},To P G F (DC Ko xs k) u->
 ∃ps,To P G F (k ps) u∧D9 I ρ F w ps (xs.map fun p=>(p.1,a.eval p.2))
 |[],k,h=>⟨[],h,.nil⟩
 |(i,x)::xs,k,h=>by
  simp only[DC,Ko]at h
  obtain⟨sv,h,hv⟩:=To.bU hc h
  obtain⟨cs,us,h,h1,h2,h3⟩:=To.nC h hv.rep
  obtain⟨ps,h,h4⟩:=To.BI hc (xs:=xs) h
  exact⟨(i,cs)::ps,h,.cons h2 h1 (fun n hn=>hv.nm n (h3 n hn)) h4⟩
theorem Cells.splice{cs new:List SV}{us vs:List Value}{off:Nat}(h:Cells I ρ w cs us)(h':Cells I ρ w new vs):
 Cells I ρ w (cs.take off++new++cs.drop (off+new.length)) (us.take off++vs++us.drop (off+vs.length)):=by
 have hl:=h'.1.length
 constructor
 ·rw[<-hl]
  exact((h.1.take off).append h'.1).append (h.1.drop _)
 ·intro z hz
  simp only[List.mem_append]at hz
  rcases hz with(hz|hz)|hz
  ·exact h.2 z (List.mem_of_mem_take hz)
  ·exact h'.2 z hz
  ·exact h.2 z (List.mem_of_mem_drop hz)
theorem To.Yn{fs:List Field}{u:bf}{ps:List (Nat×List SV)}{vs:List (Nat×Value)}(hp:D9 I ρ F w ps vs):
 ∀{cs:List SV}{us:List Value}{k:List SV->M bf},To P G F (Rq P fs ps cs k) u->Cells I ρ w cs us->(∀n,jW n cs->F.nm n)->
 ∃ds ws,To P G F (k ds) u∧Cells I ρ w ds ws∧(∀n,jW n ds->F.nm n)∧
  Instr.fill ((fs.map fun f=>(f.offset,P.cellsOf f.type)).toArray[·]?) ⟨us⟩ vs=some ⟨ws⟩:=by
 induction hp with
 |nil=>intro cs us k h hc hn;exact⟨cs,us,h,hc,hn,by simp[Instr.fill]⟩
 |cons h1 h2 h3 _ ih=>
  intro cs us k h hc hn
  simp only[Rq]at h
  obtain⟨f,hf,h⟩:=To.Kz h
  split at h
  ·rename_i hs
   obtain⟨ti,hti,hsz⟩:=gY hs
   obtain⟨hfit,h⟩:=To.vZ h
   have hl:=h2.1.length
   have hl':=hc.1.length
   obtain⟨ds,ws,h,h4,h5,h6⟩:=ih h (hc.splice h2) (fun n hn'=>(DJ hn').elim (hn n) (h3 n))
   refine⟨ds,ws,h,h4,h5,?_⟩
   rw[wJ h1 (off:=f.offset) ?_ Om]
   ·exact h6
   ·have:P.cellsOf f.type=ti.size:=by simp[Program.cellsOf,hti]
    simp[List.getElem?_map,hf,this]
    omega
  ·exact h.au.elim
theorem To.II{sz:Nat}{u:bf}{ps:List (Nat×List SV)}{vs:List (Nat×Value)}(hp:D9 I ρ F w ps vs):
 ∀{cs:List SV}{us:List Value}{k:List SV->M bf},To P G F (FU sz ps cs k) u->Cells I ρ w cs us->(∀n,jW n cs->F.nm n)->
 ∃ds ws,To P G F (k ds) u∧Cells I ρ w ds ws∧(∀n,jW n ds->F.nm n)∧
  Instr.fill (fun i=>some (i*sz,sz)) ⟨us⟩ vs=some ⟨ws⟩:=by
 induction hp with
 |nil=>intro cs us k h hc hn;exact⟨cs,us,h,hc,hn,by simp[Instr.fill]⟩
 | @cons i _ _ _ _ _ h1 h2 h3 _ ih=>
   intro cs us k h hc hn
   simp only[FU]at h
   split at h
   ·rename_i hs
    have hs:=Nat.eq_of_beq_eq_true hs
    obtain⟨hfit,h⟩:=To.vZ h
    have hl:=h2.1.length
    have hl':=hc.1.length
    obtain⟨ds,ws,h,h4,h5,h6⟩:=ih h (hc.splice h2) (fun n hn'=>(DJ hn').elim (hn n) (h3 n))
    refine⟨ds,ws,h,h4,h5,?_⟩
    rw[wJ h1 (off:=i*sz) ?_ Om]
    ·exact h6
    ·simp;omega
   ·exact h.au.elim
theorem adD(hc:Conc G nt C I ρ F a w){o:Oper}{T:Nat}{parts:Array (Nat×Operand)}(ho:o.op= .build T parts)(hd:dJ nt o.dst){u:bf}(t:To P G F (n_ P G E o.dst o.op) u)
 {F1:Fs} (hp:fH F u.pub F1):fJ P G nt C I ρ a w o (eG F1 u):=by
 rw[ho]at t
 simp only[n_]at t
 split at t
 ·rename_i fs hT
  split at t
  ·rename_i hinf
   obtain⟨i,z,cs,us,hi,hz,hzc,_,t,h1,h2⟩:=To.qU (I:=I) (ρ:=ρ) (w:=w) t
   obtain⟨ps,t,h3⟩:=To.BI hc t
   obtain⟨ds,ws,t,h4,h5,h6⟩:=To.Yn h3 t h1 (fun n hn=>(h2 n hn).elim)
   have:=dA t;subst this
   cases hp
   have hb:P.built T (parts.map fun(i,x)=>(i,a.eval x)).toList=some ⟨ws⟩:=by
    unfold Program.built
    simp only[hi,hT,hz]
    have:=KZ hinf
    simp only[this,hzc]
    simpa using h6
   refine bJ hc (v:= .agg ⟨ws⟩) ⟨?_,fun m hm=>h5 m (by simpa[dO]using hm)⟩ hd ?_
   ·simp only[aC];exact⟨ws,rfl,h4.1,h4.2⟩
   ·simp only[execOp,ho,Sem.run_bind,run_build w T _ _ hb,Result.andThen_ok,Sem.run_pure]
  ·exact t.au.elim
 ·rename_i m e hT
  split at t
  ·rename_i hsz
   obtain⟨ie,hie,hse⟩:=gY hsz
   obtain⟨i,z,cs,us,hi,hz,hzc,_,t,h1,h2⟩:=To.qU (I:=I) (ρ:=ρ) (w:=w) t
   obtain⟨ps,t,h3⟩:=To.BI hc t
   obtain⟨ds,ws,t,h4,h5,h6⟩:=To.II h3 t h1 (fun n hn=>(h2 n hn).elim)
   have:=dA t;subst this
   cases hp
   have hb:P.built T (parts.map fun(i,x)=>(i,a.eval x)).toList=some ⟨ws⟩:=by
    unfold Program.built
    simp only[hi,hT,hz,hie,hzc,<-hse]
    simpa using h6
   refine bJ hc (v:= .agg ⟨ws⟩) ⟨?_,fun m hm=>h5 m (by simpa[dO]using hm)⟩ hd ?_
   ·simp only[aC];exact⟨ws,rfl,h4.1,h4.2⟩
   ·simp only[execOp,ho,Sem.run_bind,run_build w T _ _ hb,Result.andThen_ok,Sem.run_pure]
  ·exact t.au.elim
 ·exact t.au.elim
def vM(F:Fs)(ns:List Nat):Prop:= ∀n∈ns,∃E sz len get,F.o n=some (.row E sz len get)
def FZ(F:Fs)(ρ:Nat->Loc)(w:World)(cs ds:List SV)(ns:List Nat):Prop:=
 vM F ns∧(∀m,jW m ds->jW m cs)∧
 ∀(I':Nat->Prop)(us:List Value),(∀n∈ns,0<(ρ n).cap->I' (ρ n).b)->(∀n b,F.o n=some b->dX I' ρ w (ρ n) b)->aT I' ρ w cs us->aT I' ρ w ds us
theorem FZ.keep{c:SV}{cs ds:List SV}{ns:List Nat}(h:FZ F ρ w cs ds ns):FZ F ρ w (c::cs) (c::ds) ns:=by
 obtain⟨h1,h2,h3⟩:=h
 refine⟨h1,fun m hm=> ?_,fun I' us hI hB hr=> ?_⟩
 ·simp only[jW]at hm⊢
  exact Kt hm id (h2 m)
 ·simp only[aT]at hr⊢
  obtain⟨v,r,rfl,hv,hr⟩:=hr
  exact⟨v,r,rfl,hv,h3 I' r hI hB hr⟩
theorem FZ.bW{n s off len Et sz l:Nat}{get:Nat->Nat->D}{cs ds:List SV}{ns:List Nat}(hb:F.o n=some (.row Et sz l get))(h:FZ F ρ w cs ds ns):
 FZ F ρ w (.bW n s off len::cs) (.d (.list len sz fun i j=>get (off+i) j)::ds) (n::ns):=by
 obtain⟨h1,h2,h3⟩:=h
 refine⟨?_,fun m hm=> ?_,fun I' us hI hB hr=> ?_⟩
 ·intro m hm
  simp only[List.mem_cons]at hm
  rcases hm with rfl|hm
  ·exact⟨_,_,_,_,hb⟩
  ·exact h1 m hm
 ·simp only[jW]at hm⊢
  rcases hm with hm|hm
  ·simp[dO]at hm
  ·exact .inr (h2 m hm)
 ·simp only[aT]at hr⊢
  obtain⟨v,r,rfl,hv,hr⟩:=hr
  exact⟨v,r,rfl,by simp only[aC];exact BF (hI n (by simp)) (hB n _ hb) hv,h3 I' r (fun m hm=>hI m (by simp[hm])) hB hr⟩
theorem FZ.nil:FZ F ρ w [] [] []:=⟨by simp[vM],fun _ h=>h,fun _ _ _ _ h=>h⟩
theorem To.lV{u:bf}: ∀{cs:List SV}{k:List SV->List Nat->M bf},To P G F (nH cs k) u-> ∃ds ns,To P G F (k ds ns) u∧FZ F ρ w cs ds ns
 |[],k,h=>⟨[],[],h,.nil⟩
 |c::cs,k,h=>by
  cases c with
  |bW n s off len=>
   simp only[nH]at h
   obtain⟨b,hb,h⟩:=h.eP
   split at h
   ·obtain⟨ds,ns,h,h1⟩:=To.lV h
    exact⟨_,_,h,.bW hb h1⟩
   ·exact h.au.elim
  |_=>
   simp only[nH]at h
   obtain⟨ds,ns,h,h1⟩:=To.lV h
   exact⟨_,ns,h,h1.keep⟩
theorem To.nI{u:bf}: ∀{cs:List SV}{k:List SV->List Nat->M bf},To P G F (og cs k) u-> ∃ds ns,To P G F (k ds ns) u∧FZ F ρ w cs ds ns
 |[],k,h=>⟨[],[],h,.nil⟩
 |c::cs,k,h=>by
  cases c with
  |bW n s off len=>
   simp only[og]at h
   obtain⟨b,hb,h⟩:=h.eP
   split at h
   ·obtain⟨ds,ns,h,h1⟩:=To.nI h
    exact⟨_,_,h,.bW hb h1⟩
   ·exact h.au.elim
  |agg xs=>
   simp only[og]at h
   obtain⟨ys,ms,h,g1,g2,g3⟩:=To.lV (ρ:=ρ) (w:=w) h
   obtain⟨ds,ns,h,h1,h2,h3⟩:=To.nI h
   refine⟨_,_,h,?_,fun m hm=> ?_,fun I' us hI hB hr=> ?_⟩
   ·intro m hm
    simp only[List.mem_append]at hm
    exact hm.elim (g1 m) (h1 m)
   ·simp only[jW,dO]at hm⊢
    exact Kt hm (g2 m) (h2 m)
   ·simp only[aT,aC]at hr⊢
    obtain⟨v,r,rfl,⟨vs,rfl,hv,hv'⟩,hr⟩:=hr
    exact⟨_,r,rfl,⟨vs,rfl,g3 I' vs (fun m hm=>hI m (by simp[hm])) hB hv,hv'⟩,h3 I' r (fun m hm=>hI m (by simp[hm])) hB hr⟩
  |_=>
   simp only[og]at h
   obtain⟨ds,ns,h,h1⟩:=To.nI h
   exact⟨_,ns,h,h1.keep⟩
theorem OV{L:Loc}{n sz:Nat}{get:Nat->Nat->D}{b:bG}{k:Nat}:foot L (J8 n sz get b) k↔foot L b k:=by cases b<;>rfl
theorem fH.LJ{F':Fs}{ns:List Nat}(p:fH F ns F')(h:Conc G nt C I ρ F a w): ∃I',Conc G nt C I' ρ F' a w∧(∀b,I b->I' b)∧
 (∀n∈ns,(∃E sz len get,F.o n=some (.row E sz len get))->0<(ρ n).cap->I' (ρ n).b)∧(∀n,F'.nm n↔F.nm n)∧(∀n∈ns,∀b k,F.o n=some b->foot (ρ n) b k->I' k):=by
 have key: ∃I',Conc G nt C I' ρ F' a w∧(∀b,I b->I' b)∧(∀n,F'.nm n↔F.nm n)∧(∀n∈ns,∀b k,F.o n=some b->foot (ρ n) b k->I' k):=by
  induction p generalizing I with
  |nil=>exact⟨I,h,fun _ h=>h,fun _=>Iff.rfl,by simp⟩
  | @row F F' n Et sz len get ns hn h0 t ih=>
    obtain⟨I',h1,h2,h4,h5⟩:=ih (h.pub hn h0)
    refine⟨I',h1,fun b hb=>h2 b (.inl hb),fun m=>(h4 m).trans Iff.rfl,?_⟩
    intro m hm b k hb hk
    by_cases e:m=n
    ·subst e
     rw[hn]at hb;cases hb
     exact h2 _ (.inr hk)
    ·have:m∈ns:=by simpa[e]using hm
     exact h5 m this (J8 n sz get b) k (by simp[xH,e,hb]) (OV.2 hk)
  | @nest F F' n fn Et sz len nk get rows ns hn hf hok h0 hf0 t ih=>
    obtain⟨I',h1,h2,h4,h5⟩:=ih (h.aj6 hn hf hok h0 hf0)
    refine⟨I',h1,fun b hb=>h2 b (.inl hb),fun m=>(h4 m).trans Iff.rfl,?_⟩
    intro m hm b k hb hk
    by_cases e:m=n
    ·subst e
     rw[hn]at hb;cases hb
     exact h2 _ (.inr (.inl hk))
    ·by_cases e':m=fn
     ·subst e'
      rw[hf]at hb;cases hb
      exact h2 _ (.inr (.inr hk))
     ·have:m∈ns:=by simpa[e]using hm
      exact h5 m this (J8 n sz (fun i j=>Lh rows (get i j)) b) k (by simp[jK,xH,e,e',hb]) (OV.2 hk)
  |none hn t ih=>
   obtain⟨I',h1,h2,h4,h5⟩:=ih h
   refine⟨I',h1,h2,h4,?_⟩
   intro m hm b k hb hk
   simp only[List.mem_cons]at hm
   rcases hm with rfl|hm
   ·rw[hn]at hb;cases hb
   ·exact h5 m hm b k hb hk
 obtain⟨I',h1,h2,h4,h5⟩:=key
 refine⟨I',h1,h2,?_,h4,h5⟩
 rintro n hn ⟨E,sz,len,get,hb⟩ hc
 exact h5 n hn _ _ hb ⟨hc,rfl⟩
theorem fH.stays{F':Fs}{ns:List Nat}(p:fH F ns F'): ∀{n E sz len:Nat}{get:Nat->Nat->D},n ∉ ns->F.o n=some (.row E sz len get)->F'.o n=some (.row E sz len get):=by
 induction p with
 |nil=>intro n E sz len get _ h;exact h
 | @row F F' m Et sz' len' get' ns hm h0 t ih=>
   intro n E sz len get hn h
   simp only[List.mem_cons,not_or]at hn
   refine ih hn.2 ?_
   simp only[xH,if_neg hn.1,h,Option.map_some,J8]
 | @nest F F' m fn Et sz' len' yw get' rows' ns hm hf hok h0 hf0 t ih=>
   intro n E sz len get hn h
   simp only[List.mem_cons,not_or]at hn
   have hne:n≠fn:=fun e=>by subst e;rw[h]at hf;cases hf
   refine ih hn.2 ?_
   simp only[jK,if_neg hne,xH,if_neg hn.1,h,Option.map_some,J8]
 |none _ _ ih=>
  intro n E sz len get hn h
  simp only[List.mem_cons,not_or]at hn
  exact ih hn.2 h
end Go.Sx
namespace Go.Sx
open Go
variable {P:Program}{G:Nat->Option (Nat×(Nat->D))}{nt:Nat}{C:Ctx}{I:Nat->Prop}{ρ:Nat->Loc}{F:Fs}{a:Act}{w:World}{E:List Nat}{T:Nat}
theorem Zb{n:Nat}: ∀{l:List Nat},g_ n l=true↔n∈l
 |[]=>by simp[g_]
 |m::l=>by
  simp only[g_]
  split
  ·rename_i e;simp[Nat.eq_of_beq_eq_true e]
  ·rename_i e
   have:n≠m:=fun e'=>by subst e';rw[Nat.beq_refl]at e;cases e
   simp[this,Zb (l:=l)]
theorem abI{n:Nat}{blk:bG}{dst:Option Nat}{sv:SV}{ns:List Nat}:eG F {dst,v:=sv,own:=[(n,blk)],del:=[],new:=[],pub:=ns}=oH (fE F n blk) dst sv:=rfl
theorem adu(hc:Conc G nt C I ρ F a w){o:Oper}{T:Nat}{x y:Operand}(ho:o.op= .store T x y)(hd:dJ nt o.dst){u:bf}(t:To P G F (n_ P G E o.dst o.op) u)
 {F1:Fs} (hp:fH F u.pub F1):fJ P G nt C I ρ a w o (eG F1 u):=by
 rw[ho]at t
 obtain⟨sv,t,hv⟩:=To.bU hc t
 have hrun: ∀ad w',a.eval x= .pointer (some ad)->(storeVar T ad (a.eval y)).run P w= .ok () w'->(execOp a.eval o).run P w= .ok .skip w':=by
  intro ad w' h1 h2
  simp[execOp,ho,h1,Instr.storeAt,Instr.sureAddr,h2]
 have hT: ∀n,jT P T n=true-> ∃i,P.info? T=some i∧n=i.size:=by
  intro n hn
  unfold jT at hn
  split at hn
  ·exact⟨_,As,Nat.eq_of_beq_eq_true hn⟩
  ·simp at hn
 split at t
 ·rename_i n off
  have hx:a.eval x= .pointer (some ⟨(ρ n).b,off,none⟩):=by simpa only[aC]using hv.rep
  obtain⟨sv2,t,hv2⟩:=To.bU hc t
  obtain⟨new,xw,t,h1,h2,h3⟩:=To.nC t hv2.rep
  split at t
  ·rename_i hle
   obtain⟨i,hi,hsz⟩:=hT _ hle
   obtain⟨b,hb,t⟩:=t.eP
   split at t
   ·rename_i cs
    obtain⟨h4,t⟩:=To.vZ t
    have:=t.dV;subst this
    cases hp
    rw[xW]
    obtain⟨us,Eb,h5,h6⟩:=hc.own n _ hb
    have hl2:=h1.1.length
    have hl6:=h6.1.length
    intro next Q hn
    have hst:=rQ (P:=P) hi (.of h5) (off:=off) h2 Om Om h1.2
    refine xq (hrun _ _ hx hst) (hn I ρ _ _ (Conc.put (v:=undef) ?_ hd (by simp[aC]) (by simp[dO])))
    refine hc.zY (blk:= .box (cs.take off++new++cs.drop (off+new.length))) (cs:=(us.take off++xw++us.drop (off+xw.length)).toArray) hb trivial (fun _ h=>h) (fun h=>h) ⟨_,Eb,setRow_heap w _ _ _ Eb _ h5,?_,?_⟩ ?_
    ·refine aT.mono (fun _ h=>h) (jZ (hc.sep n _ hb trivial).1) (fun _ _=>rfl) ?_
     rw[<-hl2]
     exact(((h6.1.take off).append h1.1).append (h6.1.drop _))
    ·intro z hz
     simp only[List.mem_append]at hz
     rcases hz with(hz|hz)|hz
     ·exact h6.2 z (List.mem_of_mem_take hz)
     ·exact h1.2 z hz
     ·exact h6.2 z (List.mem_of_mem_drop hz)
    ·intro m hm
     rcases DJ hm with hm|hm
     ·exact hc.fA n _ m hb hm
     ·exact hv2.nm m (h3 m hm)
   ·exact t.au.elim
  ·exact t.au.elim
 ·rename_i n sz i off
  have hx:=hv.rep
  simp only[aC]at hx
  obtain⟨hxs,hx⟩:=hx
  obtain⟨sv2,t,hv2⟩:=To.bU hc t
  obtain⟨new,xw,t,h1,h2,h3⟩:=To.nC t hv2.rep
  obtain⟨new',ns,t0,hL1,hL2,hL3⟩:=To.lV (ρ:=ρ) (w:=w) t
  clear t
  obtain⟨ds,e,t1⟩:=To.lJ t0
  subst e
  clear t0
  have t:=t1
  clear t1
  split at t
  ·rename_i hle hnn
   obtain⟨ti,hi,hsz⟩:=hT _ hle
   obtain⟨b,hb,t⟩:=t.eP
   split at t
   ·rename_i E sz' len get
    split at t
    ·rename_i hfit
     have hfit:off+ds.length<=sz':=Nat.le_of_ble_eq_true hfit
     obtain⟨hil,t⟩:=t.dh
     have:=t.dV;subst this
     obtain⟨I1,hc1,hI,GU,_,_⟩:=hp.LJ hc
     have hB: ∀n b,F.o n=some b->dX I1 ρ w (ρ n) b:=fun n b hb=>(hc.own n b hb).mono hI (fun _ _ _=>rfl) (fun _ _=>rfl) (fun _ _=>rfl)
     have h1:Cells I1 ρ w (ds.map .d) xw:=⟨hL3 I1 xw (fun m hm hcap=>GU m hm (hL1 m hm) hcap) hB (h1.1.mono hI (fun _ _ _=>rfl) (fun _ _=>rfl)),h1.2⟩
     have hb:=hp.stays (fun hm=>by rw[Zb.2 hm]at hnn;cases hnn) hb
     clear hc hB
     have hc:=hc1
     clear hc1
     rw[abI]
     obtain⟨h4,h5,h6,h7⟩:=hc.own n _ hb
     have hcap:0<(ρ n).cap:=Om
     obtain⟨arr,h8,h9,h10⟩:=h7 hcap
     have hl2:=h1.1.length
     simp only[List.length_map]at hl2
     have hszz:sz'=sz:=by rw[<-h5,hxs]
     subst hszz
     have hbig:(ρ n).o+(i*sz'+(off+ds.length))<=arr.size:=by
      have h11:i*sz'+sz'<=(ρ n).cap*sz':=by rw[<-Nat.succ_mul];exact Nat.mul_le_mul_right _ Om
      omega
     obtain⟨al⟩:=arr
     intro next Q hn
     have hst:=rQ (P:=P) hi h8 (off:=(ρ n).o+(i*sz'+off)) h2 Om (by simp at hbig⊢;omega) h1.2
     refine xq (hrun _ _ hx hst) (hn I1 ρ _ _ (Conc.put (v:=undef) ?_ hd (by simp[aC]) (by simp[dO])))
     refine hc.zY (blk:= .row E sz' len fun i' j'=>if i'=i then(if j'<off then get i' j' else if j'<off+ds.length then ds.getD (j'-off) default else get i' j')else get i' j')
      (cs:=(al.take ((ρ n).o+(i*sz'+off))++xw++al.drop ((ρ n).o+(i*sz'+off)+xw.length)).toArray) hb hcap (fun _ h=>h) (fun h=>h) ⟨h4,h5,h6,fun _=>⟨_,h8.set (by simp at hbig⊢;omega),?_,?_⟩⟩ (by simp[inB])
     ·simp at h9 hbig⊢;omega
     ·intro i' j' hi' hj'
      have hmono: ∀{x:D}{v:Value},bM I1 w x v->bM I1 (w.setRow (ρ n).b (al.take ((ρ n).o+(i*sz'+off))++xw++al.drop ((ρ n).o+(i*sz'+off)+xw.length)).toArray) x v:=
       fun h=>h.mono (fun _ h=>h) (jZ (hc.sep n _ hb hcap).1)
      obtain⟨y,hy,hr⟩:=h10 i' j' hi' hj'
      simp only[List.getElem?_toArray]at hy⊢
      simp at h9 hbig
      have hlow:(al.take ((ρ n).o+(i*sz'+off))).length=(ρ n).o+(i*sz'+off):=by simp;omega
      by_cases hii:i'=i
      ·subst hii
       simp only[if_true]
       by_cases hj1:j'<off
       ·simp only[hj1,if_true]
        refine⟨y,?_,hmono hr⟩
        rw[List.append_assoc,List.getElem?_append_left Om,List.getElem?_take,if_pos Om]
        exact hy
       ·simp only[hj1,if_false]
        by_cases hj2:j'<off+ds.length
        ·simp only[hj2,if_true]
         obtain⟨z,hz,hrz⟩:=h1.1.data (j'-off) Om
         refine⟨z,?_,hmono hrz⟩
         rw[List.append_assoc,List.getElem?_append_right Om,List.getElem?_append_left Om,hlow]
         rw[show(ρ n).o+(i'*sz'+j')-((ρ n).o+(i'*sz'+off))=j'-off by omega]
         exact hz
        ·simp only[hj2,if_false]
         refine⟨y,?_,hmono hr⟩
         rw[List.append_assoc,List.getElem?_append_right Om,List.getElem?_append_right Om,List.getElem?_drop,hlow]
         rw[show(ρ n).o+(i'*sz'+off)+xw.length+((ρ n).o+(i'*sz'+j')-((ρ n).o+(i'*sz'+off))-xw.length)=(ρ n).o+(i'*sz'+j')by omega]
         exact hy
      ·simp only[hii,if_false]
       refine⟨y,?_,hmono hr⟩
       by_cases hlt:i'<i
       ·have:i'*sz'+sz'<=i*sz':=by rw[<-Nat.succ_mul];exact Nat.mul_le_mul_right _ Om
        rw[List.append_assoc,List.getElem?_append_left Om,List.getElem?_take,if_pos Om]
        exact hy
       ·have:i*sz'+sz'<=i'*sz':=by rw[<-Nat.succ_mul];exact Nat.mul_le_mul_right _ Om
        rw[List.append_assoc,List.getElem?_append_right Om,List.getElem?_append_right Om,List.getElem?_drop,hlow]
        rw[show(ρ n).o+(i*sz'+off)+xw.length+((ρ n).o+(i'*sz'+j')-((ρ n).o+(i*sz'+off))-xw.length)=(ρ n).o+(i'*sz'+j')by omega]
        exact hy
    ·exact t.au.elim
   ·exact t.au.elim
  ·exact t.au.elim
 ·exact t.au.elim
def Py(I:Nat->Prop)(w:World)(len sz:Nat)(us:List Value)(g:Nat->Nat->D):Prop:=
 us.length=len*sz∧∀i j,i<len->j<sz-> ∃u,us[i*sz+j]? =some u∧bM I w (g i j) u
theorem Py.splice{len sz n:Nat}{us new:List Value}{g:Nat->Nat->D}(h:Py I w len sz us g)(hn:n<len)(hl:new.length=sz){ds:List D}(hds:ds.length=sz)
 (hnew: ∀j,j<sz-> ∃u,new[j]? =some u∧bM I w (ds.getD j default) u):
 Py I w len sz (us.take (n*sz)++new++us.drop (n*sz+new.length)) (fun i j=>if i=n then ds.getD j default else g i j):=by
 obtain⟨h1,h2⟩:=h
 have hb:n*sz+sz<=len*sz:=by rw[<-Nat.succ_mul];exact Nat.mul_le_mul_right _ Om
 have hlow:(us.take (n*sz)).length=n*sz:=by simp;omega
 refine⟨by simp;omega,fun i j hi hj=> ?_⟩
 by_cases e:i=n
 ·subst e
  obtain⟨u,hu,hr⟩:=hnew j hj
  refine⟨u,?_,by simpa using hr⟩
  rw[List.append_assoc,List.getElem?_append_right Om,List.getElem?_append_left Om,hlow,show i*sz+j-i*sz=j by omega]
  exact hu
 ·obtain⟨u,hu,hr⟩:=h2 i j hi hj
  refine⟨u,?_,by simpa[e]using hr⟩
  by_cases hlt:i<n
  ·have:i*sz+sz<=n*sz:=by rw[<-Nat.succ_mul];exact Nat.mul_le_mul_right _ Om
   rw[List.append_assoc,List.getElem?_append_left Om,List.getElem?_take,if_pos Om]
   exact hu
  ·have:n*sz+sz<=i*sz:=by rw[<-Nat.succ_mul];exact Nat.mul_le_mul_right _ Om
   rw[List.append_assoc,List.getElem?_append_right Om,List.getElem?_append_right Om,List.getElem?_drop,hlow]
   rw[show n*sz+new.length+(i*sz+j-n*sz-new.length)=i*sz+j by omega]
   exact hu
theorem yK{len sz:Nat}{us:List Value}{ds:List D}(hsz:0<sz)(hl:us.length=sz)(h: ∀j,j<sz-> ∃u,us[j]? =some u∧bM I w (ds.getD j default) u):
 Py I w len sz ((Array.range (len*sz)).map ((Array.mk us)[· % (Array.mk us).size]!)).toList (fun _ j=>ds.getD j default):=by
 refine⟨by simp,fun i j hi hj=> ?_⟩
 have hb:i*sz+sz<=len*sz:=by rw[<-Nat.succ_mul];exact Nat.mul_le_mul_right _ Om
 obtain⟨u,hu,hr⟩:=h j hj
 refine⟨u,?_,hr⟩
 have hm:(i*sz+j) % sz=j:=by rw[Nat.mul_comm,Nat.mul_add_mod,Nat.mod_eq_of_lt hj]
 have hs:(Array.mk us).size=sz:=hl
 simp only[Array.toList_map,List.getElem?_map,Array.toList_range]
 rw[List.getElem?_range Om]
 simp only[Option.map_some,hs,hm]
 have:(Array.mk us)[j]? =some u:=by simpa using hu
 simp[getElem!_def,this]
theorem To.JE{sz:Nat}{u:bf}{ps:List (Nat×List SV)}{vs:List (Nat×Value)}(hp:D9 I ρ F w ps vs):
 ∀{k:List (Nat×List D)->List Nat->M bf},To P G F (yI sz ps k) u-> ∃ds ns,To P G F (k ds ns) u∧vM F ns∧
  ∀(I':Nat->Prop),(∀b,I b->I' b)->(∀n∈ns,0<(ρ n).cap->I' (ρ n).b)->(∀n b,F.o n=some b->dX I' ρ w (ρ n) b)->
  ∀(len:Nat)(us:List Value)(g:Nat->Nat->D),(∀p∈vs,p.1<len)->Py I' w len sz us g->
   ∃ws,Instr.fill (fun i=>some (i*sz,sz)) ⟨us⟩ vs=some ⟨ws⟩∧Py I' w len sz ws (PZ g ds):=by
 induction hp with
 |nil=>intro k h;exact⟨[],[],h,by simp[vM],fun I' _ _ _ len us g _ hr=>⟨us,by simp[Instr.fill],hr⟩⟩
 | @cons i cs v us0 ps vs h1 h2 h3 _ ih=>
   intro k h
   simp only[yI]at h
   obtain⟨cs',ms,h,g1,g2,g3⟩:=To.lV (ρ:=ρ) (w:=w) h
   obtain⟨ds,e,h'⟩:=To.lJ h
   subst e
   clear h
   have h:=h'
   clear h'
   split at h
   ·rename_i hl
    have hl:=Nat.eq_of_beq_eq_true hl
    obtain⟨ds',ns,h,h4,h5⟩:=ih h
    refine⟨(i,ds)::ds',ms++ns,h,?_,?_⟩
    ·intro m hm
     simp only[List.mem_append]at hm
     exact hm.elim (g1 m) (h4 m)
    ·intro I' hI hc hB len us g hin hr
     have hcs:aT I' ρ w (ds.map .d) us0:=g3 I' us0 (fun n hn=>hc n (by simp[hn])) hB (h2.1.mono hI (fun _ _ _=>rfl) (fun _ _=>rfl))
     have hlen:=hcs.length
     simp only[List.length_map]at hlen
     have hi:i<len:=hin (i,v) (by simp)
     have hstep:=hr.splice (n:=i) hi (new:=us0) Om (ds:=ds) hl (fun j hj=>hcs.data j Om)
     obtain⟨ws,h6,h7⟩:=h5 I' hI (fun n hn=>hc n (by simp[hn])) hB len _ _ (fun p hp=>hin p (by simp[hp])) hstep
     refine⟨ws,?_,h7⟩
     have hb:i*sz+sz<=len*sz:=by rw[<-Nat.succ_mul];exact Nat.mul_le_mul_right _ Om
     rw[wJ h1 (off:=i*sz) (by simp;omega) (by have:=hr.1;omega)]
     exact h6
   ·exact h.au.elim
theorem Ih{len:Nat}: ∀{ps:List (Nat×Operand)},Je len ps=true-> ∀p∈ps,p.1<len
 |[],_=>by simp
 |(i,x)::ps,h=>by
  simp only[Je]at h
  split at h
  ·rename_i hi
   have hi:i<len:=Nat.le_of_ble_eq_true hi
   intro p hp
   simp only[List.mem_cons]at hp
   rcases hp with rfl|hp
   ·exact hi
   ·exact Ih h p hp
  ·cases h
theorem Conc.ab4(hc:Conc G nt C I ρ F a w)(o:Obj):Conc G nt C I ρ F a (w.alloc o):=
 hc.world (fun _ h=>h) (hc.iw o) (fun _ _ _ hm hl=>rW w o (hc.kL hm hl)) (fun _ _ _ hm hl=>(hc.jA _ _ _ hm hl).1)
   (fun b hb=>by have:=hc.nT b hb;simp;omega) hc.i1 (hc.keep.trans (DI (fun _=>False) w o) (fun _ h=>h.elim))
theorem Conc.afu(hc:Conc G nt C I ρ F a w)(o:Obj):Conc G nt C (fun b=>I b∨b=w.heap.size) ρ F a (w.alloc o):=
 (hc.ab4 o).world (fun _ h=> .inl h) (fun _ _ _=>rfl) (fun _ _ _ _ _=>rfl)
   (fun m b k hm hl=>by
     rintro(h|h)
     ·exact(hc.jA m b k hm hl).1 h
     ·have:=hc.kL hm hl;omega)
   (fun b hb=>by
     rcases hb with hb|rfl
     ·have:=hc.nT b hb;simp;omega
     ·simp)
   (fun b hb=>by
     rcases hb with hb|rfl
     ·exact hc.i1 b hb
     ·exact .inr (.inl hc.keep.size))
   (hc.keep.trans (DI (fun _=>False) w o) (fun _ h=>h.elim))
theorem rU{d sz len cap:Nat}(hl:len<=cap){w':World}:aC I (dU ρ d (Oz w.heap.size cap len sz 0)) w' (.bW d sz 0 len) (.slice (some ⟨w.heap.size,0,none⟩) len cap):=by
 simp only[aC,dU,if_true]
 exact⟨trivial,Om,hl,_,rfl,.inl (by simp)⟩
theorem To.Tv{u:bf}{z:List SV}: ∀{n:Nat}{k:List SV->M bf},To P G F (aiz z n k) u->To P G F (k ((List.replicate n z).flatten)) u
 |0,_,h=>h
 |n+1,k,h=>by
  have:=To.Tv (n:=n) h
  simpa[List.replicate_succ]using this
theorem Cells.rep{cs:List SV}{us:List Value}(h:Cells I ρ w cs us): ∀n:Nat,Cells I ρ w ((List.replicate n cs).flatten) ((List.replicate n us).flatten)
 |0=>⟨by simp[aT],by simp⟩
 |n+1=>by
  obtain⟨h1,h2⟩:=Cells.rep h n
  simp only[List.replicate_succ,List.flatten_cons]
  refine⟨h.1.append h1,fun u hu=> ?_⟩
  rcases List.mem_append.1 hu with hu|hu
  ·exact h.2 u hu
  ·exact h2 u hu
theorem Tq{us:List Value}{sz:Nat}(hl:us.length=sz)(hsz:0<sz): ∀n:Nat,((Array.range (n*sz)).map ((Array.mk us)[· % (Array.mk us).size]!)).toList=(List.replicate n us).flatten:=by
 intro n
 have hs:(Array.mk us).size=sz:=hl
 apply List.ext_getElem?
 intro k
 simp only[Array.toList_map,List.getElem?_map,Array.toList_range,hs]
 by_cases hk:k<n*sz
 ·rw[List.getElem?_range hk]
  simp only[Option.map_some]
  have hm:k % sz<sz:=Nat.mod_lt _ hsz
  have h1:((List.replicate n us).flatten)[k]? =us[k % sz]? :=by
   clear hm
   induction n generalizing k with
   |zero=>simp at hk
   |succ n ih=>
    simp only[List.replicate_succ,List.flatten_cons]
    by_cases hlt:k<sz
    ·rw[List.getElem?_append_left Om,Nat.mod_eq_of_lt hlt]
    ·rw[List.getElem?_append_right Om,hl,ih (k-sz) (by rw[Nat.succ_mul]at hk;omega),<-Nat.mod_eq_sub_mod Om]
  rw[h1]
  have hlt:k % sz<us.length:=Om
  simp[getElem!_def,hlt]
 ·rw[List.getElem?_eq_none (by simp;omega)]
  have hlen:((List.replicate n us).flatten).length=n*sz:=by simp[hl]
  rw[List.getElem?_eq_none Om]
  rfl
theorem zD{T len Et:Nat}{i:TypeInfo}{z:Value}{us ws:List Value}{parts:Array (Nat×Operand)}{o:Oper}(ho:o.op= .buildSlice T len parts)(hT:P.underlying T=some (.slice Et))(hi:P.info? Et=some i)(hz:i.zero=some z)(hzc:z.cells=⟨us⟩)
 (ag4:len*i.size<=16777216)
 (h6:Instr.fill (fun j=>some (j*i.size,i.size)) ((Array.range (len*i.size)).map ((Array.mk us)[· % (Array.mk us).size]!)) (parts.toList.map fun p=>(p.1,a.eval p.2))=some ⟨ws⟩):
 (execOp a.eval o).run P w= .ok (.value (.slice (some ⟨w.heap.size,0,none⟩) len len)) (w.alloc (.cells ⟨ws⟩ Et)):=by
 have h24: ¬(len*i.size>2^24):=Om
 by_cases hl0:len*i.size=0
 ·have h6':Instr.fill (fun j=>some (j*i.size,i.size)) ((Array.range (len*i.size)).map ((#[]:Array Value)[· % (#[]:Array Value).size]!)) (parts.map fun(i,x)=>(i,a.eval x)).toList=some ⟨ws⟩:=by
   rw[Array.toList_map]
   have e: ∀f:Nat->Value,(Array.range (len*i.size)).map f= #[]:=by intro f;rw[hl0];simp
   rw[e]
   rw[e]at h6
   exact h6
  simp only[execOp,ho,Instr.buildSlice,Sem.run_bind,run_underlying hT,Result.andThen_ok,fG hi,Sem.run_ite,if_false,Sem.run_pure,hl0,if_true]
  rw[hl0]at h6'
  simp only[h6',Sem.run_bind,newRow,run_newObj,Sem.run_pure,Result.andThen_ok,World.alloc_eq]
  simp
 ·have h6':Instr.fill (fun j=>some (j*i.size,i.size)) ((Array.range (len*i.size)).map ((Array.mk us)[· % (Array.mk us).size]!)) (parts.map fun(i,x)=>(i,a.eval x)).toList=some ⟨ws⟩:=by
   rw[Array.toList_map]
   exact h6
  simp only[execOp,ho,Instr.buildSlice,Sem.run_bind,run_underlying hT,Result.andThen_ok,fG hi,Sem.run_ite,h24,if_false,Sem.run_pure,hl0,kP hi hz,hzc,h6',newRow,run_newObj,World.alloc_eq]
theorem CX(hc:Conc G nt C I ρ F a w){o:Oper}{T len:Nat}{parts:Array (Nat×Operand)}(ho:o.op= .buildSlice T len parts)(hd:dJ nt o.dst){u:bf}(t:To P G F (n_ P G E o.dst o.op) u)
 {F1:Fs} (hp:fH F u.pub F1) (hf:jB F u):fJ P G nt C I ρ a w o (eG F1 u):=by
 rw[ho]at t
 simp only[n_]at t
 obtain⟨Et,hT,t⟩:=To.nK t
 obtain⟨i,z,cs,us,hi,hz,hzc,hul,t,h1,h2⟩:=To.qU (I:=I) (ρ:=ρ) (w:=w) t
 obtain⟨zd,e,t'⟩:=To.lJ t
 subst e
 clear t
 have t:=t'
 clear t'
 obtain⟨ps,t,h3⟩:=To.BI hc t
 have hcs:P.cellsOf Et=i.size:=by simp[Program.cellsOf,hi]
 split at t
 ·rename_i hin ag4 hpos
  have hin:=Ih hin
  have ag4:len*i.size<=16777216:=by rw[<-hcs];exact Nat.le_of_ble_eq_true ag4
  have hpos:0<P.cellsOf Et:=Nat.le_of_ble_eq_true hpos
  split at t
  ·obtain⟨d,hdst,t⟩:=jv t
   have t:=To.Tv t
   obtain⟨ds,ws,t,h4,h5,h6⟩:=To.II h3 t (h1.rep len) (fun n hn=>by
    rw[jd]at hn
    obtain⟨c,hc',hn⟩:=hn
    simp only[List.mem_flatten,List.mem_replicate]at hc'
    obtain⟨l,⟨_,rfl⟩,hc'⟩:=hc'
    exact(h2 n (jd.2 ⟨c,hc',hn⟩)).elim)
   have:=t.dV;subst this
   cases hp
   rw[sQ]
   have hul':us.length=i.size:=Om
   rw[<-Tq hul' Om len,hcs]at h6
   intro next Q hn
   refine dY (v:= .slice (some ⟨w.heap.size,0,none⟩) len len) (w':=w.alloc (.cells ⟨ws⟩ Et)) (zD ho hT hi hz hzc ag4 h6)
    (hn I _ _ _ ((hc.mW (blk:= .arr (P.cellsOf Et) ds) (o:= .cells ⟨ws⟩ Et) (hf.new d (by simp)) (cap:=len) (rl:=len) (sz:=P.cellsOf Et) ?_ (fun m hm=>h5 m hm)).put hd (rU Om) (by intro k hm;simp only[dO]at hm;exact .inl (hm.symm.trans (by simp)))))
   exact⟨rfl,rfl,ws,Et,dS w _,h4.alloc hc _⟩
  obtain⟨ds,ns,t,h4,h5⟩:=To.JE h3 t
  split at t
  ·rename_i hown
   obtain⟨d,hdst,t⟩:=jv t
   have:=t.dV;subst this
   obtain⟨I1,hc1,hI,GU,hnm,_⟩:=hp.LJ hc
   have hB: ∀n b,F.o n=some b->dX I1 ρ w (ρ n) b:=fun n b hb=>(hc.own n b hb).mono hI (fun _ _ _=>rfl) (fun _ _=>rfl) (fun _ _=>rfl)
   have hz0:aT I ρ w (zd.map .d) us:=h1.1
   have hzl:=hz0.length
   simp only[List.length_map]at hzl
   have hrow:=yK (I:=I1) (w:=w) (len:=len) (sz:=P.cellsOf Et) (us:=us) (ds:=zd) hpos Om (fun j hj=>by
    obtain⟨v,hv,hr⟩:=hz0.data j Om
    exact⟨v,hv,hr.mono hI (fun _ _ _=>rfl)⟩)
   obtain⟨ws,h6,h7⟩:=h5 I1 hI (fun n hn hcap=>GU n hn (h4 n hn) hcap) hB len _ _ (by
    intro p hp
    simp only[List.mem_map]at hp
    obtain⟨q,hq,rfl⟩:=hp
    exact hin q hq) hrow
   have hfd: ¬F1.nm d:=fun h=>hf.new d (by simp) ((hnm d).1 h)
   have efin:eG F1 {dst:=o.dst,v:= .bW d (P.cellsOf Et) 0 len,own:=[(d,.row Et (P.cellsOf Et) len (PZ (fun _ j=>zd.getD j default) ds))],del:=[],new:=[d],pub:=ns}=oH (kS F1 d (.row Et (P.cellsOf Et) len (PZ (fun _ j=>zd.getD j default) ds))) o.dst (.bW d (P.cellsOf Et) 0 len):=rfl
   rw[efin]
   intro next Q hn
   refine dY (v:= .slice (some ⟨w.heap.size,0,none⟩) len len) (w':=w.alloc (.cells ⟨ws⟩ Et)) ?_ (hn I1 _ _ _ ((hc1.mW (o:= .cells ⟨ws⟩ Et) hfd (cap:=len) (rl:=len) (sz:=P.cellsOf Et) ?_ (by simp[inB])).put hd (rU Om) (by intro k hm;simp only[dO]at hm;exact .inl (hm.symm.trans (by simp)))))
   ·have h24: ¬(len*i.size>2^24):=Om
    by_cases hl0:len*i.size=0
    ·have h6':Instr.fill (fun j=>some (j*i.size,i.size)) ((Array.range (len*i.size)).map ((#[]:Array Value)[· % (#[]:Array Value).size]!)) (parts.map fun(i,x)=>(i,a.eval x)).toList=some ⟨ws⟩:=by
      rw[Array.toList_map]
      have e: ∀f:Nat->Value,(Array.range (len*i.size)).map f= #[]:=by intro f;rw[hl0];simp
      rw[e]
      have h6:=h6
      simp only[hcs]at h6
      rw[e]at h6
      exact h6
     simp only[execOp,ho,Instr.buildSlice,Sem.run_bind,run_underlying hT,Result.andThen_ok,fG hi,Sem.run_ite,if_false,Sem.run_pure,hl0,if_true]
     rw[hl0]at h6'
     simp only[h6',Sem.run_bind,newRow,run_newObj,Sem.run_pure,Result.andThen_ok,World.alloc_eq]
     simp
    ·have h6':Instr.fill (fun j=>some (j*i.size,i.size)) ((Array.range (len*i.size)).map ((Array.mk us)[· % (Array.mk us).size]!)) (parts.map fun(i,x)=>(i,a.eval x)).toList=some ⟨ws⟩:=by
      rw[Array.toList_map,<-hcs]
      exact h6
     simp only[execOp,ho,Instr.buildSlice,Sem.run_bind,run_underlying hT,Result.andThen_ok,fG hi,Sem.run_ite,h24,if_false,Sem.run_pure,hl0,kP hi hz,hzc,h6',newRow,run_newObj,World.alloc_eq]
   ·refine⟨rfl,rfl,by simp only;omega,fun _=>⟨_,.of (dS w _),by simpa using h7.1,fun i j hi hj=> ?_⟩⟩
    obtain⟨u,hu,hr⟩:=h7.2 i j Om hj
    refine⟨u,?_,hr.mono (fun _ h=>h) (hc1.iw _)⟩
    rw[<-Array.getElem?_toList]
    simpa using hu
  ·rename_i hown
   have:=t.dV;subst this
   obtain⟨I1,hc1,hI,GU,hnm,_⟩:=hp.LJ hc
   have hB: ∀n b,F.o n=some b->dX I1 ρ w (ρ n) b:=fun n b hb=>(hc.own n b hb).mono hI (fun _ _ _=>rfl) (fun _ _=>rfl) (fun _ _=>rfl)
   have hz0:aT I ρ w (zd.map .d) us:=h1.1
   have hzl:=hz0.length
   simp only[List.length_map]at hzl
   have hrow:=yK (I:=I1) (w:=w) (len:=len) (sz:=P.cellsOf Et) (us:=us) (ds:=zd) hpos Om (fun j hj=>by
    obtain⟨v,hv,hr⟩:=hz0.data j Om
    exact⟨v,hv,hr.mono hI (fun _ _ _=>rfl)⟩)
   obtain⟨ws,h6,h7⟩:=h5 I1 hI (fun n hn hcap=>GU n hn (h4 n hn) hcap) hB len _ _ (by
    intro p hp
    simp only[List.mem_map]at hp
    obtain⟨q,hq,rfl⟩:=hp
    exact hin q hq) hrow
   have hcv:=hc1.afu (.cells ⟨ws⟩ Et)
   intro next Q hn
   refine dY (v:= .slice (some ⟨w.heap.size,0,none⟩) len len) (w':=w.alloc (.cells ⟨ws⟩ Et)) ?_ (hn _ _ _ _ (hcv.put hd ?_ (by simp[dO])))
   ·have h24: ¬(len*i.size>2^24):=Om
    by_cases hl0:len*i.size=0
    ·have h6':Instr.fill (fun j=>some (j*i.size,i.size)) ((Array.range (len*i.size)).map ((#[]:Array Value)[· % (#[]:Array Value).size]!)) (parts.map fun(i,x)=>(i,a.eval x)).toList=some ⟨ws⟩:=by
      rw[Array.toList_map]
      have e: ∀f:Nat->Value,(Array.range (len*i.size)).map f= #[]:=by intro f;rw[hl0];simp
      rw[e]
      have h6:=h6
      simp only[hcs]at h6
      rw[e]at h6
      exact h6
     simp only[execOp,ho,Instr.buildSlice,Sem.run_bind,run_underlying hT,Result.andThen_ok,fG hi,Sem.run_ite,if_false,Sem.run_pure,hl0,if_true]
     rw[hl0]at h6'
     simp only[h6',Sem.run_bind,newRow,run_newObj,Sem.run_pure,Result.andThen_ok,World.alloc_eq]
     simp
    ·have h6':Instr.fill (fun j=>some (j*i.size,i.size)) ((Array.range (len*i.size)).map ((Array.mk us)[· % (Array.mk us).size]!)) (parts.map fun(i,x)=>(i,a.eval x)).toList=some ⟨ws⟩:=by
      rw[Array.toList_map,<-hcs]
      exact h6
     simp only[execOp,ho,Instr.buildSlice,Sem.run_bind,run_underlying hT,Result.andThen_ok,fG hi,Sem.run_ite,h24,if_false,Sem.run_pure,hl0,kP hi hz,hzc,h6',newRow,run_newObj,World.alloc_eq]
   ·simp only[aC,bM]
    refine⟨_,_,rfl,Nat.le_refl _,fun _=>⟨_,_,rfl,.inr rfl,fun i' j' hi' hj'=> ?_⟩⟩
    obtain⟨y,hy,hr⟩:=h7.2 i' j' hi' hj'
    refine⟨y,?_,hr.mono (fun _ h=> .inl h) (hc1.iw _)⟩
    have:(w.alloc (.cells ⟨ws⟩ Et)).heap[w.heap.size]? =some (.cells ⟨ws⟩ Et):=dS w _
    simp only[World.cell?,this]
    simpa using hy
 ·exact t.au.elim
end Go.Sx
namespace Go.Sx
open Go
variable {P:Program}{G:Nat->Option (Nat×(Nat->D))}{nt:Nat}{C:Ctx}{I:Nat->Prop}{ρ:Nat->Loc}{F:Fs}{a:Act}{w:World}{E:List Nat}{T:Nat}
def yj(I:Nat->Prop)(w:World)(sz m:Nat)(g:Nat->Nat->D)(v:Value):Prop:=
 ∃ad c,v= .slice ad m c∧(0<m-> ∃(b:Addr)(news:List Value),ad=some b∧news.length=m*sz∧(∀j u,news[j]? =some u->w.cell? (b.add j)=some u)∧(∀u∈news,u.oneCell'=true)∧
  ∀i j,i<m->j<sz-> ∃u,news[i*sz+j]? =some u∧bM I w (g i j) u)
theorem HY{sz m:Nat}{g:Nat->Nat->D}{b o c:Nat}(h: ∀i j,i<m->j<sz-> ∃u,w.cell? ⟨b,o+i*sz+j,none⟩=some u∧bM I w (g i j) u):
 yj I w sz m g (.slice (some ⟨b,o,none⟩) m c):=by
 have key: ∀k,k<m*sz-> ∃i j,i<m∧j<sz∧k=i*sz+j:=by
  intro k hk
  have hsz:0<sz:=Nat.pos_of_ne_zero (by rintro rfl;simp at hk)
  exact⟨k/sz,k % sz,(Nat.div_lt_iff_lt_mul hsz).2 hk,Nat.mod_lt _ hsz,(Nat.div_add_mod' k sz).symm⟩
 refine⟨_,_,rfl,fun hm=>⟨_,(List.range (m*sz)).map (fun k=>(w.cell? ⟨b,o+k,none⟩).getD undef),rfl,by simp,?_,?_,?_⟩⟩
 ·intro k u hu
  rw[add_eq]
  simp only[List.getElem?_map,Option.map_eq_some_iff]at hu
  obtain⟨k',hk',rfl⟩:=hu
  obtain⟨hlt,he⟩:=List.getElem?_eq_some_iff.1 hk'
  simp at hlt he
  subst he
  obtain⟨i,j,hi,hj,e⟩:=key k hlt
  obtain⟨u,hu,_⟩:=h i j hi hj
  rw[e,<-Nat.add_assoc,hu];rfl
 ·intro u hu
  simp only[List.mem_map,List.mem_range]at hu
  obtain⟨k,hk,rfl⟩:=hu
  obtain⟨i,j,hi,hj,e⟩:=key k hk
  obtain⟨u,hu,hr⟩:=h i j hi hj
  rw[e,<-Nat.add_assoc,hu];exact hr.one
 ·intro i j hi hj
  obtain⟨u,hu,hr⟩:=h i j hi hj
  refine⟨u,?_,hr⟩
  have hlt:i*sz+j<m*sz:=by
   have:i*sz+sz<=m*sz:=by rw[<-Nat.succ_mul];exact Nat.mul_le_mul_right _ Om
   omega
  rw[List.getElem?_map,List.getElem?_range hlt]
  simp[<-Nat.add_assoc,hu]
theorem yF{sz m:Nat}{g:Nat->Nat->D}{v:Value}(hv:aC I ρ w (.d (.list m sz g)) v):yj I w sz m g v:=by
 simp only[aC,bM]at hv
 obtain⟨ad,cap,rfl,_,hr⟩:=hv
 by_cases hm:0<m
 ·obtain⟨b,o,rfl,_,hcell⟩:=hr hm
  exact HY hcell
 ·exact⟨_,_,rfl,fun h=>absurd h hm⟩
theorem Bz(hc:Conc G nt C I ρ F a w){n s off m Et sz l:Nat}{g:Nat->Nat->D}(hb:F.o n=some (.row Et sz l g)){v:Value}(hv:aC I ρ w (.bW n s off m) v):yj I w s m (fun i j=>g (off+i) j) v:=by
 simp only[aC]at hv
 obtain⟨h1,h2,h3,ad,rfl,h4⟩:=hv
 obtain⟨h5,h6,h7,h8⟩:=hc.own n _ hb
 by_cases hm:0<m
 ·have h4:=h4.resolve_right Om
  subst h4
  obtain⟨arr,h9,h10,h11⟩:=h8 Om
  refine HY (fun i j hi hj=> ?_)
  obtain⟨u,hu,hr⟩:=h11 (off+i) j Om Om
  refine⟨u,?_,hr⟩
  rw[h9.cell]
  rw[<-h6,h1,Nat.add_mul]at hu
  rw[<-hu];congr 1;omega
 ·exact⟨_,_,rfl,fun h=>absurd h hm⟩
theorem To.rY(hc:Conc G nt C I ρ F a w){sz:Nat}{x:SV}{v:Value}{k:Nat->(Nat->Nat->D)->M bf}{u:bf}(h:To P G F (Nk sz x k) u)(hv:aC I ρ w x v):
 ∃m g,To P G F (k m g) u∧yj I w sz m g v:=by
 unfold Nk at h
 split at h
 ·split at h
  ·rename_i hs
   have hs:=Nat.eq_of_beq_eq_true hs
   subst hs
   exact⟨_,_,h,yF hv⟩
  ·exact h.au.elim
 ·split at h
  ·rename_i hs
   have hs:=Nat.eq_of_beq_eq_true hs
   subst hs
   exact⟨_,_,h,yF (ρ:=ρ) (by simp only[aC]at hv⊢;exact hv.agI)⟩
  ·exact h.au.elim
 ·refine⟨_,_,h,?_⟩
  simp only[aC,bM]at hv
  exact⟨_,_,hv.1,fun h=>absurd h (by simp)⟩
 ·obtain⟨b,hb,h'⟩:=h.eP
  clear h
  split at h'
  ·split at h'
   ·rename_i hs
    have hs:=Nat.eq_of_beq_eq_true hs
    subst hs
    exact⟨_,_,h',Bz hc hb hv⟩
   ·exact h'.au.elim
  ·exact h'.au.elim
 ·exact h.au.elim
theorem kZ{T sz:Nat}(h:tq P T sz=true): ∃i z,P.info? T=some i∧i.zero=some z∧z.cells.size=sz∧i.size=sz∧0<sz:=by
 unfold tq at h
 split at h
 ·rename_i i hi
  split at h
  ·rename_i cs hz
   split at h
   ·rename_i h1 h2
    have h1:=Nat.eq_of_beq_eq_true h1
    have h2:=Nat.eq_of_beq_eq_true h2
    exact⟨i,_,hi,hz,by show cs.length=sz;omega,h2.symm,Nat.le_of_ble_eq_true h⟩
   ·cases h
  all_goals first
   |(rename_i hz
     split at h
     ·rename_i h1 h2
      have h1:=Nat.eq_of_beq_eq_true h1
      have h2:=Nat.eq_of_beq_eq_true h2
      exact⟨i,_,hi,hz,by show 1=sz;omega,h2.symm,Om⟩
     ·cases h)
   |cases h
 ·cases h
theorem tu{t ty e:TypeId}{i:TypeInfo}(ht:P.underlying t=some (.slice e))(hi:P.info? e=some i)(b ad:Option Addr)(n cap c:Nat)(h:n<=cap):
 (Builtin.append_ #[t,t] ty #[.slice b n cap,.slice ad 0 c]).run P w= .ok (.slice b n cap) w:=by
 cases b<;>cases ad<;>simp[Builtin.append_,run_underlying ht,sizeOf,typeInfo,hi,Builtin.lenOf,Builtin.firstCells,h,storeCells,loadCells,loadCellsFrom]
def MJ(I:Nat->Prop)(w:World)(len sz:Nat)(us:List Value)(g:Nat->Nat->D):Prop:= ∀i j,i<len->j<sz-> ∃u,us[i*sz+j]? =some u∧bM I w (g i j) u
theorem CS{n m sz:Nat}{olds news pad:List Value}{g1 g2:Nat->Nat->D}(h1:MJ I w n sz olds g1)(l1:olds.length=n*sz)(h2:MJ I w m sz news g2)(l2:news.length=m*sz):
 MJ I w (n+m) sz (olds++news++pad) (fun i j=>if i<n then g1 i j else g2 (i-n) j):=by
 intro i j hi hj
 by_cases hlt:i<n
 ·obtain⟨u,hu,hr⟩:=h1 i j hlt hj
  have:i*sz+sz<=n*sz:=by rw[<-Nat.succ_mul];exact Nat.mul_le_mul_right _ Om
  refine⟨u,?_,by simpa[hlt]using hr⟩
  rw[List.append_assoc,List.getElem?_append_left Om]
  exact hu
 ·obtain⟨u,hu,hr⟩:=h2 (i-n) j Om hj
  have e:i*sz=n*sz+(i-n)*sz:=by rw[<-Nat.add_mul];congr 1;omega
  have:(i-n)*sz+sz<=m*sz:=by rw[<-Nat.succ_mul];exact Nat.mul_le_mul_right _ Om
  refine⟨u,?_,by simpa[hlt]using hr⟩
  rw[List.append_assoc,List.getElem?_append_right Om,List.getElem?_append_left Om,l1,e]
  rw[show n*sz+(i-n)*sz+j-n*sz=(i-n)*sz+j by omega]
  exact hu
theorem uh(hc:Conc G nt C I ρ F a w){d Et cap len sz:Nat}(hn: ¬F.nm d){arr:Array Value}{g:Nat->Nat->D}(hs:arr.size=cap*sz)(hl:len<=cap)(hr:MJ I w len sz arr.toList g):
 Conc G nt C I (dU ρ d (Oz w.heap.size cap len sz 0)) (kS F d (.row Et sz len g)) a (w.drew.alloc (.cells arr Et)):=by
 refine(hc.drew.mW (o:= .cells arr Et) hn (cap:=cap) (rl:=len) (sz:=sz) ?_ (by simp[inB]))
 refine⟨rfl,rfl,hl,fun _=>⟨arr,.of (dS w.drew _),by rw[hs];exact(Nat.zero_add _).symm,fun i j hi hj=> ?_⟩⟩
 obtain⟨u,hu,h⟩:=hr i j hi hj
 exact⟨u,by simpa using hu,h.mono (fun _ h=>h) (show Same I w _ from hc.drew.iw _)⟩
theorem Gp{t ty e:TypeId}{i:TypeInfo}(ht:P.underlying t=some (.slice e))(hi:P.info? e=some i)
 (g off sLen sCap:Nat) (cur:Array Value) (hg:kY w g cur e)
 (a:Addr) (m c:Nat) (news:List Value) (hl:news.length=m*i.size) (hnews: ∀j u,news[j]? =some u->w.cell? (a.add j)=some u) (h1: ∀u∈news,u.oneCell'=true)
 (hroom:sLen+m<=sCap) (hfit:off+sLen*i.size+news.length<=cur.size):
 (Builtin.append_ #[t,t] ty #[.slice (some ⟨g,off,none⟩) sLen sCap,.slice (some a) m c]).run P w=
   .ok (.slice (some ⟨g,off,none⟩) (sLen+m) sCap) (w.setRow g (cur.toList.take (off+sLen*i.size)++news++cur.toList.drop (off+sLen*i.size+news.length)).toArray):=by
 have hf:=run_firstCells_some (P:=P) w i.size m a m c news hl hnews
 have hst:=jH (P:=P) g (off+sLen*i.size) e news 0 cur w hg (by simpa using hfit) h1
 simp only[Nat.add_zero]at hst
 simp[Builtin.append_,run_underlying ht,sizeOf,typeInfo,hi,Builtin.lenOf,hroom,hf,Addr.add_lit,hst]
theorem Bl(hc:Conc G nt C I ρ F a w){T ty Et sz:Nat}{ti:TypeInfo}{z:Value}(hT:P.underlying T=some (.slice Et))(hti:P.info? Et=some ti)(hz:ti.zero=some z)(hzs:z.cells.size=sz)(hts:ti.size=sz)
 (hpos:0<sz) {d n len L m s0:Nat} {g1 g2:Nat->Nat->D} (hb:F.o n=some (.row Et sz L g1)) (off:Nat) (hL:off+len<=L) (hd: ¬F.nm d) {vs vx:Value} (hvs:aC I ρ w (.bW n s0 off len) vs) (hvx:yj I w sz m g2 vx)
 (h47:(len+m)*ti.bytes<=140737488355328) (h63:len+m<=9223372036854775807):
 ∃v w' ρ',(Builtin.append_ #[T,T] ty #[vs,vx]).run P w= .ok v w'∧
  Conc G nt C I ρ' (kS (jK F n) d (.row Et sz (len+m) fun i j=>if i<len then g1 (off+i) j else g2 (i-len) j)) a w'∧aC I ρ' w' (.bW d sz 0 (len+m)) v∧Same I w w'∧∀k,F.nm k->ρ' k=ρ k:=by
 have hrs: ∀L k,F.nm k->dU ρ d L k=ρ k:=by
  intro L k hk
  simp only[dU]
  rw[if_neg]
  rintro rfl
  exact hd hk
 obtain⟨h1,h2,h3,h4⟩:=hc.own n _ hb
 simp only[aC]at hvs
 obtain⟨h5,h6,h7,ad,rfl,h8⟩:=hvs
 obtain rfl:s0=sz:=h5.symm.trans h2
 obtain⟨bx,c,rfl,hsrc⟩:=hvx
 have hfr:0<(ρ n).cap->C.w0.heap.size<=(ρ n).b∨C.S0 (ρ n).b:=fun hcap=>(hc.sep n _ hb hcap).2
 have hc0:=hc.del n
 have hd0: ¬(jK F n).nm d:=hd
 have hcs:off<=(ρ n).cap->(ρ n).cap*s0=off*s0+((ρ n).cap-off)*s0:=fun h=>by rw[<-Nat.add_mul];congr 1;omega
 have hoff: ∀i,(off+i)*s0=off*s0+i*s0:=fun i=>Nat.add_mul _ _ _
 generalize hk:(ρ n).o+off*s0=k at h8⊢
 rcases Nat.eq_zero_or_pos m with rfl|hm
 ·refine⟨_,w,dU ρ d (Oz (ρ n).b ((ρ n).cap-off) len s0 k),tu hT hti _ _ _ _ _ Om,?_,?_,fun _ _ _=>rfl,hrs _⟩
  ·refine hc0.new hd0 (fun _ _ _=>rfl) (fun _ _ _ _ _=>rfl) hc.keep hc.nT ?_ (by simp[inB]) ?_
   ·refine⟨rfl,rfl,by show len+0<=(ρ n).cap-off;omega,fun hcap=> ?_⟩
    have hcap:0<(ρ n).cap-off:=hcap
    obtain⟨arr,h9,h10,h11⟩:=h4 Om
    refine⟨arr,h9,by rw[h10,hcs Om,<-hk,Nat.add_assoc],fun i j hi hj=> ?_⟩
    obtain⟨u,hu,hr⟩:=h11 (off+i) j Om hj
    have hlt:i<len:=Om
    refine⟨u,?_,by simpa[hlt]using hr⟩
    show arr[k+(i*s0+j)]? =some u
    rw[<-hu,hoff,<-hk];congr 1;omega
   ·rintro j ⟨hl,rfl⟩
    have hl:0<(ρ n).cap:=Nat.lt_of_lt_of_le hl (Nat.sub_le _ _)
    refine⟨(hc.sep n _ hb hl).1,hfr hl,?_⟩
    intro k b hk hlk
    simp only[jK]at hk
    split at hk
    ·cases hk
    ·rename_i hne;exact hne (hc.iE k n _ _ _ hk hb hlk ⟨hl,rfl⟩)
  ·simp only[aC,dU,if_true,Nat.add_zero,Nat.sub_zero]
   exact⟨trivial,Om,Om,ad,rfl,by simpa using h8⟩
 ·obtain⟨ax,news,rfl,hnl,wU,hnone,AU⟩:=hsrc hm
  by_cases hroom:len+m<=(ρ n).cap-off
  ·have hcap:0<(ρ n).cap:=Om
   obtain⟨arr,h9,h10,h11⟩:=h4 hcap
   have h8:=h8.resolve_right Om
   subst h8
   have hfit:k+len*s0+news.length<=arr.size:=by
    rw[hnl,h10,hcs Om,<-hk]
    have:(len+m)*s0<=((ρ n).cap-off)*s0:=Nat.mul_le_mul_right _ hroom
    rw[Nat.add_mul]at this
    omega
   have hr:=Gp (P:=P) (ty:=ty) hT hti (ρ n).b k len ((ρ n).cap-off) arr h9 ax m c news (by rw[hts];exact hnl) wU hnone hroom (by rw[hts];exact hfit)
   rw[hts]at hr
   have hnI:=(hc.sep n _ hb hcap).1
   have hS:Same I w (w.setRow (ρ n).b (arr.toList.take (k+len*s0)++news++arr.toList.drop (k+len*s0+news.length)).toArray):=jZ hnI
   refine⟨_,_,dU ρ d (Oz (ρ n).b ((ρ n).cap-off) (len+m) s0 k),hr,?_,?_,hS,hrs _⟩
   ·refine hc0.new hd0 hS ?_ ?_ ?_ ?_ (by simp[inB]) ?_
    ·intro k b j hk hlk
     simp only[jK]at hk
     split at hk
     ·cases hk
     ·rename_i hne;exact uq _ _ _ _ (fun e=>hne (hc.iE k n _ _ j hk hb hlk ⟨hcap,e⟩))
    ·refine hc.keep.trans (wG (fun k=>k=(ρ n).b) w _ _ rfl) ?_
     rintro i rfl;exact(hfr hcap).symm
    ·intro b hb';have:=hc.nT b hb';simpa[World.setRow]using this
    ·refine⟨rfl,rfl,hroom,fun _=>⟨_,h9.set (by simp only[List.size_toArray,List.length_append,List.length_take,List.length_drop,Array.length_toList];omega),?_,?_⟩⟩
     ·simp only[List.size_toArray,List.length_append,List.length_take,List.length_drop,Array.length_toList]
      have:=hcs Om
      omega
     ·have h12:=CS (I:=I) (w:=w) (n:=len) (m:=m) (sz:=s0) (olds:=(arr.toList.drop k).take (len*s0)) (news:=news) (pad:=arr.toList.drop (k+len*s0+news.length)) (g1:=fun i j=>g1 (off+i) j) (g2:=g2) ?_ ?_ AU hnl
      ·intro i j hi hj
       obtain⟨u,hu,hr⟩:=h12 i j hi hj
       refine⟨u,?_,hr.mono (fun _ h=>h) hS⟩
       show(arr.toList.take (k+len*s0)++news++arr.toList.drop (k+len*s0+news.length)).toArray[k+(i*s0+j)]? =some u
       have e:arr.toList.take (k+len*s0)=arr.toList.take k++(arr.toList.drop k).take (len*s0):=by rw[List.take_add]
       rw[List.getElem?_toArray,e,List.append_assoc,List.append_assoc,List.getElem?_append_right (by simp only[List.length_take];omega)]
       have hkl:(arr.toList.take k).length=k:=by simp only[List.length_take,Array.length_toList];omega
       rw[hkl,Nat.add_sub_cancel_left,<-List.append_assoc]
       exact hu
      ·intro i j hi hj
       obtain⟨u,hu,hr⟩:=h11 (off+i) j Om hj
       have:i*s0+s0<=len*s0:=by rw[<-Nat.succ_mul];exact Nat.mul_le_mul_right _ Om
       refine⟨u,?_,hr⟩
       rw[List.getElem?_take,if_pos Om,List.getElem?_drop,Array.getElem?_toList,<-hu,hoff,<-hk]
       congr 1;omega
      ·simp only[List.length_take,List.length_drop,Array.length_toList];omega
    ·rintro j ⟨_,rfl⟩
     refine⟨hnI,hfr hcap,?_⟩
     intro k b hk hlk
     simp only[jK]at hk
     split at hk
     ·cases hk
     ·rename_i hne;exact hne (hc.iE k n _ _ _ hk hb hlk ⟨hcap,rfl⟩)
   ·simp only[aC,dU,if_true,Nat.sub_zero,Nat.zero_mul]
    exact⟨trivial,Om,hroom,_,rfl,.inl rfl⟩
  ·have hlt:(ρ n).cap-off<len+m:=Om
   have hge:=grownCap_ge w (len+m) ((ρ n).cap-off) Et
   by_cases hcap:0<(ρ n).cap-off
   ·obtain⟨arr,h9,h10,h11⟩:=h4 Om
    have h8:=h8.resolve_right Om
    subst h8
    have hle:k+len*s0<=arr.size:=by
     rw[h10,hcs Om,<-hk]
     have:len*s0<=((ρ n).cap-off)*s0:=Nat.mul_le_mul_right _ Om
     omega
    have hr:=run_append_grow (P:=P) w T ty Et ti z hT hti hz ⟨(ρ n).b,k,none⟩ len ((ρ n).cap-off) ((arr.toList.drop k).take (len*s0)) (by rw[hts];simp;omega) (by
     intro j v hj
     rw[add_eq]
     rw[h9.cell]
     rw[List.getElem?_take]at hj
     split at hj
     ·rw[List.getElem?_drop]at hj
      simpa using hj
     ·cases hj) ax m c news (by rw[hts];exact hnl) wU hlt Om (growslice_fits hlt h47)
    refine⟨_,_,_,hr,uh hc0 hd0 ?_ hge ?_,rU hge,(show Same I w _ from fun b i hb=>hc.drew.iw _ b i hb),hrs _⟩
    ·simp only[Array.size_append,List.size_toArray,List.length_take,List.length_drop,Array.length_toList,size_zeroCells,hzs,hnl]
     rw[Nat.min_eq_left Om,<-Nat.add_mul,<-Nat.add_mul]
     congr 1;omega
    ·simp only[Array.toList_append]
     refine CS (g1:=fun i j=>g1 (off+i) j) ?_ (by simp;omega) AU hnl
     intro i j hi hj
     obtain⟨u,hu,hr⟩:=h11 (off+i) j Om hj
     have:i*s0+s0<=len*s0:=by rw[<-Nat.succ_mul];exact Nat.mul_le_mul_right _ Om
     refine⟨u,?_,hr⟩
     rw[List.getElem?_take,if_pos Om,List.getElem?_drop,Array.getElem?_toList,<-hu,hoff,<-hk]
     congr 1;omega
   ·have hcap0:(ρ n).cap-off=0:=Om
    have hlen0:len=0:=Om
    subst hlen0
    have hcont:MJ I w m s0 news (fun i j=>if i<0 then g1 (off+i) j else g2 (i-0) j):=by
     intro i j hi hj
     simpa using AU i j hi hj
    cases ad with
    |none=>
     rw[hcap0]at*
     have hr:=run_append_nil (P:=P) w T ty Et ti z hT hti hz ax m c news (by rw[hts];exact hnl) wU hm Om (by have:=h47;simp only[Nat.zero_add]at this;omega)
     simp only[Nat.zero_add]at hge⊢
     refine⟨_,_,_,hr,uh hc0 hd0 ?_ hge ?_,rU hge,(show Same I w _ from fun b i hb=>hc.drew.iw _ b i hb),hrs _⟩
     ·simp only[Array.size_append,List.size_toArray,size_zeroCells,hzs,hnl]
      rw[<-Nat.add_mul]
      congr 1;omega
     ·intro i j hi hj
      obtain⟨u,hu,hr⟩:=hcont i j hi hj
      have:i*s0+s0<=m*s0:=by rw[<-Nat.succ_mul];exact Nat.mul_le_mul_right _ Om
      exact⟨u,by simp only[Array.toList_append];rw[List.getElem?_append_left Om];exact hu,hr⟩
    |some b0=>
     have hr:=run_append_grow (P:=P) w T ty Et ti z hT hti hz b0 0 ((ρ n).cap-off) [] (by simp) (by simp) ax m c news (by rw[hts];exact hnl) wU hlt Om (growslice_fits hlt h47)
     refine⟨_,_,_,hr,uh hc0 hd0 ?_ hge ?_,rU hge,(show Same I w _ from fun b i hb=>hc.drew.iw _ b i hb),hrs _⟩
     ·simp only[Array.size_append,List.size_toArray,size_zeroCells,hzs,hnl,List.length_nil]
      rw[Nat.zero_add,<-Nat.add_mul]
      congr 1;omega
     ·intro i j hi hj
      obtain⟨u,hu,hr⟩:=hcont i j Om hj
      have:i*s0+s0<=m*s0:=by rw[<-Nat.succ_mul];exact Nat.mul_le_mul_right _ Om
      exact⟨u,by simp only[Array.toList_append,List.nil_append];rw[List.getElem?_append_left Om];exact hu,hr⟩
theorem D5(hc:Conc G nt C I ρ F a w){T ty Et sz:Nat}{ti:TypeInfo}{z:Value}(hT:P.underlying T=some (.slice Et))(hti:P.info? Et=some ti)(hz:ti.zero=some z)(hzs:z.cells.size=sz)(hts:ti.size=sz)
 (hpos:0<sz) {d n len L m s0:Nat} {g1 g2:Nat->Nat->D} (hb:F.o n=some (.row Et sz L g1)) (off:Nat) (hL:off+len<=L) (hd: ¬F.nm d) {vs vx:Value} (hvs:aC I ρ w (.bW n s0 off len) vs) (hvx:yj I w sz m g2 vx)
 (h47:(len+m)*ti.bytes<=140737488355328) (h63:len+m<=9223372036854775807):
 ∃v w' ρ',(Builtin.append_ #[T,T] ty #[vs,vx]).run P w= .ok v w'∧
  Conc G nt C I ρ' (kS (jK F n) d (.row Et sz (len+m) fun i j=>if i<len then g1 (off+i) j else g2 (i-len) j)) a w'∧aC I ρ' w' (.bW d sz 0 (len+m)) v:=by
 obtain⟨v,w',ρ',h1,h2,h3,_⟩:=Bl (ty:=ty) hc hT hti hz hzs hts hpos hb off hL hd hvs hvx h47 h63
 exact⟨v,w',ρ',h1,h2,h3⟩
end Go.Sx
namespace Go.Sx
open Go
variable {P:Program}{G:Nat->Option (Nat×(Nat->D))}{nt:Nat}{C:Ctx}{I:Nat->Prop}{ρ:Nat->Loc}{F:Fs}{a:Act}{w:World}{E:List Nat}{T:Nat}
theorem zK(hc:Conc G nt C I ρ F a w){T ty Et sz:Nat}{ti:TypeInfo}{z:Value}(hT:P.underlying T=some (.slice Et))(hti:P.info? Et=some ti)(hz:ti.zero=some z)(hzs:z.cells.size=sz)(hts:ti.size=sz)
 {d m:Nat} {g2:Nat->Nat->D} (hd: ¬F.nm d) {vx:Value} (hvx:yj I w sz m g2 vx) (h47:m*ti.bytes<=140737488355328) (h63:m<=9223372036854775807):
 ∃v w' ρ',(Builtin.append_ #[T,T] ty #[.slice none 0 0,vx]).run P w= .ok v w'∧Conc G nt C I ρ' (kS F d (.row Et sz m g2)) a w'∧aC I ρ' w' (.bW d sz 0 m) v∧Same I w w'∧∀k,F.nm k->ρ' k=ρ k:=by
 have hrs: ∀L k,F.nm k->dU ρ d L k=ρ k:=by
  intro L k hk
  simp only[dU]
  rw[if_neg]
  rintro rfl
  exact hd hk
 obtain⟨bx,c,rfl,hsrc⟩:=hvx
 rcases Nat.eq_zero_or_pos m with rfl|hm
 ·refine⟨_,w,dU ρ d (Oz 0 0 0 sz 0),tu hT hti _ _ _ _ _ (Nat.le_refl _),?_,?_,fun _ _ _=>rfl,hrs _⟩
  ·refine hc.new hd (fun _ _ _=>rfl) (fun _ _ _ _ _=>rfl) hc.keep hc.nT ?_ (by simp[inB]) (fun j h=> ?_)
   ·exact⟨rfl,rfl,Nat.le_refl _,fun h=>absurd h (by simp)⟩
   ·exact absurd h.1 (Nat.lt_irrefl 0)
  ·simp only[aC,dU,if_true]
   exact⟨trivial,by simp,by simp,none,rfl,.inr trivial⟩
 ·obtain⟨ax,news,rfl,hnl,wU,hnone,AU⟩:=hsrc hm
  have hge:=grownCap_ge w m 0 Et
  have hr:=run_append_nil (P:=P) w T ty Et ti z hT hti hz ax m c news (by rw[hts];exact hnl) wU hm Om Om
  refine⟨_,_,_,hr,uh hc hd ?_ hge ?_,rU hge,(show Same I w _ from fun b i hb=>hc.drew.iw _ b i hb),hrs _⟩
  ·simp only[Array.size_append,List.size_toArray,size_zeroCells,hzs,hnl]
   rw[<-Nat.add_mul]
   congr 1;omega
  ·intro i j hi hj
   obtain⟨u,hu,hr⟩:=AU i j hi hj
   have:i*sz+sz<=m*sz:=by rw[<-Nat.succ_mul];exact Nat.mul_le_mul_right _ Om
   exact⟨u,by simp only[Array.toList_append];rw[List.getElem?_append_left Om];exact hu,hr⟩
theorem Me(hc:Conc G nt C I ρ F a w){T ty Et sz:Nat}{ti:TypeInfo}{z:Value}(hT:P.underlying T=some (.slice Et))(hti:P.info? Et=some ti)(hz:ti.zero=some z)(hzs:z.cells.size=sz)(hts:ti.size=sz)
 {d m:Nat} {g2:Nat->Nat->D} (hd: ¬F.nm d) {vx:Value} (hvx:yj I w sz m g2 vx) (h47:m*ti.bytes<=140737488355328) (h63:m<=9223372036854775807):
 ∃v w' ρ',(Builtin.append_ #[T,T] ty #[.slice none 0 0,vx]).run P w= .ok v w'∧Conc G nt C I ρ' (kS F d (.row Et sz m g2)) a w'∧aC I ρ' w' (.bW d sz 0 m) v:=by
 obtain⟨v,w',ρ',h1,h2,h3,_⟩:=zK (ty:=ty) hc hT hti hz hzs hts hd hvx h47 h63
 exact⟨v,w',ρ',h1,h2,h3⟩
theorem MB(hc:Conc G nt C I ρ F a w){T ty Et sz:Nat}{ti:TypeInfo}{z:Value}(hT:P.underlying T=some (.slice Et))(hti:P.info? Et=some ti)(hz:ti.zero=some z)(hzs:z.cells.size=sz)(hts:ti.size=sz)
 {m:Nat} {g2:Nat->Nat->D} {vx:Value} (hvx:yj I w sz m g2 vx) (h47:m*ti.bytes<=140737488355328) (h63:m<=9223372036854775807):
 ∃v w' I',(Builtin.append_ #[T,T] ty #[.slice none 0 0,vx]).run P w= .ok v w'∧Conc G nt C I' ρ F a w'∧aC I' ρ w' (.d (.list m sz g2)) v:=by
 obtain⟨bx,c,rfl,hsrc⟩:=hvx
 rcases Nat.eq_zero_or_pos m with rfl|hm
 ·refine⟨_,w,I,tu hT hti _ _ _ _ _ (Nat.le_refl _),hc,?_⟩
  simp only[aC,bM]
  exact⟨_,_,rfl,Nat.le_refl _,fun h=>absurd h (Nat.lt_irrefl 0)⟩
 ·obtain⟨ax,news,rfl,hnl,wU,hnone,AU⟩:=hsrc hm
  have hge:=grownCap_ge w m 0 Et
  have hr:=run_append_nil (P:=P) w T ty Et ti z hT hti hz ax m c news (by rw[hts];exact hnl) wU hm Om Om
  refine⟨_,_,_,hr,hc.drew.afu _,?_⟩
  simp only[aC,bM]
  refine⟨_,_,rfl,hge,fun _=>⟨_,_,rfl,.inr rfl,fun i j hi hj=> ?_⟩⟩
  obtain⟨u,hu,hr⟩:=AU i j hi hj
  have:i*sz+sz<=m*sz:=by rw[<-Nat.succ_mul];exact Nat.mul_le_mul_right _ Om
  refine⟨u,?_,hr.mono (fun _ h=> .inl h) (show Same I w (w.drew.alloc _)from fun b i hb=>hc.drew.iw _ b i hb)⟩
  have h8:=dS w.drew (.cells (news.toArray++Builtin.zeroCells z.cells (grownCap w m 0 Et-m)) Et)
  have h9:(news.toArray++Builtin.zeroCells z.cells (grownCap w m 0 Et-m)).toList[i*sz+j]? =some u:=by
   simp only[Array.toList_append];rw[List.getElem?_append_left (by show _<news.length;omega)];exact hu
  have h10:(news.toArray++Builtin.zeroCells z.cells (grownCap w m 0 Et-m))[0+i*sz+j]? =some u:=by
   rw[Nat.zero_add,<-Array.getElem?_toList];exact h9
  show World.cell? _ ⟨w.drew.heap.size,0+i*sz+j,none⟩=some u
  simp only[World.cell?,h8]
  exact h10
theorem IJ(hc:Conc G nt C I ρ F a w){T ty Et sz:Nat}{ti:TypeInfo}{z:Value}(hT:P.underlying T=some (.slice Et))(hti:P.info? Et=some ti)(hz:ti.zero=some z)(hzs:z.cells.size=sz)(hts:ti.size=sz)
 (hpos:0<sz) {d n len L m s0:Nat} {g1 g2:Nat->Nat->D} (hb:F.o n=some (.row Et sz L g1)) (hL:len<=L) (hd: ¬F.nm d) {vs vx:Value} (hvs:aC I ρ w (.bW n s0 0 len) vs) (hvx:yj I w sz m g2 vx)
 (h47:(len+m)*ti.bytes<=140737488355328) (h63:len+m<=9223372036854775807):
 ∃v w' ρ',(Builtin.append_ #[T,T] ty #[vs,vx]).run P w= .ok v w'∧
  Conc G nt C I ρ' (kS (jK F n) d (.row Et sz (len+m) fun i j=>if i<len then g1 i j else g2 (i-len) j)) a w'∧aC I ρ' w' (.bW d sz 0 (len+m)) v:=by
 have h:=D5 (ty:=ty) hc hT hti hz hzs hts hpos hb 0 Om hd hvs hvx h47 h63
 simp only[Nat.zero_add]at h
 exact h
theorem Ot(hc:Conc G nt C I ρ F a w){o:Oper}{T:Nat}{vs vx:Value}(hd:dJ nt o.dst)
 (hrun: ∀v w',(Builtin.append_ #[T,T] o.type #[vs,vx]).run P w= .ok v w'->(execOp a.eval o).run P w= .ok (.value v) w')
 {Et:Nat} (hT:P.underlying T=some (.slice Et)) {sx sy:SV} (hx:aC I ρ w sx vs) (hy:aC I ρ w sy vx)
 {u:bf} (t:To P G F (Ry P o.dst Et (P.cellsOf Et) sx sy) u) {F1:Fs} (hp:fH F u.pub F1) (hf:jB F u):fJ P G nt C I ρ a w o (eG F1 u):=by
 obtain⟨d,hdst,t⟩:=jv t
 split at t
 ·exact t.au.elim
 ·rename_i hz
  obtain⟨ti,z,hti,hz,hzs,hts,hpos⟩:=kZ hz
  have hby:P.bytesOf Et=ti.bytes:=by simp[Program.bytesOf,hti]
  split at t
  ·obtain⟨m,g,t2,hs⟩:=To.rY hc t hy
   obtain⟨⟨h47,h63⟩,t3⟩:=t2.dh
   have:=t3.dV;subst this
   cases hp
   simp only[aC,bM]at hx
   obtain⟨v,w',ρ',h1,h2,h3⟩:=Me (ty:=o.type) hc hT hti hz hzs hts (hf.new d (by simp)) hs (by rw[<-hby];exact h47) h63
   intro next Q hn
   refine dY (hrun v w' (by rw[hx.1];exact h1)) (hn I ρ' v w' ?_)
   exact h2.put (dst:=o.dst) (by rw[hdst]at hd⊢;exact hd) h3 (by intro m hm;simp only[dO]at hm;exact .inl hm.symm)
  ·obtain⟨b,hb,t1⟩:=t.eP
   split at t1
   ·split at t1
    ·rename_i h1 h2
     have h1:=Nat.eq_of_beq_eq_true h1
     have h2:=Nat.eq_of_beq_eq_true h2
     subst h1
     subst h2
     split at t1
     ·obtain⟨m,g,t2,hs⟩:=To.rY hc t1 hy
      obtain⟨⟨hl,h47,h63⟩,t3⟩:=t2.dh
      have:=t3.dV;subst this
      cases hp
      obtain⟨v,w',ρ',h1,h2,h3⟩:=IJ (ty:=o.type) hc hT hti hz hzs hts hpos hb (hl) (hf.new d (by simp)) hx hs (by rw[<-hby];exact h47) h63
      intro next Q hn
      refine dY (hrun v w' h1) (hn I ρ' v w' ?_)
      exact h2.put (dst:=o.dst) (by rw[hdst]at hd⊢;exact hd) h3 (by intro m hm;simp only[dO]at hm;exact .inl hm.symm)
     ·obtain⟨m,g,t2,hs⟩:=To.rY hc t1 hy
      obtain⟨⟨hl,h47,h63⟩,t3⟩:=t2.dh
      have:=t3.dV;subst this
      cases hp
      obtain⟨v,w',ρ',h1,h2,h3⟩:=IJ (ty:=o.type) hc hT hti hz hzs hts hpos hb (Nat.le_of_eq hl) (hf.new d (by simp)) hx hs (by rw[<-hby];exact h47) h63
      intro next Q hn
      refine dY (hrun v w' h1) (hn I ρ' v w' ?_)
      exact h2.put (dst:=o.dst) (by rw[hdst]at hd⊢;exact hd) h3 (by intro m hm;simp only[dO]at hm;exact .inl hm.symm)
    ·exact t1.au.elim
   ·exact t1.au.elim
  ·rename_i n s0 off0 len hne
   obtain⟨b,hb,t1⟩:=t.eP
   split at t1
   ·split at t1
    ·rename_i h1 h2 _
     have h1:=Nat.eq_of_beq_eq_true h1
     have h2:=Nat.eq_of_beq_eq_true h2
     subst h1
     subst h2
     obtain⟨m,g,t2,hs⟩:=To.rY hc t1 hy
     obtain⟨⟨hl,h47,h63⟩,t3⟩:=t2.dh
     have:=t3.dV;subst this
     cases hp
     obtain⟨v,w',ρ',h1,h2,h3⟩:=D5 (ty:=o.type) hc hT hti hz hzs hts hpos hb _ hl (hf.new d (by simp)) hx hs (by rw[<-hby];exact h47) h63
     intro next Q hn
     refine dY (hrun v w' h1) (hn I ρ' v w' ?_)
     exact h2.put (dst:=o.dst) (by rw[hdst]at hd⊢;exact hd) h3 (by intro m hm;simp only[dO]at hm;exact .inl hm.symm)
    ·exact t1.au.elim
   ·exact t1.au.elim
  ·exact t.au.elim
theorem Xc(hc:Conc G nt C I ρ F a w){o:Oper}{T:Nat}{vs vx:Value}(hd:dJ nt o.dst)
 (hrun: ∀v w',(Builtin.append_ #[T,T] o.type #[vs,vx]).run P w= .ok v w'->(execOp a.eval o).run P w= .ok (.value v) w')
 {Et:Nat} (hT:P.underlying T=some (.slice Et)) {sx sy:SV} (hx:aC I ρ w sx vs) (hy:aC I ρ w sy vx)
 {u:bf} (t:To P G F (Rz P o.dst Et (P.cellsOf Et) sx sy) u) {F1:Fs} (hp:fH F u.pub F1) (hf:jB F u):fJ P G nt C I ρ a w o (eG F1 u):=by
 unfold Rz at t
 split at t
 ·rename_i n s0 off0 len
  obtain⟨d,hdst,t⟩:=jv t
  split at t
  ·exact t.au.elim
  ·rename_i hz
   obtain⟨ti,z,hti,hz,hzs,hts,hpos⟩:=kZ hz
   have hby:P.bytesOf Et=ti.bytes:=by simp[Program.bytesOf,hti]
   obtain⟨b,hb,t1⟩:=t.eP
   split at t1
   ·split at t1
    ·rename_i h1 h2 _
     have h1:=Nat.eq_of_beq_eq_true h1
     have h2:=Nat.eq_of_beq_eq_true h2
     subst h1
     subst h2
     obtain⟨m,g,t2,hs⟩:=To.rY hc t1 hy
     obtain⟨⟨hl,h47,h63⟩,t3⟩:=t2.dh
     have:=t3.dV;subst this
     cases hp
     have hdn: ¬F.nm d:=hf.new d (by simp)
     have hnn:F.nm n:=hc.fO n _ hb
     obtain⟨v,w',ρ',h1,h2,h3⟩:=D5 (ty:=o.type) hc hT hti hz hzs hts hpos hb _ hl hdn hx hs (by rw[<-hby];exact h47) h63
     intro next Q hn
     refine dY (hrun v w' h1) (hn I ρ' v w' ?_)
     have h4:=h2.akJ (n:=n) (.inr hnn)
     have e: ∀B:bG,fE (kS (jK F n) d B) n .gone=EW (jS F [(d,B),(n,.gone)]) [d]:=by
      intro B
      have e0:(fun k=>if k=n then some bG.gone else if k=d then some B else if k=n then none else F.o k)=(fun k=>if k=n then some bG.gone else if k=d then some B else F.o k):=by
       funext k
       by_cases e1:k=n
       ·rw[if_pos e1,if_pos e1]
       ·rw[if_neg e1,if_neg e1,if_neg e1]
      exact congrArg (fun f=>(⟨F.s,f,fun m=>m=d∨F.nm m,F.n0⟩:Fs)) e0
     rw[e]at h4
     exact h4.put (dst:=o.dst) (by rw[hdst]at hd⊢;exact hd) h3 (by intro m hm;simp only[dO]at hm;exact .inl hm.symm)
    ·exact t1.au.elim
   ·exact t1.au.elim
 ·exact Ot hc hd hrun hT hx hy t hp hf
theorem Qs(hc:Conc G nt C I ρ F a w){o:Oper}{T:Nat}{vx:Value}(hd:dJ nt o.dst)
 (hrun: ∀v w',(Builtin.append_ #[T,T] o.type #[.slice none 0 0,vx]).run P w= .ok v w'->(execOp a.eval o).run P w= .ok (.value v) w')
 {Et:Nat} (hT:P.underlying T=some (.slice Et)) {sy:SV} (hy:aC I ρ w sy vx)
 {u:bf} (t:To P G F (Hr P o.dst Et (P.cellsOf Et) sy) u) {F1:Fs} (hp:fH F u.pub F1):fJ P G nt C I ρ a w o (eG F1 u):=by
 unfold Hr at t
 split at t
 ·exact t.au.elim
 ·rename_i hz
  obtain⟨ti,z,hti,hz,hzs,hts,hpos⟩:=kZ hz
  have hby:P.bytesOf Et=ti.bytes:=by simp[Program.bytesOf,hti]
  obtain⟨m,g,t2,hs⟩:=To.rY hc t hy
  obtain⟨⟨h47,h63⟩,t3⟩:=t2.dh
  have:=dA t3;subst this
  cases hp
  obtain⟨v,w',I',h1,h2,h3⟩:=MB (ty:=o.type) hc hT hti hz hzs hts hs (by rw[<-hby];exact h47) h63
  intro next Q hn
  refine dY (hrun v w' h1) (hn I' ρ v w' ?_)
  exact h2.put hd h3 (by simp[dO])
theorem Nr{T ty Et:Nat}{i:TypeInfo}(hT:P.underlying T=some (.slice Et))(hi:P.info? Et=some i){g off dLen dCap:Nat}{ad:Addr}{sLen sCap:Nat}{cur:Array Value}{t:TypeId}{cs:List Value}
 (hg:kY w g cur t) (hn:cs.length=(min sLen dLen)*i.size)
 (hsrc: ∀j v,cs[j]? =some v->w.cell? (ad.add j)=some v) (hfit:off+cs.length<=cur.size) (h1: ∀v∈cs,v.oneCell'=true):
 (Builtin.copy_ #[T,T] ty #[.slice (some ⟨g,off,none⟩) dLen dCap,.slice (some ad) sLen sCap]).run P w=
   .ok (goInt (min sLen dLen:Nat)) (w.setRow g (cur.toList.take off++cs++cur.toList.drop (off+cs.length)).toArray):=by
 have hl:=run_loadCells_list (P:=P) w ad cs hsrc
 have hst:=jH (P:=P) g off t cs 0 cur w hg (by simpa using hfit) h1
 simp[Builtin.copy_,run_underlying hT,Builtin.lenOf,Builtin.firstCells,sizeOf,typeInfo,hi]
 rw[hn]at hl
 simp[Nat.min_def]at hl hst⊢
 simp[hl,hst]
theorem Nq{T ty Et:Nat}{i:TypeInfo}(hT:P.underlying T=some (.slice Et))(hi:P.info? Et=some i){d ad:Option Addr}{sLen sCap dLen dCap:Nat}(hn:min sLen dLen=0):
 (Builtin.copy_ #[T,T] ty #[.slice d dLen dCap,.slice ad sLen sCap]).run P w= .ok (goInt (min sLen dLen:Nat)) w:=by
 have hl: ∀(x:Addr),(loadCells x 0).run P w= .ok #[] w:=fun x=>by simpa using run_loadCells_list (P:=P) w x [] (by simp)
 have hn':Nat.min sLen dLen=0:=hn
 cases d<;>cases ad<;>simp[Builtin.copy_,run_underlying hT,Builtin.lenOf,Builtin.firstCells,sizeOf,typeInfo,hi,hn,hn',storeCells,hl]
theorem agF(hc:Conc G nt C I ρ F a w){o:Oper}{T:Nat}{vs vx:Value}(hd:dJ nt o.dst)
 (hrun: ∀v w',(Builtin.copy_ #[T,T] o.type #[vs,vx]).run P w= .ok v w'->(execOp a.eval o).run P w= .ok (.value v) w')
 {Et:Nat} (hT:P.underlying T=some (.slice Et)) {sx sy:SV} (hx:aC I ρ w sx vs) (hy:aC I ρ w sy vx)
 {u:bf} (t:To P G F (aeZ P o.dst Et (P.cellsOf Et) sx sy) u) {F1:Fs} (hp:fH F u.pub F1):fJ P G nt C I ρ a w o (eG F1 u):=by
 unfold aeZ at t
 split at t
 ·exact t.au.elim
 ·rename_i hz
  obtain⟨ti,z,hti,hz,hzs,hts,hpos⟩:=kZ hz
  split at t
  ·rename_i n s0 off len
   obtain⟨b,hb,t1⟩:=t.eP
   split at t1
   ·rename_i E' s L g
    split at t1
    ·rename_i h1
     have h1:=Nat.eq_of_beq_eq_true h1
     subst h1
     obtain⟨m,g2,t2,hs⟩:=To.rY hc t1 hy
     have:=t2.dV;subst this
     cases hp
     obtain⟨h1,h2,h3,h4⟩:=hc.own n _ hb
     simp only[aC]at hx
     obtain⟨h5,h6,h7,ad,rfl,h8⟩:=hx
     obtain⟨bx,c,rfl,hsrc⟩:=hs
     have es:s0=P.cellsOf Et:=h5.symm.trans h2
     rw[es]at h8
     intro next Q hn
     have hv: ∀w':World,aC I ρ w' (.d (.int .i64 (min m len:Nat))) (goInt (min m len:Nat)):=fun w'=>by simp[aC,bM,goInt]
     rcases Nat.eq_zero_or_pos (min m len)with e|hp0
     ·refine dY (hrun _ _ (Nq hT hti e)) (hn I ρ _ w ?_)
      have hg:(fun i j=>if off<=i∧i<off+min m len then g2 (i-off) j else g i j)=g:=by
       funext i j
       rw[if_neg Om]
      have hF:fE F n (.row E' (P.cellsOf Et) L fun i j=>if off<=i∧i<off+min m len then g2 (i-off) j else g i j)=F:=by
       rw[hg]
       unfold fE
       congr 1
       funext k
       split
       ·rename_i h;rw[h,hb]
       ·rfl
      show Conc G nt C I ρ (oH (fE F n _) o.dst _) _ _
      rw[hF]
      exact hc.put hd (hv w) (by simp[dO])
     ·have hcap:0<(ρ n).cap:=Om
      obtain⟨ax,news,rfl,hnl,wU,hnone,AU⟩:=hsrc Om
      obtain⟨arr,h9,h10,h11⟩:=h4 hcap
      have h8:=h8.resolve_right Om
      subst h8
      have hsz:min m len*P.cellsOf Et<=m*P.cellsOf Et:=Nat.mul_le_mul_right _ Om
      have hcl:(news.take (min m len*P.cellsOf Et)).length=min m len*P.cellsOf Et:=by rw[List.length_take];omega
      have hbig:(off+min m len)*P.cellsOf Et<=(ρ n).cap*P.cellsOf Et:=Nat.mul_le_mul_right _ Om
      rw[Nat.add_mul]at hbig
      have hr:=Nr (P:=P) (w:=w) (ty:=o.type) (dLen:=len) (dCap:=(ρ n).cap-off) (sLen:=m) (sCap:=c) hT hti h9 (off:=(ρ n).o+off*P.cellsOf Et) (cs:=news.take (min m len*P.cellsOf Et)) (by rw[hcl,hts]) (fun j v hj=>by
       rw[List.getElem?_take]at hj
       split at hj
       ·exact wU j v hj
       ·cases hj) (by rw[hcl,h10,Nat.add_assoc];exact Nat.add_le_add_left hbig _) (fun v hv=>hnone v (List.mem_of_mem_take hv))
      refine dY (hrun _ _ hr) (hn I ρ _ _ ?_)
      have hS:Same I w (w.setRow (ρ n).b (arr.toList.take ((ρ n).o+off*P.cellsOf Et)++news.take (min m len*P.cellsOf Et)++arr.toList.drop ((ρ n).o+off*P.cellsOf Et+(news.take (min m len*P.cellsOf Et)).length)).toArray):=jZ (hc.sep n _ hb hcap).1
      rw[xW]
      refine(hc.zY (blk:= .row E' (P.cellsOf Et) L fun i j=>if off<=i∧i<off+min m len then g2 (i-off) j else g i j) hb hcap (fun _ h=>h) (fun h=>h) ?_ (by simp[inB])).put hd (hv _) (by simp[dO])
      refine⟨h1,h2,h3,fun _=>⟨_,h9.set (by simp only[List.size_toArray,List.length_append,List.length_take,List.length_drop,Array.length_toList];omega),?_,?_⟩⟩
      ·simp only[List.size_toArray,List.length_append,List.length_take,List.length_drop,Array.length_toList]
       omega
      ·have hl1:(arr.toList.take ((ρ n).o+off*P.cellsOf Et)).length=(ρ n).o+off*P.cellsOf Et:=by rw[List.length_take,Array.length_toList,h10];omega
       intro i j hi hj
       by_cases hc1:off<=i∧i<off+min m len
       ·simp only[hc1,and_self,if_true]
        obtain⟨u,hu,hr⟩:=AU (i-off) j Om hj
        refine⟨u,?_,hr.mono (fun _ h=>h) hS⟩
        have hidx:(ρ n).o+(i*P.cellsOf Et+j)=(ρ n).o+off*P.cellsOf Et+((i-off)*P.cellsOf Et+j):=by
             rw[Nat.add_assoc,<-Nat.add_assoc (off*P.cellsOf Et),<-Nat.add_mul,show off+(i-off)=i by omega]
        have hlt:(i-off)*P.cellsOf Et+P.cellsOf Et<=min m len*P.cellsOf Et:=by rw[<-Nat.succ_mul];exact Nat.mul_le_mul_right _ Om
        rw[hidx]
        simp only[List.getElem?_toArray]
        rw[List.getElem?_append_left (by rw[List.length_append,hl1,hcl];omega),List.getElem?_append_right Om,hl1,Nat.add_sub_cancel_left,List.getElem?_take,if_pos Om]
        exact hu
       ·simp only[hc1,if_false]
        obtain⟨u,hu,hr⟩:=h11 i j hi hj
        refine⟨u,?_,hr.mono (fun _ h=>h) hS⟩
        simp only[List.getElem?_toArray]
        by_cases hlo:i<off
        ·have hlt:i*P.cellsOf Et+P.cellsOf Et<=off*P.cellsOf Et:=by rw[<-Nat.succ_mul];exact Nat.mul_le_mul_right _ Om
         rw[List.append_assoc,List.getElem?_append_left Om,List.getElem?_take,if_pos Om]
         simpa using hu
        ·have hlt:(off+min m len)*P.cellsOf Et<=i*P.cellsOf Et:=Nat.mul_le_mul_right _ Om
         rw[Nat.add_mul]at hlt
         rw[List.getElem?_append_right (by rw[List.length_append,hl1,hcl];omega),List.length_append,hl1,hcl,List.getElem?_drop]
         rw[show(ρ n).o+off*P.cellsOf Et+min m len*P.cellsOf Et+((ρ n).o+(i*P.cellsOf Et+j)-((ρ n).o+off*P.cellsOf Et+min m len*P.cellsOf Et))=(ρ n).o+(i*P.cellsOf Et+j)by omega]
         simpa using hu
    ·exact t1.au.elim
   ·exact t1.au.elim
  ·exact t.au.elim
theorem JR{T ty Et:Nat}{i:TypeInfo}{z:Value}(hT:P.underlying T=some (.slice Et))(hi:P.info? Et=some i)(hz:i.zero=some z){g off len dCap:Nat}{cur:Array Value}{t:TypeId}
 (hg:kY w g cur t) (hl:0<len) (hfit:off+len*z.cells.size<=cur.size) (h1: ∀v∈(Builtin.zeroCells z.cells len).toList,v.oneCell'=true):
 (Builtin.clear_ #[T] ty #[.slice (some ⟨g,off,none⟩) len dCap]).run P w=
   .ok (.tuple #[]) (w.setRow g (cur.toList.take off++(Builtin.zeroCells z.cells len).toList++cur.toList.drop (off+(Builtin.zeroCells z.cells len).toList.length)).toArray):=by
 have hst:=jH (P:=P) g off t (Builtin.zeroCells z.cells len).toList 0 cur w hg (by simpa[size_zeroCells]using hfit) h1
 obtain⟨n,rfl⟩: ∃n,len=n+1:=⟨len-1,Om⟩
 simp[Builtin.clear_,run_underlying hT,zeroValue,typeInfo,hi,hz]
 simp at hst
 simp[hst]
theorem JQ{T ty Et:Nat}(hT:P.underlying T=some (.slice Et)){d:Option Addr}{dCap:Nat}:
 (Builtin.clear_ #[T] ty #[.slice d 0 dCap]).run P w= .ok (.tuple #[]) w:=by
 cases d<;>simp[Builtin.clear_,run_underlying hT]
theorem adC(hc:Conc G nt C I ρ F a w){o:Oper}{T:Nat}{vs:Value}(hd:dJ nt o.dst)
 (hrun: ∀v w',(Builtin.clear_ #[T] o.type #[vs]).run P w= .ok v w'->(execOp a.eval o).run P w= .ok (.value v) w')
 {Et:Nat} (hT:P.underlying T=some (.slice Et)) {sx:SV} (hx:aC I ρ w sx vs)
 {u:bf} (t:To P G F (Yf P o.dst Et (P.cellsOf Et) sx) u) {F1:Fs} (hp:fH F u.pub F1):fJ P G nt C I ρ a w o (eG F1 u):=by
 unfold Yf at t
 split at t
 ·exact t.au.elim
 ·rename_i hz
  obtain⟨ti,z,hti,hzz,hzs,hts,hpos⟩:=kZ hz
  split at t
  ·rename_i n s0 off len
   obtain⟨b,hb,t1⟩:=t.eP
   split at t1
   ·rename_i E' s L g
    split at t1
    ·rename_i h1
     have h1:=Nat.eq_of_beq_eq_true h1
     subst h1
     obtain⟨i2,z2,cs,us,hi2,hz2,hzc,hul,t2,k1,k2⟩:=To.qU (I:=I) (ρ:=ρ) (w:=w) t1
     rw[hti]at hi2;cases hi2
     rw[hzz]at hz2;cases hz2
     obtain⟨zd,e,t3⟩:=To.lJ t2
     subst e
     have:=t3.dV;subst this
     cases hp
     obtain⟨h1,h2,h3,h4⟩:=hc.own n _ hb
     simp only[aC]at hx
     obtain⟨h5,h6,h7,ad,rfl,h8⟩:=hx
     have es:s0=P.cellsOf Et:=h5.symm.trans h2
     rw[es]at h8
     intro next Q hn
     have hv: ∀w':World,aC I ρ w' (.cO []) (.tuple #[]):=fun w'=>by simp[aC,aT]
     rcases Nat.eq_zero_or_pos len with e|hp0
     ·subst e
      refine dY (hrun _ _ (JQ hT)) (hn I ρ _ w ?_)
      have hg:(fun i j=>if off<=i∧i<off+0 then zd.getD j default else g i j)=g:=by
       funext i j
       rw[if_neg Om]
      have hF:fE F n (.row E' (P.cellsOf Et) L fun i j=>if off<=i∧i<off+0 then zd.getD j default else g i j)=F:=by
       rw[hg]
       unfold fE
       congr 1
       funext k
       split
       ·rename_i h;rw[h,hb]
       ·rfl
      show Conc G nt C I ρ (oH (fE F n _) o.dst _) _ _
      rw[hF]
      exact hc.put hd (hv w) (by simp[dO,jW])
     ·have hcap:0<(ρ n).cap:=Om
      obtain⟨arr,h9,h10,h11⟩:=h4 hcap
      have h8:=h8.resolve_right Om
      subst h8
      have hz0:aT I ρ w (zd.map .d) us:=k1.1
      have hzl:=hz0.length
      simp only[List.length_map]at hzl
      have akp:us.length=P.cellsOf Et:=Om
      have hrow:=yK (I:=I) (w:=w) (len:=len) (sz:=P.cellsOf Et) (us:=us) (ds:=zd) hpos akp (fun j hj=>hz0.data j Om)
      obtain⟨news,hnews⟩: ∃news,news=(Builtin.zeroCells z.cells len).toList:=⟨_,rfl⟩
      have hne:news=((Array.range (len*P.cellsOf Et)).map ((Array.mk us)[· % (Array.mk us).size]!)).toList:=by
       rw[hnews,Builtin.zeroCells,hzc]
       simp only[List.size_toArray,akp]
      rw[<-hne]at hrow
      obtain⟨hcl,AU⟩:=hrow
      have hbig:(off+len)*P.cellsOf Et<=(ρ n).cap*P.cellsOf Et:=Nat.mul_le_mul_right _ Om
      rw[Nat.add_mul]at hbig
      have hr:=JR (P:=P) (w:=w) (ty:=o.type) (len:=len) (dCap:=(ρ n).cap-off) hT hti hzz h9 (off:=(ρ n).o+off*P.cellsOf Et) hp0 (by rw[h10,hzs,Nat.add_assoc];exact Nat.add_le_add_left hbig _) (fun v hv=>by
       rw[<-hnews,hne]at hv
       simp only[Array.toList_map,List.mem_map]at hv
       obtain⟨q,_,rfl⟩:=hv
       have hq:q % (Array.mk us).size<us.length:=Nat.mod_lt _ (by simp;omega)
       have e:(Array.mk us)[q % (Array.mk us).size]! =us[q % (Array.mk us).size]:=by
        generalize q % (Array.mk us).size=r at hq⊢
        simp[getElem!_def,List.getElem?_eq_getElem hq]
       rw[e]
       exact k1.2 _ (List.getElem_mem hq))
      rw[<-hnews]at hr
      refine dY (hrun _ _ hr) (hn I ρ _ _ ?_)
      have hS:Same I w (w.setRow (ρ n).b (arr.toList.take ((ρ n).o+off*P.cellsOf Et)++news++arr.toList.drop ((ρ n).o+off*P.cellsOf Et+news.length)).toArray):=jZ (hc.sep n _ hb hcap).1
      rw[xW]
      refine(hc.zY (blk:= .row E' (P.cellsOf Et) L fun i j=>if off<=i∧i<off+len then zd.getD j default else g i j) hb hcap (fun _ h=>h) (fun h=>h) ?_ (by simp[inB])).put hd (hv _) (by simp[dO,jW])
      refine⟨h1,h2,h3,fun _=>⟨_,h9.set (by simp only[List.size_toArray,List.length_append,List.length_take,List.length_drop,Array.length_toList];omega),?_,?_⟩⟩
      ·simp only[List.size_toArray,List.length_append,List.length_take,List.length_drop,Array.length_toList]
       omega
      ·have hl1:(arr.toList.take ((ρ n).o+off*P.cellsOf Et)).length=(ρ n).o+off*P.cellsOf Et:=by rw[List.length_take,Array.length_toList,h10];omega
       intro i j hi hj
       by_cases hc1:off<=i∧i<off+len
       ·simp only[hc1,and_self,if_true]
        obtain⟨u,hu,hr⟩:=AU (i-off) j Om hj
        refine⟨u,?_,hr.mono (fun _ h=>h) hS⟩
        have hidx:(ρ n).o+(i*P.cellsOf Et+j)=(ρ n).o+off*P.cellsOf Et+((i-off)*P.cellsOf Et+j):=by
         rw[Nat.add_assoc,<-Nat.add_assoc (off*P.cellsOf Et),<-Nat.add_mul,show off+(i-off)=i by omega]
        have hlt:(i-off)*P.cellsOf Et+P.cellsOf Et<=len*P.cellsOf Et:=by rw[<-Nat.succ_mul];exact Nat.mul_le_mul_right _ Om
        rw[hidx]
        simp only[List.getElem?_toArray]
        rw[List.getElem?_append_left (by rw[List.length_append,hl1,hcl];omega),List.getElem?_append_right Om,hl1,Nat.add_sub_cancel_left]
        exact hu
       ·simp only[hc1,if_false]
        obtain⟨u,hu,hr⟩:=h11 i j hi hj
        refine⟨u,?_,hr.mono (fun _ h=>h) hS⟩
        simp only[List.getElem?_toArray]
        by_cases hlo:i<off
        ·have hlt:i*P.cellsOf Et+P.cellsOf Et<=off*P.cellsOf Et:=by rw[<-Nat.succ_mul];exact Nat.mul_le_mul_right _ Om
         rw[List.append_assoc,List.getElem?_append_left Om,List.getElem?_take,if_pos Om]
         simpa using hu
        ·have hlt:(off+len)*P.cellsOf Et<=i*P.cellsOf Et:=Nat.mul_le_mul_right _ Om
         rw[Nat.add_mul]at hlt
         rw[List.getElem?_append_right (by rw[List.length_append,hl1,hcl];omega),List.length_append,hl1,hcl,List.getElem?_drop]
         rw[show(ρ n).o+off*P.cellsOf Et+len*P.cellsOf Et+((ρ n).o+(i*P.cellsOf Et+j)-((ρ n).o+off*P.cellsOf Et+len*P.cellsOf Et))=(ρ n).o+(i*P.cellsOf Et+j)by omega]
         simpa using hu
    ·exact t1.au.elim
   ·exact t1.au.elim
  ·exact t.au.elim
theorem P7{x:SV}{v:Value}{k:Nat->M bf}{u:bf}(h:To P G F (sliceLen x k) u)(hv:aC I ρ w x v): ∃n,To P G F (k n) u∧∃ad c,v= .slice ad n c:=by
 unfold sliceLen at h
 split at h
 ·simp only[aC,bM]at hv
  obtain⟨ad,c,rfl,_⟩:=hv
  exact⟨_,h,_,_,rfl⟩
 ·simp only[aC,bM]at hv
  obtain⟨ad,c,rfl,_⟩:=hv
  exact⟨_,h,_,_,rfl⟩
 ·simp only[aC,bM]at hv
  obtain⟨rfl,_⟩:=hv
  exact⟨_,h,_,_,rfl⟩
 ·simp only[aC]at hv
  obtain⟨_,_,_,ad,rfl,_⟩:=hv
  exact⟨_,h,_,_,rfl⟩
 ·exact h.au.elim
theorem JX{x:SV}{us:List Value}(h:aT I ρ w [x] us): ∃v,us=[v]∧aC I ρ w x v:=by
 simp only[aT]at h
 obtain⟨v,r,rfl,hv,rfl⟩:=h
 exact⟨v,rfl,hv⟩
theorem EF{x y:SV}{us:List Value}(h:aT I ρ w [x,y] us): ∃v z,us=[v,z]∧aC I ρ w x v∧aC I ρ w y z:=by
 simp only[aT]at h
 obtain⟨v,r,rfl,hv,z,r',rfl,hz,rfl⟩:=h
 exact⟨v,z,rfl,hv,hz⟩
theorem Xa(hc:Conc G nt C I ρ F a w){o:Oper}{b:Builtin}{args:List Operand}{ats:List Nat}(ho:o.op= .call ⟨.builtin b,⟨args⟩,⟨ats⟩⟩)(hd:dJ nt o.dst)
 {u:bf} (t:To P G F (n_ P G E o.dst o.op) u) {F1:Fs} (hp:fH F u.pub F1) (hf:jB F u):fJ P G nt C I ρ a w o (eG F1 u):=by
 rw[ho]at t
 simp only[n_]at t
 obtain⟨cs,t1,hvs⟩:=To.zh hc t
 have hrun: ∃cst:Array Bool,(execOp a.eval o).run P w=(builtin b ⟨ats⟩ o.type cst ⟨args.map a.eval⟩).run P w:=by
  refine⟨(Array.mk args).map fun| .const _=>true|_=>false,?_⟩
  simp only[execOp,ho,resolve,invoke,Sem.run_bind,Sem.run_pure,Result.andThen_ok,List.map_toArray]
  rfl
 obtain⟨cst,hrun⟩:=hrun
 have hr:=hvs.rep
 clear t
 unfold VA at t1
 split at t1
 ·obtain⟨v,Zt,hv⟩:=JX hr
  rw[Zt]at hrun
  split at t1
  ·split at t1
   ·rename_i hT
    split at t1
    ·have:=dA t1;subst this
     cases hp
     have:=ou hv;subst this
     refine bJ hc (pJ (qO (.int .i64 _) trivial)) hd ?_
     rw[hrun]
     simp[builtin,Builtin.len_,run_underlying hT,goInt,lq]
     rfl
    ·exact t1.au.elim
   ·rename_i hT
    obtain⟨n,t2,ad,c,rfl⟩:=P7 t1 hv
    have:=dA t2;subst this
    cases hp
    refine bJ hc (pJ (qO (.int .i64 _) trivial)) hd ?_
    rw[hrun]
    simp[builtin,Builtin.len_,run_underlying hT,goInt,lq]
   ·exact t1.au.elim
  ·exact t1.au.elim
 ·obtain⟨v,z,Zt,hv,hz⟩:=EF hr
  rw[Zt,iy hv,iy hz]at hrun
  have:=dA t1;subst this
  cases hp
  refine bJ hc (pJ (qO (.int _ _) trivial)) hd ?_
  rw[hrun]
  simp[builtin,Builtin.min_,Builtin.min2,lq]
 ·obtain⟨v,z,Zt,hv,hz⟩:=EF hr
  rw[Zt,iy hv,iy hz]at hrun
  have:=dA t1;subst this
  cases hp
  refine bJ hc (pJ (qO (.int _ _) trivial)) hd ?_
  rw[hrun]
  simp[builtin,Builtin.max_,Builtin.max2,lq]
 ·obtain⟨v,z,Zt,hv,hz⟩:=EF hr
  rw[Zt]at hrun
  split at t1
  ·split at t1
   ·rename_i hTT
    have hTT:=Nat.eq_of_beq_eq_true hTT
    subst hTT
    obtain⟨Et,hT,t2⟩:=To.nK t1
    unfold ZO at t2
    split at t2
    ·refine Xc hc hd (fun v' w' h=> ?_) hT hv hz t2 hp hf
     rw[hrun]
     simp only[builtin,Sem.run_bind,h,Result.andThen_ok,Sem.run_pure]
    split at t2
    ·simp only[aC,bM]at hv
     refine Qs hc hd (fun v' w' h=> ?_) hT hz t2 hp
     rw[hrun,hv.1]
     simp only[builtin,Sem.run_bind,h,Result.andThen_ok,Sem.run_pure]
    ·refine Ot hc hd (fun v' w' h=> ?_) hT hv hz t2 hp hf
     rw[hrun]
     simp only[builtin,Sem.run_bind,h,Result.andThen_ok,Sem.run_pure]
   ·exact t1.au.elim
  ·exact t1.au.elim
 ·obtain⟨v,z,Zt,hv,hz⟩:=EF hr
  rw[Zt]at hrun
  split at t1
  ·split at t1
   ·rename_i hTT
    have hTT:=Nat.eq_of_beq_eq_true hTT
    subst hTT
    obtain⟨Et,hT,t2⟩:=To.nK t1
    refine agF hc hd (fun v' w' h=> ?_) hT hv hz t2 hp
    rw[hrun]
    simp only[builtin,Sem.run_bind,h,Result.andThen_ok,Sem.run_pure]
   ·exact t1.au.elim
  ·exact t1.au.elim
 ·obtain⟨v,Zt,hv⟩:=JX hr
  rw[Zt]at hrun
  split at t1
  ·obtain⟨Et,hT,t2⟩:=To.nK t1
   refine adC hc hd (fun v' w' h=> ?_) hT hv t2 hp
   rw[hrun]
   simp only[builtin,Sem.run_bind,h,Result.andThen_ok,Sem.run_pure]
  ·exact t1.au.elim
 ·exact t1.au.elim
end Go.Sx
namespace Go.Sx
open Go
variable {P:Program}{G:Nat->Option (Nat×(Nat->D))}{nt:Nat}{C:Ctx}{I:Nat->Prop}{ρ:Nat->Loc}{F:Fs}{a:Act}{w:World}{E:List Nat}{T:Nat}
theorem abZ{d:D}{b:UInt8}(h:afe d=some b): ∃n,d= .int .u8 n∧b=UInt8.ofNat n.toNat:=by
 unfold afe at h
 split at h
 ·cases h;exact⟨_,rfl,rfl⟩
 ·cases h
theorem LZ{get:Nat->Nat->D}: ∀{n i:Nat}{l:List UInt8},Bg get i n=some l->l.length=n∧∀k,k<n-> ∃m b,get (i+k) 0= .int .u8 m∧l[k]? =some b∧b=UInt8.ofNat m.toNat
 |0,i,l,h=>by simp only[Bg,Option.some.injEq]at h;subst h;exact⟨rfl,by simp⟩
 |n+1,i,l,h=>by
  simp only[Bg]at h
  split at h
  ·rename_i b l' hb hl
   cases h
   obtain⟨h1,h2⟩:=LZ hl
   refine⟨by simp[h1],fun k hk=> ?_⟩
   cases k with
   |zero=>
    obtain⟨m,h3,h4⟩:=abZ hb
    exact⟨m,b,h3,by simp,h4⟩
   |succ k=>
    obtain⟨m,b',h3,h4,h5⟩:=h2 k Om
    exact⟨m,b',by rw[show i+(k+1)=i+1+k by omega];exact h3,by simpa using h4,h5⟩
  ·cases h
theorem fold_push(ns:List Int): ∀s:ByteArray,ns.foldl (fun r n=>r.push (UInt8.ofNat n.toNat)) s=⟨s.data++(ns.map fun n=>UInt8.ofNat n.toNat).toArray⟩:=by
 induction ns with
 |nil=>intro s;simp
 |cons n ns ih=>
  intro s
  simp only[List.foldl_cons,ih]
  simp[ByteArray.push]
theorem Ew{m:Nat}{g:Nat->Nat->D}{v:Value}{l:List UInt8}(hv:yj I w 1 m g v)(hl:Bg g 0 m=some l):(Conv.bytesToString v).run P w= .ok (.string ⟨⟨l⟩⟩) w:=by
 obtain⟨h1,h2⟩:=LZ hl
 obtain⟨ad,c,rfl,hv⟩:=hv
 cases ad with
 |none=>
  have: ¬0<m:=fun h=>by obtain⟨b,_,hb,_⟩:=hv h;cases hb
  have:l=[]:=List.eq_nil_of_length_eq_zero Om
  subst this
  simp[Conv.bytesToString]
  rfl
 |some ad=>
  have key: ∃ns:List Int,(loadCells ad m).run P w= .ok (ns.map (Value.int .u8)).toArray w∧l=ns.map fun n=>UInt8.ofNat n.toNat:=by
   by_cases hm:0<m
   ·obtain⟨b,news,hb,hnl,hcell,_,hrep⟩:=hv hm
    cases hb
    have hnews: ∀k,k<m-> ∃n,news[k]? =some (.int .u8 n)∧l[k]? =some (UInt8.ofNat n.toNat):=by
     intro k hk
     obtain⟨u,hu,hr⟩:=hrep k 0 hk Om
     obtain⟨n,b',h3,h4,h5⟩:=h2 k hk
     rw[show 0+k=k by omega]at h3
     rw[h3]at hr
     simp only[bM]at hr
     subst hr;subst h5
     exact⟨n,by simpa using hu,h4⟩
    refine⟨news.map fun v=>match v with| .int _ n=>n|_=>0,?_,?_⟩
    ·have hld:=run_loadCells_list (P:=P) w ad news hcell
     rw[show news.length=m by omega]at hld
     rw[hld]
     congr 2
     rw[List.map_map]
     apply List.ext_getElem?
     intro k
     by_cases hk:k<m
     ·obtain⟨n,h3,_⟩:=hnews k hk
      simp[h3]
     ·rw[List.getElem?_eq_none Om,List.getElem?_eq_none (by simp;omega)]
    ·rw[List.map_map]
     apply List.ext_getElem?
     intro k
     by_cases hk:k<m
     ·obtain⟨n,h3,h4⟩:=hnews k hk
      simp[h3,h4]
     ·rw[List.getElem?_eq_none Om,List.getElem?_eq_none (by simp;omega)]
   ·have:m=0:=Om
    subst this
    have:l=[]:=List.eq_nil_of_length_eq_zero h1
    subst this
    exact⟨[],by have:=run_loadCells_list (P:=P) w ad [] (by simp);simpa using this,rfl⟩
  obtain⟨ns,h3,rfl⟩:=key
  rw[run_bytesToString w ad m c ns h3,fold_push]
  simp
theorem To.Yk(hc:Conc G nt C I ρ F a w){x:SV}{v:Value}{k:List UInt8->M bf}{u:bf}(h:To P G F (Yl x k) u)(hv:aC I ρ w x v):
 ∃l ad m c,To P G F (k l) u∧v= .slice ad m c∧(Conv.bytesToString v).run P w= .ok (.string ⟨⟨l⟩⟩) w:=by
 unfold Yl at h
 split at h
 ·simp only[aC,bM]at hv
  obtain⟨rfl,_⟩:=hv
  exact⟨[],_,_,_,h,rfl,by simp[Conv.bytesToString];rfl⟩
 ·obtain⟨hb,h⟩:=h.dh
  have hs:=yF hv
  obtain⟨ad,c,e,_⟩:=id hs
  exact⟨_,ad,_,c,h,e,Ew hs hb⟩
 ·obtain⟨b,hb,h'⟩:=h.eP
  clear h
  split at h'
  ·obtain⟨hb2,h'⟩:=h'.dh
   have hs:=Bz hc hb hv
   obtain⟨ad,c,e,_⟩:=id hs
   exact⟨_,ad,_,c,h',e,Ew hs hb2⟩
  ·exact h'.au.elim
 ·exact h.au.elim
theorem W_(hc:Conc G nt C I ρ F a w){o:Oper}{src T:Nat}{x:Operand}(ho:o.op= .convert src T x)(hd:dJ nt o.dst){u:bf}(t:To P G F (n_ P G E o.dst o.op) u)
 {F1:Fs} (hp:fH F u.pub F1) (hf:jB F u):fJ P G nt C I ρ a w o (eG F1 u):=by
 rw[ho]at t
 simp only[n_]at t
 split at t
 ·rename_i e he
  unfold Sv at he
  split at he
  ·rename_i e' hs hT
   split at he
   ·rename_i hu
    cases he
    obtain⟨d,hdst,t⟩:=jv t
    obtain⟨sx,t,hx⟩:=To.bU hc t
    split at t
    ·rename_i l
     have:=t.dV;subst this
     cases hp
     rw[sQ]
     have ex:=ou hx.rep
     have hr:=run_bytes_of_string (P:=P) w src T e ⟨⟨l⟩⟩ hs hT hu
     have hge:=grownCap_ge w l.length 0 e
     have hsz:(ByteArray.mk ⟨l⟩).size=l.length:=rfl
     rw[hsz]at hr
     have hbs:(bytesRow (ByteArray.mk ⟨l⟩) (grownCap w l.length 0 e)).size=grownCap w l.length 0 e:=by
      simp[bytesRow,hsz]
      omega
     intro next Q hn
     refine dY (v:= .slice (some ⟨w.heap.size,0,none⟩) l.length (grownCap w l.length 0 e)) ?_ (hn I _ _ _ ((hc.drew.mW (o:= .cells (bytesRow (ByteArray.mk ⟨l⟩) (grownCap w l.length 0 e)) e ((bytesRow (ByteArray.mk ⟨l⟩) (grownCap w l.length 0 e)).size,(bytesRow (ByteArray.mk ⟨l⟩) (grownCap w l.length 0 e)).size+1)) (hf.new d (by simp)) (cap:=grownCap w l.length 0 e) (rl:=l.length) (sz:=1) ?_ (by simp[inB])).put hd (rU hge) (by intro m hm;simp only[dO]at hm;exact .inl (hm.symm.trans (by simp)))))
     ·simp only[execOp,ho,Sem.run_bind,ex,hr,Result.andThen_ok,Sem.run_pure]
     ·refine⟨rfl,rfl,hge,fun _=>⟨_,⟨_,dS w.drew _,.inr (Nat.le_refl _)⟩,by rw[hbs,Nat.mul_one];exact(Nat.zero_add _).symm,fun i j hi hj=> ?_⟩⟩
      have hj:j=0:=Om
      subst hj
      refine⟨.int .u8 (l.getD i 0).toNat,?_,by simp[bM,byteRow]⟩
      simp only[bytesRow,Nat.mul_one,Nat.add_zero,Nat.zero_add]
      rw[Array.getElem?_append_left (by simpa using hi)]
      simp[List.getD,List.getElem?_eq_getElem hi]
    ·exact t.au.elim
   ·cases he
  ·cases he
 obtain⟨sx,t,hx⟩:=To.bU hc t
 have fin: ∀z:D,P_ z->To P G F (upd o.dst (.d z)) u->(convert src T (a.eval x)).run P w= .ok (lq z) w->fJ P G nt C I ρ a w o (eG F1 u):=by
  intro z hz t h1
  have:=dA t;subst this
  cases hp
  exact bJ hc (pJ (qO z hz)) hd (by simp[execOp,ho,h1])
 unfold ah1 at t
 split at t
 ·rename_i d k hs hT
  split at t
  ·have ex:=iy hx.rep
   refine fin (.int _ _) trivial t ?_
   rw[ex]
   simp only[convert,Sem.run_bind,run_underlying hs,run_underlying hT,Result.andThen_ok]
   cases d<;>simp[Conv.intToInt,lq]
  ·exact t.au.elim
 ·rename_i e hs hT
  split at t
  ·rename_i he
   obtain⟨l,ad,m,c,t,ev,hr⟩:=To.Yk hc t hx.rep
   refine fin (.str l) trivial t ?_
   rw[ev]at hr⊢
   rw[run_convert_bytes_string w src T e ad m c hs he hT,hr]
   rfl
  ·exact t.au.elim
 ·rename_i hs hT
  split at t
  ·have ex:=ou hx.rep
   refine fin (.str _) trivial t ?_
   rw[ex]
   simp[convert,run_underlying hs,run_underlying hT,lq]
  ·exact t.au.elim
 ·exact t.au.elim
theorem To.rM(hc:Conc G nt C I ρ F a w){x:Option Operand}{k:Option Int->M bf}{u:bf}(h:To P G F (DX x k) u):
 ∃lo,To P G F (k lo) u∧(x.map a.eval=none∧lo=none∨∃kd n,x.map a.eval=some (.int kd n)∧lo=some n):=by
 cases x with
 |none=>exact⟨none,h,.inl ⟨rfl,rfl⟩⟩
 |some x=>
  obtain⟨sv,h,hv⟩:=To.bU hc h
  split at h
  ·have:=iy hv.rep
   exact⟨_,h,.inr ⟨_,_,congrArg some this,rfl⟩⟩
  ·exact h.au.elim
theorem QZ(l:List UInt8)(i j:Nat):(ByteArray.mk ⟨l⟩).extract i j=⟨⟨(l.take j).drop i⟩⟩:=by
 apply ByteArray.ext
 rw[ByteArray.data_extract]
 simp[List.extract_eq_take_drop,List.drop_take]
theorem Nl(hT:P.underlying T=some .string)(l:List UInt8)(lo hi:Option Value){i j:Nat}(hij:i<=j)(hj:j<=l.length)
 (hlo:lo=none∧i=0∨∃kd,lo=some (.int kd i)) (hhi:hi=none∧j=l.length∨∃kd,hi=some (.int kd j)):
 (Instr.slice T (.string ⟨⟨l⟩⟩) lo hi none).run P w= .ok (.string ⟨⟨(l.take j).drop i⟩⟩) w:=by
 have hs:(ByteArray.mk ⟨l⟩).size=l.length:=rfl
 rcases hlo with⟨rfl,rfl⟩|⟨kd,rfl⟩<;>rcases hhi with⟨rfl,rfl⟩|⟨kd',rfl⟩<;>
  simp[Instr.slice,run_underlying hT,Instr.sliceBounds,Instr.sliceBound,asIntOf,hs,QZ,hij,hj]
theorem Qa{Et len cap:Nat}{ti:TypeInfo}(hT:P.underlying T=some (.slice Et))(hti:P.info? Et=some ti)(ad:Option Addr)(lo hi:Option Value){i j:Nat}(hij:i<=j)(hj:j<=len)(hl:len<=cap)
 (hlo:lo=none∧i=0∨∃kd,lo=some (.int kd i)) (hhi:hi=none∧j=len∨∃kd,hi=some (.int kd j)):
 (Instr.slice T (.slice ad len cap) lo hi none).run P w= .ok (.slice (if cap=i then ad else ad.map (·.add (i*ti.size))) (j-i) (cap-i)) w:=by
 have hjc:j<=cap:=Om
 rcases hlo with⟨rfl,rfl⟩|⟨kd,rfl⟩<;>rcases hhi with⟨rfl,rfl⟩|⟨kd',rfl⟩<;>
  simp[Instr.slice,run_underlying hT,Instr.sliceBounds,Instr.sliceBound,asIntOf,fG hti,hij,hjc]
theorem Xl{len sz:Nat}{get:Nat->Nat->D}{v:Value}(hv:aC I ρ w (.d (.list len sz get)) v){i j:Nat}(hij:i<=j)(hj:j<=len):
 ∃ad cap,v= .slice ad len cap∧len<=cap∧aC I ρ w (.d (.list (j-i) sz fun a b=>get (i+a) b)) (.slice (if cap=i then ad else ad.map (·.add (i*sz))) (j-i) (cap-i)):=by
 simp only[aC,bM]at hv
 obtain⟨ad,cap,rfl,hc,hr⟩:=hv
 refine⟨ad,cap,rfl,hc,?_⟩
 simp only[aC,bM]
 refine⟨_,_,rfl,Om,fun hlt=> ?_⟩
 obtain⟨b,o,rfl,hI,hcell⟩:=hr Om
 have:cap≠i:=Om
 refine⟨b,o+i*sz,by simp[this,add_eq],hI,fun k m hk hm=> ?_⟩
 obtain⟨u,hu,hru⟩:=hcell (i+k) m Om hm
 refine⟨u,?_,hru⟩
 rw[<-hu,Nat.add_mul]
 congr 2
 omega
theorem aaT{n sz off len:Nat}{v:Value}(hv:aC I ρ w (.bW n sz off len) v){i j:Nat}(hij:i<=j)(hj:j<=len):
 ∃ad cap,v= .slice ad len cap∧len<=cap∧aC I ρ w (.bW n sz (off+i) (j-i)) (.slice (if cap=i then ad else ad.map (·.add (i*sz))) (j-i) (cap-i)):=by
 simp only[aC]at hv
 obtain⟨h1,h2,h3,ad,rfl,h4⟩:=hv
 refine⟨ad,_,rfl,Om,?_⟩
 simp only[aC]
 refine⟨h1,Om,h3,_,by rw[Nat.sub_sub],?_⟩
 rcases h4 with rfl|h4
 ·by_cases hci:(ρ n).cap-off=i
  ·exact .inr Om
  ·left
   rw[if_neg hci]
   simp[add_eq,Nat.add_mul,Nat.add_assoc]
 ·exact .inr Om
theorem adv(hc:Conc G nt C I ρ F a w){o:Oper}{T:Nat}{x:Operand}{lo hi:Option Operand}(ho:o.op= .slice T x lo hi none)(hd:dJ nt o.dst){u:bf}(t:To P G F (n_ P G E o.dst o.op) u)
 {F1:Fs} (hp:fH F u.pub F1):fJ P G nt C I ρ a w o (eG F1 u):=by
 rw[ho]at t
 have fin: ∀{sv:SV}{v:Value},Val G I ρ F w sv v->To P G F (upd o.dst sv) u->(Instr.sliceAt T (a.eval x) (lo.map a.eval) (hi.map a.eval) none).run P w= .ok v w->fJ P G nt C I ρ a w o (eG F1 u):=by
  intro sv v hv t h1
  have:=dA t;subst this
  cases hp
  exact bJ hc hv hd (by simp[execOp,ho,h1])
 have toN: ∀{n:Int},0<=n-> ∃m:Nat,n=m:=fun h=>⟨_,(Int.toNat_of_nonneg h).symm⟩
 simp only[n_]at t
 split at t
 ·rename_i hT
  have run: ∀{l:List UInt8}{i j:Nat},a.eval x= .string ⟨⟨l⟩⟩->i<=j->j<=l.length->(lo.map a.eval=none∧i=0∨∃kd,lo.map a.eval=some (.int kd i))->(hi.map a.eval=none∧j=l.length∨∃kd,hi.map a.eval=some (.int kd j))->
   (Instr.sliceAt T (a.eval x) (lo.map a.eval) (hi.map a.eval) none).run P w= .ok (.string ⟨⟨(l.take j).drop i⟩⟩) w:=by
   intro l i j ex h1 h2 h3 h4
   rw[ex]
   simp only[Instr.sliceAt,Sem.run_bind,run_underlying hT,Result.andThen_ok]
   exact Nl hT l _ _ h1 h2 h3 h4
  obtain⟨sx,t,hx⟩:=To.bU hc t
  split at t
  ·rename_i l
   have ex:a.eval x= .string ⟨⟨l⟩⟩:=ou hx.rep
   obtain⟨l1,t1,hlo⟩:=To.rM hc t
   obtain⟨l2,t2,hhi⟩:=To.rM hc t1
   unfold aeY at t2
   split at t2
   ·have hlo:=hlo.resolve_right (by rintro⟨_,_,_,h⟩;cases h)
    have hhi:=hhi.resolve_right (by rintro⟨_,_,_,h⟩;cases h)
    have:=run (i:=0) (j:=l.length) ex Om Om (.inl ⟨hlo.1,rfl⟩) (.inl ⟨hhi.1,rfl⟩)
    exact fin (pJ (qO (.str l) trivial)) t2 (by rw[this];simp[lq])
   ·obtain⟨hb,t2⟩:=t2.dh
    have hlo:=hlo.resolve_left (by rintro⟨_,h⟩;cases h)
    have hhi:=hhi.resolve_right (by rintro⟨_,_,_,h⟩;cases h)
    obtain⟨kd,n,e1,e2⟩:=hlo
    cases e2
    obtain⟨m,rfl⟩:=toN hb.1
    have:=run (i:=m) (j:=l.length) ex Om Om (.inr ⟨kd,e1⟩) (.inl ⟨hhi.1,rfl⟩)
    exact fin (pJ (qO (.str _) trivial)) t2 (by rw[this];simp[lq])
   ·obtain⟨hb,t2⟩:=t2.dh
    have hlo:=hlo.resolve_right (by rintro⟨_,_,_,h⟩;cases h)
    have hhi:=hhi.resolve_left (by rintro⟨_,h⟩;cases h)
    obtain⟨kd,n,e1,e2⟩:=hhi
    cases e2
    obtain⟨m,rfl⟩:=toN hb.1
    have:=run (i:=0) (j:=m) ex Om Om (.inl ⟨hlo.1,rfl⟩) (.inr ⟨kd,e1⟩)
    exact fin (pJ (qO (.str _) trivial)) t2 (by rw[this];simp[lq])
   ·obtain⟨hb,t2⟩:=t2.dh
    have hlo:=hlo.resolve_left (by rintro⟨_,h⟩;cases h)
    have hhi:=hhi.resolve_left (by rintro⟨_,h⟩;cases h)
    obtain⟨kd,n,e1,e2⟩:=hlo
    cases e2
    obtain⟨kd',n',e3,e4⟩:=hhi
    cases e4
    obtain⟨m,rfl⟩:=toN hb.1
    obtain⟨m',rfl⟩:=toN (Int.le_trans hb.1 hb.2.1)
    have:=run (i:=m) (j:=m') ex Om Om (.inr ⟨kd,e1⟩) (.inr ⟨kd',e3⟩)
    exact fin (pJ (qO (.str _) trivial)) t2 (by rw[this];simp[lq])
  ·exact t.au.elim
 ·rename_i Et hT
  obtain⟨sx,t,hx⟩:=To.bU hc t
  obtain⟨l1,t1,hlo⟩:=To.rM hc t
  obtain⟨l2,t2,hhi⟩:=To.rM hc t1
  have run: ∀{ad:Option Addr}{len cap i j:Nat}{ti:TypeInfo},P.info? Et=some ti->a.eval x= .slice ad len cap->i<=j->j<=len->len<=cap->l1.getD 0=i->l2.getD len=j->
   (Instr.sliceAt T (a.eval x) (lo.map a.eval) (hi.map a.eval) none).run P w= .ok (.slice (if cap=i then ad else ad.map (·.add (i*ti.size))) (j-i) (cap-i)) w:=by
   intro ad len cap i j ti hti ex h1 h2 h3 h4 h5
   rw[ex]
   simp only[Instr.sliceAt,Sem.run_bind,run_underlying hT,Result.andThen_ok]
   refine Qa hT hti ad _ _ h1 h2 h3 ?_ ?_
   ·rcases hlo with⟨e1,rfl⟩|⟨kd,n,e1,rfl⟩
    ·exact .inl ⟨e1,by simp at h4;omega⟩
    ·simp at h4;subst h4;exact .inr ⟨kd,e1⟩
   ·rcases hhi with⟨e1,rfl⟩|⟨kd,n,e1,rfl⟩
    ·exact .inl ⟨e1,by simp at h5;omega⟩
    ·simp at h5;subst h5;exact .inr ⟨kd,e1⟩
  unfold ah0 at t2
  split at t2
  ·rename_i len sz get
   split at t2
   ·obtain⟨ti,hti,hsz⟩:=gY ‹_›
    obtain⟨hb,t2⟩:=t2.dh
    obtain⟨i,hi'⟩:=toN hb.1
    obtain⟨j,hj'⟩:=toN (Int.le_trans hb.1 hb.2.1)
    rw[hi',hj']at hb t2
    obtain⟨ad,cap,ex,hcap,hr⟩:=Xl hx.rep (i:=i) (j:=j) Om Om
    have:=run (i:=i) (j:=j) hti ex Om Om hcap hi' hj'
    have e1:((j:Int)-(i:Int)).toNat=j-i:=Om
    have e2:(i:Int).toNat=i:=Om
    rw[e1,e2]at t2
    rw[<-hsz]at this
    exact fin ⟨hr,by simp[dO]⟩ t2 this
   ·exact t2.au.elim
  ·rename_i n sz off len
   split at t2
   ·obtain⟨ti,hti,hsz⟩:=gY ‹_›
    obtain⟨hb,t2⟩:=t2.dh
    obtain⟨i,hi'⟩:=toN hb.1
    obtain⟨j,hj'⟩:=toN (Int.le_trans hb.1 hb.2.1)
    rw[hi',hj']at hb t2
    obtain⟨ad,cap,ex,hcap,hr⟩:=aaT hx.rep (i:=i) (j:=j) Om Om
    have:=run (i:=i) (j:=j) hti ex Om Om hcap hi' hj'
    have e1:((j:Int)-(i:Int)).toNat=j-i:=Om
    have e2:(i:Int).toNat=i:=Om
    rw[e1,e2]at t2
    rw[<-hsz]at this
    exact fin ⟨hr,fun m hm=>hx.nm m (by simpa only[dO]using hm)⟩ t2 this
   ·exact t2.au.elim
  ·split at t2
   ·obtain⟨ti,hti,_⟩:=gY ‹_›
    obtain⟨hb,t2⟩:=t2.dh
    have ex:=hx.rep
    simp only[aC,bM]at ex
    obtain⟨ex,_⟩:=ex
    refine fin (v:= .slice none 0 0) ⟨by simp[aC,bM,Value.oneCell'],by simp[dO]⟩ t2 ?_
    have:=run (i:=0) (j:=0) hti ex Om Om Om (by simpa using hb.1) (by simpa using hb.2)
    simpa using this
   ·exact t2.au.elim
  ·exact t2.au.elim
 ·exact t.au.elim
theorem Ur{len sz:Nat}{get:Nat->Nat->D}{v:Value}(hv:aC I ρ w (.d (.list len sz get)) v){i j m:Nat}(hij:i<=j)(hjm:j<=m)(hm:m<=len):
 ∃ad cap,v= .slice ad len cap∧len<=cap∧aC I ρ w (.d (.list (j-i) sz fun a b=>get (i+a) b)) (.slice (if m=i then ad else ad.map (·.add (i*sz))) (j-i) (m-i)):=by
 simp only[aC,bM]at hv
 obtain⟨ad,cap,rfl,hc,hr⟩:=hv
 refine⟨ad,cap,rfl,hc,?_⟩
 simp only[aC,bM]
 refine⟨_,_,rfl,Om,fun hlt=> ?_⟩
 obtain⟨b,o,rfl,hI,hcell⟩:=hr Om
 have:m≠i:=Om
 refine⟨b,o+i*sz,by simp[this,add_eq],hI,fun k m hk hm=> ?_⟩
 obtain⟨u,hu,hru⟩:=hcell (i+k) m Om hm
 refine⟨u,?_,hru⟩
 rw[<-hu,Nat.add_mul]
 congr 2
 omega
theorem WG{Et len cap:Nat}{ti:TypeInfo}(hT:P.underlying T=some (.slice Et))(hti:P.info? Et=some ti)(ad:Option Addr)(lo:Option Value){i j m:Nat}(hij:i<=j)(hjm:j<=m)(hm:m<=cap)
 (hlo:lo=none∧i=0∨∃kd,lo=some (.int kd i)) {k1 k2:IntKind}:
 (Instr.slice T (.slice ad len cap) lo (some (.int k1 j)) (some (.int k2 m))).run P w= .ok (.slice (if m=i then ad else ad.map (·.add (i*ti.size))) (j-i) (m-i)) w:=by
 rcases hlo with⟨rfl,rfl⟩|⟨kd,rfl⟩<;>
  simp[Instr.slice,run_underlying hT,Instr.sliceBounds,Instr.sliceBound,asIntOf,fG hti,hij,hjm,hm]
theorem aaY(hc:Conc G nt C I ρ F a w){o:Oper}{T:Nat}{x mx:Operand}{lo hi:Option Operand}(ho:o.op= .slice T x lo hi (some mx))(hd:dJ nt o.dst){u:bf}(t:To P G F (n_ P G E o.dst o.op) u)
 {F1:Fs} (hp:fH F u.pub F1):fJ P G nt C I ρ a w o (eG F1 u):=by
 rw[ho]at t
 simp only[n_]at t
 split at t
 ·rename_i Et hT
  obtain⟨sx,t,hx⟩:=To.bU hc t
  obtain⟨ds,ns,t,h1,h2,h3⟩:=To.nI (ρ:=ρ) (w:=w) t
  obtain⟨l1,t,hlo⟩:=To.rM hc t
  obtain⟨l2,t,hhi⟩:=To.rM hc t
  obtain⟨sm,t,hm⟩:=To.bU hc t
  unfold akR at t
  split at t
  ·rename_i len sz get hi' km m' _ _ _
   split at t
   ·obtain⟨ti,hti,hsz⟩:=gY ‹_›
    obtain⟨⟨hb1,hb2,hb3,hb4⟩,t⟩:=t.dh
    have:=t.dV;subst this
    obtain⟨I1,hc1,hI,GU,hnm,_⟩:=hp.LJ hc
    have hB: ∀n b,F.o n=some b->dX I1 ρ w (ρ n) b:=fun n b hb=>(hc.own n b hb).mono hI (fun _ _ _=>rfl) (fun _ _=>rfl) (fun _ _=>rfl)
    have hr:=h3 I1 [a.eval x] (fun n hn hcap=>GU n hn (h1 n hn) hcap) hB (by simp only[aT];exact⟨_,_,rfl,hx.rep.mono hI (fun _ _ _=>rfl) (fun _ _=>rfl),rfl⟩)
    simp only[aT]at hr
    obtain⟨v,r,e,hv,_⟩:=hr
    simp only[List.cons.injEq]at e
    rw[<-e.1]at hv
    have toN: ∀{n:Int},0<=n-> ∃m:Nat,n=m:=fun h=>⟨_,(Int.toNat_of_nonneg h).symm⟩
    obtain⟨i,hi0⟩:=toN hb1
    obtain⟨j,hj0⟩:=toN (Int.le_trans hb1 hb2)
    obtain⟨m,hm0⟩:=toN (Int.le_trans (Int.le_trans hb1 hb2) hb3)
    subst hj0;subst hm0
    rw[hi0]at hb2
    obtain⟨ad,cap,ex,hcap,hrv⟩:=Ur hv (i:=i) (j:=j) (m:=m) Om Om Om
    have em:=iy hm.rep
    obtain⟨kh,nh,eh,eh2⟩:=hhi.resolve_left (by rintro⟨_,h⟩;cases h)
    cases eh2
    have hlo':lo.map a.eval=none∧i=0∨∃kd,lo.map a.eval=some (.int kd i):=by
     rcases hlo with⟨e1,rfl⟩|⟨kd,n,e1,rfl⟩
     ·exact .inl ⟨e1,by simp at hi0;omega⟩
     ·simp at hi0;subst hi0;exact .inr ⟨kd,e1⟩
    have hrun:=WG (P:=P) (w:=w) (len:=len) (k1:=kh) (k2:=km) hT hti ad (lo.map a.eval) (i:=i) (j:=j) (m:=m) Om Om (show m<=cap by omega) hlo'
    rw[hi0]
    rw[aeI]
    have e1:((j:Int)-(i:Int)).toNat=j-i:=Om
    have e2:(i:Int).toNat=i:=Om
    rw[e1,e2]
    intro next Q hn
    refine dY (v:= .slice (if m=i then ad else ad.map (·.add (i*sz))) (j-i) (m-i)) (w':=w) ?_ (hn I1 ρ _ w (hc1.put hd hrv (by simp[dO])))
    simp only[execOp,ho,Sem.run_bind,Option.map_some,eh,em,ex,Instr.sliceAt,run_underlying hT,Result.andThen_ok,hrun,hsz,Sem.run_pure]
   ·exact t.au.elim
  ·exact t.au.elim
 ·exact t.au.elim
theorem Qp(hc:Conc G nt C I ρ F a w){o:Oper}{T:Nat}{l c:Operand}(ho:o.op= .makeSlice T l c)(hd:dJ nt o.dst){u:bf}(t:To P G F (n_ P G E o.dst o.op) u)
 {F1:Fs} (hp:fH F u.pub F1) (hf:jB F u):fJ P G nt C I ρ a w o (eG F1 u):=by
 rw[ho]at t
 simp only[n_]at t
 obtain⟨d,hdst,t⟩:=jv t
 obtain⟨Et,hT,t⟩:=To.nK t
 split at t
 ·rename_i hz
  obtain⟨ti,z,hti,hzz,hzs,hts,hpos⟩:=kZ hz
  obtain⟨i2,z2,cs,us,hi2,hz2,hzc,hul,t,h1,h2⟩:=To.qU (I:=I) (ρ:=ρ) (w:=w) t
  rw[hti]at hi2;cases hi2
  rw[hzz]at hz2;cases hz2
  obtain⟨zd,e,t'⟩:=To.lJ t
  subst e
  clear t
  have t:=t'
  clear t'
  obtain⟨sl,t,hl⟩:=To.bU hc t
  split at t
  ·rename_i kl n
   obtain⟨sc,t,hcp⟩:=To.bU hc t
   split at t
   ·rename_i kc m
    obtain⟨⟨hb1,hb2,hb3,hb4⟩,t⟩:=t.dh
    have:=t.dV;subst this
    cases hp
    rw[sQ]
    have el:=iy hl.rep
    have ec:=iy hcp.rep
    have hby:P.bytesOf Et=ti.bytes:=by simp[Program.bytesOf,hti]
    have hr:=run_make (P:=P) w T Et ti z hT hti hzz kl kc n m hb1 hb2 (by rw[<-hby];exact hb3) hb4
    have hz0:aT I ρ w (zd.map .d) us:=h1.1
    have hzl:=hz0.length
    simp only[List.length_map]at hzl
    have hrow:=yK (I:=I) (w:=w) (len:=m.toNat) (sz:=P.cellsOf Et) (us:=us) (ds:=zd) hpos Om (fun j hj=>hz0.data j Om)
    intro next Q hn
    refine dY (v:= .slice (some ⟨w.heap.size,0,none⟩) n.toNat m.toNat) ?_ (hn I _ _ _ ((hc.mW (o:= .cells (madeCells z.cells (m.toNat*ti.size)) Et) (hf.new d (by simp)) (cap:=m.toNat) (rl:=n.toNat) (sz:=P.cellsOf Et) ?_ (by simp[inB])).put hd (rU Om) (by intro k hm;simp only[dO]at hm;exact .inl (hm.symm.trans (by simp)))))
    ·simp only[execOp,ho,Sem.run_bind,el,ec,hr,Result.andThen_ok,Sem.run_pure]
    ·refine⟨rfl,rfl,by simp only;omega,fun _=>⟨_,.of (dS w _),by simp[size_madeCells,hts],fun i j hi hj=> ?_⟩⟩
     obtain⟨u,hu,hr⟩:=hrow.2 i j Om hj
     refine⟨u,?_,hr.mono (fun _ h=>h) (hc.iw _)⟩
     rw[hts,hzc]
     rw[<-Array.getElem?_toList,show(Loc.o (Oz w.heap.size m.toNat n.toNat (P.cellsOf Et) 0))+(i*P.cellsOf Et+j)=i*P.cellsOf Et+j from Nat.zero_add _]
     exact hu
   ·exact t.au.elim
  ·exact t.au.elim
 ·exact t.au.elim
theorem adw(hc:Conc G nt C I ρ F a w){o:Oper}{T:Nat}{x:Operand}(ho:o.op= .range T x)(hd:dJ nt o.dst){u:bf}(t:To P G F (n_ P G E o.dst o.op) u)
 {F1:Fs} (hp:fH F u.pub F1) (hf:jB F u):fJ P G nt C I ρ a w o (eG F1 u):=by
 rw[ho]at t
 obtain⟨d,hdst,t⟩:=jv t
 split at t
 ·rename_i hT
  obtain⟨sv,t,hv⟩:=To.bU hc t
  split at t
  ·rename_i l
   have ex:a.eval x= .string ⟨⟨l⟩⟩:=ou hv.rep
   have:=t.dV;subst this
   cases hp
   rw[sQ]
   have hcn:=hc.mW (hf.new d (by simp)) (blk:= .iter l 0) (o:= .stringIter ⟨⟨l⟩⟩ 0) (cap:=0) (rl:=0) (sz:=0) (dS w _) (by simp[inB])
   intro next Q hn
   refine dY (v:= .pointer (some ⟨w.heap.size,0,none⟩)) (w':=w.alloc (.stringIter ⟨⟨l⟩⟩ 0)) ?_ (hn _ _ _ _ (hcn.put (by rw[hdst]at hd⊢;exact hd) ?_ ?_))
   ·simp only[execOp,ho,Sem.run_bind,ex,run_range_string w T _ hT,Result.andThen_ok,Sem.run_pure,World.iter]
   ·simp[aC,dU]
   ·intro m hm;simp only[dO]at hm;exact .inl hm.symm
  ·exact t.au.elim
 ·exact t.au.elim
def putObj(w:World)(b:Nat)(o:Obj):World:={w with heap:=w.heap.setIfInBounds b o}
theorem agA(hc:Conc G nt C I ρ F a w){o:Oper}{x:Operand}(ho:o.op= .next x true)(hd:dJ nt o.dst){u:bf}(t:To P G F (n_ P G E o.dst o.op) u)
 {F1:Fs} (hp:fH F u.pub F1):fJ P G nt C I ρ a w o (eG F1 u):=by
 rw[ho]at t
 obtain⟨sv,t,hv⟩:=To.bU hc t
 split at t
 ·rename_i n
  have ex:a.eval x= .pointer (some ⟨(ρ n).b,0,none⟩):=by simpa only[aC]using hv.rep
  obtain⟨b,hb,t1⟩:=t.eP
  clear t
  split at t1
  ·rename_i s pos
   have akt:w.heap[(ρ n).b]? =some (.stringIter ⟨⟨s⟩⟩ pos):=hc.own n _ hb
   have hsize:(ByteArray.mk ⟨s⟩).size=s.length:=rfl
   cases t1 with
   |qY h t1=>
    have hlt:pos<s.length:=Nat.le_of_ble_eq_true h
    have:=t1.dV;subst this
    cases hp
    rw[xW]
    intro next Q hn
    refine dY (v:= .tuple ⟨[.bool true,.int .i64 pos,.int .i32 (gW s pos).1]⟩) (w':=putObj w (ρ n).b (.stringIter ⟨⟨s⟩⟩ (pos+(gW s pos).2))) ?_ (hn I ρ _ _ (Conc.put ?_ hd ?_ ?_))
    ·simp only[execOp,ho,ex,Instr.next,getObj,setObj,Sem.run_bind,Sem.run,akt,Result.andThen,hsize,hlt,if_true,putObj]
     rfl
    ·have hS:=hc.sep n _ hb trivial
     have hlt':=hc.QJ hb trivial
     refine hc.store (blk:= .iter s (pos+(gW s pos).2)) hb (fun _ h=>h) (fun h=>h) ?_ ?_ ?_ ?_ ?_ (by simp[inB])
     ·intro b o hI
      have hne:(ρ n).b≠b:=by rintro rfl;exact hS.1 hI
      exact World.cell?_of_block (by simp[putObj,Array.getElem?_setIfInBounds_ne hne])
     ·intro m b k hm hne hl
      have hne':(ρ n).b≠k:=fun e=>hne (hc.iE m n b _ k hm hb hl e.symm)
      simp[putObj,Array.getElem?_setIfInBounds_ne hne']
     ·refine hc.keep.trans (T:=fun k=>k=(ρ n).b) ⟨rfl,rfl,rfl,by simp[putObj],fun k _ hk=> ?_,Nat.le_refl _⟩ ?_
      ·have hne:(ρ n).b≠k:=fun e=>hk e.symm
       simp[putObj,Array.getElem?_setIfInBounds_ne hne]
      ·rintro i rfl;exact hS.2.symm
     ·intro b hI;have:=hc.nT b hI;simpa[putObj]using this
     ·show(putObj w (ρ n).b _).heap[(ρ n).b]? =_
      simp[putObj,hlt']
    ·simp only[aC,bM]
     exact⟨_,rfl,by simp[aT,aC,bM]⟩
    ·simp[dO,jW]
   |split2 h t1=>
    have hlt: ¬pos<s.length:=fun h'=>by rw[show Nat.blt pos s.length=true from Nat.ble_eq_true_of_le h']at h;cases h
    have:=dA t1;subst this
    cases hp
    refine bJ hc (sv:= .cO [.d (.bool false)]) (v:= .tuple ⟨[.bool false]⟩) ⟨?_,by simp[dO,jW]⟩ hd ?_
    ·simp only[aC];exact⟨_,rfl,by simp[aT,aC,bM]⟩
    ·simp only[execOp,ho,ex,Instr.next,getObj,setObj,Sem.run_bind,Sem.run,akt,Result.andThen,hsize,hlt,if_false]
     rfl
  ·exact t1.au.elim
 ·exact t.au.elim
theorem TR(hc:Conc G nt C I ρ F a w){o:Oper}{f:FuncId}{caps:List Operand}(ho:o.op= .makeFunc (.func f) ⟨[]⟩ ⟨caps⟩)(hd:dJ nt o.dst){u:bf}(t:To P G F (n_ P G E o.dst o.op) u)
 {F1:Fs} (hp:fH F u.pub F1):fJ P G nt C I ρ a w o (eG F1 u):=by
 rw[ho]at t
 obtain⟨cs,t,hvs⟩:=To.zh hc t
 have:=dA t;subst this
 cases hp
 refine bJ hc (v:= .func (.func f) #[] ⟨caps.map a.eval⟩) ⟨?_,hvs.nm⟩ hd ?_
 ·simp only[aC];exact⟨_,rfl,hvs.rep⟩
 ·simp[execOp,ho,Instr.makeFunc]
theorem Gx(hc:Conc G nt C I ρ F a w){o:Oper}{T:Nat}{x:Operand}(ho:o.op= .makeInterface T x)(hd:dJ nt o.dst){u:bf}(t:To P G F (n_ P G E o.dst o.op) u)
 {F1:Fs} (hp:fH F u.pub F1):fJ P G nt C I ρ a w o (eG F1 u):=by
 rw[ho]at t
 simp only[n_]at t
 split at t
 ·rename_i hT
  obtain⟨sv,t,hv⟩:=To.bU hc t
  have:=dA t;subst this
  cases hp
  refine bJ hc (v:= .iface T (a.eval x)) ⟨?_,?_⟩ hd ?_
  ·simp only[aC,aT];exact⟨_,rfl,_,_,rfl,hv.rep,rfl⟩
  ·intro n hn
   simp only[dO,jW,or_false]at hn
   exact hv.nm n hn
  ·simp only[execOp,ho,run_makeInterface _ _ _ hT,Sem.run_bind,Result.andThen_ok,Sem.run_pure]
 ·exact t.au.elim
end Go.Sx
namespace Go.Sx
open Go
variable {P:Program}{G:Nat->Option (Nat×(Nat->D))}{nt:Nat}{C:Ctx}{I:Nat->Prop}{ρ:Nat->Loc}{F:Fs}{a:Act}{w:World}{E:List Nat}{T:Nat}
theorem yt.empty{kd:IntKind}:yt #[] 0 kd (fun _=>none):=⟨MapKept.stamped_empty 0,by simp,by simp,by simp⟩
theorem yt.found{es:Array MapEntry}{clock:Nat}{kd:IntKind}{get:List UInt8->Option Int}(h:yt es clock kd get)(s:List UInt8):
 (get s=none∧Instr.findNow .string (.string ⟨⟨s⟩⟩) es.toList 0=some none∧∀e∈es.toList,e.key≠ .string ⟨⟨s⟩⟩)∨
 ∃d j e,get s=some d∧Instr.findNow .string (.string ⟨⟨s⟩⟩) es.toList 0=some (some (j,e.val))∧es[j]? =some e∧e.key= .string ⟨⟨s⟩⟩∧e.val= .int kd d:=by
 rcases MapKept.findNow_spec (d:= .string) (k:= .string ⟨⟨s⟩⟩) trivial es.toList 0 (fun x hx=>by obtain⟨k,hk⟩:=h.keys x hx;rw[hk];trivial)with⟨h1,h2⟩|⟨j,e,h1,h2,h3⟩
 ·refine .inl ⟨?_,h1,h2⟩
  cases hg:get s with
  |none=>rfl
  |some d=>obtain⟨e,he,hk⟩:=h.all s d hg;exact absurd hk (h2 e he)
 ·obtain⟨d,h4,h5⟩:=h.has e (List.mem_of_getElem? h2) s h3
  exact .inr ⟨d,j,e,h4,by simpa using h1,by simpa using h2,h3,h5⟩
theorem yt.push{es:Array MapEntry}{clock:Nat}{kd:IntKind}{get:List UInt8->Option Int}(h:yt es clock kd get){s:List UInt8}(hn: ∀e∈es.toList,e.key≠ .string ⟨⟨s⟩⟩){y:Int}{v:Value}(hv:v= .int kd y):
 yt (es.push {key:= .string ⟨⟨s⟩⟩,val:=v,born:=clock}) (clock+1) kd (fun s'=>if s'=s then some y else get s'):=by
 refine⟨MapKept.stamped_push h.stamped hn,?_,?_,?_⟩
 ·intro e he
  simp only[Array.toList_push,List.mem_append,List.mem_singleton]at he
  rcases he with he|rfl
  ·exact h.keys e he
  ·exact⟨s,rfl⟩
 ·intro e he s' hs
  simp only[Array.toList_push,List.mem_append,List.mem_singleton]at he
  rcases he with he|rfl
  ·have:s'≠s:=by rintro rfl;exact hn e he hs
   rw[if_neg this]
   exact h.has e he s' hs
  ·simp only[Value.string.injEq,ByteArray.mk.injEq,Array.mk.injEq]at hs
   rw[if_pos hs.symm]
   exact⟨y,rfl,hv⟩
 ·intro s' d hs
  split at hs
  ·rename_i e;subst e
   exact⟨⟨.string ⟨⟨s'⟩⟩,v,clock⟩,by simp,rfl⟩
  ·obtain⟨e,he,hk⟩:=h.all s' d hs
   exact⟨e,by simp[he],hk⟩
theorem yt.modify{es:Array MapEntry}{clock:Nat}{kd:IntKind}{get:List UInt8->Option Int}(h:yt es clock kd get){s:List UInt8}{j:Nat}{e0:MapEntry}(hj:es[j]? =some e0)(hk:e0.key= .string ⟨⟨s⟩⟩){y:Int}{v:Value}(hv:v= .int kd y):
 yt (es.modify j fun e=>{e with key:= .string ⟨⟨s⟩⟩,val:=v}) clock kd (fun s'=>if s'=s then some y else get s'):=by
 have hget: ∀k,(es.modify j fun e=>{e with key:= .string ⟨⟨s⟩⟩,val:=v})[k]? =if j=k then some {e0 with key:= .string ⟨⟨s⟩⟩,val:=v}else es[k]? :=by
  intro k
  rw[Array.getElem?_modify]
  split
  ·rename_i e;subst e;rw[hj];rfl
  ·rfl
 have mem: ∀{x:MapEntry},x∈(es.modify j fun e=>{e with key:= .string ⟨⟨s⟩⟩,val:=v}).toList->x={e0 with key:= .string ⟨⟨s⟩⟩,val:=v}∨∃k,k≠j∧es[k]? =some x:=by
  intro x hx
  obtain⟨k,hk'⟩:=List.getElem?_of_mem hx
  rw[Array.getElem?_toList,hget]at hk'
  split at hk'
  ·exact .inl (Option.some.inj hk').symm
  ·rename_i e;exact .inr ⟨k,Ne.symm e,hk'⟩
 have uniq: ∀k x,k≠j->es[k]? =some x->x.key≠ .string ⟨⟨s⟩⟩:=by
  intro k x hne hx hks
  have hnd:=h.stamped.2.2
  have h1:(es.toList.map (·.key))[k]? =some (.string ⟨⟨s⟩⟩):=by simp[hx,hks]
  have h2:(es.toList.map (·.key))[j]? =some (.string ⟨⟨s⟩⟩):=by simp[hj,hk]
  exact hne ((List.getElem?_inj (by have:=(List.getElem?_eq_some_iff.1 h1).1;exact this) hnd).1 (h1.trans h2.symm))
 have adX: ∀{k:Nat}{x:MapEntry},es[k]? =some x->x∈es.toList:=fun hx=>List.mem_of_getElem? (by rw[Array.getElem?_toList];exact hx)
 refine⟨MapKept.stamped_modify h.stamped j _ (fun _ _=>rfl) (fun e he hje=>by rw[hj]at hje;cases hje;exact hk.symm),?_,?_,?_⟩
 ·intro e he
  rcases mem he with rfl|⟨k,_,hk'⟩
  ·exact⟨s,rfl⟩
  ·exact h.keys e (adX hk')
 ·intro e he s' hs
  rcases mem he with rfl|⟨k,hne,hk'⟩
  ·simp only[Value.string.injEq,ByteArray.mk.injEq,Array.mk.injEq]at hs
   rw[if_pos hs.symm]
   exact⟨y,rfl,hv⟩
  ·have:s'≠s:=by rintro rfl;exact uniq k e hne hk' hs
   rw[if_neg this]
   exact h.has e (adX hk') s' hs
 ·intro s' d hs
  split at hs
  ·rename_i e;subst e
   exact⟨_,List.mem_of_getElem? (i:=j) (by rw[Array.getElem?_toList,hget,if_pos rfl]),rfl⟩
  ·rename_i hss
   obtain⟨e,he,hke⟩:=h.all s' d hs
   obtain⟨k,hk'⟩:=List.getElem?_of_mem he
   rw[Array.getElem?_toList]at hk'
   have hne:j≠k:=by
    rintro rfl
    rw[hj]at hk';cases hk'
    rw[hk]at hke
    simp only[Value.string.injEq,ByteArray.mk.injEq,Array.mk.injEq]at hke
    exact hss hke.symm
   exact⟨e,List.mem_of_getElem? (i:=k) (by rw[Array.getElem?_toList,hget,if_neg hne];exact hk'),hke⟩
theorem To.Dz{k:Nat->IntKind->M bf}{u:bf}(h:To P G F (KO P T k) u): ∃K V i,P.underlying T=some (.map K V)∧P.underlying K=some .string∧To P G F (k V i) u:=by
 unfold KO at h
 split at h
 ·rename_i K V hT
  split at h
  ·rename_i i hK hV;exact⟨K,V,i,hT,hK,h⟩
  ·exact h.au.elim
 ·exact h.au.elim
theorem WY(hc:Conc G nt C I ρ F a w){o:Oper}{T:Nat}(ho:o.op= .makeMap T none)(hd:dJ nt o.dst){u:bf}(t:To P G F (n_ P G E o.dst o.op) u)
 {F1:Fs} (hp:fH F u.pub F1) (hf:jB F u):fJ P G nt C I ρ a w o (eG F1 u):=by
 rw[ho]at t
 obtain⟨d,hdst,t⟩:=jv t
 obtain⟨K,V,kd,hT,hK,t⟩:=To.Dz t
 have:=t.dV;subst this
 cases hp
 rw[sQ]
 have hcn:=hc.mW (hf.new d (by simp)) (blk:= .smap kd fun _=>none) (o:= .map #[] 0) (cap:=0) (rl:=0) (sz:=0) ⟨#[],0,dS w _,yt.empty⟩ (by simp[inB])
 intro next Q hn
 refine dY (v:= .map (some w.heap.size)) (w':=w.alloc (.map #[] 0)) ?_ (hn _ _ _ _ (hcn.put (by rw[hdst]at hd⊢;exact hd) ?_ ?_))
 ·simp[execOp,ho,Instr.makeMap,Result.andThen,World.alloc_eq]
 ·simp[aC,dU]
 ·intro m hm;simp only[dO]at hm;exact .inl hm.symm
theorem To.aag{V:Nat}{k:D->M bf}{u:bf}(h:To P G F (acj P V k) u): ∃i v d,P.info? V=some i∧i.zero=some v∧bM I w d v∧To P G F (k d) u:=by
 unfold acj at h
 split at h
 ·rename_i i hi
  split at h
  ·rename_i v hz
   obtain⟨sv,h1,h2,h3,h4⟩:=To.zX (I:=I) (ρ:=fun _=>Oz 0 0 0 0 0) (w:=w) h
   obtain⟨d,rfl,h5⟩:=To.aeV h1
   exact⟨i,v,d,hi,hz,by simpa only[aC]using h2,h5⟩
  ·exact h.au.elim
 ·exact h.au.elim
theorem aaZ(hc:Conc G nt C I ρ F a w){o:Oper}{T:Nat}{x y:Operand}{ok:Bool}(ho:o.op= .lookup T x y ok)(hd:dJ nt o.dst){u:bf}(t:To P G F (n_ P G E o.dst o.op) u)
 {F1:Fs} (hp:fH F u.pub F1):fJ P G nt C I ρ a w o (eG F1 u):=by
 rw[ho]at t
 obtain⟨K,V,kd,hT,hK,t⟩:=To.Dz t
 obtain⟨sv,t,hv⟩:=To.bU hc t
 split at t
 ·rename_i n
  have ex:a.eval x= .map (some (ρ n).b):=by simpa only[aC]using hv.rep
  obtain⟨sk,t,hk⟩:=To.bU hc t
  split at t
  ·rename_i s
   have ey:a.eval y= .string ⟨⟨s⟩⟩:=ou hk.rep
   obtain⟨b,hb,t1⟩:=t.eP
   clear t
   split at t1
   ·rename_i kd get
    obtain⟨es,clock,h1,h2⟩:=hc.own n _ hb
    have hfin: ∀{d:D}{v:Value}(bb:Bool),bM I w d v->Val G I ρ F w (lkV ok d bb) (if ok then .tuple #[v,.bool bb]else v):=by
     intro d v bb hr
     cases ok
     ·exact⟨by simpa[lkV,aC]using hr,by simp[lkV,dO]⟩
     ·refine⟨?_,by simp[lkV,dO,jW]⟩
      simp only[lkV,aC,if_true]
      exact⟨[v,.bool bb],rfl,by simp[aT,aC,bM,hr]⟩
    rcases h2.found s with⟨g1,g2,g3⟩|⟨d,j,e,g1,g2,g3,g4,g5⟩
    ·cases t1 with
     |qY h t1=>rw[g1]at h;cases h
     |split2 h t1=>
      obtain⟨i,v,d,hi,hz,hr,t2⟩:=To.aag (I:=I) (w:=w) t1
      have:=dA t2;subst this
      cases hp
      refine bJ hc (hfin false hr) hd ?_
      simp[execOp,ho,ex,ey,Instr.lookup,run_underlying hT,MapKept.run_getObj_map h1,MapKept.run_checkKey hK (show MapKept.IsKey .string (.string ⟨⟨s⟩⟩)from trivial),MapKept.run_findKey hK g2,kP hi hz,Result.andThen]
    ·cases t1 with
     |split2 h t1=>rw[g1]at h;cases h
     |qY h t1=>
      have:=dA t1;subst this
      cases hp
      rw[show(get s).getD 0=d by rw[g1];rfl]
      refine bJ hc (hfin (d:= .int kd d) true (v:=e.val) (by simp only[bM];exact g5)) hd ?_
      simp[execOp,ho,ex,ey,Instr.lookup,run_underlying hT,MapKept.run_getObj_map h1,MapKept.run_checkKey hK (show MapKept.IsKey .string (.string ⟨⟨s⟩⟩)from trivial),MapKept.run_findKey hK g2,Result.andThen]
   ·exact t1.au.elim
  ·exact t.au.elim
 ·exact t.au.elim
theorem Qo(hc:Conc G nt C I ρ F a w){o:Oper}{T:Nat}{m x y:Operand}(ho:o.op= .mapUpdate T m x y)(hd:dJ nt o.dst){u:bf}(t:To P G F (n_ P G E o.dst o.op) u)
 {F1:Fs} (hp:fH F u.pub F1):fJ P G nt C I ρ a w o (eG F1 u):=by
 rw[ho]at t
 obtain⟨K,V,kd,hT,hK,t⟩:=To.Dz t
 obtain⟨sv,t,hv⟩:=To.bU hc t
 split at t
 ·rename_i n
  have em:a.eval m= .map (some (ρ n).b):=by simpa only[aC]using hv.rep
  obtain⟨sk,t,hk⟩:=To.bU hc t
  split at t
  ·rename_i s
   have ex:a.eval x= .string ⟨⟨s⟩⟩:=ou hk.rep
   obtain⟨sy,t,hy⟩:=To.bU hc t
   split at t
   rotate_left
   ·exact t.au.elim
   rename_i ik yd
   have hyr:a.eval y= .int ik yd:=iy hy.rep
   obtain⟨b,hb,t1⟩:=t.eP
   clear t
   split at t1
   ·rename_i kd get
    split at t1
    rotate_left
    ·exact t1.au.elim
    rename_i hkk
    have hkk:=KU hkk
    subst hkk
    obtain⟨es,clock,h1,h2⟩:=hc.own n _ hb
    have:=t1.dV;subst this
    cases hp
    rw[xW]
    have fin: ∀(es':Array MapEntry)(clock':Nat),yt es' clock' ik (fun s'=>if s'=s then some yd else get s')->
     (execOp a.eval o).run P w= .ok .skip (putObj w (ρ n).b (.map es' clock'))->fJ P G nt C I ρ a w o (oH (fE F n (.smap ik fun s'=>if s'=s then some yd else get s')) o.dst .junk):=by
     intro es' clock' hm hr next Q hn
     have hS:=hc.sep n _ hb trivial
     have hlt':=hc.QJ hb trivial
     refine xq hr (hn I ρ _ _ (Conc.put (v:=undef) ?_ hd (by simp[aC]) (by simp[dO])))
     have hsame:Same I w (putObj w (ρ n).b (.map es' clock')):=by
      intro b o hI
      have hne:(ρ n).b≠b:=by rintro rfl;exact hS.1 hI
      exact World.cell?_of_block (by simp[putObj,Array.getElem?_setIfInBounds_ne hne])
     refine hc.store (blk:= .smap ik fun s'=>if s'=s then some yd else get s') hb (fun _ h=>h) (fun h=>h) hsame ?_ ?_ ?_ ?_ (by simp[inB])
     ·intro m b k hm hne hl
      have hne':(ρ n).b≠k:=fun e=>hne (hc.iE m n b _ k hm hb hl e.symm)
      simp[putObj,Array.getElem?_setIfInBounds_ne hne']
     ·refine hc.keep.trans (T:=fun k=>k=(ρ n).b) ⟨rfl,rfl,rfl,by simp[putObj],fun k _ hk=> ?_,Nat.le_refl _⟩ ?_
      ·have hne:(ρ n).b≠k:=fun e=>hk e.symm
       simp[putObj,Array.getElem?_setIfInBounds_ne hne]
      ·rintro i rfl;exact hS.2.symm
     ·intro b hI;have:=hc.nT b hI;simpa[putObj]using this
     ·exact⟨es',clock',by simp[putObj,hlt'],hm⟩
    rcases h2.found s with⟨g1,g2,g3⟩|⟨d,j,e,g1,g2,g3,g4,g5⟩
    ·refine fin _ _ (h2.push g3 hyr) ?_
     simp[execOp,ho,em,ex,Instr.mapUpdate,run_underlying hT,MapKept.run_getObj_map h1,MapKept.run_checkKey hK (show MapKept.IsKey .string (.string ⟨⟨s⟩⟩)from trivial),MapKept.run_findKey hK g2,MapKept.run_setObj_map _ h1,Result.andThen,putObj]
    ·refine fin _ _ (h2.modify g3 g4 hyr) ?_
     simp[execOp,ho,em,ex,Instr.mapUpdate,run_underlying hT,MapKept.run_getObj_map h1,MapKept.run_checkKey hK (show MapKept.IsKey .string (.string ⟨⟨s⟩⟩)from trivial),MapKept.run_findKey hK g2,g3,g4,MapKept.run_keyThatStays (d:= .string) (k:= .string ⟨⟨s⟩⟩) trivial,MapKept.run_setObj_map _ h1,Result.andThen,putObj]
   ·exact t1.au.elim
  ·exact t.au.elim
 ·exact t.au.elim
end Go.Sx
