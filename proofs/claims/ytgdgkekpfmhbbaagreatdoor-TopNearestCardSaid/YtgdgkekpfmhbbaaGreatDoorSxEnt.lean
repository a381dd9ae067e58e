/- Part of a symbolic executor over the model, proved sound, with plain laws: SxEnt. Written for this claim. -/
import Derived.Test.YtgdgkekpfmhbbaaGreatDoorSxRun
set_option linter.unusedVariables false
set_option linter.unusedSimpArgs false
namespace Go.Sx
open Go
variable {P:Program}{G:Nat->Option (Nat×(Nat->D))}{nt:Nat}{C:Ctx}{I:Nat->Prop}{ρ:Nat->Loc}{F:Fs}{a:Act}{w:World}{E:List Nat}{T:Nat}
structure aF (x y:D):Prop where
 le: ∀(I:Nat->Prop)(w:World)(v:Value),bM I w x v->bM I w y v
theorem aF.refl(x:D):aF x x:=⟨fun _ _ _ h=>h⟩
theorem aF.of_eq{x y:D}(h:x=y):aF x y:=h▸aF.refl x
theorem aF.nil{sz:Nat}{get:Nat->Nat->D}:aF (.val (.slice none 0 0)) (.list 0 sz get):=
 ⟨fun _ _ _ h=>by obtain⟨rfl,_⟩:=h;exact⟨none,0,rfl,Nat.le_refl _,fun h=>absurd h (by simp)⟩⟩
theorem aF.list{len sz len' sz':Nat}{get get':Nat->Nat->D}(h1:len=len')(h2:0<len'->sz=sz')(h: ∀i j,i<len'->j<sz'->aF (get i j) (get' i j)):aF (.list len sz get) (.list len' sz' get'):=by
 subst h1
 refine⟨fun I w v hv=> ?_⟩
 obtain⟨a,cap,rfl,hc,hr⟩:=hv
 refine⟨a,cap,rfl,hc,fun hl=> ?_⟩
 obtain⟨b,o,ha,hI,hcell⟩:=hr hl
 have h2:=h2 hl
 subst h2
 refine⟨b,o,ha,hI,fun i j hi hj=> ?_⟩
 obtain⟨u,hu,hr⟩:=hcell i j hi hj
 exact⟨u,hu,(h i j hi hj).le _ _ _ hr⟩
structure aJ (len sz:Nat) (get get':Nat->Nat->D):Prop where
 le: ∀i j,i<len->j<sz->aF (get i j) (get' i j)
theorem aJ.refl(len sz:Nat)(get:Nat->Nat->D):aJ len sz get get:=⟨fun _ _ _ _=>aF.refl _⟩
theorem aJ.of_eq{len sz:Nat}{get get':Nat->Nat->D}(h: ∀i j,i<len->j<sz->get i j=get' i j):aJ len sz get get':=⟨fun i j hi hj=>aF.of_eq (h i j hi hj)⟩
structure rO (x y:FC):Prop where
 le: ∀(I:Nat->Prop)(ρ:Nat->Loc)(fn:Nat)(w:World)(v:Value),kU I ρ fn w x v->kU I ρ fn w y v
theorem rO.refl(x:FC):rO x x:=⟨fun _ _ _ _ _ h=>h⟩
theorem rO.of_eq{x y:FC}(h:x=y):rO x y:=h▸rO.refl x
theorem rO.d{x y:D}(h:aF x y):rO (.d x) (.d y):=⟨fun _ _ _ _ _ k=>h.le _ _ _ k⟩
structure jo (len sz:Nat) (get get':Nat->Nat->FC):Prop where
 le: ∀i j,i<len->j<sz->rO (get i j) (get' i j)
theorem jo.refl(len sz:Nat)(get:Nat->Nat->FC):jo len sz get get:=⟨fun _ _ _ _=>rO.refl _⟩
theorem jo.of_eq{len sz:Nat}{get get':Nat->Nat->FC}(h: ∀i j,i<len->j<sz->get i j=get' i j):jo len sz get get':=⟨fun i j hi hj=>rO.of_eq (h i j hi hj)⟩
structure gy (rows rows':Nat->Option fM):Prop where
 le: ∀k r',rows' k=some r'-> ∃r,rows k=some r∧r.E=r'.E∧r.sz=r'.sz∧r.len=r'.len∧aJ r.len r.sz r.get r'.get
theorem gy.refl(rows:Nat->Option fM):gy rows rows:=⟨fun k r h=>⟨r,h,rfl,rfl,rfl,aJ.refl _ _ _⟩⟩
theorem gy.of_eq{rows rows':Nat->Option fM}(h: ∀k,rows k=rows' k):gy rows rows':=by
 rw[show rows=rows' from funext h];exact gy.refl _
structure afE (cs ds:List FC):Prop where
 len:cs.length=ds.length
 le: ∀(I:Nat->Prop)(ρ:Nat->Loc)(fn:Nat)(w:World)(us:List Value),nS I ρ fn w cs us->nS I ρ fn w ds us
theorem afE.refl(cs:List FC):afE cs cs:=⟨rfl,fun _ _ _ _ _ h=>h⟩
theorem afE.cons{c d:FC}{cs ds:List FC}(h:rO c d)(k:afE cs ds):afE (c::cs) (d::ds):=
 ⟨by rw[List.length_cons,List.length_cons,k.len],fun I ρ fn w us h0=>by
   obtain⟨u,r,rfl,h1,h2⟩:=h0
   exact⟨u,r,rfl,h.le _ _ _ _ _ h1,k.le _ _ _ _ _ h2⟩⟩
structure gq (sz:Nat) (has:List Int->Bool) (get:List Int->Nat->FC) (has':List Int->Bool) (get':List Int->Nat->FC):Prop where
 eq: ∀k,has k=has' k
 le: ∀k j,has k=true->j<sz->rO (get k j) (get' k j)
theorem gq.refl(sz:Nat)(has:List Int->Bool)(get:List Int->Nat->FC):gq sz has get has get:=⟨fun _=>rfl,fun _ _ _ _=>rO.refl _⟩
theorem gq.of_eq{sz:Nat}{has has':List Int->Bool}{get get':List Int->Nat->FC}(h: ∀k,has k=has' k)(hg: ∀k j,has k=true->j<sz->get k j=get' k j):gq sz has get has' get':=
 ⟨h,fun k j h1 h2=>rO.of_eq (hg k j h1 h2)⟩
abbrev Ren:=List (Nat×(Nat ⊕ Nat))
def eu:Ren->Nat->Option (Nat ⊕ Nat)
 |[],_=>none
 |(i,v)::l,k=>match Nat.beq i k with
  |true=>some v
  |false=>eu l k
def Bh(n' n:Nat)(r:Ren)(k:Ren->Prop):Prop:=
 match eu r n' with
 |some (.inl m)=>match Nat.beq m n with
  |true=>k r
  |false=>Stuck "name bound twice"
 |some (.inr _)=>Stuck "name bound to nil"
 |none=>k ((n',.inl n)::r)
def Ru(n' sz:Nat)(r:Ren)(k:Ren->Prop):Prop:=
 match eu r n' with
 |some (.inl _)=>Stuck "nil bound to name"
 |some (.inr s)=>match Nat.beq s sz with
  |true=>k r
  |false=>Stuck "nil bound twice"
 |none=>k ((n',.inr sz)::r)
mutual
def ahe:SV->SV->Ren->(Ren->Prop)->Prop
 |_,.junk,r,k=>k r
 | .d (.val (.slice none 0 0)),.bW n' s' o' l',r,k=>Need (o'=0∧l'=0) (Ru n' s' r k)
 | .d x,.d y,r,k=>Need (aF x y) (k r)
 | .ptr n o,.ptr n' o',r,k=>match Nat.beq o o' with
   |true=>Bh n' n r k
   |false=>Stuck "offset"
 | .bW n s o l,.bW n' s' o' l',r,k=>Need (s=s'∧o=o'∧l=l') (Bh n' n r k)
 | .agg cs,.agg ds,r,k=>IZ cs ds r k
 | .cO cs,.cO ds,r,k=>IZ cs ds r k
 | .clo f cs,.clo g ds,r,k=>match Nat.beq f g with
   |true=>IZ cs ds r k
   |false=>Stuck "closure"
 | .qN s g,.qN s' g',r,k=>Need (s=s'∧g=g') (k r)
 | .mp n,.mp n',r,k=>Bh n' n r k
 | .zG n j s l,.zG n' j' s' l',r,k=>Need (j=j'∧s=s'∧l=l') (Bh n' n r k)
 |_,_,_,_=>Stuck "values"
def IZ:List SV->List SV->Ren->(Ren->Prop)->Prop
 |[],[],r,k=>k r
 |c::cs,d::ds,r,k=>ahe c d r fun r=>IZ cs ds r k
 |_,_,_,_=>Stuck "length"
end
def Fv(s:List (Nat×SV)):List (Nat×SV)->Ren->(Ren->Prop)->Prop
 |[],r,k=>k r
 |(i,v)::l,r,k=>match look s i with
  |some u=>ahe u v r fun r=>Fv s l r k
  |none=>Stuck "no such slot"
def sU(o:List (Nat×bG)):List (Nat×bG)->Ren->(Ren->Prop)->Prop
 |[],r,k=>k r
 |(n',.box ds)::l,r,k=>match eu r n' with
  |some (.inl n)=>match lookO o n with
   |some (.box cs)=>IZ cs ds r fun r=>sU o l r k
   |_=>Stuck "no such box"
  |some (.inr _)=>Stuck "box nil"
  |none=>match lookO o n' with
   |some (.box cs)=>IZ cs ds ((n',.inl n')::r) fun r=>sU o l r k
   |_=>Stuck "no such box"
 |_::l,r,k=>sU o l r k
def fB(o:List (Nat×bG)):List (Nat×bG)->Ren->(Ren->Prop)->Prop
 |[],r,k=>k r
 |(_,.box _)::l,r,k=>fB o l r k
 |(n',.row E' sz' len' g')::l,r,k=>match eu r n' with
  |some (.inl n)=>match lookO o n with
   |some (.row E sz len g)=>Need (E=E'∧sz=sz'∧len=len') (Need (aJ len' sz' g g') (fB o l r k))
   |_=>Stuck "no such row"
  |some (.inr s)=>Need (s=sz'∧len'=0) (fB o l r k)
  |none=>match lookO o n' with
   |some (.row E sz len g)=>Need (E=E'∧sz=sz'∧len=len') (Need (aJ len' sz' g g') (fB o l ((n',.inl n')::r) k))
   |_=>Stuck "no such row"
 |(n',.iter s' p')::l,r,k=>match eu r n' with
  |some (.inl n)=>match lookO o n with
   |some (.iter s p)=>Need (s=s'∧p=p') (fB o l r k)
   |_=>Stuck "no such iterator"
  |some (.inr _)=>Stuck "iterator nil"
  |none=>match lookO o n' with
   |some (.iter s p)=>Need (s=s'∧p=p') (fB o l ((n',.inl n')::r) k)
   |_=>Stuck "no such iterator"
 |(n',.gone)::l,r,k=>match eu r n' with
  |some (.inl n)=>match lookO o n with
   |some .gone=>fB o l r k
   |_=>Stuck "not used up"
  |some (.inr _)=>Stuck "nil used up"
  |none=>match lookO o n' with
   |some .gone=>fB o l ((n',.inl n')::r) k
   |_=>Stuck "not used up"
 |(n',.smap kd' g')::l,r,k=>match eu r n' with
  |some (.inl n)=>match lookO o n with
   |some (.smap kd g)=>Need (kd=kd'∧g=g') (fB o l r k)
   |_=>Stuck "no such map"
  |some (.inr _)=>Stuck "map nil"
  |none=>match lookO o n' with
   |some (.smap kd g)=>Need (kd=kd'∧g=g') (fB o l ((n',.inl n')::r) k)
   |_=>Stuck "no such map"
 |(n',.arr sz' ds)::l,r,k=>match eu r n' with
  |some (.inl n)=>match lookO o n with
   |some (.arr sz cs)=>Need (sz=sz') (IZ cs ds r fun r=>fB o l r k)
   |_=>Stuck "no such array"
  |some (.inr _)=>Stuck "array nil"
  |none=>match lookO o n' with
   |some (.arr sz cs)=>Need (sz=sz') (IZ cs ds ((n',.inl n')::r) fun r=>fB o l r k)
   |_=>Stuck "no such array"
 |(n',.fam yw rows')::l,r,k=>match eu r n' with
  |some (.inl n)=>match lookO o n with
   |some (.fam nk rows)=>Need (nk=yw) (Need (gy rows rows') (fB o l r k))
   |_=>Stuck "no such family"
  |some (.inr _)=>Stuck "family nil"
  |none=>match lookO o n' with
   |some (.fam nk rows)=>Need (nk=yw) (Need (gy rows rows') (fB o l ((n',.inl n')::r) k))
   |_=>Stuck "no such family"
 |(n',.dP fn' E' sz' len' g')::l,r,k=>match eu r n' with
  |some (.inl n)=>match lookO o n with
   |some (.dP fn E sz len g)=>Need (E=E'∧sz=sz'∧len=len') (Need (jo len' sz' g g') (Bh fn' fn r fun r=>fB o l r k))
   |_=>Stuck "no such row"
  |some (.inr s)=>Need (s=sz'∧len'=0) (Bh fn' fn' r fun r=>fB o l r k)
  |none=>match lookO o n' with
   |some (.dP fn E sz len g)=>Need (E=E'∧sz=sz'∧len=len') (Need (jo len' sz' g g') (Bh fn' fn ((n',.inl n')::r) fun r=>fB o l r k))
   |_=>Stuck "no such row"
 |(n',.dW fn' Xu Xp va' sz' h' g')::l,r,k=>match eu r n' with
  |some (.inl n)=>match lookO o n with
   |some (.dW fn ka kk va sz h g)=>Need (ka=Xu∧kk=Xp∧va=va'∧sz=sz') (Need (gq sz' h g h' g') (Bh fn' fn r fun r=>fB o l r k))
   |_=>Stuck "no such map"
  |some (.inr _)=>Stuck "map nil"
  |none=>match lookO o n' with
   |some (.dW fn ka kk va sz h g)=>Need (ka=Xu∧kk=Xp∧va=va'∧sz=sz') (Need (gq sz' h g h' g') (Bh fn' fn ((n',.inl n')::r) fun r=>fB o l r k))
   |_=>Stuck "no such map"
def xY(r:Ren):List (Nat×bG)->List Nat->Bool
 |[],_=>true
 |(n',_)::l,seen=>match eu r n' with
  |some (.inl n)=>match g_ n seen with
   |true=>false
   |false=>xY r l (n::seen)
  |some (.inr _)=>xY r l seen
  |none=>false
def YL(r:Ren)(o:List (Nat×bG)):List Nat->Bool
 |[]=>true
 |n::l=>match eu r n,lookO o n with
  |some (.inl m),some _=>match Nat.beq m n with
   |true=>YL r o l
   |false=>false
  |_,_=>false
def OH:Ren->List Nat
 |[]=>[]
 |(n,_)::l=>n::OH l
def P5(l:List Nat):List Nat->Bool
 |[]=>true
 |n::r=>match g_ n l with
  |true=>P5 l r
  |false=>false
def Q7:St->St->Prop
 |⟨s,o,_,n0⟩,⟨s',o',nm',n0'⟩=>Fv s s' [] fun r=>sU o o' r fun r=>fB o o' r fun r=>
  match xY r o' [],YL r o' n0,P5 nm' (OH r),P5 n0' n0 with
  |true,true,true,true=>True
  |_,_,_,_=>Stuck "names"
def Zh(ρ:Nat->Loc):Nat ⊕ Nat->Loc
 | .inl n=>ρ n
 | .inr sz=>(Oz 0 0 0 sz 0)
def Qe(ρ:Nat->Loc)(r:Ren)(n:Nat):Loc:=
 match eu r n with
 |some x=>Zh ρ x
 |none=>ρ n
def qG(r r':Ren):Prop:= ∀n x,eu r n=some x->eu r' n=some x
theorem qG.refl(r:Ren):qG r r:=fun _ _ h=>h
theorem qG.trans{r s t:Ren}(h:qG r s)(k:qG s t):qG r t:=fun n x e=>k n x (h n x e)
theorem iK(i:Nat)(v:Nat ⊕ Nat)(l:Ren)(k:Nat):eu ((i,v)::l) k=if i=k then some v else eu l k:=by
 simp only[eu]
 split
 ·rename_i h;rw[if_pos ((beq_iff _ _).1 h)]
 ·rename_i h;rw[if_neg (fun e=>by rw[(beq_iff _ _).2 e]at h;cases h)]
theorem ext_cons{n:Nat}{x:Nat ⊕ Nat}{r:Ren}(h:eu r n=none):qG r ((n,x)::r):=by
 intro m y hm
 rw[iK]
 by_cases e:n=m
 ·subst e;rw[h]at hm;cases hm
 ·simp[e,hm]
theorem nN{n' n:Nat}{r:Ren}{k:Ren->Prop}(h:Bh n' n r k): ∃r',k r'∧qG r r'∧eu r' n'=some (.inl n):=by
 unfold Bh at h
 split at h
 ·rename_i m hm
  split at h
  ·rename_i e
   have e:=(beq_iff _ _).1 e
   subst e
   exact⟨r,h,.refl r,hm⟩
  ·exact h.out.elim
 ·exact h.out.elim
 ·rename_i hm
  exact⟨_,h,ext_cons hm,by rw[iK];simp⟩
theorem VB{n' sz:Nat}{r:Ren}{k:Ren->Prop}(h:Ru n' sz r k): ∃r',k r'∧qG r r'∧eu r' n'=some (.inr sz):=by
 unfold Ru at h
 split at h
 ·exact h.out.elim
 ·rename_i m hm
  split at h
  ·rename_i e
   have e:=(beq_iff _ _).1 e
   subst e
   exact⟨r,h,.refl r,hm⟩
  ·exact h.out.elim
 ·rename_i hm
  exact⟨_,h,ext_cons hm,by rw[iK];simp⟩
def RN(r:Ren)(v:SV):Prop:= ∀n,dO n v->(eu r n).isSome=true
def afL(r:Ren)(cs:List SV):Prop:= ∀n,jW n cs->(eu r n).isSome=true
theorem qG.bound{r r':Ren}(h:qG r r'){n:Nat}(hb:(eu r n).isSome=true):(eu r' n).isSome=true:=by
 obtain⟨x,hx⟩:=Option.isSome_iff_exists.1 hb
 rw[h n x hx];rfl
def afF(v v':SV)(r:Ren):Prop:=RN r v'∧∀(r':Ren),qG r r'-> ∀(I:Nat->Prop)(ρ:Nat->Loc)(w:World)(u:Value),aC I ρ w v u->aC I (Qe ρ r') w v' u
def ace(cs ds:List SV)(r:Ren):Prop:=afL r ds∧∀(r':Ren),qG r r'-> ∀(I:Nat->Prop)(ρ:Nat->Loc)(w:World)(us:List Value),aT I ρ w cs us->aT I (Qe ρ r') w ds us
theorem afF.ext{v v':SV}{r r':Ren}(h:afF v v' r)(e:qG r r'):afF v v' r':=⟨fun n hn=>e.bound (h.1 n hn),fun r'' e'=>h.2 r'' (e.trans e')⟩
theorem ace.ext{v v':List SV}{r r':Ren}(h:ace v v' r)(e:qG r r'):ace v v' r':=⟨fun n hn=>e.bound (h.1 n hn),fun r'' e'=>h.2 r'' (e.trans e')⟩
theorem fU{r r':Ren}{n:Nat}{x:Nat ⊕ Nat}(h:eu r n=some x)(e:qG r r'):Qe ρ r' n=Zh ρ x:=by
 unfold Qe;rw[e n x h]
mutual
theorem U9: ∀{v v':SV}{r:Ren}{k:Ren->Prop},ahe v v' r k-> ∃r',k r'∧qG r r'∧afF v v' r':=by
 intro v v' r k h
 unfold ahe at h
 split at h
 ·exact⟨r,h,.refl r,by simp[RN,dO],fun _ _ _ _ _ _ _=>by simp only[aC]⟩
 ·obtain⟨⟨rfl,rfl⟩,h⟩:=h
  obtain⟨r',h1,h2,h3⟩:=VB h
  refine⟨r',h1,h2,?_,?_⟩
  ·intro n hn;simp only[dO]at hn;subst hn;rw[h3];rfl
  ·intro r'' e I ρ w u hu
   simp only[aC,bM]at hu⊢
   obtain⟨rfl,_⟩:=hu
   rw[fU h3 e]
   exact⟨rfl,Nat.le_refl _,Nat.le_refl _,none,rfl,.inr rfl⟩
 ·obtain⟨hd,h⟩:=h
  refine⟨r,h,.refl r,by simp[RN,dO],?_⟩
  intro r'' e I ρ w u hu
  simp only[aC]at hu⊢
  exact hd.le _ _ _ hu
 ·split at h
  ·rename_i e
   have e:=(beq_iff _ _).1 e
   subst e
   obtain⟨r',h1,h2,h3⟩:=nN h
   refine⟨r',h1,h2,?_,?_⟩
   ·intro n hn;simp only[dO]at hn;subst hn;rw[h3];rfl
   ·intro r'' e I ρ w u hu
    simp only[aC]at hu⊢
    rw[fU h3 e];exact hu
  ·exact h.out.elim
 ·obtain⟨⟨rfl,rfl,rfl⟩,h⟩:=h
  obtain⟨r',h1,h2,h3⟩:=nN h
  refine⟨r',h1,h2,?_,?_⟩
  ·intro n hn;simp only[dO]at hn;subst hn;rw[h3];rfl
  ·intro r'' e I ρ w u hu
   simp only[aC]at hu⊢
   rw[fU h3 e];exact hu
 ·obtain⟨r',h1,h2,h3⟩:=xX h
  refine⟨r',h1,h2,fun n hn=>h3.1 n (by simpa only[dO]using hn),?_⟩
  intro r'' e I ρ w u hu
  simp only[aC]at hu⊢
  obtain⟨us,hv,hr,h1⟩:=hu
  exact⟨us,hv,h3.2 r'' e I ρ w us hr,h1⟩
 ·obtain⟨r',h1,h2,h3⟩:=xX h
  refine⟨r',h1,h2,fun n hn=>h3.1 n (by simpa only[dO]using hn),?_⟩
  intro r'' e I ρ w u hu
  simp only[aC]at hu⊢
  obtain⟨us,hv,hr⟩:=hu
  exact⟨us,hv,h3.2 r'' e I ρ w us hr⟩
 ·split at h
  ·rename_i e
   have e:=(beq_iff _ _).1 e
   subst e
   obtain⟨r',h1,h2,h3⟩:=xX h
   refine⟨r',h1,h2,fun n hn=>h3.1 n (by simpa only[dO]using hn),?_⟩
   intro r'' e I ρ w u hu
   simp only[aC]at hu⊢
   obtain⟨us,hv,hr⟩:=hu
   exact⟨us,hv,h3.2 r'' e I ρ w us hr⟩
  ·exact h.out.elim
 ·obtain⟨⟨rfl,rfl⟩,h⟩:=h
  refine⟨r,h,.refl r,by simp[RN,dO],?_⟩
  intro r'' e I ρ w u hu
  simp only[aC]at hu⊢
  exact hu
 ·obtain⟨r',h1,h2,h3⟩:=nN h
  refine⟨r',h1,h2,?_,?_⟩
  ·intro n hn;simp only[dO]at hn;subst hn;rw[h3];rfl
  ·intro r'' e I ρ w u hu
   simp only[aC]at hu⊢
   rw[fU h3 e];exact hu
 ·obtain⟨⟨rfl,rfl,rfl⟩,h⟩:=h
  obtain⟨r',h1,h2,h3⟩:=nN h
  refine⟨r',h1,h2,?_,?_⟩
  ·intro n hn;simp only[dO]at hn;subst hn;rw[h3];rfl
  ·intro r'' e I ρ w u hu
   simp only[aC]at hu⊢
   rw[fU h3 e];exact hu
 ·exact h.out.elim
theorem xX: ∀{cs ds:List SV}{r:Ren}{k:Ren->Prop},IZ cs ds r k-> ∃r',k r'∧qG r r'∧ace cs ds r':=by
 intro cs ds r k h
 unfold IZ at h
 split at h
 ·exact⟨r,h,.refl r,by simp[afL,jW],fun _ _ _ _ _ _ h=>h⟩
 ·obtain⟨r1,h1,e1,h2⟩:=U9 h
  obtain⟨r2,h3,e2,h4⟩:=xX h1
  refine⟨r2,h3,e1.trans e2,?_,?_⟩
  ·intro n hn
   simp only[jW]at hn
   rcases hn with hn|hn
   ·exact e2.bound (h2.1 n hn)
   ·exact h4.1 n hn
  ·intro r'' e I ρ w us hu
   simp only[aT]at hu⊢
   obtain⟨u,t,rfl,g1,g2⟩:=hu
   exact⟨u,t,rfl,h2.2 r'' (e2.trans e) I ρ w u g1,h4.2 r'' e I ρ w t g2⟩
 ·exact h.out.elim
end
end Go.Sx
namespace Go.Sx
open Go
variable {P:Program}{G:Nat->Option (Nat×(Nat->D))}{nt:Nat}{C:Ctx}{I:Nat->Prop}{ρ:Nat->Loc}{F:Fs}{a:Act}{w:World}{E:List Nat}{T:Nat}
theorem Fq{s:List (Nat×SV)}: ∀{l:List (Nat×SV)}{r:Ren}{k:Ren->Prop},Fv s l r k->
 ∃r',k r'∧qG r r'∧∀i v,look l i=some v-> ∃u,look s i=some u∧afF u v r'
 |[],r,k,h=>⟨r,h,.refl r,fun _ _ h=>by simp[look]at h⟩
 |(i,v)::l,r,k,h=>by
  simp only[Fv]at h
  split at h
  ·rename_i u hu
   obtain⟨r1,h1,e1,h2⟩:=U9 h
   obtain⟨r2,h3,e2,h4⟩:=Fq h1
   refine⟨r2,h3,e1.trans e2,?_⟩
   intro j v' hj
   rw[jE]at hj
   split at hj
   ·rename_i e;subst e;cases hj;exact⟨u,hu,h2.ext e2⟩
   ·exact h4 j v' hj
  ·exact h.out.elim
def MQ(o:List (Nat×bG))(r:Ren)(n':Nat):bG->Prop
 | .box ds=> ∃n cs,eu r n'=some (.inl n)∧lookO o n=some (.box cs)∧ace cs ds r
 | .row E' sz' len' g'=>(∃n g,eu r n'=some (.inl n)∧lookO o n=some (.row E' sz' len' g)∧aJ len' sz' g g')∨(eu r n'=some (.inr sz')∧len'=0)
 | .iter s p=> ∃n,eu r n'=some (.inl n)∧lookO o n=some (.iter s p)
 | .gone=> ∃n,eu r n'=some (.inl n)∧lookO o n=some .gone
 | .smap kd g=> ∃n,eu r n'=some (.inl n)∧lookO o n=some (.smap kd g)
 | .arr sz ds=> ∃n cs,eu r n'=some (.inl n)∧lookO o n=some (.arr sz cs)∧ace cs ds r
 | .fam nk rows'=> ∃n rows,eu r n'=some (.inl n)∧lookO o n=some (.fam nk rows)∧gy rows rows'
 | .dP fn' E sz len g'=>(∃n fn g,eu r n'=some (.inl n)∧lookO o n=some (.dP fn E sz len g)∧jo len sz g g'∧eu r fn'=some (.inl fn))∨(eu r n'=some (.inr sz)∧len=0∧(eu r fn').isSome=true)
 | .dW fn' ka kk va sz h' g'=> ∃n fn h g,eu r n'=some (.inl n)∧lookO o n=some (.dW fn ka kk va sz h g)∧gq sz h g h' g'∧eu r fn'=some (.inl fn)
theorem MQ.ext{o:List (Nat×bG)}{r r':Ren}{n':Nat}{b:bG}(h:MQ o r n' b)(e:qG r r'):MQ o r' n' b:=by
 cases b with
 |box ds=>obtain⟨n,cs,h1,h2,h3⟩:=h;exact⟨n,cs,e _ _ h1,h2,h3.ext e⟩
 |row E' sz' len' g'=>
  rcases h with⟨n,g,h1,h2,h3⟩|⟨h1,h2⟩
  ·exact .inl ⟨n,g,e _ _ h1,h2,h3⟩
  ·exact .inr ⟨e _ _ h1,h2⟩
 |iter s p=>obtain⟨n,h1,h2⟩:=h;exact⟨n,e _ _ h1,h2⟩
 |gone=>obtain⟨n,h1,h2⟩:=h;exact⟨n,e _ _ h1,h2⟩
 |smap kd g=>obtain⟨n,h1,h2⟩:=h;exact⟨n,e _ _ h1,h2⟩
 |arr sz ds=>obtain⟨n,cs,h1,h2,h3⟩:=h;exact⟨n,cs,e _ _ h1,h2,h3.ext e⟩
 |fam nk rows'=>obtain⟨n,rows,h1,h2,h3⟩:=h;exact⟨n,rows,e _ _ h1,h2,h3⟩
 |dP fn' E sz len g'=>
  rcases h with⟨n,fn,g,h1,h2,h3,h4⟩|⟨h1,h2,h3⟩
  ·exact .inl ⟨n,fn,g,e _ _ h1,h2,h3,e _ _ h4⟩
  ·exact .inr ⟨e _ _ h1,h2,e.bound h3⟩
 |dW fn' ka kk va sz hh g'=>obtain⟨n,fn,h0,g,h1,h2,h3,h4⟩:=h;exact⟨n,fn,h0,g,e _ _ h1,h2,h3,e _ _ h4⟩
def wR:bG->Bool
 | .box _=>true
 |_=>false
theorem zi{o:List (Nat×bG)}: ∀{l:List (Nat×bG)}{r:Ren}{k:Ren->Prop},sU o l r k->
 ∃r',k r'∧qG r r'∧∀n b,(n,b)∈l->wR b=true->MQ o r' n b
 |[],r,k,h=>⟨r,h,.refl r,fun _ _ h=>by simp at h⟩
 |(n',b)::l,r,k,h=>by
  have other:wR b=false->sU o l r k-> ∃r',k r'∧qG r r'∧∀n c,(n,c)∈(n',b)::l->wR c=true->MQ o r' n c:=by
    intro hb h
    obtain⟨r',h1,e,h2⟩:=zi h
    refine⟨r',h1,e,fun n c hc hx=> ?_⟩
    simp only[List.mem_cons,Prod.mk.injEq]at hc
    rcases hc with⟨rfl,rfl⟩|hc
    ·rw[hb]at hx;cases hx
    ·exact h2 n c hc hx
  cases b with
  |box ds=>
   have step: ∀{r0:Ren}{n:Nat}{cs:List SV},qG r r0->eu r0 n'=some (.inl n)->lookO o n=some (.box cs)->IZ cs ds r0 (fun r=>sU o l r k)->
       ∃r',k r'∧qG r r'∧∀m c,(m,c)∈(n',bG.box ds)::l->wR c=true->MQ o r' m c:=by
    intro r0 n cs e0 hn ho h
    obtain⟨r1,h1,e1,h2⟩:=xX h
    obtain⟨r2,h3,e2,h4⟩:=zi h1
    refine⟨r2,h3,e0.trans (e1.trans e2),fun m c hc hx=> ?_⟩
    simp only[List.mem_cons,Prod.mk.injEq]at hc
    rcases hc with⟨rfl,rfl⟩|hc
    ·exact⟨n,cs,e2 _ _ (e1 _ _ hn),ho,h2.ext e2⟩
    ·exact h4 m c hc hx
   simp only[sU]at h
   split at h
   ·rename_i n hn
    split at h
    ·rename_i cs ho
     exact step (.refl r) hn ho h
    ·exact h.out.elim
   ·exact h.out.elim
   ·rename_i hn
    split at h
    ·rename_i cs ho
     exact step (ext_cons hn) (by rw[iK];simp) ho h
    ·exact h.out.elim
  |row _ _ _ _=>exact other rfl h
  |iter _ _=>exact other rfl h
  |gone=>exact other rfl h
  |smap _ _=>exact other rfl h
  |arr _ _=>exact other rfl h
  |fam _ _=>exact other rfl h
  |dP _ _ _ _ _=>exact other rfl h
  |dW _ _ _ _ _ _ _=>exact other rfl h
theorem Iw{o:List (Nat×bG)}: ∀{l:List (Nat×bG)}{r:Ren}{k:Ren->Prop},fB o l r k->
 ∃r',k r'∧qG r r'∧∀n b,(n,b)∈l->wR b=false->MQ o r' n b
 |[],r,k,h=>⟨r,h,.refl r,fun _ _ h=>by simp at h⟩
 |(n',b)::l,r,k,h=>by
  have step: ∀{r0:Ren},qG r r0->(wR b=false->MQ o r0 n' b)->fB o l r0 k-> ∃r',k r'∧qG r r'∧∀m c,(m,c)∈(n',b)::l->wR c=false->MQ o r' m c:=by
    intro r0 e0 hb h
    obtain⟨r1,h1,e1,h2⟩:=Iw h
    refine⟨r1,h1,e0.trans e1,fun m c hc hx=> ?_⟩
    simp only[List.mem_cons,Prod.mk.injEq]at hc
    rcases hc with⟨rfl,rfl⟩|hc
    ·exact(hb hx).ext e1
    ·exact h2 m c hc hx
  cases b with
  |box ds=>exact step (.refl r) (fun h=>by simp[wR]at h) h
  |row E' sz' len' g'=>
   simp only[fB]at h
   split at h
   ·rename_i n hn
    split at h
    ·rename_i Et sz len g ho
     obtain⟨⟨rfl,rfl,rfl⟩,h2,h⟩:=h
     exact step (.refl r) (fun _=> .inl ⟨n,g,hn,ho,h2⟩) h
    ·exact h.out.elim
   ·rename_i s hn
    obtain⟨⟨rfl,rfl⟩,h⟩:=h
    exact step (.refl r) (fun _=> .inr ⟨hn,rfl⟩) h
   ·rename_i hn
    split at h
    ·rename_i Et sz len g ho
     obtain⟨⟨rfl,rfl,rfl⟩,h2,h⟩:=h
     exact step (ext_cons hn) (fun _=> .inl ⟨n',g,by rw[iK];simp,ho,h2⟩) h
    ·exact h.out.elim
  |iter s' p'=>
   simp only[fB]at h
   split at h
   ·rename_i n hn
    split at h
    ·rename_i s p ho
     obtain⟨⟨rfl,rfl⟩,h⟩:=h
     exact step (.refl r) (fun _=>⟨n,hn,ho⟩) h
    ·exact h.out.elim
   ·exact h.out.elim
   ·rename_i hn
    split at h
    ·rename_i s p ho
     obtain⟨⟨rfl,rfl⟩,h⟩:=h
     exact step (ext_cons hn) (fun _=>⟨n',by rw[iK];simp,ho⟩) h
    ·exact h.out.elim
  |gone=>
   simp only[fB]at h
   split at h
   ·rename_i n hn
    split at h
    ·rename_i ho
     exact step (.refl r) (fun _=>⟨n,hn,ho⟩) h
    ·exact h.out.elim
   ·exact h.out.elim
   ·rename_i hn
    split at h
    ·rename_i ho
     exact step (ext_cons hn) (fun _=>⟨n',by rw[iK];simp,ho⟩) h
    ·exact h.out.elim
  |smap kd' g'=>
   simp only[fB]at h
   split at h
   ·rename_i n hn
    split at h
    ·rename_i kd g ho
     obtain⟨⟨rfl,rfl⟩,h⟩:=h
     exact step (.refl r) (fun _=>⟨n,hn,ho⟩) h
    ·exact h.out.elim
   ·exact h.out.elim
   ·rename_i hn
    split at h
    ·rename_i kd g ho
     obtain⟨⟨rfl,rfl⟩,h⟩:=h
     exact step (ext_cons hn) (fun _=>⟨n',by rw[iK];simp,ho⟩) h
    ·exact h.out.elim
  |arr sz' ds=>
   have ahK: ∀{r0:Ren}{n:Nat}{cs:List SV},qG r r0->eu r0 n'=some (.inl n)->lookO o n=some (.arr sz' cs)->IZ cs ds r0 (fun r=>fB o l r k)->
       ∃r',k r'∧qG r r'∧∀m c,(m,c)∈(n',bG.arr sz' ds)::l->wR c=false->MQ o r' m c:=by
    intro r0 n cs e0 hn ho h
    obtain⟨r1,h1,e1,h2⟩:=xX h
    exact step (e0.trans e1) (fun _=>⟨n,cs,e1 _ _ hn,ho,h2⟩) h1
   simp only[fB]at h
   split at h
   ·rename_i n hn
    split at h
    ·rename_i sz cs ho
     obtain⟨rfl,h⟩:=h
     exact ahK (.refl r) hn ho h
    ·exact h.out.elim
   ·exact h.out.elim
   ·rename_i hn
    split at h
    ·rename_i sz cs ho
     obtain⟨rfl,h⟩:=h
     exact ahK (ext_cons hn) (by rw[iK];simp) ho h
    ·exact h.out.elim
  |fam yw rows'=>
   simp only[fB]at h
   split at h
   ·rename_i n hn
    split at h
    ·rename_i nk rows ho
     obtain⟨rfl,h2,h⟩:=h
     exact step (.refl r) (fun _=>⟨n,rows,hn,ho,h2⟩) h
    ·exact h.out.elim
   ·exact h.out.elim
   ·rename_i hn
    split at h
    ·rename_i nk rows ho
     obtain⟨rfl,h2,h⟩:=h
     exact step (ext_cons hn) (fun _=>⟨n',rows,by rw[iK];simp,ho,h2⟩) h
    ·exact h.out.elim
  |dP fn' E' sz' len' g'=>
   simp only[fB]at h
   split at h
   ·rename_i n hn
    split at h
    ·rename_i fn Et sz len g ho
     obtain⟨⟨rfl,rfl,rfl⟩,h2,h⟩:=h
     obtain⟨r1,h1,e1,h3⟩:=nN h
     exact step e1 (fun _=> .inl ⟨n,fn,g,e1 _ _ hn,ho,h2,h3⟩) h1
    ·exact h.out.elim
   ·rename_i s hn
    obtain⟨⟨rfl,rfl⟩,h⟩:=h
    obtain⟨r1,h1,e1,h3⟩:=nN h
    exact step e1 (fun _=> .inr ⟨e1 _ _ hn,rfl,by rw[h3];rfl⟩) h1
   ·rename_i hn
    split at h
    ·rename_i fn Et sz len g ho
     obtain⟨⟨rfl,rfl,rfl⟩,h2,h⟩:=h
     obtain⟨r1,h1,e1,h3⟩:=nN h
     exact step ((ext_cons hn).trans e1) (fun _=> .inl ⟨n',fn,g,e1 _ _ (by rw[iK];simp),ho,h2,h3⟩) h1
    ·exact h.out.elim
  |dW fn' Xu Xp va' sz' hh' g'=>
   simp only[fB]at h
   split at h
   ·rename_i n hn
    split at h
    ·rename_i fn ka kk va sz hh g ho
     obtain⟨⟨rfl,rfl,rfl,rfl⟩,h2,h⟩:=h
     obtain⟨r1,h1,e1,h3⟩:=nN h
     exact step e1 (fun _=>⟨n,fn,hh,g,e1 _ _ hn,ho,h2,h3⟩) h1
    ·exact h.out.elim
   ·exact h.out.elim
   ·rename_i hn
    split at h
    ·rename_i fn ka kk va sz hh g ho
     obtain⟨⟨rfl,rfl,rfl,rfl⟩,h2,h⟩:=h
     obtain⟨r1,h1,e1,h3⟩:=nN h
     exact step ((ext_cons hn).trans e1) (fun _=>⟨n',fn,hh,g,e1 _ _ (by rw[iK];simp),ho,h2,h3⟩) h1
    ·exact h.out.elim
theorem fP{n:Nat}: ∀{l:List Nat},g_ n l=true↔n∈l
 |[]=>by simp[g_]
 |m::l=>by
  simp only[g_]
  split
  ·rename_i e;simp[(beq_iff _ _).1 e]
  ·rename_i e
   have:n≠m:=fun e'=>by rw[(beq_iff _ _).2 e']at e;cases e
   simp[this,fP (l:=l)]
theorem uy{b:bG}{n:Nat}: ∀{l:List (Nat×bG)},lookO l n=some b->(n,b)∈l
 |[],h=>by simp[lookO]at h
 |(i,c)::l,h=>by
  rw[ji]at h
  split at h
  ·rename_i e;subst e;cases h;simp
  ·simp[uy h]
theorem OG{n:Nat}: ∀{r:Ren},n∈OH r↔(eu r n).isSome=true
 |[]=>by simp[OH,eu]
 |(m,x)::r=>by
  rw[iK]
  by_cases e:m=n
  ·simp[OH,e]
  ·simp[OH,e,Ne.symm e,OG (r:=r)]
theorem uH{l:List Nat}: ∀{r:List Nat},P5 l r=true-> ∀n∈r,n∈l
 |[],_=>by simp
 |m::r,h=>by
  simp only[P5]at h
  split at h
  ·rename_i e
   intro n hn
   simp only[List.mem_cons]at hn
   rcases hn with rfl|hn
   ·exact fP.1 e
   ·exact uH h n hn
  ·cases h
theorem wX{r:Ren}: ∀{l:List (Nat×bG)}{seen:List Nat},xY r l seen=true->
 (∀n b,(n,b)∈l->(eu r n).isSome=true)∧(∀n b m,(n,b)∈l->eu r n=some (.inl m)->m ∉ seen)∧
 (∀n b n' b' m,lookO l n=some b->lookO l n'=some b'->eu r n=some (.inl m)->eu r n'=some (.inl m)->n=n')
 |[],_,_=>⟨by simp,by simp,by simp[lookO]⟩
 |(n0,b0)::l,seen,h=>by
  simp only[xY]at h
  split at h
  ·rename_i m0 hm0
   split at h
   ·cases h
   ·rename_i hs
    obtain⟨h1,h2,h3⟩:=wX h
    have hs':m0 ∉ seen:=fun hx=>by rw[fP.2 hx]at hs;cases hs
    refine⟨?_,?_,?_⟩
    ·intro n b hn
     simp only[List.mem_cons,Prod.mk.injEq]at hn
     rcases hn with⟨rfl,rfl⟩|hn
     ·rw[hm0];rfl
     ·exact h1 n b hn
    ·intro n b m hn hm
     simp only[List.mem_cons,Prod.mk.injEq]at hn
     rcases hn with⟨rfl,rfl⟩|hn
     ·rw[hm0]at hm;cases hm;exact hs'
     ·exact fun hx=>h2 n b m hn hm (List.mem_cons_of_mem _ hx)
    ·intro n b n' b' m hn hn' hm hm'
     rw[ji]at hn hn'
     split at hn
     ·rename_i e
      split at hn'
      ·rename_i e';rw[<-e,<-e']
      ·subst e
       rw[hm0]at hm;cases hm
       exact absurd (List.mem_cons_self) (h2 n' b' _ (uy hn') hm')
     ·split at hn'
      ·rename_i e'
       subst e'
       rw[hm0]at hm';cases hm'
       exact absurd (List.mem_cons_self) (h2 n b _ (uy hn) hm)
      ·exact h3 n b n' b' m hn hn' hm hm'
  ·rename_i s0 hm0
   obtain⟨h1,h2,h3⟩:=wX h
   refine⟨?_,?_,?_⟩
   ·intro n b hn
    simp only[List.mem_cons,Prod.mk.injEq]at hn
    rcases hn with⟨rfl,rfl⟩|hn
    ·rw[hm0];rfl
    ·exact h1 n b hn
   ·intro n b m hn hm
    simp only[List.mem_cons,Prod.mk.injEq]at hn
    rcases hn with⟨rfl,rfl⟩|hn
    ·rw[hm0]at hm;cases hm
    ·exact h2 n b m hn hm
   ·intro n b n' b' m hn hn' hm hm'
    rw[ji]at hn hn'
    split at hn
    ·rename_i e;subst e;rw[hm0]at hm;cases hm
    ·split at hn'
     ·rename_i e';subst e';rw[hm0]at hm';cases hm'
     ·exact h3 n b n' b' m hn hn' hm hm'
  ·cases h
theorem N8{r:Ren}{o:List (Nat×bG)}: ∀{l:List Nat},YL r o l=true-> ∀n∈l,eu r n=some (.inl n)∧(lookO o n).isSome=true
 |[],_=>by simp
 |m::l,h=>by
  simp only[YL]at h
  split at h
  ·rename_i x b hx ho
   split at h
   ·rename_i e
    have e:=(beq_iff _ _).1 e
    subst e
    intro n hn
    simp only[List.mem_cons]at hn
    rcases hn with rfl|hn
    ·exact⟨hx,by rw[ho];rfl⟩
    ·exact N8 h n hn
   ·cases h
  ·cases h
theorem Ll{σ σ':St}(h:Q7 σ σ')(hc:Conc G nt C I ρ (iZ σ) a w): ∃ρ',Conc G nt C I ρ' (iZ σ') a w:=by
 obtain⟨s,o,nm,n0⟩:=σ
 obtain⟨s',o',nm',n0'⟩:=σ'
 simp only[Q7]at h
 obtain⟨r1,h,e1,hs⟩:=Fq h
 obtain⟨r2,h,e2,hb⟩:=zi h
 obtain⟨r,h,e3,hr⟩:=Iw h
 split at h
 ·rename_i hd hst hsub hsub0
  obtain⟨d1,_,d3⟩:=wX hd
  have hst:=N8 hst
  have hsub:=uH hsub
  have hsub0:=uH hsub0
  have hnm: ∀n,(eu r n).isSome=true->g_ n nm'=true:=fun n hn=>fP.2 (hsub n (OG.2 hn))
  have hB: ∀n b,lookO o' n=some b->MQ o r n b:=by
   intro n b hn
   have hm:=uy hn
   cases hx:wR b with
   |true=>exact(hb n b hm hx).ext e3
   |false=>exact hr n b hm hx
  have src: ∀n b k,lookO o' n=some b->foot (Qe ρ r n) b k-> ∃m b0,eu r n=some (.inl m)∧lookO o m=some b0∧foot (ρ m) b0 k∧Qe ρ r n=ρ m∧(oh b->oh b0):=by
   intro n b k hn hl
   have hE:=hB n b hn
   cases b with
   |box ds=>obtain⟨m,cs,h1,h2,h3⟩:=hE;have e:=fU (ρ:=ρ) h1 (.refl r);exact⟨m,_,h1,h2,by rw[e]at hl;exact hl,e,fun h=>h⟩
   |row E' sz' len' g'=>
    rcases hE with⟨m,g,h1,h2,h3⟩|⟨h1,h2⟩
    ·have e:=fU (ρ:=ρ) h1 (.refl r)
     exact⟨m,_,h1,h2,by rw[e]at hl;exact hl,e,fun h=>h⟩
    ·exfalso
     rw[fU h1 (.refl r)]at hl
     exact absurd hl.1 (Nat.lt_irrefl 0)
   |iter s p=>obtain⟨m,h1,h2⟩:=hE;have e:=fU (ρ:=ρ) h1 (.refl r);exact⟨m,_,h1,h2,by rw[e]at hl;exact hl,e,fun h=>h⟩
   |gone=>exact hl.elim
   |smap kd g=>obtain⟨m,h1,h2⟩:=hE;have e:=fU (ρ:=ρ) h1 (.refl r);exact⟨m,_,h1,h2,by rw[e]at hl;exact hl,e,fun h=>h⟩
   |arr sz ds=>obtain⟨m,cs,h1,h2,h3⟩:=hE;have e:=fU (ρ:=ρ) h1 (.refl r);exact⟨m,_,h1,h2,by rw[e]at hl;exact hl,e,fun h=>h⟩
   |fam nk rows'=>
    obtain⟨m,rows,h1,h2,h3⟩:=hE
    have e:=fU (ρ:=ρ) h1 (.refl r)
    rw[e]at hl
    obtain⟨i,r',hr',hc,hk⟩:=hl
    obtain⟨r0,hr0,_⟩:=h3.le i r' hr'
    exact⟨m,_,h1,h2,⟨i,r0,hr0,hc,hk⟩,e,fun h=>h⟩
   |dP fn' E' sz' len' g'=>
    rcases hE with⟨m,fn,g,h1,h2,h3,h4⟩|⟨h1,h2,_⟩
    ·have e:=fU (ρ:=ρ) h1 (.refl r)
     exact⟨m,_,h1,h2,by rw[e]at hl;exact hl,e,fun h=>h⟩
    ·exfalso
     rw[fU h1 (.refl r)]at hl
     exact absurd hl.1 (Nat.lt_irrefl 0)
   |dW fn' ka kk va sz hh g'=>obtain⟨m,fn,h0,g,h1,h2,h3,h4⟩:=hE;have e:=fU (ρ:=ρ) h1 (.refl r);exact⟨m,_,h1,h2,by rw[e]at hl;exact hl,e,fun h=>h⟩
  have fnr: ∀{fn' fn:Nat},eu r fn'=some (.inl fn)-> ∀(c:FC)(v:Value),kU I ρ fn w c v->kU I (Qe ρ r) fn' w c v:=by
   intro fn' fn h c v hv
   cases c with
   |d x=>exact hv
   |fs k sz l=>
    simp only[kU,aC]at hv⊢
    rw[fU h (.refl r)]
    exact hv
  have fnrL: ∀{fn' fn:Nat},eu r fn'=some (.inl fn)-> ∀(cs:List FC)(us:List Value),nS I ρ fn w cs us->nS I (Qe ρ r) fn' w cs us:=by
   intro fn' fn h cs
   induction cs with
   |nil=>intro us hu;exact hu
   |cons c cs ih=>
    rintro us ⟨u,t,rfl,h1,h2⟩
    exact⟨u,t,rfl,fnr h c u h1,ih t h2⟩
  refine⟨Qe ρ r,?_⟩
  exact {
   defers:=hc.defers,size:=hc.size
   slots:=by
    intro k sv hk
    obtain⟨u,hu,hE⟩:=hs k sv hk
    obtain⟨v,hv,hrep⟩:=hc.slots k u hu
    exact⟨v,hv,hE.2 r (e2.trans e3) I ρ w v hrep⟩
   gK:=by
    intro k sv n hk hn
    obtain⟨u,hu,hE⟩:=hs k sv hk
    exact hnm n ((e2.trans e3).bound (hE.1 n hn))
   own:=by
    intro n b hn
    have hE:=hB n b hn
    cases b with
    |box ds=>
     obtain⟨m,cs,h1,h2,h3⟩:=hE
     obtain⟨us,Et,h4,h5⟩:=hc.own m _ h2
     rw[fU h1 (.refl r)]
     exact⟨us,Et,h4,h3.2 r (.refl r) I ρ w us h5.1,h5.2⟩
    |row E' sz' len' g'=>
     rcases hE with⟨m,g,h1,h2,h3⟩|⟨h1,h2⟩
     ·obtain⟨h4,h5,h6,h7⟩:=hc.own m _ h2
      rw[fU h1 (.refl r)]
      refine⟨h4,h5,h6,fun hcap=> ?_⟩
      obtain⟨arr,h8,h9,h10⟩:=h7 hcap
      refine⟨arr,h8,h9,fun i j hi hj=> ?_⟩
      obtain⟨u,hu,hrep⟩:=h10 i j hi hj
      exact⟨u,hu,(h3.le i j hi hj).le _ _ _ hrep⟩
     ·rw[fU h1 (.refl r)]
      subst h2
      exact⟨rfl,rfl,Nat.le_refl _,fun h=>absurd h (by simp[Zh])⟩
    |iter s p=>
     obtain⟨m,h1,h2⟩:=hE
     rw[fU h1 (.refl r)]
     exact hc.own m _ h2
    |gone=>exact trivial
    |smap kd g=>
     obtain⟨m,h1,h2⟩:=hE
     rw[fU h1 (.refl r)]
     exact hc.own m _ h2
    |arr sz ds=>
     obtain⟨m,cs,h1,h2,h3⟩:=hE
     obtain⟨h6,h7,us,Et,h4,h5⟩:=hc.own m _ h2
     rw[fU h1 (.refl r)]
     exact⟨h6,h7,us,Et,h4,h3.2 r (.refl r) I ρ w us h5.1,h5.2⟩
    |fam nk rows'=>
     obtain⟨m,rows,h1,h2,h3⟩:=hE
     obtain⟨h4,h5,h6⟩:=hc.own m _ h2
     rw[fU h1 (.refl r)]
     refine⟨h4,fun i r' hr'=> ?_,fun i i' r' r'' hr' hr''=> ?_⟩
     ·obtain⟨r0,hr0,e1,e2,e3,e4⟩:=h3.le i r' hr'
      obtain⟨g1,g2,g3⟩:=h5 i r0 hr0
      refine⟨g1,by rw[<-e3];exact g2,fun hcap=> ?_⟩
      obtain⟨arr,g4,g5,g6⟩:=g3 hcap
      refine⟨arr,by rw[<-e1];exact g4,by rw[<-e2];exact g5,fun a j ha hj=> ?_⟩
      rw[<-e3]at ha
      rw[<-e2]at hj⊢
      obtain⟨u,hu,hrep⟩:=g6 a j ha hj
      exact⟨u,hu,(e4.le a j ha hj).le _ _ _ hrep⟩
     ·obtain⟨r0,hr0,_⟩:=h3.le i r' hr'
      obtain⟨r1,hr1,_⟩:=h3.le i' r'' hr''
      exact h6 i i' r0 r1 hr0 hr1
    |dP fn' E' sz' len' g'=>
     rcases hE with⟨m,fn,g,h1,h2,h3,hf⟩|⟨h1,h2,_⟩
     ·obtain⟨h4,h5,h6,h7⟩:=hc.own m _ h2
      rw[fU h1 (.refl r)]
      refine⟨h4,h5,h6,fun hcap=> ?_⟩
      obtain⟨arr,h8,h9,h10⟩:=h7 hcap
      refine⟨arr,h8,h9,fun i j hi hj=> ?_⟩
      obtain⟨u,hu,hrep⟩:=h10 i j hi hj
      exact⟨u,hu,fnr hf _ _ ((h3.le i j hi hj).le _ _ _ _ _ hrep)⟩
     ·rw[fU h1 (.refl r)]
      subst h2
      exact⟨rfl,rfl,Nat.le_refl _,fun h=>absurd h (by simp[Zh])⟩
    |dW fn' ka kk va sz hh g'=>
     obtain⟨m,fn,h0,g,h1,h2,h3,hf⟩:=hE
     obtain⟨es,clock,h4,h5⟩:=hc.own m _ h2
     rw[fU h1 (.refl r)]
     refine⟨es,clock,h4,h5.stamped,h5.keys,fun e he k hk hek=> ?_,fun k hk hd=> ?_⟩
     ·obtain⟨g0,us,g1,g2,g3,g4⟩:=h5.ent e he k hk hek
      refine⟨by rw[<-h3.eq k];exact g0,us,g1,g2,fun j hj=> ?_,g4⟩
      obtain⟨u,hu,hr⟩:=g3 j hj
      exact⟨u,hu,fnr hf _ _ ((h3.le k j g0 hj).le _ _ _ _ _ hr)⟩
     ·exact h5.all k hk (by rw[h3.eq k];exact hd)
   fA:=by
    intro n b m hn hm
    have hE:=hB n b hn
    cases b with
    |box ds=>obtain⟨k,cs,h1,h2,h3⟩:=hE;exact hnm m (h3.1 m hm)
    |row _ _ _ _=>exact hm.elim
    |iter _ _=>exact hm.elim
    |gone=>exact hm.elim
    |smap _ _=>exact hm.elim
    |arr sz ds=>obtain⟨k,cs,h1,h2,h3⟩:=hE;exact hnm m (h3.1 m hm)
    |fam _ _=>exact hm.elim
    |dP fn' _ _ _ _=>
     simp only[inB]at hm
     subst hm
     rcases hE with⟨k,fn,g,h1,h2,h3,hf⟩|⟨h1,h2,h3⟩
     ·exact hnm _ (by rw[hf];rfl)
     ·exact hnm _ h3
    |dW fn' _ _ _ _ _ _=>
     simp only[inB]at hm
     subst hm
     obtain⟨k,fn,h0,g,h1,h2,h3,hf⟩:=hE
     exact hnm _ (by rw[hf];rfl)
   fO:=fun n b hn=>hnm n (d1 n b (uy hn))
   jA:=by
    intro n b k hn hl
    obtain⟨m,b0,h1,h2,h3,h4,_⟩:=src n b k hn hl
    exact hc.jA m b0 k h2 h3
   iE:=by
    intro n m b c k hn hm hl hl'
    obtain⟨n1,b0,h1,h2,h3,h4,_⟩:=src n b k hn hl
    obtain⟨m1,c0,g1,g2,g3,g4,_⟩:=src m c k hm hl'
    have:=hc.iE n1 m1 b0 c0 k h2 g2 h3 g3
    subst this
    exact d3 n b m c n1 hn hm h1 g1
   nT:=hc.nT,i0:=hc.i0,i1:=hc.i1
   old:=by
    intro n hn
    obtain⟨h1,h2,h3⟩:=hc.old n hn
    have hmem:n∈n0:=fP.1 h1
    obtain⟨h4,h5⟩:=hst n hmem
    refine⟨fP.2 (hsub0 n hmem),hnm n (by rw[h4];rfl),?_⟩
    rw[fU h4 (.refl r)]
    exact h3
   glob:=hc.glob,keep:=hc.keep}
 ·exact h.out.elim
end Go.Sx
namespace Go.Sx
open Go
variable {P:Program}{G:Nat->Option (Nat×(Nat->D))}{nt:Nat}{C:Ctx}{I:Nat->Prop}{ρ:Nat->Loc}{F:Fs}{a:Act}{w:World}{E:List Nat}{T:Nat}
def WM(P:Program):List ResultVar->(List SV->M bf)->M bf
 |[],k=>k []
 | .tmp t::l,k=> .slot t fun v=>WM P l fun r=>k (v::r)
 | .cell t T::l,k=> .slot t fun
   | .ptr n off=> .own n fun
     | .box cs=>FB off cs fun cs=>Ii P T cs fun v=>WM P l fun r=>k (v::r)
     |_=> .fail "result cell"
   |_=> .fail "result"
def BL:List Nat->(List Nat->M bf)->M bf
 |[],k=>k []
 |n::ns,k=> .own n fun
  | .box cs=>nH cs fun _ ms=>BL ns fun r=>k (ms++r)
  |_=> .fail "receiver"
def aj1(P:Program)(results:List ResultVar)(n0:List Nat):M bf:=
 WM P results fun vs=>og vs fun vs ns=>BL n0 fun ms=>match vs with
  |[v]=> .ret ⟨none,v,[],[],[],ns++ms⟩
  |vs=> .ret ⟨none,.cO vs,[],[],[],ns++ms⟩
def M.ev1:M bf->St->(SV->List (Nat×bG)->Prop)->Prop
 | .ret ⟨_,v,_,_,_,pub⟩,⟨s,o,_,n0⟩,K=>pubs n0 pub s o fun _ o=>K v o
 | .slot k f,⟨s,o,nm,n0⟩,K=>match look s k with
   |some v=>(f v).ev1 ⟨s,o,nm,n0⟩ K
   |none=>Stuck "slot"
 | .own n f,⟨s,o,nm,n0⟩,K=>match lookO o n with
   |some v=>(f v).ev1 ⟨s,o,nm,n0⟩ K
   |none=>Stuck "own"
 |_,_,_=>Stuck "result"
structure aB (x y:SV):Prop where
 le: ∀(I:Nat->Prop)(ρ:Nat->Loc)(w:World)(v:Value),aC I ρ w x v->aC I ρ w y v
theorem aB.refl(x:SV):aB x x:=⟨fun _ _ _ _ h=>h⟩
theorem aB.of_eq{x y:SV}(h:x=y):aB x y:=h▸aB.refl x
structure aI (x y:List SV):Prop where
 le: ∀(I:Nat->Prop)(ρ:Nat->Loc)(w:World)(v:List Value),aT I ρ w x v->aT I ρ w y v
theorem aI.refl(x:List SV):aI x x:=⟨fun _ _ _ _ h=>h⟩
theorem aI.of_eq{x y:List SV}(h:x=y):aI x y:=h▸aI.refl x
theorem aB.d{x y:D}(h:aF x y):aB (.d x) (.d y):=⟨fun _ _ _ _ hv=>by simp only[aC]at hv⊢;exact h.le _ _ _ hv⟩
theorem aI.nil:aI [] []:=aI.refl _
theorem aI.cons{x y:SV}{l m:List SV}(h:aB x y)(t:aI l m):aI (x::l) (y::m):=⟨fun I ρ w us hu=>by
 simp only[aT]at hu⊢
 obtain⟨u,r,rfl,h1,h2⟩:=hu
 exact⟨u,r,rfl,h.le _ _ _ _ h1,t.le _ _ _ _ h2⟩⟩
theorem aB.agg{l m:List SV}(t:aI l m):aB (.agg l) (.agg m):=⟨fun I ρ w v hv=>by
 simp only[aC]at hv⊢
 obtain⟨us,h1,h2,h3⟩:=hv
 exact⟨us,h1,t.le _ _ _ _ h2,h3⟩⟩
theorem aB.cO{l m:List SV}(t:aI l m):aB (.cO l) (.cO m):=⟨fun I ρ w v hv=>by
 simp only[aC]at hv⊢
 obtain⟨us,h1,h2⟩:=hv
 exact⟨us,h1,t.le _ _ _ _ h2⟩⟩
def TG(o:List (Nat×bG)):List (Nat×bG)->Prop
 |[]=>True
 |(n,.box ds)::l=>match lookO o n with
  |some (.box cs)=>aI cs ds∧TG o l
  |_=>Stuck "post"
 |_=>Stuck "post block"
structure Fin (v:SV) (o:List (Nat×bG)) (res:SV) (post:List (Nat×bG)):Prop where
 le:aB v res
 post:TG o post
def gZ:Nat->List SV->List (Nat×SV)
 |_,[]=>[]
 |i,v::l=>(i,v)::gZ (i+1) l
def Tn:SV->List SV
 | .cO l=>l
 |v=>[v]
def pnC:List SV->List SV->List Nat
 | .bW _ _ _ _::l,.bW _ _ _ _::m=>pnC l m
 | .bW n _ _ _::l,_::m=>n::pnC l m
 |_::l,_::m=>pnC l m
 |_,_=>[]
def pnS:SV->SV->List Nat
 | .agg cs,.agg ds=>pnC cs ds
 |v,r=>pnC [v] [r]
def pnL:List SV->List SV->List Nat
 |v::l,r::m=>pnS v r++pnL l m
 |_,_=>[]
def pnB(o:List (Nat×bG)):List (Nat×bG)->List Nat
 |[]=>[]
 |(n,.box ds)::l=>match lookO o n with
  |some (.box cs)=>pnC cs ds++pnB o l
  |_=>pnB o l
 |_::l=>pnB o l
def aj0(P:Program)(results:List ResultVar):M bf:=WM P results fun vs=> .ret ⟨none,.cO vs,[],[],[],[]⟩
def afD(n0:List Nat)(res:SV)(post:List (Nat×bG))(nm:List Nat):SV->List (Nat×bG)->Prop
 | .cO vs,o=>match Nat.beq vs.length (Tn res).length with
   |true=>pubs n0 (pnL vs (Tn res)++pnB o post) (gZ 0 vs) o fun s o=>Q7 ⟨s,o,nm,n0⟩ ⟨gZ 0 (Tn res),post,aQ post,n0⟩
   |false=>Stuck "results"
 |_,_=>Stuck "results"
def afh:List (Nat×bG)->Bool
 |[]=>true
 |(_,.box _)::l=>afh l
 |_=>false
def Gv(post:List (Nat×bG))(n0:List Nat):Bool:=
 match Nat.beq post.length n0.length with
 |true=>afh post
 |false=>false
theorem WQ{post:List (Nat×bG)}{n0:List Nat}(h:Gv post n0=true):post.length=n0.length:=by
 unfold Gv at h
 split at h
 ·rename_i e;exact Nat.eq_of_beq_eq_true e
 ·cases h
def Yz(P:Program)(results:List ResultVar)(n0:List Nat)(res:SV)(post:List (Nat×bG)):St->Prop
 |⟨s,o,nm,m0⟩=>match Gv post n0 with
  |true=>(aj1 P results n0).ev1 ⟨s,o,nm,m0⟩ fun v o=>Fin v o res post
  |false=>(aj0 P results).ev1 ⟨s,o,nm,m0⟩ (afD m0 res post nm)
def ab_(P:Program)(results:List ResultVar)(n0:List Nat)(res:SV)(post:List (Nat×bG)):Ex->St->Prop
 | .normal,σ=>Yz P results n0 res post σ
 | .ret,σ=>Yz P results n0 res post σ
 | .exit _,_=>Stuck "exit"
theorem ZB{K:SV->List (Nat×bG)->Prop}: ∀{m:M bf}{σ:St},m.ev1 σ K-> ∃u σ',To P G (iZ σ) m u∧K u.v σ'.o∧fH (iZ σ) u.pub (iZ σ'):=by
 intro m
 induction m with
 |ret u=>
  intro⟨s,o,nm,n0⟩ h
  obtain⟨dst,v,own,del,new,pub⟩:=u
  simp only[M.ev1]at h
  obtain⟨s1,o1,h,p⟩:=su (nm:=nm) (n0:=n0) h
  exact⟨_,⟨s1,o1,nm,n0⟩,.ret _,h,p⟩
 |slot k f ih=>
  intro⟨s,o,nm,n0⟩ h
  simp only[M.ev1]at h
  split at h
  ·rename_i v hv
   obtain⟨u,σ',t,r⟩:=ih v h
   exact⟨u,σ',.slot hv t,r⟩
  ·exact h.out.elim
 |own k f ih=>
  intro⟨s,o,nm,n0⟩ h
  simp only[M.ev1]at h
  split at h
  ·rename_i v hv
   obtain⟨u,σ',t,r⟩:=ih v h
   exact⟨u,σ',.own hv t,r⟩
  ·exact h.out.elim
 |_=>intro σ h;simp only[M.ev1]at h;exact h.out.elim
def JV(tmps:Array Value):ResultVar->Sem Value
 | .tmp t=>pure (tmps.getD t undef)
 | .cell a t=>do loadVar t (<-asAddr (tmps.getD a undef))
theorem WL(fn:Func)(tmps:Array Value):results fn tmps=(fn.results.mapM (JV tmps)>>=fun vs=>pure (if h:vs.size=1 then vs[0]else .tuple vs)):=by
 unfold results
 congr 1
def Xd:List Value->Value
 |[v]=>v
 |vs=> .tuple ⟨vs⟩
def Xe:List SV->SV
 |[v]=>v
 |vs=> .cO vs
theorem Ud{cs:List SV}{us:List Value}(h:aT I ρ w cs us):aC I ρ w (Xe cs) (Xd us):=by
 match cs,us,h.length,h with
 |[],[],_,h=>simp only[Xe,Xd,aC];exact⟨[],rfl,h⟩
 |[x],[v],_,h=>
  simp only[aT]at h
  obtain⟨y,r,hy,hr,_⟩:=h
  simp only[List.cons.injEq]at hy
  simp only[Xe,Xd]
  rw[hy.1];exact hr
 |x::y::r,v::z::q,_,h=>simp only[Xe,Xd,aC];exact⟨_,rfl,h⟩
theorem H9{fn:Func}{tmps:Array Value}{vs:List Value}(h:(fn.results.toList.mapM (JV tmps)).run P w= .ok vs w):
 (results fn tmps).run P w= .ok (Xd vs) w:=by
 rw[WL,Array.mapM_eq_mapM_toList]
 simp only[Sem.run_bind,Sem.run_map,h,Result.andThen_ok,Sem.run_pure]
 match vs with
 |[]=>rfl
 |[v]=>rfl
 |v::u::r=>simp[Xd]
theorem To.ED(hc:Conc G nt C I ρ F a w){u:bf}: ∀{l:List ResultVar}{k:List SV->M bf},To P G F (WM P l k) u->
 ∃cs vs,To P G F (k cs) u∧MI I ρ F w cs vs∧(l.mapM (JV a.tmps)).run P w= .ok vs w
 |[],k,h=>⟨[],[],h,⟨by simp[aT],by simp[jW]⟩,by simp⟩
 | .tmp t::l,k,h=>by
   simp only[WM]at h
   obtain⟨sv,h1,h⟩:=h.JC
   obtain⟨v,hv,hr⟩:=hc.slots t sv h1
   obtain⟨cs,vs,h,h2,h3⟩:=To.ED hc h
   refine⟨sv::cs,v::vs,h,⟨by simp only[aT];exact⟨v,vs,rfl,hr,h2.rep⟩,?_⟩,?_⟩
   ·intro n hn
    simp only[jW]at hn
    exact hn.elim (hc.gK t sv n h1) (h2.nm n)
   ·have:a.tmps.getD t undef=v:=by simp[Array.getD_eq_getD_getElem?,hv]
    simp only[List.mapM_cons,JV,Sem.run_bind,Sem.run_pure,this,Result.andThen_ok,h3]
 | .cell t T::l,k,h=>by
   simp only[WM]at h
   obtain⟨sv,h1,h⟩:=h.JC
   obtain⟨v,hv,hr⟩:=hc.slots t sv h1
   split at h
   ·rename_i n off
    simp only[aC]at hr
    obtain⟨b,hb,h'⟩:=h.eP
    clear h
    split at h'
    ·rename_i cs
     obtain⟨us,Et,h4,h5⟩:=hc.own n _ hb
     obtain⟨_,h'⟩:=To.rJ h'
     obtain⟨d,sv',v',hd,h',hv',hpv⟩:=To.uw (F:=F) h' ⟨h5.1.drop off,fun x hx=>h5.2 x (List.mem_of_mem_drop hx)⟩
      (fun m hm=>hc.fA n _ m hb (yZ (fun c hc=>List.mem_of_mem_drop hc) hm))
     obtain⟨cs',vs,h',h2,h3⟩:=To.ED hc h'
     refine⟨sv'::cs',v'::vs,h',⟨by simp only[aT];exact⟨v',vs,rfl,hv'.rep,h2.rep⟩,?_⟩,?_⟩
     ·intro m hm
      simp only[jW]at hm
      exact hm.elim (hv'.nm m) (h2.nm m)
     ·have e:a.tmps.getD t undef= .pointer (some ⟨(ρ n).b,off,none⟩):=by simp[Array.getD_eq_getD_getElem?,hv,hr]
      have hl:=jC (P:=P) (w:=w) hd (ad:=⟨(ρ n).b,off,none⟩) hpv (fun j x hx=>by rw[LX h4];simpa using hx)
      simp only[List.mapM_cons,JV,Sem.run_bind,e,asAddr,Sem.run_pure,hl,Result.andThen_ok,h3]
    ·exact h'.au.elim
   ·exact h.au.elim
theorem To.Dc{ρ:Nat->Loc}{w:World}{u:bf}: ∀{ns:List Nat}{k:List Nat->M bf},To P G F (BL ns k) u-> ∃ms,To P G F (k ms) u∧vM F ms
 |[],k,h=>⟨[],h,by simp[vM]⟩
 |n::ns,k,h=>by
  simp only[BL]at h
  obtain⟨b,hb,h'⟩:=h.eP
  clear h
  split at h'
  ·obtain⟨ds,ms,h1,h2,_,_⟩:=To.lV (ρ:=ρ) (w:=w) h'
   obtain⟨ms',h3,h4⟩:=To.Dc (ρ:=ρ) (w:=w) h1
   refine⟨ms++ms',h3,?_⟩
   intro m hm
   simp only[List.mem_append]at hm
   exact hm.elim (h2 m) (h4 m)
  ·exact h'.au.elim
mutual
def nmS:SV->List Nat
 | .ptr n _=>[n]
 | .qJ n _ _ _=>[n]
 | .bW n _ _ _=>[n]
 | .zG n _ _ _=>[n]
 | .uZ n _ _ _ _=>[n]
 | .mp n=>[n]
 | .agg cs=>nmL cs
 | .cO cs=>nmL cs
 | .clo _ cs=>nmL cs
 | .VY _ cs=>nmL cs
 |_=>[]
def nmL:List SV->List Nat
 |[]=>[]
 |c::cs=>nmS c++nmL cs
end
mutual
theorem XD{n:Nat}: ∀{v:SV},dO n v->n∈nmS v
 | .ptr _ _,h=>by simp only[dO]at h;subst h;simp[nmS]
 | .qJ _ _ _ _,h=>by simp only[dO]at h;subst h;simp[nmS]
 | .bW _ _ _ _,h=>by simp only[dO]at h;subst h;simp[nmS]
 | .zG _ _ _ _,h=>by simp only[dO]at h;subst h;simp[nmS]
 | .uZ _ _ _ _ _,h=>by simp only[dO]at h;subst h;simp[nmS]
 | .mp _,h=>by simp only[dO]at h;subst h;simp[nmS]
 | .agg cs,h=>by simp only[dO]at h;simp only[nmS];exact AP h
 | .cO cs,h=>by simp only[dO]at h;simp only[nmS];exact AP h
 | .clo _ cs,h=>by simp only[dO]at h;simp only[nmS];exact AP h
 | .VY _ cs,h=>by simp only[dO]at h;simp only[nmS];exact AP h
 | .d _,h=>by simp[dO]at h
 | .qN _ _,h=>by simp[dO]at h
 | .junk,h=>by simp[dO]at h
theorem AP{n:Nat}: ∀{cs:List SV},jW n cs->n∈nmL cs
 |[],h=>by simp[jW]at h
 |c::cs,h=>by
  simp only[jW]at h
  simp only[nmL,List.mem_append]
  exact Kt h XD AP
end
def preB(keys:List Nat):List (Nat×bG)->Bool
 |[]=>true
 |(_,.box cs)::l=>P5 keys (nmL cs)&&preB keys l
 |(_,.row _ _ _ _)::l=>preB keys l
 |(_,.dW fn _ _ _ _ _ _)::l=>g_ fn keys&&preB keys l
 |_=>false
def Df:Option bG->bG->Bool
 |none,_=>true
 |some (.box _),.box _=>true
 |some (.row _ _ _ _),.row _ _ _ _=>true
 |some (.dW _ _ _ _ _ _ _),.dW _ _ _ _ _ _ _=>true
 |some (.row _ _ _ _),.gone=>true
 |_,_=>false
def qP(keys:List Nat)(pre:List (Nat×bG)):List (Nat×bG)->Bool
 |[]=>true
 |(n,.box cs)::l=>P5 keys (nmL cs)&&(Df (lookO pre n) (.box cs)&&qP keys pre l)
 |(n,.row E sz len get)::l=>Df (lookO pre n) (.row E sz len get)&&qP keys pre l
 |(n,.smap kd g)::l=>Df (lookO pre n) (.smap kd g)&&qP keys pre l
 |(n,.gone)::l=>Df (lookO pre n) .gone&&qP keys pre l
 |(n,.fam nk rows)::l=>Df (lookO pre n) (.fam nk rows)&&qP keys pre l
 |(n,.dP fn E sz len get)::l=>g_ fn keys&&(Df (lookO pre n) (.dP fn E sz len get)&&qP keys pre l)
 |(n,.dW fn ka kk va sz has get)::l=>g_ fn keys&&(Df (lookO pre n) (.dW fn ka kk va sz has get)&&qP keys pre l)
 |_=>false
def nodupB:List Nat->Bool
 |[]=>true
 |n::l=> !(g_ n l)&&nodupB l
def Hz(args:List SV)(pre:List (Nat×bG))(res:SV)(post:List (Nat×bG)):Bool:=
 P5 (aQ pre) (nmL args)&&(preB (aQ pre) pre&&(qP (aQ post) pre post&&(P5 (aQ post) (nmS res)&&((aQ post==aQ pre++newP pre post)&&(vg (newP pre post) (aQ pre)&&nodupB (aQ post))))))
theorem o8{keys:List Nat}{pre:List (Nat×bG)}: ∀{l:List (Nat×bG)},qP keys pre l=true-> ∀n b,(n,b)∈l->Df (lookO pre n) b=true∧∀m,inB m b->m∈keys
 |[],_=>by simp
 |(i,c)::l,h=>by
  intro n b hn
  cases c with
  |box cs=>
   simp only[qP,Bool.and_eq_true]at h
   simp only[List.mem_cons,Prod.mk.injEq]at hn
   rcases hn with⟨rfl,rfl⟩|hn
   ·exact⟨h.2.1,fun m hm=>uH h.1 m (AP hm)⟩
   ·exact o8 h.2.2 n b hn
  |row E sz len get=>
   simp only[qP,Bool.and_eq_true]at h
   simp only[List.mem_cons,Prod.mk.injEq]at hn
   rcases hn with⟨rfl,rfl⟩|hn
   ·exact⟨h.1,fun m hm=>hm.elim⟩
   ·exact o8 h.2 n b hn
  |gone=>
   simp only[qP,Bool.and_eq_true]at h
   simp only[List.mem_cons,Prod.mk.injEq]at hn
   rcases hn with⟨rfl,rfl⟩|hn
   ·exact⟨h.1,fun m hm=>hm.elim⟩
   ·exact o8 h.2 n b hn
  |smap kd g=>
   simp only[qP,Bool.and_eq_true]at h
   simp only[List.mem_cons,Prod.mk.injEq]at hn
   rcases hn with⟨rfl,rfl⟩|hn
   ·exact⟨h.1,fun m hm=>hm.elim⟩
   ·exact o8 h.2 n b hn
  |fam nk rows=>
   simp only[qP,Bool.and_eq_true]at h
   simp only[List.mem_cons,Prod.mk.injEq]at hn
   rcases hn with⟨rfl,rfl⟩|hn
   ·exact⟨h.1,fun m hm=>hm.elim⟩
   ·exact o8 h.2 n b hn
  |dP fn E sz len get=>
   simp only[qP,Bool.and_eq_true]at h
   simp only[List.mem_cons,Prod.mk.injEq]at hn
   rcases hn with⟨rfl,rfl⟩|hn
   ·exact⟨h.2.1,fun m hm=>by simp only[inB]at hm;subst hm;exact fP.1 h.1⟩
   ·exact o8 h.2.2 n b hn
  |dW fn ka kk va sz has get=>
   simp only[qP,Bool.and_eq_true]at h
   simp only[List.mem_cons,Prod.mk.injEq]at hn
   rcases hn with⟨rfl,rfl⟩|hn
   ·exact⟨h.2.1,fun m hm=>by simp only[inB]at hm;subst hm;exact fP.1 h.1⟩
   ·exact o8 h.2.2 n b hn
  |iter _ _=>simp[qP]at h
  |arr _ _=>simp[qP]at h
theorem Xq{b c:bG}(h:Df (some c) b=true):sameKind c b:=by
 cases c<;>cases b<;>first|trivial|(simp[Df]at h)
theorem KC: ∀{l:List Nat},nodupB l=true->l.Nodup
 |[],_=> .nil
 |n::l,h=>by
  simp only[nodupB,Bool.and_eq_true]at h
  refine List.nodup_cons.2 ⟨fun hm=> ?_,KC h.2⟩
  rw[fP.2 hm]at h
  exact absurd h.1 (by simp)
theorem yV{n:Nat}{b:bG}: ∀{l:List (Nat×bG)},(aQ l).Nodup->(n,b)∈l->lookO l n=some b
 |[],_,h=>by simp at h
 |(i,c)::l,hd,h=>by
  rw[ji]
  simp only[aQ,List.map_cons,List.nodup_cons]at hd
  simp only[List.mem_cons,Prod.mk.injEq]at h
  rcases h with⟨rfl,rfl⟩|h
  ·simp
  ·rw[if_neg]
   ·exact yV hd.2 h
   ·rintro rfl
    exact hd.1 (List.mem_map.2 ⟨_,h,rfl⟩)
theorem EK{keys:List Nat}: ∀{l:List (Nat×bG)},preB keys l=true-> ∀n b,(n,b)∈l->GX b∧∀m,inB m b->m∈keys
 |[],_=>by simp
 |(i,c)::l,h=>by
  intro n b hn
  cases c with
  |box cs=>
   simp only[preB,Bool.and_eq_true]at h
   simp only[List.mem_cons,Prod.mk.injEq]at hn
   rcases hn with⟨rfl,rfl⟩|hn
   ·exact⟨trivial,fun m hm=>uH h.1 m (AP hm)⟩
   ·exact EK h.2 n b hn
  |row E sz len get=>
   simp only[preB]at h
   simp only[List.mem_cons,Prod.mk.injEq]at hn
   rcases hn with⟨rfl,rfl⟩|hn
   ·exact⟨trivial,fun m hm=>hm.elim⟩
   ·exact EK h n b hn
  |iter _ _=>simp[preB]at h
  |gone=>simp[preB]at h
  |smap _ _=>simp[preB]at h
  |arr _ _=>simp[preB]at h
  |fam _ _=>simp[preB]at h
  |dP _ _ _ _ _=>simp[preB]at h
  |dW fn _ _ _ _ _ _=>
   simp only[preB,Bool.and_eq_true]at h
   simp only[List.mem_cons,Prod.mk.injEq]at hn
   rcases hn with⟨rfl,rfl⟩|hn
   ·exact⟨trivial,fun m hm=>by simp only[inB]at hm;subst hm;exact fP.1 h.1⟩
   ·exact EK h.2 n b hn
theorem qc{k:Nat}{sv:SV}: ∀{i:Nat}{l:List SV},look (gZ i l) k=some sv->i<=k∧l[k-i]? =some sv
 |i,[],h=>by simp[gZ,look]at h
 |i,v::l,h=>by
  simp only[gZ]at h
  rw[jE]at h
  split at h
  ·rename_i e;subst e;cases h;exact⟨Nat.le_refl _,by simp⟩
  ·rename_i e
   obtain⟨h1,h2⟩:=qc h
   refine⟨Om,?_⟩
   rw[show k-i=(k-(i+1))+1 by omega]
   simpa using h2
def oO(fn:Func):Code:=fn.body.getD .skip
theorem Conc.results(hc:Conc G nt C I ρ F a w){cs:List SV}{vs:List Value}(hv:MI I ρ F w cs vs):
 Conc G vs.length C I ρ ⟨look (gZ 0 cs),F.o,F.nm,F.n0⟩ {tmps:=⟨vs⟩,defers:=[]} w where
 defers:=rfl
 size:=rfl
 slots:=by
  intro k sv hk
  obtain⟨_,h2⟩:=qc hk
  simp only[Nat.sub_zero]at h2
  obtain⟨v,h3,hr⟩:=hv.rep.get h2
  exact⟨v,by simpa using h3,hr⟩
 gK:=by
  intro k sv n hk hn
  obtain⟨_,h2⟩:=qc hk
  simp only[Nat.sub_zero]at h2
  exact hv.nm n (jd.2 ⟨sv,List.mem_of_getElem? h2,hn⟩)
 own:=hc.own
 fA:=hc.fA
 fO:=hc.fO
 jA:=hc.jA
 iE:=hc.iE
 nT:=hc.nT
 i0:=hc.i0
 i1:=hc.i1
 old:=hc.old
 glob:=hc.glob
 keep:=hc.keep
theorem Ij: ∀{l:List SV}{i k:Nat}{v:SV},l[k]? =some v->look (gZ i l) (i+k)=some v
 |[],i,k,v,h=>by simp at h
 |x::l,i,0,v,h=>by simp only[gZ,jE];simpa using h
 |x::l,i,k+1,v,h=>by
  simp only[gZ,jE]
  rw[if_neg Om]
  have:=Ij (l:=l) (i:=i+1) (k:=k) (v:=v) (by simpa using h)
  rw[show i+(k+1)=i+1+k by omega]
  exact this
theorem aT.Uf: ∀{cs:List SV}{vs:List Value},cs.length=vs.length->(∀(k:Nat)(v:SV),cs[k]? =some v-> ∃u,vs[k]? =some u∧aC I ρ w v u)->aT I ρ w cs vs
 |[],[],_,_=>by simp[aT]
 |[],_::_,h,_=>by simp at h
 |_::_,[],h,_=>by simp at h
 |c::cs,v::vs,h,hk=>by
  simp only[aT]
  obtain⟨u,h1,h2⟩:=hk 0 c rfl
  simp only[List.getElem?_cons_zero,Option.some.injEq]at h1
  subst h1
  exact⟨v,vs,rfl,h2,aT.Uf (by simpa using h) (fun k x hx=>by simpa using hk (k+1) x (by simpa using hx))⟩
theorem ac5{res:SV}:Xe (Tn res)=res∨∃v,res= .cO [v]:=by
 cases res with
 |cO l=>match l with
  |[]=>exact .inl rfl
  |[v]=>exact .inr ⟨v,rfl⟩
  |_::_::_=>exact .inl rfl
 |_=>exact .inl rfl
def wF:SV->Bool
 | .cO [_]=>false
 |_=>true
theorem QY{L:Loc}{b:bG}{k:Nat}(h:GX b)(hf:foot L b k):live L b∧k=L.b:=by
 rcases UU hf with h1|⟨nk,rows,rfl,_⟩
 ·exact h1
 ·exact h.elim
theorem wu{f:FuncId}{fn:Func}{args:List SV}{pre:List (Nat×bG)}{res:SV}{post:List (Nat×bG)}(hE:I8 P E)(hf:P.funcs[f]? =some fn)(hb:fn.body=some (oO fn))
 (henter: ∀(vs:Array Value)(w:World),(callFunc f vs).run P w= .ok (.enter f vs) w) (hn:Nat.ble args.length fn.ntmps=true) (xP:(Hz args pre res post&&wF res)=true)
 (σ0:St) (he:vX ⟨gZ 0 args,pre,aQ pre,aQ pre⟩ σ0) (h:exec P G E fn.ntmps (oO fn) σ0 (ab_ P fn.results.toList (aQ pre) res post)):Spec P G f args pre res post:=by
 simp only[Hz,Bool.and_eq_true,beq_iff_eq]at xP
 obtain⟨⟨s1,s2,s3,s4,s5,s6,s7⟩,s8⟩:=xP
 have s1:=uH s1
 have s2:=EK s2
 have s3:=o8 s3
 have s4:=uH s4
 have s6:=nM s6
 have s7:=KC s7
 have s9:(aQ pre).Nodup:=(List.nodup_append.1 (s5▸s7)).1
 have hkind: ∀n b c,(n,b)∈post->(n,c)∈pre->sameKind c b:=fun n b c hb hc=>Xq (by rw[<-yV s9 hc];exact(s3 n b hb).1)
 have hn:args.length<=fn.ntmps:=Nat.le_of_ble_eq_true hn
 refine {keys:=s5,apart:=s6,lu:=fun n hn=>s4 n (XD hn),jI:=fun n b m hm hk=>(s3 n b hm).2 m hk,kind:=hkind,enter:=henter,calls:= ?_}
 intro w I ρ vs hargs hpre hdis hI hG
 have hvl:=hargs.length
 let C:Ctx:={I0:=I,ρ0:=ρ,N0:=fun n=>n∈aQ pre,S0:=fun k=> ∃n b,(n,b)∈pre∧live (ρ n) b∧(ρ n).b=k,w0:=w}
 have hc:Conc G fn.ntmps C I ρ (iZ ⟨gZ 0 args,pre,aQ pre,aQ pre⟩) {tmps:=⟨vs⟩++Array.replicate (fn.ntmps-(Array.mk vs).size) undef,defers:=[]} w:=by
  have hmem: ∀n b,lookO pre n=some b->(n,b)∈pre:=fun n b h=>uy h
  have hkey: ∀n b,(n,b)∈pre->g_ n (aQ pre)=true:=fun n b h=>fP.2 (List.mem_map.2 ⟨_,h,rfl⟩)
  exact {
   defers:=rfl
   size:=by
    have:(Array.mk vs).size=args.length:=hvl
    simp[this]
    omega
   slots:=by
    intro k sv hk
    obtain⟨_,h2⟩:=qc (show look (gZ 0 args) k=some sv from hk)
    simp only[Nat.sub_zero]at h2
    obtain⟨v,hv,hr⟩:=hargs.get h2
    refine⟨v,?_,hr⟩
    have hlt:k<vs.length:=(List.getElem?_eq_some_iff.1 hv).1
    rw[Array.getElem?_append_left (by simpa using hlt)]
    simpa using hv
   gK:=by
    intro k sv n hk hn
    obtain⟨_,h2⟩:=qc (show look (gZ 0 args) k=some sv from hk)
    simp only[Nat.sub_zero]at h2
    exact fP.2 (s1 n (AP (jd.2 ⟨sv,List.mem_of_getElem? h2,hn⟩)))
   own:=fun n b hn=>(hpre n b (hmem n b hn)).1
   fA:=fun n b m hn hm=>fP.2 ((s2 n b (hmem n b hn)).2 m hm)
   fO:=fun n b hn=>hkey n b (hmem n b hn)
   jA:=fun n b k hn hl=>by
    obtain⟨h1,h2⟩:=QY (s2 n b (hmem n b hn)).1 hl
    subst h2
    exact⟨(hpre n b (hmem n b hn)).2 h1,.inr ⟨n,b,hmem n b hn,h1,rfl⟩⟩
   iE:=fun n m b c k hn hm hl hl'=>by
    obtain⟨h1,h2⟩:=QY (s2 n b (hmem n b hn)).1 hl
    subst h2
    obtain⟨h3,h4⟩:=QY (s2 m c (hmem m c hm)).1 hl'
    exact hdis n b m c (hmem n b hn) (hmem m c hm) h1 h3 h4
   nT:=hI
   i0:=fun _ h=>h
   i1:=fun _ h=> .inl h
   old:=fun n hn=>⟨fP.2 hn,fP.2 hn,rfl⟩
   glob:=hG
   keep:=Keep.refl _ _}
 obtain⟨I9,ρ9,hc9⟩:=he.out hc
 refine calls_of_wp hf hb (wp_mono (XV hE h hc9) ?_)
 intro e a' w' hg
 have fin: ∀{σ:St}{I':Nat->Prop}{ρ':Nat->Loc},Yz P fn.results.toList (aQ pre) res post σ->Conc G fn.ntmps C I' ρ' (iZ σ) a' w'->
  a'.defers=[]∧∃v,(results fn a'.tmps).run P w'= .ok v w'∧(∃v' I' ρ',(Ending.returned v)= .returned v'∧After I ρ w pre res post I' ρ' w' v'):=by
  intro σ I' ρ' h hc'
  obtain⟨ss,oo,nn,mm⟩:=σ
  simp only[Yz]at h
  split at h
  ·
   rename_i hlen
   have hnew:newP pre post=[]:=by
    have e:=WQ hlen
    unfold newP
    rw[List.drop_eq_nil_of_le]
    simp only[aQ,List.length_map]at e⊢
    omega
   have s5':aQ post=aQ pre:=by rw[s5,hnew,List.append_nil]
   obtain⟨u,σ',t,hk,p⟩:=ZB (P:=P) (G:=G) h
   obtain⟨cs,vs',t,hvs,hres⟩:=To.ED hc' t
   obtain⟨ds,ns,t,l1,l2,l3⟩:=To.nI (ρ:=ρ') (w:=w') t
   obtain⟨ms,t,m1⟩:=To.Dc (ρ:=ρ') (w:=w') t
   have hu:u.pub=ns++ms∧u.v=Xe ds:=by
    match ds,t with
    |[],t=>have:=t.dV;subst this;exact⟨rfl,rfl⟩
    |[x],t=>have:=t.dV;subst this;exact⟨rfl,rfl⟩
    |x::y::r,t=>have:=t.dV;subst this;exact⟨rfl,rfl⟩
   obtain⟨I2,hc2,hI2,GU,hnm,_⟩:=p.LJ hc'
   have hBk: ∀n b,(iZ ⟨ss,oo,nn,mm⟩).o n=some b->dX I2 ρ' w' (ρ' n) b:=fun n b hb=>(hc'.own n b hb).mono hI2 (fun _ _ _=>rfl) (fun _ _=>rfl) (fun _ _=>rfl)
   have hds:aT I2 ρ' w' ds vs':=l3 I2 vs' (fun n hn hcap=>GU n (by rw[hu.1];simp[hn]) (l1 n hn) hcap) hBk (hvs.rep.mono hI2 (fun _ _ _=>rfl) (fun _ _=>rfl))
   have hval:aC I2 ρ' w' u.v (Xd vs'):=by
    rw[hu.2]
    exact Ud hds
   have hres2:=hk.le.le _ _ _ _ hval
   have hold: ∀n,n∈aQ pre->ρ n=ρ' n:=fun n hn=>((hc2.old n hn).2.2).symm
   have hpost: ∀{l:List (Nat×bG)},TG σ'.o l-> ∀n b,(n,b)∈l-> ∃cs ds,lookO σ'.o n=some (.box cs)∧b= .box ds∧aI cs ds:=by
    intro l
    induction l with
    |nil=>intro _ n b hn;simp at hn
    |cons x l ih=>
     obtain⟨i,c⟩:=x
     intro h n b hn
     cases c with
     |box es=>
      simp only[TG]at h
      split at h
      ·rename_i cs hcs
       simp only[List.mem_cons,Prod.mk.injEq]at hn
       rcases hn with⟨rfl,rfl⟩|hn
       ·exact⟨cs,es,hcs,rfl,h.1⟩
       ·exact ih h.2 n b hn
      ·exact h.out.elim
     |_=>simp only[TG]at h;exact h.out.elim
   have hnS: ∀b,I2 b-> ¬∃n c,(n,c)∈pre∧live (ρ n) c∧(ρ n).b=b:=by
    rintro b hb ⟨m,c,hm,hlm,e⟩
    have hmk:m∈aQ pre:=List.mem_map.2 ⟨_,hm,rfl⟩
    obtain⟨c',hc'm⟩:=iL.1 (show m∈aQ post by rw[s5'];exact hmk)
    obtain⟨cs',ds',h1,_,_⟩:=hpost hk.post m c' hc'm
    exact(hc2.jA m (.box cs') b (by cases σ';exact h1) (show b=(ρ' m).b by rw[<-hold m hmk];exact e.symm)).1 hb
   refine⟨hc'.defers,_,H9 hres,_,I2,ρ,rfl,{old:=fun _ _=>rfl,res:=hres2.mono (fun _ h=>h) (fun _ _ _=>rfl) (fun n hn=>hold n (s5'▸s4 n (XD hn))),own:= ?_,i0:=fun b hb=>hI2 b (hc'.i0 b hb),i1:=fun b hb=>(hc2.i1 b hb).imp_right (fun h=> .inl (h.resolve_right (hnS b hb))),nT:=hc2.nT,keep:=hc2.keep,sep:=fun n b k _ hn=>(by rw[hnew]at hn;cases hn),inj:=fun n m b c k _ _ hn=>(by rw[hnew]at hn;cases hn)}⟩
   intro n b hnb
   obtain⟨cs',ds',h1,rfl,h2⟩:=hpost hk.post n b hnb
   have hkey:n∈aQ pre:=by rw[<-s5'];exact List.mem_map.2 ⟨_,hnb,rfl⟩
   have h3:=hc2.own n (.box cs') (by cases σ';exact h1)
   obtain⟨us,Et,h4,h5⟩:=h3
   rw[hold n hkey]
   refine⟨us,Et,h4,(h2.le _ _ _ _ h5.1).mono (fun _ h=>h) (fun _ _ _=>rfl) (fun m hm=>hold m (s5'▸(s3 n _ hnb).2 m hm)),h5.2⟩
  ·
   obtain⟨u,σ',t,hk,p⟩:=ZB (P:=P) (G:=G) h
   obtain⟨cs,vs',t,hvs,hres⟩:=To.ED hc' t
   have:=t.dV
   subst this
   obtain⟨s1,o1,n1,m1⟩:=σ'
   have hoo:lookO o1=lookO oo:=by
    have e: ∀{A B:Fs},fH A [] B->A=B:=by intro A B h;cases h;rfl
    exact congrArg Fs.o (e p).symm
   simp only[afD]at hk
   split at hk
   ·rename_i hlen
    obtain⟨s2,o2,hk,p2⟩:=su (nm:=nn) (n0:=mm) hk
    have hcr:=hc'.results hvs
    have e0:(⟨look (gZ 0 cs),(iZ ⟨ss,oo,nn,mm⟩).o,(iZ ⟨ss,oo,nn,mm⟩).nm,(iZ ⟨ss,oo,nn,mm⟩).n0⟩:Fs)=iZ ⟨gZ 0 cs,o1,nn,mm⟩:=by
     simp only[iZ,hoo]
    rw[e0]at hcr
    obtain⟨I2,hc2,hI2,_⟩:=p2.LJ hcr
    obtain⟨ρ2,hc3⟩:=Ll hk hc2
    have hl1:vs'.length=cs.length:=hvs.rep.length
    have hl2:=Nat.eq_of_beq_eq_true hlen
    have hval:aT I2 ρ2 w' (Tn res) vs':=aT.Uf Om (fun k v hv=>by
     have:=hc3.slots k v (show look (gZ 0 (Tn res)) k=some v by simpa using Ij (i:=0) hv)
     simpa using this)
    have hone:Xe (Tn res)=res:=by
     rcases ac5 (res:=res)with h|⟨v,rfl⟩
     ·exact h
     ·simp[wF]at s8
    have hres2:=Ud hval
    rw[hone]at hres2
    have hlk: ∀n b,(n,b)∈post->(iZ ⟨gZ 0 (Tn res),post,aQ post,mm⟩).o n=some b:=fun n b hn=>yV s7 hn
    have ahU: ∀k,(∃m c,(m,c)∈pre∧live (ρ m) c∧(ρ m).b=k)->(∀m b',(m,b')∈post->m∈aQ pre->foot (ρ2 m) b' k->False)->oQ ρ pre post k:=by
     rintro k ⟨m,c,hm,hlm,e⟩ hno
     refine⟨m,c,hm,hlm,e,fun b' hb'=> ?_⟩
     have hmk:m∈aQ pre:=List.mem_map.2 ⟨_,hm,rfl⟩
     rcases(hkind m b' c hb' hm).back hlm with h|h
     ·exact h
     ·exact(hno m b' hb' hmk (by have h9:=fZ h;rw[e]at h9;rw[(hc3.old m hmk).2.2];exact h9)).elim
    refine⟨hc'.defers,_,H9 hres,_,I2,ρ2,rfl,{old:=fun n hn=>(hc3.old n hn).2.2,res:=hres2,own:=fun n b hn=>hc3.own n b (hlk n b hn),i0:=hc3.i0,i1:=fun b hb=>(hc3.i1 b hb).imp_right (fun h=>h.imp_right (fun h9=>ahU b h9 (fun m b' hb' _ hf=>(hc3.jA m b' b (hlk m b' hb') hf).1 hb))),nT:=hc3.nT,keep:=hc3.keep,sep:= ?_,inj:= ?_}⟩
    ·intro n b k hnb hnew hl
     obtain⟨h1,h2⟩:=hc3.jA n b k (hlk n b hnb) hl
     refine⟨h1,h2.imp_right (fun h9=>ahU k h9 (fun m b' hb' hmk hf=> ?_))⟩
     have e:=hc3.iE m n b' b k (hlk m b' hb') (hlk n b hnb) hf hl
     subst e
     exact s6 m hnew hmk
    ·intro n m b c k hnb hmc _ _ hl hl'
     exact hc3.iE n m b c k (hlk n b hnb) (hlk m c hmc) hl hl'
   ·exact hk.out.elim
 cases e with
 |normal=>
  obtain⟨σ,I',ρ',hk,hc'⟩:=hg
  exact fin hk hc'
 |ret=>
  obtain⟨σ,I',ρ',hk,hc'⟩:=hg
  exact fin hk hc'
 |exit id=>obtain⟨σ,I',ρ',hk,hc'⟩:=hg;exact hk.out.elim
 |_=>exact hg.elim
theorem qZ{f:FuncId}{fn:Func}{args:List SV}{pre:List (Nat×bG)}{res:SV}{post:List (Nat×bG)}(hE:I8 P E)(hf:P.funcs[f]? =some fn)(hb:fn.body=some (oO fn))
 (henter: ∀(vs:Array Value)(w:World),(callFunc f vs).run P w= .ok (.enter f vs) w) (hn:Nat.ble args.length fn.ntmps=true) (xP:(Hz args pre res post&&wF res)=true)
 (h:exec P G E fn.ntmps (oO fn) ⟨gZ 0 args,pre,aQ pre,aQ pre⟩ (ab_ P fn.results.toList (aQ pre) res post)):Spec P G f args pre res post:=
 wu hE hf hb henter hn xP _ (vX.refl _) h
theorem U_{s:List (Nat×SV)}{o:List (Nat×bG)}{nm n0:List Nat}(h:g_ qM nm=false):vX ⟨s,o,nm,n0⟩ ⟨s,(qM,.fam 0 fun _=>none)::o,qM::nm,n0⟩:=⟨fun {G nt C I ρ a w} hc=>by
 have hn: ¬(iZ ⟨s,o,nm,n0⟩).nm qM:=by simp only[iZ];rw[h];simp
 have h1:=hc.new (w':=w) hn (L:=Oz 0 0 0 0 0) (blk:= .fam 0 fun _=>none) (fun _ _ _=>rfl) (fun _ _ _ _ _=>rfl) hc.keep hc.nT ⟨rfl,fun _ _ h=>by(cases h),fun _ _ _ _ h=>by(cases h)⟩ (by simp[inB])
  (by rintro j ⟨i,r,h,_⟩;cases h)
 refine⟨I,dU ρ qM (Oz 0 0 0 0 0),?_⟩
 have e:iZ ⟨s,(qM,.fam 0 fun _=>none)::o,qM::nm,n0⟩=kS (iZ ⟨s,o,nm,n0⟩) qM (.fam 0 fun _=>none):=by
  refine G6 rfl (fun q=> ?_) (fun q=> ?_) rfl
  ·simp only[iZ,kS,ji]
   by_cases e:q=qM
   ·simp[e]
   ·rw[if_neg e,if_neg (Ne.symm e)]
  ·simp only[iZ,kS,fP,List.mem_cons]
 rw[e];exact h1⟩
theorem rZ{f:FuncId}{fn:Func}{args:List SV}{pre:List (Nat×bG)}{res:SV}{post:List (Nat×bG)}(hE:I8 P E)(hf:P.funcs[f]? =some fn)(hb:fn.body=some (oO fn))
 (henter: ∀(vs:Array Value)(w:World),(callFunc f vs).run P w= .ok (.enter f vs) w) (hn:Nat.ble args.length fn.ntmps=true) (xP:(Hz args pre res post&&wF res)=true) (ig:g_ qM (aQ pre)=false)
 (h:exec P G E fn.ntmps (oO fn) ⟨gZ 0 args,(qM,.fam 0 fun _=>none)::pre,qM::aQ pre,aQ pre⟩ (ab_ P fn.results.toList (aQ pre) res post)):Spec P G f args pre res post:=
 wu hE hf hb henter hn xP _ (U_ ig) h
theorem oN{f:FuncId}{args:List SV}{pre:List (Nat×bG)}{xg:List Nat}{K:SV->List (Nat×bG)->Prop}{res:SV}{post:List (Nat×bG)}(h:Spec P G f args pre res post)(k:K res post)(hb:xg=[]∨(qR res=true∧lT post)):
 vN P G f args pre xg K:= .mk res post h hb k
theorem ahx{b:Bool}{X Y:Prop}(h:b=true)(x:X):bc b X Y:=by subst h;exact x
theorem afl{b:Bool}{X Y:Prop}(h:b=false)(y:Y):bc b X Y:=by subst h;exact y
end Go.Sx
