/- Part of a symbolic executor over the model, proved sound, with plain laws: SxCall. Written for this claim. -/
import Derived.Test.YtgdgkekpfmhbbaaGreatDoorSxOps
import Derived.WideKeyRuns
set_option linter.unusedVariables false
set_option linter.unusedSimpArgs false
namespace Go.Sx
open Go
variable {P:Program}{G:Nat->Option (Nat×(Nat->D))}{nt:Nat}{C:Ctx}{I:Nat->Prop}{ρ:Nat->Loc}{F:Fs}{a:Act}{w:World}{E:List Nat}{T:Nat}
theorem P9: ∀{post:List (Nat×bG)}{F:Fs}{m:Nat}{b:bG},(jS F post).o m=some b->(m,b)∈post∨(F.o m=some b∧m ∉ post.map (·.1))
 |[],_,_,_,h=> .inr ⟨h,by simp⟩
 |(n,c)::post,F,m,b,hh=>by
  rcases P9 (post:=post) hh with h|⟨h,hn⟩
  ·exact .inl (by simp[h])
  ·simp only[fE]at h
   split at h
   ·rename_i e
    simp only[Option.some.injEq]at h
    exact .inl (by rw[e,<-h];simp)
   ·rename_i e;exact .inr ⟨h,by simp at hn⊢;exact⟨e,hn⟩⟩
theorem jY: ∀{post:List (Nat×bG)}{F:Fs},(jS F post).s=F.s∧(jS F post).nm=F.nm∧(jS F post).n0=F.n0
 |[],_=>⟨rfl,rfl,rfl⟩
 |(n,c)::post,F=>jY (post:=post) (F:=fE F n c)
theorem iL{n:Nat}{l:List (Nat×bG)}:n∈aQ l↔∃b,(n,b)∈l:=by
 simp[aQ]
def lW(ρ ρ':Nat->Loc)(new:List Nat)(n:Nat):Loc:=if n∈new then ρ' n else ρ n
theorem Qy: ∀{ns:List Nat}{F:Fs},(EW F ns).s=F.s∧(EW F ns).o=F.o∧(EW F ns).n0=F.n0∧∀m,(EW F ns).nm m↔(m∈ns∨F.nm m)
 |[],F=>⟨rfl,rfl,rfl,by simp[EW]⟩
 |n::ns,F=>by
  obtain⟨h1,h2,h3,h4⟩:=Qy (ns:=ns) (F:={F with nm:=fun m=>m=n∨F.nm m})
  refine⟨h1,h2,h3,fun m=> ?_⟩
  simp only[EW]
  rw[h4]
  simp only[List.mem_cons]
  constructor
  ·rintro(h|h|h)
   ·exact .inl (.inr h)
   ·exact .inl (.inl h)
   ·exact .inr h
  ·rintro((h|h)|h)
   ·exact .inr (.inl h)
   ·exact .inl h
   ·exact .inr (.inr h)
theorem Conc.ab7(hc:Conc G nt C I ρ F a w){f:FuncId}{args:List SV}{names:List Nat}{pre post:List (Nat×bG)}{res:SV}(hp:ZW F names pre)(hs:Spec P G f args pre res post)
 (hf: ∀n∈newP pre post,¬F.nm n) {I':Nat->Prop} {ρ':Nat->Loc} {w':World} {v:Value} (h:After I ρ w pre res post I' ρ' w' v):
 Conc G nt C I' (lW ρ ρ' (newP pre post)) (EW (jS F post) (newP pre post)) a w'∧aC I' (lW ρ ρ' (newP pre post)) w' res v∧∀n,dO n res->(EW (jS F post) (newP pre post)).nm n:=by
 have hmem: ∀n,n∈aQ pre-> ∃b,(n,b)∈pre∧F.o n=some b∧GX b:=by
  intro n hn
  obtain⟨b,hb⟩:=iL.1 hn
  exact⟨b,hb,hp.2 n b hb⟩
 have hkey: ∀n,n∈aQ post->n∈aQ pre∨n∈newP pre post:=fun n hn=>by rw[hs.keys]at hn;exact List.mem_append.1 hn
 have hnew: ∀n,n∈newP pre post->n∈aQ post:=fun n hn=>by rw[hs.keys];exact List.mem_append.2 (.inr hn)
 have DK: ∀n,n∈aQ post->lW ρ ρ' (newP pre post) n=ρ' n:=by
  intro n hn
  unfold lW
  split
  ·rfl
  ·rename_i hnn
   exact(h.old n ((hkey n hn).resolve_right hnn)).symm
 have sN: ∀n,F.nm n->lW ρ ρ' (newP pre post) n=ρ n:=by
  intro n hn
  unfold lW
  rw[if_neg (fun hnn=>hf n hnn hn)]
 have hIS: ∀b,I b->b<w.heap.size∧¬∃n c,(n,c)∈pre∧live (ρ n) c∧(ρ n).b=b:=by
  intro b hb
  refine⟨hc.nT b hb,?_⟩
  rintro⟨n,c,hn,hl,rfl⟩
  have:=hp.2 n c hn
  exact(hc.sep n c this.1 hl).1 hb
 have hS:Same I w w':=Eu h.keep hIS
 have y5:=Qy (ns:=newP pre post) (F:=jS F post)
 have key: ∀m b,(EW (jS F post) (newP pre post)).o m=some b->
  (m∈newP pre post∧(m,b)∈post)∨(m ∉ newP pre post∧F.nm m∧∃b0,F.o m=some b0∧(∀k,foot (ρ m) b k->foot (ρ m) b0 k)∧((m,b)∈post∨(F.o m=some b∧m ∉ aQ pre))):=by
  intro m b hm
  rw[y5.2.1]at hm
  rcases P9 hm with hp1|⟨h1,hn⟩
  ·rcases hkey m (iL.2 ⟨b,hp1⟩)with hk|hk
   ·obtain⟨b0,hb0,h0,_⟩:=hmem m hk
    have hk2:=hs.kind m b b0 hp1 hb0
    exact .inr ⟨fun hn=>hs.apart m hn hk,hc.fO m b0 h0,b0,h0,fun k=>hk2.foot k,.inl hp1⟩
   ·exact .inl ⟨hk,hp1⟩
  ·refine .inr ⟨fun hk=>hn (hnew m hk),hc.fO m b h1,b,h1,fun _ h=>h,.inr ⟨h1,fun hk=>hn (by rw[show post.map (·.1)=aQ post from rfl,hs.keys];exact List.mem_append.2 (.inl hk))⟩⟩
 refine⟨?_,h.res.mono (fun _ h=>h) (fun _ _ _=>rfl) (fun n hn=>DK n (hs.lu n hn)),?_⟩
 ·exact {
  defers:=hc.defers,size:=hc.size
  slots:=by
   rw[y5.1,jY.1]
   intro k sv hk
   obtain⟨v,hv,hr⟩:=hc.slots k sv hk
   exact⟨v,hv,hr.mono h.i0 hS (fun n hn=>sN n (hc.gK k sv n hk hn))⟩
  gK:=by
   rw[y5.1,jY.1]
   intro k sv n hk hn
   rw[y5.2.2.2,jY.2.1]
   exact .inr (hc.gK k sv n hk hn)
  own:=by
   intro m b hm
   have uX:(m,b)∈post->dX I' (lW ρ ρ' (newP pre post)) w' (lW ρ ρ' (newP pre post) m) b:=by
    intro hb
    rw[DK m (iL.2 ⟨b,hb⟩)]
    exact(h.own m b hb).mono (fun _ h=>h) (fun _ _ _=>rfl) (fun k hk=>DK k (hs.jI m b k hb hk)) (fun _ _=>rfl)
   rcases key m b hm with⟨_,hb⟩|⟨_,hnm,b0,h0,hl,hb|⟨hb,hn⟩⟩
   ·exact uX hb
   ·exact uX hb
   ·rw[sN m hnm]
    refine(hc.own m b hb).mono h.i0 hS (fun k hk=>sN k (hc.fA m b k hb hk)) (fun j hlv=>h.keep.block _ (hc.kL hb hlv) ?_)
    rintro⟨n,c,hnc,hl2,rfl⟩
    have hpn:=hp.2 n c hnc
    have:=hc.iE n m c b _ hpn.1 hb (fZ hl2) hlv
    subst this
    exact hn (iL.2 ⟨_,hnc⟩)
  fA:=by
   intro m b k hm hk'
   rw[y5.2.2.2,jY.2.1]
   have uX:(m,b)∈post->k∈newP pre post∨F.nm k:=by
    intro hb
    rcases hkey k (hs.jI m b k hb hk')with h1|h1
    ·obtain⟨b1,_,h2,_⟩:=hmem k h1
     exact .inr (hc.fO k b1 h2)
    ·exact .inl h1
   rcases key m b hm with⟨_,hb⟩|⟨_,hnm,b0,h0,hl,hb|⟨hb,hn⟩⟩
   ·exact uX hb
   ·exact uX hb
   ·exact .inr (hc.fA m b k hb hk')
  fO:=by
   intro m b hm
   rw[y5.2.2.2,jY.2.1]
   rcases key m b hm with⟨hb,_⟩|⟨_,hnm,_⟩
   ·exact .inl hb
   ·exact .inr hnm
  jA:=by
   intro m b j hm hl
   rcases key m b hm with⟨hn,hb⟩|⟨_,hnm,b0,h0,hl0,hlast⟩
   ·rw[DK m (hnew m hn)]at hl
    have:=h.sep m b j hb hn hl
    have hk:=hc.keep.size
    refine⟨this.1,?_⟩
    rcases this.2 with h9|⟨mg,cg,g1,g2,g3,g5⟩
    ·exact .inl Om
    ·exact(hc.jA mg cg j (hp.2 mg cg g1).1 (by rw[<-g3];exact fZ g2)).2
   ·rw[sN m hnm]at hl
    have hsp:=hc.jA m b0 j h0 (hl0 j hl)
    refine⟨fun hi=> ?_,hsp.2⟩
    rcases h.i1 _ hi with hi|hi|⟨mg,cg,g1,g2,g3,g5⟩
    ·exact hsp.1 hi
    ·have:=hc.kL h0 (hl0 j hl);omega
    ·have e:=hc.iE mg m cg b0 j (hp.2 mg cg g1).1 h0 (by rw[<-g3];exact fZ g2) (hl0 j hl)
     subst e
     rcases hlast with h9|⟨_,h9⟩
     ·rw[g5 b h9]at hl;exact hl.elim
     ·exact(h9 (iL.2 ⟨_,g1⟩)).elim
  iE:=by
   intro m k b c j hm hk' hl hl'
   rcases key m b hm with⟨hn,hb⟩|⟨_,hnm,b0,h0,hl0,XM⟩
   ·rw[DK m (hnew m hn)]at hl
    rcases key k c hk' with⟨hn',hb'⟩|⟨_,hnm',c0,h1,hl1,hlast⟩
    ·rw[DK k (hnew k hn')]at hl'
     exact h.inj m k b c j hb hb' hn hn' hl hl'
    ·rw[sN k hnm']at hl'
     have h3:=hc.kL h1 (hl1 j hl')
     rcases(h.sep m b j hb hn hl).2 with h2|⟨mg,cg,g1,g2,g3,g5⟩
     ·omega
     ·have e:=hc.iE mg k cg c0 j (hp.2 mg cg g1).1 h1 (by rw[<-g3];exact fZ g2) (hl1 j hl')
      subst e
      rcases hlast with h9|⟨_,h9⟩
      ·rw[g5 c h9]at hl';exact hl'.elim
      ·exact(h9 (iL.2 ⟨_,g1⟩)).elim
   ·rw[sN m hnm]at hl
    rcases key k c hk' with⟨hn',hb'⟩|⟨_,hnm',c0,h1,hl1,_⟩
    ·rw[DK k (hnew k hn')]at hl'
     have h3:=hc.kL h0 (hl0 j hl)
     rcases(h.sep k c j hb' hn' hl').2 with h2|⟨mg,cg,g1,g2,g3,g5⟩
     ·omega
     ·have e:=hc.iE mg m cg b0 j (hp.2 mg cg g1).1 h0 (by rw[<-g3];exact fZ g2) (hl0 j hl)
      subst e
      rcases XM with h9|⟨_,h9⟩
      ·rw[g5 b h9]at hl;exact hl.elim
      ·exact(h9 (iL.2 ⟨_,g1⟩)).elim
    ·rw[sN k hnm']at hl'
     exact hc.iE m k b0 c0 j h0 h1 (hl0 j hl) (hl1 j hl')
  nT:=h.nT
  i0:=fun b hb=>h.i0 b (hc.i0 b hb)
  i1:=by
   intro b hb
   rcases h.i1 b hb with h1|h1|⟨mg,cg,g1,g2,g3,g5⟩
   ·exact hc.i1 b h1
   ·have:=hc.keep.size;exact .inr (.inl Om)
   ·exact .inr (hc.jA mg cg b (hp.2 mg cg g1).1 (by rw[<-g3];exact fZ g2)).2
  old:=by
   intro n hn
   obtain⟨h1,h2,h3⟩:=hc.old n hn
   refine⟨by rw[y5.2.2.1,jY.2.2];exact h1,by rw[y5.2.2.2,jY.2.1];exact .inr h2,by rw[sN n h2];exact h3⟩
  glob:=hc.glob.mono h.i0 hS
  keep:=by
   refine hc.keep.trans h.keep ?_
   rintro i ⟨n,b,hn,hl,rfl⟩
   have:=hp.2 n b hn
   exact(hc.sep n b this.1 hl).2.symm}
 ·intro n hn
  rw[y5.2.2.2,jY.2.1]
  rcases hkey n (hs.lu n hn)with h1|h1
  ·obtain⟨b1,_,h2,_⟩:=hmem n h1
   exact .inr (hc.fO n b1 h2)
  ·exact .inl h1
theorem BP{I' I:Nat->Prop}{w':World}{x:D}{v:Value}(hf:Ir x=true)(h:bM I' w' x v):bM I w' x v:=by
 cases x with
 |list _ _ _=>simp[Ir]at hf
 |nl _ _ _=>simp[Ir]at hf
 |_=>exact h
theorem OY{I' I:Nat->Prop}{ρ':Nat->Loc}{w':World}{fn:Nat}{x:FC}{v:Value}(hf:aeF x=true)(h:kU I' ρ' fn w' x v):kU I ρ' fn w' x v:=by
 cases x with
 |d x=>exact BP hf h
 |fs k sz l=>simp only[kU,aC]at h⊢;exact h
mutual
theorem OX{I' I:Nat->Prop}{ρ':Nat->Loc}{w':World}: ∀{sv:SV}{v:Value},qR sv=true->aC I' ρ' w' sv v->aC I ρ' w' sv v
 | .d x,_,hf,h=>by simp only[aC]at h⊢;simp only[qR]at hf;exact BP hf h
 | .agg cs,_,hf,h=>by
   simp only[qR]at hf
   simp only[aC]at h⊢
   obtain⟨us,hv,h1,h2⟩:=h
   exact⟨us,hv,oJ hf h1,h2⟩
 | .cO cs,_,hf,h=>by
   simp only[qR]at hf
   simp only[aC]at h⊢
   obtain⟨us,hv,h1⟩:=h
   exact⟨us,hv,oJ hf h1⟩
 | .clo _ cs,_,hf,h=>by
   simp only[qR]at hf
   simp only[aC]at h⊢
   obtain⟨us,hv,h1⟩:=h
   exact⟨us,hv,oJ hf h1⟩
 | .VY _ cs,_,hf,h=>by
   simp only[qR]at hf
   simp only[aC]at h⊢
   obtain⟨u,hv,h1⟩:=h
   exact⟨u,hv,oJ hf h1⟩
 | .ptr _ _,_,_,h=>by simp only[aC]at h⊢;exact h
 | .qJ _ _ _ _,_,_,h=>by simp only[aC]at h⊢;exact h
 | .bW _ _ _ _,_,_,h=>by simp only[aC]at h⊢;exact h
 | .qN _ _,_,hf,_=>by simp[qR]at hf
 | .mp _,_,_,h=>by simp only[aC]at h⊢;exact h
 | .zG _ _ _ _,_,_,h=>by simp only[aC]at h⊢;exact h
 | .uZ _ _ _ _ _,_,_,h=>by simp only[aC]at h⊢;exact h
 | .junk,_,_,_=>by simp only[aC]
theorem oJ{I' I:Nat->Prop}{ρ':Nat->Loc}{w':World}: ∀{cs:List SV}{us:List Value},y8 cs=true->aT I' ρ' w' cs us->aT I ρ' w' cs us
 |[],_,_,h=>h
 |c::cs,_,hf,h=>by
  simp only[y8]at hf
  simp only[aT]at h⊢
  obtain⟨u,r,rfl,h1,h2⟩:=h
  split at hf
  ·rename_i hc
   exact⟨u,r,rfl,OX hc h1,oJ hf h2⟩
  ·cases hf
end
theorem aeG{I' I:Nat->Prop}{ρ':Nat->Loc}{w':World}{L:Loc}{b:bG}(hf:Z8 b)(h:dX I' ρ' w' L b):dX I ρ' w' L b:=by
 cases b with
 |gone=>trivial
 |box cs=>obtain⟨us,E,h1,h2,h3⟩:=h;exact⟨us,E,h1,oJ hf h2,h3⟩
 |row E sz len get=>
  obtain⟨h1,h2,h3,h4⟩:=h
  refine⟨h1,h2,h3,fun hc=> ?_⟩
  obtain⟨arr,h5,h6,h7⟩:=h4 hc
  refine⟨arr,h5,h6,fun i j hi hj=> ?_⟩
  obtain⟨u,hu,hr⟩:=h7 i j hi hj
  exact⟨u,hu,BP (hf i j hi hj) hr⟩
 |iter s p=>exact h
 |smap kd g=>exact h
 |arr sz cs=>obtain⟨h0,h1,us,E,h2,h3,h4⟩:=h;exact⟨h0,h1,us,E,h2,oJ hf h3,h4⟩
 |fam nk rows=>
  obtain⟨h0,h1,h2⟩:=h
  refine⟨h0,fun i r hr=> ?_,h2⟩
  obtain⟨h3,h4,h5⟩:=h1 i r hr
  refine⟨h3,h4,fun hc=> ?_⟩
  obtain⟨arr,h6,h7,h8⟩:=h5 hc
  refine⟨arr,h6,h7,fun a j ha hj=> ?_⟩
  obtain⟨u,hu,hrr⟩:=h8 a j ha hj
  exact⟨u,hu,BP (hf i r hr a j ha hj) hrr⟩
 |dP fn E sz len get=>
  obtain⟨h1,h2,h3,h4⟩:=h
  refine⟨h1,h2,h3,fun hc=> ?_⟩
  obtain⟨arr,h5,h6,h7⟩:=h4 hc
  refine⟨arr,h5,h6,fun i j hi hj=> ?_⟩
  obtain⟨u,hu,hr⟩:=h7 i j hi hj
  exact⟨u,hu,OY (hf i j hi hj) hr⟩
 |dW fn ka kk va sz has get=>
  obtain⟨es,clock,h1,h2⟩:=h
  refine⟨es,clock,h1,h2.stamped,h2.keys,fun e he k hk hek=> ?_,h2.all⟩
  obtain⟨g0,us,g1,g2,g3,g4⟩:=h2.ent e he k hk hek
  refine⟨g0,us,g1,g2,fun j hj=> ?_,g4⟩
  obtain⟨u,hu,hr⟩:=g3 j hj
  exact⟨u,hu,OY (hf k j g0 hj) hr⟩
theorem Fh: ∀{l:List (Nat×bG)},lT l-> ∀n b,(n,b)∈l->Z8 b
 |[],_,_,_,h=>by simp at h
 |(i,c)::l,h,n,b,hm=>by
  simp only[List.mem_cons,Prod.mk.injEq]at hm
  rcases hm with⟨rfl,rfl⟩|hm
  ·exact h.1
  ·exact Fh h.2 n b hm
theorem Conc.VL(hc:Conc G nt C I ρ F a w){f:FuncId}{args:List SV}{names:List Nat}{pre post:List (Nat×bG)}{res:SV}(hp:ZW F names pre)(hs:Spec P G f args pre res post)
 (hf: ∀n∈newP pre post,¬F.nm n) {I':Nat->Prop} {ρ':Nat->Loc} {w':World} {v:Value} {L:Nat->Prop} (hL: ∀k,L k-> ¬I k∧k<w.heap.size) (hfr:qR res=true) (hfp:lT post)
 (h:After (fun b=>I b∨L b) ρ w pre res post I' ρ' w' v):
 Conc G nt C (fun b=>I' b∧¬L b) (lW ρ ρ' (newP pre post)) (EW (jS F post) (newP pre post)) a w'∧aC (fun b=>I' b∧¬L b) (lW ρ ρ' (newP pre post)) w' res v∧∀n,dO n res->(EW (jS F post) (newP pre post)).nm n:=by
 have hi0: ∀b,I b->I' b∧¬L b:=fun b hb=>⟨h.i0 b (.inl hb),fun hl=>(hL b hl).1 hb⟩
 have hmem: ∀n,n∈aQ pre-> ∃b,(n,b)∈pre∧F.o n=some b∧GX b:=by
  intro n hn
  obtain⟨b,hb⟩:=iL.1 hn
  exact⟨b,hb,hp.2 n b hb⟩
 have hkey: ∀n,n∈aQ post->n∈aQ pre∨n∈newP pre post:=fun n hn=>by rw[hs.keys]at hn;exact List.mem_append.1 hn
 have hnew: ∀n,n∈newP pre post->n∈aQ post:=fun n hn=>by rw[hs.keys];exact List.mem_append.2 (.inr hn)
 have DK: ∀n,n∈aQ post->lW ρ ρ' (newP pre post) n=ρ' n:=by
  intro n hn
  unfold lW
  split
  ·rfl
  ·rename_i hnn
   exact(h.old n ((hkey n hn).resolve_right hnn)).symm
 have sN: ∀n,F.nm n->lW ρ ρ' (newP pre post) n=ρ n:=by
  intro n hn
  unfold lW
  rw[if_neg (fun hnn=>hf n hnn hn)]
 have hIS: ∀b,I b->b<w.heap.size∧¬∃n c,(n,c)∈pre∧live (ρ n) c∧(ρ n).b=b:=by
  intro b hb
  refine⟨hc.nT b hb,?_⟩
  rintro⟨n,c,hn,hl,rfl⟩
  have:=hp.2 n c hn
  exact(hc.sep n c this.1 hl).1 hb
 have hS:Same I w w':=Eu h.keep hIS
 have y5:=Qy (ns:=newP pre post) (F:=jS F post)
 have key: ∀m b,(EW (jS F post) (newP pre post)).o m=some b->
  (m∈newP pre post∧(m,b)∈post)∨(m ∉ newP pre post∧F.nm m∧∃b0,F.o m=some b0∧(∀k,foot (ρ m) b k->foot (ρ m) b0 k)∧((m,b)∈post∨(F.o m=some b∧m ∉ aQ pre))):=by
  intro m b hm
  rw[y5.2.1]at hm
  rcases P9 hm with hp1|⟨h1,hn⟩
  ·rcases hkey m (iL.2 ⟨b,hp1⟩)with hk|hk
   ·obtain⟨b0,hb0,h0,_⟩:=hmem m hk
    have hk2:=hs.kind m b b0 hp1 hb0
    exact .inr ⟨fun hn=>hs.apart m hn hk,hc.fO m b0 h0,b0,h0,fun k=>hk2.foot k,.inl hp1⟩
   ·exact .inl ⟨hk,hp1⟩
  ·refine .inr ⟨fun hk=>hn (hnew m hk),hc.fO m b h1,b,h1,fun _ h=>h,.inr ⟨h1,fun hk=>hn (by rw[show post.map (·.1)=aQ post from rfl,hs.keys];exact List.mem_append.2 (.inl hk))⟩⟩
 refine⟨?_,OX hfr (h.res.mono (fun _ h=>h) (fun _ _ _=>rfl) (fun n hn=>DK n (hs.lu n hn))),?_⟩
 ·exact {
  defers:=hc.defers,size:=hc.size
  slots:=by
   rw[y5.1,jY.1]
   intro k sv hk
   obtain⟨v,hv,hr⟩:=hc.slots k sv hk
   exact⟨v,hv,hr.mono hi0 hS (fun n hn=>sN n (hc.gK k sv n hk hn))⟩
  gK:=by
   rw[y5.1,jY.1]
   intro k sv n hk hn
   rw[y5.2.2.2,jY.2.1]
   exact .inr (hc.gK k sv n hk hn)
  own:=by
   intro m b hm
   have uX:(m,b)∈post->dX (fun b=>I' b∧¬L b) (lW ρ ρ' (newP pre post)) w' (lW ρ ρ' (newP pre post) m) b:=by
    intro hb
    rw[DK m (iL.2 ⟨b,hb⟩)]
    exact aeG (Fh hfp m b hb) ((h.own m b hb).mono (fun _ h=>h) (fun _ _ _=>rfl) (fun k hk=>DK k (hs.jI m b k hb hk)) (fun _ _=>rfl))
   rcases key m b hm with⟨_,hb⟩|⟨_,hnm,b0,h0,hl,hb|⟨hb,hn⟩⟩
   ·exact uX hb
   ·exact uX hb
   ·rw[sN m hnm]
    refine(hc.own m b hb).mono hi0 hS (fun k hk=>sN k (hc.fA m b k hb hk)) (fun j hlv=>h.keep.block _ (hc.kL hb hlv) ?_)
    rintro⟨n,c,hnc,hl2,rfl⟩
    have hpn:=hp.2 n c hnc
    have:=hc.iE n m c b _ hpn.1 hb (fZ hl2) hlv
    subst this
    exact hn (iL.2 ⟨_,hnc⟩)
  fA:=by
   intro m b k hm hk'
   rw[y5.2.2.2,jY.2.1]
   have uX:(m,b)∈post->k∈newP pre post∨F.nm k:=by
    intro hb
    rcases hkey k (hs.jI m b k hb hk')with h1|h1
    ·obtain⟨b1,_,h2,_⟩:=hmem k h1
     exact .inr (hc.fO k b1 h2)
    ·exact .inl h1
   rcases key m b hm with⟨_,hb⟩|⟨_,hnm,b0,h0,hl,hb|⟨hb,hn⟩⟩
   ·exact uX hb
   ·exact uX hb
   ·exact .inr (hc.fA m b k hb hk')
  fO:=by
   intro m b hm
   rw[y5.2.2.2,jY.2.1]
   rcases key m b hm with⟨hb,_⟩|⟨_,hnm,_⟩
   ·exact .inl hb
   ·exact .inr hnm
  jA:=by
   intro m b j hm hl
   rcases key m b hm with⟨hn,hb⟩|⟨_,hnm,b0,h0,hl0,hlast⟩
   ·rw[DK m (hnew m hn)]at hl
    have:=h.sep m b j hb hn hl
    have hk:=hc.keep.size
    refine⟨fun hi=>this.1 hi.1,?_⟩
    rcases this.2 with h9|⟨mg,cg,g1,g2,g3,g5⟩
    ·exact .inl Om
    ·exact(hc.jA mg cg j (hp.2 mg cg g1).1 (by rw[<-g3];exact fZ g2)).2
   ·rw[sN m hnm]at hl
    have hsp:=hc.jA m b0 j h0 (hl0 j hl)
    refine⟨fun hi=> ?_,hsp.2⟩
    rcases h.i1 _ hi.1 with(hi'|hi')|hi'|⟨mg,cg,g1,g2,g3,g5⟩
    ·exact hsp.1 hi'
    ·exact hi.2 hi'
    ·have:=hc.kL h0 (hl0 j hl);omega
    ·have e:=hc.iE mg m cg b0 j (hp.2 mg cg g1).1 h0 (by rw[<-g3];exact fZ g2) (hl0 j hl)
     subst e
     rcases hlast with h9|⟨_,h9⟩
     ·rw[g5 b h9]at hl;exact hl.elim
     ·exact(h9 (iL.2 ⟨_,g1⟩)).elim
  iE:=by
   intro m k b c j hm hk' hl hl'
   rcases key m b hm with⟨hn,hb⟩|⟨_,hnm,b0,h0,hl0,XM⟩
   ·rw[DK m (hnew m hn)]at hl
    rcases key k c hk' with⟨hn',hb'⟩|⟨_,hnm',c0,h1,hl1,hlast⟩
    ·rw[DK k (hnew k hn')]at hl'
     exact h.inj m k b c j hb hb' hn hn' hl hl'
    ·rw[sN k hnm']at hl'
     have h3:=hc.kL h1 (hl1 j hl')
     rcases(h.sep m b j hb hn hl).2 with h2|⟨mg,cg,g1,g2,g3,g5⟩
     ·omega
     ·have e:=hc.iE mg k cg c0 j (hp.2 mg cg g1).1 h1 (by rw[<-g3];exact fZ g2) (hl1 j hl')
      subst e
      rcases hlast with h9|⟨_,h9⟩
      ·rw[g5 c h9]at hl';exact hl'.elim
      ·exact(h9 (iL.2 ⟨_,g1⟩)).elim
   ·rw[sN m hnm]at hl
    rcases key k c hk' with⟨hn',hb'⟩|⟨_,hnm',c0,h1,hl1,_⟩
    ·rw[DK k (hnew k hn')]at hl'
     have h3:=hc.kL h0 (hl0 j hl)
     rcases(h.sep k c j hb' hn' hl').2 with h2|⟨mg,cg,g1,g2,g3,g5⟩
     ·omega
     ·have e:=hc.iE mg m cg b0 j (hp.2 mg cg g1).1 h0 (by rw[<-g3];exact fZ g2) (hl0 j hl)
      subst e
      rcases XM with h9|⟨_,h9⟩
      ·rw[g5 b h9]at hl;exact hl.elim
      ·exact(h9 (iL.2 ⟨_,g1⟩)).elim
    ·rw[sN k hnm']at hl'
     exact hc.iE m k b0 c0 j h0 h1 (hl0 j hl) (hl1 j hl')
  nT:=fun b hb=>h.nT b hb.1
  i0:=fun b hb=>hi0 b (hc.i0 b hb)
  i1:=by
   intro b hb
   rcases h.i1 b hb.1 with(h1|h1)|h1|⟨mg,cg,g1,g2,g3,g5⟩
   ·exact hc.i1 b h1
   ·exact(hb.2 h1).elim
   ·have:=hc.keep.size;exact .inr (.inl Om)
   ·exact .inr (hc.jA mg cg b (hp.2 mg cg g1).1 (by rw[<-g3];exact fZ g2)).2
  old:=by
   intro n hn
   obtain⟨h1,h2,h3⟩:=hc.old n hn
   refine⟨by rw[y5.2.2.1,jY.2.2];exact h1,by rw[y5.2.2.2,jY.2.1];exact .inr h2,by rw[sN n h2];exact h3⟩
  glob:=hc.glob.mono hi0 hS
  keep:=by
   refine hc.keep.trans h.keep ?_
   rintro i ⟨n,b,hn,hl,rfl⟩
   have:=hp.2 n b hn
   exact(hc.sep n b this.1 hl).2.symm}
 ·intro n hn
  rw[y5.2.2.2,jY.2.1]
  rcases hkey n (hs.lu n hn)with h1|h1
  ·obtain⟨b1,_,h2,_⟩:=hmem n h1
   exact .inr (hc.fO n b1 h2)
  ·exact .inl h1
theorem JU{o:Oper}{f:FuncId}{args:List Operand}{ats:Array Nat}{x:Operand}{caps:List Value}(ho:o.op= .call ⟨.value x,⟨args⟩,ats⟩)(hx:a.eval x= .func (.func f) #[] ⟨caps⟩)
 (henter: ∀(vs:Array Value)(w:World),(callFunc f vs).run P w= .ok (.enter f vs) w):(execOp a.eval o).run P w= .ok (.enter f ⟨args.map a.eval++caps⟩) w:=by
 simp only[execOp,ho,resolve,hx,Deferred.ofValue,Sem.run_bind,Sem.run_pure,Result.andThen_ok,invoke,henter]
 simp
theorem Jm{o:Oper}{f:FuncId}{vs:Array Value}{w':World}{next:Act->World->Prop}{Q:Exit->Act->World->Prop}(h:(execOp a.eval o).run P w= .ok (.enter f vs) w')
 (hc:Calls P f vs w' fun e w''=> ∃v,e= .returned v∧next (a.put o.dst v) w''):o.wp P a w next Q:=by
 unfold Oper.wp
 rw[h,Oper.upon_enter]
 refine hc.mono ?_
 rintro e w'' ⟨v,rfl,hn⟩
 exact hn
theorem To.vC{u:bf}: ∀{l acc:List Nat}{k:List Nat->M bf},To P G F (LM l acc k) u-> ∃names,To P G F (k names) u
 |[],acc,k,h=>⟨acc,h⟩
 |n::l,acc,k,h=>by
  simp only[LM]at h
  obtain⟨b,_,h'⟩:=h.eP
  split at h'
  ·exact To.vC h'
  ·exact To.vC h'
def yu(F:Fs)(ρ:Nat->Loc)(w:World)(cs ds:List SV)(ns:List Nat):Prop:=
 (∀m,jW m ds->jW m cs)∧
 ∀(I':Nat->Prop)(us:List Value),(∀n∈ns,∀b k,F.o n=some b->foot (ρ n) b k->I' k)->(∀n b,F.o n=some b->dX I' ρ w (ρ n) b)->aT I' ρ w cs us->aT I' ρ w ds us
theorem FZ.g{cs ds:List SV}{ns:List Nat}(h:FZ F ρ w cs ds ns):yu F ρ w cs ds ns:=by
 obtain⟨h1,h2,h3⟩:=h
 refine⟨h2,fun I' us hI hB hr=>h3 I' us (fun n hn hcap=> ?_) hB hr⟩
 obtain⟨E,sz,len,get,hb⟩:=h1 n hn
 exact hI n hn _ _ hb ⟨hcap,rfl⟩
theorem TU(hc:Conc G nt C I ρ F a w){o:Oper}{f:FuncId}{vs:List Value}{cs ds:List SV}{names ns:List Nat}(hd:dJ nt o.dst)
 (hrun:(∀(vs:Array Value)(w:World),(callFunc f vs).run P w= .ok (.enter f vs) w)->(execOp a.eval o).run P w= .ok (.enter f ⟨vs⟩) w)
 (hvs:MI I ρ F w cs vs) (hne:ns≠[]) (hdis: ∀n∈names,n ∉ ns) (hl:yu F ρ w cs ds ns) {u:bf} (t:To P G F (.call o.dst f ds names ns []) u) {F1:Fs} (hp:fH F u.pub F1) (hf:jB F u):fJ P G nt C I ρ a w o (eG F1 u):=by
 cases t with
 | @call _ _ _ _ _ _ F2 pre res post p hpre h hb=>
   cases p
   cases hp
   obtain⟨ahV,hpost⟩:=hb.resolve_left hne
   obtain⟨hin,Zu⟩:=hl
   have hLI: ∀k,(∃n,n∈ns∧∃b,F.o n=some b∧foot (ρ n) b k)-> ¬I k∧k<w.heap.size:=by
    rintro k ⟨n,hn,b,hb',hfo⟩
    exact⟨(hc.jA n b k hb' hfo).1,hc.kL hb' hfo⟩
   generalize hLe:(fun k=> ∃n,n∈ns∧∃b,F.o n=some b∧foot (ρ n) b k)=L at*
   have hLk: ∀n∈ns,∀b k,F.o n=some b->foot (ρ n) b k->L k:=fun n hn b k hb' hfo=>by rw[<-hLe];exact⟨n,hn,b,hb',hfo⟩
   have hLI: ∀k,L k-> ¬I k∧k<w.heap.size:=fun k hk=>by rw[<-hLe]at hk;exact hLI k hk
   have hI2: ∀b,I b->(I b∨L b):=fun b hb=> .inl hb
   have hargs:=Zu (fun b=>I b∨L b) vs (fun n hn b k hb' hfo=> .inr (hLk n hn b k hb' hfo))
    (fun n b hb'=>(hc.own n b hb').mono hI2 (fun _ _ _=>rfl) (fun _ _=>rfl) (fun _ _=>rfl)) (hvs.rep.mono hI2 (fun _ _ _=>rfl) (fun _ _=>rfl))
   have Lc:=h.calls w _ ρ vs hargs (fun n b hnb=>⟨((hc.own n b (hpre.2 n b hnb).1).mono hI2 (fun _ _ _=>rfl) (fun _ _=>rfl) (fun _ _=>rfl)),fun hl hi=>by
    have hfo:=fZ hl
    rcases hi with hi|hi
    ·exact(hc.jA n b _ (hpre.2 n b hnb).1 hfo).1 hi
    ·rw[<-hLe]at hi
     obtain⟨m,hm,c,hmc,hfo'⟩:=hi
     have:=hc.iE n m b c _ (hpre.2 n b hnb).1 hmc hfo hfo'
     subst this
     exact hdis n (by rw[<-hpre.1];exact List.mem_map.2 ⟨_,hnb,rfl⟩) hm⟩)
    (fun n b m c hn hm hl hl' e=>hc.inj n m b c (hpre.2 n b hn).1 (hpre.2 m c hm).1 hl hl' e)
    (by
      rintro b (hb'|hb')
      ·exact hc.nT b hb'
      ·exact(hLI b hb').2) (hc.glob.mono hI2 (fun _ _ _=>rfl))
   intro next Q hn
   refine Jm (hrun h.enter) (Lc.mono ?_)
   rintro e w' ⟨v,I',ρ',rfl,haf⟩
   obtain⟨hc3,hres,hrn⟩:=hc.VL hpre h (fun n hn=>hf.new n hn) hLI ahV hpost haf
   exact⟨v,rfl,hn _ (lW ρ ρ' (newP pre post)) v w' (hc3.put hd hres hrn)⟩
theorem TS(hc:Conc G nt C I ρ F a w){o:Oper}{f:FuncId}{vs:List Value}{cs:List SV}(hd:dJ nt o.dst)
 (hrun:(∀(vs:Array Value)(w:World),(callFunc f vs).run P w= .ok (.enter f vs) w)->(execOp a.eval o).run P w= .ok (.enter f ⟨vs⟩) w)
 (hvs:MI I ρ F w cs vs) {u:bf} {ds:List SV} {ns names:List Nat} (hl:yu F ρ w cs ds ns) (t:To P G F (.call o.dst f ds names [] ns) u) {F1:Fs} (hp:fH F u.pub F1) (hf:jB F u):fJ P G nt C I ρ a w o (eG F1 u):=by
 obtain⟨hin,Zu⟩:=hl
 cases t with
 | @call _ _ _ _ _ _ F2 pre res post p hpre h hb=>
   obtain⟨I2,hc2,hI2,_,hnm,GU⟩:=p.LJ hc
   have hB: ∀n b,F.o n=some b->dX I2 ρ w (ρ n) b:=fun n b hb=>(hc.own n b hb).mono hI2 (fun _ _ _=>rfl) (fun _ _=>rfl) (fun _ _=>rfl)
   have hargs:aT I2 ρ w ds vs:=Zu I2 vs GU hB (hvs.rep.mono hI2 (fun _ _ _=>rfl) (fun _ _=>rfl))
   have Lc:=h.calls w I2 ρ vs hargs (fun n b hnb=>⟨hc2.own n b (hpre.2 n b hnb).1,fun hl=>(hc2.sep n b (hpre.2 n b hnb).1 hl).1⟩)
    (fun n b m c hn hm hl hl' e=>hc2.inj n m b c (hpre.2 n b hn).1 (hpre.2 m c hm).1 hl hl' e) hc2.nT hc2.glob
   intro next Q hn
   refine Jm (hrun h.enter) (Lc.mono ?_)
   rintro e w' ⟨v,I',ρ',rfl,haf⟩
   have hnmP: ∀{F:Fs}{ns:List Nat}{B:Fs},fH F ns B->B.nm=F.nm:=by
    intro F ns B h
    induction h with
    |nil=>rfl
    |row h _ t ih=>rw[ih];rfl
    |nest _ _ _ _ _ t ih=>rw[ih];rfl
    |none h t ih=>exact ih
   obtain⟨hc3,hres,hrn⟩:=hc2.ab7 hpre h (fun n hn=>by rw[hnmP p];exact hf.new n hn) haf
   refine⟨v,rfl,hn I' (lW ρ ρ' (newP pre post)) v w' ?_⟩
   have hF:F1=F2:=by
    have det: ∀{F:Fs}{ns:List Nat}{A B:Fs},fH F ns A->fH F ns B->A=B:=by
     intro F ns A B h
     induction h generalizing B with
     |nil=>intro k;cases k;rfl
     |row h _ t ih=>
      intro k
      cases k with
      |row h' _ t'=>rw[h]at h';cases h';exact ih t'
      |nest h' _ _ _ _ t'=>rw[h]at h';cases h'
      |none h' t'=>rw[h]at h';cases h'
     |nest h hf _ _ _ t ih=>
      intro k
      cases k with
      |row h' _ t'=>rw[h]at h';cases h'
      |nest h' hf' _ _ _ t'=>rw[h]at h';cases h';rw[hf]at hf';cases hf';exact ih t'
      |none h' t'=>rw[h]at h';cases h'
     |none h t ih=>
      intro k
      cases k with
      |row h' _ t'=>rw[h]at h';cases h'
      |nest h' _ _ _ _ t'=>rw[h]at h';cases h'
      |none h' t'=>exact ih t'
    exact det hp p
   subst hF
   exact hc3.put hd hres hrn
theorem ES(hc:Conc G nt C I ρ F a w){o:Oper}{f:FuncId}{vs:List Value}{cs:List SV}(hd:dJ nt o.dst)
 (hrun:(∀(vs:Array Value)(w:World),(callFunc f vs).run P w= .ok (.enter f vs) w)->(execOp a.eval o).run P w= .ok (.enter f ⟨vs⟩) w)
 (hvs:MI I ρ F w cs vs) {u:bf} (t:To P G F (FQ P E o.dst f cs) u) {F1:Fs} (hp:fH F u.pub F1) (hf:jB F u):fJ P G nt C I ρ a w o (eG F1 u):=by
 have usual: ∀(ds:List SV)(ns:List Nat),FZ F ρ w cs ds ns-> ∀names,To P G F (.call o.dst f ds names [] ns) u->fJ P G nt C I ρ a w o (eG F1 u):=
  fun ds ns hL names t=>TS hc hd hrun hvs hL.g t hp hf
 have go: ∀(ds:List SV)(ns l:List Nat),FZ F ρ w cs ds ns->To P G F (Hl l fun names=> .call o.dst f ds names [] ns) u->fJ P G nt C I ρ a w o (eG F1 u):=by
  intro ds ns l hL t
  obtain⟨names,t⟩:=To.vC t
  exact usual ds ns hL names t
 unfold FQ at t
 split at t
 ·exact go cs [] _ ⟨by simp[vM],fun _ h=>h,fun _ _ _ _ h=>h⟩ t
 obtain⟨ds,ns,t1,hL⟩:=To.nI (ρ:=ρ) (w:=w) t
 clear t
 have hL2:=hL
 obtain⟨hrow,hin,Zu⟩:=hL2
 cases ns with
 |nil=>exact go ds [] _ hL t1
 |cons n0 ns1=>
  simp only at t1
  split at t1
  ·exact TU hc hd hrun hvs (by simp) (by simp) hL.g t1 hp hf
  ·exact go ds _ _ hL t1
end Go.Sx
namespace Go.Sx
open Go
variable {P:Program}{G:Nat->Option (Nat×(Nat->D))}{nt:Nat}{C:Ctx}{I:Nat->Prop}{ρ:Nat->Loc}{F:Fs}{a:Act}{w:World}{E:List Nat}{T:Nat}
structure vV (L L':Loc):Prop where
 b:L'.b=L.b
 cap:L'.cap=L.cap
 rl:L'.rl=L.rl
 sz:L'.sz=L.sz
 o:L'.o=L.o
 nk:L.nk<=L'.nk
 fam: ∀k,k<L.nk->L'.fam k=L.fam k
theorem vV.refl(L:Loc):vV L L:=⟨rfl,rfl,rfl,rfl,rfl,Nat.le_refl _,fun _ _=>rfl⟩
theorem vV.trans{A B C:Loc}(h:vV A B)(k:vV B C):vV A C:=
 ⟨k.b.trans h.b,k.cap.trans h.cap,k.rl.trans h.rl,k.sz.trans h.sz,k.o.trans h.o,Nat.le_trans h.nk k.nk,fun i hi=>(k.fam i (Nat.lt_of_lt_of_le hi h.nk)).trans (h.fam i hi)⟩
mutual
theorem aC.vU{ρ':Nat->Loc}(h: ∀n,vV (ρ n) (ρ' n)): ∀{x:SV}{v:Value},aC I ρ w x v->aC I ρ' w x v
 | .d _,_,k=>by simp only[aC]at k⊢;exact k
 | .ptr n off,_,k=>by simp only[aC]at k⊢;rw[(h n).b];exact k
 | .qJ n _ _ _,_,k=>by simp only[aC]at k⊢;rw[(h n).b,(h n).o,(h n).sz];exact k
 | .bW n _ _ _,_,k=>by simp only[aC]at k⊢;rw[(h n).b,(h n).o,(h n).sz,(h n).rl,(h n).cap];exact k
 | .qN _ _,_,k=>by simp only[aC]at k⊢;exact k
 | .agg cs,_,k=>by
   simp only[aC]at k⊢
   obtain⟨us,hv,k1,k2⟩:=k
   exact⟨us,hv,aT.vU h k1,k2⟩
 | .cO cs,_,k=>by
   simp only[aC]at k⊢
   obtain⟨us,hv,k1⟩:=k
   exact⟨us,hv,aT.vU h k1⟩
 | .clo _ cs,_,k=>by
   simp only[aC]at k⊢
   obtain⟨us,hv,k1⟩:=k
   exact⟨us,hv,aT.vU h k1⟩
 | .VY _ cs,_,k=>by
   simp only[aC]at k⊢
   obtain⟨us,hv,k1⟩:=k
   exact⟨us,hv,aT.vU h k1⟩
 | .mp n,_,k=>by simp only[aC]at k⊢;rw[(h n).b];exact k
 | .zG n i _ _,_,k=>by
   simp only[aC]at k⊢
   rw[(h n).fam i k.1]
   exact⟨Nat.lt_of_lt_of_le k.1 (h n).nk,k.2⟩
 | .uZ n i _ _ _,_,k=>by
   simp only[aC]at k⊢
   rw[(h n).fam i k.1]
   exact⟨Nat.lt_of_lt_of_le k.1 (h n).nk,k.2⟩
 | .junk,_,_=>by simp only[aC]
theorem aT.vU{ρ':Nat->Loc}(h: ∀n,vV (ρ n) (ρ' n)): ∀{cs:List SV}{us:List Value},aT I ρ w cs us->aT I ρ' w cs us
 |[],_,k=>by simp only[aT]at k⊢;exact k
 |c::cs,_,k=>by
  simp only[aT]at k⊢
  obtain⟨u,r,rfl,h1,h2⟩:=k
  exact⟨u,r,rfl,aC.vU h h1,aT.vU h h2⟩
end
theorem kU.vU{ρ':Nat->Loc}(h: ∀n,vV (ρ n) (ρ' n)){fn:Nat}{x:FC}{v:Value}(k:kU I ρ fn w x v):kU I ρ' fn w x v:=by
 cases x with
 |d x=>exact k
 |fs i s l=>exact aC.vU h k
theorem nS.vU{ρ':Nat->Loc}(h: ∀n,vV (ρ n) (ρ' n)){fn:Nat}: ∀{cs:List FC}{us:List Value},nS I ρ fn w cs us->nS I ρ' fn w cs us
 |[],_,k=>k
 |c::cs,_,k=>by
  obtain⟨u,r,rfl,h1,h2⟩:=k
  exact⟨u,r,rfl,h1.vU h,nS.vU h h2⟩
def ahS:bG->Prop
 | .fam _ _=>True
 |_=>False
theorem dX.vU{ρ':Nat->Loc}(h: ∀n,vV (ρ n) (ρ' n)){L L':Loc}(hL:vV L L'){b:bG}(hb: ¬ahS b)(k:dX I ρ w L b):dX I ρ' w L' b:=by
 cases b with
 |box cs=>obtain⟨us,E,h1,h2,h3⟩:=k;exact⟨us,E,by rw[hL.b];exact h1,h2.vU h,h3⟩
 |row E sz len get=>simp only[dX,hL.rl,hL.sz,hL.cap,hL.b,hL.o]at k⊢;exact k
 |gone=>trivial
 |iter s p=>simp only[dX,hL.b]at k⊢;exact k
 |smap kd g=>simp only[dX,hL.b]at k⊢;exact k
 |arr sz cs=>obtain⟨h0,h1,us,E,h2,h3,h4⟩:=k;exact⟨hL.o.trans h0,hL.sz.trans h1,us,E,by rw[hL.b];exact h2,h3.vU h,h4⟩
 |fam nk rows=>exact(hb trivial).elim
 |dP fn E sz len get=>
  simp only[dX,hL.rl,hL.sz,hL.cap,hL.b,hL.o]at k⊢
  obtain⟨h1,h2,h3,h4⟩:=k
  refine⟨h1,h2,h3,fun hc=> ?_⟩
  obtain⟨arr,h5,h6,h7⟩:=h4 hc
  refine⟨arr,h5,h6,fun i j hi hj=> ?_⟩
  obtain⟨u,hu,hr⟩:=h7 i j hi hj
  exact⟨u,hu,hr.vU h⟩
 |dW fn ka kk va sz has get=>
  obtain⟨es,clock,h1,h2⟩:=k
  refine⟨es,clock,by rw[hL.b];exact h1,h2.stamped,h2.keys,fun e he k hk hek=> ?_,h2.all⟩
  obtain⟨g0,us,g1,g2,g3,g4⟩:=h2.ent e he k hk hek
  refine⟨g0,us,g1,g2,fun j hj=> ?_,g4⟩
  obtain⟨u,hu,hr⟩:=g3 j hj
  exact⟨u,hu,hr.vU h⟩
def rH(L:Loc)(f:ajy):Loc:={L with nk:=L.nk+1,fam:=fun i=>if i=L.nk then f else L.fam i}
theorem vV.rH(L:Loc)(f:ajy):vV L (rH L f):=
 ⟨rfl,rfl,rfl,rfl,rfl,Nat.le_succ _,fun k hk=>by simp only[Sx.rH];rw[if_neg Om]⟩
theorem Ut{fn:Nat}{L:Loc}(h:vV (ρ fn) L): ∀n,vV (ρ n) (dU ρ fn L n):=by
 intro n
 by_cases e:n=fn
 ·subst e;simp only[dU,if_true];exact h
 ·simp only[dU,if_neg e];exact vV.refl _
theorem Conc.ajv(hc:Conc G nt C I ρ F a w){fn m nk:Nat}{rows:Nat->Option fM}{Et sz len:Nat}{get:Nat->Nat->D}(ig:F.o fn=some (.fam nk rows))(hm:F.o m=some (.row Et sz len get))
 (hf0: ¬F.n0 fn) (hm0: ¬F.n0 m):
 Conc G nt C I (dU ρ fn (rH (ρ fn) ⟨(ρ m).b,(ρ m).cap,(ρ m).o⟩)) (fE (jK F m) fn (.fam (nk+1) (jc rows nk (some ⟨Et,sz,len,get⟩)))) a w:=by
 have hne:m≠fn:=by rintro rfl;rw[hm]at ig;cases ig
 have hx:=Ut (ρ:=ρ) (fn:=fn) (vV.rH (ρ fn) ⟨(ρ m).b,(ρ m).cap,(ρ m).o⟩)
 obtain⟨f1,f2,f3⟩:=hc.own fn _ ig
 obtain⟨r1,r2,r3,r4⟩:=hc.own m _ hm
 generalize hρ':dU ρ fn (rH (ρ fn) ⟨(ρ m).b,(ρ m).cap,(ρ m).o⟩)=ρ' at hx⊢
 have hself:ρ' fn=rH (ρ fn) ⟨(ρ m).b,(ρ m).cap,(ρ m).o⟩:=by rw[<-hρ'];simp[dU]
 have hoth: ∀n,n≠fn->ρ' n=ρ n:=fun n hn=>by rw[<-hρ'];simp[dU,hn]
 have hnew:(ρ' fn).fam nk=⟨(ρ m).b,(ρ m).cap,(ρ m).o⟩:=by rw[hself];simp[rH,f1]
 have hold: ∀i,i<nk->(ρ' fn).fam i=(ρ fn).fam i:=fun i hi=>by rw[hself];simp only[rH];rw[if_neg Om]
 have hrows: ∀i r,jc rows nk (some ⟨Et,sz,len,get⟩) i=some r->(i=nk∧r=⟨Et,sz,len,get⟩)∨(i<nk∧i≠nk∧rows i=some r):=by
  intro i r h
  simp only[jc]at h
  split at h
  ·rename_i e;cases h;exact .inl ⟨e,rfl⟩
  ·rename_i e;exact .inr ⟨(f2 i r h).1,e,h⟩
 have akC: ∀k,foot (ρ' fn) (.fam (nk+1) (jc rows nk (some ⟨Et,sz,len,get⟩))) k->foot (ρ fn) (.fam nk rows) k∨foot (ρ m) (.row Et sz len get) k:=by
  rintro k ⟨i,r,hr,hcap,rfl⟩
  rcases hrows i r hr with⟨rfl,rfl⟩|⟨hi,hne',hr'⟩
  ·rw[hnew]at hcap⊢;exact .inr ⟨hcap,rfl⟩
  ·rw[hold i hi]at hcap⊢;exact .inl ⟨i,r,hr',hcap,rfl⟩
 have key: ∀n b,(fE (jK F m) fn (.fam (nk+1) (jc rows nk (some ⟨Et,sz,len,get⟩)))).o n=some b->(n=fn∧b= .fam (nk+1) (jc rows nk (some ⟨Et,sz,len,get⟩)))∨(n≠fn∧n≠m∧F.o n=some b):=by
  intro n b h
  simp only[fE,jK]at h
  split at h
  ·rename_i e;cases h;exact .inl ⟨e,rfl⟩
  ·rename_i e
   split at h
   ·cases h
   ·rename_i e2;exact .inr ⟨e,e2,h⟩
 have src: ∀n b k,(fE (jK F m) fn (.fam (nk+1) (jc rows nk (some ⟨Et,sz,len,get⟩)))).o n=some b->foot (ρ' n) b k->
  ∃n' b',F.o n'=some b'∧foot (ρ n') b' k∧(oh b->oh b')∧(n'=n∨(n=fn∧n'=m)):=by
  intro n b k h hk
  rcases key n b h with⟨rfl,rfl⟩|⟨h1,h2,h3⟩
  ·rcases akC k hk with hk|hk
   ·exact⟨n,_,ig,hk,fun _=>trivial,.inl rfl⟩
   ·exact⟨m,_,hm,hk,fun _=>trivial,.inr ⟨rfl,rfl⟩⟩
  ·rw[hoth n h1]at hk
   exact⟨n,b,h3,hk,fun h=>h,.inl rfl⟩
 exact {
  defers:=hc.defers,size:=hc.size
  slots:=fun k sv hk=>by
   obtain⟨v,hv,hr⟩:=hc.slots k sv hk
   exact⟨v,hv,hr.vU hx⟩
  gK:=hc.gK
  own:=by
   intro n b h
   rcases key n b h with⟨rfl,rfl⟩|⟨h1,h2,h3⟩
   ·refine⟨by rw[hself];simp[rH,f1],fun i r hr=> ?_,fun i i' r r' hr hr' hcap hcap' e=> ?_⟩
    ·rcases hrows i r hr with⟨rfl,rfl⟩|⟨hi,hne',hr'⟩
     ·rw[hnew]
      exact⟨Nat.lt_succ_self _,r3,r4⟩
     ·rw[hold i hi]
      obtain⟨g1,g2,g3⟩:=f2 i r hr'
      exact⟨Om,g2,g3⟩
    ·rcases hrows i r hr with⟨rfl,rfl⟩|⟨hi,hne1,hr1⟩
     ·rcases hrows i' r' hr' with⟨rfl,rfl⟩|⟨hi',hne2,hr2⟩
      ·rfl
      ·rw[hnew]at hcap e
       rw[hold i' hi']at hcap' e
       exact(hne (hc.iE m n _ _ (ρ m).b hm ig ⟨hcap,rfl⟩ ⟨i',r',hr2,hcap',e⟩)).elim
     ·rcases hrows i' r' hr' with⟨rfl,rfl⟩|⟨hi',hne2,hr2⟩
      ·rw[hnew]at hcap' e
       rw[hold i hi]at hcap e
       exact(hne (hc.iE m n _ _ (ρ m).b hm ig ⟨hcap',rfl⟩ ⟨i,r,hr1,hcap,e.symm⟩)).elim
      ·rw[hold i hi]at hcap e
       rw[hold i' hi']at hcap' e
       exact f3 i i' r r' hr1 hr2 hcap hcap' e
   ·rw[hoth n h1]
    by_cases hfm:ahS b
    ·cases b with
     |fam nk2 Ob=>exact(hc.own n _ h3)
     |_=>exact hfm.elim
    ·exact(hc.own n b h3).vU hx (vV.refl _) hfm
  fA:=by
   intro n b k h hk
   rcases key n b h with⟨rfl,rfl⟩|⟨h1,h2,h3⟩
   ·exact hk.elim
   ·exact hc.fA n b k h3 hk
  fO:=by
   intro n b h
   rcases key n b h with⟨rfl,rfl⟩|⟨h1,h2,h3⟩
   ·exact hc.fO n _ ig
   ·exact hc.fO n b h3
  jA:=by
   intro n b k h hk
   obtain⟨n',b',h1,h2,_,_⟩:=src n b k h hk
   exact hc.jA n' b' k h1 h2
  iE:=by
   intro n n2 b c k h h' hk hk'
   obtain⟨m1,b1,h1,h2,_,h4⟩:=src n b k h hk
   obtain⟨m2,b2,g1,g2,_,g4⟩:=src n2 c k h' hk'
   have e:=hc.iE m1 m2 b1 b2 k h1 g1 h2 g2
   subst e
   have hnm: ∀n b,(fE (jK F m) fn (.fam (nk+1) (jc rows nk (some ⟨Et,sz,len,get⟩)))).o n=some b->n≠m:=by
    intro n b h
    rcases key n b h with⟨rfl,_⟩|⟨_,h2,_⟩
    ·exact hne.symm
    ·exact h2
   rcases h4 with rfl|⟨rfl,rfl⟩
   ·rcases g4 with rfl|⟨rfl,rfl⟩
    ·rfl
    ·exact(hnm _ _ h rfl).elim
   ·rcases g4 with rfl|⟨rfl,_⟩
    ·exact(hnm _ _ h' rfl).elim
    ·rfl
  nT:=hc.nT,i0:=hc.i0,i1:=hc.i1
  old:=by
   intro n hn
   obtain⟨h1,h2,h3⟩:=hc.old n hn
   have:n≠fn:=by rintro rfl;exact hf0 h1
   exact⟨h1,h2,by rw[hoth n this];exact h3⟩
  glob:=hc.glob,keep:=hc.keep}
theorem Conc.af0(hc:Conc G nt C I ρ F a w){fn i nk d:Nat}{rows:Nat->Option fM}{r:fM}(ig:F.o fn=some (.fam nk rows))(hr:rows i=some r)(hf0: ¬F.n0 fn)(hd: ¬F.nm d):
 Conc G nt C I (dU ρ d (Oz ((ρ fn).fam i).b ((ρ fn).fam i).cap r.len r.sz ((ρ fn).fam i).o)) (kS (fE F fn (.fam nk (jc rows i none))) d (.row r.E r.sz r.len r.get)) a w:=by
 obtain⟨f1,f2,f3⟩:=hc.own fn _ ig
 obtain⟨g1,g2,g3⟩:=f2 i r hr
 have hrows: ∀i' r',jc rows i none i'=some r'->i'≠i∧rows i'=some r':=by
  intro i' r' h
  simp only[jc]at h
  split at h
  ·cases h
  ·exact⟨‹_›,h⟩
 have hc1:Conc G nt C I ρ (fE F fn (.fam nk (jc rows i none))) a w:=by
  refine hc.store ig ?_ (fun _=>trivial) (fun _ _ _=>rfl) (fun _ _ _ _ _ _=>rfl) hc.keep hc.nT ?_ (by simp[inB])
  ·rintro k ⟨i',r',h',hcap,rfl⟩
   exact⟨i',r',(hrows i' r' h').2,hcap,rfl⟩
  ·refine⟨f1,fun i' r' h'=>f2 i' r' (hrows i' r' h').2,fun i1 i2 r1 r2 h1 h2=>f3 i1 i2 r1 r2 (hrows _ _ h1).2 (hrows _ _ h2).2⟩
 refine hc1.new hd (fun _ _ _=>rfl) (fun _ _ _ _ _=>rfl) hc.keep hc.nT ⟨rfl,rfl,g2,g3⟩ (by simp[inB]) ?_
 rintro j ⟨hcap,rfl⟩
 have hfo:foot (ρ fn) (.fam nk rows) ((ρ fn).fam i).b:=⟨i,r,hr,hcap,rfl⟩
 refine⟨(hc.jA fn _ _ ig hfo).1,(hc.jA fn _ _ ig hfo).2,?_⟩
 intro m b hm hk
 simp only[fE]at hm
 split at hm
 ·rename_i e
  subst e
  cases hm
  obtain⟨i',r',h',hcap',e⟩:=hk
  obtain⟨h1,h2⟩:=hrows i' r' h'
  exact h1 (f3 i' i r' r h2 hr hcap' hcap e.symm)
 ·rename_i e
  exact e (hc.iE m fn b _ _ hm ig hk hfo)
inductive Abs (F:Fs) (fn:Nat):Nat->(Nat->Option fM)->List SV->List FC->Nat->(Nat->Option fM)->List Nat->Prop where
 |nil (nk:Nat) (rows:Nat->Option fM):Abs F fn nk rows [] [] nk rows []
 |d {nk yw:Nat} {rows rows':Nat->Option fM} {cs:List SV} {o_:List FC} {ns:List Nat} {x:D} (h:Abs F fn nk rows cs o_ yw rows' ns):Abs F fn nk rows (.d x::cs) (.d x::o_) yw rows' ns
 |zG {nk yw:Nat} {rows rows':Nat->Option fM} {cs:List SV} {o_:List FC} {ns:List Nat} {i sz len:Nat} (h:Abs F fn nk rows cs o_ yw rows' ns):Abs F fn nk rows (.zG fn i sz len::cs) (.fs i sz len::o_) yw rows' ns
 |bW {nk yw:Nat} {rows rows':Nat->Option fM} {cs:List SV} {o_:List FC} {ns:List Nat} {m Et sz L len:Nat} {get:Nat->Nat->D} (hm:F.o m=some (.row Et sz L get)) (hn:m ∉ ns)
   (h:Abs F fn (nk+1) (jc rows nk (some ⟨Et,sz,L,get⟩)) cs o_ yw rows' ns):Abs F fn nk rows (.bW m sz 0 len::cs) (.fs nk sz len::o_) yw rows' (m::ns)
theorem To.yg{fn:Nat}{u:bf}: ∀{cs:List SV}{nk:Nat}{rows:Nat->Option fM}{k:List FC->Nat->(Nat->Option fM)->List Nat->M bf},To P G F (D6 fn cs nk rows k) u->
 ∃o_ yw rows' ns,To P G F (k o_ yw rows' ns) u∧Abs F fn nk rows cs o_ yw rows' ns
 |[],nk,rows,k,h=>⟨[],nk,rows,[],h,.nil _ _⟩
 |c::cs,nk,rows,k,h=>by
  cases c with
  |d x=>
   simp only[D6]at h
   obtain⟨o_,yw,rows',ns,h,ha⟩:=To.yg h
   exact⟨_,_,_,_,h,.d ha⟩
  |zG m i sz len=>
   simp only[D6]at h
   split at h
   ·rename_i e
    have e:=Nat.eq_of_beq_eq_true e
    subst e
    obtain⟨o_,yw,rows',ns,h,ha⟩:=To.yg h
    exact⟨_,_,_,_,h,.zG ha⟩
   ·exact h.au.elim
  |bW m sz off len=>
   cases off with
   |zero=>
    simp only[D6]at h
    obtain⟨b,hb,h⟩:=h.eP
    split at h
    ·rename_i Et s L get
     split at h
     ·rename_i e
      have e:=Nat.eq_of_beq_eq_true e
      subst e
      obtain⟨o_,yw,rows',ns,h,ha⟩:=To.yg h
      split at h
      ·exact h.au.elim
      ·rename_i hn
       exact⟨_,_,_,_,h,.bW hb (fun hm=>by rw[Zb.2 hm]at hn;cases hn) ha⟩
     ·exact h.au.elim
    ·exact h.au.elim
   |succ _=>simp only[D6]at h;exact h.au.elim
  |_=>simp only[D6]at h;exact h.au.elim
theorem qx: ∀{ns:List Nat}{F:Fs},iU F ns=⟨F.s,fun m=>if m∈ns then none else F.o m,F.nm,F.n0⟩
 |[],F=>by simp[iU]
 |n::ns,F=>by
  simp only[iU]
  rw[qx]
  simp only[jK,List.mem_cons]
  congr 1
  funext m
  by_cases h1:m∈ns
  ·simp[h1]
  ·by_cases h2:m=n<;>simp[h1,h2]
theorem Abs.rows{fn nk yw:Nat}{rows rows':Nat->Option fM}{cs:List SV}{o_:List FC}{ns:List Nat}(h:Abs F fn nk rows cs o_ yw rows' ns): ∀m∈ns,∃Et sz L get,F.o m=some (.row Et sz L get):=by
 induction h with
 |nil=>simp
 |d _ ih=>exact ih
 |zG _ ih=>exact ih
 |bW hm _ _ ih=>
  intro k hk
  rcases List.mem_cons.1 hk with rfl|hk
  ·exact⟨_,_,_,_,hm⟩
  ·exact ih k hk
theorem Abs.len{fn nk yw:Nat}{rows rows':Nat->Option fM}{cs:List SV}{o_:List FC}{ns:List Nat}(h:Abs F fn nk rows cs o_ yw rows' ns):o_.length=cs.length:=by
 induction h with
 |nil=>rfl
 |d _ ih=>simp[ih]
 |zG _ ih=>simp[ih]
 |bW _ _ _ ih=>simp[ih]
theorem Abs.LJ{F0:Fs}{fn nk yw:Nat}{rows rows':Nat->Option fM}{cs:List SV}{o_:List FC}{ns:List Nat}(h:Abs F0 fn nk rows cs o_ yw rows' ns):
 ∀{F:Fs}{ρ:Nat->Loc}{us:List Value},Conc G nt C I ρ F a w->F.o fn=some (.fam nk rows)->(∀m∈ns,F.o m=F0.o m)-> ¬F.n0 fn->(∀m∈ns,¬F.n0 m)->aT I ρ w cs us->
 ∃ρ',Conc G nt C I ρ' (fE (iU F ns) fn (.fam yw rows')) a w∧(∀n,vV (ρ n) (ρ' n))∧(∀n,n≠fn->ρ' n=ρ n)∧nS I ρ' fn w o_ us:=by
 induction h with
 |nil nk rows=>
  intro F ρ us hc ig _ _ _ hr
  refine⟨ρ,?_,fun _=>vV.refl _,fun _ _=>rfl,by simpa only[aT,nS]using hr⟩
  have:fE (iU F []) fn (.fam nk rows)=F:=by
   simp only[iU,fE]
   have:(fun m=>if m=fn then some (bG.fam nk rows)else F.o m)=F.o:=by
    funext m;split
    ·rename_i e;subst e;exact ig.symm
    ·rfl
   rw[this]
  rw[this];exact hc
 |d _ ih=>
  intro F ρ us hc ig ho hf0 hm0 hr
  simp only[aT]at hr
  obtain⟨u,r,rfl,h1,h2⟩:=hr
  obtain⟨ρ',k1,k2,k3,k4⟩:=ih hc ig ho hf0 hm0 h2
  exact⟨ρ',k1,k2,k3,u,r,rfl,by simpa only[aC,kU]using h1,k4⟩
 |zG _ ih=>
  intro F ρ us hc ig ho hf0 hm0 hr
  simp only[aT]at hr
  obtain⟨u,r,rfl,h1,h2⟩:=hr
  obtain⟨ρ',k1,k2,k3,k4⟩:=ih hc ig ho hf0 hm0 h2
  exact⟨ρ',k1,k2,k3,u,r,rfl,h1.vU k2,k4⟩
 | @bW nk yw rows rows' cs o_ ns m Et sz L len get hm hn hab ih=>
   intro F ρ us hc ig ho hf0 hm0 hr
   simp only[aT]at hr
   obtain⟨u,r,rfl,h1,h2⟩:=hr
   have hFm:F.o m=some (.row Et sz L get):=by rw[ho m (by simp)];exact hm
   have hc1:=hc.ajv ig hFm hf0 (hm0 m (by simp))
   have hx:=Ut (ρ:=ρ) (fn:=fn) (vV.rH (ρ fn) ⟨(ρ m).b,(ρ m).cap,(ρ m).o⟩)
   have hnfn: ∀m'∈ns,m'≠fn:=by
    rintro m' hm' rfl
    obtain⟨_,_,_,_,e⟩:=hab.rows m' hm'
    rw[<-ho m' (by simp[hm']),ig]at e
    cases e
   obtain⟨ρ',k1,k2,k3,k4⟩:=ih hc1 (by simp[fE]) (fun m' hm'=>by
    have e1:m'≠m:=fun e=>hn (e▸hm')
    simp only[fE,jK,if_neg (hnfn m' hm'),if_neg e1]
    exact ho m' (by simp[hm'])) hf0 (fun m' hm'=>hm0 m' (by simp[hm'])) (h2.vU hx)
   refine⟨ρ',?_,fun n=>(hx n).trans (k2 n),fun n hn'=>(k3 n hn').trans (by simp[dU,hn']),u,r,rfl,?_,k4⟩
   ·have:fE (iU (fE (jK F m) fn (.fam (nk+1) (jc rows nk (some ⟨Et,sz,L,get⟩)))) ns) fn (.fam yw rows')=fE (iU F (m::ns)) fn (.fam yw rows'):=by
     simp only[iU]
     rw[qx,qx]
     simp only[fE,jK]
     congr 1
     funext k
     by_cases e:k=fn<;>simp[e]
    rw[<-this];exact k1
   ·
    obtain⟨f1,_,_⟩:=hc.own fn _ ig
    simp only[aC]at h1
    obtain⟨g1,g2,g3,ad,hu,g4⟩:=h1
    have:aC I (dU ρ fn (rH (ρ fn) ⟨(ρ m).b,(ρ m).cap,(ρ m).o⟩)) w (.zG fn nk sz len) u:=by
     simp only[aC,dU,if_true,rH,f1]
     exact⟨Nat.lt_succ_self _,Om,ad,hu,by simpa using g4⟩
    exact this.vU k2
end Go.Sx
namespace Go.Sx
open Go
variable {P:Program}{G:Nat->Option (Nat×(Nat->D))}{nt:Nat}{C:Ctx}{I:Nat->Prop}{ρ:Nat->Loc}{F:Fs}{a:Act}{w:World}{E:List Nat}{T:Nat}
theorem Ov(hE:I8 P E)(hc:Conc G nt C I ρ F a w){o:Oper}(hd:dJ nt o.dst){u:bf}(t:To P G F (n_ P G E o.dst o.op) u){F1:Fs}(hp:fH F u.pub F1)(hf:jB F u):
 fJ P G nt C I ρ a w o (eG F1 u):=by
 cases ho:o.op with
 |move x=>exact Y2 hc (.inl ho) hd t hp
 |assign x=>exact Y2 hc (.inr ho) hd t hp
 |pick c x y=>exact agz hc ho hd t hp
 |alloc T=>exact adF hc ho hd t hp hf
 |box T x=>exact aiG hc ho hd t hp hf
 |build T ps=>exact adD hc ho hd t hp
 |buildSlice T n ps=>exact CX hc ho hd t hp hf
 |load T x=>exact agB hc ho hd t hp
 |store T x y=>exact adu hc ho hd t hp
 |nilCheck x=>exact TP hc ho hd t hp
 |binOp op T x y T'=>exact adE hE hc ho hd t hp
 |unOp op T x=>exact agy hc ho hd t hp
 |fieldAddr T x f=>exact Qr hc ho hd t hp
 |field T x f=>exact adA hc ho hd t hp
 |indexAddr T x i=>exact Qq hc ho hd t hp
 |index T x i=>exact adz hc ho hd t hp
 |extract x i=>exact W9 hc ho hd t hp
 |convert s T x=>exact W_ hc ho hd t hp hf
 |makeSlice T l c=>exact Qp hc ho hd t hp hf
 |slice T x lo hi mx=>cases mx with
  |none=>exact adv hc ho hd t hp
  |some m=>exact aaY hc ho hd t hp
 |range T x=>exact adw hc ho hd t hp hf
 |makeMap T r=>cases r with
  |none=>exact WY hc ho hd t hp hf
  |some _=>rw[ho]at t;exact t.au.elim
 |mapUpdate T m x y=>exact Qo hc ho hd t hp
 |lookup T x y ok=>exact aaZ hc ho hd t hp
 |next x b=>cases b with
  |true=>exact agA hc ho hd t hp
  |false=>rw[ho]at t;exact t.au.elim
 |makeFunc fn first caps=>
  obtain⟨first⟩:=first
  obtain⟨caps⟩:=caps
  cases first with
  |nil=>cases fn with
   |func f=>exact TR hc ho hd t hp
   |_=>rw[ho]at t;exact t.au.elim
  |cons _ _=>cases fn<;>(rw[ho]at t;exact t.au.elim)
 |makeInterface T x=>exact Gx hc ho hd t hp
 |call c=>
  obtain⟨cal,⟨args⟩,⟨ats⟩⟩:=c
  cases cal with
  |builtin b=>exact Xa hc ho hd t hp hf
  |invoke r m=>rw[ho]at t;exact t.au.elim
  |value x=>
   have clo: ∀{f:FuncId}{caps:List SV}{cs:List SV},MI I ρ F w cs (args.map a.eval)->Val G I ρ F w (.clo f caps) (a.eval x)->To P G F (FQ P E o.dst f (cs++caps)) u->fJ P G nt C I ρ a w o (eG F1 u):=by
    intro f caps cs hvs hx t
    have hx':=hx.rep
    simp only[aC]at hx'
    obtain⟨us,hx',hr⟩:=hx'
    refine ES (vs:=args.map a.eval++us) hc hd (fun he=>JU ho hx' he) ⟨hvs.rep.append hr,fun n hn=> ?_⟩ t hp hf
    rw[jd]at hn
    obtain⟨c,hc',hn⟩:=hn
    simp only[List.mem_append]at hc'
    rcases hc' with hc'|hc'
    ·exact hvs.nm n (jd.2 ⟨c,hc',hn⟩)
    ·exact hx.nm n (by simp only[dO];exact jd.2 ⟨c,hc',hn⟩)
   have gen:To P G F (evs args fun args=>ev x fun
    | .clo f caps=>FQ P E o.dst f (args++caps)
    |_=> .fail "call of what") u->fJ P G nt C I ρ a w o (eG F1 u):=by
    intro t
    obtain⟨cs,t1,hvs⟩:=To.zh hc t
    obtain⟨sv,t2,hx⟩:=To.bU hc t1
    split at t2
    ·exact clo hvs hx t2
    ·exact t2.au.elim
   rw[ho]at t
   cases x with
   |func f=>
    simp only[n_]at t
    obtain⟨cs,t1,hvs⟩:=To.zh hc t
    refine clo (caps:=[]) hvs ⟨?_,by simp[dO,jW]⟩ (by simpa using t1)
    simp only[aC,Act.eval]
    exact⟨[],rfl,by simp[aT]⟩
   |tmp _=>exact gen t
   |const _=>exact gen t
   |global _=>exact gen t
 |_=>rw[ho]at t;exact t.au.elim
end Go.Sx
namespace Go.Sx
open Go
variable {P:Program}{G:Nat->Option (Nat×(Nat->D))}{nt:Nat}{C:Ctx}{I:Nat->Prop}{ρ:Nat->Loc}{F:Fs}{a:Act}{w:World}{E:List Nat}{T:Nat}
theorem kU.one{fn:Nat}{x:FC}{v:Value}(h:kU I ρ fn w x v):v.oneCell'=true:=by
 cases x with
 |d x=>exact bM.one h
 |fs k s l=>simp only[kU,aC]at h;obtain⟨_,_,ad,rfl,_⟩:=h;rfl
theorem Zz{fn:Nat}{x:FC}{v:Value}:aC I ρ w (ZA fn x) v↔kU I ρ fn w x v:=by
 cases x with
 |d x=>simp only[ZA,kU,aC]
 |fs k s l=>simp only[ZA,kU]
theorem aeK{fn m:Nat}{x:FC}(h:dO m (ZA fn x)):m=fn:=by
 cases x with
 |d x=>simp[ZA,dO]at h
 |fs k s l=>simp only[ZA,dO]at h;exact h.symm
theorem To.G5{fn:Nat}{get:Nat->FC}{u:bf}: ∀{n j:Nat}{k:List SV->M bf},To P G F (UO fn get j n k) u->To P G F (k ((List.range n).map fun i=>ZA fn (get (j+i)))) u
 |0,_,_,h=>h
 |n+1,j,k,h=>by
  have:=To.G5 (n:=n) (j:=j+1) h
  rw[List.range_succ_eq_map]
  simp only[List.map_cons,List.map_map,Nat.add_zero]
  have e:((fun i=>ZA fn (get (j+i)))∘Nat.succ)=fun i=>ZA fn (get (j+1+i)):=by
   funext i;simp only[Function.comp];congr 2;omega
  rw[e];exact this
theorem Tt{get:Nat->FC}{fn:Nat}{f:Nat->Value}: ∀{n:Nat},(∀j,j<n->kU I ρ fn w (get j) (f j))->aT I ρ w ((List.range n).map fun i=>ZA fn (get i)) ((List.range n).map f):=by
 intro n
 induction n with
 |zero=>intro _;simp[aT]
 |succ n ih=>
  intro h
  rw[List.range_succ,List.map_append,List.map_append]
  refine(ih fun j hj=>h j Om).append ?_
  simp only[List.map_cons,List.map_nil,aT]
  exact⟨_,_,rfl,Zz.2 (h n Om),rfl⟩
theorem QO{get:Nat->FC}{fn n m:Nat}(h:jW m ((List.range n).map fun i=>ZA fn (get i))):m=fn:=by
 rw[jd]at h
 obtain⟨c,hc,hm⟩:=h
 obtain⟨i,_,rfl⟩:=List.mem_map.1 hc
 exact aeK hm
theorem To.aaP{sz fn:Nat}{get:Nat->FC}{k:SV->M bf}{u:bf}(h:To P G F (YZ P T sz fn get k) u)(hnm:F.nm fn){us:List Value}
 (hcell: ∀j,j<sz-> ∃x,us[j]? =some x∧kU I ρ fn w (get j) x):
 ∃sv v d,To P G F (k sv) u∧Val G I ρ F w sv v∧P.underlying T=some d∧kK d (P.cellsOf T) us v:=by
 unfold YZ at h
 split at h
 ·exact h.au.elim
 ·rename_i d hd
  split at h
  ·rename_i ha
   split at h
   ·rename_i hle
    have hle:P.cellsOf T<=sz:=Nat.le_of_ble_eq_true hle
    have t:=To.G5 h
    simp only[Nat.zero_add]at t
    let f:Nat->Value:=fun j=>(us[j]?).getD undef
    have hf: ∀j,j<sz->us[j]? =some (f j)∧kU I ρ fn w (get j) (f j):=by
     intro j hj
     obtain⟨x,h1,h2⟩:=hcell j hj
     have:f j=x:=by simp[f,h1]
     rw[this];exact⟨h1,h2⟩
    have hr:=Tt (n:=P.cellsOf T) (fun j hj=>(hf j Om).2)
    have hlen:P.cellsOf T<=us.length:=by
     rcases Nat.eq_zero_or_pos (P.cellsOf T)with h0|h0
     ·omega
     ·have:=(List.getElem?_eq_some_iff.1 (hf (P.cellsOf T-1) Om).1).1
      omega
    have he:(List.range (P.cellsOf T)).map f=us.take (P.cellsOf T):=by
     apply List.ext_getElem?
     intro j
     by_cases hj:j<P.cellsOf T
     ·rw[List.getElem?_map,List.getElem?_range hj,List.getElem?_take,if_pos hj]
      exact(hf j Om).1.symm
     ·rw[List.getElem?_eq_none (by simp;omega),List.getElem?_eq_none (by simp;omega)]
    refine⟨_,.agg ⟨(List.range (P.cellsOf T)).map f⟩,d,t,⟨?_,?_⟩,hd,?_⟩
    ·simp only[aC]
     refine⟨_,rfl,hr,?_⟩
     intro x hx
     simp only[List.mem_map,List.mem_range]at hx
     obtain⟨j,hj,rfl⟩:=hx
     exact(hf j Om).2.one
    ·intro m hm
     simp only[dO]at hm
     rw[QO hm];exact hnm
    ·unfold kK
     rw[if_pos ha,he]
     exact⟨rfl,hlen⟩
   ·exact h.au.elim
  ·rename_i ha
   split at h
   ·rename_i hle
    have hle:1<=sz:=Nat.le_of_ble_eq_true hle
    obtain⟨x,h1,h2⟩:=hcell 0 Om
    refine⟨_,x,d,h,⟨Zz.2 h2,fun m hm=>by rw[aeK hm];exact hnm⟩,hd,?_⟩
    unfold kK;rw[if_neg (by simp[ha])];exact h1
   ·exact h.au.elim
theorem To.sS{fn:Nat}{k:Nat->(Nat->Option fM)->M bf}{u:bf}(h:To P G F (Fj fn k) u): ∃nk rows,F.o fn=some (.fam nk rows)∧To P G F (k nk rows) u:=by
 obtain⟨b,hb,h⟩:=h.eP
 split at h
 ·exact⟨_,_,hb,h⟩
 ·exact h.au.elim
theorem nS.get{fn:Nat}: ∀{cs:List FC}{us:List Value},nS I ρ fn w cs us-> ∀j,j<cs.length-> ∃u,us[j]? =some u∧kU I ρ fn w (cs.getD j default) u
 |[],_,_,j,hj=>by simp at hj
 |c::cs,_,h,j,hj=>by
  obtain⟨u,r,rfl,h1,h2⟩:=h
  cases j with
  |zero=>exact⟨u,rfl,h1⟩
  |succ j=>simpa using nS.get h2 j (by simpa using hj)
theorem nS.length{fn:Nat}: ∀{cs:List FC}{us:List Value},nS I ρ fn w cs us->us.length=cs.length
 |[],_,h=>by simp only[nS]at h;subst h;rfl
 |c::cs,_,h=>by
  obtain⟨u,r,rfl,_,h2⟩:=h
  simp[nS.length h2]
theorem G6{A B:Fs}(h1:A.s=B.s)(h2: ∀n,A.o n=B.o n)(h3: ∀n,A.nm n↔B.nm n)(h4:A.n0=B.n0):A=B:=by
 cases A;cases B
 simp only at h1 h2 h3 h4
 subst h1;subst h4
 congr 1
 ·exact funext h2
 ·exact funext fun n=>propext (h3 n)
theorem aeJ{fn d:Nat}{b1 b2:bG}{ns:List Nat}{dst:Option Nat}{v:SV}:
 eG F {dst,v,own:=[(fn,b1),(d,b2)],del:=fn::ns,new:=[d],pub:=[]}=oH (kS (fE (iU F ns) fn b1) d b2) dst v:=by
 simp only[eG,jS,EW,iU]
 rw[qx,qx]
 congr 1
 refine G6 rfl (fun n=> ?_) (fun n=>Iff.rfl) rfl
 simp only[fE,kS,jK]
 by_cases h1:n=d<;>by_cases h2:n=fn<;>simp[h1,h2]
theorem U1{fn n:Nat}{b1 b2:bG}{ns:List Nat}{dst:Option Nat}{v:SV}:
 eG F {dst,v,own:=[(fn,b1),(n,b2)],del:=fn::ns,new:=[],pub:=[]}=oH (fE (fE (iU F ns) fn b1) n b2) dst v:=by
 simp only[eG,jS,EW,iU]
 rw[qx,qx]
 congr 1
 refine G6 rfl (fun k=> ?_) (fun k=>Iff.rfl) rfl
 simp only[fE,jK]
 by_cases h1:k=n<;>by_cases h2:k=fn<;>simp[h1,h2]
theorem FH{ns:List Nat}:(iU F ns).nm=F.nm:=by rw[qx]
theorem ZH{ns:List Nat}{n:Nat}(h:n ∉ ns):(iU F ns).o n=F.o n:=by rw[qx];simp[h]
theorem agC(hc:Conc G nt C I ρ F a w){o:Oper}{parts:List (Nat×Operand)}(ho:o.op= .buildSlice T 1 ⟨parts⟩)(hd:dJ nt o.dst){u:bf}(t:To P G F (aiO P o.dst T parts) u)
 {F1:Fs} (hp:fH F u.pub F1) (hf:jB F u):fJ P G nt C I ρ a w o (eG F1 u):=by
 unfold aiO at t
 split at t
 ·rename_i x
  obtain⟨d,hdst,t⟩:=jv t
  obtain⟨Et,hT,t⟩:=To.nK t
  obtain⟨i,z,zs,us,hi,hz,hzc,hul,t,_,_⟩:=To.qU (I:=I) (ρ:=ρ) (w:=w) t
  obtain⟨zd,_,t⟩:=To.lJ t
  obtain⟨sv,t,hv⟩:=To.bU hc t
  obtain⟨cs,xw,t,h1,h2,h3⟩:=To.nC t hv.rep
  have hcs:P.cellsOf Et=i.size:=by simp[Program.cellsOf,hi]
  split at t
  ·rename_i e1 e2 e3
   have e1:cs.length=P.cellsOf Et:=Nat.eq_of_beq_eq_true e1
   have e2:0<P.cellsOf Et:=Nat.le_of_ble_eq_true e2
   have e3:P.cellsOf Et<=16777216:=Nat.le_of_ble_eq_true e3
   obtain⟨nk,rows,ig,t⟩:=To.sS t
   obtain⟨o_,yw,rows',ns,t,hab⟩:=To.yg t
   have:=t.dV;subst this
   cases hp
   obtain⟨ρ1,hc1,hx,_,hrep⟩:=hab.LJ hc ig (fun _ _=>rfl) (hf.del qM (by simp)) (fun m hm=>hf.del m (by simp[hm])) h1.1
   have hl:=h1.1.length
   have hlen:=hrep.length
   rw[aeJ]
   have h6:Instr.fill (fun j=>some (j*i.size,i.size)) ((Array.range (1*i.size)).map ((Array.mk us)[· % (Array.mk us).size]!)) ([(0,x)].map fun p=>(p.1,a.eval p.2))=some ⟨xw⟩:=by
    have hr:=Tq hul Om 1
    have e:(Array.range (1*i.size)).map ((Array.mk us)[· % (Array.mk us).size]!)=⟨us⟩:=by
     apply Array.ext'
     rw[hr];simp
    rw[e]
    simp only[List.map_cons,List.map_nil]
    rw[wJ h2 (off:=0) (by simp;omega) Om]
    simp only[Instr.fill,List.take_zero,List.nil_append,Nat.zero_add]
    rw[List.drop_eq_nil_of_le Om,List.append_nil]
   intro next Q hn
   have hnd: ¬(fE (iU F ns) qM (.fam yw rows')).nm d:=by
    simp only[fE];rw[FH];exact hf.new d (by simp)
   refine dY (v:= .slice (some ⟨w.heap.size,0,none⟩) 1 1) (w':=w.alloc (.cells ⟨xw⟩ Et)) (zD ho hT hi hz hzc Om h6)
    (hn I _ _ _ ((hc1.mW (blk:= .dP qM Et (P.cellsOf Et) 1 fun _ j=>o_.getD j default) (o:= .cells ⟨xw⟩ Et) hnd (cap:=1) (rl:=1) (sz:=P.cellsOf Et) ?_ ?_).put hd (rU Om) (by intro k hm;simp only[dO]at hm;exact .inl hm.symm)))
   ·refine⟨rfl,rfl,Nat.le_refl _,fun _=>⟨_,.of (dS w _),by simp;omega,fun i' j hi' hj=> ?_⟩⟩
    obtain⟨y,hy,hr⟩:=hrep.get j (by rw[<-hlen];omega)
    have:i'=0:=Om
    subst this
    refine⟨y,by simpa using hy,hr.mono (fun _ h=>h) (hc.iw _) rfl⟩
   ·intro m hm
    simp only[inB]at hm
    subst hm
    simp only[fE];rw[FH];exact hc.fO _ _ ig
  ·exact t.au.elim
 ·exact t.au.elim
end Go.Sx
namespace Go.Sx
open Go
variable {P:Program}{G:Nat->Option (Nat×(Nat->D))}{nt:Nat}{C:Ctx}{I:Nat->Prop}{ρ:Nat->Loc}{F:Fs}{a:Act}{w:World}{E:List Nat}{T:Nat}
theorem adx(hc:Conc G nt C I ρ F a w){o:Oper}{x:Operand}(ho:o.op= .load T x)(hd:dJ nt o.dst){n s i off fn Et sz len:Nat}{get:Nat->Nat->FC}
 (hv:Val G I ρ F w (.qJ n s i off) (a.eval x)) (hb:F.o n=some (.dP fn Et sz len get)) {u:bf} (t:To P G F (.need (i<len) (YZ P T (sz-off) fn (fun j=>get i (off+j)) (upd o.dst))) u)
 {F1:Fs} (hp:fH F u.pub F1):fJ P G nt C I ρ a w o (eG F1 u):=by
 obtain⟨hi,t⟩:=t.dh
 have hx:=hv.rep
 simp only[aC]at hx
 obtain⟨h1,h2,h3,h4⟩:=hc.own n _ hb
 obtain⟨arr,h5,h6,h7⟩:=h4 Om
 have hnm:F.nm fn:=hc.fA n _ fn hb (by simp only[inB])
 obtain⟨sv,v,d,t,hv',hd',hpv⟩:=To.aaP (I:=I) (ρ:=ρ) (w:=w) (us:=arr.toList.drop ((ρ n).o+(i*sz+off))) t hnm (by
  intro j hj
  obtain⟨y,hy,hr⟩:=h7 i (off+j) hi Om
  refine⟨y,?_,hr⟩
  rw[List.getElem?_drop,Array.getElem?_toList,<-hy];congr 1;omega)
 have:=dA t;subst this
 cases hp
 have hss:s=sz:=by rw[<-hx.1,h2]
 subst hss
 refine bJ hc hv' hd ?_
 have hl:=jC (w:=w) hd' (ad:=⟨(ρ n).b,(ρ n).o+(i*s+off),none⟩) hpv (fun j y hy=>by
  rw[add_eq,h5.cell]
  rw[List.getElem?_drop,Array.getElem?_toList]at hy
  exact hy)
 simp[execOp,ho,hx.2,Instr.loadAt,Instr.sureAddr,hl]
theorem JK{o:Oper}{x y:Operand}(ho:o.op= .store T x y){ad:Addr}{w':World}(h1:a.eval x= .pointer (some ad))(h2:(storeVar T ad (a.eval y)).run P w= .ok () w'):
 (execOp a.eval o).run P w= .ok .skip w':=by
 simp[execOp,ho,h1,Instr.storeAt,Instr.sureAddr,h2]
theorem TM{al xw:List Value}{o off i sz i' j':Nat}(hb:o+(i*sz+(off+xw.length))<=al.length)(hj':j'<sz)(hfit:off+xw.length<=sz):
 (al.take (o+(i*sz+off))++xw++al.drop (o+(i*sz+off)+xw.length))[o+(i'*sz+j')]? =
   if i'=i∧off<=j'∧j'<off+xw.length then xw[j'-off]? else al[o+(i'*sz+j')]? :=by
 have hlow:(al.take (o+(i*sz+off))).length=o+(i*sz+off):=by simp;omega
 by_cases hii:i'=i
 ·subst hii
  by_cases hj1:off<=j'
  ·by_cases hj2:j'<off+xw.length
   ·rw[if_pos ⟨rfl,hj1,hj2⟩,List.append_assoc,List.getElem?_append_right Om,List.getElem?_append_left Om,hlow]
    congr 1;omega
   ·rw[if_neg Om,List.getElem?_append_right (by simp;omega),List.getElem?_drop]
    congr 1
    simp only[List.length_append,hlow]
    omega
  ·rw[if_neg Om,List.append_assoc,List.getElem?_append_left Om,List.getElem?_take,if_pos Om]
 ·rw[if_neg Om]
  rcases Nat.lt_or_gt_of_ne hii with hlt|hlt
  ·have:(i'+1)*sz<=i*sz:=Nat.mul_le_mul_right _ hlt
   rw[Nat.succ_mul]at this
   rw[List.append_assoc,List.getElem?_append_left Om,List.getElem?_take,if_pos Om]
  ·have:(i+1)*sz<=i'*sz:=Nat.mul_le_mul_right _ hlt
   rw[Nat.succ_mul]at this
   rw[List.getElem?_append_right (by simp;omega),List.getElem?_drop]
   congr 1
   simp only[List.length_append,hlow]
   omega
theorem EP{al xw:List Value}{k:Nat}(h:k+xw.length<=al.length):(al.take k++xw++al.drop (k+xw.length)).length=al.length:=by
 simp;omega
theorem aaX(hc:Conc G nt C I ρ F a w){o:Oper}{x y:Operand}(ho:o.op= .store T x y)(hd:dJ nt o.dst){n s i off fn Et sz len:Nat}{get:Nat->Nat->FC}
 (hv:Val G I ρ F w (.qJ n s i off) (a.eval x)) (hb:F.o n=some (.dP fn Et sz len get)) {u:bf}
 (t:To P G F (ev y fun v=>qB v fun new=>Fj fn fun nk rows=>D6 fn new nk rows fun o_ nk rows ns=>match jT P T o_.length,Nat.ble (off+o_.length) sz with
   |true,true=> .need (i<len) (.ret {dst:=o.dst,v:= .junk,own:=[(fn,.fam nk rows),(n,.dP fn Et sz len fun i' j'=>if i'=i then(if j'<off then get i' j' else if j'<off+o_.length then o_.getD (j'-off) default else get i' j')else get i' j')],del:=fn::ns,new:=[],pub:=[]})
   |_,_=> .fail "store size") u)
 {F1:Fs} (hp:fH F u.pub F1) (hf:jB F u):fJ P G nt C I ρ a w o (eG F1 u):=by
 obtain⟨sv2,t,hv2⟩:=To.bU hc t
 obtain⟨new,xw,t,h1,h2,h3⟩:=To.nC t hv2.rep
 obtain⟨nk,rows,ig,t⟩:=To.sS t
 obtain⟨o_,yw,rows',ns,t,hab⟩:=To.yg t
 split at t
 ·rename_i hle hfit
  have hfit:off+o_.length<=sz:=Nat.le_of_ble_eq_true hfit
  obtain⟨ti,hi,hsz⟩:=gY hle
  obtain⟨hil,t⟩:=t.dh
  have:=t.dV;subst this
  cases hp
  rw[U1]
  obtain⟨ρ1,hc1,hx1,hx2,hrep⟩:=hab.LJ hc ig (fun _ _=>rfl) (hf.del fn (by simp)) (fun m hm=>hf.del m (by simp[hm])) h1.1
  have hl:=h1.1.length
  have hlen:=hrep.length
  have hne:n≠fn:=by rintro rfl;rw[hb]at ig;cases ig
  have hns:n ∉ ns:=by
   intro hm
   obtain⟨_,_,_,_,e⟩:=hab.rows n hm
   rw[hb]at e;cases e
  have hb1:(fE (iU F ns) fn (.fam yw rows')).o n=some (.dP fn Et sz len get):=by
   simp only[fE,if_neg hne];rw[ZH hns];exact hb
  have hx:=hv.rep
  simp only[aC]at hx
  obtain⟨hxs,hx⟩:=hx
  rw[<-hx2 n hne]at hxs hx
  obtain⟨h4,h5,h6,h7⟩:=hc1.own n _ hb1
  have hcap:0<(ρ1 n).cap:=Om
  obtain⟨⟨al⟩,h8,h9,h10⟩:=h7 hcap
  have hss:s=sz:=by rw[<-h5,hxs]
  subst hss
  have h9':al.length=(ρ1 n).o+(ρ1 n).cap*s:=by simpa using h9
  have hbig:(ρ1 n).o+(i*s+(off+xw.length))<=al.length:=by
   have h11:i*s+s<=(ρ1 n).cap*s:=by rw[<-Nat.succ_mul];exact Nat.mul_le_mul_right _ Om
   omega
  intro next Q hn
  have hst:=rQ (P:=P) hi h8 (off:=(ρ1 n).o+(i*s+off)) h2 Om Om h1.2
  refine xq (JK ho hx hst) (hn I ρ1 _ _ (Conc.put (v:=undef) ?_ hd (by simp[aC]) (by simp[dO])))
  have hS:Same I w (w.setRow (ρ1 n).b (al.take ((ρ1 n).o+(i*s+off))++xw++al.drop ((ρ1 n).o+(i*s+off)+xw.length)).toArray):=jZ (hc1.sep n _ hb1 hcap).1
  refine hc1.zY (blk:= .dP fn Et s len fun i' j'=>if i'=i then(if j'<off then get i' j' else if j'<off+o_.length then o_.getD (j'-off) default else get i' j')else get i' j') (cs:=(al.take ((ρ1 n).o+(i*s+off))++xw++al.drop ((ρ1 n).o+(i*s+off)+xw.length)).toArray) hb1 hcap (fun _ h=>h) (fun h=>h) ⟨h4,h5,h6,fun _=>⟨_,h8.set (by rw[List.size_toArray,EP Om];rfl),by rw[List.size_toArray,EP Om];exact h9',?_⟩⟩ ?_
  ·intro i' j' hi' hj'
   obtain⟨y',hy,hr⟩:=h10 i' j' hi' hj'
   simp only[List.getElem?_toArray]at hy⊢
   rw[TM hbig hj' Om]
   by_cases hii:i'=i
   ·subst hii
    simp only[if_true]
    by_cases hj1:j'<off
    ·rw[if_neg Om,if_pos hj1]
     exact⟨y',hy,hr.mono (fun _ h=>h) hS rfl⟩
    ·rw[if_neg hj1]
     by_cases hj2:j'<off+o_.length
     ·rw[if_pos ⟨trivial,Om,Om⟩,if_pos hj2]
      obtain⟨z,hz,hrz⟩:=hrep.get (j'-off) Om
      exact⟨z,hz,hrz.mono (fun _ h=>h) hS rfl⟩
     ·rw[if_neg Om,if_neg hj2]
      exact⟨y',hy,hr.mono (fun _ h=>h) hS rfl⟩
   ·rw[if_neg Om,if_neg hii]
    exact⟨y',hy,hr.mono (fun _ h=>h) hS rfl⟩
  ·intro m hm
   simp only[inB]at hm
   subst hm
   simp only[fE];rw[FH];exact hc.fO _ _ ig
 ·exact t.au.elim
theorem WX(hc:Conc G nt C I ρ F a w){o:Oper}{x y:Operand}(ho:o.op= .store T x y)(hd:dJ nt o.dst){n kk sz i off:Nat}
 (hv:Val G I ρ F w (.uZ n kk sz i off) (a.eval x)) {u:bf}
 (t:To P G F (ev y fun v=>qB v fun new=>vk new fun ds=>match jT P T ds.length,Nat.ble (off+ds.length) sz with
   |true,true=>Fj n fun nk rows=> .need (∃r,rows kk=some r∧r.sz=sz∧i<r.len) (.ret {dst:=o.dst,v:= .junk,own:=[(n,.fam nk fun k=>if k=kk then(rows kk).map fun r=>{r with get:=fun i' j'=>if i'=i then(if j'<off then r.get i' j' else if j'<off+ds.length then ds.getD (j'-off) default else r.get i' j')else r.get i' j'}else rows k)],del:=[],new:=[],pub:=[]})
   |_,_=> .fail "store size") u)
 {F1:Fs} (hp:fH F u.pub F1):fJ P G nt C I ρ a w o (eG F1 u):=by
 obtain⟨sv2,t,hv2⟩:=To.bU hc t
 obtain⟨new,xw,t,h1,h2,h3⟩:=To.nC t hv2.rep
 obtain⟨ds,e,t1⟩:=To.lJ t
 subst e
 clear t
 split at t1
 ·rename_i hle hfit
  have hfit:off+ds.length<=sz:=Nat.le_of_ble_eq_true hfit
  obtain⟨ti,hi,hsz⟩:=gY hle
  obtain⟨nk,rows,ig,t⟩:=To.sS t1
  obtain⟨⟨r,hr,hrs,hil⟩,t⟩:=t.dh
  have:=t.dV;subst this
  cases hp
  rw[xW]
  obtain⟨f1,f2,f3⟩:=hc.own n _ ig
  obtain⟨g1,g2,g3⟩:=f2 kk r hr
  have hx:=hv.rep
  simp only[aC]at hx
  obtain⟨_,hx⟩:=hx
  have hcap:0<((ρ n).fam kk).cap:=Om
  obtain⟨⟨al⟩,h8,h9,h10⟩:=g3 hcap
  have hl:=h1.1.length
  simp only[List.length_map]at hl
  rw[hrs]at h9 h10
  have h9':al.length=((ρ n).fam kk).o+((ρ n).fam kk).cap*sz:=by simpa using h9
  have hbig:((ρ n).fam kk).o+(i*sz+(off+xw.length))<=al.length:=by
   have h11:i*sz+sz<=((ρ n).fam kk).cap*sz:=by rw[<-Nat.succ_mul];exact Nat.mul_le_mul_right _ Om
   omega
  have hfo:foot (ρ n) (.fam nk rows) ((ρ n).fam kk).b:=⟨kk,r,hr,hcap,rfl⟩
  have hsep:=hc.jA n _ _ ig hfo
  intro next Q hn
  have hst:=rQ (P:=P) hi h8 (off:=((ρ n).fam kk).o+(i*sz+off)) h2 Om Om h1.2
  refine xq (JK ho hx hst) (hn I ρ _ _ (Conc.put (v:=undef) ?_ hd (by simp[aC]) (by simp[dO])))
  generalize hw':w.setRow ((ρ n).fam kk).b (al.take (((ρ n).fam kk).o+(i*sz+off))++xw++al.drop (((ρ n).fam kk).o+(i*sz+off)+xw.length)).toArray=w'
  have hS:Same I w w':=by rw[<-hw'];exact jZ hsep.1
  have hne: ∀k,k≠((ρ n).fam kk).b->w'.heap[k]? =w.heap[k]? :=fun k hk=>by rw[<-hw'];exact uq _ _ _ _ hk
  have hrows: ∀k r',(if k=kk then(rows kk).map (fun r=>{r with get:=fun i' j'=>if i'=i then(if j'<off then r.get i' j' else if j'<off+ds.length then ds.getD (j'-off) default else r.get i' j')else r.get i' j'})else rows k)=some r'->
   (k=kk∧r'={r with get:=fun i' j'=>if i'=i then(if j'<off then r.get i' j' else if j'<off+ds.length then ds.getD (j'-off) default else r.get i' j')else r.get i' j'})∨(k≠kk∧rows k=some r'):=by
   intro k r' h
   split at h
   ·rename_i e;rw[hr]at h;simp only[Option.map_some,Option.some.injEq]at h;exact .inl ⟨e,h.symm⟩
   ·rename_i e;exact .inr ⟨e,h⟩
  have hold: ∀k r',(if k=kk then(rows kk).map (fun r=>{r with get:=fun i' j'=>if i'=i then(if j'<off then r.get i' j' else if j'<off+ds.length then ds.getD (j'-off) default else r.get i' j')else r.get i' j'})else rows k)=some r'->
   ∃r0,rows k=some r0:=by
   intro k r' h
   rcases hrows k r' h with⟨rfl,_⟩|⟨_,h⟩
   ·exact⟨r,hr⟩
   ·exact⟨_,h⟩
  refine hc.store (w':=w') ig ?_ (fun _=>trivial) hS ?_ ?_ ?_ ?_ (by simp[inB])
  ·rintro k ⟨k',r',h',hcap',rfl⟩
   obtain⟨r0,h0⟩:=hold k' r' h'
   exact⟨k',r0,h0,hcap',rfl⟩
  ·intro m b k hm hmn hl'
   exact hne k (fun e=>hmn (hc.iE m n b _ _ hm ig hl' (by rw[e];exact hfo)))
  ·refine hc.keep.trans (T:=fun k=>k=((ρ n).fam kk).b) (by rw[<-hw'];exact wG _ w _ _ rfl) ?_
   rintro k rfl;exact hsep.2.symm
  ·intro b hb;have:=hc.nT b hb;rw[<-hw'];simpa[World.setRow]using this
  ·refine⟨f1,fun k r' h'=> ?_,fun k k' r1 r2 h1 h2 hc1 hc2 e=> ?_⟩
   ·rcases hrows k r' h' with⟨rfl,rfl⟩|⟨hk,h⟩
    ·refine⟨g1,g2,fun _=> ?_⟩
     rw[<-hw']
     refine⟨_,h8.set (by rw[List.size_toArray,EP Om];rfl),by rw[List.size_toArray,EP Om];simpa[hrs]using h9',?_⟩
     intro i' j' hi' hj'
     simp only[hrs]at hj'⊢
     obtain⟨y',hy,hrr⟩:=h10 i' j' hi' hj'
     have hmono: ∀{x:D}{v:Value},bM I w x v->bM I (w.setRow ((ρ n).fam k).b (al.take (((ρ n).fam k).o+(i*sz+off))++xw++al.drop (((ρ n).fam k).o+(i*sz+off)+xw.length)).toArray) x v:=
      fun h=>h.mono (fun _ h=>h) (by rw[hw'];exact hS)
     simp only[List.getElem?_toArray]at hy⊢
     rw[TM hbig hj' Om]
     by_cases hii:i'=i
     ·subst hii
      simp only[if_true]
      by_cases hj1:j'<off
      ·rw[if_neg Om,if_pos hj1]
       exact⟨y',hy,hmono hrr⟩
      ·rw[if_neg hj1]
       by_cases hj2:j'<off+ds.length
       ·rw[if_pos ⟨trivial,Om,Om⟩,if_pos hj2]
        obtain⟨z,hz,hrz⟩:=h1.1.data (j'-off) Om
        exact⟨z,hz,hmono hrz⟩
       ·rw[if_neg Om,if_neg hj2]
        exact⟨y',hy,hmono hrr⟩
     ·rw[if_neg Om,if_neg hii]
      exact⟨y',hy,hmono hrr⟩
    ·obtain⟨q1,q2,q3⟩:=f2 k r' h
     refine⟨q1,q2,fun hcap'=> ?_⟩
     obtain⟨arr',q4,q5,q6⟩:=q3 hcap'
     have hbk:((ρ n).fam k).b≠((ρ n).fam kk).b:=fun e=>hk (f3 k kk r' r h hr hcap' hcap e)
     refine⟨arr',q4.congr (hne _ hbk),q5,fun a' j ha hj=> ?_⟩
     obtain⟨y',hy,hrr⟩:=q6 a' j ha hj
     exact⟨y',hy,hrr.mono (fun _ h=>h) hS⟩
   ·obtain⟨r3,h3'⟩:=hold k r1 h1
    obtain⟨r4,h4'⟩:=hold k' r2 h2
    exact f3 k k' r3 r4 h3' h4' hc1 hc2 e
 ·exact t1.au.elim
theorem Qn(hc:Conc G nt C I ρ F a w){o:Oper}{x:Operand}(ho:o.op= .nilCheck x)(hd:dJ nt o.dst){n k s i off:Nat}(hv:Val G I ρ F w (.uZ n k s i off) (a.eval x)):
 fJ P G nt C I ρ a w o (oH F o.dst (.uZ n k s i off)):=by
 have hx:=hv.rep
 simp only[aC]at hx
 refine bJ hc hv hd ?_
 rw[hx.2]
 simp[execOp,ho,hx.2]
theorem Ny(hc:Conc G nt C I ρ F a w){o:Oper}{x:Operand}{f:Nat}(ho:o.op= .fieldAddr T x f)(hd:dJ nt o.dst){n k s i off:Nat}(hv:Val G I ρ F w (.uZ n k s i off) (a.eval x)){u:bf}
 (t:To P G F (G7 P T f fun off' t=>match BH P t with
   |true=>upd o.dst (.uZ n k s i (off+off'))
   |false=> .fail "fieldAddr") u) {F1:Fs} (hp:fH F u.pub F1):fJ P G nt C I ρ a w o (eG F1 u):=by
 obtain⟨fs,fx,hT,hf,t⟩:=To.DR t
 split at t
 ·rename_i hps
  have:=dA t;subst this
  cases hp
  have hx:=hv.rep
  simp only[aC]at hx
  refine bJ hc (v:= .pointer (some ⟨((ρ n).fam k).b,((ρ n).fam k).o+(i*s+off)+fx.offset,none⟩)) ⟨?_,fun m hm=>hv.nm m (by simpa[dO]using hm)⟩ hd ?_
  ·simp only[aC,Nat.add_assoc]
   exact⟨hx.1,trivial⟩
  ·unfold BH at hps
   split at hps
   ·rename_i ti hi
    have hne:ti.size≠0:=by intro e;rw[e]at hps;simp at hps
    have hf':fs[f]? =some fx:=hf
    simp[execOp,ho,hx.2,Instr.fieldAt,Instr.sureAddr,run_underlying hT,hf',fieldPlace,fG hi,hne,add_eq]
   ·simp at hps
 ·exact t.au.elim
theorem Nw(hc:Conc G nt C I ρ F a w){o:Oper}{x y:Operand}(ho:o.op= .indexAddr T x y)(hd:dJ nt o.dst){n k sz l:Nat}{kd:IntKind}{i:Int}(hv:Val G I ρ F w (.zG n k sz l) (a.eval x))(ey:a.eval y= .int kd i)
 {Et:Nat} (hT:P.underlying T=some (.slice Et)) (hsz:jT P Et sz=true) (hi:0<=i∧i<l):fJ P G nt C I ρ a w o (oH F o.dst (.uZ n k sz i.toNat 0)):=by
 obtain⟨ti,hti,rfl⟩:=gY hsz
 have hx:=hv.rep
 simp only[aC]at hx
 obtain⟨h1,h2,ad,hx,h3⟩:=hx
 have h3:=h3.resolve_right Om
 subst h3
 refine bJ hc (v:= .pointer (some ⟨((ρ n).fam k).b,((ρ n).fam k).o+i.toNat*ti.size,none⟩)) ⟨?_,fun m hm=>hv.nm m (by simpa[dO]using hm)⟩ hd ?_
 ·simp only[aC,Nat.add_zero]
  exact⟨h1,trivial⟩
 ·have:=run_indexAt_slice (P:=P) (w:=w) (cap:=((ρ n).fam k).cap) (b:=((ρ n).fam k).b) (off:=((ρ n).fam k).o) (k:=kd) hT hti hi
  simp[execOp,ho,ey,hx,this]
theorem Ey{o:Oper}{b:Builtin}{args:List Operand}{ats:List Nat}(ho:o.op= .call ⟨.builtin b,⟨args⟩,⟨ats⟩⟩): ∃cst:Array Bool,(execOp a.eval o).run P w=(builtin b ⟨ats⟩ o.type cst ⟨args.map a.eval⟩).run P w:=by
 refine⟨(Array.mk args).map fun| .const _=>true|_=>false,?_⟩
 simp only[execOp,ho,resolve,invoke,Sem.run_bind,Sem.run_pure,Result.andThen_ok,List.map_toArray]
 rfl
theorem agD(hc:Conc G nt C I ρ F a w){o:Oper}{x:Operand}(ho:o.op= .call ⟨.builtin .len,⟨[x]⟩,⟨[T]⟩⟩)(hd:dJ nt o.dst){n k sz l:Nat}(hv:Val G I ρ F w (.zG n k sz l) (a.eval x))
 {Et:Nat} (hT:P.underlying T=some (.slice Et)):fJ P G nt C I ρ a w o (oH F o.dst (.d (.int .i64 l))):=by
 obtain⟨cst,hrun⟩:=Ey (P:=P) (a:=a) (w:=w) ho
 have hx:=hv.rep
 simp only[aC]at hx
 obtain⟨h1,h2,ad,hx,h3⟩:=hx
 simp only[List.map_cons,List.map_nil,hx]at hrun
 refine bJ hc (pJ (qO (.int .i64 _) trivial)) hd ?_
 rw[hrun]
 simp[builtin,Builtin.len_,run_underlying hT,goInt,lq]
end Go.Sx
namespace Go.Sx
open Go
variable {P:Program}{G:Nat->Option (Nat×(Nat->D))}{nt:Nat}{C:Ctx}{I:Nat->Prop}{ρ:Nat->Loc}{F:Fs}{a:Act}{w:World}{E:List Nat}{T:Nat}
theorem OT{L:Loc}{fn Et sz len:Nat}{get:Nat->Nat->FC}(h:dX I ρ w L (.dP fn Et sz len get)):
 ∃gv:Nat->Nat->Value,dX I ρ w L (.row Et sz len fun i j=> .val (gv i j))∧∀i j,i<len->j<sz->kU I ρ fn w (get i j) (gv i j):=by
 obtain⟨h1,h2,h3,h4⟩:=h
 by_cases hc:0<L.cap
 ·obtain⟨arr,h5,h6,h7⟩:=h4 hc
  have e: ∀i j,i<len->j<sz->arr[L.o+(i*sz+j)]? =some ((arr[L.o+(i*sz+j)]?).getD undef)∧kU I ρ fn w (get i j) ((arr[L.o+(i*sz+j)]?).getD undef):=by
   intro i j hi hj
   obtain⟨u,hu,hr⟩:=h7 i j hi hj
   rw[hu];exact⟨rfl,hr⟩
  refine⟨fun i j=>(arr[L.o+(i*sz+j)]?).getD undef,⟨h1,h2,h3,fun _=>⟨arr,h5,h6,fun i j hi hj=>⟨_,(e i j hi hj).1,rfl,(e i j hi hj).2.one⟩⟩⟩,fun i j hi hj=>(e i j hi hj).2⟩
 ·exact⟨fun _ _=>undef,⟨h1,h2,h3,fun h=>absurd h hc⟩,fun i j hi _=>absurd hi Om⟩
theorem OU{L:Loc}{fn Et sz len:Nat}{get:Nat->Nat->FC}{gd:Nat->Nat->D}(h:dX I ρ w L (.row Et sz len gd))(hr: ∀i j,i<len->j<sz-> ∀u,bM I w (gd i j) u->kU I ρ fn w (get i j) u):
 dX I ρ w L (.dP fn Et sz len get):=by
 obtain⟨h1,h2,h3,h4⟩:=h
 refine⟨h1,h2,h3,fun hc=> ?_⟩
 obtain⟨arr,h5,h6,h7⟩:=h4 hc
 refine⟨arr,h5,h6,fun i j hi hj=> ?_⟩
 obtain⟨u,hu,hd⟩:=h7 i j hi hj
 exact⟨u,hu,hr i j hi hj u hd⟩
def RJ(I:Nat->Prop)(ρ:Nat->Loc)(w:World)(fn m sz:Nat)(gd:Nat->Nat->D)(gf:Nat->Nat->FC):Prop:=
 ∀(ρ':Nat->Loc)(w':World),Same I w w'->ρ' fn=ρ fn-> ∀i j,i<m->j<sz-> ∀u,bM I w' (gd i j) u->kU I ρ' fn w' (gf i j) u
theorem Yj{fn m sz:Nat}{gv:Nat->Nat->Value}{gf:Nat->Nat->FC}(h: ∀i j,i<m->j<sz->kU I ρ fn w (gf i j) (gv i j)):RJ I ρ w fn m sz (fun i j=> .val (gv i j)) gf:=by
 intro ρ' w' hS hρ i j hi hj u hu
 simp only[bM]at hu
 rw[hu.1]
 exact(h i j hi hj).mono (fun _ h=>h) hS hρ
theorem Vy{fn m sz:Nat}{g:Nat->Nat->D}:RJ I ρ w fn m sz g (fun i j=> .d (g i j)):=fun _ _ _ _ _ _ _ _ _ hu=>hu
theorem JA(hc:Conc G nt C I ρ F a w){n s off m fn Et sz l:Nat}{g:Nat->Nat->FC}(hb:F.o n=some (.dP fn Et sz l g)){v:Value}(hv:aC I ρ w (.bW n s off m) v):
 ∃gd,yj I w s m gd v∧RJ I ρ w fn m s gd (fun i j=>g (off+i) j):=by
 obtain⟨gv,h1,h2⟩:=OT (hc.own n _ hb)
 have hc':Conc G nt C I ρ (fE F n (.row Et sz l fun i j=> .val (gv i j))) a w:=
  hc.store (blk:= .row Et sz l fun i j=> .val (gv i j)) hb (fun _ h=>h) (fun _=>trivial) (fun _ _ _=>rfl) (fun _ _ _ _ _ _=>rfl) hc.keep hc.nT h1 (by simp[inB])
 have hs:=Bz hc' (n:=n) (show(fE F n (.row Et sz l fun i j=> .val (gv i j))).o n=some (.row Et sz l fun i j=> .val (gv i j))by simp[fE]) hv
 refine⟨_,hs,Yj fun i j hi hj=>h2 _ _ ?_ ?_⟩
 ·simp only[aC]at hv
  obtain⟨_,h5,h6,_⟩:=hv
  obtain⟨h7,_⟩:=h1
  omega
 ·simp only[aC]at hv
  rw[<-h1.2.1,hv.1];exact hj
theorem To.acR(hc:Conc G nt C I ρ F a w){fn sz n:Nat}{x:SV}{v:Value}{k:Nat->(Nat->Nat->FC)->M bf}{u:bf}(h:To P G F (ain fn sz n x k) u)(hv:aC I ρ w x v):
 ∃m gf gd,To P G F (k m gf) u∧yj I w sz m gd v∧RJ I ρ w fn m sz gd gf:=by
 unfold ain at h
 split at h
 ·split at h
  ·rename_i hs
   have hs:=Nat.eq_of_beq_eq_true hs
   subst hs
   exact⟨_,_,_,h,yF hv,Vy⟩
  ·exact h.au.elim
 ·obtain⟨b,hb,h'⟩:=h.eP
  clear h
  split at h'
  ·split at h'
   ·rename_i e1 e2 _
    have e1:=Nat.eq_of_beq_eq_true e1
    have e2:=Nat.eq_of_beq_eq_true e2
    subst e1
    subst e2
    obtain⟨gd,h1,h2⟩:=JA hc hb hv
    exact⟨_,_,gd,h',h1,h2⟩
   ·exact h'.au.elim
  ·split at h'
   ·rename_i e1 _
    have e1:=Nat.eq_of_beq_eq_true e1
    subst e1
    exact⟨_,_,_,h',Bz hc hb hv,Vy⟩
   ·exact h'.au.elim
  ·exact h'.au.elim
 ·exact h.au.elim
theorem TW(hc:Conc G nt C I ρ F a w){o:Oper}{T:Nat}{vs vx:Value}(hd:dJ nt o.dst)
 (hrun: ∀v w',(Builtin.append_ #[T,T] o.type #[vs,vx]).run P w= .ok v w'->(execOp a.eval o).run P w= .ok (.value v) w')
 {Et:Nat} (hT:P.underlying T=some (.slice Et)) {n s0 len fn E' s L:Nat} {get:Nat->Nat->FC} {sy:SV} (hb:F.o n=some (.dP fn E' s L get)) (hx:aC I ρ w (.bW n s0 0 len) vs) (hy:aC I ρ w sy vx)
 {u:bf} (t:To P G F (VJ P o.dst Et (P.cellsOf Et) n len fn E' s L get sy) u) {F1:Fs} (hp:fH F u.pub F1) (hf:jB F u):fJ P G nt C I ρ a w o (eG F1 u):=by
 obtain⟨d,hdst,t0⟩:=jv t
 clear t
 split at t0
 ·rename_i hz e1 e2
  have e1:=Nat.eq_of_beq_eq_true e1
  have e2:=Nat.eq_of_beq_eq_true e2
  subst e1
  subst e2
  obtain⟨ti,z,hti,hz,hzs,hts,hpos⟩:=kZ hz
  have hby:P.bytesOf Et=ti.bytes:=by simp[Program.bytesOf,hti]
  obtain⟨m,gf,gd,t2,hs,hcf⟩:=To.acR hc t0 hy
  obtain⟨⟨hl,h47,h63⟩,t3⟩:=t2.dh
  have:=t3.dV;subst this
  cases hp
  obtain⟨gv,k1,k2⟩:=OT (hc.own n _ hb)
  have hc':Conc G nt C I ρ (fE F n (.row Et (P.cellsOf Et) L fun i j=> .val (gv i j))) a w:=
   hc.store (blk:= .row Et (P.cellsOf Et) L fun i j=> .val (gv i j)) hb (fun _ h=>h) (fun _=>trivial) (fun _ _ _=>rfl) (fun _ _ _ _ _ _=>rfl) hc.keep hc.nT k1 (by simp[inB])
  have hfn:F.nm fn:=hc.fA n _ fn hb (by simp only[inB])
  have hdn: ¬F.nm d:=hf.new d (by simp)
  obtain⟨v,w',ρ',h1,h2,h3,h4,h5⟩:=Bl (ty:=o.type) hc' hT hti hz hzs hts hpos (n:=n) (show(fE F n (.row Et (P.cellsOf Et) L fun i j=> .val (gv i j))).o n=some (.row Et (P.cellsOf Et) L fun i j=> .val (gv i j))by simp[fE]) 0 Om (d:=d) hdn hx hs (by rw[<-hby];exact h47) h63
  intro next Q hn
  refine dY (hrun v w' h1) (hn I ρ' v w' ?_)
  refine Conc.put (F:=kS (jK F n) d (.dP fn Et (P.cellsOf Et) (len+m) fun i j=>if i<len then get i j else gf (i-len) j)) ?_ hd h3 (by intro m hm;simp only[dO]at hm;exact .inl hm.symm)
  have e0:kS (jK F n) d (.dP fn Et (P.cellsOf Et) (len+m) fun i j=>if i<len then get i j else gf (i-len) j)=
   fE (kS (jK (fE F n (.row Et (P.cellsOf Et) L fun i j=> .val (gv i j))) n) d (.row Et (P.cellsOf Et) (len+m) fun i j=>if i<len then .val (gv (0+i) j)else gd (i-len) j)) d (.dP fn Et (P.cellsOf Et) (len+m) fun i j=>if i<len then get i j else gf (i-len) j):=by
   refine G6 rfl (fun q=> ?_) (fun _=>Iff.rfl) rfl
   simp only[kS,jK,fE]
   by_cases q1:q=d
   ·simp only[if_pos q1]
   ·by_cases q2:q=n
    ·simp only[if_neg q1,if_pos q2]
    ·simp only[if_neg q1,if_neg q2]
  rw[e0]
  have hbd:=h2.own d (.row Et (P.cellsOf Et) (len+m) fun i j=>if i<len then .val (gv (0+i) j)else gd (i-len) j) (by simp[kS])
  refine h2.store (n:=d) (blk:= .dP fn Et (P.cellsOf Et) (len+m) fun i j=>if i<len then get i j else gf (i-len) j) (b0:= .row Et (P.cellsOf Et) (len+m) fun i j=>if i<len then .val (gv (0+i) j)else gd (i-len) j) (by simp[kS]) (fun _ h=>h) (fun _=>trivial) (fun _ _ _=>rfl) (fun _ _ _ _ _ _=>rfl) h2.keep h2.nT (OU hbd ?_) (by intro q hq;simp only[inB]at hq;subst hq;exact .inr hfn)
  intro i j hi hj uu hu
  by_cases hlt:i<len
  ·simp only[hlt,if_true]at hu⊢
   simp only[bM,Nat.zero_add]at hu
   rw[hu.1]
   exact(k2 i j Om hj).mono (fun _ h=>h) h4 (h5 fn hfn)
  ·simp only[hlt,if_false]at hu⊢
   exact hcf ρ' w' h4 (h5 fn hfn) (i-len) j Om hj uu hu
 ·exact t0.au.elim
theorem TY(hc:Conc G nt C I ρ F a w){o:Oper}{T:Nat}{vx:Value}(hd:dJ nt o.dst)
 (hrun: ∀v w',(Builtin.append_ #[T,T] o.type #[.slice none 0 0,vx]).run P w= .ok v w'->(execOp a.eval o).run P w= .ok (.value v) w')
 {Et:Nat} (hT:P.underlying T=some (.slice Et)) {m s l fn E' s' L:Nat} {get:Nat->Nat->FC} (hb:F.o m=some (.dP fn E' s' L get)) (hy:aC I ρ w (.bW m s 0 l) vx)
 {u:bf} (t:To P G F (zl o.dst fun d=>match tq P Et (P.cellsOf Et),Nat.beq s (P.cellsOf Et),Nat.beq s' (P.cellsOf Et)with
      |true,true,true=> .need (l*P.bytesOf Et<=140737488355328∧l<=9223372036854775807)
       (.ret {dst:=o.dst,v:= .bW d (P.cellsOf Et) 0 l,own:=[(d,.dP fn Et (P.cellsOf Et) l get)],del:=[],new:=[d],pub:=[]})
      |_,_,_=> .fail "append type") u) {F1:Fs} (hp:fH F u.pub F1) (hf:jB F u):fJ P G nt C I ρ a w o (eG F1 u):=by
 obtain⟨d,hdst,t0⟩:=jv t
 clear t
 split at t0
 ·rename_i hz e1 e2
  have e1:=Nat.eq_of_beq_eq_true e1
  have e2:=Nat.eq_of_beq_eq_true e2
  subst e1
  obtain⟨ti,z,hti,hz,hzs,hts,hpos⟩:=kZ hz
  have hby:P.bytesOf Et=ti.bytes:=by simp[Program.bytesOf,hti]
  obtain⟨⟨h47,h63⟩,t3⟩:=t0.dh
  have:=t3.dV;subst this
  cases hp
  obtain⟨gd,hs,hcf⟩:=JA hc hb hy
  have hfn:F.nm fn:=hc.fA m _ fn hb (by simp only[inB])
  have hdn: ¬F.nm d:=hf.new d (by simp)
  obtain⟨v,w',ρ',h1,h2,h3,h4,h5⟩:=zK (ty:=o.type) hc hT hti hz hzs hts hdn hs (by rw[<-hby];exact h47) h63
  intro next Q hn
  refine dY (hrun v w' h1) (hn I ρ' v w' ?_)
  refine Conc.put (F:=kS F d (.dP fn Et (P.cellsOf Et) l get)) ?_ hd h3 (by intro m hm;simp only[dO]at hm;exact .inl hm.symm)
  have e0:kS F d (.dP fn Et (P.cellsOf Et) l get)=fE (kS F d (.row Et (P.cellsOf Et) l gd)) d (.dP fn Et (P.cellsOf Et) l get):=by
   refine G6 rfl (fun q=> ?_) (fun _=>Iff.rfl) rfl
   simp only[kS,fE]
   by_cases q1:q=d
   ·simp only[if_pos q1]
   ·simp only[if_neg q1]
  rw[e0]
  have hbd:=h2.own d (.row Et (P.cellsOf Et) l gd) (by simp[kS])
  refine h2.store (n:=d) (blk:= .dP fn Et (P.cellsOf Et) l get) (b0:= .row Et (P.cellsOf Et) l gd) (by simp[kS]) (fun _ h=>h) (fun _=>trivial) (fun _ _ _=>rfl) (fun _ _ _ _ _ _=>rfl) h2.keep h2.nT (OU hbd ?_) (by intro q hq;simp only[inB]at hq;subst hq;exact .inr hfn)
  intro i j hi hj uu hu
  simpa using hcf ρ' w' h4 (h5 fn hfn) i j hi hj uu hu
 ·exact t0.au.elim
theorem TV(hc:Conc G nt C I ρ F a w){o:Oper}{T:Nat}{vs vx:Value}(hd:dJ nt o.dst)
 (hrun: ∀v w',(Builtin.append_ #[T,T] o.type #[vs,vx]).run P w= .ok v w'->(execOp a.eval o).run P w= .ok (.value v) w')
 {Et:Nat} (hT:P.underlying T=some (.slice Et)) {fn i s0 len:Nat} {sy:SV} (hx:aC I ρ w (.zG fn i s0 len) vs) (hy:aC I ρ w sy vx)
 {u:bf} (t:To P G F (VI P o.dst Et (P.cellsOf Et) fn i len sy) u) {F1:Fs} (hp:fH F u.pub F1) (hf:jB F u):fJ P G nt C I ρ a w o (eG F1 u):=by
 obtain⟨d,hdst,t0⟩:=jv t
 clear t
 split at t0
 ·rename_i hz
  obtain⟨ti,z,hti,hz,hzs,hts,hpos⟩:=kZ hz
  have hby:P.bytesOf Et=ti.bytes:=by simp[Program.bytesOf,hti]
  obtain⟨nk,rows,ig,t⟩:=To.sS t0
  obtain⟨m,g,t2,hs⟩:=To.rY hc t hy
  obtain⟨⟨⟨r,hr,hrE,hrs,hrl⟩,h47,h63⟩,t3⟩:=t2.dh
  have:=t3.dV;subst this
  cases hp
  have hdn: ¬F.nm d:=hf.new d (by simp)
  have akE: ¬F.nm (d+500000):=hf.new (d+500000) (by simp)
  have hc':=hc.af0 ig hr (hf.del fn (by simp)) akE
  rw[hrE,hrs,hrl]at hc'
  obtain⟨f1,f2,f3⟩:=hc.own fn _ ig
  obtain⟨g1,g2,g3⟩:=f2 i r hr
  have hx':aC I (dU ρ (d+500000) (Oz ((ρ fn).fam i).b ((ρ fn).fam i).cap len (P.cellsOf Et) ((ρ fn).fam i).o)) w (.bW (d+500000) (P.cellsOf Et) 0 len) vs:=by
   simp only[aC]at hx
   obtain⟨q1,q2,ad,q3,q4⟩:=hx
   simp only[aC,dU,if_true]
   exact⟨trivial,Om,q2,ad,by rw[q3,Nat.sub_zero],by simpa using q4⟩
  obtain⟨v,w',ρ',h1,h2,h3,h4,h5⟩:=Bl (ty:=o.type) hc' hT hti hz hzs hts hpos (n:=d+500000) (by simp[kS];rfl) 0 (Nat.le_of_eq (Nat.zero_add _)) (d:=d)
   (by rintro(h|h)
       ·omega
       ·exact hdn h) hx' hs (by rw[<-hby];exact h47) h63
  intro next Q hn
  refine dY (hrun v w' h1) (hn I ρ' v w' ?_)
  have e0:eG F {dst:=o.dst,v:= .bW d (P.cellsOf Et) 0 (len+m),own:=[(fn,.fam nk (jc rows i none)),(d,.row Et (P.cellsOf Et) (len+m) fun a j=>if a<len then mO rows i a j else g (a-len) j)],del:=[fn,d+500000],new:=[d+500000,d],pub:=[]}=
   oH (kS (jK (kS (fE F fn (.fam nk (jc rows i none))) (d+500000) (.row Et (P.cellsOf Et) len r.get)) (d+500000)) d (.row Et (P.cellsOf Et) (len+m) fun i j=>if i<len then r.get (0+i) j else g (i-len) j)) o.dst (.bW d (P.cellsOf Et) 0 (len+m)):=by
   simp only[eG,jS,EW,iU]
   congr 1
   refine G6 rfl (fun q=> ?_) (fun _=>Iff.rfl) rfl
   have eg: ∀a j,mO rows i a j=r.get a j:=by intro a j;simp[mO,hr]
   simp only[kS,jK,fE,eg,Nat.zero_add]
   have hne:fn≠d+500000:=by rintro rfl;exact akE (hc.fO _ _ ig)
   by_cases q1:q=d
   ·simp only[if_pos q1]
   ·by_cases q2:q=d+500000
    ·subst q2;simp only[if_neg q1,if_neg (Ne.symm hne),if_true]
    ·by_cases q3:q=fn
     ·simp only[if_neg q1,if_pos q3,if_neg q2]
     ·simp only[if_neg q1,if_neg q2,if_neg q3]
  rw[e0]
  exact Conc.put h2 hd h3 (by intro m hm;simp only[dO]at hm;exact .inl hm.symm)
 ·exact t0.au.elim
theorem abr{x:SV}(h:Xw x=true):x= .d (.val (.slice none 0 0)):=by
 unfold Xw at h
 split at h
 ·rfl
 ·cases h
theorem Ad{o:Oper}{s x:Operand}(ho:o.op= .call ⟨.builtin .append,⟨[s,x]⟩,⟨[T,T]⟩⟩){v:Value}{w':World}(h:(Builtin.append_ #[T,T] o.type #[a.eval s,a.eval x]).run P w= .ok v w'):
 (execOp a.eval o).run P w= .ok (.value v) w':=by
 obtain⟨cst,hrun⟩:=Ey (P:=P) (a:=a) (w:=w) ho
 rw[hrun]
 simp only[List.map_cons,List.map_nil,builtin]
 simp[h]
theorem Xb(hE:I8 P E)(hc:Conc G nt C I ρ F a w){o:Oper}{s x:Operand}{T':Nat}(ho:o.op= .call ⟨.builtin .append,⟨[s,x]⟩,⟨[T,T']⟩⟩)(hd:dJ nt o.dst){u:bf}
 (t:To P G F (Rx P G E o.dst o.op s x T T') u) {F1:Fs} (hp:fH F u.pub F1) (hf:jB F u):fJ P G nt C I ρ a w o (eG F1 u):=by
 have fall:To P G F (n_ P G E o.dst o.op) u->fJ P G nt C I ρ a w o (eG F1 u):=fun t=>Ov hE hc hd t hp hf
 unfold Rx at t
 obtain⟨sv,t1,hv⟩:=To.bU hc t
 clear t
 split at t1
 ·split at t1
  ·rename_i e
   have e:=Nat.eq_of_beq_eq_true e
   subst e
   obtain⟨sx,t2,hx⟩:=To.bU hc t1
   obtain⟨Et,hT,t3⟩:=To.nK t2
   exact TV hc hd (fun v w' h=>Ad ho h) hT hv.rep hx.rep t3 hp hf
  ·exact t1.au.elim
 ·obtain⟨b,hb,t2⟩:=t1.eP
  clear t1
  split at t2
  ·split at t2
   ·rename_i e
    have e:=Nat.eq_of_beq_eq_true e
    subst e
    obtain⟨sx,t3,hx⟩:=To.bU hc t2
    obtain⟨Et,hT,t4⟩:=To.nK t3
    exact TW hc hd (fun v w' h=>Ad ho h) hT hb hv.rep hx.rep t4 hp hf
   ·exact t2.au.elim
  ·exact fall t2
 ·split at t1
  ·rename_i hnil
   have hnil:=abr hnil
   subst hnil
   obtain⟨sx,t2,hx⟩:=To.bU hc t1
   clear t1
   split at t2
   ·obtain⟨b,hb,t3⟩:=t2.eP
    clear t2
    split at t3
    ·split at t3
     ·rename_i e
      have e:=Nat.eq_of_beq_eq_true e
      subst e
      obtain⟨Et,hT,t4⟩:=To.nK t3
      have Zt:=hv.rep
      simp only[aC,bM]at Zt
      refine TY hc hd (fun v w' h=>Ad ho ?_) hT hb hx.rep t4 hp hf
      rw[Zt.1];exact h
     ·exact t3.au.elim
    ·exact fall t3
   ·exact fall t2
  ·exact fall t1
end Go.Sx
namespace Go.Sx
open Go
variable {P:Program}{G:Nat->Option (Nat×(Nat->D))}{nt:Nat}{C:Ctx}{I:Nat->Prop}{ρ:Nat->Loc}{F:Fs}{a:Act}{w:World}{E:List Nat}{T:Nat}
inductive zq (P:Program):List Field->Nat->List IntKind->Prop where
 |nil (off:Nat):zq P [] off []
 |cons {name:String} {t off:Nat} {e1 e2 e3 e4} {fs:List Field} {i:IntKind} {kk:List IntKind} (h:P.underlying t=some (.int i)) (hn:name≠ "_") (r:zq P fs (off+1) kk):zq P (⟨name,t,off,e1,e2,e3,e4⟩::fs) off (i::kk)
inductive MO (P:Program) (E:List Nat) (K:TypeId):Bool->List IntKind->Prop where
 |int {i:IntKind} (h:P.underlying K=some (.int i)):MO P E K false [i]
 |agg {fs:List Field} {kk:List IntKind} (h:P.underlying K=some (.struct ⟨fs⟩)) (hm:g_ K E=true) (hk:zq P fs 0 kk):MO P E K true kk
theorem To.KT{u:bf}: ∀{fs:List Field}{off:Nat}{k:List IntKind->M bf},To P G F (QN P fs off k) u-> ∃kk,To P G F (k kk) u∧zq P fs off kk
 |[],off,k,h=>⟨[],h,.nil off⟩
 |⟨name,t,o,e1,e2,e3,e4⟩::fs,off,k,h=>by
  simp only[QN]at h
  split at h
  ·rename_i i hT hn ho
   have ho:=Nat.eq_of_beq_eq_true ho
   subst ho
   obtain⟨kk,h,hk⟩:=To.KT h
   exact⟨_,h,.cons hT (by simpa using hn) hk⟩
  ·exact h.au.elim
theorem To.KP{k:Bool->List IntKind->Nat->Bool->Nat->M bf}{u:bf}(h:To P G F (QF P E T k) u):
 ∃K V dv ka kk,P.underlying T=some (.map K V)∧P.underlying V=some dv∧MO P E K ka kk∧To P G F (k ka kk V (qg dv) (P.cellsOf V)) u:=by
 unfold QF at h
 split at h
 ·rename_i K V hT
  split at h
  ·rename_i dv hV
   split at h
   ·rename_i i hK
    exact⟨K,V,dv,_,_,hT,hV,.int hK,h⟩
   ·rename_i fs hK
    split at h
    ·rename_i hm
     obtain⟨kk,h,hk⟩:=To.KT h
     exact⟨K,V,dv,_,_,hT,hV,.agg hK hm hk,h⟩
    ·exact h.au.elim
   ·exact h.au.elim
  ·exact h.au.elim
 ·exact h.au.elim
theorem rE(kk:List IntKind)(k:List Int):lQ true kk k= .agg ⟨List.zipWith Value.int kk k⟩:=by cases kk<;>cases k<;>rfl
theorem Xr(i:IntKind)(n:Int):lQ false [i] [n]= .int i n:=rfl
theorem zip_inj: ∀{kk:List IntKind}{a b:List Int},a.length=kk.length->b.length=kk.length->List.zipWith Value.int kk a=List.zipWith Value.int kk b->a=b
 |[],[],[],_,_,_=>rfl
 |i::kk,x::a,y::b,ha,hb,h=>by
  simp only[List.zipWith_cons_cons,List.cons.injEq,Value.int.injEq,true_and]at h
  rw[h.1,zip_inj (by simpa using ha) (by simpa using hb) h.2]
 |[],_::_,_,h,_,_=>by simp at h
 |[],[],_::_,_,h,_=>by simp at h
 |_::_,[],_,h,_,_=>by simp at h
 |_::_,_::_,[],_,h,_=>by simp at h
theorem Fb{K:TypeId}{ka:Bool}{kk:List IntKind}(hk:MO P E K ka kk){a b:List Int}(ha:a.length=kk.length)(hb:b.length=kk.length)(h:lQ ka kk a=lQ ka kk b):a=b:=by
 cases hk with
 |int _=>
  match a,b,ha,hb with
  |[x],[y],_,_=>simp only[Xr,Value.int.injEq,true_and]at h;rw[h]
 |agg _ _ _=>
  rw[rE,rE]at h
  simp only[Value.agg.injEq,Array.mk.injEq]at h
  exact zip_inj ha hb h
theorem Gn{t:Nat}{i:IntKind}(ht:P.underlying t=some (.int i)){us:List Value}{off:Nat}{v:Value}(h:us[off]? =some v):(part t ⟨us⟩ off).run P w= .ok v w:=
 xB ht (by unfold kK;rw[if_neg (by simp[qg])];simpa using h)
theorem Ux{fs:List Field}{off:Nat}{kk:List IntKind}(hk:zq P fs off kk)(em:Bool)(n:Nat): ∀{us:List Value}{k:List Int},k.length=kk.length->us.drop off=List.zipWith Value.int kk k->
 (forIn fs PUnit.unit fun f(_:PUnit)=>(if f.name≠ "_" then do
   let v<-part f.type ⟨us⟩ f.offset
   Instr.checkKey em (n+1) f.type v
   pure (ForInStep.yield PUnit.unit)
   else pure (ForInStep.yield PUnit.unit):Sem (ForInStep PUnit))).run P w= .ok PUnit.unit w:=by
 induction hk with
 |nil off=>intro us k _ _;simp
 | @cons name t off e1 e2 e3 e4 fs i kk h hn r ih=>
   intro us k hl hus
   match k,hl with
   |x::k,hl=>
    have h0:us[off]? =some (.int i x):=by
     have:=congrArg (fun l:List Value=>l[0]?) hus
     simpa using this
    have h1:us.drop (off+1)=List.zipWith Value.int kk k:=by
     rw[<-List.drop_drop,hus];rfl
    have p1:=Gn (P:=P) (w:=w) h h0
    have p2:=MapKept.run_checkKey (P:=P) (w:=w) h (show MapKept.IsKey (.int i) (.int i x)from rfl) em n
    simp only[List.forIn_cons,Sem.run_bind,ne_eq,hn,not_false_eq_true,if_true,p1,p2,Result.andThen_ok,Sem.run_pure]
    exact ih (by simpa using hl) h1
theorem UC{K:TypeId}{ka:Bool}{kk:List IntKind}(hk:MO P E K ka kk){k:List Int}(hl:k.length=kk.length)(em:Bool):(Instr.checkKey em 10000 K (lQ ka kk k)).run P w= .ok () w:=by
 cases hk with
 |int h=>
  match k,hl with
  |[x],_=>exact MapKept.run_checkKey h (show MapKept.IsKey (.int _) (.int _ x)from rfl) em 9999
 | @agg fs kk h hm hk=>
   rw[rE,show(10000:Nat)=9999+1 from rfl,Instr.checkKey]
   simp only[Sem.run_bind,run_underlying h,Result.andThen_ok]
   rw[<-Array.forIn_toList]
   have:=Ux (P:=P) (w:=w) hk em 9998 (us:=List.zipWith Value.int kk k) hl rfl
   rw[show(9998+1:Nat)=9999 from rfl]at this
   rw[this]
   rfl
theorem aeb{fs:List Field}{off:Nat}{kk:List IntKind}(hk:zq P fs off kk){d:Nat}(hd:1<=d): ∀{us vs:List Value}{x y:List Int},x.length=kk.length->y.length=kk.length->
 us.drop off=List.zipWith Value.int kk x->vs.drop off=List.zipWith Value.int kk y->(Op.eqFields d ⟨us⟩ ⟨vs⟩ fs).run P w= .ok (x==y) w:=by
 induction hk with
 |nil off=>
  intro us vs x y hx hy _ _
  match x,y,hx,hy with
  |[],[],_,_=>rfl
 | @cons name t off e1 e2 e3 e4 fs i kk h hn r ih=>
   intro us vs x y hx hy hu hv
   match x,y,hx,hy with
   |p::x,q::y,hx,hy=>
    have h0:us[off]? =some (.int i p):=by
     have:=congrArg (fun l:List Value=>l[0]?) hu
     simpa using this
    have h0':vs[off]? =some (.int i q):=by
     have:=congrArg (fun l:List Value=>l[0]?) hv
     simpa using this
    have h1:us.drop (off+1)=List.zipWith Value.int kk x:=by rw[<-List.drop_drop,hu];rfl
    have h1':vs.drop (off+1)=List.zipWith Value.int kk y:=by rw[<-List.drop_drop,hv];rfl
    have ih:=ih (by simpa using hx) (by simpa using hy) h1 h1'
    obtain⟨e,rfl⟩: ∃e,d=e+1:=⟨d-1,Om⟩
    have he:=run_equalIn_int (P:=P) w e t i i p q h
    simp only[Op.eqFields,hn,ne_eq,not_false_eq_true,if_true,Sem.run_bind,Gn h h0,Gn h h0',Result.andThen_ok,he]
    by_cases hpq:p=q
    ·subst hpq
     simp[ih]
    ·have:(p==q)=false:=by simpa using hpq
     simp[this,hpq]
theorem aki(hE:I8 P E){K:TypeId}{kk:List IntKind}(hk:MO P E K true kk){x y:List Int}(hx:x.length=kk.length)(hy:y.length=kk.length):
 (Op.equal K (lQ true kk x) (lQ true kk y)).run P w= .ok (x==y) w:=by
 cases hk with
 | @agg fs kk h hm hk=>
   have hf:P.fieldsOf K=⟨fs⟩:=by simp[Program.fieldsOf,h]
   rw[rE,rE]
   have:=run_equalIn_agg (P:=P) w 9999 K ⟨List.zipWith Value.int kk x⟩ ⟨List.zipWith Value.int kk y⟩ (by rw[hf];exact h) (hE.eq K hm).1
   simp only[Op.equal,Op.maxDepth]
   rw[this,hf]
   exact aeb hk Om hx hy rfl rfl
theorem afq(hE:I8 P E){K:TypeId}{kk:List IntKind}(hk:MO P E K true kk){k:List Int}(hl:k.length=kk.length): ∀{es:List MapEntry}{i:Nat},(∀e∈es,∃q:List Int,q.length=kk.length∧e.key=lQ true kk q)->
 ((Instr.findAsking K (lQ true kk k) es i).run P w= .ok none w∧∀e∈es,e.key≠lQ true kk k)∨
 ∃j e,(Instr.findAsking K (lQ true kk k) es i).run P w= .ok (some (i+j,e.val)) w∧es[j]? =some e∧e.key=lQ true kk k
 |[],i,_=> .inl ⟨by simp[Instr.findAsking],by simp⟩
 |e::es,i,hall=>by
  obtain⟨q,hq,he⟩:=hall e (by simp)
  have hr:=aki (w:=w) hE hk hl hq
  rw[<-he]at hr
  by_cases hkq:k=q
  ·refine .inr ⟨0,e,?_,rfl,by rw[he,hkq]⟩
   rw[hkq]at hr⊢
   simp[Instr.findAsking,hr]
  ·have hne:e.key≠lQ true kk k:=fun h=>hkq (Fb hk hl hq (by rw[<-h,he]))
   have hb:(k==q)=false:=by simpa using hkq
   rcases afq hE hk hl (es:=es) (i:=i+1) (fun y hy=>hall y (by simp[hy]))with⟨h1,h2⟩|⟨j,e',h1,h2,h3⟩
   ·refine .inl ⟨by simp[Instr.findAsking,hr,hb,h1],fun y hy=> ?_⟩
    rcases List.mem_cons.1 hy with rfl|hy
    ·exact hne
    ·exact h2 y hy
   ·exact .inr ⟨j+1,e',by simp[Instr.findAsking,hr,hb,h1,Nat.add_assoc,Nat.add_comm 1 j],by simpa using h2,h3⟩
theorem Zn(hE:I8 P E){K:TypeId}{ka:Bool}{kk:List IntKind}(hk:MO P E K ka kk){k:List Int}(hl:k.length=kk.length){es:List MapEntry}(hes: ∀e∈es,∃q:List Int,q.length=kk.length∧e.key=lQ ka kk q):
 ((Instr.findKey K (lQ ka kk k) es).run P w= .ok none w∧∀e∈es,e.key≠lQ ka kk k)∨
 ∃j e,(Instr.findKey K (lQ ka kk k) es).run P w= .ok (some (j,e.val)) w∧es[j]? =some e∧e.key=lQ ka kk k:=by
 cases hk with
 | @int i h=>
   match k,hl with
   |[x],_=>
    rcases MapKept.findNow_spec (d:= .int i) (k:=lQ false [i] [x]) rfl es 0 (fun y hy=>by
     obtain⟨q,hq,he⟩:=hes y hy
     match q,hq with
     |[z],_=>rw[he];rfl)with⟨h1,h2⟩|⟨j,e,h1,h2,h3⟩
    ·exact .inl ⟨MapKept.run_findKey h h1,h2⟩
    ·exact .inr ⟨j,e,by rw[MapKept.run_findKey h h1];simp,h2,h3⟩
 | @agg fs kk h hm hk=>
   rw[run_findKey_eq w (by rw[h])]
   rcases afq (w:=w) hE (.agg h hm hk) hl (es:=es) (i:=0) hes with h1|⟨j,e,h1,h2,h3⟩
   ·exact .inl h1
   ·exact .inr ⟨j,e,by rw[h1];simp,h2,h3⟩
theorem aed{K:TypeId}{ka:Bool}{kk:List IntKind}(hk:MO P E K ka kk){k:List Int}(hl:k.length=kk.length):(Instr.keyThatStays (lQ ka kk k) (lQ ka kk k)).run P w= .ok (lQ ka kk k) w:=by
 cases hk with
 | @int i h=>
   match k,hl with
   |[x],_=>exact MapKept.run_keyThatStays (d:= .int i) rfl
 | @agg fs kk h hm hk=>
   rw[rE]
   have key: ∀{kk:List IntKind}{k:List Int},(((List.zipWith Value.int kk k).zip (List.zipWith Value.int kk k)).all fun(x,y)=>Instr.sameBits 9999 x y)=true:=by
    intro kk
    induction kk with
    |nil=>intro k;rfl
    |cons i kk ih=>
     intro k
     cases k with
     |nil=>rfl
     |cons n k=>
      simp only[List.zipWith_cons_cons,List.zip_cons_cons,List.all_cons,Bool.and_eq_true]
      exact⟨by simp[Instr.sameBits],ih⟩
   have hs:Instr.sameBits 10000 (.agg ⟨List.zipWith Value.int kk k⟩) (.agg ⟨List.zipWith Value.int kk k⟩)=true:=by
    show Instr.sameBits (9999+1) _ _=true
    simp only[Instr.sameBits,beq_self_eq_true,Bool.true_and]
    exact key
   simp[Instr.keyThatStays,hs]
theorem nY.empty{fn:Nat}{ka:Bool}{kk:List IntKind}{va:Bool}{sz:Nat}:nY I ρ fn w #[] 0 ka kk va sz (fun _=>false) (fun _ _=>default):=
 ⟨MapKept.stamped_empty 0,by simp,by simp,by simp⟩
theorem nY.push{K:TypeId}{fn:Nat}{es:Array MapEntry}{clock:Nat}{ka:Bool}{kk:List IntKind}{va:Bool}{sz:Nat}{has:List Int->Bool}{get:List Int->Nat->FC}(hk:MO P E K ka kk)(h:nY I ρ fn w es clock ka kk va sz has get){ks:List Int}(hl:ks.length=kk.length)
 (hn: ∀e∈es.toList,e.key≠lQ ka kk ks) {v:Value} {us:List Value} {o_:List FC} (hv:v=agQ va us) (hus:us.length=sz) (hr: ∀j,j<sz-> ∃u,us[j]? =some u∧kU I ρ fn w (o_.getD j default) u) (h1: ∀u∈us,u.oneCell'=true):
 nY I ρ fn w (es.push {key:=lQ ka kk ks,val:=v,born:=clock}) (clock+1) ka kk va sz (fun q=>q==ks||has q) (fun q j=>if q=ks then o_.getD j default else get q j):=by
 refine⟨MapKept.stamped_push h.stamped hn,?_,?_,?_⟩
 ·intro e he
  simp only[Array.toList_push,List.mem_append,List.mem_singleton]at he
  rcases he with he|rfl
  ·exact h.keys e he
  ·exact⟨ks,hl,rfl⟩
 ·intro e he q hq hs
  simp only[Array.toList_push,List.mem_append,List.mem_singleton]at he
  rcases he with he|rfl
  ·have hne:q≠ks:=by rintro rfl;exact hn e he hs
   obtain⟨g0,g⟩:=h.ent e he q hq hs
   refine⟨by simp[g0],?_⟩
   simp only[if_neg hne]
   exact g
  ·have:=Fb hk hl hq hs
   subst this
   refine⟨by simp,us,hv,hus,?_,h1⟩
   simp only[if_true]
   exact hr
 ·intro q hq hh
  by_cases e:q=ks
  ·subst e
   exact⟨⟨lQ ka kk q,v,clock⟩,by simp,rfl⟩
  ·have:has q=true:=by simpa[e]using hh
   obtain⟨e',he,hk'⟩:=h.all q hq this
   exact⟨e',by simp[he],hk'⟩
theorem nY.modify{K:TypeId}{fn:Nat}{es:Array MapEntry}{clock:Nat}{ka:Bool}{kk:List IntKind}{va:Bool}{sz:Nat}{has:List Int->Bool}{get:List Int->Nat->FC}(hk:MO P E K ka kk)(h:nY I ρ fn w es clock ka kk va sz has get){ks:List Int}(hl:ks.length=kk.length)
 {j:Nat} {e0:MapEntry} (hj:es[j]? =some e0) (hk0:e0.key=lQ ka kk ks) {v:Value} {us:List Value} {o_:List FC} (hv:v=agQ va us) (hus:us.length=sz) (hr: ∀j,j<sz-> ∃u,us[j]? =some u∧kU I ρ fn w (o_.getD j default) u) (h1: ∀u∈us,u.oneCell'=true):
 nY I ρ fn w (es.modify j fun e=>{e with key:=lQ ka kk ks,val:=v}) clock ka kk va sz (fun q=>q==ks||has q) (fun q j=>if q=ks then o_.getD j default else get q j):=by
 have hget: ∀k,(es.modify j fun e=>{e with key:=lQ ka kk ks,val:=v})[k]? =if j=k then some {e0 with key:=lQ ka kk ks,val:=v}else es[k]? :=by
  intro k
  rw[Array.getElem?_modify]
  split
  ·rename_i e;subst e;rw[hj];rfl
  ·rfl
 have mem: ∀{x:MapEntry},x∈(es.modify j fun e=>{e with key:=lQ ka kk ks,val:=v}).toList->x={e0 with key:=lQ ka kk ks,val:=v}∨∃k,k≠j∧es[k]? =some x:=by
  intro x hx
  obtain⟨k,hk'⟩:=List.getElem?_of_mem hx
  rw[Array.getElem?_toList,hget]at hk'
  split at hk'
  ·exact .inl (Option.some.inj hk').symm
  ·rename_i e;exact .inr ⟨k,Ne.symm e,hk'⟩
 have uniq: ∀k x,k≠j->es[k]? =some x->x.key≠lQ ka kk ks:=by
  intro k x hne hx hks
  have hnd:=h.stamped.2.2
  have h1:(es.toList.map (·.key))[k]? =some (lQ ka kk ks):=by simp[hx,hks]
  have h2:(es.toList.map (·.key))[j]? =some (lQ ka kk ks):=by simp[hj,hk0]
  exact hne ((List.getElem?_inj (by have:=(List.getElem?_eq_some_iff.1 h1).1;exact this) hnd).1 (h1.trans h2.symm))
 have adX: ∀{k:Nat}{x:MapEntry},es[k]? =some x->x∈es.toList:=fun hx=>List.mem_of_getElem? (by rw[Array.getElem?_toList];exact hx)
 refine⟨MapKept.stamped_modify h.stamped j _ (fun _ _=>rfl) (fun e he hje=>by rw[hj]at hje;cases hje;exact hk0.symm),?_,?_,?_⟩
 ·intro e he
  rcases mem he with rfl|⟨k,_,hk'⟩
  ·exact⟨ks,hl,rfl⟩
  ·exact h.keys e (adX hk')
 ·intro e he q hq hs
  rcases mem he with rfl|⟨k,hne,hk'⟩
  ·have:=Fb hk hl hq hs
   subst this
   refine⟨by simp,us,hv,hus,?_,h1⟩
   simp only[if_true]
   exact hr
  ·have hne':q≠ks:=by rintro rfl;exact uniq k e hne hk' hs
   obtain⟨g0,g⟩:=h.ent e (adX hk') q hq hs
   refine⟨by simp[g0],?_⟩
   simp only[if_neg hne']
   exact g
 ·intro q hq hh
  by_cases e:q=ks
  ·subst e
   exact⟨_,List.mem_of_getElem? (i:=j) (by rw[Array.getElem?_toList,hget,if_pos rfl]),rfl⟩
  ·have:has q=true:=by simpa[e]using hh
   obtain⟨e',he,hk'⟩:=h.all q hq this
   obtain⟨k,hk''⟩:=List.getElem?_of_mem he
   rw[Array.getElem?_toList]at hk''
   have hne:j≠k:=by
    rintro rfl
    rw[hj]at hk'';cases hk''
    rw[hk0]at hk'
    exact e (Fb hk hq hl hk'.symm)
   exact⟨e',List.mem_of_getElem? (i:=k) (by rw[Array.getElem?_toList,hget,if_neg hne];exact hk''),hk'⟩
theorem To.GN{u:bf}: ∀{kk:List IntKind}{cs:List SV}{k:List Int->M bf},To P G F (KW kk cs k) u-> ∃ns,ns.length=kk.length∧cs=List.zipWith (fun i n=>SV.d (.int i n)) kk ns∧To P G F (k ns) u
 |[],[],k,h=>⟨[],rfl,rfl,h⟩
 |i::kk,c::cs,k,h=>by
  unfold KW at h
  split at h
  ·rename_i heq _;cases heq
  ·rename_i heq1 heq2
   cases heq1
   cases heq2
   split at h
   ·rename_i e
    have e:=KU e
    subst e
    obtain⟨ns,h1,h2,h3⟩:=To.GN h
    exact⟨_::ns,by simp[h1],by simp[h2],h3⟩
   ·exact h.au.elim
  ·exact h.au.elim
 |[],_::_,k,h=>by simp only[KW]at h;exact h.au.elim
 |_::_,[],k,h=>by simp only[KW]at h;exact h.au.elim
theorem Oc: ∀{kk:List IntKind}{ns:List Int}{us:List Value},aT I ρ w (List.zipWith (fun i n=>SV.d (.int i n)) kk ns) us->us=List.zipWith Value.int kk ns
 |[],_,us,h=>by simpa[aT]using h
 |_::_,[],us,h=>by simpa[aT]using h
 |i::kk,n::ns,us,h=>by
  simp only[List.zipWith_cons_cons,aT,aC,bM]at h
  obtain⟨u,r,rfl,rfl,h⟩:=h
  rw[Oc h];rfl
theorem To.UA{ka:Bool}{kk:List IntKind}{x:SV}{v:Value}{k:List Int->M bf}{u:bf}(h:To P G F (Xt ka kk x k) u)(hv:aC I ρ w x v): ∃ks,ks.length=kk.length∧v=lQ ka kk ks∧To P G F (k ks) u:=by
 unfold Xt at h
 split at h
 ·obtain⟨ns,h1,h2,h3⟩:=To.GN h
  subst h2
  simp only[aC]at hv
  obtain⟨us,rfl,hr,_⟩:=hv
  exact⟨ns,h1,by rw[rE,Oc hr],h3⟩
 ·obtain⟨ns,h1,h2,h3⟩:=To.GN h
  match kk,ns,h1,h2 with
  |[j],[m],h1,h2=>
   simp only[List.zipWith_cons_cons,List.zipWith_nil_right,List.cons.injEq,SV.d.injEq,D.int.injEq,and_true]at h2
   obtain⟨rfl,rfl⟩:=h2
   exact⟨[_],rfl,iy hv,h3⟩
  |[],[],_,h2=>simp at h2
  |_::_::_,[],h1,_=>simp at h1
  |_::_::_,[_],h1,_=>simp at h1
  |_::_::_,_::_::_,_,h2=>simp at h2
 ·exact h.au.elim
theorem TQ(hc:Conc G nt C I ρ F a w){o:Oper}(ho:o.op= .makeMap T none)(hd:dJ nt o.dst){u:bf}
 (t:To P G F (zl o.dst fun d=>Fj qM fun _ _=>QF P E T fun ka kk _ va sz=> .ret {dst:=o.dst,v:= .mp d,own:=[(d,.dW qM ka kk va sz (fun _=>false) fun _ _=>default)],del:=[],new:=[d],pub:=[]}) u)
 {F1:Fs} (hp:fH F u.pub F1) (hf:jB F u):fJ P G nt C I ρ a w o (eG F1 u):=by
 obtain⟨d,hdst,t⟩:=jv t
 obtain⟨nk,rows,ig,t⟩:=To.sS t
 obtain⟨K,V,dv,ka,kk,hT,hV,hk,t⟩:=To.KP t
 have:=t.dV;subst this
 cases hp
 rw[sQ]
 have hcn:=hc.mW (hf.new d (by simp)) (blk:= .dW qM ka kk (qg dv) (P.cellsOf V) (fun _=>false) fun _ _=>default) (o:= .map #[] 0) (cap:=0) (rl:=0) (sz:=0) ⟨#[],0,dS w _,nY.empty⟩
  (by intro m hm;simp only[inB]at hm;subst hm;exact hc.fO _ _ ig)
 intro next Q hn
 refine dY (v:= .map (some w.heap.size)) (w':=w.alloc (.map #[] 0)) ?_ (hn _ _ _ _ (hcn.put (by rw[hdst]at hd⊢;exact hd) ?_ ?_))
 ·cases hk with
  |int h=>simp[execOp,ho,Instr.makeMap,Result.andThen,World.alloc_eq]
  |agg h _ _=>simp[execOp,ho,Instr.makeMap,Result.andThen,World.alloc_eq]
 ·simp[aC,dU]
 ·intro m hm;simp only[dO]at hm;exact .inl hm.symm
theorem To.aaf{V:Nat}{va:Bool}{k:SV->M bf}{u:bf}(h:To P G F (YC P V va k) u): ∃i z sv,P.info? V=some i∧i.zero=some z∧Val G I ρ F w sv z∧To P G F (k sv) u:=by
 unfold YC at h
 split at h
 ·rename_i i hi
  split at h
  ·rename_i cs hz
   obtain⟨ds,h1,h2,h3,h4⟩:=To.Eo (I:=I) (ρ:=ρ) (w:=w) h
   exact⟨i,_,_,hi,hz,⟨by simp only[aC];exact⟨cs,rfl,h2,h4⟩,fun n hn=>by simp only[dO]at hn;exact(h3 n hn).elim⟩,h1⟩
  ·rename_i v hz
   obtain⟨sv,h1,h2,h3,_⟩:=To.zX (I:=I) (ρ:=ρ) (w:=w) h
   exact⟨i,v,sv,hi,hz,⟨h2,fun n hn=>(h3 n hn).elim⟩,h1⟩
  ·exact h.au.elim
 ·exact h.au.elim
theorem Y4{ok bb:Bool}{sv:SV}{v:Value}(h:Val G I ρ F w sv v):Val G I ρ F w (okV ok sv bb) (if ok then .tuple #[v,.bool bb]else v):=by
 cases ok
 ·simpa[okV]using h
 ·refine⟨?_,fun n hn=> ?_⟩
  ·simp only[okV,aC,if_true]
   exact⟨[v,.bool bb],rfl,by simp[aT,aC,bM,h.rep]⟩
  ·simp only[okV,dO,jW,or_false]at hn
   exact h.nm n hn
theorem WZ(hE:I8 P E)(hc:Conc G nt C I ρ F a w){o:Oper}{x y:Operand}{ok:Bool}(ho:o.op= .lookup T x y ok)(hd:dJ nt o.dst){n fn:Nat}{ka va:Bool}{kk:List IntKind}{sz:Nat}{has:List Int->Bool}{get:List Int->Nat->FC}
 (hv:Val G I ρ F w (.mp n) (a.eval x)) (hb:F.o n=some (.dW fn ka kk va sz has get)) {u:bf}
 (t:To P G F (ev y fun kv=>Xt ka kk kv fun ks=>QF P E T fun Xu Xp V va' sz'=> .need (ka=Xu∧kk=Xp∧va=va'∧sz=sz') (.split (has ks)
       (UO fn (get ks) 0 sz fun cs=>mapVal va cs fun v=>upd o.dst (okV ok v true))
       (YC P V va fun v=>upd o.dst (okV ok v false)))) u)
 {F1:Fs} (hp:fH F u.pub F1):fJ P G nt C I ρ a w o (eG F1 u):=by
 obtain⟨sk,t,hk0⟩:=To.bU hc t
 obtain⟨ks,hl,ey,t⟩:=To.UA t hk0.rep
 obtain⟨K,V,dv,Xu,Xp,hT,hV,hk,t⟩:=To.KP t
 obtain⟨⟨rfl,rfl,rfl,rfl⟩,t9⟩:=t.dh
 clear t
 have t:=t9
 clear t9
 obtain⟨es,clock,h1,h2⟩:=hc.own n _ hb
 have ex:a.eval x= .map (some (ρ n).b):=by simpa only[aC]using hv.rep
 have XO:=UC (w:=w) hk hl es.isEmpty
 rcases Zn (w:=w) hE hk hl h2.keys with⟨g2,g3⟩|⟨j,e,g2,g4,g5⟩
 ·have g1:has ks=false:=by
   cases hh:has ks with
   |false=>rfl
   |true=>obtain⟨e,he,hek⟩:=h2.all ks hl hh;exact absurd hek (g3 e he)
  cases t with
  |qY h t=>rw[g1]at h;cases h
  |split2 h t=>
   obtain⟨i,z,sv,hi,hz,hval,t2⟩:=To.aaf (I:=I) (ρ:=ρ) (w:=w) t
   have:=dA t2;subst this
   cases hp
   refine bJ hc (Y4 (ok:=ok) (bb:=false) hval) hd ?_
   simp[execOp,ho,ex,ey,Instr.lookup,run_underlying hT,MapKept.run_getObj_map h1,XO,g2,kP hi hz,Result.andThen]
 ·have hmem:e∈es.toList:=List.mem_of_getElem? g4
  obtain⟨g1,us,q1,q2,q3,q4⟩:=h2.ent e hmem ks hl g5
  cases t with
  |split2 h t=>rw[g1]at h;cases h
  |qY h t=>
   have t2:=To.G5 t
   simp only[Nat.zero_add]at t2
   let f:Nat->Value:=fun j=>(us[j]?).getD undef
   have hf: ∀j,j<P.cellsOf V->kU I ρ fn w (get ks j) (f j)∧us[j]? =some (f j):=by
    intro j hj
    obtain⟨y,hy,hr⟩:=q3 j hj
    have:f j=y:=by simp[f,hy]
    rw[this];exact⟨hr,hy⟩
   have hr:=Tt (n:=P.cellsOf V) (fun j hj=>(hf j hj).1)
   have he:(List.range (P.cellsOf V)).map f=us:=by
    apply List.ext_getElem?
    intro j
    by_cases hj:j<P.cellsOf V
    ·rw[List.getElem?_map,List.getElem?_range hj];exact(hf j hj).2.symm
    ·rw[List.getElem?_eq_none (by simp;omega),List.getElem?_eq_none Om]
   rw[he]at hr
   have hnm:F.nm fn:=hc.fA n _ fn hb (by simp only[inB])
   have hfin: ∀sv,Val G I ρ F w sv e.val->To P G F (upd o.dst (okV ok sv true)) u->fJ P G nt C I ρ a w o (eG F1 u):=by
    intro sv hval t3
    have:=dA t3;subst this
    cases hp
    refine bJ hc (Y4 (ok:=ok) (bb:=true) hval) hd ?_
    simp[execOp,ho,ex,ey,Instr.lookup,run_underlying hT,MapKept.run_getObj_map h1,XO,g2,Result.andThen]
   unfold mapVal at t2
   split at t2
   ·rename_i hva
    refine hfin _ ⟨?_,fun m hm=> ?_⟩ t2
    ·simp only[aC]
     refine⟨us,?_,hr,q4⟩
     rw[q1,hva]
     rfl
    ·simp only[dO]at hm
     rw[QO hm];exact hnm
   ·rename_i y hva hcs
    rw[hcs]at hr
    obtain⟨v0,hus,hv0⟩:=JX hr
    subst hus
    refine hfin _ ⟨?_,fun m hm=> ?_⟩ t2
    ·rw[q1,hva];exact hv0
    ·have:jW m ((List.range (P.cellsOf V)).map fun i=>ZA fn (get ks i)):=by rw[hcs];simp only[jW];exact .inl hm
     rw[QO this];exact hnm
   ·exact t2.au.elim
theorem ab6{va:Bool}{x:SV}{v:Value}{us:List Value}(h:Pv va x=true)(hv:aC I ρ w x v)(hc:v.cells=⟨us⟩)(h1:v.oneCell'=true∨∃cs,x= .agg cs):v=agQ va us:=by
 cases va with
 |true=>
  cases x<;>simp[Pv]at h
  simp only[aC]at hv
  obtain⟨us',rfl,_⟩:=hv
  simp only[Value.cells,Array.mk.injEq]at hc
  subst hc
  cases us'<;>rfl
 |false=>
  rcases h1 with h1|⟨cs,rfl⟩
  ·have:v.cells= #[v]:=by cases v<;>first|rfl|(simp[Value.oneCell']at h1)
   rw[this]at hc
   have:us=[v]:=by simpa using hc.symm
   subst this;rfl
  ·simp[Pv]at h
theorem Yi{x:SV}{v:Value}{k:List SV->M bf}{u:bf}(h:To P G F (qB x k) u)(hv:aC I ρ w x v):v.oneCell'=true∨∃cs,x= .agg cs:=by
 cases x with
 |agg cs=>exact .inr ⟨cs,rfl⟩
 |d x=>simp only[aC]at hv;exact .inl hv.one
 |ptr n o=>simp only[aC]at hv;subst hv;exact .inl rfl
 |qJ n s i o=>simp only[aC]at hv;rw[hv.2];exact .inl rfl
 |bW n s o l=>simp only[aC]at hv;obtain⟨_,_,_,b,rfl,_⟩:=hv;exact .inl rfl
 |qN s g=>simp only[aC]at hv;obtain⟨b,o,rfl,_⟩:=hv;exact .inl rfl
 |clo f cs=>simp only[aC]at hv;obtain⟨_,rfl,_⟩:=hv;exact .inl rfl
 |zG n i z l=>simp only[aC]at hv;obtain⟨_,_,_,rfl,_⟩:=hv;exact .inl rfl
 |mp n=>simp only[aC]at hv;subst hv;exact .inl rfl
 |_=>exact h.au.elim
theorem acy{s:SV}{v:Value}(h:Val G I ρ F w s v):Val G I ρ F w (Rf s) v:=by
 unfold Rf
 split
 ·rename_i f
  have hr:=h.rep
  simp only[aC,aT]at hr
  obtain⟨us,rfl,rfl⟩:=hr
  exact pJ (by simp only[bM];first|exact⟨trivial,rfl⟩|exact⟨rfl,rfl⟩|exact⟨trivial,trivial⟩)
 ·exact h
theorem CW(hE:I8 P E)(hc:Conc G nt C I ρ F a w){o:Oper}{m x y:Operand}(ho:o.op= .mapUpdate T m x y∨o.op= .insert T m x y)(hd:dJ nt o.dst){n fn:Nat}{ka va:Bool}{kk:List IntKind}{sz:Nat}{has:List Int->Bool}{get:List Int->Nat->FC}
 (hv:Val G I ρ F w (.mp n) (a.eval m)) (hb:F.o n=some (.dW fn ka kk va sz has get)) {u:bf}
 (t:To P G F (ev x fun kv=>Xt ka kk kv fun ks=>ev y fun v=>qB (Rf v) fun new=>Fj fn fun nk rows=>D6 fn new nk rows fun o_ nk rows ns=>match Nat.beq o_.length sz,Pv va (Rf v)with
   |true,true=>QF P E T fun Xu Xp _ va' sz'=> .need (ka=Xu∧kk=Xp∧va=va'∧sz=sz') (.ret {dst:=o.dst,v:= .junk,own:=[(fn,.fam nk rows),(n,.dW fn ka kk va sz (fun q=>q==ks||has q) fun q j=>if q=ks then o_.getD j default else get q j)],del:=fn::ns,new:=[],pub:=[]})
   |_,_=> .fail "map value") u)
 {F1:Fs} (hp:fH F u.pub F1) (hf:jB F u):fJ P G nt C I ρ a w o (eG F1 u):=by
 obtain⟨sk,t,hk0⟩:=To.bU hc t
 obtain⟨ks,hl,ex,t⟩:=To.UA t hk0.rep
 obtain⟨sy0,t,hy0⟩:=To.bU hc t
 have hy:=acy hy0
 generalize Rf sy0=sy at hy t
 have hone:=Yi t hy.rep
 obtain⟨new,us,t,h1,h2,h3⟩:=To.nC t hy.rep
 obtain⟨nk,rows,ig,t⟩:=To.sS t
 obtain⟨o_,yw,rows',ns,t,hab⟩:=To.yg t
 split at t
 ·rename_i e1 e2
  have e1:=Nat.eq_of_beq_eq_true e1
  obtain⟨K,V,dv,Xu,Xp,hT,hV,hk,t⟩:=To.KP t
  obtain⟨⟨rfl,rfl,rfl,rfl⟩,t9⟩:=t.dh
  have:=t9.dV;subst this
  cases hp
  rw[U1]
  obtain⟨ρ1,hc1,hx1,hx2,hrep⟩:=hab.LJ hc ig (fun _ _=>rfl) (hf.del fn (by simp)) (fun m hm=>hf.del m (by simp[hm])) h1.1
  have hlen:=hrep.length
  have hne:n≠fn:=by rintro rfl;rw[hb]at ig;cases ig
  have hns:n ∉ ns:=by
   intro hm
   obtain⟨_,_,_,_,e⟩:=hab.rows n hm
   rw[hb]at e;cases e
  have hb1:(fE (iU F ns) fn (.fam yw rows')).o n=some (.dW fn ka kk (qg dv) (P.cellsOf V) has get):=by
   simp only[fE,if_neg hne];rw[ZH hns];exact hb
  have em:a.eval m= .map (some (ρ1 n).b):=by
   rw[hx2 n hne];simpa only[aC]using hv.rep
  obtain⟨es,clock,h4,h5⟩:=hc1.own n _ hb1
  have hmv:=ab6 e2 hy.rep h2 hone
  have hval: ∀j,j<P.cellsOf V-> ∃u,us[j]? =some u∧kU I ρ1 fn w (o_.getD j default) u:=fun j hj=>hrep.get j Om
  have XO:=UC (w:=w) hk hl false
  have fin: ∀(es':Array MapEntry)(clock':Nat),nY I ρ1 fn w es' clock' ka kk (qg dv) (P.cellsOf V) (fun q=>q==ks||has q) (fun q j=>if q=ks then o_.getD j default else get q j)->
   (execOp a.eval o).run P w= .ok .skip (putObj w (ρ1 n).b (.map es' clock'))->fJ P G nt C I ρ a w o (oH (fE (fE (iU F ns) fn (.fam yw rows')) n (.dW fn ka kk (qg dv) (P.cellsOf V) (fun q=>q==ks||has q) fun q j=>if q=ks then o_.getD j default else get q j)) o.dst .junk):=by
   intro es' clock' hm hr next Q hn
   have hS:=hc1.sep n _ hb1 trivial
   have hlt':=hc1.QJ hb1 trivial
   refine xq hr (hn I ρ1 _ _ (Conc.put (v:=undef) ?_ hd (by simp[aC]) (by simp[dO])))
   have hsame:Same I w (putObj w (ρ1 n).b (.map es' clock')):=by
    intro b o hI
    have hne:(ρ1 n).b≠b:=by rintro rfl;exact hS.1 hI
    exact World.cell?_of_block (by simp[putObj,Array.getElem?_setIfInBounds_ne hne])
   refine hc1.store (blk:= .dW fn ka kk (qg dv) (P.cellsOf V) (fun q=>q==ks||has q) fun q j=>if q=ks then o_.getD j default else get q j) hb1 (fun _ h=>h) (fun h=>h) hsame ?_ ?_ ?_ ?_ ?_
   ·intro m b k hm hne hl
    have hne':(ρ1 n).b≠k:=fun e=>hne (hc1.iE m n b _ k hm hb1 hl e.symm)
    simp[putObj,Array.getElem?_setIfInBounds_ne hne']
   ·refine hc1.keep.trans (T:=fun k=>k=(ρ1 n).b) ⟨rfl,rfl,rfl,by simp[putObj],fun k _ hk=> ?_,Nat.le_refl _⟩ ?_
    ·have hne:(ρ1 n).b≠k:=fun e=>hk e.symm
     simp[putObj,Array.getElem?_setIfInBounds_ne hne]
    ·rintro i rfl;exact hS.2.symm
   ·intro b hI;have:=hc1.nT b hI;simpa[putObj]using this
   ·exact⟨es',clock',by simp[putObj,hlt'],hm.mono (fun _ h=>h) hsame rfl⟩
   ·intro q hq
    simp only[inB]at hq
    subst hq
    simp only[fE];rw[FH];exact hc.fO _ _ ig
  rcases Zn (w:=w) hE hk hl h5.keys with⟨g2,g3⟩|⟨j,e,g2,g4,g5⟩
  ·refine fin _ _ (h5.push hk hl g3 hmv Om hval h1.2) ?_
   rcases ho with ho|ho<;>simp[execOp,ho,em,ex,Instr.mapUpdate,run_underlying hT,MapKept.run_getObj_map h4,XO,g2,MapKept.run_setObj_map _ h4,Result.andThen,putObj]
  ·have g4':es[j]? =some e:=by simpa using g4
   refine fin _ _ (h5.modify hk hl g4' g5 hmv Om hval h1.2) ?_
   rcases ho with ho|ho<;>simp[execOp,ho,em,ex,Instr.mapUpdate,run_underlying hT,MapKept.run_getObj_map h4,XO,g2,g4',g5,aed hk hl,MapKept.run_setObj_map _ h4,Result.andThen,putObj]
 ·exact t.au.elim
end Go.Sx
namespace Go.Sx
open Go
variable {P:Program}{G:Nat->Option (Nat×(Nat->D))}{nt:Nat}{C:Ctx}{I:Nat->Prop}{ρ:Nat->Loc}{F:Fs}{a:Act}{w:World}{E:List Nat}{T:Nat}
def ZY(F:Fs)(ρ:Nat->Loc)(w:World)(x y:SV)(ns:List Nat):Prop:=
 (∀m,dO m y->dO m x)∧
 ∀(I':Nat->Prop)(v:Value),(∀n∈ns,∀b k,F.o n=some b->foot (ρ n) b k->I' k)->(∀n b,F.o n=some b->dX I' ρ w (ρ n) b)->aC I' ρ w x v->aC I' ρ w y v
theorem To.OC{x:SV}{k:SV->List Nat->M bf}{u:bf}(h:To P G F (OD x k) u): ∃y ns,To P G F (k y ns) u∧ZY F ρ w x y ns:=by
 have triv: ∀{x:SV},To P G F (k x []) u-> ∃y ns,To P G F (k y ns) u∧ZY F ρ w x y ns:=fun h=>⟨_,[],h,fun _ h=>h,fun _ _ _ _ h=>h⟩
 cases x with
 |bW n s off len=>
  simp only[OD]at h
  obtain⟨b,hb,h'⟩:=h.eP
  clear h
  split at h'
  ·refine⟨_,_,h',fun m hm=>by simp[dO]at hm,fun I' v hI hB hv=> ?_⟩
   simp only[aC]
   exact BF (fun hc=>hI n (by simp) _ _ hb ⟨hc,rfl⟩) (hB n _ hb) hv
  ·rename_i fn Et sz L get
   obtain⟨nk,rows,ig,h2⟩:=To.sS h'
   obtain⟨hok,h3⟩:=h2.dh
   refine⟨_,_,h3,fun m hm=>by simp[dO]at hm,fun I' v hI hB hv=> ?_⟩
   simp only[aC]at hv⊢
   obtain⟨h5,h6,h7,ad,rfl,h8⟩:=hv
   obtain⟨q1,q2,q3,q4⟩:=hB n _ hb
   simp only[bM]
   refine⟨ad,_,rfl,Om,fun hpos=> ?_⟩
   have h8:=h8.resolve_right Om
   subst h8
   have hcap:0<(ρ n).cap:=Om
   obtain⟨arr,g1,g2,g3⟩:=q4 hcap
   refine⟨_,_,rfl,hI n (by simp) _ _ hb ⟨hcap,rfl⟩,fun i j hi hj=> ?_⟩
   obtain⟨y,hy,hr⟩:=g3 (off+i) j Om hj
   refine⟨y,?_,?_⟩
   ·rw[g1.cell,<-h5,q2]
    rw[<-hy];congr 1
    rw[Nat.add_mul];omega
   ·have hk:=hok i j hi hj
    cases akB:get (off+i) j with
    |d x=>rw[akB]at hr;exact hr
    |fs kk s0 l=>
     rw[akB]at hr hk
     exact QX (hB fn _ ig) (fun j hj=>hI fn (by simp) _ _ ig hj) hk hr
  ·exact h'.au.elim
 |zG fn i sz l=>
  simp only[OD]at h
  obtain⟨nk,rows,ig,h2⟩:=To.sS h
  obtain⟨hok,h3⟩:=h2.dh
  refine⟨_,_,h3,fun m hm=>by simp[dO]at hm,fun I' v hI hB hv=> ?_⟩
  simp only[aC]
  exact QX (hB fn _ ig) (fun j hj=>hI fn (by simp) _ _ ig hj) hok hv
 |_=>exact triv h
theorem yu.nil:yu F ρ w [] [] []:=⟨fun _ h=>h,fun _ _ _ _ h=>h⟩
theorem yu.cons{x y:SV}{cs ds:List SV}{ns ms:List Nat}(h:ZY F ρ w x y ns)(t:yu F ρ w cs ds ms):yu F ρ w (x::cs) (y::ds) (ns++ms):=by
 refine⟨fun m hm=> ?_,fun I' us hI hB hr=> ?_⟩
 ·simp only[jW]at hm⊢
  exact Kt hm (h.1 m) (t.1 m)
 ·simp only[aT]at hr⊢
  obtain⟨v,r,rfl,hv,hr⟩:=hr
  exact⟨v,r,rfl,h.2 I' v (fun n hn=>hI n (by simp[hn])) hB hv,t.2 I' r (fun n hn=>hI n (by simp[hn])) hB hr⟩
theorem To.KR{u:bf}: ∀{cs:List SV}{k:List SV->List Nat->M bf},To P G F (QK cs k) u-> ∃ds ns,To P G F (k ds ns) u∧yu F ρ w cs ds ns
 |[],k,h=>⟨[],[],h,.nil⟩
 |c::cs,k,h=>by
  simp only[QK]at h
  obtain⟨y,ns,h,h1⟩:=To.OC (ρ:=ρ) (w:=w) h
  obtain⟨ds,ms,h,h2⟩:=To.KR h
  exact⟨_,_,h,.cons h1 h2⟩
theorem yu.agg{cs ds:List SV}{ns:List Nat}(h:yu F ρ w cs ds ns):ZY F ρ w (.agg cs) (.agg ds) ns:=by
 refine⟨fun m hm=>by simp only[dO]at hm⊢;exact h.1 m hm,fun I' v hI hB hr=> ?_⟩
 simp only[aC]at hr⊢
 obtain⟨us,rfl,h1,h2⟩:=hr
 exact⟨us,rfl,h.2 I' us hI hB h1,h2⟩
theorem To.yX{u:bf}: ∀{cs:List SV}{k:List SV->List Nat->M bf},To P G F (DF cs k) u-> ∃ds ns,To P G F (k ds ns) u∧yu F ρ w cs ds ns
 |[],k,h=>⟨[],[],h,.nil⟩
 |c::cs,k,h=>by
  have one:To P G F (OD c fun y ns=>DF cs fun r ms=>k (y::r) (ns++ms)) u-> ∃ds ns,To P G F (k ds ns) u∧yu F ρ w (c::cs) ds ns:=by
   intro h
   obtain⟨y,ns,h,h1⟩:=To.OC (ρ:=ρ) (w:=w) h
   obtain⟨ds,ms,h,h2⟩:=To.yX h
   exact⟨_,_,h,.cons h1 h2⟩
  cases c with
  |agg xs=>
   simp only[DF]at h
   obtain⟨ys,ns,h,h1⟩:=To.KR (ρ:=ρ) (w:=w) h
   obtain⟨ds,ms,h,h2⟩:=To.yX h
   exact⟨_,_,h,.cons h1.agg h2⟩
  |_=>exact one h
theorem O6: ∀{l m:List Nat},vg l m=true-> ∀n∈l,n ∉ m
 |[],_,_=>by simp
 |n::l,m,h=>by
  simp only[vg]at h
  split at h
  ·cases h
  ·rename_i hm
   intro k hk
   rcases List.mem_cons.1 hk with rfl|hk
   ·intro h';rw[Zb.2 h']at hm;cases hm
   ·exact O6 h k hk
theorem TT(hc:Conc G nt C I ρ F a w){o:Oper}{f:FuncId}{vs:List Value}{cs:List SV}(hd:dJ nt o.dst)
 (hrun:(∀(vs:Array Value)(w:World),(callFunc f vs).run P w= .ok (.enter f vs) w)->(execOp a.eval o).run P w= .ok (.enter f ⟨vs⟩) w)
 (hvs:MI I ρ F w cs vs) {u:bf} (t:To P G F (Pn P E o.dst f cs) u) {F1:Fs} (hp:fH F u.pub F1) (hf:jB F u):fJ P G nt C I ρ a w o (eG F1 u):=by
 unfold Pn at t
 split at t
 ·obtain⟨ds,ns,t1,hL⟩:=To.yX (ρ:=ρ) (w:=w) t
  clear t
  split at t1
  ·exact ES hc hd hrun hvs t1 hp hf
  ·obtain⟨names,t2⟩:=To.vC t1
   split at t2
   ·rename_i hdis
    exact TU hc hd hrun hvs (by simp) (O6 hdis) hL t2 hp hf
   ·exact t2.au.elim
 ·obtain⟨ds,ns,t1,hL⟩:=To.yX (ρ:=ρ) (w:=w) t
  clear t
  split at t1
  ·exact ES hc hd hrun hvs t1 hp hf
  ·obtain⟨names,t2⟩:=To.vC t1
   exact TS hc hd hrun hvs hL t2 hp hf
 ·exact ES hc hd hrun hvs t hp hf
theorem Conc.drewN(hc:Conc G nt C I ρ F a w): ∀q,Conc G nt C I ρ F a (w.drewN q)
 |0=>hc
 |q+1=>(Conc.drewN hc q).drew
theorem Xz{n i:Nat}{get:Nat->Nat->D}{x:D}{cs:List Value}{v:Value}(hl:cs.length=n)(hi:i<=n)(hc: ∀j,j<n-> ∃u,cs[j]? =some u∧bM I w (get j 0) u)(hx:bM I w x v):
 ∀j,j<n+1-> ∃u,(cs.take i++v::cs.drop i)[j]? =some u∧bM I w (wS get i x j 0) u:=by
 intro j hj
 have hlt:(cs.take i).length=i:=by rw[List.length_take];omega
 by_cases h1:j<i
 ·obtain⟨u,hu,hr⟩:=hc j Om
  refine⟨u,?_,by simpa[wS,h1]using hr⟩
  rw[List.getElem?_append_left Om,List.getElem?_take,if_pos h1]
  exact hu
 ·by_cases h2:j=i
  ·subst h2
   refine⟨v,?_,by simpa[wS]using hx⟩
   rw[List.getElem?_append_right Om,hlt,Nat.sub_self];rfl
  ·obtain⟨u,hu,hr⟩:=hc (j-1) Om
   refine⟨u,?_,by simpa[wS,h1,h2]using hr⟩
   rw[List.getElem?_append_right Om,hlt,show j-i=(j-1-i)+1 by omega,List.getElem?_cons_succ,List.getElem?_drop,<-hu]
   congr 1;omega
theorem agE(hc:Conc G nt C I ρ F a w){o:Oper}{f:FuncId}{vs:List Value}{cs:List SV}(hd:dJ nt o.dst)
 (hrun:(∀(vs:Array Value)(w:World),(callFunc f vs).run P w= .ok (.enter f vs) w)->(execOp a.eval o).run P w= .ok (.enter f ⟨vs⟩) w)
 (hvs:MI I ρ F w cs vs) {u:bf} (t:To P G F (aiU P o.dst f cs) u) {F1:Fs} (hp:fH F u.pub F1) (hf:jB F u):fJ P G nt C I ρ a w o (eG F1 u):=by
 unfold aiU at t
 split at t
 rotate_left
 ·exact t.au.elim
 rename_i n s len i m t0 l
 split at t
 rotate_left
 ·exact t.au.elim
 rename_i e1 e2 e3 e4
 have e1:=Nat.eq_of_beq_eq_true e1
 have e2:=Nat.eq_of_beq_eq_true e2
 have e3:=Nat.eq_of_beq_eq_true e3
 have hnm:n≠m:=fun e=>by rw[e,Nat.beq_refl]at e4;cases e4
 subst e1 e2 e3
 obtain⟨d,hdst,t⟩:=jv t
 obtain⟨b,hb,t1⟩:=t.eP
 clear t
 split at t1
 rotate_left
 ·exact t1.au.elim
 rename_i E' s' len' get
 obtain⟨b2,hb2,t2⟩:=t1.eP
 clear t1
 split at t2
 rotate_left
 ·exact t2.au.elim
 rename_i x
 split at t2
 rotate_left
 ·exact t2.au.elim
 rename_i e5
 have e5:=Nat.eq_of_beq_eq_true e5
 subst e5
 obtain⟨⟨hI,hi0,hi1,hlen,hbig⟩,t3⟩:=t2.dh
 have:=t3.dV;subst this
 cases hp
 subst hlen
 have hn0: ¬F.n0 n:=hf.del n (by simp)
 have hdn: ¬F.nm d:=hf.new d (by simp)
 have hr:=hvs.rep
 simp only[aT,aC,bM]at hr
 obtain⟨v1,_,rfl,⟨hs1,hr1,hc1,ad,rfl,hao⟩,v2,_,rfl,rfl,v3,_,rfl,⟨hs3,hr3,hc3,ad3,rfl,ag5⟩,rfl⟩:=hr
 obtain⟨h1,h2,h3,h4⟩:=hc.own n _ hb
 obtain⟨g1,g2,us,Ev,g3,g4,g5⟩:=hc.own m _ hb2
 simp only[aT,aC]at g4
 obtain⟨vx,_,rfl,hvx,rfl⟩:=g4
 have ag5:=ag5.resolve_right Om
 simp only[g1,Nat.zero_mul,Nat.add_zero]at ag5
 subst ag5
 simp only[Nat.sub_zero,Nat.zero_mul,Nat.add_zero]at hao
 obtain⟨j,rfl⟩: ∃j:Nat,i=(j:Int):=⟨i.toNat,Om⟩
 simp only[Int.toNat_natCast]
 have hjl:j<=len:=Om
 have hfr:0<(ρ n).cap->C.w0.heap.size<=(ρ n).b∨C.S0 (ρ n).b:=fun hcap=>(hc.sep n _ hb hcap).2
 have hc0:=hc.del n
 have hd0: ¬(jK F n).nm d:=hdn
 have hx1:vx.oneCell'=true:=g5 vx (by simp)
 obtain⟨es,hel,he1,hec,hea⟩: ∃es:List Value,es.length=len∧(∀v∈es,v.oneCell'=true)∧(∀k,k<len-> ∃u,es[k]? =some u∧bM I w (get k 0) u)∧(0<(ρ n).cap-> ∃arr,kY w (ρ n).b arr E'∧arr.size=(ρ n).o+(ρ n).cap∧∀(k:Nat)(v:Value),es[k]? =some v->arr[(ρ n).o+k]? =some v):=by
  by_cases hcap:0<(ρ n).cap
  ·obtain⟨arr,h5,h6,h7⟩:=h4 hcap
   rw[Nat.mul_one]at h6
   have hsz:(ρ n).o+len<=arr.toList.length:=by rw[Array.length_toList,h6];omega
   have hget: ∀k,k<len->((arr.toList.drop (ρ n).o).take len)[k]? =arr[(ρ n).o+k]? :=by
    intro k hk
    rw[List.getElem?_take,if_pos hk,List.getElem?_drop,Array.getElem?_toList]
   refine⟨(arr.toList.drop (ρ n).o).take len,by rw[List.length_take,List.length_drop];omega,?_,?_,fun _=>⟨arr,h5,h6,?_⟩⟩
   ·intro v hv
    obtain⟨k,hk⟩:=List.getElem?_of_mem hv
    have hkl:k<len:=by
     have:=(List.getElem?_eq_some_iff.1 hk).1
     rw[List.length_take]at this;omega
    rw[hget k hkl]at hk
    obtain⟨u,hu,hr⟩:=h7 k 0 hkl Om
    rw[show(ρ n).o+(k*1+0)=(ρ n).o+k by omega]at hu
    rw[hk]at hu;cases hu
    exact hr.one
   ·intro k hk
    obtain⟨u,hu,hr⟩:=h7 k 0 hk Om
    rw[show(ρ n).o+(k*1+0)=(ρ n).o+k by omega]at hu
    exact⟨u,by rw[hget k hk];exact hu,hr⟩
   ·intro k v hk
    have hkl:k<len:=by
     have:=(List.getElem?_eq_some_iff.1 hk).1
     rw[List.length_take]at this;omega
    rw[<-hget k hkl];exact hk
  ·exact⟨[],by simp;omega,by simp,fun k hk=>Om,fun h=>absurd h hcap⟩
 have hres:=Xz hel hjl hec hvx
 have Lc:=hI.run w ad (ρ n).b (ρ n).o len (ρ n).cap j (ρ m).b (ρ m).cap Ev es vx hjl Om hel hbig he1 hx1 (fun hcap=>by
  obtain⟨arr,⟨fr,h5,h5'⟩,h6,h7⟩:=hea hcap
  refine⟨hao.resolve_right Om,?_,arr,fr,h5,h5',h6,h7⟩
  intro e
  exact hnm (hc.iE n m _ _ (ρ n).b hb hb2 ⟨hcap,rfl⟩ e.symm)) g3
 intro next Q hn
 refine Jm (hrun hI.enter) (Lc.mono ?_)
 rintro e w' (⟨hroom,rfl,q,arr',rfl,hsz',hcont⟩|⟨q,cap,arr',hge,rfl,rfl,hsz',hcont⟩)
 ·have hcap:0<(ρ n).cap:=Om
  obtain rfl:=hao.resolve_right Om
  obtain⟨arr,h5,h6,h7⟩:=hea hcap
  have hnI:=(hc.sep n _ hb hcap).1
  have hcq:=hc0.drewN q
  have h5q:kY (w.drewN q) (ρ n).b arr E':=h5
  have hS:Same I (w.drewN q) ((w.drewN q).setRow (ρ n).b arr'):=jZ hnI
  refine⟨_,rfl,hn I (dU ρ d (Oz (ρ n).b (ρ n).cap (len+1) 1 (ρ n).o)) _ _ ?_⟩
  have h2:Conc G nt C I (dU ρ d (Oz (ρ n).b (ρ n).cap (len+1) 1 (ρ n).o)) (kS (jK F n) d (.row E' 1 (len+1) (wS get j x))) a ((w.drewN q).setRow (ρ n).b arr'):=by
   refine hcq.new hd0 hS ?_ ?_ ?_ ?_ (by simp[inB]) ?_
   ·intro k b j hk hlk
    simp only[jK]at hk
    split at hk
    ·cases hk
    ·rename_i hne;exact uq _ _ _ _ (fun e=>hne (hc.iE k n _ _ j hk hb hlk ⟨hcap,e⟩))
   ·refine hcq.keep.trans (wG (fun k=>k=(ρ n).b) _ _ _ rfl) ?_
    rintro i rfl;exact(hfr hcap).symm
   ·intro b hb';have:=hc.nT b hb';simpa[World.setRow,World.drewN]using this
   ·refine⟨rfl,rfl,hroom,fun _=>⟨arr',h5q.set (by rw[hsz',h6]),by rw[hsz',Nat.mul_one],?_⟩⟩
    intro i' j' hi' hj'
    have hj':j'=0:=Om
    subst hj'
    obtain⟨u,hu,hr⟩:=hres i' hi'
    refine⟨u,?_,bM.mono (w:=w) (fun _ h=>h) (show Same I w _ from fun b o hb=>hS b o hb) hr⟩
    show arr'[(ρ n).o+(i'*1+0)]? =some u
    rw[show(ρ n).o+(i'*1+0)=(ρ n).o+i' by omega]
    exact hcont i' u hu
   ·rintro j ⟨_,rfl⟩
    refine⟨hnI,hfr hcap,?_⟩
    intro k b hk hlk
    simp only[jK]at hk
    split at hk
    ·cases hk
    ·rename_i hne;exact hne (hc.iE k n _ _ _ hk hb hlk ⟨hcap,rfl⟩)
  refine h2.put (dst:=o.dst) (by rw[hdst]at hd⊢;exact hd) ?_ (by intro m hm;simp only[dO]at hm;exact .inl hm.symm)
  simp only[aC,dU,if_true,Nat.sub_zero,Nat.zero_mul,Nat.add_zero]
  exact⟨trivial,Om,hroom,_,rfl,.inl rfl⟩
 ·have hcq:=hc0.drewN q
  have hre: ∀i' j',i'<len+1->j'<1-> ∃u,arr'[i'*1+j']? =some u∧bM I w (wS get j x i' j') u:=by
   intro i' j' hi' hj'
   have hj':j'=0:=Om
   subst hj'
   obtain⟨u,hu,hr⟩:=hres i' hi'
   exact⟨u,by rw[Nat.mul_one,Nat.add_zero];exact hcont i' u hu,hr⟩
  have h2:Conc G nt C I (dU ρ d (Oz w.heap.size cap (len+1) 1 0)) (kS (jK F n) d (.row E' 1 (len+1) (wS get j x))) a ((w.drewN q).alloc (.cells arr' E')):=by
   refine hcq.mW (o:= .cells arr' E') hd0 (cap:=cap) (rl:=len+1) (sz:=1) ?_ (by simp[inB])
   refine⟨rfl,rfl,hge,fun _=>⟨arr',.of (dS (w.drewN q) _),by rw[hsz',Nat.mul_one];exact(Nat.zero_add _).symm,fun i' j' hi' hj'=> ?_⟩⟩
   obtain⟨u,hu,h⟩:=hre i' j' hi' hj'
   exact⟨u,by simpa using hu,h.mono (fun _ h=>h) (show Same I w _ from hcq.iw _)⟩
  refine⟨_,rfl,hn I _ _ _ (h2.put (dst:=o.dst) (by rw[hdst]at hd⊢;exact hd) (rU hge) (by intro m hm;simp only[dO]at hm;exact .inl hm.symm))⟩
theorem ady(hc:Conc G nt C I ρ F a w){o:Oper}{f:FuncId}{vs:List Value}{cs:List SV}(hd:dJ nt o.dst)
 (hrun:(∀(vs:Array Value)(w:World),(callFunc f vs).run P w= .ok (.enter f vs) w)->(execOp a.eval o).run P w= .ok (.enter f ⟨vs⟩) w)
 (hvs:MI I ρ F w cs vs) {u:bf} (t:To P G F (aeo P E o.dst f cs) u) {F1:Fs} (hp:fH F u.pub F1) (hf:jB F u):fJ P G nt C I ρ a w o (eG F1 u):=by
 unfold aeo at t
 split at t
 ·exact agE hc hd hrun hvs t hp hf
 ·exact TT hc hd hrun hvs t hp hf
theorem IQ{Et:Nat}(hT:P.underlying T=some (.slice Et))(d n c:Nat)(b:Option Addr):(Op.equalIn (d+1) T (.slice b n c) (.slice none 0 0)).run P w= .ok b.isNone w:=by
 cases b<;>simp[Op.equalIn,run_underlying hT]
theorem WH{Et:Nat}(hT:P.underlying T=some (.slice Et))(n c:Nat)(b:Option Addr):(binOp .eql T (.slice b n c) (.slice none 0 0)).run P w= .ok (.bool b.isNone) w:=by
 have h:=IQ (w:=w) hT 9999 n c b
 show(Op.equal T (.slice b n c) (.slice none 0 0)>>=fun r=>pure (Value.bool r):Sem Value).run P w=_
 simp only[Sem.run_bind,Op.equal,Op.maxDepth,h,Result.andThen_ok,Sem.run_pure]
theorem adB(hc:Conc G nt C I ρ F a w){o:Oper}{x y:Operand}{t:Nat}(ho:o.op= .binOp .eql T x y t)(hd:dJ nt o.dst){sx sy:SV}{r:Bool}(hx:Val G I ρ F w sx (a.eval x))(hy:Val G I ρ F w sy (a.eval y))
 (hT:aeh P T=true) (he:eqNil sx sy=some r):fJ P G nt C I ρ a w o (oH F o.dst (.d (.bool r))):=by
 unfold aeh at hT
 split at hT
 ·rename_i Et hT2
  have key: ∀(b:Option Addr)(n c:Nat),a.eval x= .slice b n c->a.eval y= .slice none 0 0->(execOp a.eval o).run P w= .ok (.value (.bool b.isNone)) w:=by
   intro b n c h1 h2
   have h3:=WH (w:=w) hT2 n c b
   have h4:(eqGuard .eql T x y (.slice b n c) (.slice none 0 0)).run P w= .ok () w:=by simp[eqGuard]
   simp only[execOp,ho,h1,h2,Sem.run_bind,h3,h4,Result.andThen_ok,Sem.run_pure]
  unfold eqNil at he
  split at he
  ·have hx':=hx.rep
   have hy':=hy.rep
   simp only[aC,bM]at hx' hy'
   simp only[Option.some.injEq]at he
   subst he
   exact bJ hc (pJ (qO (.bool true) trivial)) hd (key none _ _ hx'.1 hy'.1)
  ·have hx':=hx.rep
   have hy':=hy.rep
   simp only[aC,bM]at hx' hy'
   simp only[Option.some.injEq]at he
   subst he
   obtain⟨ad,cap,hx',_⟩:=hx'
   exact bJ hc (pJ (qO (.bool false) trivial)) hd (key (some ad) _ _ hx' hy'.1)
  ·cases he
 ·cases hT
theorem JO{p r:Array TypeId}{vd:Bool}(hT:P.underlying T=some (.func p r vd))(d:Nat)(fn:Fn)(f c:Array Value):(Op.equalIn (d+1) T (.func fn f c) .nilFunc).run P w= .ok false w:=by
 simp[Op.equalIn,run_underlying hT]
theorem IU{p r:Array TypeId}{vd:Bool}(hT:P.underlying T=some (.func p r vd))(d:Nat):(Op.equalIn (d+1) T .nilFunc .nilFunc).run P w= .ok true w:=by
 simp[Op.equalIn,run_underlying hT]
theorem aay{p r:Array TypeId}{vd:Bool}(hT:P.underlying T=some (.func p r vd))(fn:Fn)(f c:Array Value):(binOp .eql T (.func fn f c) .nilFunc).run P w= .ok (.bool false) w:=by
 have h:=JO (w:=w) hT 9999 fn f c
 show(Op.equal T (.func fn f c) .nilFunc>>=fun r=>pure (Value.bool r):Sem Value).run P w=_
 simp only[Sem.run_bind,Op.equal,Op.maxDepth,h,Result.andThen_ok,Sem.run_pure]
theorem WI{p r:Array TypeId}{vd:Bool}(hT:P.underlying T=some (.func p r vd)):(binOp .eql T .nilFunc .nilFunc).run P w= .ok (.bool true) w:=by
 have h:=IU (w:=w) hT 9999
 show(Op.equal T .nilFunc .nilFunc>>=fun r=>pure (Value.bool r):Sem Value).run P w=_
 simp only[Sem.run_bind,Op.equal,Op.maxDepth,h,Result.andThen_ok,Sem.run_pure]
theorem aa0(hc:Conc G nt C I ρ F a w){o:Oper}{x y:Operand}{t:Nat}(ho:o.op= .binOp .eql T x y t)(hd:dJ nt o.dst){sx sy:SV}{r:Bool}(hx:Val G I ρ F w sx (a.eval x))(hy:Val G I ρ F w sy (a.eval y))
 (hT:aei P T=true) (he:XY sx sy=some r):fJ P G nt C I ρ a w o (oH F o.dst (.d (.bool r))):=by
 unfold aei at hT
 split at hT
 ·rename_i hT2
  unfold XY at he
  split at he
  ·rename_i fn f c
   have hx':=hx.rep
   have hy':=hy.rep
   simp only[aC,bM]at hx' hy'
   simp only[Option.some.injEq]at he
   subst he
   refine bJ hc (pJ (qO (.bool false) trivial)) hd ?_
   have h3:=aay (w:=w) hT2 fn f c
   have h4:(eqGuard .eql T x y (.func fn f c) .nilFunc).run P w= .ok () w:=by simp[eqGuard]
   have h5:(execOp a.eval o).run P w= .ok (.value (.bool false)) w:=by simp only[execOp,ho,hx'.1,hy'.1,Sem.run_bind,h3,h4,Result.andThen_ok,Sem.run_pure]
   exact h5
  ·have hx':=hx.rep
   have hy':=hy.rep
   simp only[aC,bM]at hx' hy'
   simp only[Option.some.injEq]at he
   subst he
   refine bJ hc (pJ (qO (.bool true) trivial)) hd ?_
   have h3:=WI (w:=w) hT2
   have h4:(eqGuard .eql T x y .nilFunc .nilFunc).run P w= .ok () w:=by simp[eqGuard]
   have h5:(execOp a.eval o).run P w= .ok (.value (.bool true)) w:=by simp only[execOp,ho,hx'.1,hy'.1,Sem.run_bind,h3,h4,Result.andThen_ok,Sem.run_pure]
   exact h5
  ·cases he
 ·cases hT
theorem Ou(hE:I8 P E)(hc:Conc G nt C I ρ F a w){o:Oper}(hd:dJ nt o.dst){u:bf}(t:To P G F (T_ P G E o.dst o.op) u){F1:Fs}(hp:fH F u.pub F1)(hf:jB F u):
 fJ P G nt C I ρ a w o (eG F1 u):=by
 have fall:To P G F (n_ P G E o.dst o.op) u->fJ P G nt C I ρ a w o (eG F1 u):=fun t=>Ov hE hc hd t hp hf
 unfold T_ at t
 split at t
 ·exact fall t
 generalize hop:o.op=op at t fall
 split at t
 ·
  split at t
  ·rename_i T len parts _ e
   have e:=Nat.eq_of_beq_eq_true e
   subst e
   exact agC hc hop hd t hp hf
  ·split at t
   ·exact CX hc hop hd (E:=_::E) (by rw[hop];exact t) hp hf
   ·exact fall t
 ·
  obtain⟨sv,t1,hv⟩:=To.bU hc t
  clear t
  split at t1
  ·obtain⟨b,hb,t2⟩:=t1.eP
   clear t1
   split at t2
   ·exact adx hc hop hd hv hb t2 hp
   ·exact fall t2
  ·exact fall t1
 ·
  obtain⟨sv,t1,hv⟩:=To.bU hc t
  clear t
  split at t1
  ·exact WX hc hop hd hv t1 hp
  ·obtain⟨b,hb,t2⟩:=t1.eP
   clear t1
   split at t2
   ·exact aaX hc hop hd hv hb t2 hp hf
   ·exact fall t2
  ·exact fall t1
 ·
  obtain⟨sv,t1,hv⟩:=To.bU hc t
  clear t
  split at t1
  ·have:=dA t1;subst this
   cases hp
   exact Qn hc hop hd hv
  ·exact fall t1
 ·
  obtain⟨sv,t1,hv⟩:=To.bU hc t
  clear t
  split at t1
  ·exact Ny hc hop hd hv t1 hp
  ·exact fall t1
 ·
  obtain⟨sv,t1,hv⟩:=To.bU hc t
  clear t
  split at t1
  ·obtain⟨sy,t2,hy⟩:=To.bU hc t1
   clear t1
   split at t2
   ·split at t2
    ·rename_i hT
     split at t2
     ·rename_i hsz
      obtain⟨hi,t3⟩:=t2.dh
      have:=dA t3;subst this
      cases hp
      exact Nw hc hop hd hv (iy hy.rep) hT hsz hi
     ·exact t2.au.elim
    ·exact t2.au.elim
   ·exact t2.au.elim
  ·exact fall t1
 ·
  obtain⟨sx,t1,hx⟩:=To.bU hc t
  clear t
  obtain⟨sy,t2,hy⟩:=To.bU hc t1
  clear t1
  split at t2
  ·rename_i hT he
   have:=dA t2;subst this
   cases hp
   exact adB hc hop hd hx hy hT he
  ·split at t2
   ·rename_i hT he
    have:=dA t2;subst this
    cases hp
    exact aa0 hc hop hd hx hy hT he
   ·exact fall t2
 ·
  split at t
  ·exact TQ hc hop hd t hp hf
  ·exact fall t
 ·
  obtain⟨sv,t1,hv⟩:=To.bU hc t
  clear t
  split at t1
  ·obtain⟨b,hb,t2⟩:=t1.eP
   clear t1
   split at t2
   ·exact CW hE hc (.inl hop) hd hv hb t2 hp hf
   ·exact fall t2
  ·exact fall t1
 ·
  obtain⟨sv,t1,hv⟩:=To.bU hc t
  clear t
  split at t1
  ·obtain⟨b,hb,t2⟩:=t1.eP
   clear t1
   split at t2
   ·exact CW hE hc (.inr hop) hd hv hb t2 hp hf
   ·exact fall t2
  ·exact fall t1
 ·
  obtain⟨sv,t1,hv⟩:=To.bU hc t
  clear t
  split at t1
  ·obtain⟨b,hb,t2⟩:=t1.eP
   clear t1
   split at t2
   ·exact WZ hE hc hop hd hv hb t2 hp
   ·exact fall t2
  ·exact fall t1
 ·
  have akU: ∀{args:List Operand}{x:Operand}{ats:Array Nat}{f:FuncId}{caps cs:List SV},o.op= .call ⟨.value x,⟨args⟩,ats⟩->MI I ρ F w cs (args.map a.eval)->Val G I ρ F w (.clo f caps) (a.eval x)->
   To P G F (Pn P E o.dst f (cs++caps)) u->fJ P G nt C I ρ a w o (eG F1 u):=by
   intro args x ats f caps cs ho hvs hx t
   have hx':=hx.rep
   simp only[aC]at hx'
   obtain⟨us,hx',hr⟩:=hx'
   refine TT (vs:=args.map a.eval++us) hc hd (fun he=>JU ho hx' he) ⟨hvs.rep.append hr,fun n hn=> ?_⟩ t hp hf
   rw[jd]at hn
   obtain⟨c,hc',hn⟩:=hn
   simp only[List.mem_append]at hc'
   rcases hc' with hc'|hc'
   ·exact hvs.nm n (jd.2 ⟨c,hc',hn⟩)
   ·exact hx.nm n (by simp only[dO];exact jd.2 ⟨c,hc',hn⟩)
  split at t
  ·obtain⟨sv,t1,hv⟩:=To.bU hc t
   clear t
   split at t1
   ·split at t1
    ·rename_i hT
     have:=dA t1;subst this
     cases hp
     exact agD hc hop hd hv hT
    ·exact t1.au.elim
   ·exact fall t1
  ·rw[<-hop]at t
   exact Xb hE hc hop hd t hp hf
  ·obtain⟨cs,t1,hvs⟩:=To.zh hc t
   exact ady hc hd (fun he=>by
    have h:=JU (P:=P) (a:=a) (w:=w) (caps:=[]) hop rfl he
    rw[List.append_nil]at h
    exact h) hvs t1 hp hf
  ·obtain⟨cs,t1,hvs⟩:=To.zh hc t
   obtain⟨sv,t2,hx⟩:=To.bU hc t1
   split at t2
   ·exact akU hop hvs hx t2
   ·refine akU hop hvs ?_ t2
    have hr:=hx.rep
    simp only[aC,bM]at hr
    exact⟨by simp only[aC,aT];exact⟨[],hr.1,rfl⟩,fun n hn=>by simp[dO,jW]at hn⟩
   ·exact t2.au.elim
  ·exact fall t
 ·exact fall t
end Go.Sx
