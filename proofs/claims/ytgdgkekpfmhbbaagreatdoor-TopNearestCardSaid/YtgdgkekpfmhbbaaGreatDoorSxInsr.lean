/- Part of a symbolic executor over the model, proved sound, with plain laws: SxInsr. Written for this claim. -/
import Derived.Test.YtgdgkekpfmhbbaaGreatDoorSxCall
import Derived.Shelf.Spec.SlicesInsertGrow
import Derived.Test.YtgdgkekpfmhbbaaGreatDoorSxWord
import Derived.Test.YtgdgkekpfmhbbaaGreatDoorSxWlk3
set_option linter.unusedVariables false
set_option linter.unusedSimpArgs false
set_option linter.unusedVariables false
set_option linter.unusedSimpArgs false
namespace Go.Proofs
open Go.Shelf Go.RowKit Go.Lib
variable {P:Program}{ρ:Ren}
theorem nD(g:Nat): ∀(vs:List Value)(o:Nat)(cur:Array Value)(t:TypeId)(fr:Nat×Nat)(w:World),w.heap[g]? =some (.cells cur t fr)->o+vs.length<=cur.size->
 ∃arr:Array Value,w.setCells g o vs=w.setRow g arr∧arr.size=cur.size∧∀j:Nat,arr[j]? =if o<=j∧j<o+vs.length then vs[j-o]? else cur[j]?
 |[],o,cur,t,fr,w,hg,_=>⟨cur,(setRow_self w g cur t fr hg).symm,rfl,fun j=>by rw[if_neg (by simp)]⟩
 |v::r,o,cur,t,fr,w,hg,hl=>by
  have hlo:o<cur.size:=by simp at hl;omega
  obtain⟨arr,h1,h2,h3⟩:=nD g r (o+1) (cur.setIfInBounds o v) t fr (w.setRow g (cur.setIfInBounds o v)) (setRow_heap w g cur _ t fr hg) (by simp at hl⊢;omega)
  refine⟨arr,?_,by rw[h2];simp,fun j=> ?_⟩
  ·show(w.setCell ⟨g,o,none⟩ v).setCells g (o+1) r=_
   rw[setCell_eq_setRow w g o cur t fr v hg,h1,setRow_setRow]
  ·rw[h3]
   by_cases e:j=o
   ·subst e
    rw[if_neg (by omega),if_pos (by simp),Array.getElem?_setIfInBounds_self_of_lt hlo,Nat.sub_self];rfl
   ·by_cases h:o+1<=j∧j<o+1+r.length
    ·rw[if_pos h,if_pos (by simp;omega),show j-o=(j-(o+1))+1 by omega,List.getElem?_cons_succ]
    ·rw[if_neg h,if_neg (by simp;omega),Array.getElem?_setIfInBounds_ne (Ne.symm e)]
set_option maxHeartbeats 4000000 in
set_option maxRecDepth 100000 in
theorem Any2.wO(L:Lays2.n21 P ρ)(b off n c i vb voff m vc:Nat)(cs vs:List Value)(w:World)(hi:i<n)(hm:0<m)(hroom:n+m<=c)(hc63:n+m<=9223372036854775807)(hvb:vb≠b)
 (hcl:cs.length=n) (hvl:vs.length=m)
 (hcs: ∀j v,cs[j]? =some v->w.cell? ⟨b,off+j,none⟩=some v) (hsp: ∀j,j<n+m->(w.cell? ⟨b,off+j,none⟩).isSome=true) (hfz: ∀j,j<n+m->w.frozen? ⟨b,off+j,none⟩=false)
 (hvs: ∀j v,vs[j]? =some v->w.cell? ⟨vb,voff+j,none⟩=some v) (h1c: ∀v∈cs,v.oneCell'=true) (h1v: ∀v∈vs,v.oneCell'=true)
 (tA tB:TypeId) (kA kB:Nat) (hsa:w.shape? vb=some (tA,kA)) (hsb:w.shape? b=some (tB,kB)) (hkB:kB≠0) (hfa:w.frozen? ⟨vb,voff,none⟩=false) (hfe:w.frozen? ⟨vb,kA,none⟩=false):
 Calls P (ρ.f 21) #[.slice (some ⟨b,off,none⟩) n c,.int .i64 i,.slice (some ⟨vb,voff,none⟩) m vc] w fun e w'=>
  e= .returned (.slice (some ⟨b,off,none⟩) (n+m) c)∧w'=(w.drew.setCells b (off+(i+m)) (cs.drop i)).setCells b (off+i) vs:=by
 have t0:=L.t0;have a0:=L.a0;have z0:=L.z0;have v0:=L.v0;have t3:=L.t3;have a3:=L.a3;have z3:=L.z3;have v3:=L.v3;have t4:=L.t4;have a4:=L.a4;have z4:=L.z4;have v4:=L.v4;have t22:=L.t22;have a22:=L.a22;have z22:=L.z22;have v22:=L.v22
 have u0:=run_underlying L.t0;have u3:=run_underlying L.t3;have u4:=run_underlying L.t4;have u22:=run_underlying L.t22
 have hz1: ¬((m:Int)=0):=by omega
 have hz2: ¬((i:Int)=(n:Int)):=by omega
 have hsz:(P.info? (ρ.t 3)).map (·.size)=some 1:=by
  obtain⟨i0,hi0,h0,h1,h2⟩:=info_parts L.i3
  rw[hi0];simp[h1]
 have hov: ∀lb cb,(callFunc (ρ.f 27) #[.slice (some ⟨vb,voff,none⟩) m vc,.slice (some ⟨b,off+(i+m),none⟩) lb cb]).run P w= .ok (.value (.bool false)) w:=fun lb cb=>by
  rw[run_callFunc_extern L.f27 (by kernel_rfl) (by kernel_rfl) (by kernel_rfl) (e:=Extern.SlicesOverlaps.overlaps #[(ρ.t 22),(ρ.t 22)] #[(ρ.t 4)]) (by kernel_rfl),
   Lib.run_overlaps_apart w (ρ.t 22) (ρ.t 4) (ρ.t 3) L.t22 1 L.z3 ⟨vb,voff,none⟩ ⟨b,off+(i+m),none⟩ m vc lb cb hvb tA tB kA kB hsa hsb hkB hfa hfe]
  rfl
 have hdl:(cs.drop i).length=n-i:=by rw[List.length_drop,hcl]
 have mixed:=L.mixed
 have hw1:IntKind.i64.wrap ((i:Int)+(m:Int))=(i:Int)+(m:Int):=by rw[IntKind.wrap_i64];omega
 have hw2:IntKind.i64.wrap ((n:Int)+(m:Int))=(n:Int)+(m:Int):=by rw[IntKind.wrap_i64];omega
 have hb1:(0:Int)<=(i:Int)+(m:Int):=by omega
 have hin:i<=n:=by omega
 have htn:((i:Int)+(m:Int)).toNat=i+m:=by omega
 have hb2: ¬(c=i+m):=by omega
 have hb3:(i:Int)<=(n:Int)+(m:Int):=by omega
 have hb4: ¬(c=i):=by omega
 have hcp1: ∀ty dc sc,(Builtin.copy_ #[(ρ.t 22),(ρ.t 22)] ty #[.slice (some ⟨b,off+(i+m),none⟩) (n+m-(i+m)) dc,.slice (some ⟨b,off+i,none⟩) (n+m-i) sc]).run P w.drew= .ok (goInt (cs.drop i).length) (w.drew.setCells b (off+(i+m)) (cs.drop i)):=fun ty dc sc=>
  run_copy_cells w.drew _ _ ty (ρ.t 3) b (off+(i+m)) (n+m-(i+m)) dc ⟨b,off+i,none⟩ (n+m-i) sc (cs.drop i) L.t22 hsz (by rw[hdl];simp only[Nat.min_def];split<;>omega)
   (fun j v hj=>by rw[Addr.add_lit,Nat.add_assoc];exact hcs (i+j) v (by rwa [List.getElem?_drop]at hj))
   (fun j hj=>by rw[Nat.add_assoc];exact hsp _ (by omega)) (fun j hj=>by rw[Nat.add_assoc];exact hfz _ (by omega)) (fun v hv=>h1c v (List.mem_of_mem_drop hv))
 obtain⟨W1,hW1⟩: ∃W1,W1=w.drew.setCells b (off+(i+m)) (cs.drop i):=⟨_,rfl⟩
 have hsp1: ∀k,k<n+m->(W1.cell? ⟨b,off+k,none⟩).isSome=true:=fun k hk=>by
  rw[hW1]
  exact isSome_setCells b _ _ _ (fun j hj=>by rw[Nat.add_assoc];exact hsp _ (by omega)) _ (hsp k hk)
 have hcp2: ∀(W:World),(∀x,W.cell? x=W1.cell? x)->(∀x,W.frozen? x=W1.frozen? x)-> ∀ty dc,(Builtin.copy_ #[(ρ.t 22),(ρ.t 22)] ty #[.slice (some ⟨b,off+i,none⟩) (n+m-i) dc,.slice (some ⟨vb,voff,none⟩) m vc]).run P W= .ok (goInt vs.length) (W.setCells b (off+i) vs):=fun W hWc hWf ty dc=>
  run_copy_cells W _ _ ty (ρ.t 3) b (off+i) (n+m-i) dc ⟨vb,voff,none⟩ m vc vs L.t22 hsz (by rw[hvl];simp only[Nat.min_def];split<;>omega)
   (fun j v hj=>by
     rw[Addr.add_lit,hWc,hW1,World.cell?_setCells_out b _ _ _ _ (fun h _=>absurd h hvb)]
     exact hvs j v hj)
   (fun j hj=>by rw[hWc,Nat.add_assoc];exact hsp1 _ (by omega)) (fun j hj=>by rw[hWf,hW1,World.frozen?_setCells,Nat.add_assoc];exact hfz _ (by omega)) h1v
 rw[<-hW1]at hcp1
 go_enter L.f21,Body2.n21_ntmps ρ
 go_wp2_with (simp only[hov])
 go_region_law_o (refine step_copy_runI rfl _ _ (ρ.t 22) (ρ.t 22) rfl _ _ (by simp[Act.eval,Act.put]) (by simp[Act.eval,Act.put]) (hcp1 _ _ _) ?_)
 go_wp2_with (at_builtin;refine wpList_copy_runI _ rfl _ _ (ρ.t 22) (ρ.t 22) rfl _ _ rfl rfl (hcp2 _ (fun _=>rfl) (fun _=>rfl) _ _) ?_)
 go_ret
 first|exact⟨rfl,rfl⟩|exact⟨rfl,by rw[hW1]⟩
set_option maxHeartbeats 4000000 in
set_option maxRecDepth 100000 in
theorem Any2.tZ(L:Lays2.n21 P ρ)(b off n c vb voff m vc:Nat)(vs:List Value)(w:World)(hm:0<m)(hroom:n+m<=c)
 (hvl:vs.length=m) (hsp: ∀j,j<m->(w.cell? ⟨b,off+n+j,none⟩).isSome=true) (hfz: ∀j,j<m->w.frozen? ⟨b,off+n+j,none⟩=false)
 (hvs: ∀j v,vs[j]? =some v->w.cell? ⟨vb,voff+j,none⟩=some v) (h1v: ∀v∈vs,v.oneCell'=true):
 Calls P (ρ.f 21) #[.slice (some ⟨b,off,none⟩) n c,.int .i64 n,.slice (some ⟨vb,voff,none⟩) m vc] w fun e w'=>
  e= .returned (.slice (some ⟨b,off,none⟩) (n+m) c)∧w'=w.setCells b (off+n) vs:=by
 have t0:=L.t0;have a0:=L.a0;have z0:=L.z0;have v0:=L.v0;have t3:=L.t3;have a3:=L.a3;have z3:=L.z3;have v3:=L.v3;have t4:=L.t4;have a4:=L.a4;have z4:=L.z4;have v4:=L.v4;have t22:=L.t22;have a22:=L.a22;have z22:=L.z22;have v22:=L.v22
 have u0:=run_underlying L.t0;have u3:=run_underlying L.t3;have u4:=run_underlying L.t4;have u22:=run_underlying L.t22
 have mixed:=L.mixed
 have hz1: ¬((m:Int)=0):=by omega
 have hsrc:Src P 1 (ρ.t 22) (.slice (some ⟨vb,voff,none⟩) m vc) m vs w:=Src.ofSlice w L.t22 ⟨vb,voff,none⟩ m vc vs (by omega) (fun j u hj=>by rw[Addr.add_lit];exact hvs j u hj) h1v
 go_enter L.f21,Body2.n21_ntmps ρ
 go_wp2_with (at_builtin;refine wpList_append_room1 _ rfl _ _ (ρ.t 22) (ρ.t 22) rfl (ρ.t 3) _ _ L.t22 L.i3 b off n c rfl _ rfl m vs hsrc hroom (by rw[hvl];exact hsp) (by rw[hvl];exact hfz) ?_)
 go_ret
 exact⟨rfl,rfl⟩
theorem YS{arr:Array Value}{cs:List Value}{o n i:Nat}{x:Value}{arr1 FV:Array Value}(hi:i<=n)(hl:cs.length=n)(hc: ∀(j:Nat)(v:Value),cs[j]? =some v->arr[o+j]? =some v)
 (h1: ∀j:Nat,arr1[j]? =if o+(i+1)<=j∧j<o+(i+1)+(cs.drop i).length then(cs.drop i)[j-(o+(i+1))]? else arr[j]?)
 (h2: ∀j:Nat,FV[j]? =if o+i<=j∧j<o+i+[x].length then [x][j-(o+i)]? else arr1[j]?): ∀(j:Nat)(v:Value),(cs.take i++x::cs.drop i)[j]? =some v->FV[o+j]? =some v:=by
 intro j v hj
 have ht:(cs.take i).length=i:=by rw[List.length_take];omega
 have hd:(cs.drop i).length=n-i:=by rw[List.length_drop,hl]
 rw[h2]
 by_cases e:j<i
 ·rw[List.getElem?_append_left (by omega),List.getElem?_take,if_pos e]at hj
  rw[if_neg (by omega),h1,if_neg (by omega)]
  exact hc j v hj
 ·by_cases e2:j=i
  ·subst e2
   rw[List.getElem?_append_right (by omega),ht,Nat.sub_self]at hj
   rw[if_pos (by simp),Nat.sub_self];exact hj
  ·rw[List.getElem?_append_right (by omega),ht,show j-i=(j-i-1)+1 by omega,List.getElem?_cons_succ]at hj
   have hlt:=(List.getElem?_eq_some_iff.1 hj).1
   rw[if_neg (by simp;omega),h1,if_pos (by omega),<-hj]
   congr 1;omega
theorem aep(L:Lays2.n21 P ρ):Go.Sx.afC P (ρ.f 21) (ρ.t 3)where
 enter:=enters_of L.f21 (by kernel_rfl) rfl
 run:=by
  intro w ad b o n c i vb vc Ev cs x hin hnc hcl hbig h1c h1x hrow hvb
  have hsa:w.shape? vb=some (Ev,1):=by simp[World.shape?,hvb]
  have hfa: ∀k,w.frozen? ⟨vb,k,none⟩=false:=fun k=>by simp[World.frozen?,hvb]
  have hvs: ∀j v,[x][j]? =some v->w.cell? ⟨vb,0+j,none⟩=some v:=by
   intro j v hj
   simp only[World.cell?,hvb,Option.isSome_none,Bool.false_eq_true,if_false,Nat.zero_add]
   simpa using hj
  by_cases hc0:0<c
  ·obtain⟨rfl,hne,arr,fr,hb,hfr,hsz,hcont⟩:=hrow hc0
   have hR:Go.Sx.kY w b arr (ρ.t 3):=⟨fr,hb,hfr⟩
   have hsb:w.shape? b=some (ρ.t 3,arr.size):=by simp[World.shape?,hb]
   have hcs: ∀j v,cs[j]? =some v->w.cell? ⟨b,o+j,none⟩=some v:=fun j v hj=>by rw[hR.cell];exact hcont j v hj
   have hsp: ∀j,j<c->(w.cell? ⟨b,o+j,none⟩).isSome=true:=fun j hj=>by
    rw[hR.cell,Array.getElem?_eq_getElem (by omega)];rfl
   have hfz: ∀j,j<c->w.frozen? ⟨b,o+j,none⟩=false:=fun j hj=>hR.frozen (by omega)
   by_cases hroom:n+1<=c
   ·by_cases hlt:i<n
    ·refine(Any2.wO L b o n c i vb 0 1 vc cs [x] w hlt (by omega) hroom (by omega) hne hcl rfl hcs (fun j hj=>hsp j (by omega)) (fun j hj=>hfz j (by omega)) hvs h1c (by simpa using h1x) Ev (ρ.t 3) 1 arr.size hsa hsb (by omega) (hfa 0) (hfa 1)).mono ?_
     rintro e w' ⟨rfl,rfl⟩
     have hdl:(cs.drop i).length=n-i:=by rw[List.length_drop,hcl]
     obtain⟨arr1,e1,s1,g1⟩:=nD b (cs.drop i) (o+(i+1)) arr (ρ.t 3) fr w.drew hb (by rw[hdl];omega)
     have hb1:=setRow_heap w.drew b arr arr1 (ρ.t 3) fr hb
     obtain⟨FV,e2,s2,g2⟩:=nD b [x] (o+i) arr1 (ρ.t 3) fr (w.drew.setRow b arr1) hb1 (by rw[s1];simp;omega)
     refine .inl ⟨hroom,rfl,1,FV,?_,by rw[s2,s1,hsz],YS hin hcl hcont g1 g2⟩
     rw[e1,e2,setRow_setRow];rfl
    ·obtain rfl:i=n:=by omega
     refine(Any2.tZ L b o i c vb 0 1 vc [x] w (by omega) hroom rfl (fun j hj=>by rw[Nat.add_assoc];exact hsp _ (by omega)) (fun j hj=>by rw[Nat.add_assoc];exact hfz _ (by omega)) hvs (by simpa using h1x)).mono ?_
     rintro e w' ⟨rfl,rfl⟩
     obtain⟨FV,e2,s2,g2⟩:=nD b [x] (o+i) arr (ρ.t 3) fr w hb (by simp;omega)
     refine .inl ⟨hroom,rfl,0,FV,e2,by rw[s2,hsz],YS hin hcl hcont (fun j=>by rw[if_neg];rw[List.drop_eq_nil_of_le (by omega)];simp) g2⟩
   ·have hge:=grownCap_ge w (n+1) c (ρ.t 3)
    by_cases hlt:i<n
    ·refine(Any2.slices_Insert_int_grow L b o n c i vb 0 1 vc cs [x] w hlt (by omega) hnc (by omega) hbig hcl rfl hcs hvs h1c (by simpa using h1x)).mono ?_
     rintro e w' ⟨rfl,rfl⟩
     have hdl:(cs.drop i).length=n-i:=by rw[List.length_drop,hcl]
     have hzl: ∀k,(Builtin.zeroCells (Value.int .i64 0).cells k).size=k:=fun k=>by rw[size_zeroCells];simp[Value.cells]
     generalize hA:((cs.take i).toArray++Builtin.zeroCells (Value.int .i64 0).cells (n+1-i)++Builtin.zeroCells (Value.int .i64 0).cells (grownCap w (n+1) c (ρ.t 3)-(n+1)))=A
     have hAs:A.size=grownCap w (n+1) c (ρ.t 3):=by
      rw[<-hA];simp only[Array.size_append,hzl,List.size_toArray,List.length_take];omega
     have hAt: ∀j,j<i->A[j]? =cs[j]? :=fun j hj=>by
      rw[<-hA,Array.append_assoc,Array.getElem?_append_left (by simp only[List.size_toArray,List.length_take];omega)]
      simp only[List.getElem?_toArray,List.getElem?_take,if_pos hj]
     have hh:(w.alloc (.cells A (ρ.t 3))).drew.heap[w.heap.size]? =some (.cells A (ρ.t 3) (0,0)):=by
      show(w.heap.push _)[_]? =_;simp
     obtain⟨arr1,e1,s1,g1⟩:=nD w.heap.size [x] i A (ρ.t 3) (0,0) _ hh (by simp;omega)
     have hb1:=setRow_heap _ w.heap.size A arr1 (ρ.t 3) (0,0) hh
     obtain⟨FV,e2,s2,g2⟩:=nD w.heap.size (cs.drop i) (i+1) arr1 (ρ.t 3) (0,0) ((w.alloc (.cells A (ρ.t 3))).drew.setRow w.heap.size arr1).drew hb1 (by rw[s1,hAs,hdl];omega)
     refine .inr ⟨2,_,FV,hge,rfl,?_,by rw[s2,s1,hAs],?_⟩
     ·rw[e1,e2]
      have: ∀(B C:Array Value),(w.alloc (.cells A (ρ.t 3))).setRow w.heap.size C=w.alloc (.cells C (ρ.t 3)):=fun _ C=>by
       unfold World.setRow World.alloc
       congr 1
       apply Array.ext
       ·simp
       ·intro k h1 h2
        rw[Array.getElem_modify]
        by_cases ek:w.heap.size=k
        ·subst ek;simp
        ·simp only[if_neg ek]
         rw[Array.getElem_push,Array.getElem_push]
         have:k<w.heap.size:=by simp at h2;omega
         simp[this]
      have h5:((w.alloc (.cells A (ρ.t 3))).drew.setRow w.heap.size arr1).drew.setRow w.heap.size FV=((w.alloc (.cells A (ρ.t 3))).setRow w.heap.size FV).drewN 2:=by
       have:=setRow_setRow (w.alloc (.cells A (ρ.t 3))) w.heap.size arr1 FV
       have h6:((w.alloc (.cells A (ρ.t 3))).drew.setRow w.heap.size arr1).drew.setRow w.heap.size FV=(((w.alloc (.cells A (ρ.t 3))).setRow w.heap.size arr1).setRow w.heap.size FV).drewN 2:=rfl
       rw[h6,this]
      rw[h5,this A FV]
      rfl
     ·intro j v hj
      have ht:(cs.take i).length=i:=by rw[List.length_take];omega
      rw[g2]
      by_cases ej:j<i
      ·rw[List.getElem?_append_left (by omega),List.getElem?_take,if_pos ej]at hj
       rw[if_neg (by omega),g1,if_neg (by omega),hAt j ej];exact hj
      ·by_cases e2:j=i
       ·subst e2
        rw[List.getElem?_append_right (by omega),ht,Nat.sub_self]at hj
        rw[if_neg (by omega),g1,if_pos (by simp),Nat.sub_self];exact hj
       ·rw[List.getElem?_append_right (by omega),ht,show j-i=(j-(i+1))+1 by omega,List.getElem?_cons_succ]at hj
        have hlt:=(List.getElem?_eq_some_iff.1 hj).1
        rw[if_pos (by omega)];exact hj
    ·obtain rfl:i=n:=by omega
     refine(Any2.slices_Insert_int_end_grow L (some ⟨b,o,none⟩) i c vb 0 1 vc cs [x] w (by omega) hnc (by omega) hbig hcl rfl (by simp) (fun a ha j v hj=>by cases ha;rw[Addr.add_lit];exact hcs j v hj) hvs (by simpa using h1x)).mono ?_
     rintro e w' ⟨rfl,rfl⟩
     have hzl: ∀k,(Builtin.zeroCells (Value.int .i64 0).cells k).size=k:=fun k=>by rw[size_zeroCells];simp[Value.cells]
     refine .inr ⟨1,_,_,hge,rfl,rfl,by simp only[Array.size_append,hzl,List.size_toArray,List.length_append,List.length_singleton];omega,?_⟩
     intro j v hj
     rw[List.take_of_length_le (by omega),List.drop_eq_nil_of_le (by omega)]at hj
     have hlt:=(List.getElem?_eq_some_iff.1 hj).1
     rw[Array.getElem?_append_left (by simpa using hlt)]
     simpa using hj
  ·have hn0:n=0:=by omega
   subst hn0
   obtain rfl:i=0:=by omega
   have hcs0:cs=[]:=List.length_eq_zero_iff.1 hcl
   subst hcs0
   have hge:=grownCap_ge w (0+1) c (ρ.t 3)
   refine(Any2.slices_Insert_int_end_grow L ad 0 c vb 0 1 vc [] [x] w (by omega) hnc (by omega) hbig rfl rfl (fun _=>rfl) (by simp) hvs (by simpa using h1x)).mono ?_
   rintro e w' ⟨rfl,rfl⟩
   have hzl: ∀k,(Builtin.zeroCells (Value.int .i64 0).cells k).size=k:=fun k=>by rw[size_zeroCells];simp[Value.cells]
   refine .inr ⟨1,_,_,hge,rfl,rfl,by simp only[Array.size_append,hzl,List.size_toArray,List.length_append,List.length_singleton,List.length_nil];omega,?_⟩
   intro j v hj
   have hlt:=(List.getElem?_eq_some_iff.1 hj).1
   rw[Array.getElem?_append_left (by simpa using hlt)]
   simpa using hj
end Go.Proofs
namespace Go.Sx
open Go
def qo(E1 E2:Nat)(ps:List aO):Nat->Option fM:=fun k=>
 if k<2*ps.length then(if k % 2=0 then some ⟨E1,1,(ps.getD (k/2) default).known.length,cellOf encZ (ps.getD (k/2) default).known⟩else some ⟨E2,4,(ps.getD (k/2) default).near.length,cellOf encR (ps.getD (k/2) default).near⟩)else none
def qQ(ps:List aO):Nat->Nat->FC:=fun i j=>match j with
 |0=> .d (.int .i64 (ps.getD i default).id)
 |1=> .fs (2*i) 1 (ps.getD i default).known.length
 |2=> .d (.int .i64 (ps.getD i default).left)
 |3=> .d (.int .i64 (ps.getD i default).right)
 |_=> .fs (2*i+1) 4 (ps.getD i default).near.length
theorem G8{E1 E2:Nat}:gy (fun _=>none) (qo E1 E2 []):=⟨fun k r h=>by simp[qo]at h⟩
theorem DT{E1 E2 n l1 l2:Nat}{ps:List aO}{z:aO}{g1 g2:Nat->Nat->D}(hn:n=2*ps.length)(h1:l1=z.known.length)(h2:l2=z.near.length)(hg1:aJ l1 1 g1 (cellOf encZ z.known))(hg2:aJ l2 4 g2 (cellOf encR z.near)):
 gy (jc (jc (qo E1 E2 ps) n (some ⟨E1,1,l1,g1⟩)) (n+1) (some ⟨E2,4,l2,g2⟩)) (qo E1 E2 (ps++[z])):=by
 subst hn h1 h2
 refine⟨fun k r' hr=> ?_⟩
 simp only[qo,jc,List.length_append,List.length_singleton]at hr⊢
 by_cases e1:k=2*ps.length+1
 ·rw[if_pos Om,if_neg Om]at hr
  have ed:k/2=ps.length:=Om
  rw[ed,dR,if_pos rfl]at hr
  cases hr
  rw[if_pos e1]
  exact⟨_,rfl,rfl,rfl,rfl,hg2⟩
 ·by_cases e2:k=2*ps.length
  ·rw[if_pos Om,if_pos Om]at hr
   have ed:k/2=ps.length:=Om
   rw[ed,dR,if_pos rfl]at hr
   cases hr
   rw[if_neg e1,if_pos e2]
   exact⟨_,rfl,rfl,rfl,rfl,hg1⟩
  ·by_cases hk:k<2*ps.length
   ·rw[if_pos Om]at hr
    have ed:k/2≠ps.length:=Om
    rw[dR,if_neg ed]at hr
    rw[if_neg e1,if_neg e2,if_pos hk]
    exact⟨r',hr,rfl,rfl,rfl,aJ.refl _ _ _⟩
   ·rw[if_neg Om]at hr;cases hr
theorem DN{n l1 l2 m1 m2:Nat}{ps:List aO}{z:aO}{x y u:D}(hn:n=ps.length)(hm1:m1=2*n)(hm2:m2=2*n+1)(h1:l1=z.known.length)(h2:l2=z.near.length)(hx:x= .int .i64 z.id)(hy:y= .int .i64 z.left)(hu:u= .int .i64 z.right):
 jo (n+1) 5 (fun i j=>if i<n then qQ ps i j else [FC.d x,FC.fs m1 1 l1,FC.d y,FC.d u,FC.fs m2 4 l2].getD j default) (qQ (ps++[z])):=by
 subst hn h1 h2 hx hy hu hm1 hm2
 refine .of_eq fun i j hi hj=> ?_
 by_cases e:i<ps.length
 ·rw[if_pos e]
  unfold qQ
  rw[dR,if_neg Om]
 ·obtain rfl:i=ps.length:=Om
  rw[if_neg e]
  match j,hj with
  |0,_=>simp only[qQ,dR,if_true];rfl
  |1,_=>simp only[qQ,dR,if_true];rfl
  |2,_=>simp only[qQ,dR,if_true];rfl
  |3,_=>simp only[qQ,dR,if_true];rfl
  |4,_=>simp only[qQ,dR,if_true];rfl
theorem oK{E1 E2:Nat}{ps:List aO}{i j:Nat}(hi:i<ps.length)(hj:j<5):Z9 (qo E1 E2 ps) (qQ ps i j)∧aF (Lh (qo E1 E2 ps) (qQ ps i j)) (cellOf lI ps i j):=by
 have e1:qo E1 E2 ps (2*i)=some ⟨E1,1,(ps.getD i default).known.length,cellOf encZ (ps.getD i default).known⟩:=by
  simp only[qo];rw[if_pos Om,if_pos Om,show 2*i/2=i by omega]
 have e2:qo E1 E2 ps (2*i+1)=some ⟨E2,4,(ps.getD i default).near.length,cellOf encR (ps.getD i default).near⟩:=by
  simp only[qo];rw[if_pos Om,if_neg Om,show(2*i+1)/2=i by omega]
 match j,hj with
 |0,_=>exact⟨trivial,aF.refl _⟩
 |1,_=>
  refine⟨⟨_,e1,rfl,Nat.le_refl _⟩,aF.rows rfl ⟨fun a b _ _=> ?_⟩⟩
  simp only[mO,e1];exact aF.refl _
 |2,_=>exact⟨trivial,aF.refl _⟩
 |3,_=>exact⟨trivial,aF.refl _⟩
 |4,_=>
  refine⟨⟨_,e2,rfl,Nat.le_refl _⟩,aF.rows rfl ⟨fun a b _ _=> ?_⟩⟩
  simp only[mO,e2];exact aF.refl _
theorem U0{ps:List aO}{id:Int}:(iP (fun p:aO=>p.id==id) ps 0= -1∧ps.find? (fun p=>p.id==id)=none)∨∃i,iP (fun p:aO=>p.id==id) ps 0=((i:Nat):Int)∧i<ps.length∧ps.find? (fun p=>p.id==id)=some (ps.getD i default):=by
 rcases jk (p:=fun p:aO=>p.id==id) (xs:=ps) (f:=0)with⟨h1,h2⟩|⟨i,h1,h2,h3,h4⟩
 ·refine .inl ⟨h1,?_⟩
  simp only[List.find?_eq_none]
  intro x hx
  simpa using List.any_eq_false.1 h2 x hx
 ·refine .inr ⟨i,by simpa using h1,h2,?_⟩
  rw[List.find?_eq_some_iff_getElem]
  have e:ps.getD i default=ps[i]:=by simp[List.getD,h2]
  rw[e]at h3
  refine⟨by rw[e];exact h3,i,h2,e.symm,fun j hj=> ?_⟩
  have:=h4 j hj
  have e2:ps.getD j default=ps[j]:=by simp[List.getD,show j<ps.length by omega]
  rw[e2]at this
  simpa using this
theorem Uj{ps:List aO}(h:um ps){x:aj}:RH (jr ps x):=by
 unfold jr
 cases e:ps.find? (fun p=>p.id==x.id)with
 |none=>exact⟨by simp,by simp⟩
 |some p=>exact h.ok p (List.mem_of_find?_eq_some e)
theorem EU{nodes:List aj}{ps:List aO}(h:um ps)(hl:nodes.length<=1000):um (dB nodes ps):=by
 refine⟨by rw[dB,List.length_map,eY];exact hl,fun p hp=> ?_⟩
 obtain⟨x,_,rfl⟩:=List.mem_map.1 hp
 exact Uj h
theorem jg{nodes:List aj}{ps:List aO}:(dB nodes ps).length=nodes.length:=by rw[dB,List.length_map,eY]
end Go.Sx
namespace Go.Sx
open Go
variable {P:Program}{G:Nat->Option (Nat×(Nat->D))}{nt:Nat}{C:Ctx}
theorem PK{s:List (Nat×SV)}{o:List (Nat×bG)}{nm n0:List Nat}{K:St->Prop}(ns:List Nat)(h:pubs n0 ns s o fun s o=>K ⟨s,o,nm,n0⟩):ahE ⟨s,o,nm,n0⟩ K:=by
 obtain⟨s',o',h1,h2⟩:=su (nm:=nm) h
 refine .mk ⟨s',o',nm,n0⟩ ⟨fun hc=> ?_⟩ h1
 obtain⟨I',h3,_⟩:=hc.pubs h2
 exact⟨I',_,h3⟩
theorem Spec.six{f:FuncId}{args:List SV}{pre post:List (Nat×bG)}{res:SV}(h:Spec P G f args pre res post)(hno:6 ∉ aQ post):
 Spec P G f (qI (fun i=>if i=1000 then 6 else i) args) (xC (fun i=>if i=1000 then 6 else i) pre) (j_ (fun i=>if i=1000 then 6 else i) res) (xC (fun i=>if i=1000 then 6 else i) post):=
 h.ren _ (by
   intro n m hn hm e
   split at e<;>split at e
   ·omega
   ·subst e;exact absurd hm hno
   ·subst e;exact absurd hn hno
   ·exact e)
end Go.Sx
namespace Go.Sx
open Go
def B_(L:List (Int×Int))(q:List Int):Bool:=L.any fun x=>q==[x.1]
def iR(L:List (Int×Int))(id:Int):List Int:=(L.filter fun x=>x.1==id).map (·.2)
theorem acL{L:List (Int×Int)}{id:Int}:B_ L [id]=true↔∃y,(id,y)∈L:=by
 unfold B_
 rw[List.any_eq_true]
 constructor
 ·rintro⟨⟨a,y⟩,h,e⟩
  simp only[beq_iff_eq,List.cons.injEq,and_true]at e
  exact⟨y,e▸h⟩
 ·rintro⟨y,h⟩
  exact⟨(id,y),h,by simp⟩
theorem told_none{L:List (Int×Int)}{id:Int}(h:B_ L [id]=false):iR L id=[]:=by
 unfold iR
 rw[List.map_eq_nil_iff,List.filter_eq_nil_iff]
 rintro⟨a,y⟩ hm e
 have e:a=id:=by simpa using e
 subst e
 rw[acL.2 ⟨y,hm⟩]at h;cases h
theorem NW{L:List (Int×Int)}{a b id:Int}:iR (L++[(a,b)]) id=if id=a then iR L id++[b]else iR L id:=by
 unfold iR
 rw[List.filter_append,List.map_append]
 by_cases e:id=a
 ·subst e;simp
 ·have:(a==id)=false:=by simpa using Ne.symm e
  simp[e,Ne.symm e]
theorem RZ{L:List (Int×Int)}{id:Int}:(iR L id).length<=L.length:=by
 unfold iR;rw[List.length_map];exact List.length_filter_le _ _
theorem Gh{L:List (Int×Int)}{a b:Int}{q:List Int}:B_ (L++[(a,b)]) q=(q==[a]||B_ L q):=by
 unfold B_;rw[List.any_append,Bool.or_comm];simp
structure TOLD (rows:Nat->Option fM) (nk E:Nat) (get:List Int->Nat->FC) (L:List (Int×Int)):Prop where
 cell: ∀id,B_ L [id]=true->CellIs rows nk (get [id] 0) E 1 (iR L id).length (cellOf encZ (iR L id))
 inj: ∀a b k l l',B_ L [a]=true->B_ L [b]=true->get [a] 0= .fs k 1 l->get [b] 0= .fs k 1 l'->a=b
theorem TOLD.nil{rows:Nat->Option fM}{nk E:Nat}{get:List Int->Nat->FC}:TOLD rows nk E get []:=⟨fun id h=>by simp[B_]at h,fun a b k l l' h=>by simp[B_]at h⟩
theorem TOLD.push{rows rows':Nat->Option fM}{nk E:Nat}{get:List Int->Nat->FC}{L:List (Int×Int)}(h:TOLD rows nk E get L){a b:Int}{g:Nat->Nat->D}{ko:Nat->Prop}(hko: ∀k,ko k->B_ L [a]=true∧∃l,get [a] 0= .fs k 1 l)
 (hr: ∀k,k≠nk-> ¬ko k->rows' k=rows k) (hn:rows' nk=some ⟨E,1,(iR L a).length+1,g⟩) (hg:aJ ((iR L a).length+1) 1 g (cellOf encZ (iR L a++[b]))):
 TOLD rows' (nk+1) E (fun q j=>if q=[a]then .fs nk 1 ((iR L a).length+1)else get q j) (L++[(a,b)]):=by
 have hne: ∀id,id≠a->B_ (L++[(a,b)]) [id]=true->B_ L [id]=true:=by
  intro id hid ht
  rw[Gh]at ht
  have:([id]==[a])=false:=by simpa using hid
  rw[this,Bool.false_or]at ht
  exact ht
 constructor
 ·intro id ht
  by_cases e:id=a
  ·subst e
   have e2:iR (L++[(id,b)]) id=iR L id++[b]:=by rw[NW,if_pos rfl]
   simp only[if_true,e2,List.length_append,List.length_singleton]
   exact⟨nk,g,rfl,Om,hn,hg⟩
  ·have ht':=hne id e ht
   have e2:iR (L++[(a,b)]) id=iR L id:=by rw[NW,if_neg e]
   have e3: ¬[id]=[a]:=by simpa using e
   simp only[if_neg e3,e2]
   obtain⟨k,g',h1,h2,h3,h4⟩:=h.cell id ht'
   refine⟨k,g',h1,Om,?_,h4⟩
   rw[hr k Om (fun hk=> ?_)]
   ·exact h3
   ·obtain⟨h5,l,h6⟩:=hko k hk
    exact e (h.inj id a k _ _ ht' h5 h1 h6)
 ·intro x y k l l' hx hy h1 h2
  simp only[List.cons.injEq,and_true]at h1 h2
  by_cases ex:x=a<;>by_cases ey:y=a
  ·rw[ex,ey]
  ·rw[if_pos ex]at h1
   rw[if_neg ey]at h2
   obtain⟨k',g',h3,h4,_⟩:=h.cell y (hne y ey hy)
   rw[h2]at h3
   simp only[FC.fs.injEq]at h1 h3
   omega
  ·rw[if_neg ex]at h1
   rw[if_pos ey]at h2
   obtain⟨k',g',h3,h4,_⟩:=h.cell x (hne x ex hx)
   rw[h1]at h3
   simp only[FC.fs.injEq]at h2 h3
   omega
  ·rw[if_neg ex]at h1
   rw[if_neg ey]at h2
   exact h.inj x y k l l' (hne x ex hx) (hne y ey hy) h1 h2
theorem TOLD.put{rows:Nat->Option fM}{nk E:Nat}{r:fM}{get:List Int->Nat->FC}{L:List (Int×Int)}(h:TOLD rows nk E get L):TOLD (jc rows nk (some r)) (nk+1) E get L:=
 ⟨fun id ht=>by
   obtain⟨k,g',h1,h2,h3,h4⟩:=h.cell id ht
   exact⟨k,g',h1,Om,by simp only[jc];rw[if_neg Om];exact h3,h4⟩,h.inj⟩
def gG(key:Nat->Nat)(ps:List aO):Nat->Nat->FC:=fun i j=>match j with
 |0=> .d (.int .i64 (ps.getD i default).id)
 |1=> .fs (key i) 1 (ps.getD i default).known.length
 |2=> .d (.int .i64 (ps.getD i default).left)
 |3=> .d (.int .i64 (ps.getD i default).right)
 |_=> .d (ay encR 4 (ps.getD i default).near)
abbrev zL(rows:Nat->Option fM)(nk E:Nat)(key:Nat->Nat)(ps:List aO):Prop:=
 l7 rows nk E 1 ps.length (fun i=> .fs (key i) 1 (ps.getD i default).known.length) (fun i=>(ps.getD i default).known.length) (fun i=>cellOf encZ (ps.getD i default).known)
theorem Ql{rows:Nat->Option fM}{nk E:Nat}{key:Nat->Nat}{ps:List aO}(h:zL rows nk E key ps){i j:Nat}(hi:i<ps.length)(hj:j<5):Z9 rows (gG key ps i j)∧aF (Lh rows (gG key ps i j)) (cellOf lI ps i j):=
 match j,hj with
 |0,_=>⟨trivial,aF.refl _⟩
 |1,_=>⟨(h.cell i hi).ok,(h.cell i hi).le⟩
 |2,_=>⟨trivial,aF.refl _⟩
 |3,_=>⟨trivial,aF.refl _⟩
 |4,_=>⟨trivial,aF.refl _⟩
theorem zL.snoc{rows:Nat->Option fM}{nk E l:Nat}{key:Nat->Nat}{ps:List aO}(h:zL rows nk E key ps){z:aO}{g:Nat->Nat->D}(hl:l=z.known.length)(hg:aJ l 1 g (cellOf encZ z.known)):
 zL (jc rows nk (some ⟨E,1,l,g⟩)) (nk+1) E (fun a=>if a=ps.length then nk else key a) (ps++[z]):=by
 subst hl
 have hn:=l7.push (sl':=fun i=> .fs (if i=ps.length then nk else key i) 1 ((ps++[z]).getD i default).known.length) (Zi:=fun i=>((ps++[z]).getD i default).known.length) (cn':=fun i=>cellOf encZ ((ps++[z]).getD i default).known) (g:=g) h
  (fun i hi=>by
    have hne:i≠ps.length:=Om
    simp only[dR,if_neg hne];exact⟨trivial,trivial,trivial⟩) (by simp only[dR,if_true]) (by simp only[dR,if_true];exact hg)
 simp only[dR,if_true]at hn
 show l7 _ _ _ _ _ _ _ _
 simp only[List.length_append,List.length_singleton,dR]
 exact hn
theorem EN{n l m1:Nat}{key:Nat->Nat}{ps:List aO}{z:aO}{x y u v:D}(hn:n=ps.length)(hl:l=z.known.length)(hx:x= .int .i64 z.id)(hy:y= .int .i64 z.left)(hu:u= .int .i64 z.right)(hv:aF v (ay encR 4 z.near)):
 jo (n+1) 5 (fun i j=>if i<n then gG key ps i j else [FC.d x,FC.fs m1 1 l,FC.d y,FC.d u,FC.d v].getD j default) (gG (fun a=>if a=ps.length then m1 else key a) (ps++[z])):=by
 subst hn hl hx hy hu
 refine⟨fun i j hi hj=> ?_⟩
 by_cases e:i<ps.length
 ·rw[if_pos e]
  have hne:i≠ps.length:=Om
  refine rO.of_eq ?_
  unfold gG
  rw[dR,if_neg hne];simp only[if_neg hne]
 ·obtain rfl:i=ps.length:=Om
  rw[if_neg e]
  match j,hj with
  |0,_=>exact rO.of_eq (by simp only[gG,dR,if_true];rfl)
  |1,_=>exact rO.of_eq (by simp only[gG,dR,if_true];rfl)
  |2,_=>exact rO.of_eq (by simp only[gG,dR,if_true];rfl)
  |3,_=>exact rO.of_eq (by simp only[gG,dR,if_true];rfl)
  |4,_=>simp only[gG,dR,if_true];exact rO.d hv
end Go.Sx
namespace Go.Sx
open Go
def yR(nodes:List aj)(id own:Int):Int:=if(o9 nodes id).isSome&&id !=own then id else 0
def acr(nodes:List aj)(id:Int):Nat:=((o9 nodes id).getD default).word
def Md(nodes:List aj)(p:aO)(lv:Nat):iY:=
 if lv=0 then⟨p.left,p.right⟩else if Mc (acr nodes p.id) (lv-1)=1 then⟨(p.near.getD (lv-1) default).l1,(p.near.getD (lv-1) default).r1⟩else⟨(p.near.getD (lv-1) default).l0,(p.near.getD (lv-1) default).r0⟩
def nP(nodes:List aj)(p:aO)(lv:Nat):iY:=
 if p.near.length<lv then⟨0,0⟩else⟨yR nodes (Md nodes p lv).left p.id,yR nodes (Md nodes p lv).right p.id⟩
def EO(nodes:List aj)(own nb:Int)(lv:Nat)(zero one:Int):Int×Int:=
 match o9 nodes nb with
 |none=>(0,0)
 |some u=>if Mc u.word lv=0 then(u.id,yR nodes one own)else(yR nodes zero own,u.id)
def atF(ps:List aO)(id:Int)(lv:Nat):kH:=((ps.find? fun p=>p.id==id).getD default).near.getD lv default
def Xi(nodes:List aj)(ps:List aO)(p:aO)(lv:Nat):kH:=
 ⟨(EO nodes p.id (nP nodes p lv).left lv (atF ps (nP nodes p lv).left lv).l0 (atF ps (nP nodes p lv).left lv).l1).1,
  (EO nodes p.id (nP nodes p lv).left lv (atF ps (nP nodes p lv).left lv).l0 (atF ps (nP nodes p lv).left lv).l1).2,
  (EO nodes p.id (nP nodes p lv).right lv (atF ps (nP nodes p lv).right lv).r0 (atF ps (nP nodes p lv).right lv).r1).1,
  (EO nodes p.id (nP nodes p lv).right lv (atF ps (nP nodes p lv).right lv).r0 (atF ps (nP nodes p lv).right lv).r1).2⟩
def CZ(nodes:List aj)(ps:List aO)(p:aO)(h:Nat):List kH:=(List.range h).map (Xi nodes ps p)
def Bj(nodes:List aj)(old:List aO)(h:Nat)(p:aO):aO:={p with near:=CZ nodes old p h}
def oC(nodes:List aj)(ps:List aO)(h:Nat):List aO:=(dB nodes ps).map (Bj nodes (dB nodes ps) h)
def ac_(nodes:List aj)(old:List aO)(h:Nat)(p:aO):aO:={oq nodes old p with near:=CZ nodes old p h}
def nG(nodes:List aj)(ps:List aO)(h:Nat):List aO:=(dB nodes ps).map (ac_ nodes (dB nodes ps) h)
def Gs(nodes:List aj)(h:Nat):Nat->List aO->List aO
 |0,ps=>ps
 |n+1,ps=>nG nodes (Gs nodes h n ps) h
def E8(nodes:List aj)(h:Nat)(p:aO):mG:=⟨p.id,(List.range (h+1)).map (nP nodes p)⟩
def Az(nodes:List aj)(ps:List aO)(h:Nat):List mG:=(dB nodes ps).map (E8 nodes h)
def Fg(ls:List mG):Nat->Nat->FC:=aeA (fun a=> .int .i64 (ls.getD a default).id) 2 (fun a=>(ls.getD a default).levels.length)
def Dj(E:Nat)(ls:List mG):Nat->Option fM:=zf E 2 sV (ls.map (·.levels))
theorem abJ{E:Nat}:gy (fun _=>none) (Dj E []):=U7
theorem XU{E n l:Nat}{ls:List mG}{z:mG}{g:Nat->Nat->D}(hn:n=ls.length)(hl:l=z.levels.length)(hg:aJ l 2 g (cellOf sV z.levels)):
 gy (jc (Dj E ls) n (some ⟨E,2,l,g⟩)) (Dj E (ls++[z])):=by
 unfold Dj
 rw[List.map_append]
 exact O5 (by rw[List.length_map];exact hn) hl hg
theorem XQ{n l m1:Nat}{ls:List mG}{z:mG}{x:D}(hn:n=ls.length)(hm:m1=n)(hl:l=z.levels.length)(hx:x= .int .i64 z.id):
 jo (n+1) 2 (fun i j=>if i<n then Fg ls i j else [FC.d x,FC.fs m1 2 l].getD j default) (Fg (ls++[z])):=by
 subst hn hm hl hx
 refine .of_eq fun i j hi hj=> ?_
 by_cases e:i<ls.length
 ·rw[if_pos e]
  have hne:i≠ls.length:=Om
  simp only[Fg,aeA,dR,if_neg hne]
 ·obtain rfl:i=ls.length:=Om
  rw[if_neg e]
  match j,hj with
  |0,_=>simp only[Fg,aeA,dR,if_true];rfl
  |1,_=>simp only[Fg,aeA,dR,if_true];rfl
theorem U5{E:Nat}{ls:List mG}{k:Nat}(h:k<ls.length):Dj E ls k=some ⟨E,2,(ls.getD k default).levels.length,cellOf sV (ls.getD k default).levels⟩:=by
 unfold Dj
 rw[y9 (by rw[List.length_map];exact h)]
 have e:(ls.map (·.levels)).getD k default=(ls.getD k default).levels:=by simp[List.getD,h]
 rw[e]
theorem Lj{E:Nat}{ls:List mG}{i j:Nat}(hi:i<ls.length)(hj:j<2):Z9 (Dj E ls) (Fg ls i j)∧aF (Lh (Dj E ls) (Fg ls i j)) (cellOf zH ls i j):=
 match j,hj with
 |0,_=>⟨trivial,aF.refl _⟩
 |1,_=>by
  refine⟨⟨_,U5 hi,rfl,Nat.le_refl _⟩,aF.rows rfl ⟨fun a b _ _=> ?_⟩⟩
  simp only[mO,U5 hi];exact aF.refl _
theorem Uk{nodes:List aj}{old:List aO}{h:Nat}{p:aO}:(CZ nodes old p h).length=h:=by rw[CZ,List.length_map,List.length_range]
end Go.Sx
namespace Go.Sx
open Go
def KH(a b:List aO)(k:Nat):List aO:=b.take k++a.drop k
theorem aa9{a b:List aO}:KH a b 0=a:=by simp[KH]
theorem adV{a b:List aO}(h:a.length=b.length):KH a b a.length=b:=by simp[KH,h]
theorem mX{a b:List aO}{k i:Nat}(h:a.length=b.length)(hk:k<=a.length):(KH a b k).getD i default=if i<k then b.getD i default else a.getD i default:=by
 have ht:(b.take k).length=k:=by rw[List.length_take];omega
 unfold KH
 by_cases e:i<k
 ·rw[if_pos e];simp only[List.getD]
  rw[List.getElem?_append_left Om,List.getElem?_take,if_pos e]
 ·rw[if_neg e];simp only[List.getD]
  rw[List.getElem?_append_right Om,List.getElem?_drop,ht]
  congr 2;omega
theorem adU{key:Nat->Nat}{a b:List aO}{k:Nat}{v:D}(h:a.length=b.length)(hk:k<a.length)(he:b.getD k default={a.getD k default with near:=(b.getD k default).near})(hv:aF v (ay encR 4 (b.getD k default).near)):
 jo a.length 5 (fun i j=>if i=k then(if j<4 then gG key (KH a b k) i j else if j<4+1 then [FC.d v].getD (j-4) default else gG key (KH a b k) i j)else gG key (KH a b k) i j) (gG key (KH a b (k+1))):=by
 refine⟨fun i j hi hj=> ?_⟩
 show rO (if _ then _ else _) _
 by_cases e:i=k
 ·subst e
  rw[if_pos rfl]
  match j,hj with
  |0,_=>exact rO.of_eq (by simp only[gG,mX h (show i<=a.length by omega),mX h (show i+1<=a.length by omega),Nat.lt_irrefl,if_false,show i<i+1 by omega,if_true];rw[he];rfl)
  |1,_=>exact rO.of_eq (by simp only[gG,mX h (show i<=a.length by omega),mX h (show i+1<=a.length by omega),Nat.lt_irrefl,if_false,show i<i+1 by omega,if_true];rw[he];rfl)
  |2,_=>exact rO.of_eq (by simp only[gG,mX h (show i<=a.length by omega),mX h (show i+1<=a.length by omega),Nat.lt_irrefl,if_false,show i<i+1 by omega,if_true];rw[he];rfl)
  |3,_=>exact rO.of_eq (by simp only[gG,mX h (show i<=a.length by omega),mX h (show i+1<=a.length by omega),Nat.lt_irrefl,if_false,show i<i+1 by omega,if_true];rw[he];rfl)
  |4,_=>simp only[gG,mX h (show i+1<=a.length by omega),show i<i+1 by omega,if_true];exact rO.d hv
 ·rw[if_neg e]
  have e2:(i<k+1)=(i<k):=by rw[eq_iff_iff];omega
  refine rO.of_eq ?_
  unfold gG
  rw[mX h Om,mX h Om]
  simp only[e2]
theorem zL.congr{rows:Nat->Option fM}{nk E:Nat}{key:Nat->Nat}{a b:List aO}(h:zL rows nk E key a)(hl:a.length=b.length)(hk: ∀i,(a.getD i default).known=(b.getD i default).known):zL rows nk E key b:=by
 unfold zL at h⊢
 rw[<-hl]
 simp only[<-hk]
 exact h
theorem Zl{nodes:List aj}{ps:List aO}:(jV nodes ps).length=nodes.length:=by rw[jV,List.length_map,jg]
theorem Qi{nodes:List aj}{ps:List aO}{h:Nat}:(nG nodes ps h).length=nodes.length:=by rw[nG,List.length_map,jg]
theorem ajr{nodes:List aj}{ps:List aO}{h:Nat}:(oC nodes ps h).length=nodes.length:=by rw[oC,List.length_map,jg]
theorem pY{α β:Type}[Inhabited α][Inhabited β]{f:α->β}{xs:List α}{i:Nat}(h:i<xs.length):(xs.map f).getD i default=f (xs.getD i default):=by simp[List.getD,h]
theorem adb{nodes:List aj}{ps:List aO}{h i:Nat}(hi:i<nodes.length):(nG nodes ps h).getD i default={(jV nodes ps).getD i default with near:=((oC nodes ps h).getD i default).near}:=by
 have hi2:i<(dB nodes ps).length:=by rw[jg];exact hi
 rw[nG,jV,oC,pY hi2,pY hi2,pY hi2];rfl
theorem ada{nodes:List aj}{ps:List aO}{h i:Nat}:((jV nodes ps).getD i default).known=((nG nodes ps h).getD i default).known:=by
 by_cases hi:i<nodes.length
 ·rw[adb hi]
 ·have e1:(jV nodes ps).getD i default=default:=by simp[List.getD,List.getElem?_eq_none (show(jV nodes ps).length<=i by rw[Zl];omega)]
  have e2:(nG nodes ps h).getD i default=default:=by simp[List.getD,List.getElem?_eq_none (show(nG nodes ps h).length<=i by rw[Qi];omega)]
  rw[e1,e2]
theorem aaJ{nodes:List aj}{p:aO}:(iG nodes p).length<=nodes.length:=by
 rw[iG,List.length_map,<-eY nodes];exact List.length_filter_le _ _
theorem rRB{nodes:List aj}{ps:List aO}{h:Nat}(hn:nodes.length<=1000)(hh:h<=1000):um (nG nodes ps h):=by
 refine⟨by rw[Qi];exact hn,fun p hp=> ?_⟩
 obtain⟨q,_,rfl⟩:=List.mem_map.1 hp
 exact⟨Nat.le_trans aaJ hn,by show(CZ nodes _ q h).length<=1000;rw[Uk];exact hh⟩
end Go.Sx
