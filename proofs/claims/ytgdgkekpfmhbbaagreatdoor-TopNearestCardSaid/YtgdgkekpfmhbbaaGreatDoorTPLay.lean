/- Contracts of functions that the law reaches: YtgdgkekpfmhbbaaGreatDoorTPLay. Written for this claim. -/
import Derived.Test.YtgdgkekpfmhbbaaGreatDoorN28
import Derived.Test.YtgdgkekpfmhbbaaGreatDoorTie
import Derived.Test.YtgdgkekpfmhbbaaGreatDoorCards
import Derived.ProofKit
import Derived.LaidMore
import Derived.OpenShut
import Derived.Stop.Joined
import Derived.SevenTiedAt
namespace Go.Proofs.YtgdgkekpfmhbbaaGreatDoor
open Go Go.Sx Go.ChangeShapes Go.WideShapes Go.ChangeAt Go.WideMaps Go.WideElems Go.RowKit
set_option linter.unusedVariables false
set_option linter.unusedSimpArgs false
set_option maxRecDepth 100000
theorem own:ownKnob Tryz.prog.godebug=none:=by kernel_rfl
theorem laidOut:laidOutB Tryz.prog=true:=by kernel_rfl
abbrev Uw:List (String×DataW Unit):=[("math/bits.deBruijn32tab",Rows.laid_math_bits_deBruijn32tab),("skipgraph/skipgraphworld.letters",Rows.laid_skipgraph_skipgraphworld_letters)]
theorem ag8:Tryz.prog.globalNamed "math/bits.deBruijn32tab" =some 1:=by kernel_rfl
theorem af2:(Tryz.prog.globals[1]?).map (·.type)=some 450:=by kernel_rfl
theorem akW:Tryz.prog.cellsOf 5=1:=by kernel_rfl
theorem aeC:Tryz.prog.globalNamed "skipgraph/skipgraphworld.letters" =some 0:=by kernel_rfl
theorem acK:(Tryz.prog.globals[0]?).map (·.type)=some 97:=by kernel_rfl
theorem aht:Tryz.prog.cellsOf 9=1:=by kernel_rfl
theorem door_met(os:Os)(args:Array Value):laidMetH Tryz.prog Uw ((World.doorLaid Tryz.prog 400 os).forCall (fun _ _=>0) ⟨#[],args,[]⟩).memory:=
 laidMetH_of_parts3 (fuel:=8) (laidMet_of_run' 8 (by kernel_rfl) (by kernel_rfl)) (by kernel_rfl) (by kernel_rfl)
theorem gok{W:World}(h:laidMetH Tryz.prog Uw W):GOk GG (fun b=>b<W.heap.size) W:=by
 rw[MakeChecks.laidMetH_plain _ _ _ (by kernel_rfl)]at h
 obtain⟨ps,⟨g1,t1,cs1,f1,p1,q1,hg1,ht1,hv1,hd1,⟨g0,t0,cs0,f0,p0,q0,hg0,ht0,hv0,hd0,_,_⟩,_⟩,_,_⟩:=h
 obtain rfl:=Option.some.inj (aeC.symm.trans hg0)
 obtain rfl:=Option.some.inj (acK.symm.trans ht0)
 obtain rfl:=Option.some.inj (ag8.symm.trans hg1)
 obtain rfl:=Option.some.inj (af2.symm.trans ht1)
 have hA: ∀j,j<6-> ∃u,W.cell? ⟨0,j,none⟩=some u∧bM (fun b=>b<W.heap.size) W (.str (E_ j)) u:=by
  obtain⟨xs,m1,rfl,hx1,hlen,hn3,hel⟩:=DataW.trod_array Tryz.underlying97 hd0
  simp only[Prod.mk.injEq]at hx1
  have hxs:xs.map (·.1)=[.lit (.string [97]),.lit (.string [98]),.lit (.string [99]),.lit (.string [0]),.lit (.string [255]),.lit (.string [109])]:=by
   have:=hx1.1
   simp only[Rows.laid_skipgraph_skipgraphworld_letters,DataW.agg.injEq]at this
   exact this.symm
  have hlet: ∀j,j<6->(xs.map (·.1))[j]? =some (.lit (.string (E_ j))):=by
   intro j hj
   rw[hxs]
   match j,hj with
   |0,_=>rfl
   |1,_=>rfl
   |2,_=>rfl
   |3,_=>rfl
   |4,_=>rfl
   |5,_=>rfl
  intro j hj
  have h1:=hel j hj
  rw[aht]at h1
  have h2:=hlet j hj
  rw[List.getElem?_map]at h2
  cases hxj:xs[j]? with
  |none=>rw[hxj]at h2;cases h2
  |some x=>
   rw[hxj]at h1 h2
   simp only[Option.map_some,Option.some.injEq]at h2
   obtain⟨s,e1,e2,_⟩:=DataW.trod_string Tryz.underlying9 h1
   rw[e2]at h2
   simp only[DataW.lit.injEq,Lit.string.injEq]at h2
   have h3:cs0.toList[j]? =some (.string s):=by
    have:=congrArg (·[0]?) e1
    simpa[List.getElem?_take,List.getElem?_drop]using this
   have h4:=World.var?_cell hg0 hv0 j
   refine⟨.string s,?_,?_⟩
   ·rw[h4];simpa using h3
   ·simp only[bM]
    rw[<-h2]
 have hB: ∀j,j<32-> ∃u,W.cell? ⟨1,j,none⟩=some u∧bM (fun b=>b<W.heap.size) W (.int .u8 (afZ j)) u:=by
  obtain⟨xs,m1,rfl,hx1,hlen,hn3,hel⟩:=DataW.trod_array Tryz.underlying450 hd1
  simp only[Prod.mk.injEq]at hx1
  have hxs:xs.map (·.1)=([0,1,28,2,29,14,24,3,30,22,20,15,25,17,4,8,31,27,13,23,21,19,16,7,26,12,18,6,11,5,10,9]:List Int).map fun n=>DataW.lit (.int .u8 n):=by
   have:=hx1.1
   simp only[Rows.laid_math_bits_deBruijn32tab,DataW.agg.injEq]at this
   exact this.symm
  intro j hj
  have h1:=hel j hj
  rw[akW]at h1
  have hjl:j<([0,1,28,2,29,14,24,3,30,22,20,15,25,17,4,8,31,27,13,23,21,19,16,7,26,12,18,6,11,5,10,9]:List Int).length:=hj
  have h2:(xs.map (·.1))[j]? =some (.lit (.int .u8 (afZ j))):=by
   rw[hxs,List.getElem?_map,List.getElem?_eq_getElem hjl]
   simp only[Option.map_some,afZ,List.getD,List.getElem?_eq_getElem hjl,Option.getD_some]
  rw[List.getElem?_map]at h2
  cases hxj:xs[j]? with
  |none=>rw[hxj]at h2;cases h2
  |some x=>
   rw[hxj]at h1 h2
   simp only[Option.map_some,Option.some.injEq]at h2
   obtain⟨s,e1,e2,_⟩:=DataW.trod_int Tryz.underlying5 h1
   rw[e2]at h2
   simp only[DataW.lit.injEq,Lit.int.injEq,true_and]at h2
   have h3:cs1.toList[j]? =some (.int .u8 s):=by
    have:=congrArg (·[0]?) e1
    simpa[List.getElem?_take,List.getElem?_drop]using this
   have h4:=World.var?_cell hg1 hv1 j
   refine⟨.int .u8 s,?_,?_⟩
   ·rw[h4];simpa using h3
   ·simp only[bM]
    rw[<-h2]
 intro g sz get hg
 match g,hg with
 |0,hg=>
  simp only[GG,Option.some.injEq,Prod.mk.injEq]at hg
  obtain⟨rfl,rfl⟩:=hg
  obtain⟨u,hu,_⟩:=hA 0 (by decide)
  exact⟨lt_of_cell? hu,hA⟩
 |1,hg=>
  simp only[GG,Option.some.injEq,Prod.mk.injEq]at hg
  obtain⟨rfl,rfl⟩:=hg
  obtain⟨u,hu,_⟩:=hB 0 (by decide)
  exact⟨lt_of_cell? hu,hB⟩
theorem aek{R:Nat}{ds:List D}(h:wfT Tryz.prog R 12 22 ds): ∃xs:List Int,(∀x∈xs,-9223372036854775808<=x∧x<9223372036854775808)∧aI (match ds with|[x]=>[.d x]|_=>[]) [.d (ay encI 1 xs)]∧af6 Tryz.prog 22 ds=(match ds with|[x]=> .d x|_=> .junk):=by
 obtain⟨len,get,rfl,_,_,hel⟩:=h
 have c:Tryz.prog.cellsOf 3=1:=by kernel_rfl
 obtain⟨xs,h1,h2,h3⟩:=agT (α:=Int) (enc:=encI) (Q:=fun x=> -9223372036854775808<=x∧x<9223372036854775808) (k:=1) (fun _=>rfl) (len:=len) (get:=get) (fun i hi=>by
  have:=hel i hi
  rw[c]at this
  obtain⟨n,e,hw⟩:=this
  exact⟨n,wf_i64 hw,e⟩)
 refine⟨xs,h2,?_,rfl⟩
 show aI [.d (.list len (Tryz.prog.cellsOf 3) get)] _
 rw[c]
 exact aI.cons (aB.d h3) aI.nil
theorem inv1{P:Program}{R:Nat}{a:Nat}{X0:List (List D)}(h:CG (wfT P R 12) [a] X0): ∃x,X0=[x]∧wfT P R 12 a x:=by
 cases h with
 |cons h1 h=>cases h;exact⟨_,rfl,h1⟩
end Go.Proofs.YtgdgkekpfmhbbaaGreatDoor
