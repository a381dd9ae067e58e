/- Contracts of functions that the law reaches: YtgdgkekpfmhbbaaGreatDoorTP4. Written for this claim. -/
import Derived.Test.YtgdgkekpfmhbbaaGreatDoorSxIns
import Derived.Deep.QuietTactic
import Derived.Test.YtgdgkekpfmhbbaaGreatDoorProg
namespace Go.Proofs.YtgdgkekpfmhbbaaGreatDoor
open Go Go.Sx Go.Shelf Go.RowKit Go.Lib Go.Sort Go.Proofs
set_option linter.unusedVariables false
set_option linter.unusedSimpArgs false
set_option maxRecDepth 100000
noncomputable def nvT:TypeInfo:=(Tryz.prog.info? 25).get Kq
set_option maxHeartbeats 4000000 in
theorem NC{α:Type}[Inhabited α](enc:α->List Value)(k:Nat)(lt:α->α->Bool)(g:Nat)(lb:Array Value)(blk off c:Nat)(d:Array α)(w:World)
 (eg: ∀args w,(callFunc g args).run Tryz.prog w= .ok (.enter g args) w) (hless:jm Tryz.prog g lb enc k lt blk off d.size w) (hH:HoldsK enc k w blk off d) (hblk:blk<w.heap.size) (h2:1<=d.size) (hsz:d.size<4611686018427387904):
 Calls Tryz.prog 51 #[.iface 25 (.slice (some ⟨blk,off,none⟩) d.size c),.func (.func g) #[] lb] w fun e w'=>
  e= .returned (.bool (nZ lt d (d.size-1)))∧∃n os,w'=putRowK enc k (Sort.ahead (Sort.grow w os) n) blk off d:=by
 have hv:=run_valueOf_slice (P:=Tryz.prog) 25 72 nvT Kq Kq (some ⟨blk,off,none⟩) d.size c w
 have hl:=fun a w ha=>run_valueLen_slice (P:=Tryz.prog) 25 72 nvT Kq Kq Kq a (some ⟨blk,off,none⟩) d.size c w ha
 have hgs:Tryz.prog.globals.size=2:=Kq
 simp only[typeHandle,hgs]at hv hl
 go_enter Tryz.func51,Tryz.ntmps51
 go_wp2
 rw[run_callFunc_extern Tryz.func97 Kq Kq Kq (e:=fun args=>Extern.ReflectliteValue.unpack (args.getD 0 (.tuple #[]))) Kq,
  show Sem.run Tryz.prog ((fun args:Array Value=>Extern.ReflectliteValue.unpack (args.getD 0 (.tuple #[]))) #[.iface 25 (.slice (some ⟨blk,off,none⟩) d.size c)]) w=_ from hv]
 simp only[Result.andThen]
 rw[Oper.upon_value]
 go_wp2
 rw[run_callFunc_extern Tryz.func98 Kq Kq Kq (e:=Extern.ReflectliteValue.method (Extern.ReflectliteValue.valueError "reflectlite.Value.Len" 0) Extern.ReflectliteValue.len) Kq,
  hl _ _ (by simp)]
 simp only[Result.andThen]
 rw[Oper.upon_value]
 go_wp2
 go_loopw [7] (fun vi wr=> ∃(i n:Nat)(os:Array Obj),vi= .int .i64 i∧i<d.size∧wr=putRowK enc k (Sort.ahead (Sort.grow w os) n) blk off d∧nZ lt d i=nZ lt d (d.size-1)) (fun vi _=>(intOf vi).toNat)
 case atStart=>
  rw[alloc_eq_grow,alloc_eq_grow,grow_grow]
  exact⟨d.size-1,0,_,by congr 1;omega,Om,(putRowK_self _ _ _ _ _ _ (holdsK_grow _ _ _ _ _ _ _ hblk hH)).symm,rfl⟩
 case round=>
  obtain⟨i,n,os,rfl,hi,hw,hs⟩:=hrel
  subst hw
  cases i with
  |zero=>
   go_wp2
   go_ret
   exact⟨by rw[<-hs];rfl,n,os,rfl⟩
  |succ m=>
   have hl:=hless n os d rfl (m+1) m hi Om
   rw[show((m+1:Nat):Int)=(m:Int)+1 by omega]at hl
   cases hlv:lt d[m+1]! d[m]! with
   |true=>
    rw[hlv]at hl
    go_wp2_with (go_at_fn g;refine hl.mono ?_;rintro e w' ⟨rfl,q,os4,rfl⟩)
    go_ret
    exact⟨by rw[<-hs];simp[nZ,hlv],n+q,os++os4,rfl⟩
   |false=>
    rw[hlv]at hl
    go_wp2_with (go_at_fn g;refine hl.mono ?_;rintro e w' ⟨rfl,q,os4,rfl⟩)
    go_roundw
    case rel=>exact⟨m,n+q,os++os4,by congr 1<;>omega,Om,rfl,by rw[<-hs];simp[nZ,hlv]⟩
    case measure=>simp[intOf]
set_option maxHeartbeats 4000000 in
theorem ND(g:Nat)(la lb:Array Value)(p:Option Addr)(n c:Nat)(w:World)(h2:n<=1):
 Calls Tryz.prog 51 #[.iface 25 (.slice p n c),.func (.func g) la lb] w fun e w'=>e= .returned (.bool true)∧∃os,w'=Sort.grow w os:=by
 have hv:=run_valueOf_slice (P:=Tryz.prog) 25 72 nvT Kq Kq p n c w
 have hl:=fun a w ha=>run_valueLen_slice (P:=Tryz.prog) 25 72 nvT Kq Kq Kq a p n c w ha
 have hgs:Tryz.prog.globals.size=2:=Kq
 simp only[typeHandle,hgs]at hv hl
 go_enter Tryz.func51,Tryz.ntmps51
 go_wp2
 rw[run_callFunc_extern Tryz.func97 Kq Kq Kq (e:=fun args=>Extern.ReflectliteValue.unpack (args.getD 0 (.tuple #[]))) Kq,
  show Sem.run Tryz.prog ((fun args:Array Value=>Extern.ReflectliteValue.unpack (args.getD 0 (.tuple #[]))) #[.iface 25 (.slice p n c)]) w=_ from hv]
 simp only[Result.andThen]
 rw[Oper.upon_value]
 go_wp2
 rw[run_callFunc_extern Tryz.func98 Kq Kq Kq (e:=Extern.ReflectliteValue.method (Extern.ReflectliteValue.valueError "reflectlite.Value.Len" 0) Extern.ReflectliteValue.len) Kq,
  hl _ _ (by simp)]
 simp only[Result.andThen]
 rw[Oper.upon_value]
 go_wp2
 refine wp_loop_rounds 1 ?_
 rw[rounds_succ]
 rcases(show n=0∨n=1 by omega)with rfl|rfl
 all_goals
  go_wp2
  go_ret
  rw[alloc_eq_grow,alloc_eq_grow,grow_grow]
  exact⟨rfl,_,rfl⟩
end Go.Proofs.YtgdgkekpfmhbbaaGreatDoor
