/- The law TopNearest: the walk through its code and the claim. -/
import Derived.Test.YtgdgkekpfmhbbaaGreatDoorTP33
namespace Go.Proofs.YtgdgkekpfmhbbaaGreatDoor
open Go Go.Sx Go.ChangeShapes Go.WideShapes Go.ChangeAt Go.WideMaps Go.WideElems Go.RowKit
set_option linter.unusedVariables false
set_option linter.unusedSimpArgs false
set_option maxRecDepth 100000
theorem adJ:Tryz.prog.funcs.any Func.goes=false:=Kq
theorem abG{P:Program}(h:P.funcs.any Func.goes=false)(f:FuncId):P.goes f=false:=by
 have h1: ∀g:Nat,(P.funcs[g]?).any Func.goes=false:=by
  intro g
  cases e:P.funcs[g]? with
  |none=>rfl
  |some fn=>
   obtain⟨hg,e2⟩:=Array.getElem?_eq_some_iff.1 e
   have:=Array.any_eq_false.1 h g hg
   rw[e2]at this
   simpa using this
 unfold Program.goes
 rw[h,Bool.and_false,Bool.or_false]
 simp only[h1]
 simp
theorem UN{P:Program}(h:P.funcs.any Func.goes=false){c:OpenClaim}(hs:c.start= .entering):false=c.goesBy P:=by
 unfold OpenClaim.goesBy Program.goesAt Program.goesFrom
 rw[hs]
 cases P.funcNamed c.func with
 |none=>rfl
 |some f=>simp[abG h]
theorem En(os:Os)(started:os.Started)(H:Type)(enc:TypeId×Value->H):
 ReturnsInHanded {} Tryz.checked os 3 .any (fun w args=>(Rows.topNearestSpec.pre enc Tryz.prog Tryz.f3 [] false w args∧laidMetH Tryz.prog Uw w)∧sizedMet enc Tryz.prog Tryz.f3 (OpenSpec.ofChange Rows.topNearestSpec) false w args)
  (Rows.topNearestSpec.post enc Tryz.prog Tryz.f3 false true false false):=by
 refine returnsInHanded_of_change_and (C:=Tryz.checked) (X:=fun w _=>laidMetH Tryz.prog Uw w) (fun _ _ _ hh h=>h.of_heap hh) own started Kq Tryz.func3
  (ChangeSpec.witness_shaped (enc:=enc) (C:=Tryz.checked) (os:=os) (X:=fun w _=>laidMetH Tryz.prog Uw w) false (World.doorLaid Tryz.prog 400 os) #[.slice none 0 0] 8 rfl (World.shaped_of_RefB Kq Kq) Kq Kq Kq (door_met os _)) ?_
 intro W base args ds gs before hval hW hcnd hsz hL _
 refine QL (P:=Tryz.prog) (ts:=[22]) (bt:=4) (G:=GG) laidOut (by rw[Tryz.params3]) Kq Tryz.underlying4 Kq rfl ?_ Jt hval hW hsz (gok hL)
 intro ds h
 match ds,h with
 |[_],_=>rfl
theorem Na:(Rows.topNearestRow.inPlace==Tryz.pinned.checked.prog.inPlace 3)=true:=Kq
theorem M_:(Rows.topNearestRow.unfollowed==Tryz.pinned.checked.prog.unfollowed 3)=true:=Kq
theorem MZ:(Rows.topNearestRow.recurses==Tryz.pinned.checked.prog.recurses 3)=true:=Kq
theorem MX:(Rows.topNearestRow.named==Tryz.pinned.checked.prog.varsNamed 3)=true:=Kq
theorem PW:joinedFacts Tryz.pinned.checked.prog 3 Tryz.f3 Rows.topNearestSpec Rows.topNearestRow=true:=by
 unfold joinedFacts
 rw[Na,M_,MZ,MX]
 kernel_rfl
theorem IL:Rows.topNearestRow.holds Tryz.pinned (OpenSpec.ofChange Rows.topNearestSpec):=
 OpenClaim.holds_of_wide 3 Tryz.f3 rfl rfl rfl rfl rfl rfl rfl ⟨rfl,rfl,rfl,rfl,rfl⟩ rfl rfl rfl rfl rfl Kq Tryz.func3 PW
  (of_decide_eq_true Kq) (by unfold Func.isWrapper;first|(rw[if_pos (by decide+kernel)];kernel_rfl)|(rw[if_neg (by decide+kernel)];exact⟨rfl,rfl⟩))
  (fun os started H enc _=>En os started H enc)
theorem F8: ∀t∈[22],Tryz.prog.wantsStandIn t=false:=by
 intro t ht
 simp only[List.mem_cons,List.not_mem_nil,or_false]at ht
 rcases ht with rfl<;>kernel_rfl
theorem topNearest_proved:Rows.TopNearestCardSaid:=
 Claim7.holds_tied_plain_at .later [] [.data,.data] true (true, "97b36ef92a9fc295bb54161133de01178274dcd7f252ae2c0627ff065a7ea1c3") false
  IL (fun _ h=>by cases h) Kq (fun _ h=>by cases h) topNearest_row_tie rfl ⟨rfl,rfl⟩ Kq rfl
  (fun f fn hf hfn=>by
    obtain rfl:f=3:=Option.some.inj ((show Tryz.prog.funcNamed Rows.topNearestRow.func=some 3 by kernel_rfl).symm.trans hf)|>.symm
    obtain rfl:fn=Tryz.f3:=(Option.some.inj (Tryz.func3.symm.trans hfn)).symm
    exact⟨Kq,fun j t ht=>F8 t (by
     rw[Tryz.params3]at ht
     exact List.mem_of_getElem? (by simpa using ht))⟩)
  (UN adJ rfl)
#print axioms topNearest_proved
end Go.Proofs.YtgdgkekpfmhbbaaGreatDoor
