/- Part of a symbolic executor over the model, proved sound, with plain laws: SxMerge. Written for this claim. -/
import Derived.Test.YtgdgkekpfmhbbaaGreatDoorSxInsr
set_option linter.unusedVariables false
set_option linter.unusedSimpArgs false
namespace Go.Sx
open Go
structure PlcT where
 lv:Nat
 bits:Nat
deriving DecidableEq
instance:Inhabited PlcT:=⟨⟨0,0⟩⟩
def Ia(cl:List mG)(q:List Int):Nat:=(cl.takeWhile fun x=> !([x.id]==q)).length
def E5(cl:List mG)(q:List Int):Bool:=cl.any fun x=>q==[x.id]
def akG(last:List (List Int×Int))(q:List Int):Bool:=last.any fun y=>q==y.1
def ajE(last:List (List Int×Int))(q:List Int):Int:=((last.find? fun y=>q==y.1).map (·.2)).getD 0
theorem J5{cl:List mG}(hn:(cl.map (·.id)).Nodup){i:Nat}(h:i<cl.length):Ia cl [(cl.getD i default).id]=i:=by
 unfold Ia
 induction cl generalizing i with
 |nil=>simp at h
 |cons y s ih=>
  simp only[List.map_cons,List.nodup_cons]at hn
  cases i with
  |zero=>simp[List.getD]
  |succ i=>
   have hi:i<s.length:=by simpa using h
   have e:(y::s).getD (i+1) default=s.getD i default:=rfl
   rw[e,List.takeWhile_cons]
   have hne:y.id≠(s.getD i default).id:=fun h'=>hn.1 (h'▸List.mem_map.2 ⟨_,eF hi,rfl⟩)
   have hb:(!([y.id]==[(s.getD i default).id]))=true:=by simpa[-List.getD_eq_getElem?_getD]using hne
   rw[if_pos hb,List.length_cons,ih hn.2 hi]
theorem ad6{cl:List mG}{id:Int}:E5 cl [id]=true↔∃x∈cl,x.id=id:=by
 unfold E5
 rw[List.any_eq_true]
 constructor
 ·rintro⟨x,h,e⟩
  simp only[beq_iff_eq,List.cons.injEq,and_true]at e
  exact⟨x,h,e.symm⟩
 ·rintro⟨x,h,e⟩
  exact⟨x,h,by simp[e]⟩
def MN(cl:List mG)(last:List (List Int×Int)):Prop:= ∀y∈last,∃x∈cl,x.id=y.2
theorem MN.val{cl:List mG}{last:List (List Int×Int)}(h:MN cl last){q:List Int}(hq:akG last q=true): ∃x∈cl,x.id=ajE last q:=by
 unfold akG at hq
 unfold ajE
 obtain⟨y,hy,e⟩:=List.any_eq_true.1 hq
 cases ef:last.find? (fun y=>q==y.1)with
 |none=>
  have:=List.find?_eq_none.1 ef y hy
  exact absurd e this
 |some z=>exact h z (List.mem_of_find?_eq_some ef)
theorem MN.cons{cl:List mG}{last:List (List Int×Int)}(h:MN cl last){q:List Int}{id:Int}(hi: ∃x∈cl,x.id=id):MN cl ((q,id)::last):=by
 intro y hy
 rcases List.mem_cons.1 hy with rfl|hy
 ·exact hi
 ·exact h y hy
theorem abk{cl:List mG}{i:Nat}(h:i<cl.length){q:List Int}:E5 (cl.take (i+1)) q=(q==[(cl.getD i default).id]||E5 (cl.take i) q):=by
 have e:cl.take (i+1)=cl.take i++[cl.getD i default]:=by rw[List.take_add_one];simp[List.getD,List.getElem?_eq_getElem h]
 unfold E5
 rw[e,List.any_append,Bool.or_comm];simp
end Go.Sx
