/- Contracts of functions that the law reaches: YtgdgkekpfmhbbaaGreatDoorGrp. Written for this claim. -/
import Derived.Test.YtgdgkekpfmhbbaaGreatDoorInter
import Derived.Test.YtgdgkekpfmhbbaaGreatDoorSxTabB
namespace Go.Proofs.YtgdgkekpfmhbbaaGreatDoor
open Go Go.Sx Go.ChangeShapes Go.WideShapes Go.ChangeAt Go.RowKit
set_option linter.unusedVariables false
set_option linter.unusedSimpArgs false
set_option maxRecDepth 100000
theorem index_spec(g:bC)(id:Int)(f:Nat):(f<=1∧g.mem.length<=1000)->Sc 56 [.agg (GV g),.d (.int .i64 id),.d (.int .i64 f)] [] (.d (.int .i64 (lX g.mem id f))) []:=by
 rintro⟨hf,hl⟩
 refine Si (fn:=Tryz.f56) Tryz.call56 ?_
 refine aA [1,3,6] [3] (fun i:Nat=>[(7,.d (.int .i64 i))]) (fun i=>[]) (fun i=>(f<=i∧i<=1000)∧lX g.mem id f=lX g.mem id i) (fun i=>2000-i) f ?_ (fun i hi=> ?_) ⟨⟨Om,Om⟩,rfl⟩
 ·conv=>whnf
  repeat' first|((first|refine Sg ?_|refine Ni ?_ ?_);conv=>whnf)|(refine ah (fun _=> ?_) (fun _=> ?_)<;>(conv=>whnf))
  all_goals first|exact trivial|exact aF.refl _|trace_state
 ·obtain⟨⟨h1,h2⟩,h3⟩:=hi
  have hs:IntKind.i64.wrap ((i:Int)+1)=((i+1:Nat):Int):=wrap_succ (n:=2000) Om Om
  conv=>whnf
  repeat' first|((first|refine aG.mk (i+1) ?_ ?_ ?_|refine Sg ?_|refine Ni ?_ ?_);conv=>whnf)|(refine ah (fun _=> ?_) (fun _=> ?_)<;>(conv=>whnf))
  all_goals try simp only[decide_eq_true_eq,decide_eq_false_iff_not,beq_iff_eq,beq_eq_false_iff_ne,ne_eq,Int.toNat_natCast]at*
  all_goals first|exact trivial|omega|exact aF.refl _|exact aF.of_eq (by rw[hs])|exact⟨Om,Om⟩|(refine⟨⟨Om,Om⟩,?_⟩;rw[h3,K_ Om,if_neg As])|(refine⟨aB.of_eq ?_,trivial⟩;rw[h3,K_ Om,if_pos As];done)|(refine⟨aB.of_eq ?_,trivial⟩;rw[h3,abv Om];done)
theorem owner_none{g:bC}(h:g.mem.length=0∨(g.mem.getD 0 default).up=false):bV g=(adK,false):=by
 unfold bV
 split
 ·rfl
 ·rcases h with h|h
  ·contradiction
  ·rw[h];rfl
theorem Dw{g:bC}(h1: ¬g.mem.length=0)(h2:(g.mem.getD 0 default).up=true):bV g=(g.mem.getD 0 default,true):=by
 unfold bV
 rw[if_neg h1,if_pos h2]
theorem WS(g:bC):MP 1000 g->Sc 281 [.agg (GV g)] [] (.cO [.agg (ake (bV g).1),.d (.bool (bV g).2)]) []:=by
 intro h
 refine Si (fn:=Tryz.f281) Tryz.call281 ?_
 conv=>whnf
 repeat' first|((first|refine iD (Bc (g.mem.getD 0 default).copy) Fl (Ni ?_ ?_)|refine Sg ?_|refine Ni ?_ ?_);conv=>whnf)|(refine ah (fun _=> ?_) (fun _=> ?_)<;>(conv=>whnf))
 all_goals try simp only[decide_eq_true_eq,decide_eq_false_iff_not,beq_iff_eq,beq_eq_false_iff_ne,ne_eq,Bool.not_eq_true',Bool.not_eq_false',Int.toNat_zero]at*
 all_goals first
  |omega|exact OA h 0
  |(rw[owner_none (.inl Om)]
    (refine⟨aB.cO (aI.cons (aB.agg ?_) (aI.cons (aB.refl _) aI.nil)),trivial⟩
     repeat' first|exact aI.nil|refine aI.cons ?_ ?_
     all_goals first
      |exact aB.refl _|exact bn rfl
      |exact aN rfl)
    done)
  |(rw[owner_none (.inr As)]
    (refine⟨aB.cO (aI.cons (aB.agg ?_) (aI.cons (aB.refl _) aI.nil)),trivial⟩
     repeat' first|exact aI.nil|refine aI.cons ?_ ?_
     all_goals first
      |exact aB.refl _|exact bn rfl
      |exact aN rfl)
    done)
  |(rw[Dw Om As]
    (refine⟨aB.cO (aI.cons (aB.agg ?_) (aI.cons (aB.refl _) aI.nil)),trivial⟩
     repeat' first|exact aI.nil|refine aI.cons ?_ ?_
     all_goals first
      |exact aB.refl _|exact bn rfl
      |exact aN rfl)
    done)
theorem FP:Tryz.prog.cellsOf 138=32:=Kq
theorem FT:Tryz.prog.bytesOf 138=368:=Kq
theorem aho(xs:List jF):xs.length<=1000000->Sc 271 [.d (ay lY 32 xs)] [] (.bW 1000 32 0 xs.length) [(1000,.row 138 32 xs.length (cellOf lY xs))]:=by
 intro hl
 refine Si (fn:=Tryz.f271) Tryz.call271 ?_
 conv=>whnf
 repeat' first|((first|refine Sg ?_|refine Ni ?_ ?_);conv=>whnf)|(refine ah (fun _=> ?_) (fun _=> ?_)<;>(conv=>whnf))
 all_goals try simp only[FP,FT,true_and,and_true]at*
 all_goals first|exact trivial|omega|exact aF.refl _|exact aJ.refl _ _ _|exact⟨Om,Om⟩
theorem abR(m:Nat)(xs:List jF):xs.length<=1000000->Sc 271 [.d (ay lY 32 xs)] [] (.bW m 32 0 xs.length) [(m,.row 138 32 xs.length (cellOf lY xs))]:=fun h=>(aho xs h).new1 m
theorem V_(g:bC):MP 1000 g->Sc 310 [.agg (GV g)] [] (.cO [.agg (oW (zB g).1),.d (.int .i64 (zB g).2)]) []:=by
 intro h
 have hl:=h.len
 refine Si (fn:=Tryz.f310) Tryz.call310 ?_
 conv=>whnf
 repeat' first|((first|refine Cf (WS g) ?_ ?_|refine Sg ?_|refine Ni ?_ ?_);conv=>whnf)|(refine ah (fun _=> ?_) (fun _=> ?_)<;>(conv=>whnf))
 all_goals try simp only[FP,FT,decide_eq_true_eq,decide_eq_false_iff_not,bne_iff_ne,ne_eq,Decidable.not_not,Bool.not_eq_true',Bool.not_eq_false',bne_eq_false_iff_eq]at*
 all_goals first
  |exact h|exact hl
  |(rw[YF As As]
    exact⟨aB.cO (aI.cons (aB.refl _) (aI.cons (aB.refl _) aI.nil)),trivial⟩)
  |(rw[NR As As]
    exact⟨aB.cO (aI.cons (aB.agg (aI.cons (aB.refl _) (aI.cons (aB.refl _) (aI.cons (aB.refl _) (aI.cons (aB.refl _) (aI.cons (aB.refl _) (aI.cons (aB.refl _) (aI.cons (aB.refl _) (aI.cons (aN rfl) aI.nil))))))))) (aI.cons (aB.refl _) aI.nil)),trivial⟩)
  |(rw[NS As]
    exact⟨aB.cO (aI.cons (aB.agg (aI.cons (aB.refl _) (aI.cons (aB.refl _) (aI.cons (aB.refl _) (aI.cons (aB.refl _) (aI.cons (aB.refl _) (aI.cons (aB.refl _) (aI.cons (aB.refl _) (aI.cons (aN rfl) aI.nil))))))))) (aI.cons (aB.refl _) aI.nil)),trivial⟩)
theorem TJ(g:bC):g.mem.length<=1000->Sc 148 [.agg (GV g)] [] (.cO [.agg (ake (bV g).1),.d (.bool (bV g).2)]) []:=by
 intro h
 refine Si (fn:=Tryz.f148) Tryz.call148 ?_
 conv=>whnf
 repeat' first|((first|refine Sg ?_|refine Ni ?_ ?_);conv=>whnf)|(refine ah (fun _=> ?_) (fun _=> ?_)<;>(conv=>whnf))
 all_goals try simp only[decide_eq_true_eq,decide_eq_false_iff_not,beq_iff_eq,beq_eq_false_iff_ne,ne_eq,Bool.not_eq_true',Bool.not_eq_false',Int.toNat_zero]at*
 all_goals first
  |omega
  |(rw[owner_none (.inl Om)]
    (refine⟨aB.cO (aI.cons (aB.agg ?_) (aI.cons (aB.refl _) aI.nil)),trivial⟩
     repeat' first|exact aI.nil|refine aI.cons ?_ ?_
     all_goals first
      |exact aB.refl _|exact bn rfl
      |exact aN rfl)
    done)
  |(rw[owner_none (.inr As)]
    (refine⟨aB.cO (aI.cons (aB.agg ?_) (aI.cons (aB.refl _) aI.nil)),trivial⟩
     repeat' first|exact aI.nil|refine aI.cons ?_ ?_
     all_goals first
      |exact aB.refl _|exact bn rfl
      |exact aN rfl)
    done)
  |(rw[Dw Om As]
    (refine⟨aB.cO (aI.cons (aB.agg ?_) (aI.cons (aB.refl _) aI.nil)),trivial⟩
     repeat' first|exact aI.nil|refine aI.cons ?_ ?_
     all_goals first
      |exact aB.refl _|exact bn rfl
      |exact aN rfl)
    done)
theorem V9(g:bC):MP 1000 g->Sc 76 [.agg (GV g)] [] (.cO [.agg (oW (zB g).1),.d (.int .i64 (zB g).2)]) []:=by
 intro h
 have hl:=h.len
 refine Si (fn:=Tryz.f76) Tryz.call76 ?_
 conv=>whnf
 repeat' first|((first|refine Cf (TJ g) ?_ ?_|refine Sg ?_|refine Ni ?_ ?_);conv=>whnf)|(refine ah (fun _=> ?_) (fun _=> ?_)<;>(conv=>whnf))
 all_goals try simp only[FP,FT,decide_eq_true_eq,decide_eq_false_iff_not,bne_iff_ne,ne_eq,Decidable.not_not,Bool.not_eq_true',Bool.not_eq_false',bne_eq_false_iff_eq]at*
 all_goals first
  |exact h|exact hl
  |(rw[YF As As]
    exact⟨aB.cO (aI.cons (aB.refl _) (aI.cons (aB.refl _) aI.nil)),trivial⟩)
  |(rw[NR As As]
    exact⟨aB.cO (aI.cons (aB.agg (aI.cons (aB.refl _) (aI.cons (aB.refl _) (aI.cons (aB.refl _) (aI.cons (aB.refl _) (aI.cons (aB.refl _) (aI.cons (aB.refl _) (aI.cons (aB.refl _) (aI.cons (aN rfl) aI.nil))))))))) (aI.cons (aB.refl _) aI.nil)),trivial⟩)
  |(rw[NS As]
    exact⟨aB.cO (aI.cons (aB.agg (aI.cons (aB.refl _) (aI.cons (aB.refl _) (aI.cons (aB.refl _) (aI.cons (aB.refl _) (aI.cons (aB.refl _) (aI.cons (aB.refl _) (aI.cons (aB.refl _) (aI.cons (aN rfl) aI.nil))))))))) (aI.cons (aB.refl _) aI.nil)),trivial⟩)
/-! who is behind; what is sound -/
theorem XA{n:Nat}{gf:Nat->Nat->D}(num:Int)(opn:Bool)(ms:List jF)(id:Int)(f:Nat):((n=ms.length∧aJ n 32 gf (cellOf lY ms))∧f<=1∧ms.length<=1000)->Sc 56 [.agg [.d (.int .i64 num),.d (.bool opn),.d (.list n 32 gf)],.d (.int .i64 id),.d (.int .i64 f)] [] (.d (.int .i64 (lX ms id f))) []:=by
 rintro⟨⟨rfl,hr⟩,hf,hl⟩
 exact(index_spec ⟨num,opn,ms⟩ id f ⟨hf,hl⟩).arg (aI.cons (aB.agg (aI.cons (aB.refl _) (aI.cons (aB.refl _) (aI.cons (aB.d (aF.rows rfl hr)) aI.nil)))) (aI.cons (aB.refl _) (aI.cons (aB.refl _) aI.nil)))
set_option maxHeartbeats 2000000 in
theorem Xf(n:Int)(ids:List Int)(c:bD):(Small c∧ids.length<=1000)->Sc 20 [.d (.int .i64 n),.d (ay encI 1 ids),.agg (O8 c)] [] (.cO [.agg (GV (newG n ids c).1),.d (.int .i64 (newG n ids c).2)]) []:=by
 rintro⟨hs,hl⟩
 refine Si (fn:=Tryz.f20) Tryz.call20 ?_
 conv=>whnf
 repeat' first|((first|refine Ci (pX _) ?_|refine Cf (RV c) ?_ ?_|refine Sg ?_|refine Ni ?_ ?_);conv=>whnf)|(refine ah (fun _=> ?_) (fun _=> ?_)<;>(conv=>whnf))
 all_goals try exact hs
 all_goals try simp only[beq_iff_eq,beq_eq_false_iff_ne,Bool.not_eq_true',Bool.not_eq_false']at*
 all_goals try
  (rw[EX (.inl As)]
   refine⟨aB.cO (aI.cons (aB.agg (aI.cons (aB.refl _) (aI.cons (aB.refl _) (aI.cons (aN rfl) aI.nil)))) (aI.cons (aB.refl _) aI.nil)),trivial⟩
   done)
 all_goals try
  (rw[EX (.inr (.inl Om))]
   refine⟨aB.cO (aI.cons (aB.agg (aI.cons (aB.refl _) (aI.cons (aB.refl _) (aI.cons (aN rfl) aI.nil)))) (aI.cons (aB.refl _) aI.nil)),trivial⟩
   done)
 all_goals try
  (rw[EX (.inr (.inr (.inl As)))]
   refine⟨aB.cO (aI.cons (aB.agg (aI.cons (aB.refl _) (aI.cons (aB.refl _) (aI.cons (aN rfl) aI.nil)))) (aI.cons (aB.refl _) aI.nil)),trivial⟩
   done)
 all_goals
  have g1:gQ n=true:=As
  have g2:gJ c=true:=As
  have g4:ids.length≠0:=Om
  refine aA [0,1,5,6,7,27,28] [5,6] (fun i:Nat=>[(29,.d (.int .i64 i))]) (fun i=>[]) (fun i=>i<=ids.length∧(ids.take i).all gQ=true) (fun i=>ids.length-i) 0 ?_ (fun i hi=> ?_) ⟨Om,rfl⟩
  ·conv=>whnf
   repeat' first|((first|refine Sg ?_|refine Ni ?_ ?_);conv=>whnf)|(refine ah (fun _=> ?_) (fun _=> ?_)<;>(conv=>whnf))
   all_goals first|exact trivial|exact aF.refl _
  ·obtain⟨hi,hall⟩:=hi
   have hsi:IntKind.i64.wrap ((i:Int)+1)=((i+1:Nat):Int):=wrap_succ (n:=2000) Om Om
   have hst:=fun h=>afv (ids:=ids) (i:=i) h
   rcases Nat.lt_or_eq_of_le hi with hlt|rfl
   ·have hlt':decide ((i:Int)<((ids.length:Nat):Int))=true:=decide_eq_true Om
    conv=>whnf
    repeat' first|((first|refine Ci (pX _) ?_|refine aG.mk (i+1) ?_ ?_ ?_|refine Sg ?_|refine Ni ?_ ?_);conv=>whnf)|(refine ah (fun _=> ?_) (fun _=> ?_)<;>(conv=>whnf))
    all_goals try simp only[Int.toNat_natCast,Bool.not_eq_true',Bool.not_eq_false']at*
    all_goals first
     |exact trivial|omega|exact aF.refl _|exact aF.of_eq (by rw[hsi])|exact⟨Om,Om⟩|(refine⟨Om,?_⟩;rw[hst hlt,hall];assumption)
     |(rw[EX (.inr (.inr (.inr (ahD hlt As))))]
       refine⟨aB.cO (aI.cons (aB.agg (aI.cons (aB.refl _) (aI.cons (aB.refl _) (aI.cons (aN rfl) aI.nil)))) (aI.cons (aB.refl _) aI.nil)),trivial⟩
       done)
   ·have hlt':decide (((ids.length:Nat):Int)<((ids.length:Nat):Int))=false:=decide_eq_false Om
    have g3:ids.all gQ=true:=by rw[List.take_length]at hall;exact hall
    conv=>whnf
    repeat' first|((first|refine aG.mk 0 ?_ ?_ ?_|refine Sg ?_|refine Ni ?_ ?_);conv=>whnf)|(refine ah (fun _=> ?_) (fun _=> ?_)<;>(conv=>whnf))
    all_goals try simp only[decide_eq_true_eq,decide_eq_false_iff_not]at*
    all_goals try
     (rw[aa4 g1 g2 g3 Om]
      refine⟨aB.cO (aI.cons (aB.agg (aI.cons (aB.refl _) (aI.cons (aB.refl _) (aI.cons (aN rfl) aI.nil)))) (aI.cons (aB.refl _) aI.nil)),trivial⟩
      done)
    have g5: ¬ids.length>5:=Om
    refine aA [0,1,5,6,7,10,44,45] [5,6] (fun j:Nat=>[(46,.d (.int .i64 j))]) (fun j=>[(10,.box [.d (.int .i64 n),.d (.bool true),.bW 500 32 0 (nO c (ids.take j)).length]),(500,.row 138 32 (nO c (ids.take j)).length (cellOf lY (nO c (ids.take j))))]) (fun j=>j<=ids.length∧Fz ids 0=Fz ids j) (fun j=>ids.length-j) 0 ?_ (fun j hj=> ?_) ⟨Om,rfl⟩
    ·conv=>whnf
     repeat' first|((first|refine Sg ?_|refine Ni ?_ ?_);conv=>whnf)|(refine ah (fun _=> ?_) (fun _=> ?_)<;>(conv=>whnf))
     all_goals first|exact trivial|exact aF.refl _|exact aF.nil|exact⟨rfl,rfl⟩|exact⟨rfl,rfl,rfl⟩|exact aJ.refl _ _ _|trace_state
    ·obtain⟨hj,hd⟩:=hj
     have hsj:IntKind.i64.wrap ((j:Int)+1)=((j+1:Nat):Int):=wrap_succ (n:=2000) Om Om
     have hml:(nO c (ids.take j)).length=j:=by rw[KI,List.length_take];omega
     have hms:=fun h=>abd (c:=c) (ids:=ids) (j:=j) h
     have hds:=fun h=>aeR (ids:=ids) (j:=j) h
     have hde:=fun h=>ahg (ids:=ids) (j:=j) h
     have hix:lX (nO c (ids.take j)) (ids.getD j default) 0<0↔(ids.take j).contains (ids.getD j default)=false:=Um
     conv=>whnf
     repeat' first|((first|refine iD (XA _ _ (nO c (ids.take j)) _ 0) Fl (Ni ?_ ?_)|refine Cf (Bc c) ?_ ?_|refine aG.mk (j+1) ?_ ?_ ?_|refine Sg ?_|refine Ni ?_ ?_);conv=>whnf)|(refine ah (fun _=> ?_) (fun _=> ?_)<;>(conv=>whnf))
     all_goals try simp only[FP,FT,decide_eq_true_eq,decide_eq_false_iff_not,bne_iff_ne,ne_eq,Decidable.not_not,Bool.not_eq_true',Bool.not_eq_false',bne_eq_false_iff_eq]at*
     all_goals try simp only[Int.toNat_natCast]at*
     all_goals try first|exact trivial|omega|exact aF.refl _|exact aF.of_eq (by rw[hsj])|exact⟨Om,Om⟩|exact hs|exact⟨⟨trivial,row_zero⟩,Om,Om⟩|exact⟨⟨rfl,row_zero⟩,Om,Om⟩|exact⟨⟨trivial,row_zero⟩,Om⟩|exact⟨⟨rfl,row_zero⟩,Om⟩
     all_goals first
      |(have h8:lX (nO c (ids.take j)) (ids.getD j default) 0>=0:=As
        have h9:(ids.take j).contains (ids.getD j default)=true:=by
           cases h10:(ids.take j).contains (ids.getD j default)with
           |true=>rfl
           |false=>have:=hix.2 h10;omega
        rw[adN g1 g2 g3 g4 g5 (by rw[hd,hds Om,h9];rfl)]
        refine⟨aB.cO (aI.cons (aB.agg (aI.cons (aB.refl _) (aI.cons (aB.refl _) (aI.cons (aN rfl) aI.nil)))) (aI.cons (aB.refl _) aI.nil)),trivial⟩
        done)
      |(have h8: ¬lX (nO c (ids.take j)) (ids.getD j default) 0>=0:=As
        have h9:=hix.1 Om
        refine⟨Om,?_⟩
        rw[hd,hds Om,h9];rfl)
      |(rw[hms Om,List.length_append,List.length_singleton]
        refine aaB (x:=(⟨ids.getD j default,true,c⟩:jF)) rfl (aJ.refl _ _ _) ?_
        repeat' first|exact trivial|exact aF.refl _|apply And.intro
        done)
      |exact⟨trivial,trivial,by rw[hms Om,List.length_append,List.length_singleton]⟩|exact⟨trivial,Om,Om⟩
      |(have hjn:j=ids.length:=Om
        subst hjn
        rw[Y8 g1 g2 g3 g4 g5 (by rw[hd,hde Om]),List.take_length]
        exact⟨aB.cO (aI.cons (aB.agg (aI.cons (aB.refl _) (aI.cons (aB.refl _) (aI.cons (bn rfl) aI.nil)))) (aI.cons (aB.refl _) aI.nil)),trivial⟩)
end Go.Proofs.YtgdgkekpfmhbbaaGreatDoor
