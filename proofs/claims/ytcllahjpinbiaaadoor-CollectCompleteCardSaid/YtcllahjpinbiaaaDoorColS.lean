/- Contracts of functions that the law reaches: YtcllahjpinbiaaaDoorColS. Written for this claim. -/
import Derived.Test.YtcllahjpinbiaaaDoorColM
namespace Go.Proofs.YtcllahjpinbiaaaDoor
open Go Go.Sx Go.ChangeShapes Go.WideShapes Go.ChangeAt Go.WideMaps Go.WideElems Go.RowKit
set_option linter.unusedVariables false
set_option linter.unusedSimpArgs false
set_option maxRecDepth 100000
theorem storep_own (m : Nat) (l : List StoT) (s : StoT) {n : Nat} {g : Nat → Nat → D} : ((n = l.length ∧ RowLe n 33 g (cellOf encSto l)) ∧ StoB 999000 l ∧ SmallC s.copy) → Sx.Spec Tryd.prog GG 26 [.d (.list n 33 g), .agg (stoL s)] [] (.osl m 33 0 (storeS l s).length) [(m, .row 59 33 (storeS l s).length (cellOf encSto (storeS l s)))] := fun ⟨⟨e, hr⟩, h⟩ => by
  subst e
  exact (storep_at m l s h).arg (LeL.cons (LeS.d (DLe.rows rfl hr)) (LeL.refl _))
theorem saveAll_b {ser : Int} : ∀ {gs : List GrpT} {x : List StoT} {n : Nat}, StoB n x → (∀ g ∈ gs, SndG g) → StoB (n + 5 * gs.length) (saveAll x ser gs)
  | [], _, _, h, _ => h
  | g :: gs, x, n, h, hg => by
    have h1 : StoB (n + 5) (saveS x g.num ser g.mem) := (stob_save h (fun m hm => ((hg g (by simp)).all m hm).2.2)).mono (by have := (hg g (by simp)).n5; omega)
    have := saveAll_b (ser := ser) h1 (fun k hk => hg k (List.mem_cons_of_mem _ hk))
    have e : saveAll x ser (g :: gs) = saveAll (saveS x g.num ser g.mem) ser gs := rfl
    rw [e]
    exact this.mono (by simp only [List.length_cons]; omega)
def savN (x : List StoT) (num ser : Int) (ms : List MemT) (i : Nat) : List StoT := saveS x num ser (ms.take i)
set_option maxHeartbeats 2000000 in
theorem save_own0 (x : List StoT) (g : GrpT) (ser : Int) : (StoB 900000 x ∧ GrpB 1000 g ∧ 1 ≤ g.mem.length ∧ ∀ m ∈ g.mem, m.up = true) → Sx.Spec Tryd.prog GG 34 [.d (encL encSto 33 x), .agg (grpL g), .d (.int .i64 ser)] [] (.osl 1000 33 0 (saveS x g.num ser g.mem).length) [(1000, .row 59 33 (saveS x g.num ser g.mem).length (cellOf encSto (saveS x g.num ser g.mem)))] := by
  rintro ⟨h, hg, h1, hu⟩
  have hl := hg.len
  have hsv := fun i => save_small (num := g.num) (ser := ser) (ms := g.mem) h (fun m hm => (hg.small m hm).1) i
  refine spec_intro (E := EE) (fn := Tryd.f34) eok (by kernel_rfl) (by kernel_rfl) Tryd.call34 (by kernel_rfl) (by kernel_rfl) ?_
  conv => whnf
  repeat' first
    | (refine bc_true (by assumption) ?_; (conv => whnf))
    | (refine bc_false (by assumption) ?_; (conv => whnf))
    | (refine need_intro ?_ ?_; (conv => whnf))
    | (refine wk_refl ?_; (conv => whnf))
    | (refine draw_intro (by kernel_rfl) ?_; (conv => whnf))
    | (refine ord_intro (by kernel_rfl) ?_; (conv => whnf))
  refine loop_auto [2, 4, 6, 10, 11] [4] (fun i : Bool × Nat => match i.1 with
    | true => [(12, .d (.int .i64 i.2)), (0, .d (encL encSto 33 x))]
    | false => [(12, .d (.int .i64 i.2)), (0, .osl 500 33 0 (saveS x g.num ser (g.mem.take i.2)).length)]) (fun i => match i.1 with
    | true => []
    | false => [(500, .row 59 33 (saveS x g.num ser (g.mem.take i.2)).length (cellOf encSto (saveS x g.num ser (g.mem.take i.2))))]) (fun i => i.2 ≤ g.mem.length ∧ (i.1 = true → i.2 = 0)) (fun i => g.mem.length - i.2) (true, 0) ?_ (fun i hi => ?_) ⟨by simp, fun _ => rfl⟩
  · conv => whnf
    repeat' first
      | (refine bc_true (by assumption) ?_; (conv => whnf))
      | (refine bc_false (by assumption) ?_; (conv => whnf))
      | (refine bc_intro (fun _ => ?_) (fun _ => ?_) <;> (conv => whnf))
      | (refine need_intro ?_ ?_; (conv => whnf))
      | (refine wk_refl ?_; (conv => whnf))
      | (refine draw_intro (by kernel_rfl) ?_; (conv => whnf))
      | (refine ord_intro (by kernel_rfl) ?_; (conv => whnf))
    all_goals first | exact trivial | exact DLe.refl _ | exact DLe.nil | exact RowLe.refl _ _ _ | exact ⟨rfl, rfl⟩ | exact ⟨rfl, rfl, rfl⟩ | trace_state
  · obtain ⟨fl, i⟩ := i
    obtain ⟨hi, hf⟩ := hi
    simp only at hi hf
    have hs : IntKind.i64.wrap ((i : Int) + 1) = ((i + 1 : Nat) : Int) := wrap_succ (n := 2000000) (by omega) (by omega)
    have hmi := mem_small hg i
    have hup : i < g.mem.length → (g.mem.getD i default).up = true := fun h => hu _ (getD_mem h)
    have ht : i < g.mem.length → saveS x g.num ser (g.mem.take (i + 1)) = storeS (saveS x g.num ser (g.mem.take i)) ⟨(g.mem.getD i default).id, g.num, ser, (g.mem.getD i default).copy⟩ := fun h => by rw [save_take h, if_pos (hup h)]
    have hsb := (hsv i).mono (m := 999000) (by omega)
    cases fl
    · conv => whnf
      repeat' first
        | (refine call_if (storep_own 700 (saveS x g.num ser (g.mem.take i)) ⟨(g.mem.getD i default).id, g.num, ser, (g.mem.getD i default).copy⟩) (by first | exact .inl rfl | exact .inr ⟨rfl, rfl⟩) (need_intro ?_ ?_); (conv => whnf))
        | (refine NextVC.mk (false, i + 1) ?_ ?_ ?_; (conv => whnf))
        | (refine bc_true (by assumption) ?_; (conv => whnf))
        | (refine bc_false (by assumption) ?_; (conv => whnf))
        | (refine bc_intro (fun _ => ?_) (fun _ => ?_) <;> (conv => whnf))
        | (refine need_intro ?_ ?_; (conv => whnf))
        | (refine wk_refl ?_; (conv => whnf))
        | (refine draw_intro (by kernel_rfl) ?_; (conv => whnf))
        | (refine ord_intro (by kernel_rfl) ?_; (conv => whnf))
      all_goals try simp only [cellsSto, bytesSto, cellsMrk, bytesMrk, cellsIntG, bytesIntG, true_and, and_true, decide_eq_true_eq, decide_eq_false_iff_not, beq_iff_eq, bne_iff_ne, beq_eq_false_iff_ne, bne_eq_false_iff_eq, ne_eq, Decidable.not_not, Bool.not_eq_true', Bool.not_eq_false', Int.toNat_natCast] at *
      all_goals first
        | exact trivial
        | omega
        | exact DLe.refl _
        | exact ⟨⟨trivial, row_zero⟩, hsb, hmi⟩
        | exact ⟨⟨rfl, row_zero⟩, hsb, hmi⟩
        | exact ⟨row_zero, hsb, hmi⟩
        | exact DLe.of_eq (by rw [hs])
        | exact ⟨by omega, by omega⟩
        | exact ⟨by omega, fun e => (by cases e)⟩
        | (rw [ht (by omega)]; done)
        | (rw [ht (by omega)]; exact RowLe.refl _ _ _)
        | exact ⟨trivial, trivial, by rw [ht (by omega)]⟩
        | exact ⟨rfl, rfl, by rw [ht (by omega)]⟩
        | (exfalso; have := hup (by omega); simp_all; done)
        | (have e : i = g.mem.length := by omega
           subst e
           simp only [List.take_length] at *
           first
             | exact trivial
             | exact RowLe.refl _ _ _
             | exact ⟨rfl, rfl⟩
             | exact ⟨rfl, rfl, rfl⟩
             | exact ⟨trivial, trivial, trivial⟩
             | trace_state)
        | trace_state
    · have hi0 : i = 0 := hf rfl
      subst hi0
      have ht : 0 < g.mem.length → saveS x g.num ser (g.mem.take 1) = storeS x ⟨(g.mem.getD 0 default).id, g.num, ser, (g.mem.getD 0 default).copy⟩ := fun h => by
        have h9 := ht h
        simp only [Nat.zero_add, List.take_zero, saveS] at h9
        exact h9
      conv => whnf
      repeat' first
        | (refine call_if (storep_at 700 x ⟨(g.mem.getD 0 default).id, g.num, ser, (g.mem.getD 0 default).copy⟩) (by first | exact .inl rfl | exact .inr ⟨rfl, rfl⟩) (need_intro ?_ ?_); (conv => whnf))
        | (refine NextVC.mk (false, 1) ?_ ?_ ?_; (conv => whnf))
        | (refine bc_true (by assumption) ?_; (conv => whnf))
        | (refine bc_false (by assumption) ?_; (conv => whnf))
        | (refine bc_intro (fun _ => ?_) (fun _ => ?_) <;> (conv => whnf))
        | (refine need_intro ?_ ?_; (conv => whnf))
        | (refine wk_refl ?_; (conv => whnf))
        | (refine draw_intro (by kernel_rfl) ?_; (conv => whnf))
        | (refine ord_intro (by kernel_rfl) ?_; (conv => whnf))
      all_goals try simp only [cellsSto, bytesSto, cellsMrk, bytesMrk, cellsIntG, bytesIntG, true_and, and_true, decide_eq_true_eq, decide_eq_false_iff_not, beq_iff_eq, bne_iff_ne, beq_eq_false_iff_ne, bne_eq_false_iff_eq, ne_eq, Decidable.not_not, Bool.not_eq_true', Bool.not_eq_false', Int.toNat_natCast] at *
      all_goals first
        | exact trivial
        | omega
        | exact DLe.refl _
        | exact ⟨h.mono (by omega), hmi⟩
        | exact DLe.of_eq (by rw [hs])
        | exact DLe.of_eq rfl
        | exact ⟨by omega, by omega⟩
        | exact ⟨by omega, fun e => (by cases e)⟩
        | (rw [ht (by omega)]; done)
        | (rw [ht (by omega)]; exact RowLe.refl _ _ _)
        | exact ⟨trivial, trivial, by rw [ht (by omega)]⟩
        | exact ⟨rfl, rfl, by rw [ht (by omega)]⟩
        | (exfalso; have := hup (by omega); simp_all; done)
        | trace_state
theorem sndn_mem0 {gs : List GrpT} (h : NetQ gs) : ∀ g ∈ gs, SndG g := fun g hg => by
  obtain ⟨j, hj, rfl⟩ := List.getElem_of_mem hg
  have := (h.all j hj).snd
  simpa [List.getD, hj] using this
end Go.Proofs.YtcllahjpinbiaaaDoor
