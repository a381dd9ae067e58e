/- Contracts of functions that the law reaches: YtcllahjpinbiaaaDoorOddG. Written for this claim. -/
import Derived.Test.YtcllahjpinbiaaaDoorColL
namespace Go.Proofs.YtcllahjpinbiaaaDoor
open Go Go.Sx Go.ChangeShapes Go.WideShapes Go.ChangeAt Go.WideMaps Go.WideElems Go.RowKit
set_option linter.unusedVariables false
set_option linter.unusedSimpArgs false
set_option maxRecDepth 100000
set_option maxHeartbeats 4000000 in
theorem oddGroup0 {l : List Int} {a : Nat} {n : Nat} (g : GrpT) : (TapeOk l a ∧ OddB n g ∧ 70 ≤ n ∧ n ≤ 1900) → ∃ x : GrpT × Nat, (OddB (n + 1) x.1 ∧ TapeOk l x.2) ∧ Sx.Spec Tryd.prog GG 14 [.ptr 1000 0, .agg (grpL g)] [(1000, tapeB l a)] (.agg (grpL x.1)) [(1000, tapeB l x.2)] := by
  rintro ⟨h, hg, hn⟩
  have hln := hg.len
  have hat := fun (i : Nat) (h : i < g.mem.length) => hg.at h
  have hat' := fun (i : Nat) (h : i < g.mem.length) => (hg.at h).mono (Nat.le_succ n)
  refine spec_some (E := EE) (fn := Tryd.f14) _ _ _ false eok (by kernel_rfl) (by kernel_rfl) Tryd.call14 (by kernel_rfl) (fun _ => by kernel_rfl) (fun _ => by kernel_rfl) ?_
  conv => whnf
  repeat' first
    | (refine call_some_if (next_ex (n := (g.mem.length : Int)) _) (fun _ => by first | exact .inl rfl | exact .inr ⟨rfl, rfl⟩) (need_intro ?_ ?_); rintro ⟨i0, b⟩ ⟨⟨p1, p2⟩, h3⟩; (conv => whnf))
    | (refine call_some_if (next_ex _) (fun _ => by first | exact .inl rfl | exact .inr ⟨rfl, rfl⟩) (need_intro ?_ ?_); rintro ⟨v, b⟩ ⟨⟨h1, h2⟩, h3⟩; (conv => whnf))
    | (refine call_some_if (pickQ_ex _ I64) (fun _ => by first | exact .inl rfl | exact .inr ⟨rfl, rfl⟩) (need_intro ?_ ?_); rintro ⟨v, b⟩ ⟨h1, h2⟩; (conv => whnf))
    | (refine call_some_if (oddCopy_ex (n := n) _ _) (fun _ => by first | exact .inl rfl | exact .inr ⟨rfl, rfl⟩) (need_intro ?_ ?_); rintro ⟨c, b⟩ ⟨h1, h2⟩; (conv => whnf))
    | (refine bc_true (by assumption) ?_; (conv => whnf))
    | (refine bc_false (by assumption) ?_; (conv => whnf))
    | (refine bc_intro (fun _ => ?_) (fun _ => ?_) <;> (conv => whnf))
    | (refine need_intro ?_ ?_; (conv => whnf))
    | (refine wk_refl ?_; (conv => whnf))
    | (refine draw_intro (by kernel_rfl) ?_; (conv => whnf))
    | (refine ord_intro (by kernel_rfl) ?_; (conv => whnf))
  all_goals try simp only [cellsMem, bytesMem, decide_eq_true_eq, decide_eq_false_iff_not, Option.getD_some, Option.getD_none, Int.sub_zero] at *
  all_goals try first
    | (refine ⟨by assumption, ⟨by omega, by omega⟩, ?_⟩
       repeat' first
         | exact trivial
         | (refine ⟨_, rfl, ?_⟩
            first
              | assumption
              | (unfold I64; omega)
              | omega
              | (refine ⟨?_, ?_⟩ <;> omega))
         | apply And.intro
       done)
  all_goals try first
    | assumption
    | omega
    | exact ⟨by assumption, by omega, by omega⟩
    | exact ⟨by assumption, by omega⟩
    | exact ⟨by omega, by omega⟩
    | exact ⟨by omega, by omega, by omega⟩
    | exact ⟨by assumption, hat _ (by omega), by omega, by omega⟩
  all_goals try first
    | (skip
       refine ⟨(⟨_, g.opn, g.mem⟩, _), ⟨odd_same hg, by assumption⟩, LeS.agg (LeL.cons (LeS.refl _) (LeL.cons (LeS.refl _) (LeL.cons (LeS.d (DLe.rows ?_ (row_zero))) LeL.nil))), LeL.refl _, trivial⟩
       rfl)
    | (skip
       refine ⟨(⟨g.num, !g.opn, g.mem⟩, _), ⟨odd_same hg, by assumption⟩, LeS.agg (LeL.cons (LeS.refl _) (LeL.cons (LeS.refl _) (LeL.cons (LeS.d (DLe.rows ?_ (row_zero))) LeL.nil))), LeL.refl _, trivial⟩
       rfl)
    | exact ⟨(⟨g.num, g.opn, g.mem.take i0.toNat⟩, _), ⟨odd_take hg, by assumption⟩, LeS.agg (LeL.cons (LeS.refl _) (LeL.cons (LeS.refl _) (LeL.cons (LeS.d (cut_leaf (by omega))) LeL.nil))), LeL.refl _, trivial⟩
    | (skip
       refine ⟨(⟨g.num, g.opn, g.mem.set i0.toNat { g.mem.getD i0.toNat default with id := v }⟩, _), ⟨odd_set hg (hat' i0.toNat (by omega)), by assumption⟩, LeS.agg (LeL.cons (LeS.refl _) (LeL.cons (LeS.refl _) (LeL.cons (LeS.d (DLe.rows ?_ (row_setI (by omega)))) LeL.nil))), LeL.refl _, trivial⟩
       simp)
    | (skip
       refine ⟨(⟨g.num, g.opn, g.mem.set i0.toNat { g.mem.getD i0.toNat default with up := !(g.mem.getD (0 + i0.toNat) default).up }⟩, _), ⟨odd_set hg (hat' i0.toNat (by omega)), by assumption⟩, LeS.agg (LeL.cons (LeS.refl _) (LeL.cons (LeS.refl _) (LeL.cons (LeS.d (DLe.rows ?_ (row_setU' (by omega)))) LeL.nil))), LeL.refl _, trivial⟩
       simp)
    | (skip
       refine ⟨(⟨g.num, g.opn, g.mem.set i0.toNat { g.mem.getD i0.toNat default with copy := c }⟩, _), ⟨odd_set hg (by assumption), by assumption⟩, LeS.agg (LeL.cons (LeS.refl _) (LeL.cons (LeS.refl _) (LeL.cons (LeS.d (DLe.rows ?_ (row_setC' (by omega)))) LeL.nil))), LeL.refl _, trivial⟩
       simp)
  all_goals try
    (refine loop_auto [0, 3, 4] [4] (fun x : List MemT × Nat => []) (fun x => [(3, .box [.d (.int .i64 g.num), .d (.bool g.opn), .osl 500 32 0 x.1.length]), (500, .row 85 32 x.1.length (cellOf encMem x.1)), (1000, tapeB l x.2)])
       (fun x => (∀ m ∈ x.1, CopyB n m.copy) ∧ x.1.length ≤ 100 ∧ TapeOk l x.2) (fun x => 7 - x.1.length) (g.mem, _) ?ent (fun x hx => ?step) ⟨hg.all, hln, by assumption⟩
     case ent =>
       conv => whnf
       repeat' first
         | (refine bc_true (by assumption) ?_; (conv => whnf))
         | (refine bc_false (by assumption) ?_; (conv => whnf))
         | (refine bc_intro (fun _ => ?_) (fun _ => ?_) <;> (conv => whnf))
         | (refine need_intro ?_ ?_; (conv => whnf))
         | (refine wk_refl ?_; (conv => whnf))
         | (refine draw_intro (by kernel_rfl) ?_; (conv => whnf))
         | (refine ord_intro (by kernel_rfl) ?_; (conv => whnf))
       all_goals first | exact trivial | exact DLe.refl _ | exact RowLe.refl _ _ _ | exact ⟨rfl, rfl⟩ | exact ⟨rfl, rfl, rfl⟩ | trace_state
     case step =>
       obtain ⟨ms, b⟩ := x
       obtain ⟨hms, hml, hb⟩ := hx
       simp only at hms hml hb
       have hw1 : IntKind.i64.wrap (100 + (ms.length : Int)) = 100 + (ms.length : Int) := wrap_of (by omega) (by omega)
       have w5 : ∀ v : Int, 0 ≤ v → (v < 2 ∨ v = 0) → IntKind.i64.wrap (5 + v) = 5 + v := fun v h1 h2 => wrap_of (by omega) (by omega)
       conv => whnf
       repeat' first
         | (refine call_some_if (next_ex _) (fun _ => by first | exact .inl rfl | exact .inr ⟨rfl, rfl⟩) (need_intro ?_ ?_); rintro ⟨v, b⟩ ⟨⟨h1, h2⟩, h3⟩; (conv => whnf))
         | (refine NextVC.mk (ms ++ [{ ms.getD 0 default with id := 100 + (ms.length : Int) }], b) ?_ ?_ ?_; (conv => whnf))
         | (refine bc_true (by assumption) ?_; (conv => whnf))
         | (refine bc_false (by assumption) ?_; (conv => whnf))
         | (refine bc_intro (fun _ => ?_) (fun _ => ?_) <;> (conv => whnf))
         | (refine need_intro ?_ ?_; (conv => whnf))
         | (refine wk_refl ?_; (conv => whnf))
         | (refine draw_intro (by kernel_rfl) ?_; (conv => whnf))
         | (refine ord_intro (by kernel_rfl) ?_; (conv => whnf))
       all_goals try simp only [cellsMem, bytesMem, true_and, and_true, decide_eq_true_eq, decide_eq_false_iff_not, List.length_append, List.length_singleton] at *
       all_goals first
         | exact trivial
         | exact DLe.refl _
         | omega
         | assumption
         | exact ⟨by omega, by omega⟩
         | exact ⟨by assumption, by omega, by omega⟩
         | exact ⟨odd_snoc hms (by omega), by omega, by assumption⟩
         | (have hw := w5 _ h1 h2
            simp only [hw] at *
            first
              | omega
              | exact ⟨odd_snoc hms (by omega), by omega, by assumption⟩)
         | (refine row_snocA (x := ({ ms.getD 0 default with id := 100 + (ms.length : Int) } : MemT)) rfl (RowLe.refl _ _ _) ?_
            repeat' first
              | exact trivial
              | exact DLe.refl _
              | exact DLe.of_eq (by rw [hw1]; rfl)
              | apply And.intro
            done)
         | (refine row_snocA (x := ({ ms.getD 0 default with id := 100 + (ms.length : Int) } : MemT)) rfl row_zero ?_
            repeat' first
              | exact trivial
              | exact DLe.refl _
              | exact DLe.of_eq (by rw [hw1]; rfl)
              | apply And.intro
            done)
         | exact ⟨(⟨g.num, g.opn, ms⟩, _), ⟨⟨hml, fun m hm => (hms m hm).mono (by omega)⟩, by assumption⟩, LeS.agg (LeL.cons (LeS.refl _) (LeL.cons (LeS.refl _) (LeL.cons (les_own rfl) LeL.nil))), LeL.refl _, trivial⟩
         | exact ⟨(⟨g.num, g.opn, ms⟩, _), ⟨⟨hml, fun m hm => (hms m hm).mono (by omega)⟩, by assumption⟩, LeS.agg (LeL.cons (LeS.refl _) (LeL.cons (LeS.refl _) (LeL.cons (LeS.d (DLe.rows rfl row_zero)) LeL.nil))), LeL.refl _, trivial⟩
         | trace_state)
  all_goals trace_state
theorem oddGroup_ex (m : Nat) {l : List Int} {a : Nat} {n : Nat} (g : GrpT) : (TapeOk l a ∧ OddB n g ∧ 70 ≤ n ∧ n ≤ 1900) → ∃ x : GrpT × Nat, (OddB (n + 1) x.1 ∧ TapeOk l x.2) ∧ Sx.Spec Tryd.prog GG 14 [.ptr m 0, .agg (grpL g)] [(m, tapeB l a)] (.agg (grpL x.1)) [(m, tapeB l x.2)] := fun h => by
  obtain ⟨x, hx, hs⟩ := oddGroup0 g h
  exact ⟨x, hx, hs.at m⟩
end Go.Proofs.YtcllahjpinbiaaaDoor
