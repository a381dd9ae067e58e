/- Contracts of functions that the law reaches: YtngdpchhogfhfaaGreatDoorNtx. Written for this claim. -/
import Derived.Test.YtngdpchhogfhfaaGreatDoorAct
import Derived.Test.YtngdpchhogfhfaaGreatDoorSxHan
namespace Go.Proofs.YtngdpchhogfhfaaGreatDoor
open Go Go.Sx Go.ChangeShapes Go.WideShapes Go.ChangeAt Go.RowKit
set_option linter.unusedVariables false
set_option linter.unusedSimpArgs false
set_option maxRecDepth 100000
theorem left0 {l : List Int} {a : Nat} : TapeOk l a → ∃ x : Bool × Nat, TapeOk l x.2 ∧ Sx.Spec Tryz.prog GG 8 [.ptr 1000 0] [(1000, tapeB l a)] (.d (.bool x.1)) [(1000, tapeB l x.2)] := by
  intro h
  refine spec_some (E := EE) (fn := Tryz.f8) _ _ _ false eok (by kernel_rfl) (by kernel_rfl) Tryz.call8 (by kernel_rfl) (fun _ => by kernel_rfl) (fun _ => by kernel_rfl) ?_
  conv => whnf
  repeat' first
    | (refine bc_true (by assumption) ?_; (conv => whnf))
    | (refine bc_false (by assumption) ?_; (conv => whnf))
    | (refine bc_intro (fun _ => ?_) (fun _ => ?_) <;> (conv => whnf))
    | (refine need_intro ?_ ?_; (conv => whnf))
    | (refine wk_refl ?_; (conv => whnf))
    | (refine draw_intro (by kernel_rfl) ?_; (conv => whnf))
    | (refine ord_intro (by kernel_rfl) ?_; (conv => whnf))
  all_goals exact ⟨(_, a), h, LeS.refl _, LeL.refl _, trivial⟩
theorem left_ex (m : Nat) {l : List Int} {a : Nat} : TapeOk l a → ∃ x : Bool × Nat, TapeOk l x.2 ∧ Sx.Spec Tryz.prog GG 8 [.ptr m 0] [(m, tapeB l a)] (.d (.bool x.1)) [(m, tapeB l x.2)] := fun h => by
  obtain ⟨x, hx, hs⟩ := left0 h
  exact ⟨x, hx, hs.at m⟩
theorem at3 {P : Program} {G : Nat → Option (Nat × (Nat → D))} {f : FuncId} {args : List SV} {n k p : Nat} {b b' c c' d d' : Blk} {res : SV} (h : Sx.Spec P G f args [(n, b), (k, c), (p, d)] res [(n, b'), (k, c'), (p, d')]) (m j q : Nat) (h1 : k ≠ n) (h2 : p ≠ n) (h3 : p ≠ k) (g1 : m ≠ j) (g2 : m ≠ q) (g3 : j ≠ q) :
    Sx.Spec P G f (renL (fun i => if i = n then m else if i = k then j else q) args) [(m, renB (fun i => if i = n then m else if i = k then j else q) b), (j, renB (fun i => if i = n then m else if i = k then j else q) c), (q, renB (fun i => if i = n then m else if i = k then j else q) d)] (renS (fun i => if i = n then m else if i = k then j else q) res)
      [(m, renB (fun i => if i = n then m else if i = k then j else q) b'), (j, renB (fun i => if i = n then m else if i = k then j else q) c'), (q, renB (fun i => if i = n then m else if i = k then j else q) d')] := by
  have := h.ren (fun i => if i = n then m else if i = k then j else q) (by
    intro x y hx hy e
    simp only [keysP, List.map_cons, List.map_nil, List.mem_cons, List.not_mem_nil, or_false] at hx hy
    rcases hx with rfl | rfl | rfl <;> rcases hy with rfl | rfl | rfl <;> simp_all [Ne.symm])
  simpa only [renP, if_true, if_neg h1, if_neg h2, if_neg h3] using this
theorem act_ex (m j k : Nat) (g1 : m ≠ j) (g2 : m ≠ k) (g3 : j ≠ k) {l : List Int} {a n : Nat} (gs : List GrpT) (N : Int) : (TapeOk l a ∧ gs.length = n ∧ 2 ≤ n ∧ n ≤ 100 ∧ InvN N gs ∧ N ≤ 1000) → ∃ x : (Nat × Nat × HEv) × Nat, ((x.1.1 < n ∧ x.1.2.1 < n) ∧ TapeOk l x.2) ∧
    Sx.Spec Tryz.prog GG 9 [.ptr m 0, .ptr j 0] [(m, .box [.osl k 3 0 n, .d (.int .i64 N)]), (j, tapeB l a), (k, .row 34 3 n (cellOf encGrp gs))]
      (.tup [.d (.int .i64 x.1.1), .d (.int .i64 x.1.2.1)]) [(m, .box [.osl k 3 0 n, .d (.int .i64 (evN N x.1.2.2))]), (j, tapeB l x.2), (k, .row 34 3 n (cellOf encGrp (evS N gs x.1.1 x.1.2.1 x.1.2.2)))] := fun h => by
  obtain ⟨x, hx, hs⟩ := act0 h
  exact ⟨x, hx, at3 hs m j k (by decide) (by decide) (by decide) g1 g2 g3⟩
theorem sound0 (gs : List GrpT) (N : Int) (n : Nat) : (gs.length = n ∧ n ≤ 100 ∧ ∀ i, i < n → (gs.getD i default).mem.length ≠ 0) → Sx.Spec Tryz.prog GG 10 [.ptr 2000 0] [(2000, .box [.osl 3000 3 0 n, .d (.int .i64 N)]), (3000, .row 34 3 n (cellOf encGrp gs))] (.d (.bool true))
    [(2000, .box [.osl 3000 3 0 n, .d (.int .i64 N)]), (3000, .row 34 3 n (cellOf encGrp gs))] := by
  rintro ⟨hl, hn, h⟩
  refine spec_intro (E := EE) (fn := Tryz.f10) eok (by kernel_rfl) (by kernel_rfl) Tryz.call10 (by kernel_rfl) (by kernel_rfl) ?_
  conv => whnf
  repeat' first
    | (refine bc_true (by assumption) ?_; (conv => whnf))
    | (refine bc_false (by assumption) ?_; (conv => whnf))
    | (refine need_intro ?_ ?_; (conv => whnf))
    | (refine wk_refl ?_; (conv => whnf))
    | (refine draw_intro (by kernel_rfl) ?_; (conv => whnf))
    | (refine ord_intro (by kernel_rfl) ?_; (conv => whnf))
  refine loop_auto [0, 8, 9] [2000, 3000] (fun i : Nat => [(10, .d (.int .i64 i))]) (fun i => []) (fun i => i ≤ n) (fun i => n - i) 0 ?_ (fun i hi => ?_) (by omega)
  · conv => whnf
    repeat' first
      | (refine bc_true (by assumption) ?_; (conv => whnf))
      | (refine bc_false (by assumption) ?_; (conv => whnf))
      | (refine bc_intro (fun _ => ?_) (fun _ => ?_) <;> (conv => whnf))
      | (refine need_intro ?_ ?_; (conv => whnf))
      | (refine wk_refl ?_; (conv => whnf))
      | (refine draw_intro (by kernel_rfl) ?_; (conv => whnf))
      | (refine ord_intro (by kernel_rfl) ?_; (conv => whnf))
    all_goals first | exact trivial | exact DLe.refl _ | exact DLe.nil | exact RowLe.refl _ _ _ | exact ⟨rfl, rfl⟩ | exact ⟨rfl, rfl, rfl⟩ | trace_state
  · have hs : IntKind.i64.wrap ((i : Int) + 1) = ((i + 1 : Nat) : Int) := wrap_succ (n := 2000) (by omega) (by omega)
    have hne : i < n → ¬ ((((gs.getD (0 + i) default).mem.length : Nat) : Int) = 0) := fun h2 => by have := h i h2; rw [Nat.zero_add]; omega
    conv => whnf
    repeat' first
      | (refine NextVC.mk (i + 1) ?_ ?_ ?_; (conv => whnf))
      | (refine bc_true (by assumption) ?_; (conv => whnf))
      | (refine bc_false (by assumption) ?_; (conv => whnf))
      | (refine bc_intro (fun _ => ?_) (fun _ => ?_) <;> (conv => whnf))
      | (refine need_intro ?_ ?_; (conv => whnf))
      | (refine wk_refl ?_; (conv => whnf))
      | (refine draw_intro (by kernel_rfl) ?_; (conv => whnf))
      | (refine ord_intro (by kernel_rfl) ?_; (conv => whnf))
    all_goals try simp only [decide_eq_true_eq, decide_eq_false_iff_not, beq_iff_eq] at *
    all_goals first
      | exact trivial
      | omega
      | exact DLe.refl _
      | exact RowLe.refl _ _ _
      | exact DLe.of_eq (by rw [hs])
      | exact ⟨by omega, by omega⟩
      | exact ⟨rfl, rfl⟩
      | exact ⟨rfl, rfl, rfl⟩
      | exact ⟨trivial, trivial, trivial⟩
      | (exfalso; exact hne (by omega) (by assumption))
      | trace_state
theorem sound_ex (m k : Nat) (g1 : m ≠ k) (gs : List GrpT) (N : Int) (n : Nat) : (gs.length = n ∧ n ≤ 100 ∧ ∀ i, i < n → (gs.getD i default).mem.length ≠ 0) → Sx.Spec Tryz.prog GG 10 [.ptr m 0] [(m, .box [.osl k 3 0 n, .d (.int .i64 N)]), (k, .row 34 3 n (cellOf encGrp gs))] (.d (.bool true))
    [(m, .box [.osl k 3 0 n, .d (.int .i64 N)]), (k, .row 34 3 n (cellOf encGrp gs))] := fun h => at2 (sound0 gs N n h) m k (by decide) g1
def pairF : GrpT := ⟨1, true, memL' pairC1 [1, 2]⟩
def pairT : GrpT := ⟨2, true, memL' pairC2 [3]⟩
def ranF : GrpT := ⟨1, true, memL' (rawC [97] false [102] false 4 0 []) [1, 2]⟩
def ranT : GrpT := ⟨2, true, memL' (rawC [102] false [122] false 8 0 [([107], [])]) [3]⟩
theorem run_pair : runG pairF pairT [102] false 1 1 = ((ranF, ranT), 0) := by rfl
theorem pair_b : GrpB 1000 pairF ∧ GrpB 1000 pairT := by
  refine ⟨⟨by simp [pairF, memL'], fun m hm => ?_⟩, ⟨by simp [pairT, memL'], fun m hm => ?_⟩⟩
  · simp [pairF, memL'] at hm
    rcases hm with rfl | rfl <;> simp [pairC1, noPart, I64]
  · simp [pairT, memL'] at hm
    rcases hm with rfl; simp [pairC2, noPart, I64]
theorem ran_b : GrpB 1000 ranF ∧ GrpB 1000 ranT := by
  refine ⟨⟨by simp [ranF, memL'], fun m hm => ?_⟩, ⟨by simp [ranT, memL'], fun m hm => ?_⟩⟩
  · simp [ranF, memL'] at hm
    rcases hm with rfl | rfl <;> simp [noPart, I64]
  · simp [ranT, memL'] at hm
    rcases hm with rfl; simp [noPart, I64]
theorem run_at {g1 g2 : Nat → Nat → D} : (RowLe 2 32 g1 (cellOf encMem pairF.mem) ∧ RowLe 1 32 g2 (cellOf encMem pairT.mem)) → Sx.Spec Tryz.prog GG 14 [.agg [.d (.int .i64 1), .d (.bool true), .d (.list 2 32 g1)], .agg [.d (.int .i64 2), .d (.bool true), .d (.list 1 32 g2)], .agg [.d (.str [102]), .d (.bool false)], .d (.int .i64 1), .d (.int .i64 1)] []
    (.tup [.agg (grpL ranF), .agg (grpL ranT), .d (.int .i64 0)]) [] := by
  rintro ⟨h1, h2⟩
  have := runp_spec pairF pairT [102] false 1 1 pair_b
  rw [run_pair] at this
  exact this.arg (LeL.cons (LeS.agg (LeL.cons (LeS.refl _) (LeL.cons (LeS.refl _) (LeL.cons (LeS.d (DLe.rows rfl h1)) LeL.nil)))) (LeL.cons (LeS.agg (LeL.cons (LeS.refl _) (LeL.cons (LeS.refl _) (LeL.cons (LeS.d (DLe.rows rfl h2)) LeL.nil)))) (LeL.cons (LeS.refl _) (LeL.cons (LeS.refl _) (LeL.cons (LeS.refl _) LeL.nil)))))
theorem owns_at (g : GrpT) (k : List UInt8) (b : Bool) : (GrpB 1000 g ∧ ownsG g k = b) → Sx.Spec Tryz.prog GG 15 [.agg (grpL g), .d (.str k)] [] (.d (.bool b)) [] := fun ⟨h, e⟩ => by
  rw [← e]; exact ownsp_spec g k h
theorem awake27_spec : Sx.Spec Tryz.prog GG 5 [] [] (.d (.bool true)) [] := by
  refine spec_intro (E := EE) (fn := Tryz.f5) eok (by kernel_rfl) (by kernel_rfl) Tryz.call5 (by kernel_rfl) (by kernel_rfl) ?_
  conv => whnf
  repeat' first
    | (refine call_intro (pair_spec 700 800 (by decide)) ?_ (by first | exact .inl rfl | exact .inr ⟨rfl, rfl⟩); (conv => whnf))
    | (refine call_if (run_at) (by first | exact .inl rfl | exact .inr ⟨rfl, rfl⟩) (need_intro ?_ ?_); (conv => whnf))
    | (refine call_if (owns_at ranT [107] true) (by first | exact .inl rfl | exact .inr ⟨rfl, rfl⟩) (need_intro ?_ ?_); (conv => whnf))
    | (refine call_if (owns_at ranF [107] false) (by first | exact .inl rfl | exact .inr ⟨rfl, rfl⟩) (need_intro ?_ ?_); (conv => whnf))
    | (refine bc_true (by assumption) ?_; (conv => whnf))
    | (refine bc_false (by assumption) ?_; (conv => whnf))
    | (refine bc_intro (fun _ => ?_) (fun _ => ?_) <;> (conv => whnf))
    | (refine need_intro ?_ ?_; (conv => whnf))
    | (refine wk_refl ?_; (conv => whnf))
    | (refine draw_intro (by kernel_rfl) ?_; (conv => whnf))
    | (refine ord_intro (by kernel_rfl) ?_; (conv => whnf))
  all_goals try first
    | exact ⟨row_zero, row_zero⟩
    | exact ⟨ran_b.1, rfl⟩
    | exact ⟨ran_b.2, rfl⟩
    | decide
    | exact ⟨by decide, by decide⟩
    | exact ⟨LeS.refl _, trivial⟩
    | (exfalso; simp at *; done)
  all_goals trace_state
end Go.Proofs.YtngdpchhogfhfaaGreatDoor
