/- Contracts of functions that the law reaches: YtohenbaodklohaaDoorCol. Written for this claim. -/
import Derived.Test.YtohenbaodklohaaDoorGrpT
import Derived.Test.YtohenbaodklohaaDoorSxCol
namespace Go.Proofs.YtohenbaodklohaaDoor
open Go Go.Sx Go.ChangeShapes Go.WideShapes Go.ChangeAt Go.RowKit
set_option linter.unusedVariables false
set_option linter.unusedSimpArgs false
set_option maxRecDepth 100000
/-! stores (chapter 34) -/
def encSto (s : StoT) : List D := .int .i64 s.node :: .int .i64 s.grp :: .int .i64 s.ser :: encCopy s.copy
abbrev stoL (s : StoT) : List SV := .d (.int .i64 s.node) :: .d (.int .i64 s.grp) :: .d (.int .i64 s.ser) :: copyL s.copy
def encMrk (m : MrkT) : List D := [.int .i64 m.grp, encL encI 1 m.nodes]
abbrev swpL (c : SwpT) : List SV := [.d (encL encMrk 2 c.marks), .d (.int .i64 c.ser), .d (.int .i64 c.pos)]
def encGrp (g : GrpT) : List D := [.int .i64 g.num, .bool g.opn, encL encMem 32 g.mem]
instance : Inhabited GrpT := ⟨⟨0, false, []⟩⟩
theorem cellsSto : Tryd.prog.cellsOf 82 = 33 := by kernel_rfl
theorem bytesSto : Tryd.prog.bytesOf 82 = 376 := by kernel_rfl
theorem cellsMrk : Tryd.prog.cellsOf 114 = 2 := by kernel_rfl
theorem bytesMrk : Tryd.prog.bytesOf 114 = 32 := by kernel_rfl
theorem cloneS0 (xs : List StoT) : xs.length ≤ 1000000 → Sx.Spec Tryd.prog GG 72 [.d (encL encSto 33 xs)] [] (.osl 1000 33 0 xs.length) [(1000, .row 82 33 xs.length (cellOf encSto xs))] := by
  intro hl
  refine spec_intro (E := EE) (fn := Tryd.f72) eok (by kernel_rfl) (by kernel_rfl) Tryd.call72 (by kernel_rfl) (by kernel_rfl) ?_
  conv => whnf
  repeat' first
    | (refine bc_true (by assumption) ?_; (conv => whnf))
    | (refine bc_false (by assumption) ?_; (conv => whnf))
    | (refine bc_intro (fun _ => ?_) (fun _ => ?_) <;> (conv => whnf))
    | (refine need_intro ?_ ?_; (conv => whnf))
    | (refine wk_refl ?_; (conv => whnf))
    | (refine draw_intro (by kernel_rfl) ?_; (conv => whnf))
    | (refine ord_intro (by kernel_rfl) ?_; (conv => whnf))
  all_goals try simp only [cellsSto, bytesSto, cellsMrk, bytesMrk, cellsIntG, bytesIntG, true_and, and_true, decide_eq_true_eq, decide_eq_false_iff_not, beq_iff_eq, bne_iff_ne, beq_eq_false_iff_ne, bne_eq_false_iff_eq, ne_eq, Decidable.not_not, Bool.not_eq_true', Bool.not_eq_false', Int.toNat_natCast] at *
  all_goals first
    | exact trivial
    | omega
    | exact DLe.refl _
    | exact RowLe.refl _ _ _
    | exact ⟨by omega, by omega⟩
    | trace_state
theorem cloneS_at (m : Nat) (xs : List StoT) : xs.length ≤ 1000000 → Sx.Spec Tryd.prog GG 72 [.d (encL encSto 33 xs)] [] (.osl m 33 0 xs.length) [(m, .row 82 33 xs.length (cellOf encSto xs))] := fun h => (cloneS0 xs h).new1 m
/-- a copy is stored into its own place -/
theorem row_sameS {xs : List StoT} {p n : Nat} : RowLe n 33 (fun i' j' => if i' = 0 + p then if j' < 0 + 3 then cellOf encSto xs i' j' else if j' < 0 + 3 + (encCopy (xs.getD p default).copy).length then (encCopy (xs.getD p default).copy).getD (j' - (0 + 3)) default else cellOf encSto xs i' j' else cellOf encSto xs i' j')
    (cellOf encSto xs) := by
  refine .of_eq fun i' j' _ hj => ?_
  have hl : (encCopy (xs.getD p default).copy).length = 30 := rfl
  by_cases hi : i' = 0 + p
  · rw [Nat.zero_add] at hi
    subst hi
    simp only [Nat.zero_add, if_pos, hl]
    match j', hj with
    | 0, _ => rfl
    | 1, _ => rfl
    | 2, _ => rfl
    | j + 3, hj =>
      rw [if_neg (by omega), if_pos (by omega)]
      simp only [cellOf, encSto, Nat.add_sub_cancel]
      rfl
  · simp only [if_neg hi]
set_option maxHeartbeats 1000000 in
theorem whole0 (xs : List StoT) : StoB 1000000 xs → Sx.Spec Tryd.prog GG 48 [.d (encL encSto 33 xs)] [] (.osl 1000 33 0 xs.length) [(1000, .row 82 33 xs.length (cellOf encSto xs))] := by
  intro h
  have hl := h.len
  have hm := fun i => sto_small h i
  refine spec_intro (E := EE) (fn := Tryd.f48) eok (by kernel_rfl) (by kernel_rfl) Tryd.call48 (by kernel_rfl) (by kernel_rfl) ?_
  conv => whnf
  repeat' first
    | (refine call_if (cloneS_at 1000 xs) (by first | exact .inl rfl | exact .inr ⟨rfl, rfl⟩) (need_intro ?_ ?_); (conv => whnf))
    | (refine bc_true (by assumption) ?_; (conv => whnf))
    | (refine bc_false (by assumption) ?_; (conv => whnf))
    | (refine need_intro ?_ ?_; (conv => whnf))
    | (refine wk_refl ?_; (conv => whnf))
    | (refine draw_intro (by kernel_rfl) ?_; (conv => whnf))
    | (refine ord_intro (by kernel_rfl) ?_; (conv => whnf))
  all_goals try first | omega
  refine loop_auto [0, 6, 7] [] (fun i : Nat => [(8, .d (.int .i64 i))]) (fun i => [(1000, .row 82 33 xs.length (cellOf encSto xs))]) (fun i => i ≤ xs.length) (fun i => xs.length - i) 0 ?_ (fun i hi => ?_) (by omega)
  · conv => whnf
    repeat' first
      | (refine bc_true (by assumption) ?_; (conv => whnf))
      | (refine bc_false (by assumption) ?_; (conv => whnf))
      | (refine bc_intro (fun _ => ?_) (fun _ => ?_) <;> (conv => whnf))
      | (refine need_intro ?_ ?_; (conv => whnf))
      | (refine wk_refl ?_; (conv => whnf))
      | (refine draw_intro (by kernel_rfl) ?_; (conv => whnf))
      | (refine ord_intro (by kernel_rfl) ?_; (conv => whnf))
    all_goals first | exact trivial | exact DLe.refl _ | exact DLe.nil | exact RowLe.refl _ _ _ | exact ⟨rfl, rfl⟩ | exact ⟨rfl, rfl, rfl⟩ | trace_state
  · have hs : IntKind.i64.wrap ((i : Int) + 1) = ((i + 1 : Nat) : Int) := wrap_succ (n := 2000000) (by omega) (by omega)
    conv => whnf
    repeat' first
      | (refine call_if (cloneC_spec (xs.getD (0 + i) default).copy) (by first | exact .inl rfl | exact .inr ⟨rfl, rfl⟩) (need_intro ?_ ?_); (conv => whnf))
      | (refine NextVC.mk (i + 1) ?_ ?_ ?_; (conv => whnf))
      | (refine bc_true (by assumption) ?_; (conv => whnf))
      | (refine bc_false (by assumption) ?_; (conv => whnf))
      | (refine bc_intro (fun _ => ?_) (fun _ => ?_) <;> (conv => whnf))
      | (refine need_intro ?_ ?_; (conv => whnf))
      | (refine wk_refl ?_; (conv => whnf))
      | (refine draw_intro (by kernel_rfl) ?_; (conv => whnf))
      | (refine ord_intro (by kernel_rfl) ?_; (conv => whnf))
    all_goals try simp only [cellsSto, bytesSto, cellsMrk, bytesMrk, cellsIntG, bytesIntG, true_and, and_true, decide_eq_true_eq, decide_eq_false_iff_not, beq_iff_eq, bne_iff_ne, beq_eq_false_iff_ne, bne_eq_false_iff_eq, ne_eq, Decidable.not_not, Bool.not_eq_true', Bool.not_eq_false', Int.toNat_natCast] at *
    all_goals first
      | exact trivial
      | omega
      | exact DLe.refl _
      | exact RowLe.refl _ _ _
      | exact hm _
      | exact DLe.of_eq (by rw [hs])
      | exact ⟨by omega, by omega⟩
      | exact ⟨rfl, rfl⟩
      | exact ⟨rfl, rfl, rfl⟩
      | exact ⟨trivial, trivial, trivial⟩
      | exact row_sameS
      | (have hz : 0 + i = i := Nat.zero_add i
         have := row_sameS (xs := xs) (p := i) (n := xs.length)
         simp only [hz] at this ⊢
         exact this)
      | trace_state
theorem whole_at (m : Nat) (xs : List StoT) {n : Nat} {g : Nat → Nat → D} : ((n = xs.length ∧ RowLe n 33 g (cellOf encSto xs)) ∧ StoB 1000000 xs) → Sx.Spec Tryd.prog GG 48 [.d (.list n 33 g)] [] (.osl m 33 0 xs.length) [(m, .row 82 33 xs.length (cellOf encSto xs))] := fun ⟨⟨e, hr⟩, h⟩ => by
  subst e
  exact ((whole0 xs h).new1 m).arg (LeL.cons (LeS.d (DLe.rows rfl hr)) LeL.nil)
theorem sto_dead {ms : List MrkT} {n g : Int} : markedS ms n g = ms.any fun m => m.grp == g && m.nodes.contains n := rfl
theorem any_at {ms : List MrkT} {n g : Int} {i : Nat} (h : i < ms.length) : markedS (ms.drop i) n g = (((ms.getD i default).grp == g && (ms.getD i default).nodes.contains n) || markedS (ms.drop (i + 1)) n g) := by
  rw [drop_cons' h, markedS, List.any_cons]; rfl
theorem any_done {ms : List MrkT} {n g : Int} {i : Nat} (h : ms.length ≤ i) : markedS (ms.drop i) n g = false := by
  rw [List.drop_eq_nil_of_le h]; rfl
theorem has_at {l : List Int} {n : Int} {i : Nat} (h : i < l.length) : (l.drop i).contains n = (l.getD i default == n || (l.drop (i + 1)).contains n) := by
  rw [drop_cons' h, List.contains_cons]
  congr 1
  rw [Bool.eq_iff_iff]; simp only [beq_iff_eq]; exact eq_comm
theorem has_done {l : List Int} {n : Int} {i : Nat} (h : l.length ≤ i) : (l.drop i).contains n = false := by
  rw [List.drop_eq_nil_of_le h]; rfl
/-- marks with bounded lists -/
structure MrkB (ms : List MrkT) : Prop where
  len : ms.length ≤ 1000000
  nodes : ∀ m ∈ ms, m.nodes.length ≤ 1000000
theorem mrk_at {ms : List MrkT} (h : MrkB ms) (i : Nat) : (ms.getD i default).nodes.length ≤ 1000000 := by
  rcases Nat.lt_or_ge i ms.length with hi | hi
  · exact h.nodes _ (getD_mem hi)
  · have e : ms.getD i default = default := by simp [List.getD, hi]
    rw [e]; simp [default]
theorem deadp_spec (ms : List MrkT) (ser : Int) (s : StoT) : MrkB ms → Sx.Spec Tryd.prog GG 49 [.d (encL encMrk 2 ms), .d (.int .i64 ser), .agg (stoL s)] [] (.d (.bool (deadS ms ser s))) [] := by
  intro hm
  have hl := hm.len
  refine spec_intro (E := EE) (fn := Tryd.f49) eok (by kernel_rfl) (by kernel_rfl) Tryd.call49 (by kernel_rfl) (by kernel_rfl) ?_
  conv => whnf
  repeat' first
    | (refine bc_true (by assumption) ?_; (conv => whnf))
    | (refine bc_false (by assumption) ?_; (conv => whnf))
    | (refine need_intro ?_ ?_; (conv => whnf))
    | (refine wk_refl ?_; (conv => whnf))
    | (refine draw_intro (by kernel_rfl) ?_; (conv => whnf))
    | (refine ord_intro (by kernel_rfl) ?_; (conv => whnf))
  refine bc_intro (fun h0 => ?_) (fun h0 => ?_)
  · conv => whnf
    repeat' first
      | (refine bc_true (by assumption) ?_; (conv => whnf))
      | (refine bc_false (by assumption) ?_; (conv => whnf))
      | (refine bc_intro (fun _ => ?_) (fun _ => ?_) <;> (conv => whnf))
      | (refine need_intro ?_ ?_; (conv => whnf))
      | (refine wk_refl ?_; (conv => whnf))
      | (refine draw_intro (by kernel_rfl) ?_; (conv => whnf))
      | (refine ord_intro (by kernel_rfl) ?_; (conv => whnf))
    all_goals try simp only [cellsSto, bytesSto, cellsMrk, bytesMrk, cellsIntG, bytesIntG, true_and, and_true, decide_eq_true_eq, decide_eq_false_iff_not, beq_iff_eq, bne_iff_ne, beq_eq_false_iff_ne, bne_eq_false_iff_eq, ne_eq, Decidable.not_not, Bool.not_eq_true', Bool.not_eq_false', Int.toNat_natCast] at *
    refine ⟨LeS.of_eq ?_, trivial⟩
    rw [deadS, decide_eq_false (by omega)]; rfl
  conv => whnf
  repeat' first
    | (refine bc_true (by assumption) ?_; (conv => whnf))
    | (refine bc_false (by assumption) ?_; (conv => whnf))
    | (refine need_intro ?_ ?_; (conv => whnf))
    | (refine wk_refl ?_; (conv => whnf))
    | (refine draw_intro (by kernel_rfl) ?_; (conv => whnf))
    | (refine ord_intro (by kernel_rfl) ?_; (conv => whnf))
  simp only [decide_eq_false_iff_not] at h0
  refine loop_auto [1, 5, 6, 15, 16] [5] (fun i : Nat × Unit => [(17, .d (.int .i64 i.1))]) (fun i => []) (fun i => i.1 ≤ ms.length ∧ markedS ms s.node s.grp = markedS (ms.drop i.1) s.node s.grp) (fun i => ms.length - i.1) (0, ()) ?_ (fun i hi => ?_) ⟨by simp, rfl⟩
  · conv => whnf
    repeat' first
      | (refine bc_true (by assumption) ?_; (conv => whnf))
      | (refine bc_false (by assumption) ?_; (conv => whnf))
      | (refine bc_intro (fun _ => ?_) (fun _ => ?_) <;> (conv => whnf))
      | (refine need_intro ?_ ?_; (conv => whnf))
      | (refine wk_refl ?_; (conv => whnf))
      | (refine draw_intro (by kernel_rfl) ?_; (conv => whnf))
      | (refine ord_intro (by kernel_rfl) ?_; (conv => whnf))
    all_goals first | exact trivial | exact DLe.refl _ | exact DLe.nil | exact RowLe.refl _ _ _ | exact ⟨rfl, rfl⟩ | exact ⟨rfl, rfl, rfl⟩ | trace_state
  · obtain ⟨i, u⟩ := i
    obtain ⟨hi, hc⟩ := hi
    simp only at hi hc
    have hs : IntKind.i64.wrap ((i : Int) + 1) = ((i + 1 : Nat) : Int) := wrap_succ (n := 2000000) (by omega) (by omega)
    have hn := mrk_at hm i
    have ha := fun h => any_at (ms := ms) (n := s.node) (g := s.grp) (i := i) h
    conv => whnf
    repeat' first
      | (refine NextVC.mk (i + 1, ()) ?_ ?_ ?_; (conv => whnf))
      | (refine bc_true (by assumption) ?_; (conv => whnf))
      | (refine bc_false (by assumption) ?_; (conv => whnf))
      | (refine bc_intro (fun _ => ?_) (fun _ => ?_) <;> (conv => whnf))
      | (refine need_intro ?_ ?_; (conv => whnf))
      | (refine wk_refl ?_; (conv => whnf))
      | (refine draw_intro (by kernel_rfl) ?_; (conv => whnf))
      | (refine ord_intro (by kernel_rfl) ?_; (conv => whnf))
    all_goals try simp only [cellsSto, bytesSto, cellsMrk, bytesMrk, cellsIntG, bytesIntG, true_and, and_true, decide_eq_true_eq, decide_eq_false_iff_not, beq_iff_eq, bne_iff_ne, beq_eq_false_iff_ne, bne_eq_false_iff_eq, ne_eq, Decidable.not_not, Bool.not_eq_true', Bool.not_eq_false', Int.toNat_natCast] at *
    all_goals try first
      | exact trivial
      | omega
      | exact DLe.refl _
      | exact DLe.of_eq (by rw [hs])
      | exact ⟨by omega, by omega⟩
      | (refine ⟨by omega, ?_⟩
         rw [hc, ha (by omega)]
         simp_all; done)
      | (refine ⟨LeS.of_eq ?_, trivial⟩
         rw [deadS, hc, any_done (by omega), decide_eq_true (by omega)]
         rfl)
    all_goals
      have hlt : i < ms.length := by omega
      have hg : (ms.getD i default).grp = s.grp := by assumption
      refine loop_auto [1, 5, 6, 15, 16, 17, 27, 28] [5] (fun j : Nat => [(29, .d (.int .i64 j))]) (fun j => []) (fun j => j ≤ (ms.getD i default).nodes.length ∧ (ms.getD i default).nodes.contains s.node = ((ms.getD i default).nodes.drop j).contains s.node) (fun j => (ms.getD i default).nodes.length - j) 0 ?_ (fun j hj => ?_) ⟨by omega, by simp⟩
      · conv => whnf
        repeat' first
          | (refine bc_true (by assumption) ?_; (conv => whnf))
          | (refine bc_false (by assumption) ?_; (conv => whnf))
          | (refine bc_intro (fun _ => ?_) (fun _ => ?_) <;> (conv => whnf))
          | (refine need_intro ?_ ?_; (conv => whnf))
          | (refine wk_refl ?_; (conv => whnf))
          | (refine draw_intro (by kernel_rfl) ?_; (conv => whnf))
          | (refine ord_intro (by kernel_rfl) ?_; (conv => whnf))
        all_goals first | exact trivial | exact DLe.refl _ | exact DLe.nil | exact RowLe.refl _ _ _ | exact ⟨rfl, rfl⟩ | exact ⟨rfl, rfl, rfl⟩ | trace_state
      · obtain ⟨hj, hcj⟩ := hj
        have hsj : IntKind.i64.wrap ((j : Int) + 1) = ((j + 1 : Nat) : Int) := wrap_succ (n := 2000000) (by omega) (by omega)
        conv => whnf
        repeat' first
          | (refine NextVC.mk (i + 1, ()) ?_ ?_ ?_; (conv => whnf))
          | (refine NextVC.mk (j + 1) ?_ ?_ ?_; (conv => whnf))
          | (refine bc_true (by assumption) ?_; (conv => whnf))
          | (refine bc_false (by assumption) ?_; (conv => whnf))
          | (refine bc_intro (fun _ => ?_) (fun _ => ?_) <;> (conv => whnf))
          | (refine need_intro ?_ ?_; (conv => whnf))
          | (refine wk_refl ?_; (conv => whnf))
          | (refine draw_intro (by kernel_rfl) ?_; (conv => whnf))
          | (refine ord_intro (by kernel_rfl) ?_; (conv => whnf))
        all_goals try simp only [cellsSto, bytesSto, cellsMrk, bytesMrk, cellsIntG, bytesIntG, true_and, and_true, decide_eq_true_eq, decide_eq_false_iff_not, beq_iff_eq, bne_iff_ne, beq_eq_false_iff_ne, bne_eq_false_iff_eq, ne_eq, Decidable.not_not, Bool.not_eq_true', Bool.not_eq_false', Int.toNat_natCast] at *
        all_goals try first
          | exact trivial
          | omega
          | exact DLe.refl _
          | exact DLe.of_eq (by rw [hs])
          | exact DLe.of_eq (by rw [hsj])
          | exact ⟨by omega, by omega⟩
          | (refine ⟨by omega, ?_⟩
             rw [hcj, has_at (by omega)]
             have hx : ((ms.getD i default).nodes.getD j default == s.node) = false := by simpa using ‹_›
             rw [hx]; rfl)
          | (refine ⟨LeS.of_eq ?_, trivial⟩
             have hx : ((ms.getD i default).nodes.getD j default == s.node) = true := by simpa using ‹_›
             have h9 : (ms.getD i default).nodes.contains s.node = true := by rw [hcj, has_at (by omega), hx]; rfl
             rw [deadS, hc, ha hlt, h9, hg]
             simp; done)
          | (refine ⟨by omega, ?_⟩
             have h9 : (ms.getD i default).nodes.contains s.node = false := by rw [hcj, has_done (by omega)]
             rw [hc, ha hlt, h9]
             simp; done)
          | trace_state
end Go.Proofs.YtohenbaodklohaaDoor
