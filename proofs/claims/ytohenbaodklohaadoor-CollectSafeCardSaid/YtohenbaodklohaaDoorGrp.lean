/- Contracts of functions that the law reaches: YtohenbaodklohaaDoorGrp. Written for this claim. -/
import Derived.Test.YtohenbaodklohaaDoorSame
import Derived.Test.YtohenbaodklohaaDoorSxGrp
namespace Go.Proofs.YtohenbaodklohaaDoor
open Go Go.Sx Go.ChangeShapes Go.WideShapes Go.ChangeAt Go.RowKit
set_option linter.unusedVariables false
set_option linter.unusedSimpArgs false
set_option maxRecDepth 100000

theorem owner_none {g : GrpT} (h : g.mem.length = 0 ∨ (g.mem.getD 0 default).up = false) : ownerG g = (noMem, false) := by
  unfold ownerG
  split
  · rfl
  · rcases h with h | h
    · contradiction
    · rw [h]; rfl
theorem owner_some {g : GrpT} (h1 : ¬ g.mem.length = 0) (h2 : (g.mem.getD 0 default).up = true) : ownerG g = (g.mem.getD 0 default, true) := by
  unfold ownerG
  rw [if_neg h1, if_pos h2]
theorem cellsMem : Tryd.prog.cellsOf 57 = 32 := by kernel_rfl
theorem bytesMem : Tryd.prog.bytesOf 57 = 368 := by kernel_rfl
def getG (g : GrpT) (k : List UInt8) : List UInt8 × Bool × Int := if (ownerG g).2 = false then ([], false, 14) else if g.opn = false then ([], false, 7) else getC (ownerG g).1.copy k
theorem get_down {g : GrpT} {k : List UInt8} (h : (ownerG g).2 = false) : getG g k = ([], false, 14) := by rw [getG, if_pos h]
theorem get_shut {g : GrpT} {k : List UInt8} (h : (ownerG g).2 = true) (h2 : g.opn = false) : getG g k = ([], false, 7) := by rw [getG, if_neg (by simp [h]), if_pos h2]
theorem getG_ok {g : GrpT} {k : List UInt8} (h : (ownerG g).2 = true) (h2 : g.opn = true) : getG g k = getC (ownerG g).1.copy k := by rw [getG, if_neg (by simp [h]), if_neg (by simp [h2])]

theorem cellsIntG : Tryd.prog.cellsOf 3 = 1 := by kernel_rfl
theorem bytesIntG : Tryd.prog.bytesOf 3 = 8 := by kernel_rfl

theorem livep_spec0 (g : GrpT) : g.mem.length ≤ 1000 → Sx.Spec Tryd.prog GG 63 [.agg (grpL g)] [] (.d (encL encI 1 (liveL g.mem))) [] := by
  intro hl
  have hll : ∀ i, (liveL (g.mem.take i)).length ≤ 1000 := fun i => by
    refine Nat.le_trans ?_ hl
    unfold liveL
    rw [List.length_map]
    exact Nat.le_trans (List.length_filter_le _ _) (by simp only [List.length_take]; omega)
  refine spec_intro (E := EE) (fn := Tryd.f63) eok (by kernel_rfl) (by kernel_rfl) Tryd.call63 (by kernel_rfl) (by kernel_rfl) ?_
  conv => whnf
  repeat' first
    | (refine bc_true (by assumption) ?_; (conv => whnf))
    | (refine bc_false (by assumption) ?_; (conv => whnf))
    | (refine need_intro ?_ ?_; (conv => whnf))
    | (refine wk_refl ?_; (conv => whnf))
    | (refine draw_intro (by kernel_rfl) ?_; (conv => whnf))
    | (refine ord_intro (by kernel_rfl) ?_; (conv => whnf))
  refine loop_auto [1, 2, 7, 8] [1] (fun i : Nat => [(9, .d (.int .i64 i)), (3, .osl 500 1 0 (liveL (g.mem.take i)).length)]) (fun i => [(500, .row 3 1 (liveL (g.mem.take i)).length (cellOf encI (liveL (g.mem.take i))))]) (fun i => i ≤ g.mem.length) (fun i => g.mem.length - i) 0 ?_ (fun i hi => ?_) (by omega)
  · conv => whnf
    repeat' first
      | (refine bc_true (by assumption) ?_; (conv => whnf))
      | (refine bc_false (by assumption) ?_; (conv => whnf))
      | (refine bc_intro (fun _ => ?_) (fun _ => ?_) <;> (conv => whnf))
      | (refine need_intro ?_ ?_; (conv => whnf))
      | (refine wk_refl ?_; (conv => whnf))
      | (refine draw_intro (by kernel_rfl) ?_; (conv => whnf))
      | (refine ord_intro (by kernel_rfl) ?_; (conv => whnf))
    all_goals first | exact trivial | exact DLe.refl _ | exact DLe.nil | exact RowLe.refl _ _ _ | exact ⟨rfl, rfl⟩ | exact ⟨rfl, rfl, rfl⟩ | trace_state
  · have hs : IntKind.i64.wrap ((i : Int) + 1) = ((i + 1 : Nat) : Int) := wrap_succ (n := 2000) (by omega) (by omega)
    have hli := hll i
    have ht := fun h => live_take (ms := g.mem) (i := i) h
    have ht1 : i < g.mem.length → (g.mem.getD i default).up = true → liveL (g.mem.take (i + 1)) = liveL (g.mem.take i) ++ [(g.mem.getD i default).id] := fun h hu => by rw [ht h, hu]; rfl
    have ht2 : i < g.mem.length → (g.mem.getD i default).up = false → liveL (g.mem.take (i + 1)) = liveL (g.mem.take i) := fun h hu => by rw [ht h, hu]; simp
    conv => whnf
    repeat' first
      | (refine NextVC.mk (i + 1) ?_ ?_ ?_; (conv => whnf))
      | (refine bc_true (by assumption) ?_; (conv => whnf))
      | (refine bc_false (by assumption) ?_; (conv => whnf))
      | (refine bc_intro (fun _ => ?_) (fun _ => ?_) <;> (conv => whnf))
      | (refine need_intro ?_ ?_; (conv => whnf))
      | (refine wk_refl ?_; (conv => whnf))
      | (refine draw_intro (by kernel_rfl) ?_; (conv => whnf))
      | (refine ord_intro (by kernel_rfl) ?_; (conv => whnf))
    all_goals try simp only [cellsMem, bytesMem, decide_eq_true_eq, decide_eq_false_iff_not, bne_iff_ne, ne_eq, Decidable.not_not, Bool.not_eq_true', Bool.not_eq_false', bne_eq_false_iff_eq] at *
    all_goals try simp only [Int.toNat_natCast] at *
    all_goals first
      | exact trivial
      | omega
      | exact DLe.refl _
      | exact DLe.of_eq (by rw [hs])
      | exact ⟨by omega, by omega⟩
      | exact ⟨trivial, by omega, by omega⟩
      | (rw [ht2 (by omega) (by assumption)]; done)
      | (rw [ht2 (by omega) (by assumption)]; exact RowLe.refl _ _ _)
      | exact ⟨trivial, trivial, by rw [ht2 (by omega) (by assumption)]⟩
      | (rw [ht1 (by omega) (by assumption), List.length_append, List.length_singleton]; done)
      | exact ⟨trivial, cellsIntG, by rw [ht1 (by omega) (by assumption), List.length_append, List.length_singleton]⟩
      | exact ⟨cellsIntG, trivial, by rw [ht1 (by omega) (by assumption), List.length_append, List.length_singleton]⟩
      | exact ⟨trivial, by rw [bytesIntG]; omega, by omega⟩
      | (rw [ht1 (by omega) (by assumption), List.length_append, List.length_singleton]
         exact row_snoc rfl (RowLe.refl _ _ _) (jlt1 (DLe.of_eq rfl)))
      | (have e : i = g.mem.length := by omega
         subst e
         refine ⟨?_, trivial⟩
         rw [List.take_length]
         exact les_own rfl)
      | trace_state
theorem row_cutP {ms : List MemT} {p n : Nat} {x y : Int} (hx : x = p) (hy : y = p + 1) (hp : p < ms.length) (hn : n + 1 = ms.length) : RowLe n 32 (fun i j => if 0 + i < (x - 0).toNat then cellOf encMem ms (0 + i) j else cellOf encMem ms (0 + y.toNat + (0 + i - (x - 0).toNat)) j) (cellOf encMem (ms.take p ++ ms.drop (p + 1))) := by
  refine .of_eq fun i j hi _ => ?_
  have e1 : (x - 0).toNat = p := by omega
  have e2 : y.toNat = p + 1 := by omega
  simp only [cellOf, Nat.zero_add, e1, e2]
  rw [getD_cutM hp (by omega)]
  split
  · rfl
  · rw [show p + 1 + (i - p) = i + 1 by omega]
end Go.Proofs.YtohenbaodklohaaDoor
