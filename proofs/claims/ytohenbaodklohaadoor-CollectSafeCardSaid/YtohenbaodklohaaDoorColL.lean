/- Contracts of functions that the law reaches: YtohenbaodklohaaDoorColL. Written for this claim. -/
import Derived.Test.YtohenbaodklohaaDoorNet
import Derived.Test.YtohenbaodklohaaDoorSxTab
namespace Go.Proofs.YtohenbaodklohaaDoor
open Go Go.Sx Go.ChangeShapes Go.WideShapes Go.ChangeAt Go.WideMaps Go.WideElems Go.RowKit
set_option linter.unusedVariables false
set_option linter.unusedSimpArgs false
set_option maxRecDepth 100000
theorem sto_nil_le (n g s : Int) (lk : List UInt8) (lt : Bool) (hk : List UInt8) (ht : Bool) : LeL [.d (.int .i64 n), .d (.int .i64 g), .d (.int .i64 s), .d (.str lk), .d (.bool lt), .d (.str hk), .d (.bool ht), .d (.int .i64 0), .d (.int .i64 0), .d (.val (.slice none 0 0)), .d (.val (.slice none 0 0)),
  .d (.int .i64 0), .d (.int .i64 0), .d (.int .i64 0), .d (.int .i64 0), .d (.int .i64 0), .d (.str []), .d (.bool false), .d (.str []), .d (.bool false), .d (.val (.slice none 0 0)),
  .d (.int .i64 0), .d (.int .i64 0), .d (.int .i64 0), .d (.int .i64 0), .d (.int .i64 0), .d (.str []), .d (.bool false), .d (.str []), .d (.bool false), .d (.val (.slice none 0 0)), .d (.int .i64 0), .d (.int .i64 0)] (stoL ⟨n, g, s, rawC lk lt hk ht 0 0 []⟩) := by
  dsimp only [stoL, copyL, rawC, noPart]
  repeat' first
    | exact LeL.nil
    | refine LeL.cons ?_ ?_
  all_goals first
    | exact LeS.refl _
    | exact les_nil rfl
/-- a drawn store -/
structure StoQ (n : Nat) (l : List StoT) : Prop where
  b : StoB n l
  ser : ∀ s ∈ l, s.ser ≤ 9
theorem stoq_nil {n : Nat} : StoQ n [] := ⟨stob_nil, by simp⟩
theorem stoq_snoc {n : Nat} {l : List StoT} {s : StoT} (h : StoQ n l) (hs : SmallC s.copy) (h9 : s.ser ≤ 9) (hl : l.length < n) : StoQ n (l ++ [s]) := by
  refine ⟨⟨by simp; omega, fun x hx => ?_⟩, fun x hx => ?_⟩
  · rw [List.mem_append, List.mem_singleton] at hx
    rcases hx with hx | rfl
    · exact h.b.small x hx
    · exact hs
  · rw [List.mem_append, List.mem_singleton] at hx
    rcases hx with hx | rfl
    · exact h.ser x hx
    · exact h9
/-- small stores -/
def smS (s : StoT) : Bool := decide ((s.copy.rows.length : Int) ≤ 20) && (decide ((s.copy.pend.length : Int) ≤ 20) && (decide ((s.copy.out.rows.length : Int) ≤ 20) && decide ((s.copy.inn.rows.length : Int) ≤ 20)))
def smallS (l : List StoT) : Bool := l.all smS && decide ((l.length : Int) ≤ 30)
theorem smallS_b {l : List StoT} (h : smallS l = true) : StoB 30 l := by
  simp only [smallS, Bool.and_eq_true, List.all_eq_true, decide_eq_true_eq] at h
  refine ⟨by omega, fun s hs => ?_⟩
  have := h.1 s hs
  simp only [smS, Bool.and_eq_true, decide_eq_true_eq] at this
  unfold SmallC; omega
/-! saving -/
theorem storep_d (l : List StoT) (s : StoT) : (StoB 999000 l ∧ SmallC s.copy) → Sx.Spec Tryd.prog GG 32 [.d (encL encSto 33 l), .agg (stoL s)] [] (.d (encL encSto 33 (storeS l s))) [] := fun h => (storep_at 1000 l s h).pub1
theorem save_small {x : List StoT} {num ser : Int} {ms : List MemT} {n : Nat} (h : StoB n x) (hm : ∀ m ∈ ms, SmallC m.copy) (i : Nat) : StoB (n + i) (saveS x num ser (ms.take i)) :=
  (stob_save h (fun m hm' => hm m (List.mem_of_mem_take hm'))).mono (by simp only [List.length_take]; omega)
set_option maxHeartbeats 1000000 in
theorem save0 (x : List StoT) (g : GrpT) (ser : Int) : (StoB 900000 x ∧ GrpB 1000 g) → Sx.Spec Tryd.prog GG 6 [.d (encL encSto 33 x), .agg (grpL g), .d (.int .i64 ser)] [] (.d (encL encSto 33 (saveS x g.num ser g.mem))) [] := by
  rintro ⟨h, hg⟩
  have hl := hg.len
  have hsv := fun i => save_small (num := g.num) (ser := ser) (ms := g.mem) h (fun m hm => (hg.small m hm).1) i
  refine spec_intro (E := EE) (fn := Tryd.f6) eok (by kernel_rfl) (by kernel_rfl) Tryd.call6 (by kernel_rfl) (by kernel_rfl) ?_
  conv => whnf
  repeat' first
    | (refine bc_true (by assumption) ?_; (conv => whnf))
    | (refine bc_false (by assumption) ?_; (conv => whnf))
    | (refine need_intro ?_ ?_; (conv => whnf))
    | (refine wk_refl ?_; (conv => whnf))
    | (refine draw_intro (by kernel_rfl) ?_; (conv => whnf))
    | (refine ord_intro (by kernel_rfl) ?_; (conv => whnf))
  refine loop_auto [2, 4, 6, 10, 11] [4] (fun i : Nat => [(12, .d (.int .i64 i)), (0, .d (encL encSto 33 (saveS x g.num ser (g.mem.take i))))]) (fun i => []) (fun i => i ≤ g.mem.length) (fun i => g.mem.length - i) 0 ?_ (fun i hi => ?_) (by omega)
  · conv => whnf
    repeat' first
      | (refine bc_true (by assumption) ?_; (conv => whnf))
      | (refine bc_false (by assumption) ?_; (conv => whnf))
      | (refine bc_intro (fun _ => ?_) (fun _ => ?_) <;> (conv => whnf))
      | (refine need_intro ?_ ?_; (conv => whnf))
      | (refine wk_refl ?_; (conv => whnf))
      | (refine draw_intro (by kernel_rfl) ?_; (conv => whnf))
      | (refine ord_intro (by kernel_rfl) ?_; (conv => whnf))
    all_goals first | exact trivial | exact DLe.refl _ | exact DLe.nil | exact RowLe.refl _ _ _ | exact ⟨rfl, rfl⟩ | exact ⟨rfl, rfl, rfl⟩ | trace_state
  · have hs : IntKind.i64.wrap ((i : Int) + 1) = ((i + 1 : Nat) : Int) := wrap_succ (n := 2000000) (by omega) (by omega)
    have hmi := mem_small hg i
    have ht := fun h => save_take (x := x) (num := g.num) (ser := ser) (ms := g.mem) (i := i) h
    have ht1 : i < g.mem.length → (g.mem.getD i default).up = true → saveS x g.num ser (g.mem.take (i + 1)) = storeS (saveS x g.num ser (g.mem.take i)) ⟨(g.mem.getD i default).id, g.num, ser, (g.mem.getD i default).copy⟩ := fun h1 h2 => by rw [ht h1, if_pos h2]
    have ht2 : i < g.mem.length → (g.mem.getD i default).up = false → saveS x g.num ser (g.mem.take (i + 1)) = saveS x g.num ser (g.mem.take i) := fun h1 h2 => by rw [ht h1, if_neg (by rw [h2]; simp)]
    have hsb := (hsv i).mono (m := 999000) (by omega)
    conv => whnf
    repeat' first
      | (refine call_if (storep_d (saveS x g.num ser (g.mem.take i)) ⟨(g.mem.getD i default).id, g.num, ser, (g.mem.getD i default).copy⟩) (by first | exact .inl rfl | exact .inr ⟨rfl, rfl⟩) (need_intro ?_ ?_); (conv => whnf))
      | (refine NextVC.mk (i + 1) ?_ ?_ ?_; (conv => whnf))
      | (refine bc_true (by assumption) ?_; (conv => whnf))
      | (refine bc_false (by assumption) ?_; (conv => whnf))
      | (refine bc_intro (fun _ => ?_) (fun _ => ?_) <;> (conv => whnf))
      | (refine need_intro ?_ ?_; (conv => whnf))
      | (refine wk_refl ?_; (conv => whnf))
      | (refine draw_intro (by kernel_rfl) ?_; (conv => whnf))
      | (refine ord_intro (by kernel_rfl) ?_; (conv => whnf))
    all_goals try simp only [cellsSto, bytesSto, cellsMrk, bytesMrk, cellsIntG, bytesIntG, true_and, and_true, decide_eq_true_eq, decide_eq_false_iff_not, beq_iff_eq, bne_iff_ne, beq_eq_false_iff_ne, bne_eq_false_iff_eq, ne_eq, Decidable.not_not, Bool.not_eq_true', Bool.not_eq_false', Int.toNat_natCast] at *
    all_goals first
      | exact trivial
      | omega
      | exact DLe.refl _
      | exact ⟨hsb, hmi⟩
      | exact DLe.of_eq (by rw [hs])
      | exact ⟨by omega, by omega⟩
      | (rw [ht2 (by omega) (by assumption)]; exact DLe.refl _)
      | (rw [ht1 (by omega) (by assumption)]; exact DLe.refl _)
      | (have e : i = g.mem.length := by omega
         subst e
         refine ⟨?_, trivial⟩
         rw [List.take_length]
         exact LeS.refl _)
      | trace_state
theorem save_at (x : List StoT) (g : GrpT) (ser : Int) {n : Nat} {gf : Nat → Nat → D} : ((n = x.length ∧ RowLe n 33 gf (cellOf encSto x)) ∧ StoB 900000 x ∧ GrpB 1000 g) → Sx.Spec Tryd.prog GG 6 [.d (.list n 33 gf), .agg (grpL g), .d (.int .i64 ser)] [] (.d (encL encSto 33 (saveS x g.num ser g.mem))) [] := fun ⟨⟨e, hr⟩, h⟩ => by
  subst e
  exact (save0 x g ser h).arg (LeL.cons (LeS.d (DLe.rows rfl hr)) (LeL.refl _))
/-! the example of chapter 34 -/
def awB : GrpT := ⟨7, true, memL' (rawC [] false [] true 0 0 []) [1, 2]⟩
theorem awB_new : newG 7 [1, 2] (rawC [] false [] true 0 0 []) = (awB, 0) := by kernel_rfl
theorem copy_nil_le (lk : List UInt8) (lt : Bool) (hk : List UInt8) (ht : Bool) : LeL [.d (.str lk), .d (.bool lt), .d (.str hk), .d (.bool ht), .d (.int .i64 0), .d (.int .i64 0), .d (.val (.slice none 0 0)), .d (.val (.slice none 0 0)),
  .d (.int .i64 0), .d (.int .i64 0), .d (.int .i64 0), .d (.int .i64 0), .d (.int .i64 0), .d (.str []), .d (.bool false), .d (.str []), .d (.bool false), .d (.val (.slice none 0 0)),
  .d (.int .i64 0), .d (.int .i64 0), .d (.int .i64 0), .d (.int .i64 0), .d (.int .i64 0), .d (.str []), .d (.bool false), .d (.str []), .d (.bool false), .d (.val (.slice none 0 0)), .d (.int .i64 0), .d (.int .i64 0)] (copyL (rawC lk lt hk ht 0 0 [])) := by
  dsimp only [copyL, rawC, noPart]
  repeat' first
    | exact LeL.nil
    | refine LeL.cons ?_ ?_
  all_goals first
    | exact LeS.refl _
    | exact les_nil rfl
theorem new7_aw {get : Nat → Nat → D} (h : RowLe 2 1 get (cellOf encI [1, 2])) : Sx.Spec Tryd.prog GG 31 [.d (.int .i64 7), .d (.list 2 1 get), .agg [.d (.str []), .d (.bool false), .d (.str []), .d (.bool true), .d (.int .i64 0), .d (.int .i64 0), .d (.val (.slice none 0 0)), .d (.val (.slice none 0 0)),
  .d (.int .i64 0), .d (.int .i64 0), .d (.int .i64 0), .d (.int .i64 0), .d (.int .i64 0), .d (.str []), .d (.bool false), .d (.str []), .d (.bool false), .d (.val (.slice none 0 0)),
  .d (.int .i64 0), .d (.int .i64 0), .d (.int .i64 0), .d (.int .i64 0), .d (.int .i64 0), .d (.str []), .d (.bool false), .d (.str []), .d (.bool false), .d (.val (.slice none 0 0)), .d (.int .i64 0), .d (.int .i64 0)]] [] (.tup [.agg (grpL awB), .d (.int .i64 0)]) [] := by
  have := (newgr_spec 7 [1, 2] (rawC [] false [] true 0 0 []) ⟨⟨by decide, by decide, by decide, by decide⟩, by decide⟩).arg (LeL.cons (LeS.refl _) (LeL.cons (LeS.d (DLe.rows rfl h)) (LeL.cons (LeS.agg (copy_nil_le [] false [] true)) LeL.nil)))
  rw [awB_new] at this
  exact this
theorem awB_net : NetB [awB] := ⟨by decide, fun g hg => by
  rw [List.mem_singleton] at hg
  subst hg
  refine ⟨by decide, fun m hm => ?_⟩
  simp only [awB, memL', List.mem_map] at hm
  obtain ⟨_, _, rfl⟩ := hm
  exact ⟨by simp [noPart], by unfold I64; simp⟩⟩
theorem marks_aw {g : Nat → Nat → D} (h : RowLe 1 3 g (cellOf encGrp [awB])) : Sx.Spec Tryd.prog GG 33 [.d (.list 1 3 g)] [] (.d (encL encMrk 2 (marksS [awB]))) [] := marksp_at [awB] ⟨⟨rfl, h⟩, awB_net⟩
theorem dead_aw (n g s : Int) (r : Bool) (e : deadS (marksS [awB]) 5 ⟨n, g, s, rawC [] false [] false 0 0 []⟩ = r) : Sx.Spec Tryd.prog GG 49 [.d (encL encMrk 2 (marksS [awB])), .d (.int .i64 5), .agg [.d (.int .i64 n), .d (.int .i64 g), .d (.int .i64 s), .d (.str []), .d (.bool false), .d (.str []), .d (.bool false), .d (.int .i64 0), .d (.int .i64 0), .d (.val (.slice none 0 0)), .d (.val (.slice none 0 0)),
  .d (.int .i64 0), .d (.int .i64 0), .d (.int .i64 0), .d (.int .i64 0), .d (.int .i64 0), .d (.str []), .d (.bool false), .d (.str []), .d (.bool false), .d (.val (.slice none 0 0)),
  .d (.int .i64 0), .d (.int .i64 0), .d (.int .i64 0), .d (.int .i64 0), .d (.int .i64 0), .d (.str []), .d (.bool false), .d (.str []), .d (.bool false), .d (.val (.slice none 0 0)), .d (.int .i64 0), .d (.int .i64 0)]] [] (.d (.bool r)) [] := by
  have := (deadp_spec (marksS [awB]) 5 ⟨n, g, s, rawC [] false [] false 0 0 []⟩ (marks_b awB_net)).arg (LeL.cons (LeS.refl _) (LeL.cons (LeS.refl _) (LeL.cons (LeS.agg (sto_nil_le n g s [] false [] false)) LeL.nil)))
  rw [e] at this
  exact this
theorem awake34_spec : Sx.Spec Tryd.prog GG 22 [] [] (.d (.bool true)) [] := by
  refine spec_intro (E := EE) (fn := Tryd.f22) eok (by kernel_rfl) (by kernel_rfl) Tryd.call22 (by kernel_rfl) (by kernel_rfl) ?_
  conv => whnf
  repeat' first
    | (refine call_intro (new7_aw (.all (by repeat' first | exact trivial | exact rfl | apply And.intro))) ?_ (by first | exact .inl rfl | exact .inr ⟨rfl, rfl⟩); (conv => whnf))
    | (refine call_intro (all_spec) ?_ (by first | exact .inl rfl | exact .inr ⟨rfl, rfl⟩); (conv => whnf))
    | (refine call_intro (marks_aw (.all (by repeat' first | exact trivial | exact rfl | apply And.intro))) ?_ (by first | exact .inl rfl | exact .inr ⟨rfl, rfl⟩); (conv => whnf))
    | (refine call_intro (dead_aw 2 7 4 false (by kernel_rfl)) ?_ (by first | exact .inl rfl | exact .inr ⟨rfl, rfl⟩); (conv => whnf))
    | (refine call_intro (dead_aw 3 7 5 true (by kernel_rfl)) ?_ (by first | exact .inl rfl | exact .inr ⟨rfl, rfl⟩); (conv => whnf))
    | (refine call_intro (dead_aw 3 7 6 false (by kernel_rfl)) ?_ (by first | exact .inl rfl | exact .inr ⟨rfl, rfl⟩); (conv => whnf))
    | (refine bc_true (by assumption) ?_; (conv => whnf))
    | (refine bc_false (by assumption) ?_; (conv => whnf))
    | (refine bc_intro (fun _ => ?_) (fun _ => ?_) <;> (conv => whnf))
    | (refine need_intro ?_ ?_; (conv => whnf))
    | (refine wk_refl ?_; (conv => whnf))
    | (refine draw_intro (by kernel_rfl) ?_; (conv => whnf))
    | (refine ord_intro (by kernel_rfl) ?_; (conv => whnf))
  all_goals first
    | decide
    | exact ⟨LeS.refl _, trivial⟩
    | trace_state
end Go.Proofs.YtohenbaodklohaaDoor
