/- Contracts of functions that the law reaches: YtohenbaodklohaaDoorCol2. Written for this claim. -/
import Derived.Test.YtohenbaodklohaaDoorCol
namespace Go.Proofs.YtohenbaodklohaaDoor
open Go Go.Sx Go.ChangeShapes Go.WideShapes Go.ChangeAt Go.RowKit
set_option linter.unusedVariables false
set_option linter.unusedSimpArgs false
set_option maxRecDepth 100000
theorem findp_spec (l : List StoT) (n g : Int) : StoB 1000000 l → Sx.Spec Tryd.prog GG 50 [.d (encL encSto 33 l), .d (.int .i64 n), .d (.int .i64 g)] [] (.tup [.agg (stoL (findS l n g).1), .d (.bool (findS l n g).2)]) [] := by
  intro h
  have hl := h.len
  have hm := fun i => sto_small h i
  refine spec_intro (E := EE) (fn := Tryd.f50) eok (by kernel_rfl) (by kernel_rfl) Tryd.call50 (by kernel_rfl) (by kernel_rfl) ?_
  conv => whnf
  repeat' first
    | (refine bc_true (by assumption) ?_; (conv => whnf))
    | (refine bc_false (by assumption) ?_; (conv => whnf))
    | (refine need_intro ?_ ?_; (conv => whnf))
    | (refine wk_refl ?_; (conv => whnf))
    | (refine draw_intro (by kernel_rfl) ?_; (conv => whnf))
    | (refine ord_intro (by kernel_rfl) ?_; (conv => whnf))
  refine loop_auto [1, 2, 6, 7, 10, 11] [6] (fun i : Nat => [(12, .d (.int .i64 i))]) (fun i => []) (fun i => i ≤ l.length ∧ findS l n g = findS (l.drop i) n g) (fun i => l.length - i) 0 ?_ (fun i hi => ?_) ⟨by omega, rfl⟩
  · conv => whnf
    repeat' first
      | (refine bc_true (by assumption) ?_; (conv => whnf))
      | (refine bc_false (by assumption) ?_; (conv => whnf))
      | (refine bc_intro (fun _ => ?_) (fun _ => ?_) <;> (conv => whnf))
      | (refine need_intro ?_ ?_; (conv => whnf))
      | (refine wk_refl ?_; (conv => whnf))
      | (refine draw_intro (by kernel_rfl) ?_; (conv => whnf))
      | (refine ord_intro (by kernel_rfl) ?_; (conv => whnf))
    all_goals first | exact trivial | exact DLe.refl _ | exact DLe.nil | exact RowLe.refl _ _ _ | exact ⟨rfl, rfl⟩ | exact ⟨rfl, rfl, rfl⟩ | trace_state
  · obtain ⟨hi, hc⟩ := hi
    have hs : IntKind.i64.wrap ((i : Int) + 1) = ((i + 1 : Nat) : Int) := wrap_succ (n := 2000000) (by omega) (by omega)
    have ha := fun h => find_at (l := l) (n := n) (g := g) (i := i) h
    have hy : i < l.length → (l.getD i default).node = n → (l.getD i default).grp = g → findS l n g = (l.getD i default, true) := fun h1 h2 h3 => by
      rw [hc, ha h1, if_pos (key_eq.2 ⟨h2, h3⟩)]
    have hno : i < l.length → ¬ ((l.getD i default).node = n ∧ (l.getD i default).grp = g) → findS l n g = findS (l.drop (i + 1)) n g := fun h1 h2 => by
      rw [hc, ha h1, if_neg (fun hk => h2 (key_eq.1 hk))]
    conv => whnf
    repeat' first
      | (refine call_if (cloneC_spec (l.getD i default).copy) (by first | exact .inl rfl | exact .inr ⟨rfl, rfl⟩) (need_intro ?_ ?_); (conv => whnf))
      | (refine NextVC.mk (i + 1) ?_ ?_ ?_; (conv => whnf))
      | (refine bc_true (by assumption) ?_; (conv => whnf))
      | (refine bc_false (by assumption) ?_; (conv => whnf))
      | (refine bc_intro (fun _ => ?_) (fun _ => ?_) <;> (conv => whnf))
      | (refine need_intro ?_ ?_; (conv => whnf))
      | (refine wk_refl ?_; (conv => whnf))
      | (refine draw_intro (by kernel_rfl) ?_; (conv => whnf))
      | (refine ord_intro (by kernel_rfl) ?_; (conv => whnf))
    all_goals try simp only [cellsSto, bytesSto, cellsMrk, bytesMrk, cellsIntG, bytesIntG, true_and, and_true, decide_eq_true_eq, decide_eq_false_iff_not, beq_iff_eq, bne_iff_ne, beq_eq_false_iff_ne, bne_eq_false_iff_eq, ne_eq, Decidable.not_not, Bool.not_eq_true', Bool.not_eq_false', Int.toNat_natCast] at *
    all_goals first
      | exact trivial
      | omega
      | exact DLe.refl _
      | exact hm _
      | exact DLe.of_eq (by rw [hs])
      | exact ⟨by omega, by omega⟩
      | exact ⟨by omega, hno (by omega) (by simp_all)⟩
      | (rw [hy (by omega) (by assumption) (by assumption)]
         exact ⟨LeS.refl _, trivial⟩)
      | (rw [hc, find_end (by omega)]
         refine ⟨LeS.tup (LeL.cons (LeS.agg ?_) (LeL.cons (LeS.refl _) LeL.nil)), trivial⟩
         repeat' first
           | exact LeL.nil
           | refine LeL.cons ?_ ?_
         all_goals first
           | exact LeS.refl _
           | exact les_nil rfl)
      | trace_state
theorem findp_at (l : List StoT) (k g : Int) {n : Nat} {gf : Nat → Nat → D} : ((n = l.length ∧ RowLe n 33 gf (cellOf encSto l)) ∧ StoB 1000000 l) → Sx.Spec Tryd.prog GG 50 [.d (.list n 33 gf), .d (.int .i64 k), .d (.int .i64 g)] [] (.tup [.agg (stoL (findS l k g).1), .d (.bool (findS l k g).2)]) [] := fun ⟨⟨e, hr⟩, h⟩ => by
  subst e
  exact (findp_spec l k g h).arg (LeL.cons (LeS.d (DLe.rows rfl hr)) (LeL.refl _))
theorem findr_spec (l : List StoT) (n g : Int) : StoB 1000000 l → Sx.Spec Tryd.prog GG 52 [.d (encL encSto 33 l), .d (.int .i64 n), .d (.int .i64 g)] [] (.tup [.agg (stoL (findS l n g).1), .d (.bool (findS l n g).2)]) [] := by
  intro h
  have hl := h.len
  have hm := fun i => sto_small h i
  refine spec_intro (E := EE) (fn := Tryd.f52) eok (by kernel_rfl) (by kernel_rfl) Tryd.call52 (by kernel_rfl) (by kernel_rfl) ?_
  conv => whnf
  repeat' first
    | (refine bc_true (by assumption) ?_; (conv => whnf))
    | (refine bc_false (by assumption) ?_; (conv => whnf))
    | (refine need_intro ?_ ?_; (conv => whnf))
    | (refine wk_refl ?_; (conv => whnf))
    | (refine draw_intro (by kernel_rfl) ?_; (conv => whnf))
    | (refine ord_intro (by kernel_rfl) ?_; (conv => whnf))
  refine loop_auto [1, 2, 6, 7, 10, 11] [6] (fun i : Nat => [(12, .d (.int .i64 i))]) (fun i => []) (fun i => i ≤ l.length ∧ findS l n g = findS (l.drop i) n g) (fun i => l.length - i) 0 ?_ (fun i hi => ?_) ⟨by omega, rfl⟩
  · conv => whnf
    repeat' first
      | (refine bc_true (by assumption) ?_; (conv => whnf))
      | (refine bc_false (by assumption) ?_; (conv => whnf))
      | (refine bc_intro (fun _ => ?_) (fun _ => ?_) <;> (conv => whnf))
      | (refine need_intro ?_ ?_; (conv => whnf))
      | (refine wk_refl ?_; (conv => whnf))
      | (refine draw_intro (by kernel_rfl) ?_; (conv => whnf))
      | (refine ord_intro (by kernel_rfl) ?_; (conv => whnf))
    all_goals first | exact trivial | exact DLe.refl _ | exact DLe.nil | exact RowLe.refl _ _ _ | exact ⟨rfl, rfl⟩ | exact ⟨rfl, rfl, rfl⟩ | trace_state
  · obtain ⟨hi, hc⟩ := hi
    have hs : IntKind.i64.wrap ((i : Int) + 1) = ((i + 1 : Nat) : Int) := wrap_succ (n := 2000000) (by omega) (by omega)
    have ha := fun h => find_at (l := l) (n := n) (g := g) (i := i) h
    have hy : i < l.length → (l.getD i default).node = n → (l.getD i default).grp = g → findS l n g = (l.getD i default, true) := fun h1 h2 h3 => by
      rw [hc, ha h1, if_pos (key_eq.2 ⟨h2, h3⟩)]
    have hno : i < l.length → ¬ ((l.getD i default).node = n ∧ (l.getD i default).grp = g) → findS l n g = findS (l.drop (i + 1)) n g := fun h1 h2 => by
      rw [hc, ha h1, if_neg (fun hk => h2 (key_eq.1 hk))]
    conv => whnf
    repeat' first
      | (refine call_if (cloneC_spec (l.getD i default).copy) (by first | exact .inl rfl | exact .inr ⟨rfl, rfl⟩) (need_intro ?_ ?_); (conv => whnf))
      | (refine NextVC.mk (i + 1) ?_ ?_ ?_; (conv => whnf))
      | (refine bc_true (by assumption) ?_; (conv => whnf))
      | (refine bc_false (by assumption) ?_; (conv => whnf))
      | (refine bc_intro (fun _ => ?_) (fun _ => ?_) <;> (conv => whnf))
      | (refine need_intro ?_ ?_; (conv => whnf))
      | (refine wk_refl ?_; (conv => whnf))
      | (refine draw_intro (by kernel_rfl) ?_; (conv => whnf))
      | (refine ord_intro (by kernel_rfl) ?_; (conv => whnf))
    all_goals try simp only [cellsSto, bytesSto, cellsMrk, bytesMrk, cellsIntG, bytesIntG, true_and, and_true, decide_eq_true_eq, decide_eq_false_iff_not, beq_iff_eq, bne_iff_ne, beq_eq_false_iff_ne, bne_eq_false_iff_eq, ne_eq, Decidable.not_not, Bool.not_eq_true', Bool.not_eq_false', Int.toNat_natCast] at *
    all_goals first
      | exact trivial
      | omega
      | exact DLe.refl _
      | exact hm _
      | exact DLe.of_eq (by rw [hs])
      | exact ⟨by omega, by omega⟩
      | exact ⟨by omega, hno (by omega) (by simp_all)⟩
      | (rw [hy (by omega) (by assumption) (by assumption)]
         exact ⟨LeS.refl _, trivial⟩)
      | (rw [hc, find_end (by omega)]
         refine ⟨LeS.tup (LeL.cons (LeS.agg ?_) (LeL.cons (LeS.refl _) LeL.nil)), trivial⟩
         repeat' first
           | exact LeL.nil
           | refine LeL.cons ?_ ?_
         all_goals first
           | exact LeS.refl _
           | exact les_nil rfl)
      | trace_state
theorem findr_at (l : List StoT) (k g : Int) {n : Nat} {gf : Nat → Nat → D} : ((n = l.length ∧ RowLe n 33 gf (cellOf encSto l)) ∧ StoB 1000000 l) → Sx.Spec Tryd.prog GG 52 [.d (.list n 33 gf), .d (.int .i64 k), .d (.int .i64 g)] [] (.tup [.agg (stoL (findS l k g).1), .d (.bool (findS l k g).2)]) [] := fun ⟨⟨e, hr⟩, h⟩ => by
  subst e
  exact (findr_spec l k g h).arg (LeL.cons (LeS.d (DLe.rows rfl hr)) (LeL.refl _))
theorem drop_take {l : List StoT} {n g : Int} {i : Nat} (h : i < l.length) : dropS (l.take (i + 1)) n g = dropS (l.take i) n g ++ (if keyS (l.getD i default) n g then [] else [l.getD i default]) := by
  rw [take_succ' h, dropS, List.filter_append]
  congr 1
  simp only [List.filter_cons, List.filter_nil]
  cases keyS (l.getD i default) n g <;> rfl
theorem stob_drop {N : Nat} {l : List StoT} {n g : Int} {i : Nat} (h : StoB N l) : StoB N (dropS (l.take i) n g) :=
  ⟨by have := h.len; have := drop_len (l := l.take i) (n := n) (g := g); simp only [List.length_take] at this; omega, fun x hx => h.small x (by
    simp only [dropS, List.mem_filter] at hx
    exact List.mem_of_mem_take hx.1)⟩
theorem sto_cell {s x : StoT} {xs : List StoT} : ∀ j, j < 33 → DLe ((encSto s).getD j default) ((encSto s).getD j default) := fun j _ => DLe.refl _
set_option maxHeartbeats 1000000 in
theorem storep_0 (l : List StoT) (s : StoT) : (StoB 999000 l ∧ SmallC s.copy) → Sx.Spec Tryd.prog GG 32 [.d (encL encSto 33 l), .agg (stoL s)] [] (.osl 1000 33 0 (storeS l s).length) [(1000, .row 82 33 (storeS l s).length (cellOf encSto (storeS l s)))] := by
  rintro ⟨h, hsm⟩
  have hl := h.len
  have hst : StoB 1000000 (storeS l s) := (stob_store h hsm).mono (by omega)
  have hsl : (storeS l s).length = (dropS l s.node s.grp).length + 1 := by simp [storeS]
  refine spec_intro (E := EE) (fn := Tryd.f32) eok (by kernel_rfl) (by kernel_rfl) Tryd.call32 (by kernel_rfl) (by kernel_rfl) ?_
  conv => whnf
  repeat' first
    | (refine bc_true (by assumption) ?_; (conv => whnf))
    | (refine bc_false (by assumption) ?_; (conv => whnf))
    | (refine need_intro ?_ ?_; (conv => whnf))
    | (refine wk_refl ?_; (conv => whnf))
    | (refine draw_intro (by kernel_rfl) ?_; (conv => whnf))
    | (refine ord_intro (by kernel_rfl) ?_; (conv => whnf))
  refine loop_auto [1, 3, 4, 8, 9] [3] (fun i : Nat => [(10, .d (.int .i64 i)), (5, .osl 500 33 0 (dropS (l.take i) s.node s.grp).length)]) (fun i => [(500, .row 82 33 (dropS (l.take i) s.node s.grp).length (cellOf encSto (dropS (l.take i) s.node s.grp)))]) (fun i => i ≤ l.length) (fun i => l.length - i) 0 ?_ (fun i hi => ?_) (by omega)
  · conv => whnf
    repeat' first
      | (refine bc_true (by assumption) ?_; (conv => whnf))
      | (refine bc_false (by assumption) ?_; (conv => whnf))
      | (refine bc_intro (fun _ => ?_) (fun _ => ?_) <;> (conv => whnf))
      | (refine need_intro ?_ ?_; (conv => whnf))
      | (refine wk_refl ?_; (conv => whnf))
      | (refine draw_intro (by kernel_rfl) ?_; (conv => whnf))
      | (refine ord_intro (by kernel_rfl) ?_; (conv => whnf))
    all_goals first | exact trivial | exact DLe.refl _ | exact DLe.nil | exact RowLe.refl _ _ _ | exact ⟨rfl, rfl⟩ | exact ⟨rfl, rfl, rfl⟩ | trace_state
  · have hs : IntKind.i64.wrap ((i : Int) + 1) = ((i + 1 : Nat) : Int) := wrap_succ (n := 2000000) (by omega) (by omega)
    have hb := (stob_drop (n := s.node) (g := s.grp) (i := i) h).len
    have hy : i < l.length → (l.getD i default).node = s.node → (l.getD i default).grp = s.grp → dropS (l.take (i + 1)) s.node s.grp = dropS (l.take i) s.node s.grp := fun h1 h2 h3 => by
      rw [drop_take h1, if_pos (key_eq.2 ⟨h2, h3⟩), List.append_nil]
    have hno : i < l.length → ¬ ((l.getD i default).node = s.node ∧ (l.getD i default).grp = s.grp) → dropS (l.take (i + 1)) s.node s.grp = dropS (l.take i) s.node s.grp ++ [l.getD i default] := fun h1 h2 => by
      rw [drop_take h1, if_neg (fun hk => h2 (key_eq.1 hk))]
    have hend : ¬ i < l.length → dropS (l.take i) s.node s.grp = dropS l s.node s.grp := fun h => by rw [List.take_of_length_le (by omega)]
    conv => whnf
    repeat' first
      | (refine call_if (whole_at 1000 (storeS l s)) (by first | exact .inl rfl | exact .inr ⟨rfl, rfl⟩) (need_intro ?_ ?_); (conv => whnf))
      | (refine NextVC.mk (i + 1) ?_ ?_ ?_; (conv => whnf))
      | (refine bc_true (by assumption) ?_; (conv => whnf))
      | (refine bc_false (by assumption) ?_; (conv => whnf))
      | (refine bc_intro (fun _ => ?_) (fun _ => ?_) <;> (conv => whnf))
      | (refine need_intro ?_ ?_; (conv => whnf))
      | (refine wk_refl ?_; (conv => whnf))
      | (refine draw_intro (by kernel_rfl) ?_; (conv => whnf))
      | (refine ord_intro (by kernel_rfl) ?_; (conv => whnf))
    all_goals try simp only [cellsSto, bytesSto, cellsMrk, bytesMrk, cellsIntG, bytesIntG, true_and, and_true, decide_eq_true_eq, decide_eq_false_iff_not, beq_iff_eq, bne_iff_ne, beq_eq_false_iff_ne, bne_eq_false_iff_eq, ne_eq, Decidable.not_not, Bool.not_eq_true', Bool.not_eq_false', Int.toNat_natCast] at *
    all_goals first
      | exact trivial
      | omega
      | exact DLe.refl _
      | exact DLe.of_eq (by rw [hs])
      | exact ⟨by omega, by omega⟩
      | exact ⟨trivial, by omega, by omega⟩
      | exact RowLe.refl _ _ _
      | exact ⟨rfl, rfl⟩
      | exact ⟨rfl, rfl, rfl⟩
      | (rw [hy (by omega) (by assumption) (by assumption)]; done)
      | (rw [hy (by omega) (by assumption) (by assumption)]; exact RowLe.refl _ _ _)
      | exact ⟨trivial, trivial, by rw [hy (by omega) (by assumption) (by assumption)]⟩
      | (rw [hno (by omega) (by simp_all), List.length_append, List.length_singleton]; done)
      | exact ⟨trivial, trivial, by rw [hno (by omega) (by simp_all), List.length_append, List.length_singleton]⟩
      | exact ⟨cellsSto, trivial, by rw [hno (by omega) (by simp_all), List.length_append, List.length_singleton]⟩
      | exact ⟨trivial, cellsSto, by rw [hno (by omega) (by simp_all), List.length_append, List.length_singleton]⟩
      | (rw [hno (by omega) (by simp_all), List.length_append, List.length_singleton]
         refine row_snocA (x := l.getD i default) rfl (RowLe.refl _ _ _) ?_
         repeat' first
           | exact trivial
           | exact DLe.refl _
           | apply And.intro
         done)
      | (have he := hend (by omega)
         rw [he] at *
         first
           | omega
           | exact ⟨trivial, by omega, by omega⟩
           | exact ⟨by omega, by omega⟩
           | exact ⟨by omega, by omega, by omega⟩
           | (refine ⟨⟨by omega, ?_⟩, hst⟩
              simp only [Nat.zero_add]
              refine row_snocA (x := s) rfl (RowLe.refl _ _ _) ?_
              repeat' first
                | exact trivial
                | exact DLe.refl _
                | apply And.intro
              done)
           | exact ⟨trivial, trivial, hsl.symm⟩
           | exact ⟨cellsSto, trivial, hsl.symm⟩
           | (rw [hsl]
              refine row_snocA (x := s) rfl (RowLe.refl _ _ _) ?_
              repeat' first
                | exact trivial
                | exact DLe.refl _
                | apply And.intro
              done)
           | trace_state)
      | trace_state
theorem storep_at (m : Nat) (l : List StoT) (s : StoT) : (StoB 999000 l ∧ SmallC s.copy) → Sx.Spec Tryd.prog GG 32 [.d (encL encSto 33 l), .agg (stoL s)] [] (.osl m 33 0 (storeS l s).length) [(m, .row 82 33 (storeS l s).length (cellOf encSto (storeS l s)))] := fun h => (storep_0 l s h).new1 m
end Go.Proofs.YtohenbaodklohaaDoor
