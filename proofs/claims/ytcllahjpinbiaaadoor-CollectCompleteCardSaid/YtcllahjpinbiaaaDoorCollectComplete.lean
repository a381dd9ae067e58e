/- The law CollectComplete: the walk through its code and the claim. -/
import Derived.Test.YtcllahjpinbiaaaDoorColS
namespace Go.Proofs.YtcllahjpinbiaaaDoor
open Go Go.Sx Go.ChangeShapes Go.WideShapes Go.ChangeAt Go.WideMaps Go.WideElems Go.RowKit
set_option linter.unusedVariables false
set_option linter.unusedSimpArgs false
set_option maxRecDepth 100000
theorem save_own (m : Nat) (x : List StoT) (g : GrpT) (ser : Int) {n : Nat} {gf : Nat → Nat → D} : ((n = x.length ∧ RowLe n 33 gf (cellOf encSto x)) ∧ StoB 900000 x ∧ GrpB 1000 g ∧ 1 ≤ g.mem.length ∧ ∀ m ∈ g.mem, m.up = true) → Sx.Spec Tryd.prog GG 34 [.d (.list n 33 gf), .agg (grpL g), .d (.int .i64 ser)] [] (.osl m 33 0 (saveS x g.num ser g.mem).length) [(m, .row 59 33 (saveS x g.num ser g.mem).length (cellOf encSto (saveS x g.num ser g.mem)))] := fun ⟨⟨e, hr⟩, h⟩ => by
  subst e
  exact ((save_own0 x g ser h).new1 m).arg (LeL.cons (LeS.d (DLe.rows rfl hr)) (LeL.refl _))
theorem save_ownN (m : Nat) (g : GrpT) (ser : Int) : (GrpB 1000 g ∧ 1 ≤ g.mem.length ∧ ∀ m ∈ g.mem, m.up = true) → Sx.Spec Tryd.prog GG 34 [.d (.val (.slice none 0 0)), .agg (grpL g), .d (.int .i64 ser)] [] (.osl m 33 0 (saveS [] g.num ser g.mem).length) [(m, .row 59 33 (saveS [] g.num ser g.mem).length (cellOf encSto (saveS [] g.num ser g.mem)))] := fun h =>
  ((save_own0 [] g ser ⟨stob_nil, h⟩).new1 m).arg (LeL.cons (les_nil rfl) (LeL.refl _))
theorem completep_l (l : List StoT) (gs : List GrpT) {m : Nat} {g2 : Nat → Nat → D} : ((m = gs.length ∧ RowLe m 3 g2 (cellOf encGrp gs)) ∧ StoB 1000000 l ∧ NetB gs) → Sx.Spec Tryd.prog GG 36 [.d (encL encSto 33 l), .d (.list m 3 g2)] [] (.d (.bool (completeS l gs))) [] := fun h => completep_at l gs ⟨⟨rfl, RowLe.refl _ _ _⟩, h⟩
theorem completer_l (l : List StoT) (gs : List GrpT) {m : Nat} {g2 : Nat → Nat → D} : ((m = gs.length ∧ RowLe m 3 g2 (cellOf encGrp gs)) ∧ StoB 1000000 l ∧ NetB gs) → Sx.Spec Tryd.prog GG 37 [.d (encL encSto 33 l), .d (.list m 3 g2)] [] (.d (.bool (completeS l gs))) [] := fun h => completer_at l gs ⟨⟨rfl, RowLe.refl _ _ _⟩, h⟩
theorem complete_nil (l : List StoT) : StoB 1000000 l → Sx.Spec Tryd.prog GG 36 [.d (encL encSto 33 l), .d (.val (.slice none 0 0))] [] (.d (.bool true)) [] := fun h => by
  have := (completep_spec l [] ⟨h, ⟨by simp, by simp⟩⟩).arg (LeL.cons (LeS.refl _) (LeL.cons (les_nil rfl) LeL.nil))
  exact this
/-- a store with bounded copies -/
structure StoC (n : Nat) (l : List StoT) : Prop where
  len : l.length ≤ n
  all : ∀ s ∈ l, CopyB 1101 s.copy
theorem stoc_b {n : Nat} {l : List StoT} (h : StoC n l) : StoB n l := ⟨h.len, fun s hs => copyB_small (h.all s hs) (by omega)⟩
theorem save_copyB {num ser : Int} {N : Nat} : ∀ {ms : List MemT} {x : List StoT}, (∀ s ∈ x, CopyB N s.copy) → (∀ m ∈ ms, CopyB N m.copy) → ∀ s ∈ saveS x num ser ms, CopyB N s.copy
  | [], _, h, _ => h
  | m :: ms, x, h, hm => by
    rw [saveS]
    refine save_copyB ?_ (fun k hk => hm k (List.mem_cons_of_mem _ hk))
    split
    · intro s hs
      simp only [storeS, dropS, List.mem_append, List.mem_filter, List.mem_singleton] at hs
      rcases hs with hs | rfl
      · exact h s hs.1
      · exact hm m (by simp)
    · exact h
theorem saveAll_copyB {ser : Int} {N : Nat} : ∀ {gs : List GrpT} {x : List StoT}, (∀ s ∈ x, CopyB N s.copy) → (∀ g ∈ gs, ∀ m ∈ g.mem, CopyB N m.copy) → ∀ s ∈ saveAll x ser gs, CopyB N s.copy
  | [], _, h, _ => h
  | g :: gs, x, h, hg => by
    have e : saveAll x ser (g :: gs) = saveAll (saveS x g.num ser g.mem) ser gs := rfl
    rw [e]
    exact saveAll_copyB (save_copyB h (hg g (by simp))) (fun k hk => hg k (List.mem_cons_of_mem _ hk))
theorem row_setS {xs : List StoT} {p n : Nat} {c : CopyT} (hp : p < xs.length) : RowLe n 33 (fun i' j' => if i' = p then if j' < 0 + 3 then cellOf encSto xs i' j' else if j' < 0 + 3 + (encCopy c).length then (encCopy c).getD (j' - (0 + 3)) default else cellOf encSto xs i' j' else cellOf encSto xs i' j')
    (cellOf encSto (xs.set p { xs.getD p default with copy := c })) := by
  refine .of_eq fun i' j' _ hj => ?_
  have hl : (encCopy c).length = 30 := rfl
  by_cases hi : i' = p
  · subst hi
    have e : (xs.set i' { xs.getD i' default with copy := c }).getD i' default = { xs.getD i' default with copy := c } := by simp [List.getD, hp]
    simp only [if_pos, hl, cellOf, e]
    match j', hj with
    | 0, _ => rfl
    | 1, _ => rfl
    | 2, _ => rfl
    | j + 3, hj =>
      rw [if_neg (by omega), if_pos (by omega)]
      simp only [encSto, Nat.zero_add, Nat.add_sub_cancel]
      rfl
  · have e : (xs.set p { xs.getD p default with copy := c }).getD i' default = xs.getD i' default := by simp [List.getD, List.getElem?_set_ne (Ne.symm hi)]
    simp only [if_neg hi, cellOf, e]
set_option maxHeartbeats 16000000 in
theorem collectComplete_law (l : List Int) (raw : List StoT) (hl : ∀ x ∈ l, -9223372036854775808 ≤ x ∧ x < 9223372036854775808) (hraw : raw.length ≤ 9223372036854775807) : Sx.Spec Tryd.prog GG 6 [.d (encL encI 1 l), .d (encL encSto 33 raw)] [] (.d (.bool true)) [] := by
  refine spec_intro (E := EE) (fn := Tryd.f6) eok (by kernel_rfl) (by kernel_rfl) Tryd.call6 (by kernel_rfl) (by kernel_rfl) ?_
  conv => whnf
  repeat' first
    | (refine call_if (small34_spec raw) (by first | exact .inl rfl | exact .inr ⟨rfl, rfl⟩) (need_intro ?_ ?_); (conv => whnf))
    | (refine call_intro (awake34_spec) ?_ (by first | exact .inl rfl | exact .inr ⟨rfl, rfl⟩); (conv => whnf))
    | (refine bc_true (by assumption) ?_; (conv => whnf))
    | (refine bc_false (by assumption) ?_; (conv => whnf))
    | (refine bc_intro (fun _ => ?_) (fun _ => ?_) <;> (conv => whnf))
    | (refine need_intro ?_ ?_; (conv => whnf))
    | (refine wk_refl ?_; (conv => whnf))
    | (refine draw_intro (by kernel_rfl) ?_; (conv => whnf))
    | (refine ord_intro (by kernel_rfl) ?_; (conv => whnf))
  all_goals try first
    | exact hraw
    | exact ⟨LeS.refl _, trivial⟩
  all_goals try simp only [Bool.not_eq_true', Bool.not_eq_false', decide_eq_true_eq, decide_eq_false_iff_not] at *
  have hs1 : smallS raw = true := by assumption
  have hrb := (smallS_b hs1).mono (m := 1000000) (by omega)
  conv => whnf
  repeat' first
    | (refine call_some (new_ex 2000 hl) (fun _ => by first | exact .inl rfl | exact .inr ⟨rfl, rfl⟩) ?_; rintro ⟨tl, ta⟩ hT; (conv => whnf))
    | (refine call_some_if (net_ex 2000 4000 (by decide)) (fun _ => by first | exact .inl rfl | exact .inr ⟨rfl, rfl⟩) (need_intro ?_ ?_); rintro ⟨gs0, b⟩ ⟨⟨hq, hn1, hn2⟩, h6⟩; (conv => whnf))
    | (refine bc_true (by assumption) ?_; (conv => whnf))
    | (refine bc_false (by assumption) ?_; (conv => whnf))
    | (refine need_intro ?_ ?_; (conv => whnf))
    | (refine wk_refl ?_; (conv => whnf))
    | (refine draw_intro (by kernel_rfl) ?_; (conv => whnf))
    | (refine ord_intro (by kernel_rfl) ?_; (conv => whnf))
  all_goals try first
    | assumption
    | exact ⟨hT, by omega, by omega⟩
  have hq : NetQ gs0 := hq
  have hgl : (gs0.length : Int) ≤ 3 := hn2
  have hn1 : 1 ≤ gs0.length := hn1
  have hsnd : ∀ g ∈ gs0, SndG g := sndn_mem0 hq
  have hcb : ∀ g ∈ gs0, ∀ m ∈ g.mem, CopyB 1100 m.copy := fun g hg m hm => by
    obtain ⟨j, hj, rfl⟩ := List.getElem_of_mem hg
    have := (drawn_odd (hq.all j hj)).all
    simp only [List.getD, hj, List.getElem?_eq_getElem, Option.getD_some] at this
    exact this m hm
  have hup : ∀ i, i < gs0.length → (∀ m ∈ (gs0.getD i default).mem, m.up = true) := fun i hi => (hq.all i hi).up
  have hsv : ∀ i, StoB (0 + 5 * 3) (saveAll [] 1 (gs0.take i)) := fun i => (saveAll_b (stob_nil (n := 0)) (fun g hg => hsnd g (List.mem_of_mem_take hg))).mono (by simp only [List.length_take]; omega)
  refine loop_auto [1, 4, 5, 6, 20, 21] [2000, 4000] (fun i : Bool × Nat => match i.1 with
    | true => [(22, .d (.int .i64 i.2)), (7, .d (.val (.slice none 0 0)))]
    | false => [(22, .d (.int .i64 i.2)), (7, .osl 500 33 0 (saveAll [] 1 (gs0.take i.2)).length)]) (fun i => match i.1 with
    | true => []
    | false => [(500, .row 59 33 (saveAll [] 1 (gs0.take i.2)).length (cellOf encSto (saveAll [] 1 (gs0.take i.2))))]) (fun i => i.2 ≤ gs0.length ∧ (i.1 = true → i.2 = 0)) (fun i => gs0.length - i.2) (true, 0) ?_ (fun i hi => ?_) ⟨by simp, fun _ => rfl⟩
  · conv => whnf
    repeat' first
      | (refine bc_true (by assumption) ?_; (conv => whnf))
      | (refine bc_false (by assumption) ?_; (conv => whnf))
      | (refine bc_intro (fun _ => ?_) (fun _ => ?_) <;> (conv => whnf))
      | (refine need_intro ?_ ?_; (conv => whnf))
      | (refine wk_refl ?_; (conv => whnf))
      | (refine draw_intro (by kernel_rfl) ?_; (conv => whnf))
      | (refine ord_intro (by kernel_rfl) ?_; (conv => whnf))
    all_goals first | exact trivial | exact DLe.refl _ | exact DLe.nil | exact RowLe.refl _ _ _ | exact ⟨rfl, rfl⟩ | exact ⟨rfl, rfl, rfl⟩ | trace_state
  obtain ⟨fl, i⟩ := i
  obtain ⟨hi, hf⟩ := hi
  simp only at hi hf
  have hs : IntKind.i64.wrap ((i : Int) + 1) = ((i + 1 : Nat) : Int) := wrap_succ (n := 2000000) (by omega) (by omega)
  have hgb := net_at (netq_b hq) i
  have ht : i < gs0.length → saveAll [] 1 (gs0.take (i + 1)) = saveS (saveAll [] 1 (gs0.take i)) (gs0.getD i default).num 1 (gs0.getD i default).mem := fun h => saveAll_take h
  have hg1 : i < gs0.length → 1 ≤ (gs0.getD i default).mem.length := fun h => (hq.all i h).snd.n1
  cases fl
  case true =>
    have hi0 : i = 0 := hf rfl
    subst hi0
    have ht : saveAll [] 1 (gs0.take 1) = saveS [] (gs0.getD 0 default).num 1 (gs0.getD 0 default).mem := ht (by omega)
    conv => whnf
    repeat' first
      | (refine call_if (save_ownN 700 (gs0.getD (0 + 0) default) 1) (by first | exact .inl rfl | exact .inr ⟨rfl, rfl⟩) (need_intro ?_ ?_); (conv => whnf))
      | (refine NextVC.mk (false, 1) ?_ ?_ ?_; (conv => whnf))
      | (refine bc_true (by assumption) ?_; (conv => whnf))
      | (refine bc_false (by assumption) ?_; (conv => whnf))
      | (refine bc_intro (fun _ => ?_) (fun _ => ?_) <;> (conv => whnf))
      | (refine need_intro ?_ ?_; (conv => whnf))
      | (refine wk_refl ?_; (conv => whnf))
      | (refine draw_intro (by kernel_rfl) ?_; (conv => whnf))
      | (refine ord_intro (by kernel_rfl) ?_; (conv => whnf))
    all_goals try simp only [cellsSto, bytesSto, cellsMrk, bytesMrk, cellsIntG, bytesIntG, true_and, and_true, decide_eq_true_eq, decide_eq_false_iff_not, beq_iff_eq, bne_iff_ne, beq_eq_false_iff_ne, bne_eq_false_iff_eq, ne_eq, Decidable.not_not, Bool.not_eq_true', Bool.not_eq_false', Int.toNat_natCast] at *
    all_goals first
      | exact trivial
      | omega
      | exact DLe.refl _
      | exact DLe.of_eq (by rw [hs])
      | exact DLe.of_eq rfl
      | exact ⟨by omega, by omega⟩
      | exact ⟨by omega, fun e => (by cases e)⟩
      | exact ⟨hgb, hg1 (by omega), hup 0 (by omega)⟩
      | exact RowLe.refl _ _ _
      | (rw [ht]; done)
      | (rw [ht]; exact RowLe.refl _ _ _)
      | exact ⟨trivial, trivial, by rw [ht]⟩
      | exact ⟨rfl, rfl, by rw [ht]⟩
      | trace_state
  case false =>
  conv => whnf
  repeat' first
    | (refine call_if (save_own 700 (saveAll [] 1 (gs0.take i)) (gs0.getD (0 + i) default) 1) (by first | exact .inl rfl | exact .inr ⟨rfl, rfl⟩) (need_intro ?_ ?_); (conv => whnf))
    | (refine NextVC.mk (false, i + 1) ?_ ?_ ?_; (conv => whnf))
    | (refine bc_true (by assumption) ?_; (conv => whnf))
    | (refine bc_false (by assumption) ?_; (conv => whnf))
    | (refine bc_intro (fun _ => ?_) (fun _ => ?_) <;> (conv => whnf))
    | (refine need_intro ?_ ?_; (conv => whnf))
    | (refine wk_refl ?_; (conv => whnf))
    | (refine draw_intro (by kernel_rfl) ?_; (conv => whnf))
    | (refine ord_intro (by kernel_rfl) ?_; (conv => whnf))
  all_goals try simp only [cellsSto, bytesSto, cellsMrk, bytesMrk, cellsIntG, bytesIntG, true_and, and_true, decide_eq_true_eq, decide_eq_false_iff_not, beq_iff_eq, bne_iff_ne, beq_eq_false_iff_ne, bne_eq_false_iff_eq, ne_eq, Decidable.not_not, Bool.not_eq_true', Bool.not_eq_false', Int.toNat_natCast] at *
  all_goals try simp only [Nat.zero_add] at *
  all_goals try first
    | exact trivial
    | omega
    | exact DLe.refl _
    | exact RowLe.refl _ _ _
    | exact DLe.of_eq (by rw [hs])
    | exact ⟨by omega, by omega⟩
    | exact ⟨by omega, fun e => (by cases e)⟩
    | exact ⟨RowLe.refl _ _ _, (hsv i).mono (by omega), hgb, hg1 (by omega), hup i (by omega)⟩
    | (rw [ht (by omega)]; done)
    | (rw [ht (by omega)]; exact RowLe.refl _ _ _)
    | exact ⟨trivial, trivial, by rw [ht (by omega)]⟩
    | exact ⟨rfl, rfl, by rw [ht (by omega)]⟩
  have hxc : StoC 15 (saveAll [] 1 (gs0.take i)) := ⟨(hsv i).len, fun s hs => (saveAll_copyB (N := 1100) (by simp) (fun g hg => hcb g (List.mem_of_mem_take hg)) s hs).mono (by omega)⟩
  have hxo : ∀ s ∈ saveAll [] 1 (gs0.take i), CopyB 1100 s.copy := saveAll_copyB (by simp) (fun g hg => hcb g (List.mem_of_mem_take hg))
  clear ht hsv
  generalize saveAll [] 1 (gs0.take i) = xs at *
  conv => whnf
  repeat' first
    | (refine call_some_if (bool_ex _) (fun _ => by first | exact .inl rfl | exact .inr ⟨rfl, rfl⟩) (need_intro ?_ ?_); rintro ⟨v, b⟩ h1; (conv => whnf))
    | (refine bc_true (by assumption) ?_; (conv => whnf))
    | (refine bc_false (by assumption) ?_; (conv => whnf))
    | (refine need_intro ?_ ?_; (conv => whnf))
    | (refine wk_refl ?_; (conv => whnf))
    | (refine draw_intro (by kernel_rfl) ?_; (conv => whnf))
    | (refine ord_intro (by kernel_rfl) ?_; (conv => whnf))
  all_goals try first
    | exact ⟨by assumption, by omega, by omega⟩
  have hlx := hxc.len
  cases v
  case true =>
    conv => whnf
    repeat' first
      | (refine bc_true (by assumption) ?_; (conv => whnf))
      | (refine bc_false (by assumption) ?_; (conv => whnf))
      | (refine need_intro ?_ ?_; (conv => whnf))
      | (refine wk_refl ?_; (conv => whnf))
      | (refine draw_intro (by kernel_rfl) ?_; (conv => whnf))
      | (refine ord_intro (by kernel_rfl) ?_; (conv => whnf))
    refine join_auto [1, 4, 5, 6] [4000] (fun x : List StoT × Nat => [(7, .osl 500 33 0 x.1.length)]) (fun x => [(500, .row 59 33 x.1.length (cellOf encSto x.1)), (2000, tapeB tl x.2)]) (fun x => StoC 15 x.1 ∧ TapeOk tl x.2) (fun _ => ?_) (fun _ => ?_) ?_
    · conv => whnf
      repeat' first
        | (refine call_some_if (next_ex (n := (xs.length : Int)) _) (fun _ => by first | exact .inl rfl | exact .inr ⟨rfl, rfl⟩) (need_intro ?_ ?_); rintro ⟨p, b⟩ ⟨⟨p1, p2⟩, p3⟩; (conv => whnf))
        | (refine call_some_if (bool_ex _) (fun _ => by first | exact .inl rfl | exact .inr ⟨rfl, rfl⟩) (need_intro ?_ ?_); rintro ⟨v, b⟩ h1; (conv => whnf))
        | (refine call_some_if (oddCopy_ex (n := 1100) _ (xs.getD (0 + p.toNat) default).copy) (fun _ => by first | exact .inl rfl | exact .inr ⟨rfl, rfl⟩) (need_intro ?_ ?_); rintro ⟨c, b⟩ ⟨hc, h6⟩; (conv => whnf))
        | (refine JoinVC.mk (xs.set p.toNat { xs.getD p.toNat default with copy := ((fun _ => c) (show CopyB 1101 c by assumption)) }, b) ?_ ?_; (conv => whnf))
        | (refine JoinVC.mk (xs.take p.toNat ++ xs.drop (p.toNat + 1), b) ?_ ?_; (conv => whnf))
        | (refine bc_true (by assumption) ?_; (conv => whnf))
        | (refine bc_false (by assumption) ?_; (conv => whnf))
        | (refine bc_intro (fun _ => ?_) (fun _ => ?_) <;> (conv => whnf))
        | (refine need_intro ?_ ?_; (conv => whnf))
        | (refine wk_refl ?_; (conv => whnf))
        | (refine draw_intro (by kernel_rfl) ?_; (conv => whnf))
        | (refine ord_intro (by kernel_rfl) ?_; (conv => whnf))
      all_goals try simp only [cellsSto, bytesSto, Option.getD_some, Option.getD_none, Nat.zero_add, Int.sub_zero, Int.toNat_zero, decide_eq_true_eq] at *
      all_goals try first
        | exact trivial
        | assumption
        | exact DLe.refl _
        | exact RowLe.refl _ _ _
        | exact ⟨rfl, rfl, rfl⟩
        | exact ⟨trivial, trivial, trivial⟩
        | exact ⟨by assumption, by omega, by omega⟩
        | exact ⟨by omega, by omega⟩
        | exact ⟨by omega, by omega, by omega⟩
      all_goals have hp : 0 ≤ p ∧ p < (xs.length : Int) := ⟨p1, by omega⟩
      all_goals have hpw : IntKind.i64.wrap (p + 1) = p + 1 := wrap_of (by omega) (by omega)
      all_goals try simp only [hpw] at *
      all_goals have hlc : (xs.take p.toNat ++ xs.drop (p.toNat + 1)).length + 1 = xs.length := by simp only [List.length_append, List.length_take, List.length_drop]; omega
      all_goals first
        | exact trivial
        | omega
        | exact ⟨by omega, by omega⟩
        | exact ⟨by omega, by omega, by omega⟩
        | exact ⟨trivial, by omega, by omega⟩
        | exact ⟨trivial, trivial, by omega⟩
        | exact ⟨trivial, trivial, by simp only [List.length_set]⟩
        | exact .of_eq fun i j hi _ => cut_cellA (p := p.toNat) (by omega) (by omega) (by omega) (by omega) (by omega)
        | (simp only [List.length_set]; exact row_setS (by omega))
        | exact ⟨by assumption, hxo _ (getD_mem (by omega)), by omega, by omega⟩
        | (refine ⟨⟨by simp only [List.length_append, List.length_take, List.length_drop]; omega, fun s hs => ?_⟩, by assumption⟩
           simp only [List.mem_append] at hs
           rcases hs with hs | hs
           · exact hxc.all s (List.mem_of_mem_take hs)
           · exact hxc.all s (List.mem_of_mem_drop hs))
        | (refine ⟨⟨by simp only [List.length_set]; omega, fun s hs => ?_⟩, by assumption⟩
           rcases List.mem_or_eq_of_mem_set hs with hs | rfl
           · exact hxc.all s hs
           · assumption)
        | trace_state
    · conv => whnf
      repeat' first
        | (refine JoinVC.mk (xs, b) ?_ ?_; (conv => whnf))
        | (refine bc_true (by assumption) ?_; (conv => whnf))
        | (refine bc_false (by assumption) ?_; (conv => whnf))
        | (refine need_intro ?_ ?_; (conv => whnf))
        | (refine wk_refl ?_; (conv => whnf))
        | (refine draw_intro (by kernel_rfl) ?_; (conv => whnf))
        | (refine ord_intro (by kernel_rfl) ?_; (conv => whnf))
      all_goals first
        | exact trivial
        | exact DLe.refl _
        | exact RowLe.refl _ _ _
        | exact ⟨rfl, rfl, rfl⟩
        | exact ⟨hxc, by assumption⟩
        | trace_state
    rintro ⟨xs, b⟩ ⟨hxc, h1⟩
    conv => whnf
    repeat' first
      | (refine bc_true (by assumption) ?_; (conv => whnf))
      | (refine bc_false (by assumption) ?_; (conv => whnf))
      | (refine need_intro ?_ ?_; (conv => whnf))
      | (refine wk_refl ?_; (conv => whnf))
      | (refine draw_intro (by kernel_rfl) ?_; (conv => whnf))
      | (refine ord_intro (by kernel_rfl) ?_; (conv => whnf))
    have hxc : StoC 15 xs := hxc
    have h1 : TapeOk tl b := h1
    have hxb : StoB 1000000 xs := (stoc_b hxc).mono (by omega)
    refine loop_auto [1, 4, 5, 6, 7, 64] [500] (fun x : Nat × List GrpT × Nat => [(65, .d (.int .i64 x.1))]) (fun x => [(4000, .row 36 3 gs0.length (cellOf encGrp x.2.1)), (2000, tapeB tl x.2.2)]) (fun x => (x.1 ≤ gs0.length ∧ OddN gs0.length x.1 x.2.1) ∧ TapeOk tl x.2.2) (fun x => gs0.length - x.1) (0, gs0, b) ?_ (fun x hx => ?_) ⟨⟨by simp, oddn_zero hq⟩, h1⟩
    · conv => whnf
      repeat' first
        | (refine bc_true (by assumption) ?_; (conv => whnf))
        | (refine bc_false (by assumption) ?_; (conv => whnf))
        | (refine bc_intro (fun _ => ?_) (fun _ => ?_) <;> (conv => whnf))
        | (refine need_intro ?_ ?_; (conv => whnf))
        | (refine wk_refl ?_; (conv => whnf))
        | (refine draw_intro (by kernel_rfl) ?_; (conv => whnf))
        | (refine ord_intro (by kernel_rfl) ?_; (conv => whnf))
      all_goals first | exact trivial | exact DLe.refl _ | exact DLe.nil | exact RowLe.refl _ _ _ | exact ⟨rfl, rfl⟩ | exact ⟨rfl, rfl, rfl⟩ | trace_state
    obtain ⟨k, gs, b⟩ := x
    obtain ⟨⟨hk, ho⟩, hb⟩ := hx
    simp only at hk ho hb
    have hlen := ho.len
    have hsk : IntKind.i64.wrap ((k : Int) + 1) = ((k + 1 : Nat) : Int) := wrap_succ (n := 2000000) (by omega) (by omega)
    have hNb := oddn_b ho (by omega)
    conv => whnf
    repeat' first
      | (refine call_some_if (bool_ex _) (fun _ => by first | exact .inl rfl | exact .inr ⟨rfl, rfl⟩) (need_intro ?_ ?_); rintro ⟨v, b⟩ h1; (conv => whnf))
      | (refine call_some_if (oddGroup_ex (n := 1100) _ (gs.getD (0 + k) default)) (fun _ => by first | exact .inl rfl | exact .inr ⟨rfl, rfl⟩) (need_intro ?_ ?_); rintro ⟨g, b⟩ ⟨hg, h6⟩; (conv => whnf))
      | (refine call_intro (complete_nil raw hrb) ?_ (by first | exact .inl rfl | exact .inr ⟨rfl, rfl⟩); (conv => whnf))
      | (refine call_if (completep_l raw gs) (by first | exact .inl rfl | exact .inr ⟨rfl, rfl⟩) (need_intro ?_ ?_); (conv => whnf))
      | (refine call_if (completer_l raw gs) (by first | exact .inl rfl | exact .inr ⟨rfl, rfl⟩) (need_intro ?_ ?_); (conv => whnf))
      | (refine call_if (completep_at xs gs) (by first | exact .inl rfl | exact .inr ⟨rfl, rfl⟩) (need_intro ?_ ?_); (conv => whnf))
      | (refine call_if (completer_at xs gs) (by first | exact .inl rfl | exact .inr ⟨rfl, rfl⟩) (need_intro ?_ ?_); (conv => whnf))
      | (refine call_intro (awake34_spec) ?_ (by first | exact .inl rfl | exact .inr ⟨rfl, rfl⟩); (conv => whnf))
      | (refine NextVC.mk (k + 1, gs.set k ((fun _ => g) (show OddB 1101 g by assumption)), b) ?_ ?_ ?_; (conv => whnf))
      | (refine NextVC.mk (k + 1, gs, b) ?_ ?_ ?_; (conv => whnf))
      | (refine bc_true (by assumption) ?_; (conv => whnf))
      | (refine bc_false (by assumption) ?_; (conv => whnf))
      | (refine bc_intro (fun _ => ?_) (fun _ => ?_) <;> (conv => whnf))
      | (refine need_intro ?_ ?_; (conv => whnf))
      | (refine wk_refl ?_; (conv => whnf))
      | (refine draw_intro (by kernel_rfl) ?_; (conv => whnf))
      | (refine ord_intro (by kernel_rfl) ?_; (conv => whnf))
    all_goals try simp only [cellsGrp, bytesGrp, true_and, and_true, decide_eq_true_eq, decide_eq_false_iff_not, Int.toNat_natCast] at *
    all_goals first
      | exact trivial
      | assumption
      | omega
      | exact DLe.refl _
      | exact RowLe.refl _ _ _
      | exact DLe.of_eq (by rw [hsk])
      | exact ⟨by omega, by omega⟩
      | exact ⟨by assumption, by omega, by omega⟩
      | exact ⟨⟨by omega, oddn_set ho hg⟩, by assumption⟩
      | exact ⟨⟨by omega, oddn_same ho⟩, by assumption⟩
      | exact ⟨by assumption, by rw [Nat.zero_add]; exact ho.rest k (Nat.le_refl _) (by omega), by omega, by omega⟩
      | exact row_setGr rfl rfl rfl (by omega)
      | exact ⟨LeS.refl _, trivial⟩
      | exact ⟨row_zero, ⟨by omega, row_zero⟩, hxb, hNb⟩
      | exact ⟨⟨trivial, row_zero⟩, ⟨by omega, row_zero⟩, hxb, hNb⟩
      | exact ⟨⟨by omega, row_zero⟩, hrb, hNb⟩
      | exact ⟨⟨trivial, RowLe.refl _ _ _⟩, ⟨by omega, row_zero⟩, hrb, hNb⟩
      | (exfalso; simp at *; done)
      | trace_state
  conv => whnf
  repeat' first
    | (refine bc_true (by assumption) ?_; (conv => whnf))
    | (refine bc_false (by assumption) ?_; (conv => whnf))
    | (refine need_intro ?_ ?_; (conv => whnf))
    | (refine wk_refl ?_; (conv => whnf))
    | (refine draw_intro (by kernel_rfl) ?_; (conv => whnf))
    | (refine ord_intro (by kernel_rfl) ?_; (conv => whnf))
  have hxc : StoC 15 xs := hxc
  have h1 : TapeOk tl b := h1
  have hxb : StoB 1000000 xs := (stoc_b hxc).mono (by omega)
  refine loop_auto [1, 4, 5, 6, 7, 64] [500] (fun x : Nat × List GrpT × Nat => [(65, .d (.int .i64 x.1))]) (fun x => [(4000, .row 36 3 gs0.length (cellOf encGrp x.2.1)), (2000, tapeB tl x.2.2)]) (fun x => (x.1 ≤ gs0.length ∧ OddN gs0.length x.1 x.2.1) ∧ TapeOk tl x.2.2) (fun x => gs0.length - x.1) (0, gs0, b) ?_ (fun x hx => ?_) ⟨⟨by simp, oddn_zero hq⟩, h1⟩
  · conv => whnf
    repeat' first
      | (refine bc_true (by assumption) ?_; (conv => whnf))
      | (refine bc_false (by assumption) ?_; (conv => whnf))
      | (refine bc_intro (fun _ => ?_) (fun _ => ?_) <;> (conv => whnf))
      | (refine need_intro ?_ ?_; (conv => whnf))
      | (refine wk_refl ?_; (conv => whnf))
      | (refine draw_intro (by kernel_rfl) ?_; (conv => whnf))
      | (refine ord_intro (by kernel_rfl) ?_; (conv => whnf))
    all_goals first | exact trivial | exact DLe.refl _ | exact DLe.nil | exact RowLe.refl _ _ _ | exact ⟨rfl, rfl⟩ | exact ⟨rfl, rfl, rfl⟩ | trace_state
  obtain ⟨k, gs, b⟩ := x
  obtain ⟨⟨hk, ho⟩, hb⟩ := hx
  simp only at hk ho hb
  have hlen := ho.len
  have hsk : IntKind.i64.wrap ((k : Int) + 1) = ((k + 1 : Nat) : Int) := wrap_succ (n := 2000000) (by omega) (by omega)
  have hNb := oddn_b ho (by omega)
  conv => whnf
  repeat' first
    | (refine call_some_if (bool_ex _) (fun _ => by first | exact .inl rfl | exact .inr ⟨rfl, rfl⟩) (need_intro ?_ ?_); rintro ⟨v, b⟩ h1; (conv => whnf))
    | (refine call_some_if (oddGroup_ex (n := 1100) _ (gs.getD (0 + k) default)) (fun _ => by first | exact .inl rfl | exact .inr ⟨rfl, rfl⟩) (need_intro ?_ ?_); rintro ⟨g, b⟩ ⟨hg, h6⟩; (conv => whnf))
    | (refine call_intro (complete_nil raw hrb) ?_ (by first | exact .inl rfl | exact .inr ⟨rfl, rfl⟩); (conv => whnf))
    | (refine call_if (completep_l raw gs) (by first | exact .inl rfl | exact .inr ⟨rfl, rfl⟩) (need_intro ?_ ?_); (conv => whnf))
    | (refine call_if (completer_l raw gs) (by first | exact .inl rfl | exact .inr ⟨rfl, rfl⟩) (need_intro ?_ ?_); (conv => whnf))
    | (refine call_if (completep_at xs gs) (by first | exact .inl rfl | exact .inr ⟨rfl, rfl⟩) (need_intro ?_ ?_); (conv => whnf))
    | (refine call_if (completer_at xs gs) (by first | exact .inl rfl | exact .inr ⟨rfl, rfl⟩) (need_intro ?_ ?_); (conv => whnf))
    | (refine call_intro (awake34_spec) ?_ (by first | exact .inl rfl | exact .inr ⟨rfl, rfl⟩); (conv => whnf))
    | (refine NextVC.mk (k + 1, gs.set k ((fun _ => g) (show OddB 1101 g by assumption)), b) ?_ ?_ ?_; (conv => whnf))
    | (refine NextVC.mk (k + 1, gs, b) ?_ ?_ ?_; (conv => whnf))
    | (refine bc_true (by assumption) ?_; (conv => whnf))
    | (refine bc_false (by assumption) ?_; (conv => whnf))
    | (refine bc_intro (fun _ => ?_) (fun _ => ?_) <;> (conv => whnf))
    | (refine need_intro ?_ ?_; (conv => whnf))
    | (refine wk_refl ?_; (conv => whnf))
    | (refine draw_intro (by kernel_rfl) ?_; (conv => whnf))
    | (refine ord_intro (by kernel_rfl) ?_; (conv => whnf))
  all_goals try simp only [cellsGrp, bytesGrp, true_and, and_true, decide_eq_true_eq, decide_eq_false_iff_not, Int.toNat_natCast] at *
  all_goals first
    | exact trivial
    | assumption
    | omega
    | exact DLe.refl _
    | exact RowLe.refl _ _ _
    | exact DLe.of_eq (by rw [hsk])
    | exact ⟨by omega, by omega⟩
    | exact ⟨by assumption, by omega, by omega⟩
    | exact ⟨⟨by omega, oddn_set ho hg⟩, by assumption⟩
    | exact ⟨⟨by omega, oddn_same ho⟩, by assumption⟩
    | exact ⟨by assumption, by rw [Nat.zero_add]; exact ho.rest k (Nat.le_refl _) (by omega), by omega, by omega⟩
    | exact row_setGr rfl rfl rfl (by omega)
    | exact ⟨LeS.refl _, trivial⟩
    | exact ⟨row_zero, ⟨by omega, row_zero⟩, hxb, hNb⟩
    | exact ⟨⟨trivial, row_zero⟩, ⟨by omega, row_zero⟩, hxb, hNb⟩
    | exact ⟨⟨by omega, row_zero⟩, hrb, hNb⟩
    | exact ⟨⟨trivial, RowLe.refl _ _ _⟩, ⟨by omega, row_zero⟩, hrb, hNb⟩
    | (exfalso; simp at *; done)
    | trace_state
theorem collectComplete_all (dss : List (List D)) (h : All2 (wfT Tryd.prog reachBytes 12) [22, 23] dss) : Sx.Spec Tryd.prog GG 6 (svs Tryd.prog [22, 23] dss) [] (.d (.bool true)) [] := by
  obtain ⟨x, y, rfl, hx, hy⟩ := inv2 h
  obtain ⟨l, h1, h2, h3⟩ := ints_arg hx
  obtain ⟨raw, hraw, g1⟩ := stos_wf (f := 3) hy
  obtain ⟨_, _, rfl, _⟩ := hx
  obtain ⟨_, _, rfl, _⟩ := hy
  exact (collectComplete_law l raw h1 hraw).arg (leL_app h2 g1)
theorem collectComplete_lifted (os : Os) (started : os.Started) (H : Type) (enc : TypeId × Value → H) :
    ReturnsInHanded {} Tryd.checked os 6 .any (fun w args => (Rows.collectCompleteSpec.pre enc Tryd.prog Tryd.f6 [] false w args ∧ laidMetH Tryd.prog laidL w) ∧ sizedMet enc Tryd.prog Tryd.f6 (OpenSpec.ofChange Rows.collectCompleteSpec) false w args)
      (Rows.collectCompleteSpec.post enc Tryd.prog Tryd.f6 false true false false) := by
  refine returnsInHanded_of_change_and (C := Tryd.checked) (X := fun w _ => laidMetH Tryd.prog laidL w) (fun _ _ _ hh h => h.of_heap hh) own started (by kernel_rfl) Tryd.func6
    (ChangeSpec.witness_shaped (enc := enc) (C := Tryd.checked) (os := os) (X := fun w _ => laidMetH Tryd.prog laidL w) false (World.doorLaid Tryd.prog 400 os) #[.slice none 0 0, .slice none 0 0] 8 rfl (World.shaped_of_RefB (by kernel_rfl) (by kernel_rfl)) (by kernel_rfl) (by kernel_rfl) (by kernel_rfl) (door_met os _)) ?_
  intro W base args ds gs before hval hW hcnd hsz hL _
  refine law_contract (P := Tryd.prog) (ts := [22, 23]) (bt := 4) (G := GG) laidOut (by rw [Tryd.params6]) (by kernel_rfl) Tryd.underlying4 (by kernel_rfl) rfl ?_ collectComplete_all hval hW hsz (gok hL)
  intro ds h
  match ds, h with
  | [_, _], _ => rfl
theorem collectComplete_over : Rows.collectCompleteRow.holds Tryd.pinned (OpenSpec.ofChange Rows.collectCompleteSpec) :=
  OpenClaim.holds_of_wide 6 Tryd.f6 rfl rfl rfl rfl rfl rfl rfl ⟨rfl, rfl, rfl, rfl, rfl⟩ rfl rfl rfl rfl rfl (by kernel_rfl) Tryd.func6 (by kernel_rfl)
    (of_decide_eq_true (by kernel_rfl)) (by unfold Func.isWrapper; first | (rw [if_pos (by decide +kernel)]; kernel_rfl) | (rw [if_neg (by decide +kernel)]; exact ⟨rfl, rfl⟩))
    (fun os started H enc _ => collectComplete_lifted os started H enc)
theorem collectComplete_plain : ∀ t ∈ [22, 23], Tryd.prog.wantsStandIn t = false := by
  intro t ht
  simp only [List.mem_cons, List.not_mem_nil, or_false] at ht
  rcases ht with rfl | rfl <;> kernel_rfl
theorem collectComplete_proved : Rows.CollectCompleteCardSaid :=
  Claim7.holds_tied_plain_at .later [] [.data] true (true, "66906a84d04c3a2d89c646eecd6f16b75eda7d321f445f2ddb9410a71b637972") false
    collectComplete_over (fun _ h => by cases h) (by kernel_rfl) (fun _ h => by cases h) collectComplete_row_tie rfl ⟨rfl, rfl⟩ (by kernel_rfl) rfl
    (fun f fn hf hfn => by
      obtain rfl : f = 6 := Option.some.inj ((show Tryd.prog.funcNamed Rows.collectCompleteRow.func = some 6 by kernel_rfl).symm.trans hf) |>.symm
      obtain rfl : fn = Tryd.f6 := (Option.some.inj (Tryd.func6.symm.trans hfn)).symm
      exact ⟨by kernel_rfl, fun j t ht => collectComplete_plain t (by
        rw [Tryd.params6] at ht
        exact List.mem_of_getElem? (by simpa using ht))⟩)
    (by kernel_rfl)
#print axioms collectComplete_proved
end Go.Proofs.YtcllahjpinbiaaaDoor
