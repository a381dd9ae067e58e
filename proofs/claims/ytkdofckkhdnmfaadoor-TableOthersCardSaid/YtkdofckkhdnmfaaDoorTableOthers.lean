/- TableOthers: Put and Delete leave the rows of all other keys as they are, and what was put is found. -/
import Derived.Test.YtkdofckkhdnmfaaDoorLay
import Derived.Test.YtkdofckkhdnmfaaDoorPuts
namespace Go.Proofs.YtkdofckkhdnmfaaDoor
open Go Go.Sx Go.ChangeShapes Go.WideShapes Go.ChangeAt Go.WideMaps Go.WideElems Go.RowKit
set_option linter.unusedVariables false
set_option linter.unusedSimpArgs false
set_option maxRecDepth 100000
theorem get_mem {rows : List Row} (hs : Sorted rows) {q : Row} (hq : q ∈ rows) : getF rows q.1 = (q.2, true) := by
  induction rows with
  | nil => cases hq
  | cons r l ih =>
    have hs' := List.pairwise_cons.1 hs
    unfold getF at ih ⊢
    rw [List.find?_cons]
    rcases List.mem_cons.1 hq with rfl | hq
    · simp
    · have hne : (r.1 == q.1) = false := by
        simp only [beq_eq_false_iff_ne, ne_eq]
        exact bl_ne (hs'.1 q hq)
      rw [hne]
      exact ih hs'.2 hq
theorem get_nomem {rows : List Row} {k : List UInt8} (h : ∀ r ∈ rows, r.1 ≠ k) : getF rows k = ([], false) := by
  have e : rows.find? (fun r => r.1 == k) = none := by
    rw [List.find?_eq_none]
    intro r hr
    simp [h r hr]
  simp only [getF, e]
theorem with_tab {rows : List Row} {x : Row} (h : TabOk rows) (hx : rowOk x = true) (hl : rows.length ≤ 1000) : TabOk (withF rows x) := by
  obtain ⟨h1, h2, h3⟩ := with_ok h hx
  exact ⟨by omega, h1, h2⟩
theorem without_tab {rows : List Row} {k : List UInt8} (h : TabOk rows) : TabOk (withoutF rows k) :=
  ⟨Nat.le_trans without_len h.len, fun r hr => h.ok r (without_ne hr).1, h.sorted.sub without_sub⟩
theorem with_mem {rows : List Row} {x : Row} : x ∈ withF rows x := by unfold withF; exact ins_mem.2 (.inl rfl)
theorem with_old {rows : List Row} {x q : Row} (hq : q ∈ rows) (hk : q.1 ≠ x.1) : q ∈ withF rows x := by
  unfold withF
  refine ins_mem.2 (.inr ?_)
  rw [withoutF, List.mem_filter]
  exact ⟨hq, by simpa using hk⟩
theorem without_old {rows : List Row} {k : List UInt8} {q : Row} (hq : q ∈ rows) (hk : q.1 ≠ k) : q ∈ withoutF rows k := by
  rw [withoutF, List.mem_filter]
  exact ⟨hq, by simpa using hk⟩
theorem without_ins {x : Row} : ∀ {l : List Row}, (∀ r ∈ l, r.1 ≠ x.1) → withoutF (insF x l) x.1 = l
  | [], _ => by simp [insF, withoutF]
  | r :: l, h => by
    have hr := h r (by simp)
    simp only [insF]
    split
    · have e : withoutF (r :: l) x.1 = r :: l := without_self h
      rw [show x :: r :: l = [x] ++ (r :: l) from rfl, without_app, e]
      simp [withoutF]
    · rw [show r :: insF x l = [r] ++ insF x l from rfl, without_app, without_ins (fun s hs => h s (by simp [hs]))]
      simp [withoutF, hr]
theorem without_with {rows : List Row} {x : Row} : withoutF (withF rows x) x.1 = withoutF rows x.1 := by
  unfold withF
  exact without_ins (fun r hr => (without_ne hr).2)
theorem with_len1 {rows : List Row} {x : Row} : (withF rows x).length = (withoutF rows x.1).length + 1 := by unfold withF; exact ins_len
theorem putT_spec (x : List Row) (k v : List UInt8) : (TabOk x ∧ rowOk (k, v) = true ∧ x.length ≤ 1000) → Sx.Spec Tryd.prog GG 39 [.d (encL encRow 2 x), .agg [.d (.str k), .d (.str v)]] [] (.tup [.d (encL encRow 2 (withF x (k, v))), .d (.int .i64 0)]) [] := by
  rintro ⟨h1, h2, h3⟩
  have := putp_spec x k v
  rw [put_ok (validT_iff.2 h1) h2 (by have := (with_ok h1 h2).2.2; omega)] at this
  exact this
theorem delT_spec (x : List Row) (k v : List UInt8) : (TabOk x ∧ rowOk (k, v) = true ∧ x.length ≤ 1000) → Sx.Spec Tryd.prog GG 41 [.d (encL encRow 2 (withF x (k, v))), .d (.str k)] [] (.tup [.d (encL encRow 2 (withoutF x k)), .d (.int .i64 0)]) [] := by
  rintro ⟨h1, h2, h3⟩
  have := delp_spec (withF x (k, v)) k
  have hy := with_tab h1 h2 h3
  have hk : (k.length : Int) ≤ 64 := by
    simp only [rowOk, Bool.and_eq_true, decide_eq_true_eq] at h2; exact h2.1
  have e : delF (withF x (k, v)) k = (withoutF x k, 0) := by
    unfold delF
    rw [validT_iff.2 hy, get_mem hy.sorted (q := (k, v)) with_mem, without_with (x := (k, v))]
    simp [hk]
  rw [e] at this
  exact this
theorem getT_spec (rows : List Row) (q : Row) : (TabOk rows ∧ q ∈ rows) → Sx.Spec Tryd.prog GG 22 [.d (encL encRow 2 rows), .d (.str q.1)] [] (.tup [.d (.str q.2), .d (.bool true)]) [] := by
  rintro ⟨h1, h2⟩
  have := getp_spec rows q.1 (by have := h1.len; omega)
  rw [get_mem h1.sorted h2] at this
  exact this
theorem getN_spec (x : List Row) (k : List UInt8) : x.length ≤ 1000 → Sx.Spec Tryd.prog GG 22 [.d (encL encRow 2 (withoutF x k)), .d (.str k)] [] (.tup [.d (.str []), .d (.bool false)]) [] := by
  intro h
  have := getp_spec (withoutF x k) k (by have := without_len (rows := x) (k := k); omega)
  rw [get_nomem (fun r hr => (without_ne hr).2)] at this
  exact this
theorem validT_at (rows : List Row) : TabOk rows → Sx.Spec Tryd.prog GG 15 [.d (encL encRow 2 rows)] [] (.d (.bool true)) [] := by
  intro h
  have := validTp_spec rows
  rw [validT_iff.2 h] at this
  exact this
set_option maxHeartbeats 2000000 in
theorem tableOthers_law (l : List Int) (hl : ∀ x ∈ l, -9223372036854775808 ≤ x ∧ x < 9223372036854775808) : Sx.Spec Tryd.prog GG 7 [.d (encL encI 1 l)] [] (.d (.bool true)) [] := by
  refine spec_intro (E := EE) (fn := Tryd.f7) eok (by kernel_rfl) (by kernel_rfl) Tryd.call7 (by kernel_rfl) (by kernel_rfl) ?_
  conv => whnf
  repeat' first
    | (refine call_some (new_ex 2000 hl) (fun _ => by first | exact .inl rfl | exact .inr ⟨rfl, rfl⟩) ?_; rintro ⟨tl, ta⟩ hT; (conv => whnf))
    | (refine call_some_if (rows_ex _) (fun _ => by first | exact .inl rfl | exact .inr ⟨rfl, rfl⟩) (need_intro ?_ ?_); rintro ⟨x, b⟩ ⟨⟨h1, h2⟩, h3⟩; (conv => whnf))
    | (refine call_some_if (key_ex _) (fun _ => by first | exact .inl rfl | exact .inr ⟨rfl, rfl⟩) (need_intro ?_ ?_); rintro ⟨k, c⟩ ⟨g1, g2⟩; (conv => whnf))
    | (refine call_some_if (value_ex _) (fun _ => by first | exact .inl rfl | exact .inr ⟨rfl, rfl⟩) (need_intro ?_ ?_); rintro ⟨v, d⟩ ⟨g3, g4⟩; (conv => whnf))
    | (refine call_if (putT_spec _ _ _) (by first | exact .inl rfl | exact .inr ⟨rfl, rfl⟩) (need_intro ?_ ?_); (conv => whnf))
    | (refine call_if (getN_spec _ _) (by first | exact .inl rfl | exact .inr ⟨rfl, rfl⟩) (need_intro ?_ ?_); (conv => whnf))
    | (refine call_if (getT_spec _ (k, v)) (by first | exact .inl rfl | exact .inr ⟨rfl, rfl⟩) (need_intro ?_ ?_); (conv => whnf))
    | (refine call_if (validT_at _) (by first | exact .inl rfl | exact .inr ⟨rfl, rfl⟩) (need_intro ?_ ?_); (conv => whnf))
    | (refine call_if (delT_spec x k v) (by first | exact .inl rfl | exact .inr ⟨rfl, rfl⟩) (need_intro ?_ ?_); (conv => whnf))
    | (refine call_intro (awake_spec) ?_ (by first | exact .inl rfl | exact .inr ⟨rfl, rfl⟩); (conv => whnf))
    | (refine bc_true (by assumption) ?_; (conv => whnf))
    | (refine bc_false (by assumption) ?_; (conv => whnf))
    | (refine bc_intro (fun _ => ?_) (fun _ => ?_) <;> (conv => whnf))
    | (refine need_intro ?_ ?_; (conv => whnf))
    | (refine wk_refl ?_; (conv => whnf))
    | (refine draw_intro (by kernel_rfl) ?_; (conv => whnf))
    | (refine ord_intro (by kernel_rfl) ?_; (conv => whnf))
  all_goals try simp only [decide_eq_true_eq, decide_eq_false_iff_not] at *
  all_goals try first
    | omega
    | assumption
    | exact ⟨by assumption, by omega, by omega⟩
    | (exfalso; simp at *; done)
  all_goals have h2 : (x.length : Int) ≤ 8 := h2
  all_goals have hr : rowOk (k, v) = true := by simp only [rowOk, Bool.and_eq_true, decide_eq_true_eq]; exact ⟨g1, g3⟩
  all_goals have hy := with_tab h1 hr (by omega)
  all_goals have hz := without_tab (k := k) h1
  all_goals try first
    | exact hy
    | exact hz
    | exact ⟨h1, hr, by omega⟩
    | exact ⟨hy, with_mem⟩
  all_goals have hl1 := with_len1 (rows := x) (x := (k, v))
  all_goals have hl2 := without_len (rows := x) (k := k)
  all_goals have hw : IntKind.i64.wrap (((withF x (k, v)).length : Int) - 1) = ((withoutF x k).length : Int) := by rw [wrap_of (by simp only at hl1; omega) (by simp only at hl1; omega)]; simp only at hl1; omega
  all_goals try first
    | omega
    | (exfalso; simp [hw] at *; done)
  refine loop_auto [4, 5, 6, 10, 91, 92] [5] (fun i : Nat => [(93, .d (.int .i64 i))]) (fun i => []) (fun i => i ≤ x.length) (fun i => x.length - i) 0 ?_ (fun i hi => ?_) (Nat.zero_le _)
  · conv => whnf
    repeat' first
      | (refine bc_true (by assumption) ?_; (conv => whnf))
      | (refine bc_false (by assumption) ?_; (conv => whnf))
      | (refine bc_intro (fun _ => ?_) (fun _ => ?_) <;> (conv => whnf))
      | (refine need_intro ?_ ?_; (conv => whnf))
      | (refine wk_refl ?_; (conv => whnf))
      | (refine draw_intro (by kernel_rfl) ?_; (conv => whnf))
      | (refine ord_intro (by kernel_rfl) ?_; (conv => whnf))
    all_goals first | exact ⟨rfl, rfl⟩ | exact ⟨rfl, rfl, rfl⟩ | exact DLe.refl _ | exact RowLe.refl _ _ _ | exact trivial
  · have hs : IntKind.i64.wrap ((i : Int) + 1) = ((i + 1 : Nat) : Int) := wrap_succ (n := 1000) (by omega) (by omega)
    have hq : i < x.length → x.getD i default ∈ x := fun h => by
      have e : x.getD i default = x[i] := by simp [List.getD, h]
      rw [e]; exact List.getElem_mem h
    have hgy : i < x.length → ¬ (x.getD i default).1 = k → getF (withF x (k, v)) (x.getD i default).1 = ((x.getD i default).2, true) := fun h e => get_mem hy.sorted (with_old (hq h) e)
    have hgz : i < x.length → ¬ (x.getD i default).1 = k → getF (withoutF x k) (x.getD i default).1 = ((x.getD i default).2, true) := fun h e => get_mem hz.sorted (without_old (hq h) e)
    conv => whnf
    repeat' first
      | (refine call_if (getp_spec _ _) (by first | exact .inl rfl | exact .inr ⟨rfl, rfl⟩) (need_intro ?_ ?_); (conv => whnf))
      | (refine call_intro (awake_spec) ?_ (by first | exact .inl rfl | exact .inr ⟨rfl, rfl⟩); (conv => whnf))
      | (refine NextVC.mk (i + 1) ?_ ?_ ?_; (conv => whnf))
      | (refine bc_true (by assumption) ?_; (conv => whnf))
      | (refine bc_false (by assumption) ?_; (conv => whnf))
      | (refine bc_intro (fun _ => ?_) (fun _ => ?_) <;> (conv => whnf))
      | (refine need_intro ?_ ?_; (conv => whnf))
      | (refine wk_refl ?_; (conv => whnf))
      | (refine draw_intro (by kernel_rfl) ?_; (conv => whnf))
      | (refine ord_intro (by kernel_rfl) ?_; (conv => whnf))
    all_goals try simp only [decide_eq_true_eq, decide_eq_false_iff_not, Int.toNat_natCast, Bool.not_eq_true', Bool.not_eq_false', beq_iff_eq, beq_eq_false_iff_ne, ne_eq] at *
    all_goals first
      | omega
      | exact trivial
      | exact DLe.refl _
      | exact DLe.of_eq (by rw [hs])
      | exact ⟨by omega, by omega⟩
      | exact ⟨LeS.refl _, trivial⟩
      | (exfalso
         have e1 := hgy (by omega) (by assumption)
         have e2 := hgz (by omega) (by assumption)
         simp only [e1, e2] at *
         simp at *; done)
      | (exfalso; simp at *; omega)
      | trace_state
theorem tableOthers_all (dss : List (List D)) (h : All2 (wfT Tryd.prog reachBytes 12) [22] dss) : Sx.Spec Tryd.prog GG 7 (svs Tryd.prog [22] dss) [] (.d (.bool true)) [] := by
  obtain ⟨y, rfl, hy⟩ := inv1 h
  obtain ⟨l, h1, h2, h3⟩ := ints_arg hy
  obtain ⟨_, _, rfl, _⟩ := hy
  exact (tableOthers_law l h1).arg h2
theorem tableOthers_lifted (os : Os) (started : os.Started) (H : Type) (enc : TypeId × Value → H) :
    ReturnsInHanded {} Tryd.checked os 7 .any (fun w args => (Rows.tableOthersSpec.pre enc Tryd.prog Tryd.f7 [] false w args ∧ laidMetH Tryd.prog laidL w) ∧ sizedMet enc Tryd.prog Tryd.f7 (OpenSpec.ofChange Rows.tableOthersSpec) false w args)
      (Rows.tableOthersSpec.post enc Tryd.prog Tryd.f7 false true false false) := by
  refine returnsInHanded_of_change_and (C := Tryd.checked) (X := fun w _ => laidMetH Tryd.prog laidL w) (fun _ _ _ hh h => h.of_heap hh) own started (by kernel_rfl) Tryd.func7
    (ChangeSpec.witness_shaped (enc := enc) (C := Tryd.checked) (os := os) (X := fun w _ => laidMetH Tryd.prog laidL w) false (World.doorLaid Tryd.prog 400 os) #[.slice none 0 0] 8 rfl (World.shaped_of_RefB (by kernel_rfl) (by kernel_rfl)) (by kernel_rfl) (by kernel_rfl) (by kernel_rfl) (door_met os _)) ?_
  intro W base args ds gs before hval hW hcnd hsz hL _
  refine law_contract (P := Tryd.prog) (ts := [22]) (bt := 4) (G := GG) laidOut (by rw [Tryd.params7]) (by kernel_rfl) Tryd.underlying4 (by kernel_rfl) rfl ?_ tableOthers_all hval hW hsz (gok hL)
  intro ds h
  match ds, h with
  | [_], _ => rfl
theorem tableOthers_over : Rows.tableOthersRow.holds Tryd.pinned (OpenSpec.ofChange Rows.tableOthersSpec) :=
  OpenClaim.holds_of_wide 7 Tryd.f7 rfl rfl rfl rfl rfl rfl rfl ⟨rfl, rfl, rfl, rfl, rfl⟩ rfl rfl rfl rfl rfl (by kernel_rfl) Tryd.func7 (by kernel_rfl)
    (of_decide_eq_true (by kernel_rfl)) (by unfold Func.isWrapper; first | (rw [if_pos (by decide +kernel)]; kernel_rfl) | (rw [if_neg (by decide +kernel)]; exact ⟨rfl, rfl⟩))
    (fun os started H enc _ => tableOthers_lifted os started H enc)
theorem tableOthers_plain : ∀ t ∈ [22], Tryd.prog.wantsStandIn t = false := by
  intro t ht
  simp only [List.mem_cons, List.not_mem_nil, or_false] at ht
  rcases ht with rfl <;> kernel_rfl
theorem tableOthers_proved : Rows.TableOthersCardSaid :=
  Claim7.holds_tied_plain_at .later [] [.data] true (true, "510fec8f624df2fc206200128f363aab01a2d4b69791c4a506e6d0fecdf9ce0e") false
    tableOthers_over (fun _ h => by cases h) (by kernel_rfl) (fun _ h => by cases h) tableOthers_row_tie rfl ⟨rfl, rfl⟩ (by kernel_rfl) rfl
    (fun f fn hf hfn => by
      obtain rfl : f = 7 := Option.some.inj ((show Tryd.prog.funcNamed Rows.tableOthersRow.func = some 7 by kernel_rfl).symm.trans hf) |>.symm
      obtain rfl : fn = Tryd.f7 := (Option.some.inj (Tryd.func7.symm.trans hfn)).symm
      exact ⟨by kernel_rfl, fun j t ht => tableOthers_plain t (by
        rw [Tryd.params7] at ht
        exact List.mem_of_getElem? (by simpa using ht))⟩)
    (by kernel_rfl)
#print axioms tableOthers_proved

