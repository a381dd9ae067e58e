/- The law ReplicaCommits: the walk through its code and the claim. -/
import Derived.Test.YtchfacjjaahdnaaDoorLaw24
namespace Go.Proofs.YtchfacjjaahdnaaDoor
open Go Go.Sx Go.ChangeShapes Go.WideShapes Go.ChangeAt Go.WideMaps Go.WideElems Go.RowKit
set_option linter.unusedVariables false
set_option linter.unusedSimpArgs false
set_option maxRecDepth 100000
theorem noCopy_small : Small noCopy := ⟨by simp [noCopy], by simp [noCopy], by simp [noCopy, noPart], by simp [noCopy, noPart]⟩

theorem default_small : Small (default : CopyT) := ⟨by simp [default], by simp [default], by simp [default], by simp [default]⟩
theorem go_app {b : List Wr} : ∀ {a : List Wr} {r : List Row}, goF r (a ++ b) = if (goF r a).2 = 0 then goF (goF r a).1 b else goF r a
  | [], r => by simp [goF]
  | w :: a, r => by
    simp only [List.cons_append, goF]
    split
    · exact go_app
    · rename_i h; simp only [h, if_false]
/-- a copy during a mixture of appends and commits -/
structure Mix (r : Rng) (rows : List Row) (c : CopyT) (w : List Wr) : Prop where
  v : validC c = true
  rng : c.rng = r
  se : c.se = 2
  sv : c.sv + (c.pend.length : Int) = w.length
  len : c.rows.length + c.pend.length ≤ 4 + w.length
  go : goF rows w = goF c.rows c.pend
  small : Small c
theorem mix_new {r : Rng} {rows : List Row} (hr : emptyR' r = false) (hq : RowsQ r.1 r.2.1 r.2.2.1 r.2.2.2 4 rows) : (newC r 2 0 rows).2 = 0 ∧ Mix r rows (newC r 2 0 rows).1 [] := by
  have hv : validR' r = true := by
    simp only [emptyR', emptyR, Bool.or_eq_false_iff, Bool.not_eq_false'] at hr
    exact hr.1
  have hw : inAll r rows = true := inAll_iff.2 hq.within
  have hl := hq.len
  have e : newC r 2 0 rows = ({ noCopy with lk := r.1, lt := r.2.1, hk := r.2.2.1, ht := r.2.2.2, se := 2, sv := 0, rows := rows }, 0) := by
    simp [newC, hv, stampOk, withinF, hw, validT_iff.2 hq.ok]
  rw [e]
  refine ⟨rfl, valid_of hv rfl hq.ok hw (by simp [noCopy]) (by simp [noCopy]; omega) (by simp [noCopy]) rfl rfl, rfl, rfl, rfl, ?_, rfl, ⟨?_, by simp [noCopy], by simp [noCopy, noPart], by simp [noCopy, noPart]⟩⟩
  · simp [noCopy]; omega
  · simp only; omega
theorem mix_commit {r : Rng} {rows : List Row} {c : CopyT} {w : List Wr} (h : Mix r rows c w) (hp : c.pend.length ≠ 0) (hw : w.length ≤ 12) : (commitC c).2 = 0 ∧ Mix r rows (commitC c).1 w ∧ (commitC c).1.pend.length + 1 = c.pend.length := by
  have hsv := h.sv
  have h1 : c.sv ≠ 1099511627776 := by omega
  obtain ⟨hd, hv⟩ := commit_valid h.v hp h1
  obtain ⟨_, _, g3, _, g5, g6⟩ := valid_head h.v
  have hm := getD_mem (l := c.pend) (i := 0) (by omega)
  obtain ⟨hr1, hr2⟩ := do_room g3 (valid_pend h.v _ hm).1 (by omega)
  have e : commitC c = ({ c with rows := (doF c.rows (c.pend.getD 0 default)).1, pend := c.pend.drop 1, sv := c.sv + 1 }, 0) := by
    simp [commitC, h.v, hp, h1]
  rw [e]
  have hlen := h.len
  refine ⟨rfl, ⟨hv, h.rng, h.se, ?_, ?_, ?_, small_of h.small hv rfl rfl⟩, by simp only [List.length_drop]; omega⟩
  · simp only [List.length_drop]; omega
  · simp only [List.length_drop]; omega
  · rw [h.go]
    have := go_step (rows := c.rows) (ws := c.pend) (i := 0) (by omega)
    rw [List.drop_zero] at this
    rw [this, if_pos hd]
theorem mix_append {r : Rng} {rows : List Row} {c : CopyT} {w : List Wr} {x : Wr} (h : Mix r rows c w) (hx : validW x.1 x.2.1 x.2.2 = true) (hr : hasR r x.1 = true) (hw : w.length ≤ 12) : (appendC c x).2 = 0 ∧ Mix r rows (appendC c x).1 (w ++ [x]) := by
  have hsv := h.sv
  have hlen := h.len
  obtain ⟨g1, g2, g3, g4, g5, g6⟩ := valid_head h.v
  obtain ⟨g7, g8⟩ := valid_rest h.v
  have hs := (stamp_of.1 g2).2.1
  have hr' : hasR c.rng x.1 = true := by rw [h.rng]; exact hr
  have e : appendC c x = ({ c with pend := c.pend ++ [x] }, 0) := by
    unfold appendC
    rw [if_neg (by simp [h.v, hx]), if_neg (by simp [hr']), if_neg (by omega)]
  rw [e]
  have hv : validC { c with pend := c.pend ++ [x] } = true := by
    refine valid_of g1 g2 g3 g4 ?_ ?_ ?_ g7 g8
    · simp only [List.length_append, List.length_singleton]; omega
    · simp only [List.length_append, List.length_singleton]; omega
    · intro y hy
      rcases List.mem_append.1 hy with hy | hy
      · exact valid_pend h.v y hy
      · rw [List.mem_singleton.1 hy]; exact ⟨hx, hr'⟩
  refine ⟨rfl, hv, h.rng, h.se, ?_, ?_, ?_, small_of h.small hv rfl rfl⟩
  · simp only [List.length_append, List.length_singleton]; omega
  · simp only [List.length_append, List.length_singleton]; omega
  · simp only [go_app, h.go]
theorem mix_settle {r : Rng} {rows : List Row} {w : List Wr} (hw : w.length ≤ 12) : ∀ (n : Nat) {c : CopyT}, n = c.pend.length → Mix r rows c w → ∃ d, settleC n c = (d, 0) ∧ goF rows w = (d.rows, 0) ∧ d.se = 2 ∧ d.sv = w.length ∧ d.pend = [] ∧ validC d = true ∧ Small d
  | 0, c, hn, h => by
    have hp : c.pend = [] := List.eq_nil_of_length_eq_zero hn.symm
    refine ⟨c, rfl, ?_, h.se, ?_, hp, h.v, h.small⟩
    · rw [h.go, hp]; rfl
    · have := h.sv; rw [hp] at this; simpa using this
  | n + 1, c, hn, h => by
    have hp : c.pend.length ≠ 0 := by omega
    obtain ⟨h1, h2, h3⟩ := mix_commit h hp hw
    have e : settleC (n + 1) c = settleC n (commitC c).1 := by
      rw [settleC, if_neg hp, if_pos h1]
    rw [e]
    exact mix_settle hw n (by omega) h2
theorem mix_end {r : Rng} {rows : List Row} {c : CopyT} {w : List Wr} (ht : TabOk rows) (hw : w.length ≤ 12) (h : Mix r rows c w) : ∃ d, settleF c = (d, 0) ∧ applyF rows w = (d.rows, 0) ∧ d.se = 2 ∧ d.sv = w.length ∧ d.pend = [] ∧ validC d = true ∧ Small d := by
  obtain ⟨d, h1, h2⟩ := mix_settle hw _ rfl h
  refine ⟨d, ?_, ?_, h2.2⟩
  · unfold settleF; rw [if_neg (by simp [h.v])]; exact h1
  · rw [applyF, if_pos (validT_iff.2 ht)]; exact h2.1
/-! the functions at such a copy -/
theorem commit_mix {r : Rng} {rows : List Row} {w : List Wr} (c : CopyT) : (Mix r rows c w ∧ c.pend.length ≠ 0 ∧ w.length ≤ 12) → Sx.Spec Tryd.prog GG 54 [.agg (copyL c)] [] (.tup [.agg (copyL (commitC c).1), .d (.int .i64 0)]) [] := by
  rintro ⟨h1, h2, h3⟩
  have := commitp_spec c h1.small
  rw [(mix_commit h1 h2 h3).1] at this
  exact this
theorem append_mix {r : Rng} {rows : List Row} {w : List Wr} (c : CopyT) (x : Wr) : (Mix r rows c w ∧ validW x.1 x.2.1 x.2.2 = true ∧ hasR r x.1 = true ∧ w.length ≤ 12) → Sx.Spec Tryd.prog GG 52 [.agg (copyL c), .agg [.d (.str x.1), .d (.str x.2.1), .d (.bool x.2.2)]] [] (.tup [.agg (copyL (appendC c x).1), .d (.int .i64 0)]) [] := by
  rintro ⟨h1, h2, h3, h4⟩
  have := appendp_spec c x.1 x.2.1 x.2.2 h1.small
  rw [(mix_append h1 h2 h3 h4).1] at this
  exact this
theorem left0 {l : List Int} {a : Nat} : TapeOk l a → ∃ x : Bool × Nat, TapeOk l x.2 ∧ Sx.Spec Tryd.prog GG 58 [.ptr 1000 0] [(1000, tapeB l a)] (.d (.bool x.1)) [(1000, tapeB l x.2)] := by
  intro h
  refine spec_some (E := EE) (fn := Tryd.f58) _ _ _ false eok (by kernel_rfl) (by kernel_rfl) Tryd.call58 (by kernel_rfl) (fun _ => by kernel_rfl) (fun _ => by kernel_rfl) ?_
  conv => whnf
  repeat' first
    | (refine bc_true (by assumption) ?_; (conv => whnf))
    | (refine bc_false (by assumption) ?_; (conv => whnf))
    | (refine bc_intro (fun _ => ?_) (fun _ => ?_) <;> (conv => whnf))
    | (refine need_intro ?_ ?_; (conv => whnf))
    | (refine wk_refl ?_; (conv => whnf))
    | (refine draw_intro (by kernel_rfl) ?_; (conv => whnf))
    | (refine ord_intro (by kernel_rfl) ?_; (conv => whnf))
  all_goals exact ⟨(_, a), h, LeS.refl _, LeL.refl _, trivial⟩
theorem left_ex (m : Nat) {l : List Int} {a : Nat} : TapeOk l a → ∃ x : Bool × Nat, TapeOk l x.2 ∧ Sx.Spec Tryd.prog GG 58 [.ptr m 0] [(m, tapeB l a)] (.d (.bool x.1)) [(m, tapeB l x.2)] := fun h => by
  obtain ⟨x, hx, hs⟩ := left0 h
  exact ⟨x, hx, hs.at m⟩
theorem new_mix (lk : List UInt8) (lt : Bool) (hk : List UInt8) (ht : Bool) (rows : List Row) : (emptyR lk lt hk ht = false ∧ RowsQ lk lt hk ht 4 rows) → Sx.Spec Tryd.prog GG 32 [.agg [.d (.str lk), .d (.bool lt), .d (.str hk), .d (.bool ht)], .agg [.d (.int .i64 2), .d (.int .i64 0)], .d (encL encRow 2 rows)] []
    (.tup [.agg (copyL (newC (lk, lt, hk, ht) 2 0 rows).1), .d (.int .i64 0)]) [] := by
  rintro ⟨h1, h2⟩
  have hl := h2.len
  have := newp_spec lk lt hk ht 2 0 rows (by omega)
  rw [(mix_new (r := (lk, lt, hk, ht)) h1 h2).1] at this
  exact this
set_option maxHeartbeats 8000000 in
theorem replicaCommits_law (l : List Int) (hl : ∀ x ∈ l, -9223372036854775808 ≤ x ∧ x < 9223372036854775808) : Sx.Spec Tryd.prog GG 9 [.d (encL encI 1 l)] [] (.d (.bool true)) [] := by
  refine spec_intro (E := EE) (fn := Tryd.f9) eok (by kernel_rfl) (by kernel_rfl) Tryd.call9 (by kernel_rfl) (by kernel_rfl) ?_
  conv => whnf
  repeat' first
    | (refine call_some (new_ex 2000 hl) (fun _ => by first | exact .inl rfl | exact .inr ⟨rfl, rfl⟩) ?_; rintro ⟨tl, ta⟩ hT; (conv => whnf))
    | (refine call_some_if (proper_ex _) (fun _ => by first | exact .inl rfl | exact .inr ⟨rfl, rfl⟩) (need_intro ?_ ?_); rintro ⟨k, t, k2, t2, b⟩ ⟨⟨h1, h2, h4⟩, h3⟩; (conv => whnf))
    | (refine call_some_if (rowsIn_ex _) (fun _ => by first | exact .inl rfl | exact .inr ⟨rfl, rfl⟩) (need_intro ?_ ?_); rintro ⟨rows, b⟩ ⟨hq, h5⟩; (conv => whnf))
    | (refine call_if (new_mix _ _ _ _ _) (by first | exact .inl rfl | exact .inr ⟨rfl, rfl⟩) (need_intro ?_ ?_); (conv => whnf))
    | (refine bc_true (by assumption) ?_; (conv => whnf))
    | (refine bc_false (by assumption) ?_; (conv => whnf))
    | (refine need_intro ?_ ?_; (conv => whnf))
    | (refine wk_refl ?_; (conv => whnf))
    | (refine draw_intro (by kernel_rfl) ?_; (conv => whnf))
    | (refine ord_intro (by kernel_rfl) ?_; (conv => whnf))
  all_goals try simp only at *
  all_goals try first
    | assumption
    | exact ⟨by assumption, by omega, by omega⟩
    | exact ⟨by assumption, by assumption⟩
  have hm0 := (mix_new (r := (k, t, k2, t2)) h4 hq).2
  refine loop_auto [2, 3, 4, 5, 6] [4] (fun x : Nat × CopyT × List Wr × Nat => [(8, .osl 500 3 0 x.2.2.1.length), (9, .d (.int .i64 x.1))]) (fun x => [(6, .box (copyL x.2.1)), (500, .row 72 3 x.2.2.1.length (cellOf encWr x.2.2.1)), (2000, tapeB tl x.2.2.2)])
    (fun x => (x.2.2.1.length ≤ x.1 ∧ x.1 ≤ 12) ∧ Mix (k, t, k2, t2) rows x.2.1 x.2.2.1 ∧ TapeOk tl x.2.2.2) (fun x => 12 - x.1) (0, (newC (k, t, k2, t2) 2 0 rows).1, [], b) ?_ (fun x hx => ?_) ⟨⟨by simp, by simp⟩, hm0, by assumption⟩
  · conv => whnf
    repeat' first
      | (refine bc_true (by assumption) ?_; (conv => whnf))
      | (refine bc_false (by assumption) ?_; (conv => whnf))
      | (refine bc_intro (fun _ => ?_) (fun _ => ?_) <;> (conv => whnf))
      | (refine need_intro ?_ ?_; (conv => whnf))
      | (refine wk_refl ?_; (conv => whnf))
      | (refine draw_intro (by kernel_rfl) ?_; (conv => whnf))
      | (refine ord_intro (by kernel_rfl) ?_; (conv => whnf))
    all_goals first | exact trivial | exact DLe.refl _ | exact DLe.nil | exact ⟨rfl, rfl⟩ | exact ⟨rfl, rfl, rfl⟩ | exact RowLe.refl _ _ _ | trace_state
  · obtain ⟨i, c, w, b⟩ := x
    obtain ⟨⟨hw, hi⟩, hm, hb⟩ := hx
    simp only at hw hi hm hb
    have hs : IntKind.i64.wrap ((i : Int) + 1) = ((i + 1 : Nat) : Int) := wrap_succ (n := 20) (by omega) (by omega)
    obtain ⟨d, g1, g2, g3, g4, g5, g6, g7⟩ := mix_end hq.ok (by omega) hm
    have hsp := settlep_spec c hm.small
    rw [g1] at hsp
    have hap : Sx.Spec Tryd.prog GG 59 [.d (encL encRow 2 rows), .d (.list w.length 3 fun i j => cellOf encWr w (0 + i) j)] [] (.tup [.d (encL encRow 2 d.rows), .d (.int .i64 0)]) [] := by
      have e : (fun i j => cellOf encWr w (0 + i) j) = cellOf encWr w := by funext i j; rw [Nat.zero_add]
      have := applyr_spec rows w (by omega)
      rw [g2] at this
      rw [e]; exact this
    have hcm := fun (hp : c.pend.length ≠ 0) => commit_mix c ⟨hm, hp, (by omega : w.length ≤ 12)⟩
    have hac := fun (x : Wr) (hx : validW x.1 x.2.1 x.2.2 = true ∧ hasR (k, t, k2, t2) x.1 = true) => append_mix c x ⟨hm, hx.1, hx.2, (by omega : w.length ≤ 12)⟩
    have hns := fun (hp : c.pend.length ≠ 0) => mix_commit hm hp (by omega)
    have hna := fun (x : Wr) (h1 : validW x.1 x.2.1 x.2.2 = true) (h2 : hasR (k, t, k2, t2) x.1 = true) => mix_append hm h1 h2 (by omega)
    conv => whnf
    repeat' first
      | (refine call_some_if (left_ex _) (fun _ => by first | exact .inl rfl | exact .inr ⟨rfl, rfl⟩) (need_intro ?_ ?_); rintro ⟨v, b⟩ h6; (conv => whnf))
      | (refine call_some_if (bool_ex _) (fun _ => by first | exact .inl rfl | exact .inr ⟨rfl, rfl⟩) (need_intro ?_ ?_); rintro ⟨v, b⟩ h6; (conv => whnf))
      | (refine call_if (hcm) (by first | exact .inl rfl | exact .inr ⟨rfl, rfl⟩) (need_intro ?_ ?_); (conv => whnf))
      | (refine call_some_if (writeIn_ex _) (fun _ => by first | exact .inl rfl | exact .inr ⟨rfl, rfl⟩) (need_intro ?_ ?_); rintro ⟨y, b⟩ ⟨⟨h7, h8⟩, h9⟩; (conv => whnf))
      | (refine call_if (hac (_, _, _)) (by first | exact .inl rfl | exact .inr ⟨rfl, rfl⟩) (need_intro ?_ ?_); (conv => whnf))
      | (refine call_intro (hsp) ?_ (by first | exact .inl rfl | exact .inr ⟨rfl, rfl⟩); (conv => whnf))
      | (refine call_intro (hap) ?_ (by first | exact .inl rfl | exact .inr ⟨rfl, rfl⟩); (conv => whnf))
      | (refine call_if (sameRr_spec _ _) (by first | exact .inl rfl | exact .inr ⟨rfl, rfl⟩) (need_intro ?_ ?_); (conv => whnf))
      | (refine call_if (validp_spec _) (by first | exact .inl rfl | exact .inr ⟨rfl, rfl⟩) (need_intro ?_ ?_); (conv => whnf))
      | (refine call_intro (awake_spec) ?_ (by first | exact .inl rfl | exact .inr ⟨rfl, rfl⟩); (conv => whnf))
      | (refine NextVC.mk (i + 1, (appendC c y).1, w ++ [y], b) ?_ ?_ ?_; (conv => whnf))
      | (refine NextVC.mk (i + 1, (commitC c).1, w, b) ?_ ?_ ?_; (conv => whnf))
      | (refine bc_true (by assumption) ?_; (conv => whnf))
      | (refine bc_false (by assumption) ?_; (conv => whnf))
      | (refine bc_intro (fun _ => ?_) (fun _ => ?_) <;> (conv => whnf))
      | (refine need_intro ?_ ?_; (conv => whnf))
      | (refine wk_refl ?_; (conv => whnf))
      | (refine draw_intro (by kernel_rfl) ?_; (conv => whnf))
      | (refine ord_intro (by kernel_rfl) ?_; (conv => whnf))
    all_goals try simp only [decide_eq_true_eq, decide_eq_false_iff_not] at *
    all_goals try first
      | exact trivial
      | assumption
      | omega
      | exact DLe.refl _
      | exact ⟨by assumption, by omega, by omega⟩
      | exact ⟨by assumption, by assumption⟩
      | exact DLe.of_eq (by rw [hs])
      | exact ⟨LeS.refl _, trivial⟩
      | exact RowLe.refl _ _ _
      | exact ⟨cellsWr, trivial, by simp only [List.length_append, List.length_singleton]⟩
      | exact ⟨trivial, cellsWr, by simp only [List.length_append, List.length_singleton]⟩
      | exact ⟨trivial, by rw [bytesWr]; omega, by omega⟩
      | exact ⟨by have := g7.1; omega, by have := g7.1; omega⟩
      | exact ⟨trivial, trivial, trivial⟩
      | (exfalso; simp [same_refl, g3, g4, g5, g6] at *; done)
      | (simp only [List.length_append, List.length_singleton]; done)
      | (simp only [List.length_append, List.length_singleton]; exact row_snoc rfl (RowLe.refl _ _ _) (jlt3 (DLe.of_eq rfl) (DLe.of_eq rfl) (DLe.of_eq rfl)))
      | exact ⟨⟨by omega, by omega⟩, (hns (by omega)).2.1, by assumption⟩
      | exact ⟨⟨by simp only [List.length_append, List.length_singleton]; omega, by omega⟩, (hna _ (by assumption) (by assumption)).2, by assumption⟩
    all_goals trace_state
theorem replicaCommits_all (dss : List (List D)) (h : All2 (wfT Tryd.prog reachBytes 12) [22] dss) : Sx.Spec Tryd.prog GG 9 (svs Tryd.prog [22] dss) [] (.d (.bool true)) [] := by
  obtain ⟨x, rfl, hx⟩ := inv1 h
  obtain ⟨l, h1, h2, h3⟩ := ints_arg hx
  obtain ⟨_, _, rfl, _⟩ := hx
  exact (replicaCommits_law l h1).arg h2
theorem replicaCommits_lifted (os : Os) (started : os.Started) (H : Type) (enc : TypeId × Value → H) :
    ReturnsInHanded {} Tryd.checked os 9 .any (fun w args => (Rows.replicaCommitsSpec.pre enc Tryd.prog Tryd.f9 [] false w args ∧ laidMetH Tryd.prog laidL w) ∧ sizedMet enc Tryd.prog Tryd.f9 (OpenSpec.ofChange Rows.replicaCommitsSpec) false w args)
      (Rows.replicaCommitsSpec.post enc Tryd.prog Tryd.f9 false true false false) := by
  refine returnsInHanded_of_change_and (C := Tryd.checked) (X := fun w _ => laidMetH Tryd.prog laidL w) (fun _ _ _ hh h => h.of_heap hh) own started (by kernel_rfl) Tryd.func9
    (ChangeSpec.witness_shaped (enc := enc) (C := Tryd.checked) (os := os) (X := fun w _ => laidMetH Tryd.prog laidL w) false (World.doorLaid Tryd.prog 400 os) #[.slice none 0 0] 8 rfl (World.shaped_of_RefB (by kernel_rfl) (by kernel_rfl)) (by kernel_rfl) (by kernel_rfl) (by kernel_rfl) (door_met os _)) ?_
  intro W base args ds gs before hval hW hcnd hsz hL _
  refine law_contract (P := Tryd.prog) (ts := [22]) (bt := 4) (G := GG) laidOut (by rw [Tryd.params9]) (by kernel_rfl) Tryd.underlying4 (by kernel_rfl) rfl ?_ replicaCommits_all hval hW hsz (gok hL)
  intro ds h
  match ds, h with
  | [_], _ => rfl
theorem replicaCommits_over : Rows.replicaCommitsRow.holds Tryd.pinned (OpenSpec.ofChange Rows.replicaCommitsSpec) :=
  OpenClaim.holds_of_wide 9 Tryd.f9 rfl rfl rfl rfl rfl rfl rfl ⟨rfl, rfl, rfl, rfl, rfl⟩ rfl rfl rfl rfl rfl (by kernel_rfl) Tryd.func9 (by kernel_rfl)
    (of_decide_eq_true (by kernel_rfl)) (by unfold Func.isWrapper; first | (rw [if_pos (by decide +kernel)]; kernel_rfl) | (rw [if_neg (by decide +kernel)]; exact ⟨rfl, rfl⟩))
    (fun os started H enc _ => replicaCommits_lifted os started H enc)
theorem replicaCommits_plain : ∀ t ∈ [22], Tryd.prog.wantsStandIn t = false := by
  intro t ht
  simp only [List.mem_cons, List.not_mem_nil, or_false] at ht
  rcases ht with rfl <;> kernel_rfl
theorem replicaCommits_proved : Rows.ReplicaCommitsCardSaid :=
  Claim7.holds_tied_plain_at .later [] [.data] true (true, "b8c9dcd8191ed71740a4ac80bc30765b96fa06e695fb428c9ca2be74d3c2a2d9") false
    replicaCommits_over (fun _ h => by cases h) (by kernel_rfl) (fun _ h => by cases h) replicaCommits_row_tie rfl ⟨rfl, rfl⟩ (by kernel_rfl) rfl
    (fun f fn hf hfn => by
      obtain rfl : f = 9 := Option.some.inj ((show Tryd.prog.funcNamed Rows.replicaCommitsRow.func = some 9 by kernel_rfl).symm.trans hf) |>.symm
      obtain rfl : fn = Tryd.f9 := (Option.some.inj (Tryd.func9.symm.trans hfn)).symm
      exact ⟨by kernel_rfl, fun j t ht => replicaCommits_plain t (by
        rw [Tryd.params9] at ht
        exact List.mem_of_getElem? (by simpa using ht))⟩)
    (by kernel_rfl)
#print axioms replicaCommits_proved

