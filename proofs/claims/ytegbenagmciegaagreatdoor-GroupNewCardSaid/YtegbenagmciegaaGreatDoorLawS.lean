/- Contracts of functions that the law reaches: YtegbenagmciegaaGreatDoorLawS. Written for this claim. -/
import Derived.Test.YtegbenagmciegaaGreatDoorLawG
namespace Go.Proofs.YtegbenagmciegaaGreatDoor
open Go Go.Sx Go.ChangeShapes Go.WideShapes Go.ChangeAt Go.WideMaps Go.WideElems Go.RowKit
set_option linter.unusedVariables false
set_option linter.unusedSimpArgs false
set_option maxRecDepth 100000
/-! one drawn step; what is read -/
theorem same25_spec (g : GrpT) (e : Int) : GrpB 1000 g → Sx.Spec Tryz.prog GG 21 [.agg (grpL g), .d (.int .i64 e), .agg (grpL g), .d (.int .i64 e)] [] (.d (.bool true)) [] := by
  intro h
  refine spec_intro (E := EE) (fn := Tryz.f21) eok (by kernel_rfl) (by kernel_rfl) Tryz.call21 (by kernel_rfl) (by kernel_rfl) ?_
  have he : (e == e) = true := by simp
  conv => whnf
  repeat' first
    | (refine call_intro (sameG_spec g h) ?_ (by first | exact .inl rfl | exact .inr ⟨rfl, rfl⟩); (conv => whnf))
    | (refine bc_true (by assumption) ?_; (conv => whnf))
    | (refine bc_false (by assumption) ?_; (conv => whnf))
    | (refine bc_intro (fun _ => ?_) (fun _ => ?_) <;> (conv => whnf))
    | (refine need_intro ?_ ?_; (conv => whnf))
    | (refine wk_refl ?_; (conv => whnf))
    | (refine draw_intro (by kernel_rfl) ?_; (conv => whnf))
    | (refine ord_intro (by kernel_rfl) ?_; (conv => whnf))
  all_goals first
    | exact ⟨LeS.refl _, trivial⟩
    | (exfalso; simp at *; done)
    | trace_state
def SndR (r : Rng) (g : GrpT) : Prop := SndG g ∧ (own0 g).copy.rng = r
theorem sndr_propose {r : Rng} {g : GrpT} {w : Wr} (h : SndR r g) : (proposeG g w).2 = 0 → SndR r (proposeG g w).1 := fun he => by
  obtain ⟨h1, h2, _⟩ := snd_propose h.1 he
  exact ⟨h1, by rw [h2.rng, h.2]⟩
theorem sndr_replicate {r : Rng} {g : GrpT} {id : Int} (h : SndR r g) : (replicateG g id).2 = 0 → SndR r (replicateG g id).1 := fun he => by
  obtain ⟨h1, h2⟩ := snd_replicate h.1 he
  exact ⟨h1, by rw [h2, h.2]⟩
theorem sndr_commit {r : Rng} {g : GrpT} (h : SndR r g) : (commitG g).2 = 0 → SndR r (commitG g).1.1 := fun he => by
  obtain ⟨h1, h2, _, _, _, h6⟩ := snd_commit h.1 he
  exact ⟨h1, by rw [h2, (commit_keep h6).2.2.1, h.2]⟩
theorem sndr_crash {r : Rng} {g : GrpT} {id : Int} (h : SndR r g) : (crashG g id).2 = 0 → SndR r (crashG g id).1 := fun he => by
  obtain ⟨h1, h2, _⟩ := snd_crash h.1 he
  exact ⟨h1, by rw [h2, h.2]⟩
theorem sndr_recruit {r : Rng} {g : GrpT} {id : Int} (h : SndR r g) : (recruitG g id).2 = 0 → SndR r (recruitG g id).1 := fun he => by
  obtain ⟨h1, h2⟩ := snd_recruit h.1 he
  exact ⟨h1, by rw [h2, h.2]⟩
theorem sndr_dismiss {r : Rng} {g : GrpT} {id : Int} (h : SndR r g) : (dismissG g id).2 = 0 → SndR r (dismissG g id).1 := fun he => by
  obtain ⟨h1, h2⟩ := snd_dismiss h.1 he
  exact ⟨h1, by rw [h2, h.2]⟩
set_option maxHeartbeats 4000000 in
theorem step0 {l : List Int} {a : Nat} (r : Rng) (g : GrpT) : (TapeOk l a ∧ SndR r g ∧ emptyR r.1 r.2.1 r.2.2.1 r.2.2.2 = false) → ∃ x : (GrpT × Int) × Nat, ((x.1.2 = 0 → SndR r x.1.1) ∧ TapeOk l x.2) ∧
    Sx.Spec Tryz.prog GG 53 [.ptr 1000 0, .agg (grpL g)] [(1000, tapeB l a)] (.tup [.agg (grpL x.1.1), .d (.int .i64 x.1.2), .d (.bool true)]) [(1000, tapeB l x.2)] := by
  rintro ⟨hT, hS, he⟩
  have hb0 := hS.1.b
  have hn1 := hS.1.n1
  have hlen := hb0.len
  have hpos : decide (((g.mem.length : Nat) : Int) > 0) = true := decide_eq_true (by omega)
  have hrng := hS.2
  have hem : emptyR (own0 g).copy.lk (own0 g).copy.lt (own0 g).copy.hk (own0 g).copy.ht = false := by rw [← hrng] at he; exact he
  refine spec_some (E := EE) (fn := Tryz.f53) _ _ _ false eok (by kernel_rfl) (by kernel_rfl) Tryz.call53 (by kernel_rfl) (fun _ => by kernel_rfl) (fun _ => by kernel_rfl) ?_
  conv => whnf
  repeat' first
    | (refine call_some_if (member_ex _ g) (fun _ => by first | exact .inl rfl | exact .inr ⟨rfl, rfl⟩) (need_intro ?_ ?_); rintro ⟨id, b⟩ h6; (conv => whnf))
    | (refine call_some_if (write_ex _) (fun _ => by first | exact .inl rfl | exact .inr ⟨rfl, rfl⟩) (need_intro ?_ ?_); rintro ⟨⟨wk, wv, wd⟩, b⟩ ⟨⟨h7, h8⟩, h6⟩; (conv => whnf))
    | (refine call_some_if (next_ex _) (fun _ => by first | exact .inl rfl | exact .inr ⟨rfl, rfl⟩) (need_intro ?_ ?_); rintro ⟨v, b⟩ ⟨⟨q1, q2⟩, h6⟩; (conv => whnf))
    | (refine bc_true (by assumption) ?_; (conv => whnf))
    | (refine bc_false (by assumption) ?_; (conv => whnf))
    | (refine need_intro ?_ ?_; (conv => whnf))
    | (refine wk_refl ?_; (conv => whnf))
    | (refine draw_intro (by kernel_rfl) ?_; (conv => whnf))
    | (refine ord_intro (by kernel_rfl) ?_; (conv => whnf))
  all_goals try first
    | assumption
    | exact ⟨by assumption, by omega, by omega⟩
    | exact ⟨by assumption, by omega⟩
  refine join_auto [0, 3, 4, 5, 6, 7, 8] [3, 4] (fun x : Wr × Nat => []) (fun x => [(8, .box [.d (.str x.1.1), .d (.str x.1.2.1), .d (.bool x.1.2.2)]), (1000, tapeB l x.2)]) (fun x => TapeOk l x.2) (fun _ => ?_) (fun _ => ?_) ?_
  · conv => whnf
    repeat' first
      | (refine call_some_if (writeIn_ex _) (fun _ => by first | exact .inl rfl | exact .inr ⟨rfl, rfl⟩) (need_intro ?_ ?_); rintro ⟨⟨yk, yv, yd⟩, b⟩ ⟨⟨h7, h8⟩, h6⟩; (conv => whnf))
      | (refine JoinVC.mk ((yk, yv, yd), b) ?_ ?_; (conv => whnf))
      | (refine bc_true (by assumption) ?_; (conv => whnf))
      | (refine bc_false (by assumption) ?_; (conv => whnf))
      | (refine need_intro ?_ ?_; (conv => whnf))
      | (refine wk_refl ?_; (conv => whnf))
      | (refine draw_intro (by kernel_rfl) ?_; (conv => whnf))
      | (refine ord_intro (by kernel_rfl) ?_; (conv => whnf))
    all_goals first | exact trivial | exact DLe.refl _ | assumption | exact ⟨by assumption, hem⟩ | exact ⟨Int.le_refl 0, by show (0 : Int) < (g.mem.length : Nat); omega⟩ | trace_state
  · conv => whnf
    repeat' first
      | (refine JoinVC.mk ((wk, wv, wd), b) ?_ ?_; (conv => whnf))
      | (refine bc_true (by assumption) ?_; (conv => whnf))
      | (refine bc_false (by assumption) ?_; (conv => whnf))
      | (refine need_intro ?_ ?_; (conv => whnf))
      | (refine wk_refl ?_; (conv => whnf))
      | (refine draw_intro (by kernel_rfl) ?_; (conv => whnf))
      | (refine ord_intro (by kernel_rfl) ?_; (conv => whnf))
    all_goals first | exact trivial | exact DLe.refl _ | assumption | trace_state
  rintro ⟨⟨wk, wv, wd⟩, b⟩ hb
  have s1 := same25_spec (proposeG g (wk, wv, wd)).1 (proposeG g (wk, wv, wd)).2 (propose_b hb0)
  have s2 := fun id => same25_spec (replicateG g id).1 (replicateG g id).2 (replicate_b hb0)
  have s3 := same25_spec (commitG g).1.1 (commitG g).2 (commitG_b hb0)
  have s4 := fun id => same25_spec (crashG g id).1 (crashG g id).2 (crash_b hb0)
  have s5 := fun id => same25_spec (recruitG g id).1 (recruitG g id).2 (recruit_b hb0)
  have s6 := fun id => same25_spec (dismissG g id).1 (dismissG g id).2 (dismiss_b hb0)
  conv => whnf
  repeat' first
    | (refine call_some_if (next_ex _) (fun _ => by first | exact .inl rfl | exact .inr ⟨rfl, rfl⟩) (need_intro ?_ ?_); rintro ⟨v, b⟩ ⟨⟨q1, q2⟩, h6⟩; (conv => whnf))
    | (refine call_if (propose_spec g (wk, wv, wd)) (by first | exact .inl rfl | exact .inr ⟨rfl, rfl⟩) (need_intro ?_ ?_); (conv => whnf))
    | (refine call_if (propr_spec g (wk, wv, wd)) (by first | exact .inl rfl | exact .inr ⟨rfl, rfl⟩) (need_intro ?_ ?_); (conv => whnf))
    | (refine call_intro (s1) ?_ (by first | exact .inl rfl | exact .inr ⟨rfl, rfl⟩); (conv => whnf))
    | (refine call_if (replicate_spec g _) (by first | exact .inl rfl | exact .inr ⟨rfl, rfl⟩) (need_intro ?_ ?_); (conv => whnf))
    | (refine call_if (replr_spec g _) (by first | exact .inl rfl | exact .inr ⟨rfl, rfl⟩) (need_intro ?_ ?_); (conv => whnf))
    | (refine call_intro (s2 _) ?_ (by first | exact .inl rfl | exact .inr ⟨rfl, rfl⟩); (conv => whnf))
    | (refine call_if (commitG_spec g) (by first | exact .inl rfl | exact .inr ⟨rfl, rfl⟩) (need_intro ?_ ?_); (conv => whnf))
    | (refine call_if (commr_spec g) (by first | exact .inl rfl | exact .inr ⟨rfl, rfl⟩) (need_intro ?_ ?_); (conv => whnf))
    | (refine call_intro (s3) ?_ (by first | exact .inl rfl | exact .inr ⟨rfl, rfl⟩); (conv => whnf))
    | (refine call_if (crash_spec g _) (by first | exact .inl rfl | exact .inr ⟨rfl, rfl⟩) (need_intro ?_ ?_); (conv => whnf))
    | (refine call_if (crashr_spec g _) (by first | exact .inl rfl | exact .inr ⟨rfl, rfl⟩) (need_intro ?_ ?_); (conv => whnf))
    | (refine call_intro (s4 _) ?_ (by first | exact .inl rfl | exact .inr ⟨rfl, rfl⟩); (conv => whnf))
    | (refine call_some_if (pickQ_ex _ (fun _ => True)) (fun _ => by first | exact .inl rfl | exact .inr ⟨rfl, rfl⟩) (need_intro ?_ ?_); rintro ⟨p, b⟩ ⟨q1, q2⟩; (conv => whnf))
    | (refine call_if (recruit_spec g _) (by first | exact .inl rfl | exact .inr ⟨rfl, rfl⟩) (need_intro ?_ ?_); (conv => whnf))
    | (refine call_if (recrr_spec g _) (by first | exact .inl rfl | exact .inr ⟨rfl, rfl⟩) (need_intro ?_ ?_); (conv => whnf))
    | (refine call_intro (s5 _) ?_ (by first | exact .inl rfl | exact .inr ⟨rfl, rfl⟩); (conv => whnf))
    | (refine call_if (dismp_spec g _) (by first | exact .inl rfl | exact .inr ⟨rfl, rfl⟩) (need_intro ?_ ?_); (conv => whnf))
    | (refine call_if (dismr_spec g _) (by first | exact .inl rfl | exact .inr ⟨rfl, rfl⟩) (need_intro ?_ ?_); (conv => whnf))
    | (refine call_intro (s6 _) ?_ (by first | exact .inl rfl | exact .inr ⟨rfl, rfl⟩); (conv => whnf))
    | (refine bc_true (by assumption) ?_; (conv => whnf))
    | (refine bc_false (by assumption) ?_; (conv => whnf))
    | (refine bc_intro (fun _ => ?_) (fun _ => ?_) <;> (conv => whnf))
    | (refine need_intro ?_ ?_; (conv => whnf))
    | (refine wk_refl ?_; (conv => whnf))
    | (refine draw_intro (by kernel_rfl) ?_; (conv => whnf))
    | (refine ord_intro (by kernel_rfl) ?_; (conv => whnf))
  all_goals try first
    | assumption
    | exact ⟨by assumption, by omega, by omega⟩
    | exact ⟨((_, _), _), ⟨sndr_propose hS, by assumption⟩, LeS.refl _, LeL.refl _, trivial⟩
    | exact ⟨((_, _), _), ⟨sndr_replicate hS, by assumption⟩, LeS.refl _, LeL.refl _, trivial⟩
    | exact ⟨(((commitG g).1.1, (commitG g).2), _), ⟨sndr_commit hS, by assumption⟩, LeS.tup (LeL.cons (LeS.refl _) (LeL.cons (LeS.refl _) (LeL.cons (LeS.of_eq (by simp)) LeL.nil))), LeL.refl _, trivial⟩
    | exact ⟨by assumption, ⟨by omega, by omega⟩, by repeat' first | exact trivial | exact ⟨_, rfl, trivial⟩ | apply And.intro⟩
    | exact ⟨((_, _), _), ⟨sndr_crash hS, by assumption⟩, LeS.refl _, LeL.refl _, trivial⟩
    | exact ⟨((_, _), _), ⟨sndr_recruit hS, by assumption⟩, LeS.refl _, LeL.refl _, trivial⟩
    | exact ⟨((_, _), _), ⟨sndr_dismiss hS, by assumption⟩, LeS.refl _, LeL.refl _, trivial⟩
  all_goals trace_state
theorem step_ex (m : Nat) {l : List Int} {a : Nat} (r : Rng) (g : GrpT) : (TapeOk l a ∧ SndR r g ∧ emptyR r.1 r.2.1 r.2.2.1 r.2.2.2 = false) → ∃ x : (GrpT × Int) × Nat, ((x.1.2 = 0 → SndR r x.1.1) ∧ TapeOk l x.2) ∧
    Sx.Spec Tryz.prog GG 53 [.ptr m 0, .agg (grpL g)] [(m, tapeB l a)] (.tup [.agg (grpL x.1.1), .d (.int .i64 x.1.2), .d (.bool true)]) [(m, tapeB l x.2)] := fun h => by
  obtain ⟨x, hx, hs⟩ := step0 r g h
  exact ⟨x, hx, hs.at m⟩
set_option maxHeartbeats 4000000 in
theorem looks_spec (g : GrpT) (id : Int) (q : List UInt8) : SndG g → Sx.Spec Tryz.prog GG 54 [.agg (grpL g), .d (.int .i64 id), .d (.str q)] [] (.d (.bool true)) [] := by
  intro h
  have hb := h.b
  have hl := hb.len
  have h5 := h.n5
  have hos := owner_small hb
  have hsc := samer_spec (ownerG g).1.copy (ownerG g).1.copy ⟨hos, hos⟩
  rw [sameC_refl] at hsc
  have hsr := fun r : Rng => sameRngr_spec r.1 r.2.1 r.2.2.1 r.2.2.2 r.1 r.2.1 r.2.2.1 r.2.2.2
  have hst := fun x : List Row => fun hx : x.length ≤ 5000000000000 => sameRr_spec x x ⟨hx, hx⟩
  have hvl : (viewG g).1.rows.length ≤ 1000000 := by
    unfold viewG
    split
    · simp [Go.Sx.noView]
    · split
      · simp [Go.Sx.noView]
      · exact hos.1
  have hrr : ∀ r : Rng, sameRng (r.1, r.2.1, r.2.2.1, r.2.2.2) (r.1, r.2.1, r.2.2.1, r.2.2.2) = true := fun r => sameRng_refl r
  simp only [hrr] at hsr
  simp only [same_refl] at hst
  have hsr' := hsr ((viewG g).1.lk, (viewG g).1.lt, (viewG g).1.hk, (viewG g).1.ht)
  have hst' := hst (viewG g).1.rows (Nat.le_trans hvl (by omega))
  refine spec_intro (E := EE) (fn := Tryz.f54) eok (by kernel_rfl) (by kernel_rfl) Tryz.call54 (by kernel_rfl) (by kernel_rfl) ?_
  conv => whnf
  repeat' first
    | (refine call_intro (owner_spec g hb) ?_ (by first | exact .inl rfl | exact .inr ⟨rfl, rfl⟩); (conv => whnf))
    | (refine call_intro (ownerr_spec g hl) ?_ (by first | exact .inl rfl | exact .inr ⟨rfl, rfl⟩); (conv => whnf))
    | (refine call_intro (getgp_spec g q hb) ?_ (by first | exact .inl rfl | exact .inr ⟨rfl, rfl⟩); (conv => whnf))
    | (refine call_intro (getgr_spec g q hb) ?_ (by first | exact .inl rfl | exact .inr ⟨rfl, rfl⟩); (conv => whnf))
    | (refine call_intro (viewp_spec g hb) ?_ (by first | exact .inl rfl | exact .inr ⟨rfl, rfl⟩); (conv => whnf))
    | (refine call_intro (viewr_spec g hb) ?_ (by first | exact .inl rfl | exact .inr ⟨rfl, rfl⟩); (conv => whnf))
    | (refine call_intro (hsc) ?_ (by first | exact .inl rfl | exact .inr ⟨rfl, rfl⟩); (conv => whnf))
    | (refine call_intro (hsr') ?_ (by first | exact .inl rfl | exact .inr ⟨rfl, rfl⟩); (conv => whnf))
    | (refine call_intro (hst') ?_ (by first | exact .inl rfl | exact .inr ⟨rfl, rfl⟩); (conv => whnf))
    | (refine call_intro (livep_spec0 g hl) ?_ (by first | exact .inl rfl | exact .inr ⟨rfl, rfl⟩); (conv => whnf))
    | (refine call_intro (liver_spec0 g hl) ?_ (by first | exact .inl rfl | exact .inr ⟨rfl, rfl⟩); (conv => whnf))
    | (refine bc_true (by assumption) ?_; (conv => whnf))
    | (refine bc_false (by assumption) ?_; (conv => whnf))
    | (refine bc_intro (fun _ => ?_) (fun _ => ?_) <;> (conv => whnf))
    | (refine need_intro ?_ ?_; (conv => whnf))
    | (refine wk_refl ?_; (conv => whnf))
    | (refine draw_intro (by kernel_rfl) ?_; (conv => whnf))
    | (refine ord_intro (by kernel_rfl) ?_; (conv => whnf))
  all_goals try (exfalso; simp at *; done)
  all_goals
    refine loop_auto [1, 3, 6, 21, 22, 142, 143] [3] (fun i : Nat => [(144, .d (.int .i64 i))]) (fun i => []) (fun i => i ≤ (liveL g.mem).length) (fun i => (liveL g.mem).length - i) 0 ?_ (fun i hi => ?_) (by omega)
    · conv => whnf
      repeat' first
        | (refine bc_true (by assumption) ?_; (conv => whnf))
        | (refine bc_false (by assumption) ?_; (conv => whnf))
        | (refine bc_intro (fun _ => ?_) (fun _ => ?_) <;> (conv => whnf))
        | (refine need_intro ?_ ?_; (conv => whnf))
        | (refine wk_refl ?_; (conv => whnf))
        | (refine draw_intro (by kernel_rfl) ?_; (conv => whnf))
        | (refine ord_intro (by kernel_rfl) ?_; (conv => whnf))
      all_goals first | exact trivial | exact DLe.refl _ | trace_state
    · have hll : (liveL g.mem).length ≤ 1000 := by
        unfold liveL
        rw [List.length_map]
        exact Nat.le_trans (List.length_filter_le _ _) hl
      have hsi : IntKind.i64.wrap ((i : Int) + 1) = ((i + 1 : Nat) : Int) := wrap_succ (n := 2000) (by omega) (by omega)
      conv => whnf
      repeat' first
        | (refine call_intro (checkp_spec g h) ?_ (by first | exact .inl rfl | exact .inr ⟨rfl, rfl⟩); (conv => whnf))
        | (refine call_intro (checkr_spec g h) ?_ (by first | exact .inl rfl | exact .inr ⟨rfl, rfl⟩); (conv => whnf))
        | (refine call_intro (hasG_spec g id hb) ?_ (by first | exact .inl rfl | exact .inr ⟨rfl, rfl⟩); (conv => whnf))
        | (refine call_intro (hasr_spec g id hb) ?_ (by first | exact .inl rfl | exact .inr ⟨rfl, rfl⟩); (conv => whnf))
        | (refine NextVC.mk (i + 1) ?_ ?_ ?_; (conv => whnf))
        | (refine bc_true (by assumption) ?_; (conv => whnf))
        | (refine bc_false (by assumption) ?_; (conv => whnf))
        | (refine bc_intro (fun _ => ?_) (fun _ => ?_) <;> (conv => whnf))
        | (refine need_intro ?_ ?_; (conv => whnf))
        | (refine wk_refl ?_; (conv => whnf))
        | (refine draw_intro (by kernel_rfl) ?_; (conv => whnf))
        | (refine ord_intro (by kernel_rfl) ?_; (conv => whnf))
      all_goals try simp only [decide_eq_true_eq, decide_eq_false_iff_not] at *
      all_goals first
        | exact trivial
        | omega
        | exact DLe.refl _
        | exact DLe.of_eq (by rw [hsi])
        | exact ⟨by omega, by omega⟩
        | (refine ⟨LeS.of_eq ?_, trivial⟩; simp; done)
        | exact ⟨LeS.refl _, trivial⟩
        | (exfalso; simp at *; done)
        | trace_state
end Go.Proofs.YtegbenagmciegaaGreatDoor
