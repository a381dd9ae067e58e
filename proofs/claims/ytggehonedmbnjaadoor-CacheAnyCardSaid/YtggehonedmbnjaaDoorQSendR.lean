/- Contracts of functions that the law reaches: YtggehonedmbnjaaDoorQSendR. Written for this claim. -/
import Derived.Test.YtggehonedmbnjaaDoorQSend
namespace Go.Proofs.YtggehonedmbnjaaDoor
open Go Go.Sx Go.ChangeShapes Go.WideShapes Go.ChangeAt Go.RowKit
set_option linter.unusedVariables false
set_option linter.unusedSimpArgs false
set_option maxRecDepth 100000
theorem addr_nil (n : Int) : Sx.Spec Tryd.prog GG 54 [.d (.val (.slice none 0 0)), .d (.int .i64 n)] [] (.d (encL encI 1 (insN n []))) [] :=
  (addr_spec [] n (by simp)).arg (LeL.cons (LeS.d DLe.nil) (LeL.cons (LeS.refl _) LeL.nil))
theorem setr_cell (x : LseT) (l : List LseT) {k v : List UInt8} {has w : Bool} {h f : D} {a b : List UInt8} {c : Bool} : ((x.key = k ∧ x.val = v ∧ x.has = has ∧ x.wait = w ∧ x.nxt = (a, b, c)) ∧ (DLe h (encL encI 1 x.hold) ∧ DLe f (encL encI 1 x.fly)) ∧ l.length ≤ 900000) → Sx.Spec Tryd.prog GG 55 [.d (encL encLse 9 l), .agg [.d (.str k), .d (.str v), .d (.bool has), .d h, .d f, .d (.bool w), .d (.str a), .d (.str b), .d (.bool c)]] [] (.d (encL encLse 9 (setL x l))) [] := by
  rintro ⟨⟨rfl, rfl, rfl, rfl, e⟩, ⟨h1, h2⟩, h⟩
  have e1 : x.nxt.1 = a := by rw [e]
  have e2 : x.nxt.2.1 = b := by rw [e]
  have e3 : x.nxt.2.2 = c := by rw [e]
  subst e1; subst e2; subst e3
  exact (setr_spec l x h).arg (LeL.cons (LeS.refl _) (LeL.cons (LeS.agg (LeL.cons (LeS.refl _) (LeL.cons (LeS.refl _) (LeL.cons (LeS.refl _) (LeL.cons (LeS.d h1) (LeL.cons (LeS.d h2) (LeL.refl _))))))) LeL.nil))
set_option maxHeartbeats 4000000 in
theorem sendr_spec (l : List LseT) (node : Int) (k v : List UInt8) (has : Bool) : LsB l → Sx.Spec Tryd.prog GG 22 [.d (encL encLse 9 l), .d (.int .i64 node), .d (.str k), .d (.str v), .d (.bool has)] [] (.tup [.d (encL encLse 9 (sendL l node k v has).1), .d (.int .i64 (sendL l node k v has).2)]) [] := by
  intro h
  have hl := h.len
  have hb := h.at
  have hl9 : checkL l = true → l.length ≤ 900000 := fun h => by have := (checkL_iff.1 h).len; omega
  have hrow : ((decide ((k.length : Int) ≤ 64) && fitsV v has) = false → ¬ ((k.length : Int) ≤ 64) ∨ fitsV v has = false) := fun h => by
    cases hf : fitsV v has
    · exact .inr rfl
    · rw [hf, Bool.and_true, decide_eq_false_iff_not] at h; exact .inl h
  have hrow2 : ((decide ((k.length : Int) ≤ 64) && fitsV v has) = true → (k.length : Int) ≤ 64 ∧ fitsV v has = true) := fun h => by simpa using h
  have b3 : (decide ((k.length : Int) ≤ 64) && fitsV v has) = false → sendL l node k v has = ([], 1) := fun hh => send_e1 (.inr (.inr (hrow hh)))
  cases hf : findL l k with
  | none =>
    have q1 : checkL l = true → numOk node = true → (decide ((k.length : Int) ≤ 64) && fitsV v has) = true → l.length = 64 → sendL l node k v has = ([], 16) := fun h1 h2 h3 h4 => send_full h1 h2 (hrow2 h3).1 (hrow2 h3).2 hf h4
    have q2 : checkL l = true → numOk node = true → (decide ((k.length : Int) ≤ 64) && fitsV v has) = true → ¬ l.length = 64 → sendL l node k v has = (setL ⟨k, v, has, [], [node], false, noWr⟩ l, 0) := fun h1 h2 h3 h4 => by
      rw [send_new h1 h2 (hrow2 h3).1 (hrow2 h3).2 hf h4, set_new (find_none.1 hf)]
    have e0 := findI_none hf
    refine spec_intro (E := EE) (fn := Tryd.f22) eok (by kernel_rfl) (by kernel_rfl) Tryd.call22 (by kernel_rfl) (by kernel_rfl) ?_
    conv => whnf
    repeat' first
      | (refine call_if (checkr_spec _) (by first | exact .inl rfl | exact .inr ⟨rfl, rfl⟩) (need_intro ?_ ?_); (conv => whnf))
      | (refine call_intro (numberedr_spec _) ?_ (by first | exact .inl rfl | exact .inr ⟨rfl, rfl⟩); (conv => whnf))
      | (refine call_intro (rowr_spec _ _ _) ?_ (by first | exact .inl rfl | exact .inr ⟨rfl, rfl⟩); (conv => whnf))
      | (refine call_if (findr_spec _ _) (by first | exact .inl rfl | exact .inr ⟨rfl, rfl⟩) (need_intro ?_ ?_); (conv => whnf))
      | (refine call_intro (addr_nil node) ?_ (by first | exact .inl rfl | exact .inr ⟨rfl, rfl⟩); (conv => whnf))
      | (refine call_if (setr_cell ⟨k, v, has, [], [node], false, noWr⟩ l) (by first | exact .inl rfl | exact .inr ⟨rfl, rfl⟩) (need_intro ?_ ?_); (conv => whnf))
      | (refine bc_true (by assumption) ?_; (conv => whnf))
      | (refine bc_false (by assumption) ?_; (conv => whnf))
      | (refine bc_intro (fun _ => ?_) (fun _ => ?_) <;> (conv => whnf))
      | (refine need_intro ?_ ?_; (conv => whnf))
      | (refine wk_refl ?_; (conv => whnf))
      | (refine draw_intro (by kernel_rfl) ?_; (conv => whnf))
      | (refine ord_intro (by kernel_rfl) ?_; (conv => whnf))
    all_goals try simp only [e0, Bool.not_eq_true', Bool.not_eq_false', beq_iff_eq, beq_eq_false_iff_ne, ne_eq] at *
    all_goals first
      | omega
      | exact h
      | contradiction
      | exact ⟨⟨trivial, trivial, trivial, trivial, rfl⟩, ⟨DLe.nil, DLe.refl _⟩, hl9 (by assumption)⟩
      | (rw [b3 (by assumption)]
         (refine ⟨LeS.tup (LeL.cons ?_ (LeL.cons (LeS.refl _) LeL.nil)), trivial⟩
          first
            | exact LeS.refl _
            | exact les_nil rfl
            | exact les_own rfl
            | exact LeS.refl _)
         done)
      | (rw [send_e1 (.inl (by assumption))]
         (refine ⟨LeS.tup (LeL.cons ?_ (LeL.cons (LeS.refl _) LeL.nil)), trivial⟩
          first
            | exact LeS.refl _
            | exact les_nil rfl
            | exact les_own rfl
            | exact LeS.refl _)
         done)
      | (rw [send_e1 (.inr (.inl (by assumption)))]
         (refine ⟨LeS.tup (LeL.cons ?_ (LeL.cons (LeS.refl _) LeL.nil)), trivial⟩
          first
            | exact LeS.refl _
            | exact les_nil rfl
            | exact les_own rfl
            | exact LeS.refl _)
         done)
      | (rw [q1 (by assumption) (by assumption) (by assumption) (by omega)]
         (refine ⟨LeS.tup (LeL.cons ?_ (LeL.cons (LeS.refl _) LeL.nil)), trivial⟩
          first
            | exact LeS.refl _
            | exact les_nil rfl
            | exact les_own rfl
            | exact LeS.refl _)
         done)
      | (rw [q2 (by assumption) (by assumption) (by assumption) (by omega)]
         (refine ⟨LeS.tup (LeL.cons ?_ (LeL.cons (LeS.refl _) LeL.nil)), trivial⟩
          first
            | exact LeS.refl _
            | exact les_nil rfl
            | exact les_own rfl
            | exact LeS.refl _)
         done)
      | trace_state
  | some n =>
    obtain ⟨p, rfl, hp, hk⟩ := find_some hf
    have e0 := findI_some hf
    have hbp := hb p
    have hn : ¬ ((p : Int) < 0) := by omega
    have q1 : checkL l = true → numOk node = true → (decide ((k.length : Int) ≤ 64) && fitsV v has) = true → _ := fun h1 h2 h3 => send_busy (node := node) (v := v) (has := has) h1 h2 (hrow2 h3).1 (hrow2 h3).2 hf
    have q2 : checkL l = true → numOk node = true → (decide ((k.length : Int) ≤ 64) && fitsV v has) = true → _ := fun h1 h2 h3 => send_stale (node := node) (v := v) (has := has) h1 h2 (hrow2 h3).1 (hrow2 h3).2 hf
    have q3 : checkL l = true → numOk node = true → (decide ((k.length : Int) ≤ 64) && fitsV v has) = true → _ := fun h1 h2 h3 => send_dup (node := node) (v := v) (has := has) h1 h2 (hrow2 h3).1 (hrow2 h3).2 hf
    have q4 : checkL l = true → numOk node = true → (decide ((k.length : Int) ≤ 64) && fitsV v has) = true → _ := fun h1 h2 h3 => send_ok (node := node) (v := v) (has := has) h1 h2 (hrow2 h3).1 (hrow2 h3).2 hf
    have q5 : checkL l = true → setL { l.getD p default with fly := insN node (l.getD p default).fly } l = l.set p { l.getD p default with fly := insN node (l.getD p default).fly } := fun h => set_found (checkL_iff.1 h).sorted hp rfl
    refine spec_intro (E := EE) (fn := Tryd.f22) eok (by kernel_rfl) (by kernel_rfl) Tryd.call22 (by kernel_rfl) (by kernel_rfl) ?_
    conv => whnf
    repeat' first
      | (refine call_if (checkr_spec _) (by first | exact .inl rfl | exact .inr ⟨rfl, rfl⟩) (need_intro ?_ ?_); (conv => whnf))
      | (refine call_intro (numberedr_spec _) ?_ (by first | exact .inl rfl | exact .inr ⟨rfl, rfl⟩); (conv => whnf))
      | (refine call_intro (rowr_spec _ _ _) ?_ (by first | exact .inl rfl | exact .inr ⟨rfl, rfl⟩); (conv => whnf))
      | (refine call_if (findr_spec _ _) (by first | exact .inl rfl | exact .inr ⟨rfl, rfl⟩) (need_intro ?_ ?_); (conv => whnf))
      | (refine call_if (hasr_spec _ _) (by first | exact .inl rfl | exact .inr ⟨rfl, rfl⟩) (need_intro ?_ ?_); (conv => whnf))
      | (refine call_if (addr_spec (l.getD (findI l k).toNat default).fly node) (by first | exact .inl rfl | exact .inr ⟨rfl, rfl⟩) (need_intro ?_ ?_); (conv => whnf))
      | (refine call_if (addr_spec _ _) (by first | exact .inl rfl | exact .inr ⟨rfl, rfl⟩) (need_intro ?_ ?_); (conv => whnf))
      | (refine call_if (setr_cell { l.getD p default with fly := insN node (l.getD p default).fly } l) (by first | exact .inl rfl | exact .inr ⟨rfl, rfl⟩) (need_intro ?_ ?_); (conv => whnf))
      | (refine bc_true (by assumption) ?_; (conv => whnf))
      | (refine bc_false (by assumption) ?_; (conv => whnf))
      | (refine bc_intro (fun _ => ?_) (fun _ => ?_) <;> (conv => whnf))
      | (refine need_intro ?_ ?_; (conv => whnf))
      | (refine wk_refl ?_; (conv => whnf))
      | (refine draw_intro (by kernel_rfl) ?_; (conv => whnf))
      | (refine ord_intro (by kernel_rfl) ?_; (conv => whnf))
    all_goals try simp only [e0, Option.getD_some, Int.toNat_natCast, Nat.zero_add, Bool.not_eq_true', Bool.not_eq_false', beq_iff_eq, beq_eq_false_iff_ne, ne_eq] at *
    all_goals first
      | omega
      | exact h
      | contradiction
      | exact ⟨⟨trivial, trivial, trivial, trivial, trivial⟩, ⟨DLe.refl _, DLe.refl _⟩, hl9 (by assumption)⟩
      | (rw [b3 (by assumption)]
         (refine ⟨LeS.tup (LeL.cons ?_ (LeL.cons (LeS.refl _) LeL.nil)), trivial⟩
          first
            | exact LeS.refl _
            | exact les_nil rfl
            | exact les_own rfl
            | exact LeS.refl _)
         done)
      | (rw [send_e1 (.inl (by assumption))]
         (refine ⟨LeS.tup (LeL.cons ?_ (LeL.cons (LeS.refl _) LeL.nil)), trivial⟩
          first
            | exact LeS.refl _
            | exact les_nil rfl
            | exact les_own rfl
            | exact LeS.refl _)
         done)
      | (rw [send_e1 (.inr (.inl (by assumption)))]
         (refine ⟨LeS.tup (LeL.cons ?_ (LeL.cons (LeS.refl _) LeL.nil)), trivial⟩
          first
            | exact LeS.refl _
            | exact les_nil rfl
            | exact les_own rfl
            | exact LeS.refl _)
         done)
      | (rw [q1 (by assumption) (by assumption) (by assumption) (by assumption)]
         (refine ⟨LeS.tup (LeL.cons ?_ (LeL.cons (LeS.refl _) LeL.nil)), trivial⟩
          first
            | exact LeS.refl _
            | exact les_nil rfl
            | exact les_own rfl
            | exact LeS.refl _)
         done)
      | (rw [q2 (by assumption) (by assumption) (by assumption) (by assumption) (.inl (by assumption))]
         (refine ⟨LeS.tup (LeL.cons ?_ (LeL.cons (LeS.refl _) LeL.nil)), trivial⟩
          first
            | exact LeS.refl _
            | exact les_nil rfl
            | exact les_own rfl
            | exact LeS.refl _)
         done)
      | (rw [q2 (by assumption) (by assumption) (by assumption) (by assumption) (.inr (by assumption))]
         (refine ⟨LeS.tup (LeL.cons ?_ (LeL.cons (LeS.refl _) LeL.nil)), trivial⟩
          first
            | exact LeS.refl _
            | exact les_nil rfl
            | exact les_own rfl
            | exact LeS.refl _)
         done)
      | (rw [q3 (by assumption) (by assumption) (by assumption) (by assumption) (by assumption) (by assumption) (.inl (by assumption))]
         (refine ⟨LeS.tup (LeL.cons ?_ (LeL.cons (LeS.refl _) LeL.nil)), trivial⟩
          first
            | exact LeS.refl _
            | exact les_nil rfl
            | exact les_own rfl
            | exact LeS.refl _)
         done)
      | (rw [q3 (by assumption) (by assumption) (by assumption) (by assumption) (by assumption) (by assumption) (.inr (by assumption))]
         (refine ⟨LeS.tup (LeL.cons ?_ (LeL.cons (LeS.refl _) LeL.nil)), trivial⟩
          first
            | exact LeS.refl _
            | exact les_nil rfl
            | exact les_own rfl
            | exact LeS.refl _)
         done)
      | (rw [q5 (by assumption), q4 (by assumption) (by assumption) (by assumption) (by assumption) (by assumption) (by assumption) (by assumption) (by assumption)]
         (refine ⟨LeS.tup (LeL.cons ?_ (LeL.cons (LeS.refl _) LeL.nil)), trivial⟩
          first
            | exact LeS.refl _
            | exact les_nil rfl
            | exact les_own rfl
            | exact LeS.refl _)
         done)
      | trace_state
end Go.Proofs.YtggehonedmbnjaaDoor
