/- The law GroupNew: the walk through its code and the claim. -/
import Derived.Test.YtegbenagmciegaaGreatDoorLawS
namespace Go.Proofs.YtegbenagmciegaaGreatDoor
open Go Go.Sx Go.ChangeShapes Go.WideShapes Go.ChangeAt Go.WideMaps Go.WideElems Go.RowKit
set_option linter.unusedVariables false
set_option linter.unusedSimpArgs false
set_option maxRecDepth 100000
/-! copies as arguments -/
theorem rows_wf {R f : Nat} {ds : List D} (h : wfT Tryz.prog R (f + 3) 29 ds) : ∃ xs : List Row, LeL (ds.map .d) [.d (encL encRow 2 xs)] := by
  obtain ⟨len, get, rfl, hlen, _, hel⟩ := h
  have c : Tryz.prog.cellsOf 121 = 2 := by kernel_rfl
  obtain ⟨xs, h1, h2, h3⟩ := list_of (α := Row) (enc := encRow) (Q := fun x => True) (k := 2) (fun _ => rfl) (len := len) (get := get) (fun i hi => by
    have := hel i hi
    rw [c] at this
    obtain ⟨a, r1, e1, ⟨k, rfl, _, hk⟩, b, r2, rfl, ⟨v, rfl, _, hv⟩, rfl⟩ := this
    exact ⟨(k, v), trivial, e1⟩)
  refine ⟨xs, ?_⟩
  show LeL [.d (.list len (Tryz.prog.cellsOf 121) get)] _
  rw [c]
  exact LeL.cons (LeS.d h3) LeL.nil
theorem writes_wf {R f : Nat} {ds : List D} (h : wfT Tryz.prog R (f + 3) 30 ds) : ∃ xs : List Wr, LeL (ds.map .d) [.d (encL encWr 3 xs)] := by
  obtain ⟨len, get, rfl, hlen, _, hel⟩ := h
  have c : Tryz.prog.cellsOf 58 = 3 := by kernel_rfl
  obtain ⟨xs, h1, h2, h3⟩ := list_of (α := Wr) (enc := encWr) (Q := fun x => True) (k := 3) (fun _ => rfl) (len := len) (get := get) (fun i hi => by
    have := hel i hi
    rw [c] at this
    obtain ⟨a, r1, e1, ⟨k, rfl, _, hk⟩, b, r2, rfl, ⟨v, rfl, _, hv⟩, b2, r3, rfl, ⟨d, rfl⟩, rfl⟩ := this
    exact ⟨(k, v, d), trivial, e1⟩)
  refine ⟨xs, ?_⟩
  show LeL [.d (.list len (Tryz.prog.cellsOf 58) get)] _
  rw [c]
  exact LeL.cons (LeS.d h3) LeL.nil
structure PartI (p : PartT) : Prop where
  serial : I64 p.serial
  src : I64 p.src
  dst : I64 p.dst
  se : I64 p.se
  sv : I64 p.sv
structure CopyI (c : CopyT) : Prop where
  out : PartI c.out
  inn : PartI c.inn
  took : I64 c.took
  src : I64 c.src
  se : I64 c.se
  sv : I64 c.sv
  lk : c.lk.length ≤ 200000000000000
  hk : c.hk.length ≤ 200000000000000
theorem part_wf {R f : Nat} {ds : List D} (h : wfT Tryz.prog R (f + 5) 32 ds) : ∃ p : PartT, PartI p ∧ LeL (ds.map .d) (partL p) := by
  obtain ⟨a1, r1, rfl, ⟨n1, rfl, w1⟩, a2, r2, rfl, ⟨n2, rfl, w2⟩, a3, r3, rfl, ⟨n3, rfl, w3⟩, a4, r4, rfl, ⟨b1, s1, rfl, ⟨e, rfl, we⟩, b2, s2, rfl, ⟨v, rfl, wv⟩, rfl⟩, a5, r5, rfl,
    ⟨c1, u1, rfl, ⟨_, _, rfl, ⟨lk, rfl, _⟩, _, _, rfl, ⟨lt, rfl⟩, rfl⟩, c2, u2, rfl, ⟨_, _, rfl, ⟨hk, rfl, _⟩, _, _, rfl, ⟨ht, rfl⟩, rfl⟩, rfl⟩, a6, r6, rfl, hrows, rfl⟩ := h
  obtain ⟨xs, hx⟩ := rows_wf hrows
  refine ⟨⟨n1, n2, n3, e, v, lk, lt, hk, ht, xs⟩, ⟨wf_i64 w1, wf_i64 w2, wf_i64 w3, wf_i64 we, wf_i64 wv⟩, ?_⟩
  simp only [List.map_append, List.map_cons, List.map_nil, List.append_assoc, List.cons_append, List.nil_append, List.append_nil]
  repeat' first
    | exact hx
    | refine LeL.cons (LeS.refl _) ?_
theorem copy_wf {R f : Nat} {ds : List D} (hR : R ≤ 200000000000000) (h : wfT Tryz.prog R (f + 7) 34 ds) : ∃ c : CopyT, CopyI c ∧ LeL (ds.map .d) (copyL c) := by
  obtain ⟨a5, r5, rfl, ⟨c1, u1, rfl, ⟨_, _, rfl, ⟨lk, rfl, _, hlk⟩, _, _, rfl, ⟨lt, rfl⟩, rfl⟩, c2, u2, rfl, ⟨_, _, rfl, ⟨hk, rfl, _, hhk⟩, _, _, rfl, ⟨ht, rfl⟩, rfl⟩, rfl⟩,
    a4, r4, rfl, ⟨b1, s1, rfl, ⟨e, rfl, we⟩, b2, s2, rfl, ⟨v, rfl, wv⟩, rfl⟩, a6, r6, rfl, hrows, a7, r7, rfl, hpend, a8, r8, rfl, hout, a9, r9, rfl, hinn, a1, r1, rfl, ⟨n1, rfl, w1⟩, a2, r2, rfl, ⟨n2, rfl, w2⟩, rfl⟩ := h
  obtain ⟨xs, hx⟩ := rows_wf hrows
  obtain ⟨ws, hw⟩ := writes_wf hpend
  obtain ⟨p, hp, hpl⟩ := part_wf hout
  obtain ⟨q, hq, hql⟩ := part_wf hinn
  refine ⟨⟨lk, lt, hk, ht, e, v, xs, ws, p, q, n1, n2⟩, ⟨hp, hq, wf_i64 w1, wf_i64 w2, wf_i64 we, wf_i64 wv, Nat.le_trans hlk hR, Nat.le_trans hhk hR⟩, ?_⟩
  simp only [List.map_append, List.map_cons, List.map_nil, List.append_assoc, List.cons_append, List.nil_append, List.append_nil]
  refine LeL.cons (LeS.refl _) (LeL.cons (LeS.refl _) (LeL.cons (LeS.refl _) (LeL.cons (LeS.refl _) (LeL.cons (LeS.refl _) (LeL.cons (LeS.refl _) ?_)))))
  exact leL_app hx (leL_app hw (leL_app hpl (leL_app hql (LeL.refl _))))
theorem CopyI.b {c : CopyT} {n : Nat} (h : CopyI c) (h1 : c.rows.length ≤ n) (h2 : c.pend.length ≤ n) (h3 : c.out.rows.length ≤ n) (h4 : c.inn.rows.length ≤ n) : CopyB n c :=
  ⟨h1, h2, ⟨h3, h.out.serial, h.out.src, h.out.dst, h.out.se, h.out.sv⟩, ⟨h4, h.inn.serial, h.inn.src, h.inn.dst, h.inn.se, h.inn.sv⟩, h.took, h.src, h.se, h.sv, h.lk, h.hk⟩
theorem rows_wfB {R f : Nat} {ds : List D} (h : wfT Tryz.prog R (f + 3) 29 ds) : ∃ xs : List Row, (R ≤ 140737488355328 → xs.length ≤ 4398046511104) ∧ LeL (ds.map .d) [.d (encL encRow 2 xs)] := by
  obtain ⟨len, get, rfl, hlen, hby, hel⟩ := h
  have hbr : Tryz.prog.bytesOf 121 = 32 := by kernel_rfl
  rw [hbr] at hby
  have c : Tryz.prog.cellsOf 121 = 2 := by kernel_rfl
  obtain ⟨xs, h1, h2, h3⟩ := list_of (α := Row) (enc := encRow) (Q := fun x => True) (k := 2) (fun _ => rfl) (len := len) (get := get) (fun i hi => by
    have := hel i hi
    rw [c] at this
    obtain ⟨a, r1, e1, ⟨k, rfl, _, hk⟩, b, r2, rfl, ⟨v, rfl, _, hv⟩, rfl⟩ := this
    exact ⟨(k, v), trivial, e1⟩)
  refine ⟨xs, fun hR => by omega, ?_⟩
  show LeL [.d (.list len (Tryz.prog.cellsOf 121) get)] _
  rw [c]
  exact LeL.cons (LeS.d h3) LeL.nil
theorem part_wfB {R f : Nat} {ds : List D} (h : wfT Tryz.prog R (f + 5) 32 ds) : ∃ p : PartT, PartI p ∧ (R ≤ 140737488355328 → p.rows.length ≤ 4398046511104) ∧ LeL (ds.map .d) (partL p) := by
  obtain ⟨a1, r1, rfl, ⟨n1, rfl, w1⟩, a2, r2, rfl, ⟨n2, rfl, w2⟩, a3, r3, rfl, ⟨n3, rfl, w3⟩, a4, r4, rfl, ⟨b1, s1, rfl, ⟨e, rfl, we⟩, b2, s2, rfl, ⟨v, rfl, wv⟩, rfl⟩, a5, r5, rfl,
    ⟨c1, u1, rfl, ⟨_, _, rfl, ⟨lk, rfl, _⟩, _, _, rfl, ⟨lt, rfl⟩, rfl⟩, c2, u2, rfl, ⟨_, _, rfl, ⟨hk, rfl, _⟩, _, _, rfl, ⟨ht, rfl⟩, rfl⟩, rfl⟩, a6, r6, rfl, hrows, rfl⟩ := h
  obtain ⟨xs, hxb, hx⟩ := rows_wfB hrows
  refine ⟨⟨n1, n2, n3, e, v, lk, lt, hk, ht, xs⟩, ⟨wf_i64 w1, wf_i64 w2, wf_i64 w3, wf_i64 we, wf_i64 wv⟩, hxb, ?_⟩
  simp only [List.map_append, List.map_cons, List.map_nil, List.append_assoc, List.cons_append, List.nil_append, List.append_nil]
  repeat' first
    | exact hx
    | refine LeL.cons (LeS.refl _) ?_
theorem copy_wfB {R f : Nat} {ds : List D} (hR : R ≤ 200000000000000) (h : wfT Tryz.prog R (f + 7) 34 ds) : ∃ c : CopyT, CopyI c ∧ (R ≤ 140737488355328 → c.out.rows.length ≤ 4398046511104 ∧ c.inn.rows.length ≤ 4398046511104) ∧ LeL (ds.map .d) (copyL c) := by
  obtain ⟨a5, r5, rfl, ⟨c1, u1, rfl, ⟨_, _, rfl, ⟨lk, rfl, _, hlk⟩, _, _, rfl, ⟨lt, rfl⟩, rfl⟩, c2, u2, rfl, ⟨_, _, rfl, ⟨hk, rfl, _, hhk⟩, _, _, rfl, ⟨ht, rfl⟩, rfl⟩, rfl⟩,
    a4, r4, rfl, ⟨b1, s1, rfl, ⟨e, rfl, we⟩, b2, s2, rfl, ⟨v, rfl, wv⟩, rfl⟩, a6, r6, rfl, hrows, a7, r7, rfl, hpend, a8, r8, rfl, hout, a9, r9, rfl, hinn, a1, r1, rfl, ⟨n1, rfl, w1⟩, a2, r2, rfl, ⟨n2, rfl, w2⟩, rfl⟩ := h
  obtain ⟨xs, hxb, hx⟩ := rows_wfB hrows
  obtain ⟨ws, hw⟩ := writes_wf hpend
  obtain ⟨p, hp, hpb, hpl⟩ := part_wfB hout
  obtain ⟨q, hq, hqb, hql⟩ := part_wfB hinn
  refine ⟨⟨lk, lt, hk, ht, e, v, xs, ws, p, q, n1, n2⟩, ⟨hp, hq, wf_i64 w1, wf_i64 w2, wf_i64 we, wf_i64 wv, Nat.le_trans hlk hR, Nat.le_trans hhk hR⟩, fun hr => ⟨hpb hr, hqb hr⟩, ?_⟩
  simp only [List.map_append, List.map_cons, List.map_nil, List.append_assoc, List.cons_append, List.nil_append, List.append_nil]
  refine LeL.cons (LeS.refl _) (LeL.cons (LeS.refl _) (LeL.cons (LeS.refl _) (LeL.cons (LeS.refl _) (LeL.cons (LeS.refl _) (LeL.cons (LeS.refl _) ?_)))))
  exact leL_app hx (leL_app hw (leL_app hpl (leL_app hql (LeL.refl _))))
/-! drawn lists of numbers -/
set_option maxHeartbeats 1000000 in
theorem ints0 {l : List Int} {a : Nat} {n mst : Int} : (TapeOk l a ∧ (0 ≤ n ∧ n ≤ 100) ∧ (0 < mst ∧ mst ≤ 1000000)) → ∃ x : List Int × Nat, ((x.1.length : Int) ≤ n ∧ TapeOk l x.2) ∧ Sx.Spec Tryz.prog GG 16 [.ptr 1000 0, .d (.int .i64 n), .d (.int .i64 mst)] [(1000, tapeB l a)] (.d (encL encI 1 x.1)) [(1000, tapeB l x.2)] := by
  rintro ⟨hT, hn, hm⟩
  have hw : IntKind.i64.wrap (n + 1) = n + 1 := wrap_of (by omega) (by omega)
  refine spec_some (E := EE) (fn := Tryz.f16) _ _ _ false eok (by kernel_rfl) (by kernel_rfl) Tryz.call16 (by kernel_rfl) (fun _ => by kernel_rfl) (fun _ => by kernel_rfl) ?_
  conv => whnf
  repeat' first
    | (refine call_some_if (next_ex _) (fun _ => by first | exact .inl rfl | exact .inr ⟨rfl, rfl⟩) (need_intro ?_ ?_); rintro ⟨v, b⟩ ⟨⟨q1, q2⟩, h6⟩; (conv => whnf))
    | (refine bc_true (by assumption) ?_; (conv => whnf))
    | (refine bc_false (by assumption) ?_; (conv => whnf))
    | (refine need_intro ?_ ?_; (conv => whnf))
    | (refine wk_refl ?_; (conv => whnf))
    | (refine draw_intro (by kernel_rfl) ?_; (conv => whnf))
    | (refine ord_intro (by kernel_rfl) ?_; (conv => whnf))
  all_goals try simp only at *
  all_goals try first
    | assumption
    | exact ⟨by assumption, by omega, by omega⟩
  rw [hw] at q2
  refine loop_auto [0, 1, 2, 6] [] (fun x : List Int × Int × Nat => [(8, .d (.int .i64 x.2.1)), (7, .osl 500 1 0 x.1.length)]) (fun x => [(500, .row 3 1 x.1.length (cellOf encI x.1)), (1000, tapeB l x.2.2)]) (fun x => (0 ≤ x.2.1 ∧ (x.1.length : Int) + x.2.1 ≤ n) ∧ TapeOk l x.2.2) (fun x => x.2.1.toNat) ([], v, b) ?_ (fun x hx => ?_) ⟨⟨q1, by simp only [List.length_nil]; omega⟩, h6⟩
  · conv => whnf
    repeat' first
      | (refine bc_true (by assumption) ?_; (conv => whnf))
      | (refine bc_false (by assumption) ?_; (conv => whnf))
      | (refine bc_intro (fun _ => ?_) (fun _ => ?_) <;> (conv => whnf))
      | (refine need_intro ?_ ?_; (conv => whnf))
      | (refine wk_refl ?_; (conv => whnf))
      | (refine draw_intro (by kernel_rfl) ?_; (conv => whnf))
      | (refine ord_intro (by kernel_rfl) ?_; (conv => whnf))
    all_goals first | exact trivial | exact DLe.refl _ | exact DLe.nil | exact ⟨rfl, rfl⟩ | exact ⟨rfl, rfl, rfl⟩ | exact RowLe.refl _ _ _ | trace_state
  · obtain ⟨xs, i, b⟩ := x
    obtain ⟨⟨hi, hl⟩, hb⟩ := hx
    simp only at hi hl hb
    have hs : 0 < i → IntKind.i64.wrap (i - 1) = i - 1 := fun _ => wrap_of (by omega) (by omega)
    conv => whnf
    repeat' first
      | (refine call_some_if (next_ex _) (fun _ => by first | exact .inl rfl | exact .inr ⟨rfl, rfl⟩) (need_intro ?_ ?_); rintro ⟨w, b⟩ ⟨⟨q1, q2⟩, h6⟩; (conv => whnf))
      | (refine NextVC.mk (xs ++ [w], i - 1, b) ?_ ?_ ?_; (conv => whnf))
      | (refine bc_true (by assumption) ?_; (conv => whnf))
      | (refine bc_false (by assumption) ?_; (conv => whnf))
      | (refine bc_intro (fun _ => ?_) (fun _ => ?_) <;> (conv => whnf))
      | (refine need_intro ?_ ?_; (conv => whnf))
      | (refine wk_refl ?_; (conv => whnf))
      | (refine draw_intro (by kernel_rfl) ?_; (conv => whnf))
      | (refine ord_intro (by kernel_rfl) ?_; (conv => whnf))
    all_goals try simp only [decide_eq_true_eq, decide_eq_false_iff_not] at *
    all_goals first
      | exact trivial
      | assumption
      | omega
      | exact DLe.refl _
      | exact ⟨by assumption, by omega, by omega⟩
      | exact DLe.of_eq (by rw [hs (by omega)])
      | exact ⟨trivial, cellsIntG, by simp only [List.length_append, List.length_singleton]⟩
      | exact ⟨cellsIntG, trivial, by simp only [List.length_append, List.length_singleton]⟩
      | exact ⟨trivial, by rw [bytesIntG]; omega, by omega⟩
      | (simp only [List.length_append, List.length_singleton]; done)
      | (simp only [List.length_append, List.length_singleton]; exact row_snoc rfl (RowLe.refl _ _ _) (jlt1 (DLe.of_eq rfl)))
      | exact ⟨⟨by omega, by simp only [List.length_append, List.length_singleton]; omega⟩, by assumption⟩
      | exact ⟨(xs, _), ⟨by simp only; omega, by assumption⟩, les_own rfl, LeL.refl _, trivial⟩
      | trace_state
theorem ints_ex (m : Nat) {l : List Int} {a : Nat} {n mst : Int} : (TapeOk l a ∧ (0 ≤ n ∧ n ≤ 100) ∧ (0 < mst ∧ mst ≤ 1000000)) → ∃ x : List Int × Nat, ((x.1.length : Int) ≤ n ∧ TapeOk l x.2) ∧ Sx.Spec Tryz.prog GG 16 [.ptr m 0, .d (.int .i64 n), .d (.int .i64 mst)] [(m, tapeB l a)] (.d (encL encI 1 x.1)) [(m, tapeB l x.2)] := fun h => by
  obtain ⟨x, hx, hs⟩ := ints0 h
  exact ⟨x, hx, hs.at m⟩
theorem inv4 {P : Program} {R : Nat} {a b c d : Nat} {dss : List (List D)} (h : All2 (wfT P R 12) [a, b, c, d] dss) : ∃ x y z w, dss = [x, y, z, w] ∧ wfT P R 12 a x ∧ wfT P R 12 b y ∧ wfT P R 12 c z ∧ wfT P R 12 d w := by
  cases h with
  | cons h1 h => obtain ⟨y, z, w, rfl, h2, h3, h4⟩ := inv3 h; exact ⟨_, _, _, _, rfl, h1, h2, h3, h4⟩
def encLI (xs : List Int) : List D := [encL encI 1 xs]
theorem copyB_small {c : CopyT} {n : Nat} (h : CopyB n c) (hn : n ≤ 1000000) : Small c := ⟨Nat.le_trans h.rows hn, Nat.le_trans h.pend hn, Nat.le_trans h.out.rows (by omega), Nat.le_trans h.inn.rows (by omega)⟩
theorem copyB_mono {n m : Nat} {c : CopyT} (h : n ≤ m) (hc : CopyB n c) : CopyB m c := hc.mono h
theorem lists_lit {raw ids : List Int} {g : Nat → Nat → D} (h0 : DLe (g 0 0) (encL encI 1 raw)) (h1 : DLe (g 1 0) (encL encI 1 ids)) (h2 : DLe (g 2 0) (encL encI 1 [1, 2, 3])) : RowLe 3 1 g (cellOf encLI [raw, ids, [1, 2, 3]]) :=
  ⟨fun i j hi hj => by
    have : j = 0 := by omega
    subst this
    match i, hi with
    | 0, _ => exact h0
    | 1, _ => exact h1
    | 2, _ => exact h2⟩
set_option maxHeartbeats 8000000 in
theorem groupNew_law (l : List Int) (num : Int) (raw : List Int) (c : CopyT) (hl : ∀ x ∈ l, -9223372036854775808 ≤ x ∧ x < 9223372036854775808) (hc : CopyI c) (ho : c.out.rows.length ≤ 4398046511104 ∧ c.inn.rows.length ≤ 4398046511104) :
    Sx.Spec Tryz.prog GG 3 [.d (encL encI 1 l), .d (.int .i64 num), .d (encL encI 1 raw), .agg (copyL c)] [] (.d (.bool true)) [] := by
  refine spec_intro (E := EE) (fn := Tryz.f3) eok (by kernel_rfl) (by kernel_rfl) Tryz.call3 (by kernel_rfl) (by kernel_rfl) ?_
  conv => whnf
  repeat' first
    | (refine call_intro (awake25_spec) ?_ (by first | exact .inl rfl | exact .inr ⟨rfl, rfl⟩); (conv => whnf))
    | (refine bc_true (by assumption) ?_; (conv => whnf))
    | (refine bc_false (by assumption) ?_; (conv => whnf))
    | (refine bc_intro (fun _ => ?_) (fun _ => ?_) <;> (conv => whnf))
    | (refine need_intro ?_ ?_; (conv => whnf))
    | (refine wk_refl ?_; (conv => whnf))
    | (refine draw_intro (by kernel_rfl) ?_; (conv => whnf))
    | (refine ord_intro (by kernel_rfl) ?_; (conv => whnf))
  all_goals try exact ⟨LeS.refl _, trivial⟩
  all_goals try simp only [decide_eq_true_eq, decide_eq_false_iff_not] at *
  have hcs : Small c := ⟨by omega, by omega, ho.1, ho.2⟩
  have hci : I64 c.sv := hc.sv
  have hrl : raw.length ≤ 20 := by omega
  conv => whnf
  repeat' first
    | (refine call_some (new_ex 2000 hl) (fun _ => by first | exact .inl rfl | exact .inr ⟨rfl, rfl⟩) ?_; rintro ⟨tl, ta⟩ hT; (conv => whnf))
    | (refine call_some_if (copy_ex _) (fun _ => by first | exact .inl rfl | exact .inr ⟨rfl, rfl⟩) (need_intro ?_ ?_); rintro ⟨x, b⟩ ⟨k1, h6⟩; (conv => whnf))
    | (refine call_some_if (bool_ex _) (fun _ => by first | exact .inl rfl | exact .inr ⟨rfl, rfl⟩) (need_intro ?_ ?_); rintro ⟨v, b⟩ h6; (conv => whnf))
    | (refine bc_true (by assumption) ?_; (conv => whnf))
    | (refine bc_false (by assumption) ?_; (conv => whnf))
    | (refine need_intro ?_ ?_; (conv => whnf))
    | (refine wk_refl ?_; (conv => whnf))
    | (refine draw_intro (by kernel_rfl) ?_; (conv => whnf))
    | (refine ord_intro (by kernel_rfl) ?_; (conv => whnf))
  all_goals try simp only at *
  all_goals try first
    | assumption
    | exact ⟨by assumption, by omega, by omega⟩
  refine join_auto [0, 1, 2, 7, 8, 9, 10] [7] (fun x : CopyT × Nat => []) (fun x => [(10, .box (copyL x.1)), (2000, tapeB tl x.2)]) (fun x => CopyB 101 x.1 ∧ TapeOk tl x.2) (fun _ => ?_) (fun _ => ?_) ?_
  · conv => whnf
    repeat' first
      | (refine call_some_if (oddCopy_ex (n := 100) _ x) (fun _ => by first | exact .inl rfl | exact .inr ⟨rfl, rfl⟩) (need_intro ?_ ?_); rintro ⟨z, b⟩ ⟨h5, h7⟩; (conv => whnf))
      | (refine JoinVC.mk (z, b) ?_ ?_; (conv => whnf))
      | (refine bc_true (by assumption) ?_; (conv => whnf))
      | (refine bc_false (by assumption) ?_; (conv => whnf))
      | (refine need_intro ?_ ?_; (conv => whnf))
      | (refine wk_refl ?_; (conv => whnf))
      | (refine draw_intro (by kernel_rfl) ?_; (conv => whnf))
      | (refine ord_intro (by kernel_rfl) ?_; (conv => whnf))
    all_goals first
      | exact trivial
      | exact DLe.refl _
      | assumption
      | exact ⟨by assumption, by assumption⟩
      | exact ⟨by assumption, k1.mono (by omega), by omega, by omega⟩
      | trace_state
  · conv => whnf
    repeat' first
      | (refine JoinVC.mk (x, b) ?_ ?_; (conv => whnf))
      | (refine bc_true (by assumption) ?_; (conv => whnf))
      | (refine bc_false (by assumption) ?_; (conv => whnf))
      | (refine need_intro ?_ ?_; (conv => whnf))
      | (refine wk_refl ?_; (conv => whnf))
      | (refine draw_intro (by kernel_rfl) ?_; (conv => whnf))
      | (refine ord_intro (by kernel_rfl) ?_; (conv => whnf))
    all_goals first
      | exact trivial
      | exact DLe.refl _
      | assumption
      | exact ⟨k1.mono (by omega), by assumption⟩
      | trace_state
  rintro ⟨x, b⟩ ⟨hx, h6⟩
  have hxs := copyB_small hx (by omega)
  have hxi : I64 x.sv := hx.sv
  conv => whnf
  repeat' first
    | (refine call_some_if (ints_ex _) (fun _ => by first | exact .inl rfl | exact .inr ⟨rfl, rfl⟩) (need_intro ?_ ?_); rintro ⟨ids, b⟩ ⟨k2, h6⟩; (conv => whnf))
    | (refine call_some_if (next_ex _) (fun _ => by first | exact .inl rfl | exact .inr ⟨rfl, rfl⟩) (need_intro ?_ ?_); rintro ⟨v, b⟩ ⟨⟨q1, q2⟩, h6⟩; (conv => whnf))
    | (refine call_some_if (pickQ_ex _ (fun _ => True)) (fun _ => by first | exact .inl rfl | exact .inr ⟨rfl, rfl⟩) (need_intro ?_ ?_); rintro ⟨p, b⟩ ⟨q3, h6⟩; (conv => whnf))
    | (refine bc_true (by assumption) ?_; (conv => whnf))
    | (refine bc_false (by assumption) ?_; (conv => whnf))
    | (refine need_intro ?_ ?_; (conv => whnf))
    | (refine wk_refl ?_; (conv => whnf))
    | (refine draw_intro (by kernel_rfl) ?_; (conv => whnf))
    | (refine ord_intro (by kernel_rfl) ?_; (conv => whnf))
  all_goals try simp only at *
  all_goals try first
    | assumption
    | exact ⟨by assumption, by omega, by omega⟩
    | exact ⟨by assumption, ⟨by omega, by omega⟩, by omega, by omega⟩
    | exact ⟨by assumption, ⟨by omega, by omega⟩, by repeat' first | exact trivial | exact ⟨_, rfl, trivial⟩ | apply And.intro⟩
  have hs1 := fun n ids => same25_spec (newG n ids x).1 (newG n ids x).2 (new_grpb hxs hxi)
  have hs2 := fun n ids => same25_spec (newG n ids c).1 (newG n ids c).2 (new_grpb hcs hci)
  refine loop_auto [2, 7, 8, 9, 10, 11, 59] [7, 10, 2000] (fun i : Nat × Unit => [(58, .d (encL encI 1 [num, IntKind.i64.wrap (1 + v), p])), (60, .d (.int .i64 i.1))]) (fun i => []) (fun i => i.1 ≤ 3) (fun i => 3 - i.1) (0, ()) ?_ (fun i hi => ?_) (by simp)
  · conv => whnf
    repeat' first
      | (refine bc_true (by assumption) ?_; (conv => whnf))
      | (refine bc_false (by assumption) ?_; (conv => whnf))
      | (refine bc_intro (fun _ => ?_) (fun _ => ?_) <;> (conv => whnf))
      | (refine need_intro ?_ ?_; (conv => whnf))
      | (refine wk_refl ?_; (conv => whnf))
      | (refine draw_intro (by kernel_rfl) ?_; (conv => whnf))
      | (refine ord_intro (by kernel_rfl) ?_; (conv => whnf))
    all_goals first | exact ⟨rfl, rfl⟩ | exact ⟨rfl, rfl, rfl⟩ | exact DLe.refl _ | exact RowLe.refl _ _ _ | exact trivial | (refine dle_lit (by kernel_rfl) rfl (.all ?_); (repeat' first | exact trivial | exact rfl | apply And.intro); done) | (refine dle_lit (by kernel_rfl) rfl (.allD ?_); (repeat' first | exact trivial | exact DLe.refl _ | exact DLe.nil | exact DLe.rows rfl row_zero | apply And.intro); done) | trace_state
  · obtain ⟨i, u⟩ := i
    simp only at hi
    have hsi : IntKind.i64.wrap ((i : Int) + 1) = ((i + 1 : Nat) : Int) := wrap_succ (n := 100) (by omega) (by omega)
    conv => whnf
    repeat' first
      | (refine call_intro (awake25_spec) ?_ (by first | exact .inl rfl | exact .inr ⟨rfl, rfl⟩); (conv => whnf))
      | (refine bc_true (by assumption) ?_; (conv => whnf))
      | (refine bc_false (by assumption) ?_; (conv => whnf))
      | (refine bc_intro (fun _ => ?_) (fun _ => ?_) <;> (conv => whnf))
      | (refine need_intro ?_ ?_; (conv => whnf))
      | (refine wk_refl ?_; (conv => whnf))
      | (refine draw_intro (by kernel_rfl) ?_; (conv => whnf))
      | (refine ord_intro (by kernel_rfl) ?_; (conv => whnf))
    all_goals try exact ⟨LeS.refl _, trivial⟩
    all_goals try simp only [decide_eq_true_eq, decide_eq_false_iff_not] at *
    all_goals try exact ⟨by omega, by omega⟩
    refine loop_auto [2, 7, 8, 9, 10, 11, 13, 58, 59, 60, 68] [7, 10, 2000] (fun j : Nat => [(67, .d (encL encLI 1 [raw, ids, [1, 2, 3]])), (69, .d (.int .i64 j))]) (fun j => []) (fun j => j ≤ 3) (fun j => 3 - j) 0 ?_ (fun j hj => ?_) (by omega)
    · conv => whnf
      repeat' first
        | (refine bc_true (by assumption) ?_; (conv => whnf))
        | (refine bc_false (by assumption) ?_; (conv => whnf))
        | (refine bc_intro (fun _ => ?_) (fun _ => ?_) <;> (conv => whnf))
        | (refine need_intro ?_ ?_; (conv => whnf))
        | (refine wk_refl ?_; (conv => whnf))
        | (refine draw_intro (by kernel_rfl) ?_; (conv => whnf))
        | (refine ord_intro (by kernel_rfl) ?_; (conv => whnf))
      all_goals first
        | exact trivial
        | exact DLe.refl _
        | (refine dle_lit (by kernel_rfl) rfl (lists_lit (DLe.refl _) (DLe.refl _) (dle_lit (by kernel_rfl) rfl (.all ?_)))
           repeat' first | exact trivial | exact rfl | apply And.intro
           done)
        | trace_state
    · have hsj : IntKind.i64.wrap ((j : Int) + 1) = ((j + 1 : Nat) : Int) := wrap_succ (n := 100) (by omega) (by omega)
      have hlj : ([raw, ids, [1, 2, 3]].getD (j : Int).toNat default).length ≤ 1000 := by
        rw [Int.toNat_natCast]
        match j with
        | 0 => simp [List.getD]; omega
        | 1 => simp [List.getD]; omega
        | 2 => simp [List.getD]
        | n + 3 => simp [List.getD, default]
      conv => whnf
      repeat' first
        | (refine call_if (newgp_spec _ ([raw, ids, [1, 2, 3]].getD (j : Int).toNat default) x) (by first | exact .inl rfl | exact .inr ⟨rfl, rfl⟩) (need_intro ?_ ?_); (conv => whnf))
        | (refine call_if (newgr_spec _ ([raw, ids, [1, 2, 3]].getD (j : Int).toNat default) x) (by first | exact .inl rfl | exact .inr ⟨rfl, rfl⟩) (need_intro ?_ ?_); (conv => whnf))
        | (refine call_if (newgp_spec _ ([raw, ids, [1, 2, 3]].getD (j : Int).toNat default) c) (by first | exact .inl rfl | exact .inr ⟨rfl, rfl⟩) (need_intro ?_ ?_); (conv => whnf))
        | (refine call_if (newgr_spec _ ([raw, ids, [1, 2, 3]].getD (j : Int).toNat default) c) (by first | exact .inl rfl | exact .inr ⟨rfl, rfl⟩) (need_intro ?_ ?_); (conv => whnf))
        | (refine call_intro (hs1 _ _) ?_ (by first | exact .inl rfl | exact .inr ⟨rfl, rfl⟩); (conv => whnf))
        | (refine call_intro (hs2 _ _) ?_ (by first | exact .inl rfl | exact .inr ⟨rfl, rfl⟩); (conv => whnf))
        | (refine NextVC.mk (i + 1, u) ?_ ?_ ?_; (conv => whnf))
        | (refine NextVC.mk (j + 1) ?_ ?_ ?_; (conv => whnf))
        | (refine bc_true (by assumption) ?_; (conv => whnf))
        | (refine bc_false (by assumption) ?_; (conv => whnf))
        | (refine bc_intro (fun _ => ?_) (fun _ => ?_) <;> (conv => whnf))
        | (refine need_intro ?_ ?_; (conv => whnf))
        | (refine wk_refl ?_; (conv => whnf))
        | (refine draw_intro (by kernel_rfl) ?_; (conv => whnf))
        | (refine ord_intro (by kernel_rfl) ?_; (conv => whnf))
      all_goals try simp only [decide_eq_true_eq, decide_eq_false_iff_not] at *
      all_goals first
        | exact trivial
        | omega
        | exact DLe.refl _
        | exact DLe.of_eq (by rw [hsi])
        | exact DLe.of_eq (by rw [hsj])
        | exact ⟨by omega, by omega⟩
        | exact ⟨hxs, hlj⟩
        | exact ⟨hcs, hlj⟩
        | (exfalso; simp at *; done)
        | trace_state
theorem groupNew_all (dss : List (List D)) (h : All2 (wfT Tryz.prog reachBytes 12) [22, 3, 22, 34] dss) : Sx.Spec Tryz.prog GG 3 (svs Tryz.prog [22, 3, 22, 34] dss) [] (.d (.bool true)) [] := by
  obtain ⟨x, y, z, w, rfl, hx, hy, hz, hw⟩ := inv4 h
  obtain ⟨l, h1, h2, h3⟩ := ints_arg hx
  obtain ⟨num, rfl, _⟩ := hy
  obtain ⟨raw, g1, g2, g3⟩ := ints_arg hz
  obtain ⟨c, h4, h6, h5⟩ := copy_wfB (f := 5) (by decide) hw
  obtain ⟨_, _, rfl, _⟩ := hx
  obtain ⟨_, _, rfl, _⟩ := hz
  exact (groupNew_law l num raw c h1 h4 (h6 (by decide))).arg (leL_app h2 (LeL.cons (LeS.refl _) (leL_app g2 (LeL.cons (LeS.agg h5) LeL.nil))))
theorem groupNew_lifted (os : Os) (started : os.Started) (H : Type) (enc : TypeId × Value → H) :
    ReturnsInHanded {} Tryz.checked os 3 .any (fun w args => (Rows.groupNewSpec.pre enc Tryz.prog Tryz.f3 [] false w args ∧ laidMetH Tryz.prog laidL w) ∧ sizedMet enc Tryz.prog Tryz.f3 (OpenSpec.ofChange Rows.groupNewSpec) false w args)
      (Rows.groupNewSpec.post enc Tryz.prog Tryz.f3 false true false false) := by
  refine returnsInHanded_of_change_and (C := Tryz.checked) (X := fun w _ => laidMetH Tryz.prog laidL w) (fun _ _ _ hh h => h.of_heap hh) own started (by kernel_rfl) Tryz.func3
    (ChangeSpec.witness_shaped (enc := enc) (C := Tryz.checked) (os := os) (X := fun w _ => laidMetH Tryz.prog laidL w) false (World.doorLaid Tryz.prog 400 os) #[.slice none 0 0, .int .i64 0, .slice none 0 0, .agg #[.string ⟨#[]⟩, .bool false, .string ⟨#[]⟩, .bool false, .int .i64 0, .int .i64 0, .slice none 0 0, .slice none 0 0, .int .i64 0, .int .i64 0, .int .i64 0, .int .i64 0, .int .i64 0, .string ⟨#[]⟩, .bool false, .string ⟨#[]⟩, .bool false, .slice none 0 0, .int .i64 0, .int .i64 0, .int .i64 0, .int .i64 0, .int .i64 0, .string ⟨#[]⟩, .bool false, .string ⟨#[]⟩, .bool false, .slice none 0 0, .int .i64 0, .int .i64 0]] 8 rfl (World.shaped_of_RefB (by kernel_rfl) (by kernel_rfl)) (by kernel_rfl) (by kernel_rfl) (by kernel_rfl) (door_met os _)) ?_
  intro W base args ds gs before hval hW hcnd hsz hL _
  refine law_contract (P := Tryz.prog) (ts := [22, 3, 22, 34]) (bt := 4) (G := GG) laidOut (by rw [Tryz.params3]) (by kernel_rfl) Tryz.underlying4 (by kernel_rfl) rfl ?_ groupNew_all hval hW hsz (gok hL)
  intro ds h
  match ds, h with
  | [_, _, _, _], _ => rfl
theorem groupNew_over : Rows.groupNewRow.holds Tryz.pinned (OpenSpec.ofChange Rows.groupNewSpec) :=
  OpenClaim.holds_of_wide 3 Tryz.f3 rfl rfl rfl rfl rfl rfl rfl ⟨rfl, rfl, rfl, rfl, rfl⟩ rfl rfl rfl rfl rfl (by kernel_rfl) Tryz.func3 (by kernel_rfl)
    (of_decide_eq_true (by kernel_rfl)) (by unfold Func.isWrapper; first | (rw [if_pos (by decide +kernel)]; kernel_rfl) | (rw [if_neg (by decide +kernel)]; exact ⟨rfl, rfl⟩))
    (fun os started H enc _ => groupNew_lifted os started H enc)
theorem groupNew_plain : ∀ t ∈ [22, 3, 22, 34], Tryz.prog.wantsStandIn t = false := by
  intro t ht
  simp only [List.mem_cons, List.not_mem_nil, or_false] at ht
  rcases ht with rfl | rfl | rfl | rfl <;> kernel_rfl
theorem groupNew_proved : Rows.GroupNewCardSaid :=
  Claim7.holds_tied_plain_at .later [] [.data] true (true, "b01a978d79b23bb570124d2eddeea5731d9cb684bc1d25a1536c8487172713c4") false
    groupNew_over (fun _ h => by cases h) (by kernel_rfl) (fun _ h => by cases h) groupNew_row_tie rfl ⟨rfl, rfl⟩ (by kernel_rfl) rfl
    (fun f fn hf hfn => by
      obtain rfl : f = 3 := Option.some.inj ((show Tryz.prog.funcNamed Rows.groupNewRow.func = some 3 by kernel_rfl).symm.trans hf) |>.symm
      obtain rfl : fn = Tryz.f3 := (Option.some.inj (Tryz.func3.symm.trans hfn)).symm
      exact ⟨by kernel_rfl, fun j t ht => groupNew_plain t (by
        rw [Tryz.params3] at ht
        exact List.mem_of_getElem? (by simpa using ht))⟩)
    (by kernel_rfl)
#print axioms groupNew_proved
end Go.Proofs.YtegbenagmciegaaGreatDoor
