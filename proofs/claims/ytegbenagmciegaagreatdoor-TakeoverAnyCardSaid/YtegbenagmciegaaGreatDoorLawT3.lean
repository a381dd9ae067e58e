/- Contracts of functions that the law reaches: YtegbenagmciegaaGreatDoorLawT3. Written for this claim. -/
import Derived.Test.YtegbenagmciegaaGreatDoorLawT2
import Derived.Test.YtegbenagmciegaaGreatDoorSxGrp10
import Derived.Test.YtegbenagmciegaaGreatDoorSxArgD
namespace Go.Proofs.YtegbenagmciegaaGreatDoor
open Go Go.Sx Go.ChangeShapes Go.WideShapes Go.ChangeAt Go.WideMaps Go.WideElems Go.RowKit
set_option linter.unusedVariables false
set_option linter.unusedSimpArgs false
set_option maxRecDepth 100000
theorem copyB_small {c : CopyT} {n : Nat} (h : CopyB n c) (hn : n ≤ 1000000) : Small c := ⟨Nat.le_trans h.rows hn, Nat.le_trans h.pend hn, Nat.le_trans h.out.rows (by omega), Nat.le_trans h.inn.rows (by omega)⟩
/-! copies as arguments -/
theorem rows_wf {R f : Nat} {ds : List D} (h : wfT Tryz.prog R (f + 3) 29 ds) : ∃ xs : List Row, LeL (ds.map .d) [.d (encL encRow 2 xs)] := by
  obtain ⟨len, get, rfl, hlen, _, hel⟩ := h
  have c : Tryz.prog.cellsOf 121 = 2 := by kernel_rfl
  obtain ⟨xs, h1, h2, h3⟩ := list_of (α := Row) (enc := encRow) (Q := fun x => True) (k := 2) (fun _ => rfl) (len := len) (get := get) (fun i hi => by
    have := hel i hi
    rw [c] at this
    obtain ⟨a, r1, e1, ⟨k, rfl, _, hk⟩, b, r2, rfl, ⟨v, rfl, _, hv⟩, rfl⟩ := this
    exact ⟨(k, v), trivial, e1⟩)
  refine ⟨xs, ?_⟩
  show LeL [.d (.list len (Tryz.prog.cellsOf 121) get)] _
  rw [c]
  exact LeL.cons (LeS.d h3) LeL.nil
theorem writes_wf {R f : Nat} {ds : List D} (h : wfT Tryz.prog R (f + 3) 30 ds) : ∃ xs : List Wr, LeL (ds.map .d) [.d (encL encWr 3 xs)] := by
  obtain ⟨len, get, rfl, hlen, _, hel⟩ := h
  have c : Tryz.prog.cellsOf 58 = 3 := by kernel_rfl
  obtain ⟨xs, h1, h2, h3⟩ := list_of (α := Wr) (enc := encWr) (Q := fun x => True) (k := 3) (fun _ => rfl) (len := len) (get := get) (fun i hi => by
    have := hel i hi
    rw [c] at this
    obtain ⟨a, r1, e1, ⟨k, rfl, _, hk⟩, b, r2, rfl, ⟨v, rfl, _, hv⟩, b2, r3, rfl, ⟨d, rfl⟩, rfl⟩ := this
    exact ⟨(k, v, d), trivial, e1⟩)
  refine ⟨xs, ?_⟩
  show LeL [.d (.list len (Tryz.prog.cellsOf 58) get)] _
  rw [c]
  exact LeL.cons (LeS.d h3) LeL.nil
structure PartI (p : PartT) : Prop where
  serial : I64 p.serial
  src : I64 p.src
  dst : I64 p.dst
  se : I64 p.se
  sv : I64 p.sv
structure CopyI (c : CopyT) : Prop where
  out : PartI c.out
  inn : PartI c.inn
  took : I64 c.took
  src : I64 c.src
  se : I64 c.se
  sv : I64 c.sv
  lk : c.lk.length ≤ 200000000000000
  hk : c.hk.length ≤ 200000000000000
theorem part_wf {R f : Nat} {ds : List D} (h : wfT Tryz.prog R (f + 5) 32 ds) : ∃ p : PartT, PartI p ∧ LeL (ds.map .d) (partL p) := by
  obtain ⟨a1, r1, rfl, ⟨n1, rfl, w1⟩, a2, r2, rfl, ⟨n2, rfl, w2⟩, a3, r3, rfl, ⟨n3, rfl, w3⟩, a4, r4, rfl, ⟨b1, s1, rfl, ⟨e, rfl, we⟩, b2, s2, rfl, ⟨v, rfl, wv⟩, rfl⟩, a5, r5, rfl,
    ⟨c1, u1, rfl, ⟨_, _, rfl, ⟨lk, rfl, _⟩, _, _, rfl, ⟨lt, rfl⟩, rfl⟩, c2, u2, rfl, ⟨_, _, rfl, ⟨hk, rfl, _⟩, _, _, rfl, ⟨ht, rfl⟩, rfl⟩, rfl⟩, a6, r6, rfl, hrows, rfl⟩ := h
  obtain ⟨xs, hx⟩ := rows_wf hrows
  refine ⟨⟨n1, n2, n3, e, v, lk, lt, hk, ht, xs⟩, ⟨wf_i64 w1, wf_i64 w2, wf_i64 w3, wf_i64 we, wf_i64 wv⟩, ?_⟩
  simp only [List.map_append, List.map_cons, List.map_nil, List.append_assoc, List.cons_append, List.nil_append, List.append_nil]
  repeat' first
    | exact hx
    | refine LeL.cons (LeS.refl _) ?_
theorem copy_wf {R f : Nat} {ds : List D} (hR : R ≤ 200000000000000) (h : wfT Tryz.prog R (f + 7) 34 ds) : ∃ c : CopyT, CopyI c ∧ LeL (ds.map .d) (copyL c) := by
  obtain ⟨a5, r5, rfl, ⟨c1, u1, rfl, ⟨_, _, rfl, ⟨lk, rfl, _, hlk⟩, _, _, rfl, ⟨lt, rfl⟩, rfl⟩, c2, u2, rfl, ⟨_, _, rfl, ⟨hk, rfl, _, hhk⟩, _, _, rfl, ⟨ht, rfl⟩, rfl⟩, rfl⟩,
    a4, r4, rfl, ⟨b1, s1, rfl, ⟨e, rfl, we⟩, b2, s2, rfl, ⟨v, rfl, wv⟩, rfl⟩, a6, r6, rfl, hrows, a7, r7, rfl, hpend, a8, r8, rfl, hout, a9, r9, rfl, hinn, a1, r1, rfl, ⟨n1, rfl, w1⟩, a2, r2, rfl, ⟨n2, rfl, w2⟩, rfl⟩ := h
  obtain ⟨xs, hx⟩ := rows_wf hrows
  obtain ⟨ws, hw⟩ := writes_wf hpend
  obtain ⟨p, hp, hpl⟩ := part_wf hout
  obtain ⟨q, hq, hql⟩ := part_wf hinn
  refine ⟨⟨lk, lt, hk, ht, e, v, xs, ws, p, q, n1, n2⟩, ⟨hp, hq, wf_i64 w1, wf_i64 w2, wf_i64 we, wf_i64 wv, Nat.le_trans hlk hR, Nat.le_trans hhk hR⟩, ?_⟩
  simp only [List.map_append, List.map_cons, List.map_nil, List.append_assoc, List.cons_append, List.nil_append, List.append_nil]
  refine LeL.cons (LeS.refl _) (LeL.cons (LeS.refl _) (LeL.cons (LeS.refl _) (LeL.cons (LeS.refl _) (LeL.cons (LeS.refl _) (LeL.cons (LeS.refl _) ?_)))))
  exact leL_app hx (leL_app hw (leL_app hpl (leL_app hql (LeL.refl _))))
theorem CopyI.b {c : CopyT} {n : Nat} (h : CopyI c) (h1 : c.rows.length ≤ n) (h2 : c.pend.length ≤ n) (h3 : c.out.rows.length ≤ n) (h4 : c.inn.rows.length ≤ n) : CopyB n c :=
  ⟨h1, h2, ⟨h3, h.out.serial, h.out.src, h.out.dst, h.out.se, h.out.sv⟩, ⟨h4, h.inn.serial, h.inn.src, h.inn.dst, h.inn.se, h.inn.sv⟩, h.took, h.src, h.se, h.sv, h.lk, h.hk⟩
theorem rows_wfB {R f : Nat} {ds : List D} (h : wfT Tryz.prog R (f + 3) 29 ds) : ∃ xs : List Row, (R ≤ 140737488355328 → xs.length ≤ 4398046511104) ∧ LeL (ds.map .d) [.d (encL encRow 2 xs)] := by
  obtain ⟨len, get, rfl, hlen, hby, hel⟩ := h
  have hbr : Tryz.prog.bytesOf 121 = 32 := by kernel_rfl
  rw [hbr] at hby
  have c : Tryz.prog.cellsOf 121 = 2 := by kernel_rfl
  obtain ⟨xs, h1, h2, h3⟩ := list_of (α := Row) (enc := encRow) (Q := fun x => True) (k := 2) (fun _ => rfl) (len := len) (get := get) (fun i hi => by
    have := hel i hi
    rw [c] at this
    obtain ⟨a, r1, e1, ⟨k, rfl, _, hk⟩, b, r2, rfl, ⟨v, rfl, _, hv⟩, rfl⟩ := this
    exact ⟨(k, v), trivial, e1⟩)
  refine ⟨xs, fun hR => by omega, ?_⟩
  show LeL [.d (.list len (Tryz.prog.cellsOf 121) get)] _
  rw [c]
  exact LeL.cons (LeS.d h3) LeL.nil
theorem part_wfB {R f : Nat} {ds : List D} (h : wfT Tryz.prog R (f + 5) 32 ds) : ∃ p : PartT, PartI p ∧ (R ≤ 140737488355328 → p.rows.length ≤ 4398046511104) ∧ LeL (ds.map .d) (partL p) := by
  obtain ⟨a1, r1, rfl, ⟨n1, rfl, w1⟩, a2, r2, rfl, ⟨n2, rfl, w2⟩, a3, r3, rfl, ⟨n3, rfl, w3⟩, a4, r4, rfl, ⟨b1, s1, rfl, ⟨e, rfl, we⟩, b2, s2, rfl, ⟨v, rfl, wv⟩, rfl⟩, a5, r5, rfl,
    ⟨c1, u1, rfl, ⟨_, _, rfl, ⟨lk, rfl, _⟩, _, _, rfl, ⟨lt, rfl⟩, rfl⟩, c2, u2, rfl, ⟨_, _, rfl, ⟨hk, rfl, _⟩, _, _, rfl, ⟨ht, rfl⟩, rfl⟩, rfl⟩, a6, r6, rfl, hrows, rfl⟩ := h
  obtain ⟨xs, hxb, hx⟩ := rows_wfB hrows
  refine ⟨⟨n1, n2, n3, e, v, lk, lt, hk, ht, xs⟩, ⟨wf_i64 w1, wf_i64 w2, wf_i64 w3, wf_i64 we, wf_i64 wv⟩, hxb, ?_⟩
  simp only [List.map_append, List.map_cons, List.map_nil, List.append_assoc, List.cons_append, List.nil_append, List.append_nil]
  repeat' first
    | exact hx
    | refine LeL.cons (LeS.refl _) ?_
theorem copy_wfB {R f : Nat} {ds : List D} (hR : R ≤ 200000000000000) (h : wfT Tryz.prog R (f + 7) 34 ds) : ∃ c : CopyT, CopyI c ∧ (R ≤ 140737488355328 → c.out.rows.length ≤ 4398046511104 ∧ c.inn.rows.length ≤ 4398046511104) ∧ LeL (ds.map .d) (copyL c) := by
  obtain ⟨a5, r5, rfl, ⟨c1, u1, rfl, ⟨_, _, rfl, ⟨lk, rfl, _, hlk⟩, _, _, rfl, ⟨lt, rfl⟩, rfl⟩, c2, u2, rfl, ⟨_, _, rfl, ⟨hk, rfl, _, hhk⟩, _, _, rfl, ⟨ht, rfl⟩, rfl⟩, rfl⟩,
    a4, r4, rfl, ⟨b1, s1, rfl, ⟨e, rfl, we⟩, b2, s2, rfl, ⟨v, rfl, wv⟩, rfl⟩, a6, r6, rfl, hrows, a7, r7, rfl, hpend, a8, r8, rfl, hout, a9, r9, rfl, hinn, a1, r1, rfl, ⟨n1, rfl, w1⟩, a2, r2, rfl, ⟨n2, rfl, w2⟩, rfl⟩ := h
  obtain ⟨xs, hxb, hx⟩ := rows_wfB hrows
  obtain ⟨ws, hw⟩ := writes_wf hpend
  obtain ⟨p, hp, hpb, hpl⟩ := part_wfB hout
  obtain ⟨q, hq, hqb, hql⟩ := part_wfB hinn
  refine ⟨⟨lk, lt, hk, ht, e, v, xs, ws, p, q, n1, n2⟩, ⟨hp, hq, wf_i64 w1, wf_i64 w2, wf_i64 we, wf_i64 wv, Nat.le_trans hlk hR, Nat.le_trans hhk hR⟩, fun hr => ⟨hpb hr, hqb hr⟩, ?_⟩
  simp only [List.map_append, List.map_cons, List.map_nil, List.append_assoc, List.cons_append, List.nil_append, List.append_nil]
  refine LeL.cons (LeS.refl _) (LeL.cons (LeS.refl _) (LeL.cons (LeS.refl _) (LeL.cons (LeS.refl _) (LeL.cons (LeS.refl _) (LeL.cons (LeS.refl _) ?_)))))
  exact leL_app hx (leL_app hw (leL_app hpl (leL_app hql (LeL.refl _))))
theorem rows_wfD {R f : Nat} {ds : List D} (h : wfT Tryz.prog R (f + 3) 29 ds) : ∃ xs : List Row, (R ≤ 140737488355328 → xs.length ≤ 4398046511104) ∧ DL ds [encL encRow 2 xs] := by
  obtain ⟨xs, hb, hx⟩ := rows_wfB h
  obtain ⟨len, get, rfl, _⟩ := h
  exact ⟨xs, hb, DL.one hx⟩
theorem writes_wfD {R f : Nat} {ds : List D} (h : wfT Tryz.prog R (f + 3) 30 ds) : ∃ xs : List Wr, DL ds [encL encWr 3 xs] := by
  obtain ⟨xs, hx⟩ := writes_wf h
  obtain ⟨len, get, rfl, _⟩ := h
  exact ⟨xs, DL.one hx⟩
abbrev encPart (p : PartT) : List D := [.int .i64 p.serial, .int .i64 p.src, .int .i64 p.dst, .int .i64 p.se, .int .i64 p.sv, .str p.lk, .bool p.lt, .str p.hk, .bool p.ht, encL encRow 2 p.rows]
theorem part_wfD {R f : Nat} {ds : List D} (h : wfT Tryz.prog R (f + 5) 32 ds) : ∃ p : PartT, (R ≤ 140737488355328 → p.rows.length ≤ 4398046511104) ∧ DL ds (encPart p) := by
  obtain ⟨a1, r1, rfl, ⟨n1, rfl, w1⟩, a2, r2, rfl, ⟨n2, rfl, w2⟩, a3, r3, rfl, ⟨n3, rfl, w3⟩, a4, r4, rfl, ⟨b1, s1, rfl, ⟨e, rfl, we⟩, b2, s2, rfl, ⟨v, rfl, wv⟩, rfl⟩, a5, r5, rfl,
    ⟨c1, u1, rfl, ⟨_, _, rfl, ⟨lk, rfl, _⟩, _, _, rfl, ⟨lt, rfl⟩, rfl⟩, c2, u2, rfl, ⟨_, _, rfl, ⟨hk, rfl, _⟩, _, _, rfl, ⟨ht, rfl⟩, rfl⟩, rfl⟩, a6, r6, rfl, hrows, rfl⟩ := h
  obtain ⟨xs, hxb, hx⟩ := rows_wfD hrows
  refine ⟨⟨n1, n2, n3, e, v, lk, lt, hk, ht, xs⟩, hxb, ?_⟩
  simp only [List.append_assoc, List.cons_append, List.nil_append, List.append_nil]
  repeat' first
    | exact hx
    | refine DL.cons (DLe.refl _) ?_
theorem copy_wfD {R f : Nat} {ds : List D} (h : wfT Tryz.prog R (f + 7) 34 ds) : ∃ c : CopyT, (I64 c.sv ∧ (R ≤ 140737488355328 → c.out.rows.length ≤ 4398046511104 ∧ c.inn.rows.length ≤ 4398046511104)) ∧ DL ds (encCopy c) := by
  obtain ⟨a5, r5, rfl, ⟨c1, u1, rfl, ⟨_, _, rfl, ⟨lk, rfl, _, hlk⟩, _, _, rfl, ⟨lt, rfl⟩, rfl⟩, c2, u2, rfl, ⟨_, _, rfl, ⟨hk, rfl, _, hhk⟩, _, _, rfl, ⟨ht, rfl⟩, rfl⟩, rfl⟩,
    a4, r4, rfl, ⟨b1, s1, rfl, ⟨e, rfl, we⟩, b2, s2, rfl, ⟨v, rfl, wv⟩, rfl⟩, a6, r6, rfl, hrows, a7, r7, rfl, hpend, a8, r8, rfl, hout, a9, r9, rfl, hinn, a1, r1, rfl, ⟨n1, rfl, w1⟩, a2, r2, rfl, ⟨n2, rfl, w2⟩, rfl⟩ := h
  obtain ⟨xs, hxb, hx⟩ := rows_wfD hrows
  obtain ⟨ws, hw⟩ := writes_wfD hpend
  obtain ⟨p, hpb, hpl⟩ := part_wfD hout
  obtain ⟨q, hqb, hql⟩ := part_wfD hinn
  refine ⟨⟨lk, lt, hk, ht, e, v, xs, ws, p, q, n1, n2⟩, ⟨wf_i64 wv, fun hr => ⟨hpb hr, hqb hr⟩⟩, ?_⟩
  simp only [List.append_assoc, List.cons_append, List.nil_append, List.append_nil]
  refine DL.cons (DLe.refl _) (DL.cons (DLe.refl _) (DL.cons (DLe.refl _) (DL.cons (DLe.refl _) (DL.cons (DLe.refl _) (DL.cons (DLe.refl _) ?_)))))
  exact DL.app hx (DL.app hw (DL.app hpl (DL.app hql (DL.refl _))))
theorem mem_wfD {R f : Nat} {ds : List D} (h : wfT Tryz.prog R (f + 8) 56 ds) : ∃ m : MemT, (I64 m.copy.sv ∧ (R ≤ 140737488355328 → m.copy.out.rows.length ≤ 4398046511104 ∧ m.copy.inn.rows.length ≤ 4398046511104)) ∧ DL ds (encMem m) := by
  obtain ⟨a1, r1, rfl, ⟨id, rfl, w1⟩, a2, r2, rfl, ⟨up, rfl⟩, a3, r3, rfl, hc, rfl⟩ := h
  obtain ⟨c, h1, h2⟩ := copy_wfD hc
  refine ⟨⟨id, up, c⟩, h1, ?_⟩
  simp only [List.append_assoc, List.cons_append, List.nil_append, List.append_nil]
  exact DL.cons (DLe.refl _) (DL.cons (DLe.refl _) h2)
theorem grp_wf {R f : Nat} {ds : List D} (h : wfT Tryz.prog R (f + 10) 47 ds) : ∃ g : GrpT, ((∀ m ∈ g.mem, I64 m.copy.sv) ∧ g.mem.length ≤ 9223372036854775807) ∧ LeL (ds.map .d) (grpL g) := by
  obtain ⟨a1, r1, rfl, ⟨num, rfl, w1⟩, a2, r2, rfl, ⟨opn, rfl⟩, a3, r3, rfl, ⟨len, get, rfl, hlen, hby, hel⟩, rfl⟩ := h
  have c : Tryz.prog.cellsOf 56 = 32 := by kernel_rfl
  rw [c] at hel
  obtain ⟨xs, h1, h2, h3⟩ := list_ofD (α := MemT) (enc := encMem) (Q := fun m => I64 m.copy.sv) (k := 32) (fun _ => rfl) (len := len) (get := get) (fun i hi => by
    obtain ⟨m, ⟨hm, _⟩, hd⟩ := mem_wfD (hel i hi)
    exact ⟨m, hm, hd⟩)
  refine ⟨⟨num, opn, xs⟩, ⟨h2, by simp only [h1]; exact hlen⟩, ?_⟩
  show LeL [.d (.int .i64 num), .d (.bool opn), .d (.list len (Tryz.prog.cellsOf 56) get)] _
  rw [c]
  exact LeL.cons (LeS.refl _) (LeL.cons (LeS.refl _) (LeL.cons (LeS.d h3) LeL.nil))
/-! groups as arguments -/
set_option maxHeartbeats 1000000 in
theorem small26_spec (g : GrpT) : g.mem.length ≤ 9223372036854775807 → Sx.Spec Tryz.prog GG 46 [.agg (grpL g)] [] (.d (.bool (smallG g))) [] := by
  intro hl
  refine spec_intro (E := EE) (fn := Tryz.f46) eok (by kernel_rfl) (by kernel_rfl) Tryz.call46 (by kernel_rfl) (by kernel_rfl) ?_
  conv => whnf
  repeat' first
    | (refine bc_true (by assumption) ?_; (conv => whnf))
    | (refine bc_false (by assumption) ?_; (conv => whnf))
    | (refine need_intro ?_ ?_; (conv => whnf))
    | (refine wk_refl ?_; (conv => whnf))
    | (refine draw_intro (by kernel_rfl) ?_; (conv => whnf))
    | (refine ord_intro (by kernel_rfl) ?_; (conv => whnf))
  refine loop_auto [1, 2, 6, 7] [1] (fun i : Nat => [(8, .d (.int .i64 i))]) (fun i => []) (fun i => i ≤ g.mem.length ∧ g.mem.all smM = (g.mem.drop i).all smM) (fun i => g.mem.length - i) 0 ?_ (fun i hi => ?_) ⟨by omega, rfl⟩
  · conv => whnf
    repeat' first
      | (refine bc_true (by assumption) ?_; (conv => whnf))
      | (refine bc_false (by assumption) ?_; (conv => whnf))
      | (refine bc_intro (fun _ => ?_) (fun _ => ?_) <;> (conv => whnf))
      | (refine need_intro ?_ ?_; (conv => whnf))
      | (refine wk_refl ?_; (conv => whnf))
      | (refine draw_intro (by kernel_rfl) ?_; (conv => whnf))
      | (refine ord_intro (by kernel_rfl) ?_; (conv => whnf))
    all_goals first | exact trivial | exact DLe.refl _ | trace_state
  · obtain ⟨hi, ha⟩ := hi
    have hs : i < g.mem.length → IntKind.i64.wrap ((i : Int) + 1) = ((i + 1 : Nat) : Int) := fun h => wrap_of (by omega) (by omega)
    have hst := fun h => sm_step (ms := g.mem) (i := i) h
    have hen := fun h => sm_end (ms := g.mem) (i := i) h
    have hbad : i < g.mem.length → smM (g.mem.getD i default) = false → smallG g = false := fun h e => by
      unfold smallG
      rw [ha, hst h, e]; rfl
    have hgood : i < g.mem.length → smM (g.mem.getD i default) = true → g.mem.all smM = (g.mem.drop (i + 1)).all smM := fun h e => by
      rw [ha, hst h, e]; rfl
    have hfin : ¬ i < g.mem.length → smallG g = decide ((g.mem.length : Int) ≤ 10) := fun h => by
      unfold smallG
      rw [ha, hen (by omega)]; rfl
    conv => whnf
    repeat' first
      | (refine NextVC.mk (i + 1) ?_ ?_ ?_; (conv => whnf))
      | (refine bc_true (by assumption) ?_; (conv => whnf))
      | (refine bc_false (by assumption) ?_; (conv => whnf))
      | (refine bc_intro (fun _ => ?_) (fun _ => ?_) <;> (conv => whnf))
      | (refine need_intro ?_ ?_; (conv => whnf))
      | (refine wk_refl ?_; (conv => whnf))
      | (refine draw_intro (by kernel_rfl) ?_; (conv => whnf))
      | (refine ord_intro (by kernel_rfl) ?_; (conv => whnf))
    all_goals try simp only [decide_eq_true_eq, decide_eq_false_iff_not, Int.toNat_natCast] at *
    all_goals first
      | exact trivial
      | omega
      | exact DLe.refl _
      | exact DLe.of_eq (by rw [hs (by omega)])
      | exact ⟨by omega, by omega⟩
      | exact ⟨by omega, hgood (by omega) (by simp only [smM, Bool.and_eq_true, decide_eq_true_eq]; omega)⟩
      | (refine ⟨LeS.of_eq ?_, trivial⟩
         rw [hbad (by omega) (by simp only [smM, Bool.and_eq_false_iff, decide_eq_false_iff_not]; omega)]
         done)
      | (refine ⟨LeS.of_eq ?_, trivial⟩
         rw [hfin (by omega)]
         done)
      | trace_state
end Go.Proofs.YtegbenagmciegaaGreatDoor
