/- Contracts of functions that the law reaches: YtcllahjpinbiaaaDoorColA. Written for this claim. -/
import Derived.Test.YtcllahjpinbiaaaDoorColL
import Derived.Test.YtcllahjpinbiaaaDoorLay
namespace Go.Proofs.YtcllahjpinbiaaaDoor
open Go Go.Sx Go.ChangeShapes Go.WideShapes Go.ChangeAt Go.WideMaps Go.WideElems Go.RowKit
set_option linter.unusedVariables false
set_option linter.unusedSimpArgs false
set_option maxRecDepth 100000
theorem copyB_small {c : CopyT} {n : Nat} (h : CopyB n c) (hn : n ≤ 1000000) : Small c := ⟨Nat.le_trans h.rows hn, Nat.le_trans h.pend hn, Nat.le_trans h.out.rows (by omega), Nat.le_trans h.inn.rows (by omega)⟩
/-! copies as arguments -/
theorem rows_wf {R f : Nat} {ds : List D} (h : wfT Tryd.prog R (f + 3) 52 ds) : ∃ xs : List Row, LeL (ds.map .d) [.d (encL encRow 2 xs)] := by
  obtain ⟨len, get, rfl, hlen, _, hel⟩ := h
  have c : Tryd.prog.cellsOf 134 = 2 := by kernel_rfl
  obtain ⟨xs, h1, h2, h3⟩ := list_of (α := Row) (enc := encRow) (Q := fun x => True) (k := 2) (fun _ => rfl) (len := len) (get := get) (fun i hi => by
    have := hel i hi
    rw [c] at this
    obtain ⟨a, r1, e1, ⟨k, rfl, _, hk⟩, b, r2, rfl, ⟨v, rfl, _, hv⟩, rfl⟩ := this
    exact ⟨(k, v), trivial, e1⟩)
  refine ⟨xs, ?_⟩
  show LeL [.d (.list len (Tryd.prog.cellsOf 134) get)] _
  rw [c]
  exact LeL.cons (LeS.d h3) LeL.nil
theorem writes_wf {R f : Nat} {ds : List D} (h : wfT Tryd.prog R (f + 3) 53 ds) : ∃ xs : List Wr, LeL (ds.map .d) [.d (encL encWr 3 xs)] := by
  obtain ⟨len, get, rfl, hlen, _, hel⟩ := h
  have c : Tryd.prog.cellsOf 82 = 3 := by kernel_rfl
  obtain ⟨xs, h1, h2, h3⟩ := list_of (α := Wr) (enc := encWr) (Q := fun x => True) (k := 3) (fun _ => rfl) (len := len) (get := get) (fun i hi => by
    have := hel i hi
    rw [c] at this
    obtain ⟨a, r1, e1, ⟨k, rfl, _, hk⟩, b, r2, rfl, ⟨v, rfl, _, hv⟩, b2, r3, rfl, ⟨d, rfl⟩, rfl⟩ := this
    exact ⟨(k, v, d), trivial, e1⟩)
  refine ⟨xs, ?_⟩
  show LeL [.d (.list len (Tryd.prog.cellsOf 82) get)] _
  rw [c]
  exact LeL.cons (LeS.d h3) LeL.nil
structure PartI (p : PartT) : Prop where
  serial : I64 p.serial
  src : I64 p.src
  dst : I64 p.dst
  se : I64 p.se
  sv : I64 p.sv
structure CopyI (c : CopyT) : Prop where
  out : PartI c.out
  inn : PartI c.inn
  took : I64 c.took
  src : I64 c.src
  se : I64 c.se
  sv : I64 c.sv
  lk : c.lk.length ≤ 200000000000000
  hk : c.hk.length ≤ 200000000000000
theorem part_wf {R f : Nat} {ds : List D} (h : wfT Tryd.prog R (f + 5) 55 ds) : ∃ p : PartT, PartI p ∧ LeL (ds.map .d) (partL p) := by
  obtain ⟨a1, r1, rfl, ⟨n1, rfl, w1⟩, a2, r2, rfl, ⟨n2, rfl, w2⟩, a3, r3, rfl, ⟨n3, rfl, w3⟩, a4, r4, rfl, ⟨b1, s1, rfl, ⟨e, rfl, we⟩, b2, s2, rfl, ⟨v, rfl, wv⟩, rfl⟩, a5, r5, rfl,
    ⟨c1, u1, rfl, ⟨_, _, rfl, ⟨lk, rfl, _⟩, _, _, rfl, ⟨lt, rfl⟩, rfl⟩, c2, u2, rfl, ⟨_, _, rfl, ⟨hk, rfl, _⟩, _, _, rfl, ⟨ht, rfl⟩, rfl⟩, rfl⟩, a6, r6, rfl, hrows, rfl⟩ := h
  obtain ⟨xs, hx⟩ := rows_wf hrows
  refine ⟨⟨n1, n2, n3, e, v, lk, lt, hk, ht, xs⟩, ⟨wf_i64 w1, wf_i64 w2, wf_i64 w3, wf_i64 we, wf_i64 wv⟩, ?_⟩
  simp only [List.map_append, List.map_cons, List.map_nil, List.append_assoc, List.cons_append, List.nil_append, List.append_nil]
  repeat' first
    | exact hx
    | refine LeL.cons (LeS.refl _) ?_
theorem copy_wf {R f : Nat} {ds : List D} (hR : R ≤ 200000000000000) (h : wfT Tryd.prog R (f + 7) 57 ds) : ∃ c : CopyT, CopyI c ∧ LeL (ds.map .d) (copyL c) := by
  obtain ⟨a5, r5, rfl, ⟨c1, u1, rfl, ⟨_, _, rfl, ⟨lk, rfl, _, hlk⟩, _, _, rfl, ⟨lt, rfl⟩, rfl⟩, c2, u2, rfl, ⟨_, _, rfl, ⟨hk, rfl, _, hhk⟩, _, _, rfl, ⟨ht, rfl⟩, rfl⟩, rfl⟩,
    a4, r4, rfl, ⟨b1, s1, rfl, ⟨e, rfl, we⟩, b2, s2, rfl, ⟨v, rfl, wv⟩, rfl⟩, a6, r6, rfl, hrows, a7, r7, rfl, hpend, a8, r8, rfl, hout, a9, r9, rfl, hinn, a1, r1, rfl, ⟨n1, rfl, w1⟩, a2, r2, rfl, ⟨n2, rfl, w2⟩, rfl⟩ := h
  obtain ⟨xs, hx⟩ := rows_wf hrows
  obtain ⟨ws, hw⟩ := writes_wf hpend
  obtain ⟨p, hp, hpl⟩ := part_wf hout
  obtain ⟨q, hq, hql⟩ := part_wf hinn
  refine ⟨⟨lk, lt, hk, ht, e, v, xs, ws, p, q, n1, n2⟩, ⟨hp, hq, wf_i64 w1, wf_i64 w2, wf_i64 we, wf_i64 wv, Nat.le_trans hlk hR, Nat.le_trans hhk hR⟩, ?_⟩
  simp only [List.map_append, List.map_cons, List.map_nil, List.append_assoc, List.cons_append, List.nil_append, List.append_nil]
  refine LeL.cons (LeS.refl _) (LeL.cons (LeS.refl _) (LeL.cons (LeS.refl _) (LeL.cons (LeS.refl _) (LeL.cons (LeS.refl _) (LeL.cons (LeS.refl _) ?_)))))
  exact leL_app hx (leL_app hw (leL_app hpl (leL_app hql (LeL.refl _))))
theorem CopyI.b {c : CopyT} {n : Nat} (h : CopyI c) (h1 : c.rows.length ≤ n) (h2 : c.pend.length ≤ n) (h3 : c.out.rows.length ≤ n) (h4 : c.inn.rows.length ≤ n) : CopyB n c :=
  ⟨h1, h2, ⟨h3, h.out.serial, h.out.src, h.out.dst, h.out.se, h.out.sv⟩, ⟨h4, h.inn.serial, h.inn.src, h.inn.dst, h.inn.se, h.inn.sv⟩, h.took, h.src, h.se, h.sv, h.lk, h.hk⟩
theorem rows_wfB {R f : Nat} {ds : List D} (h : wfT Tryd.prog R (f + 3) 52 ds) : ∃ xs : List Row, (R ≤ 140737488355328 → xs.length ≤ 4398046511104) ∧ LeL (ds.map .d) [.d (encL encRow 2 xs)] := by
  obtain ⟨len, get, rfl, hlen, hby, hel⟩ := h
  have hbr : Tryd.prog.bytesOf 134 = 32 := by kernel_rfl
  rw [hbr] at hby
  have c : Tryd.prog.cellsOf 134 = 2 := by kernel_rfl
  obtain ⟨xs, h1, h2, h3⟩ := list_of (α := Row) (enc := encRow) (Q := fun x => True) (k := 2) (fun _ => rfl) (len := len) (get := get) (fun i hi => by
    have := hel i hi
    rw [c] at this
    obtain ⟨a, r1, e1, ⟨k, rfl, _, hk⟩, b, r2, rfl, ⟨v, rfl, _, hv⟩, rfl⟩ := this
    exact ⟨(k, v), trivial, e1⟩)
  refine ⟨xs, fun hR => by omega, ?_⟩
  show LeL [.d (.list len (Tryd.prog.cellsOf 134) get)] _
  rw [c]
  exact LeL.cons (LeS.d h3) LeL.nil
theorem part_wfB {R f : Nat} {ds : List D} (h : wfT Tryd.prog R (f + 5) 55 ds) : ∃ p : PartT, PartI p ∧ (R ≤ 140737488355328 → p.rows.length ≤ 4398046511104) ∧ LeL (ds.map .d) (partL p) := by
  obtain ⟨a1, r1, rfl, ⟨n1, rfl, w1⟩, a2, r2, rfl, ⟨n2, rfl, w2⟩, a3, r3, rfl, ⟨n3, rfl, w3⟩, a4, r4, rfl, ⟨b1, s1, rfl, ⟨e, rfl, we⟩, b2, s2, rfl, ⟨v, rfl, wv⟩, rfl⟩, a5, r5, rfl,
    ⟨c1, u1, rfl, ⟨_, _, rfl, ⟨lk, rfl, _⟩, _, _, rfl, ⟨lt, rfl⟩, rfl⟩, c2, u2, rfl, ⟨_, _, rfl, ⟨hk, rfl, _⟩, _, _, rfl, ⟨ht, rfl⟩, rfl⟩, rfl⟩, a6, r6, rfl, hrows, rfl⟩ := h
  obtain ⟨xs, hxb, hx⟩ := rows_wfB hrows
  refine ⟨⟨n1, n2, n3, e, v, lk, lt, hk, ht, xs⟩, ⟨wf_i64 w1, wf_i64 w2, wf_i64 w3, wf_i64 we, wf_i64 wv⟩, hxb, ?_⟩
  simp only [List.map_append, List.map_cons, List.map_nil, List.append_assoc, List.cons_append, List.nil_append, List.append_nil]
  repeat' first
    | exact hx
    | refine LeL.cons (LeS.refl _) ?_
theorem copy_wfB {R f : Nat} {ds : List D} (hR : R ≤ 200000000000000) (h : wfT Tryd.prog R (f + 7) 57 ds) : ∃ c : CopyT, CopyI c ∧ (R ≤ 140737488355328 → c.out.rows.length ≤ 4398046511104 ∧ c.inn.rows.length ≤ 4398046511104) ∧ LeL (ds.map .d) (copyL c) := by
  obtain ⟨a5, r5, rfl, ⟨c1, u1, rfl, ⟨_, _, rfl, ⟨lk, rfl, _, hlk⟩, _, _, rfl, ⟨lt, rfl⟩, rfl⟩, c2, u2, rfl, ⟨_, _, rfl, ⟨hk, rfl, _, hhk⟩, _, _, rfl, ⟨ht, rfl⟩, rfl⟩, rfl⟩,
    a4, r4, rfl, ⟨b1, s1, rfl, ⟨e, rfl, we⟩, b2, s2, rfl, ⟨v, rfl, wv⟩, rfl⟩, a6, r6, rfl, hrows, a7, r7, rfl, hpend, a8, r8, rfl, hout, a9, r9, rfl, hinn, a1, r1, rfl, ⟨n1, rfl, w1⟩, a2, r2, rfl, ⟨n2, rfl, w2⟩, rfl⟩ := h
  obtain ⟨xs, hxb, hx⟩ := rows_wfB hrows
  obtain ⟨ws, hw⟩ := writes_wf hpend
  obtain ⟨p, hp, hpb, hpl⟩ := part_wfB hout
  obtain ⟨q, hq, hqb, hql⟩ := part_wfB hinn
  refine ⟨⟨lk, lt, hk, ht, e, v, xs, ws, p, q, n1, n2⟩, ⟨hp, hq, wf_i64 w1, wf_i64 w2, wf_i64 we, wf_i64 wv, Nat.le_trans hlk hR, Nat.le_trans hhk hR⟩, fun hr => ⟨hpb hr, hqb hr⟩, ?_⟩
  simp only [List.map_append, List.map_cons, List.map_nil, List.append_assoc, List.cons_append, List.nil_append, List.append_nil]
  refine LeL.cons (LeS.refl _) (LeL.cons (LeS.refl _) (LeL.cons (LeS.refl _) (LeL.cons (LeS.refl _) (LeL.cons (LeS.refl _) (LeL.cons (LeS.refl _) ?_)))))
  exact leL_app hx (leL_app hw (leL_app hpl (leL_app hql (LeL.refl _))))
theorem rows_wfD {R f : Nat} {ds : List D} (h : wfT Tryd.prog R (f + 3) 52 ds) : ∃ xs : List Row, (R ≤ 140737488355328 → xs.length ≤ 4398046511104) ∧ DL ds [encL encRow 2 xs] := by
  obtain ⟨xs, hb, hx⟩ := rows_wfB h
  obtain ⟨len, get, rfl, _⟩ := h
  exact ⟨xs, hb, DL.one hx⟩
theorem writes_wfD {R f : Nat} {ds : List D} (h : wfT Tryd.prog R (f + 3) 53 ds) : ∃ xs : List Wr, DL ds [encL encWr 3 xs] := by
  obtain ⟨xs, hx⟩ := writes_wf h
  obtain ⟨len, get, rfl, _⟩ := h
  exact ⟨xs, DL.one hx⟩
abbrev encPart (p : PartT) : List D := [.int .i64 p.serial, .int .i64 p.src, .int .i64 p.dst, .int .i64 p.se, .int .i64 p.sv, .str p.lk, .bool p.lt, .str p.hk, .bool p.ht, encL encRow 2 p.rows]
theorem part_wfD {R f : Nat} {ds : List D} (h : wfT Tryd.prog R (f + 5) 55 ds) : ∃ p : PartT, (R ≤ 140737488355328 → p.rows.length ≤ 4398046511104) ∧ DL ds (encPart p) := by
  obtain ⟨a1, r1, rfl, ⟨n1, rfl, w1⟩, a2, r2, rfl, ⟨n2, rfl, w2⟩, a3, r3, rfl, ⟨n3, rfl, w3⟩, a4, r4, rfl, ⟨b1, s1, rfl, ⟨e, rfl, we⟩, b2, s2, rfl, ⟨v, rfl, wv⟩, rfl⟩, a5, r5, rfl,
    ⟨c1, u1, rfl, ⟨_, _, rfl, ⟨lk, rfl, _⟩, _, _, rfl, ⟨lt, rfl⟩, rfl⟩, c2, u2, rfl, ⟨_, _, rfl, ⟨hk, rfl, _⟩, _, _, rfl, ⟨ht, rfl⟩, rfl⟩, rfl⟩, a6, r6, rfl, hrows, rfl⟩ := h
  obtain ⟨xs, hxb, hx⟩ := rows_wfD hrows
  refine ⟨⟨n1, n2, n3, e, v, lk, lt, hk, ht, xs⟩, hxb, ?_⟩
  simp only [List.append_assoc, List.cons_append, List.nil_append, List.append_nil]
  repeat' first
    | exact hx
    | refine DL.cons (DLe.refl _) ?_
theorem copy_wfD {R f : Nat} {ds : List D} (h : wfT Tryd.prog R (f + 7) 57 ds) : ∃ c : CopyT, (I64 c.sv ∧ (R ≤ 140737488355328 → c.out.rows.length ≤ 4398046511104 ∧ c.inn.rows.length ≤ 4398046511104)) ∧ DL ds (encCopy c) := by
  obtain ⟨a5, r5, rfl, ⟨c1, u1, rfl, ⟨_, _, rfl, ⟨lk, rfl, _, hlk⟩, _, _, rfl, ⟨lt, rfl⟩, rfl⟩, c2, u2, rfl, ⟨_, _, rfl, ⟨hk, rfl, _, hhk⟩, _, _, rfl, ⟨ht, rfl⟩, rfl⟩, rfl⟩,
    a4, r4, rfl, ⟨b1, s1, rfl, ⟨e, rfl, we⟩, b2, s2, rfl, ⟨v, rfl, wv⟩, rfl⟩, a6, r6, rfl, hrows, a7, r7, rfl, hpend, a8, r8, rfl, hout, a9, r9, rfl, hinn, a1, r1, rfl, ⟨n1, rfl, w1⟩, a2, r2, rfl, ⟨n2, rfl, w2⟩, rfl⟩ := h
  obtain ⟨xs, hxb, hx⟩ := rows_wfD hrows
  obtain ⟨ws, hw⟩ := writes_wfD hpend
  obtain ⟨p, hpb, hpl⟩ := part_wfD hout
  obtain ⟨q, hqb, hql⟩ := part_wfD hinn
  refine ⟨⟨lk, lt, hk, ht, e, v, xs, ws, p, q, n1, n2⟩, ⟨wf_i64 wv, fun hr => ⟨hpb hr, hqb hr⟩⟩, ?_⟩
  simp only [List.append_assoc, List.cons_append, List.nil_append, List.append_nil]
  refine DL.cons (DLe.refl _) (DL.cons (DLe.refl _) (DL.cons (DLe.refl _) (DL.cons (DLe.refl _) (DL.cons (DLe.refl _) (DL.cons (DLe.refl _) ?_)))))
  exact DL.app hx (DL.app hw (DL.app hpl (DL.app hql (DL.refl _))))
theorem mem_wfD {R f : Nat} {ds : List D} (h : wfT Tryd.prog R (f + 8) 85 ds) : ∃ m : MemT, (I64 m.copy.sv ∧ (R ≤ 140737488355328 → m.copy.out.rows.length ≤ 4398046511104 ∧ m.copy.inn.rows.length ≤ 4398046511104)) ∧ DL ds (encMem m) := by
  obtain ⟨a1, r1, rfl, ⟨id, rfl, w1⟩, a2, r2, rfl, ⟨up, rfl⟩, a3, r3, rfl, hc, rfl⟩ := h
  obtain ⟨c, h1, h2⟩ := copy_wfD hc
  refine ⟨⟨id, up, c⟩, h1, ?_⟩
  simp only [List.append_assoc, List.cons_append, List.nil_append, List.append_nil]
  exact DL.cons (DLe.refl _) (DL.cons (DLe.refl _) h2)
theorem grp_wf {R f : Nat} {ds : List D} (h : wfT Tryd.prog R (f + 10) 36 ds) : ∃ g : GrpT, ((∀ m ∈ g.mem, I64 m.copy.sv) ∧ g.mem.length ≤ 9223372036854775807) ∧ LeL (ds.map .d) (grpL g) := by
  obtain ⟨a1, r1, rfl, ⟨num, rfl, w1⟩, a2, r2, rfl, ⟨opn, rfl⟩, a3, r3, rfl, ⟨len, get, rfl, hlen, hby, hel⟩, rfl⟩ := h
  have c : Tryd.prog.cellsOf 85 = 32 := by kernel_rfl
  rw [c] at hel
  obtain ⟨xs, h1, h2, h3⟩ := list_ofD (α := MemT) (enc := encMem) (Q := fun m => I64 m.copy.sv) (k := 32) (fun _ => rfl) (len := len) (get := get) (fun i hi => by
    obtain ⟨m, ⟨hm, _⟩, hd⟩ := mem_wfD (hel i hi)
    exact ⟨m, hm, hd⟩)
  refine ⟨⟨num, opn, xs⟩, ⟨h2, by simp only [h1]; exact hlen⟩, ?_⟩
  show LeL [.d (.int .i64 num), .d (.bool opn), .d (.list len (Tryd.prog.cellsOf 85) get)] _
  rw [c]
  exact LeL.cons (LeS.refl _) (LeL.cons (LeS.refl _) (LeL.cons (LeS.d h3) LeL.nil))
theorem inv4 {P : Program} {R : Nat} {a b c d : Nat} {dss : List (List D)} (h : All2 (wfT P R 12) [a, b, c, d] dss) : ∃ x y z w, dss = [x, y, z, w] ∧ wfT P R 12 a x ∧ wfT P R 12 b y ∧ wfT P R 12 c z ∧ wfT P R 12 d w := by
  cases h with
  | cons h1 h => obtain ⟨y, z, w, rfl, h2, h3, h4⟩ := inv3 h; exact ⟨_, _, _, _, rfl, h1, h2, h3, h4⟩
theorem inv5 {P : Program} {R : Nat} {a b c d e : Nat} {dss : List (List D)} (h : All2 (wfT P R 12) [a, b, c, d, e] dss) : ∃ x y z w v, dss = [x, y, z, w, v] ∧ wfT P R 12 a x ∧ wfT P R 12 b y ∧ wfT P R 12 c z ∧ wfT P R 12 d w ∧ wfT P R 12 e v := by
  cases h with
  | cons h1 h => obtain ⟨y, z, w, v, rfl, h2, h3, h4, h5⟩ := inv4 h; exact ⟨_, _, _, _, _, rfl, h1, h2, h3, h4, h5⟩
/-- a bounded copy with bounded parts -/
def StoA (s : StoT) : Prop := s.copy.out.rows.length ≤ 4398046511104 ∧ s.copy.inn.rows.length ≤ 4398046511104
theorem sto_wfD {R f : Nat} {ds : List D} (h : wfT Tryd.prog R (f + 8) 59 ds) : ∃ s : StoT, DL ds (encSto s) := by
  obtain ⟨a1, r1, rfl, ⟨n, rfl, w1⟩, a2, r2, rfl, ⟨g, rfl, w2⟩, a3, r3, rfl, ⟨e, rfl, w3⟩, a4, r4, rfl, hc, rfl⟩ := h
  obtain ⟨c, h1, h2⟩ := copy_wfD hc
  refine ⟨⟨n, g, e, c⟩, ?_⟩
  simp only [List.append_assoc, List.cons_append, List.nil_append, List.append_nil]
  exact DL.cons (DLe.refl _) (DL.cons (DLe.refl _) (DL.cons (DLe.refl _) h2))
theorem stos_wf {R f : Nat} {ds : List D} (h : wfT Tryd.prog R (f + 9) 23 ds) : ∃ l : List StoT, l.length ≤ 9223372036854775807 ∧ LeL (ds.map .d) [.d (encL encSto 33 l)] := by
  obtain ⟨len, get, rfl, hlen, hby, hel⟩ := h
  have c : Tryd.prog.cellsOf 59 = 33 := by kernel_rfl
  rw [c] at hel
  obtain ⟨xs, h1, h2, h3⟩ := list_ofD (α := StoT) (enc := encSto) (Q := fun _ => True) (k := 33) (fun _ => rfl) (len := len) (get := get) (fun i hi => by
    obtain ⟨m, hd⟩ := sto_wfD (hel i hi)
    exact ⟨m, trivial, hd⟩)
  refine ⟨xs, by rw [h1]; exact hlen, ?_⟩
  show LeL [.d (.list len (Tryd.prog.cellsOf 59) get)] _
  rw [c]
  exact LeL.cons (LeS.d h3) LeL.nil
theorem sto_wf {R f : Nat} {ds : List D} (hR : R ≤ 200000000000000) (h : wfT Tryd.prog R (f + 8) 59 ds) : ∃ s : StoT, LeL (ds.map .d) (stoL s) := by
  obtain ⟨a1, r1, rfl, ⟨n, rfl, w1⟩, a2, r2, rfl, ⟨g, rfl, w2⟩, a3, r3, rfl, ⟨e, rfl, w3⟩, a4, r4, rfl, hc, rfl⟩ := h
  obtain ⟨c, h1, h2⟩ := copy_wf hR hc
  refine ⟨⟨n, g, e, c⟩, ?_⟩
  simp only [List.map_append, List.map_cons, List.map_nil, List.append_assoc, List.cons_append, List.nil_append, List.append_nil]
  exact LeL.cons (LeS.refl _) (LeL.cons (LeS.refl _) (LeL.cons (LeS.refl _) h2))
theorem intsD_wf {R f : Nat} {ds : List D} (h : wfT Tryd.prog R (f + 2) 22 ds) : ∃ xs : List Int, xs.length ≤ 9223372036854775807 ∧ DL ds [encL encI 1 xs] := by
  obtain ⟨len, get, rfl, hlen, _, hel⟩ := h
  have c : Tryd.prog.cellsOf 3 = 1 := by kernel_rfl
  obtain ⟨xs, h1, h2, h3⟩ := list_of (α := Int) (enc := encI) (Q := fun _ => True) (k := 1) (fun _ => rfl) (len := len) (get := get) (fun i hi => by
    have := hel i hi
    rw [c] at this
    obtain ⟨n, e, hw⟩ := this
    exact ⟨n, trivial, e⟩)
  refine ⟨xs, by rw [h1]; exact hlen, ?_⟩
  show DL [.list len (Tryd.prog.cellsOf 3) get] _
  rw [c]
  exact DL.cons h3 DL.nil
theorem mrks_wf {R f : Nat} {ds : List D} (h : wfT Tryd.prog R (f + 4) 24 ds) : ∃ l : List MrkT, (l.length ≤ 9223372036854775807 ∧ ∀ m ∈ l, m.nodes.length ≤ 9223372036854775807) ∧ LeL (ds.map .d) [.d (encL encMrk 2 l)] := by
  obtain ⟨len, get, rfl, hlen, hby, hel⟩ := h
  have c : Tryd.prog.cellsOf 28 = 2 := by kernel_rfl
  rw [c] at hel
  obtain ⟨xs, h1, h2, h3⟩ := list_ofD (α := MrkT) (enc := encMrk) (Q := fun m => m.nodes.length ≤ 9223372036854775807) (k := 2) (fun _ => rfl) (len := len) (get := get) (fun i hi => by
    obtain ⟨a1, r1, e1, ⟨g, rfl, w1⟩, a2, r2, rfl, hn, rfl⟩ := hel i hi
    obtain ⟨xs, hx, hd⟩ := intsD_wf hn
    refine ⟨⟨g, xs⟩, hx, ?_⟩
    rw [e1]
    simp only [List.append_assoc, List.cons_append, List.nil_append, List.append_nil]
    exact DL.cons (DLe.refl _) hd)
  refine ⟨xs, ⟨by rw [h1]; exact hlen, h2⟩, ?_⟩
  show LeL [.d (.list len (Tryd.prog.cellsOf 28) get)] _
  rw [c]
  exact LeL.cons (LeS.d h3) LeL.nil
def encLS (x : List StoT) : List D := [encL encSto 33 x]
theorem find_new_spec (l : List StoT) (y : StoT) : StoB 900000 l ∧ SmallC y.copy → Sx.Spec Tryd.prog GG 27 [.d (encL encSto 33 (storeS l y)), .d (.int .i64 y.node), .d (.int .i64 y.grp)] [] (.tup [.agg (stoL y), .d (.bool true)]) [] := fun ⟨h, hy⟩ => by
  have := findp_spec (storeS l y) y.node y.grp ((stob_store h hy).mono (by omega))
  rw [find_new] at this
  exact this
theorem lists2_lit {a b : List StoT} {g : Nat → Nat → D} (h0 : DLe (g 0 0) (encL encSto 33 a)) (h1 : DLe (g 1 0) (encL encSto 33 b)) : RowLe 2 1 g (cellOf encLS [a, b]) :=
  ⟨fun i j hi hj => by
    have : j = 0 := by omega
    subst this
    match i, hi with
    | 0, _ => exact h0
    | 1, _ => exact h1⟩
theorem stob_pick {a b : List StoT} {n i : Nat} (ha : StoB n a) (hb : StoB n b) : StoB n ([a, b].getD i default) := by
  match i with
  | 0 => exact ha
  | 1 => exact hb
  | i + 2 => exact ⟨by simp [List.getD, default], by simp [List.getD, default]⟩
theorem sto_pick {a b : StoT} {i : Nat} (ha : SmallC a.copy) (hb : SmallC b.copy) : SmallC ([a, b].getD i default).copy := by
  match i with
  | 0 => exact ha
  | 1 => exact hb
  | i + 2 => simp [List.getD, default, SmallC]
theorem small_one {s : StoT} (h : smallS [s] = true) : SmallC s.copy := (smallS_b h).small s (by simp)
theorem stob_two {a b : StoT} (ha : SmallC a.copy) (hb : SmallC b.copy) : StoB 1000000 [a, b] := ⟨by simp, fun s hs => by
  rcases List.mem_cons.1 hs with rfl | hs
  · exact ha
  · rw [List.mem_singleton] at hs; subst hs; exact hb⟩
end Go.Proofs.YtcllahjpinbiaaaDoor
