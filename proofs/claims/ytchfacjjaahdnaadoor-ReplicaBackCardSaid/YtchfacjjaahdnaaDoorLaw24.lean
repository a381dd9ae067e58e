/- Contracts of functions that the law reaches: YtchfacjjaahdnaaDoorLaw24. Written for this claim. -/
import Derived.Test.YtchfacjjaahdnaaDoorLay
import Derived.Test.YtchfacjjaahdnaaDoorTapeC
import Derived.Test.YtchfacjjaahdnaaDoorTapeO
namespace Go.Proofs.YtchfacjjaahdnaaDoor
open Go Go.Sx Go.ChangeShapes Go.WideShapes Go.ChangeAt Go.WideMaps Go.WideElems Go.RowKit
set_option linter.unusedVariables false
set_option linter.unusedSimpArgs false
set_option maxRecDepth 100000
/-! copies as arguments -/
theorem rows_wf {R f : Nat} {ds : List D} (h : wfT Tryd.prog R (f + 3) 29 ds) : ∃ xs : List Row, LeL (ds.map .d) [.d (encL encRow 2 xs)] := by
  obtain ⟨len, get, rfl, hlen, _, hel⟩ := h
  have c : Tryd.prog.cellsOf 101 = 2 := by kernel_rfl
  obtain ⟨xs, h1, h2, h3⟩ := list_of (α := Row) (enc := encRow) (Q := fun x => True) (k := 2) (fun _ => rfl) (len := len) (get := get) (fun i hi => by
    have := hel i hi
    rw [c] at this
    obtain ⟨a, r1, e1, ⟨k, rfl, _, hk⟩, b, r2, rfl, ⟨v, rfl, _, hv⟩, rfl⟩ := this
    exact ⟨(k, v), trivial, e1⟩)
  refine ⟨xs, ?_⟩
  show LeL [.d (.list len (Tryd.prog.cellsOf 101) get)] _
  rw [c]
  exact LeL.cons (LeS.d h3) LeL.nil
theorem writes_wf {R f : Nat} {ds : List D} (h : wfT Tryd.prog R (f + 3) 30 ds) : ∃ xs : List Wr, LeL (ds.map .d) [.d (encL encWr 3 xs)] := by
  obtain ⟨len, get, rfl, hlen, _, hel⟩ := h
  have c : Tryd.prog.cellsOf 72 = 3 := by kernel_rfl
  obtain ⟨xs, h1, h2, h3⟩ := list_of (α := Wr) (enc := encWr) (Q := fun x => True) (k := 3) (fun _ => rfl) (len := len) (get := get) (fun i hi => by
    have := hel i hi
    rw [c] at this
    obtain ⟨a, r1, e1, ⟨k, rfl, _, hk⟩, b, r2, rfl, ⟨v, rfl, _, hv⟩, b2, r3, rfl, ⟨d, rfl⟩, rfl⟩ := this
    exact ⟨(k, v, d), trivial, e1⟩)
  refine ⟨xs, ?_⟩
  show LeL [.d (.list len (Tryd.prog.cellsOf 72) get)] _
  rw [c]
  exact LeL.cons (LeS.d h3) LeL.nil
structure PartI (p : PartT) : Prop where
  serial : I64 p.serial
  src : I64 p.src
  dst : I64 p.dst
  se : I64 p.se
  sv : I64 p.sv
structure CopyI (c : CopyT) : Prop where
  out : PartI c.out
  inn : PartI c.inn
  took : I64 c.took
  src : I64 c.src
  se : I64 c.se
  sv : I64 c.sv
  lk : c.lk.length ≤ 200000000000000
  hk : c.hk.length ≤ 200000000000000
theorem part_wf {R f : Nat} {ds : List D} (h : wfT Tryd.prog R (f + 5) 32 ds) : ∃ p : PartT, PartI p ∧ LeL (ds.map .d) (partL p) := by
  obtain ⟨a1, r1, rfl, ⟨n1, rfl, w1⟩, a2, r2, rfl, ⟨n2, rfl, w2⟩, a3, r3, rfl, ⟨n3, rfl, w3⟩, a4, r4, rfl, ⟨b1, s1, rfl, ⟨e, rfl, we⟩, b2, s2, rfl, ⟨v, rfl, wv⟩, rfl⟩, a5, r5, rfl,
    ⟨c1, u1, rfl, ⟨_, _, rfl, ⟨lk, rfl, _⟩, _, _, rfl, ⟨lt, rfl⟩, rfl⟩, c2, u2, rfl, ⟨_, _, rfl, ⟨hk, rfl, _⟩, _, _, rfl, ⟨ht, rfl⟩, rfl⟩, rfl⟩, a6, r6, rfl, hrows, rfl⟩ := h
  obtain ⟨xs, hx⟩ := rows_wf hrows
  refine ⟨⟨n1, n2, n3, e, v, lk, lt, hk, ht, xs⟩, ⟨wf_i64 w1, wf_i64 w2, wf_i64 w3, wf_i64 we, wf_i64 wv⟩, ?_⟩
  simp only [List.map_append, List.map_cons, List.map_nil, List.append_assoc, List.cons_append, List.nil_append, List.append_nil]
  repeat' first
    | exact hx
    | refine LeL.cons (LeS.refl _) ?_
theorem copy_wf {R f : Nat} {ds : List D} (hR : R ≤ 200000000000000) (h : wfT Tryd.prog R (f + 7) 34 ds) : ∃ c : CopyT, CopyI c ∧ LeL (ds.map .d) (copyL c) := by
  obtain ⟨a5, r5, rfl, ⟨c1, u1, rfl, ⟨_, _, rfl, ⟨lk, rfl, _, hlk⟩, _, _, rfl, ⟨lt, rfl⟩, rfl⟩, c2, u2, rfl, ⟨_, _, rfl, ⟨hk, rfl, _, hhk⟩, _, _, rfl, ⟨ht, rfl⟩, rfl⟩, rfl⟩,
    a4, r4, rfl, ⟨b1, s1, rfl, ⟨e, rfl, we⟩, b2, s2, rfl, ⟨v, rfl, wv⟩, rfl⟩, a6, r6, rfl, hrows, a7, r7, rfl, hpend, a8, r8, rfl, hout, a9, r9, rfl, hinn, a1, r1, rfl, ⟨n1, rfl, w1⟩, a2, r2, rfl, ⟨n2, rfl, w2⟩, rfl⟩ := h
  obtain ⟨xs, hx⟩ := rows_wf hrows
  obtain ⟨ws, hw⟩ := writes_wf hpend
  obtain ⟨p, hp, hpl⟩ := part_wf hout
  obtain ⟨q, hq, hql⟩ := part_wf hinn
  refine ⟨⟨lk, lt, hk, ht, e, v, xs, ws, p, q, n1, n2⟩, ⟨hp, hq, wf_i64 w1, wf_i64 w2, wf_i64 we, wf_i64 wv, Nat.le_trans hlk hR, Nat.le_trans hhk hR⟩, ?_⟩
  simp only [List.map_append, List.map_cons, List.map_nil, List.append_assoc, List.cons_append, List.nil_append, List.append_nil]
  refine LeL.cons (LeS.refl _) (LeL.cons (LeS.refl _) (LeL.cons (LeS.refl _) (LeL.cons (LeS.refl _) (LeL.cons (LeS.refl _) (LeL.cons (LeS.refl _) ?_)))))
  exact leL_app hx (leL_app hw (leL_app hpl (leL_app hql (LeL.refl _))))
theorem CopyI.b {c : CopyT} {n : Nat} (h : CopyI c) (h1 : c.rows.length ≤ n) (h2 : c.pend.length ≤ n) (h3 : c.out.rows.length ≤ n) (h4 : c.inn.rows.length ≤ n) : CopyB n c :=
  ⟨h1, h2, ⟨h3, h.out.serial, h.out.src, h.out.dst, h.out.se, h.out.sv⟩, ⟨h4, h.inn.serial, h.inn.src, h.inn.dst, h.inn.se, h.inn.sv⟩, h.took, h.src, h.se, h.sv, h.lk, h.hk⟩
/-! the example, what is small, what is the same -/
abbrev awR : List Row := [([98], []), ([107], [])]
def awC : CopyT := ⟨[97], false, [109], false, 1, 0, awR, [], noPart, noPart, 0, 0⟩
def awD : CopyT := ⟨[97], false, [102], false, 1, 0, [([98], [])], [], ⟨4, 1, 2, 1, 0, [102], false, [109], false, [([107], [])]⟩, noPart, 0, 0⟩
theorem new_aw {get : Nat → Nat → D} (h : RowLe 2 2 get (cellOf encRow awR)) : Sx.Spec Tryd.prog GG 32 [.agg [.d (.str [97]), .d (.bool false), .d (.str [109]), .d (.bool false)], .agg [.d (.int .i64 1), .d (.int .i64 0)], .d (.list 2 2 get)] [] (.tup [.agg (copyL awC), .d (.int .i64 0)]) [] := by
  have := (newp_spec [97] false [109] false 1 0 awR (by decide)).arg (LeL.cons (LeS.refl _) (LeL.cons (LeS.refl _) (LeL.cons (LeS.d (DLe.rows rfl h)) LeL.nil)))
  have e : newC ([97], false, [109], false) 1 0 awR = (awC, 0) := rfl
  rw [e] at this
  exact this
theorem detach_aw : Sx.Spec Tryd.prog GG 24 [.agg (copyL awC), .agg [.d (.str [102]), .d (.bool false)], .d (.int .i64 1), .d (.int .i64 4), .d (.int .i64 1), .d (.int .i64 2)] [] (.tup [.agg (copyL awD), .d (.int .i64 0)]) [] := by
  have := detachp_spec awC [102] false 1 4 1 2 ⟨by decide, by decide, by decide, by decide⟩
  have e : detachC awC [102] false 1 4 1 2 = (awD, 0) := rfl
  rw [e] at this
  exact this
theorem awake_spec : Sx.Spec Tryd.prog GG 13 [] [] (.d (.bool true)) [] := by
  refine spec_intro (E := EE) (fn := Tryd.f13) eok (by kernel_rfl) (by kernel_rfl) Tryd.call13 (by kernel_rfl) (by kernel_rfl) ?_
  conv => whnf
  repeat' first
    | (refine call_intro (new_aw (.all (by repeat' first | exact trivial | exact rfl | apply And.intro))) ?_ (by first | exact .inl rfl | exact .inr ⟨rfl, rfl⟩); (conv => whnf))
    | (refine call_intro (detach_aw) ?_ (by first | exact .inl rfl | exact .inr ⟨rfl, rfl⟩); (conv => whnf))
    | (refine bc_true (by assumption) ?_; (conv => whnf))
    | (refine bc_false (by assumption) ?_; (conv => whnf))
    | (refine bc_intro (fun _ => ?_) (fun _ => ?_) <;> (conv => whnf))
    | (refine need_intro ?_ ?_; (conv => whnf))
    | (refine wk_refl ?_; (conv => whnf))
    | (refine draw_intro (by kernel_rfl) ?_; (conv => whnf))
    | (refine ord_intro (by kernel_rfl) ?_; (conv => whnf))
  all_goals first
    | decide
    | exact ⟨LeS.refl _, trivial⟩
    | trace_state
def smallB (c : CopyT) : Bool := decide ((c.rows.length : Int) ≤ 40) && (decide ((c.pend.length : Int) ≤ 80) && (decide ((c.out.rows.length : Int) ≤ 40) && decide ((c.inn.rows.length : Int) ≤ 40)))
theorem small_spec (c : CopyT) : Sx.Spec Tryd.prog GG 12 [.agg (copyL c)] [] (.d (.bool (smallB c))) [] := by
  refine spec_intro (E := EE) (fn := Tryd.f12) eok (by kernel_rfl) (by kernel_rfl) Tryd.call12 (by kernel_rfl) (by kernel_rfl) ?_
  conv => whnf
  repeat' first
    | (refine bc_true (by assumption) ?_; (conv => whnf))
    | (refine bc_false (by assumption) ?_; (conv => whnf))
    | (refine bc_intro (fun _ => ?_) (fun _ => ?_) <;> (conv => whnf))
    | (refine need_intro ?_ ?_; (conv => whnf))
    | (refine wk_refl ?_; (conv => whnf))
    | (refine draw_intro (by kernel_rfl) ?_; (conv => whnf))
    | (refine ord_intro (by kernel_rfl) ?_; (conv => whnf))
  all_goals
    refine ⟨LeS.of_eq ?_, trivial⟩
    simp only [smallB, *, Bool.true_and, Bool.false_and]
theorem small_b {c : CopyT} (h : CopyI c) (hs : smallB c = true) : CopyB 100 c := by
  simp only [smallB, Bool.and_eq_true, decide_eq_true_eq] at hs
  exact h.b (by omega) (by omega) (by omega) (by omega)
theorem CopyB.small {c : CopyT} {n : Nat} (h : CopyB n c) (hn : n ≤ 1000000) : Small c := ⟨Nat.le_trans h.rows hn, Nat.le_trans h.pend hn, Nat.le_trans h.out.rows hn, Nat.le_trans h.inn.rows hn⟩
theorem sameE_spec (a b : CopyT) (e f : Int) : (Small a ∧ Small b) → Sx.Spec Tryd.prog GG 26 [.agg (copyL a), .d (.int .i64 e), .agg (copyL b), .d (.int .i64 f)] [] (.d (.bool ((e == f) && sameC a b))) [] := by
  intro h
  refine spec_intro (E := EE) (fn := Tryd.f26) eok (by kernel_rfl) (by kernel_rfl) Tryd.call26 (by kernel_rfl) (by kernel_rfl) ?_
  conv => whnf
  repeat' first
    | (refine call_if (samer_spec a b) (by first | exact .inl rfl | exact .inr ⟨rfl, rfl⟩) (need_intro ?_ ?_); (conv => whnf))
    | (refine bc_true (by assumption) ?_; (conv => whnf))
    | (refine bc_false (by assumption) ?_; (conv => whnf))
    | (refine bc_intro (fun _ => ?_) (fun _ => ?_) <;> (conv => whnf))
    | (refine need_intro ?_ ?_; (conv => whnf))
    | (refine wk_refl ?_; (conv => whnf))
    | (refine draw_intro (by kernel_rfl) ?_; (conv => whnf))
    | (refine ord_intro (by kernel_rfl) ?_; (conv => whnf))
  all_goals first
    | exact h
    | (refine ⟨LeS.of_eq ?_, trivial⟩
       simp only [*, Bool.true_and, Bool.false_and])
theorem getD_allC {L : List CopyT} {Q : CopyT → Prop} (h : ∀ x ∈ L, Q x) (h0 : Q default) (i : Nat) : Q (L.getD i default) := by
  rcases Nat.lt_or_ge i L.length with hi | hi
  · have e : L.getD i default = L[i] := by simp [List.getD, hi]
    rw [e]; exact h _ (List.getElem_mem hi)
  · have e : L.getD i default = default := by simp [List.getD, hi]
    rw [e]; exact h0
theorem default_b {n : Nat} : CopyB n (default : CopyT) := ⟨by simp [default], by simp [default], ⟨by simp [default], i64_zero, i64_zero, i64_zero, i64_zero, i64_zero⟩, ⟨by simp [default], i64_zero, i64_zero, i64_zero, i64_zero, i64_zero⟩, i64_zero, i64_zero, i64_zero, i64_zero, by simp [default], by simp [default]⟩

