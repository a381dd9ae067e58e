/- Contracts of functions that the law reaches: YtigmgeglnbjfeaaDoorK14. Written for this claim. -/
import Derived.Test.YtigmgeglnbjfeaaDoorK13
import Derived.Test.YtigmgeglnbjfeaaDoorSxCmp
namespace Go.Proofs.YtigmgeglnbjfeaaDoor
open Go Go.Sx Go.ChangeShapes Go.WideShapes Go.ChangeAt Go.RowKit
set_option linter.unusedVariables false
set_option linter.unusedSimpArgs false
set_option maxRecDepth 100000
/-! the examples -/
theorem dle_K {α : Type} [Inhabited α] {enc : α → List D} {n K k : Nat} {g : Nat → Nat → D} {L : List α} (hk : K = k) (hn : n = L.length) (h : RowLe n k g (cellOf enc L)) : DLe (.list n K g) (encL enc k L) := by
  subst hk
  subst hn
  exact DLe.rows rfl h
theorem enc_aw {g1 g2 : Nat → Nat → D} {n1 n2 : Nat} (s : List Col) (l : List Fld) (x : List UInt8) (k1 : n1 = s.length) (k2 : n2 = l.length) (h1 : RowLe n1 2 g1 (cellOf encCol s)) (h2 : RowLe n2 3 g2 (cellOf encFld l)) (hl : s.length ≤ 1000 ∧ l.length ≤ 1000 ∧ ∀ f ∈ l, FldB f) (e : encodeS s l = (x, 0)) : Sx.Spec Tryd.prog GG 14 [.d (.list n1 (Tryd.prog.cellsOf 33) g1), .d (.list n2 (Tryd.prog.cellsOf 40) g2)] [] (.tup [.d (.str x), .d (.int .i64 0)]) [] := by
  have h := (encp_spec s l hl).arg (LeL.cons (LeS.d (dle_K cellsC k1 h1)) (LeL.cons (LeS.d (dle_K cellsF k2 h2)) LeL.nil))
  rw [e] at h
  exact h
theorem dec_aw {g1 : Nat → Nat → D} {n1 : Nat} (s : List Col) (key : List UInt8) (l : List Fld) (k1 : n1 = s.length) (h1 : RowLe n1 2 g1 (cellOf encCol s)) (hl : s.length ≤ 1000 ∧ key.length ≤ 140737488351232) (e : decodeS s key = (l, 0)) : Sx.Spec Tryd.prog GG 24 [.d (.list n1 (Tryd.prog.cellsOf 33) g1), .d (.str key)] [] (.tup [.d (encL encFld 3 l), .d (.int .i64 0)]) [] := by
  have h := (decp_spec s key hl).arg (LeL.cons (LeS.d (dle_K cellsC k1 h1)) (LeL.cons (LeS.refl _) LeL.nil))
  rw [e] at h
  exact h
theorem num1 {f : Fld} (h : FldB f) : ∀ g ∈ [f], FldB g := fun g hg => by rw [List.mem_singleton.1 hg]; exact h
theorem fb1 : ∀ g ∈ [((2, 0, [97]) : Fld)], FldB g := num1 (by simp [FldB])
theorem fb2 : ∀ g ∈ [((1, -1, []) : Fld)], FldB g := num1 (by simp [FldB])
theorem enc_a1 : Sx.Spec Tryd.prog GG 14 [.d (.list 1 (Tryd.prog.cellsOf 33) (tabF (fun x j => [D.int IntKind.i64 0, D.bool false].getD j default) [(0, [D.int IntKind.i64 2, D.bool false])])), .d (.list 1 (Tryd.prog.cellsOf 40) (tabF (fun x j => [D.int IntKind.i64 0, D.int IntKind.i64 0, D.str []].getD j default) [(0, [D.int IntKind.i64 2, D.int IntKind.i64 0, D.str [97]])]))] [] (.tup [.d (.str [3, 97, 0, 1]), .d (.int .i64 0)]) [] :=
  enc_aw [(2, false)] [(2, 0, [97])] [3, 97, 0, 1] rfl rfl (.all (by repeat' first | exact trivial | exact rfl | apply And.intro)) (.all (by repeat' first | exact trivial | exact rfl | apply And.intro)) ⟨by decide, by decide, fb1⟩ (by decide)
theorem enc_a2 : Sx.Spec Tryd.prog GG 14 [.d (.list 1 (Tryd.prog.cellsOf 33) (tabF (fun x j => [D.int IntKind.i64 0, D.bool false].getD j default) [(0, [D.int IntKind.i64 1, D.bool true])])), .d (.list 1 (Tryd.prog.cellsOf 40) (tabF (fun x j => [D.int IntKind.i64 0, D.int IntKind.i64 0, D.str []].getD j default) [(0, [D.int IntKind.i64 1, D.int IntKind.i64 (-1), D.str []])]))] [] (.tup [.d (.str [253, 128, 0, 0, 0, 0, 0, 0, 0]), .d (.int .i64 0)]) [] :=
  enc_aw [(1, true)] [(1, -1, [])] [253, 128, 0, 0, 0, 0, 0, 0, 0] rfl rfl (.all (by repeat' first | exact trivial | exact rfl | apply And.intro)) (.all (by repeat' first | exact trivial | exact rfl | apply And.intro)) ⟨by decide, by decide, fb2⟩ (by decide)
theorem dec_a1 : Sx.Spec Tryd.prog GG 24 [.d (.list 1 (Tryd.prog.cellsOf 33) (tabF (fun x j => [D.int IntKind.i64 0, D.bool false].getD j default) [(0, [D.int IntKind.i64 2, D.bool false])])), .d (.str [3, 97, 0, 1])] [] (.tup [.d (encL encFld 3 [(2, 0, [97])]), .d (.int .i64 0)]) [] :=
  dec_aw [(2, false)] [3, 97, 0, 1] [(2, 0, [97])] rfl (.all (by repeat' first | exact trivial | exact rfl | apply And.intro)) (by decide) (by decide)
theorem sane_spec : Sx.Spec Tryd.prog GG 11 [] [] (.d (.bool true)) [] := by
  refine spec_intro (E := EE) (fn := Tryd.f11) eok (by kernel_rfl) (by kernel_rfl) Tryd.call11 (by kernel_rfl) (by kernel_rfl) ?_
  conv => whnf
  repeat' first
    | (refine call_intro (enc_a1) ?_ (by first | exact .inl rfl | exact .inr ⟨rfl, rfl⟩); (conv => whnf))
    | (refine call_intro (enc_a2) ?_ (by first | exact .inl rfl | exact .inr ⟨rfl, rfl⟩); (conv => whnf))
    | (refine call_intro (dec_a1) ?_ (by first | exact .inl rfl | exact .inr ⟨rfl, rfl⟩); (conv => whnf))
    | (refine bc_true (by assumption) ?_; (conv => whnf))
    | (refine bc_false (by assumption) ?_; (conv => whnf))
    | (refine bc_intro (fun _ => ?_) (fun _ => ?_) <;> (conv => whnf))
    | (refine need_intro ?_ ?_; (conv => whnf))
    | (refine wk_refl ?_; (conv => whnf))
    | (refine draw_intro (by kernel_rfl) ?_; (conv => whnf))
    | (refine ord_intro (by kernel_rfl) ?_; (conv => whnf))
  all_goals first
    | exact ⟨LeS.refl _, trivial⟩
    | decide
    | trace_state
end Go.Proofs.YtigmgeglnbjfeaaDoor
