/- Contracts of functions that the law reaches: YtiadnhbclipmhaaGreatDoorTP12. Written for this claim. -/
import Derived.Test.YtiadnhbclipmhaaGreatDoorTP10
import Derived.Test.YtiadnhbclipmhaaGreatDoorSxPub2
import Derived.Test.YtiadnhbclipmhaaGreatDoorSxInsr
import Derived.Test.YtiadnhbclipmhaaGreatDoorTPIn
namespace Go.Proofs.YtiadnhbclipmhaaGreatDoor
open Go Go.Sx Go.ChangeShapes Go.WideShapes Go.ChangeAt Go.RowKit
set_option linter.unusedVariables false
set_option linter.unusedSimpArgs false
set_option maxRecDepth 100000
theorem near1_spec (id : Int) (x : NearT) : Sx.Spec Tryz.prog GG 112 [nearS x, .ptr 1000 0] [(1000, .box [.d (.int .i64 id)])] (.d (.bool (near1 id x))) [(1000, .box [.d (.int .i64 id)])] := by
  refine spec_intro (E := EE) (fn := Tryz.f112) eok (by kernel_rfl) (by kernel_rfl) Tryz.call112 (by kernel_rfl) (by kernel_rfl) ?_
  conv => whnf
  repeat' first | ((first | refine Bt ?_ | refine Bf ?_ | refine Ni ?_ ?_ | refine Wq ?_ | refine Di ?_ | refine Oi ?_); conv => whnf) | (refine bc_intro (fun _ => ?_) (fun _ => ?_) <;> (conv => whnf))
  all_goals exact ⟨LeS.of_eq (by simp only [near1, *, Bool.true_or, Bool.false_or]), LeL.refl _, trivial⟩
theorem idxNear_spec (id : Int) (xs : List NearT) : xs.length ≤ 1000 → Sx.Spec Tryz.prog GG 122 [.d (encL encR 4 xs), .clo 112 [.ptr 1000 0]] [(1000, .box [.d (.int .i64 id)])] (.d (.int .i64 (idxP (near1 id) xs 0))) [(1000, .box [.d (.int .i64 id)])] := by
  intro hl
  refine spec_intro (E := EE) (fn := Tryz.f122) eok (by kernel_rfl) (by kernel_rfl) Tryz.call122 (by kernel_rfl) (by kernel_rfl) ?_
  conv => whnf
  repeat' first | ((first | refine Bt ?_ | refine Bf ?_ | refine Ni ?_ ?_ | refine Wq ?_ | refine Di ?_ | refine Oi ?_); conv => whnf) | (refine bc_intro (fun _ => ?_) (fun _ => ?_) <;> (conv => whnf))
  refine loop_auto [0, 0 + 1, 6, 7] [1000] (fun i : Nat => [(8, .d (.int .i64 i))]) (fun _ => []) (fun i => i ≤ xs.length ∧ idxP (near1 id) xs 0 = idxP (near1 id) (xs.drop i) i) (fun i => xs.length - i) 0 ?_ (fun i hi => ?_) ⟨Nat.zero_le _, by simp⟩
  · conv => whnf
    repeat' first | ((first | refine Bt ?_ | refine Bf ?_ | refine Ni ?_ ?_ | refine Wq ?_ | refine Di ?_ | refine Oi ?_); conv => whnf) | (refine bc_intro (fun _ => ?_) (fun _ => ?_) <;> (conv => whnf))
    all_goals try first | exact Lq
  · obtain ⟨h1, h2⟩ := hi
    have e1 : i < xs.length → IntKind.i64.wrap ((i : Int) + 1) = ((i + 1 : Nat) : Int) := fun h => wrap_succ (n := 1000) (by omega) (by omega)
    conv => whnf
    repeat' first | ((first | refine call_intro (near1_spec _ (xs.getD (i : Int).toNat default)) ?_ Fl | refine NextVC.mk (i + 1) ?_ ?_ ?_ | refine Bt ?_ | refine Bf ?_ | refine Ni ?_ ?_ | refine Wq ?_ | refine Di ?_ | refine Oi ?_); conv => whnf) | (refine bc_intro (fun _ => ?_) (fun _ => ?_) <;> (conv => whnf))
    all_goals try simp only [decide_eq_true_eq, decide_eq_false_iff_not, Int.toNat_natCast] at *
    all_goals first
      | exact trivial | exact DLe.refl _ | omega | exact DLe.of_eq (by rw [e1 (by omega)]) | (refine ⟨LeS.of_eq ?_, LeL.refl _, trivial⟩; rw [h2, idxP_end (by omega)]) | (refine ⟨LeS.of_eq ?_, LeL.refl _, trivial⟩; rw [h2, idxP_step (by omega)]; simp_all; done) | (refine ⟨by omega, ?_⟩; rw [h2, idxP_step (by omega)]; simp_all; done)
      | (have hq := ‹_ = true›; refine ⟨LeS.of_eq ?_, LeL.refl _, trivial⟩; rw [h2, idxP_step (by omega)]; simp_all; done)
theorem idxNear_at (m : Nat) (id : Int) (xs : List NearT) (h : xs.length ≤ 1000) : Sx.Spec Tryz.prog GG 122 [.d (encL encR 4 xs), .clo 112 [.ptr m 0]] [(m, .box [.d (.int .i64 id)])] (.d (.int .i64 (idxP (near1 id) xs 0))) [(m, .box [.d (.int .i64 id)])] := (idxNear_spec id xs h).at m
theorem idxZ_spec (id : Int) (xs : List Int) : xs.length ≤ 1000 → Sx.Spec Tryz.prog GG 88 [.d (encL encZ 1 xs), .d (.int .i64 id)] [] (.d (.int .i64 (idxP (fun y => id == y) xs 0))) [] := by
  intro hl
  refine spec_intro (E := EE) (fn := Tryz.f88) eok (by kernel_rfl) (by kernel_rfl) Tryz.call88 (by kernel_rfl) (by kernel_rfl) ?_
  conv => whnf
  repeat' first | ((first | refine Bt ?_ | refine Bf ?_ | refine Ni ?_ ?_ | refine Wq ?_ | refine Di ?_ | refine Oi ?_); conv => whnf) | (refine bc_intro (fun _ => ?_) (fun _ => ?_) <;> (conv => whnf))
  refine loop_auto [0, 0 + 1, 6, 7] [] (fun i : Nat => [(8, .d (.int .i64 i))]) (fun _ => []) (fun i => i ≤ xs.length ∧ idxP (fun y => id == y) xs 0 = idxP (fun y => id == y) (xs.drop i) i) (fun i => xs.length - i) 0 ?_ (fun i hi => ?_) ⟨Nat.zero_le _, by simp⟩
  · conv => whnf
    repeat' first | ((first | refine Bt ?_ | refine Bf ?_ | refine Ni ?_ ?_ | refine Wq ?_ | refine Di ?_ | refine Oi ?_); conv => whnf) | (refine bc_intro (fun _ => ?_) (fun _ => ?_) <;> (conv => whnf))
    all_goals try first | exact Lq
  · obtain ⟨h1, h2⟩ := hi
    have e1 : i < xs.length → IntKind.i64.wrap ((i : Int) + 1) = ((i + 1 : Nat) : Int) := fun h => wrap_succ (n := 1000) (by omega) (by omega)
    conv => whnf
    repeat' first | ((first | refine NextVC.mk (i + 1) ?_ ?_ ?_ | refine Bt ?_ | refine Bf ?_ | refine Ni ?_ ?_ | refine Wq ?_ | refine Di ?_ | refine Oi ?_); conv => whnf) | (refine bc_intro (fun _ => ?_) (fun _ => ?_) <;> (conv => whnf))
    all_goals try simp only [decide_eq_true_eq, decide_eq_false_iff_not, Int.toNat_natCast] at *
    all_goals first | exact trivial | exact DLe.refl _ | omega | exact DLe.of_eq (by rw [e1 (by omega)]) | (refine ⟨LeS.of_eq ?_, trivial⟩; rw [h2, idxP_end (by omega)]) | (refine ⟨LeS.of_eq ?_, trivial⟩; rw [h2, idxP_step (by omega)]; simp_all; done) | (refine ⟨by omega, ?_⟩; rw [h2, idxP_step (by omega)]; simp_all; done)
theorem containsZ_spec (id : Int) (xs : List Int) : xs.length ≤ 1000 → Sx.Spec Tryz.prog GG 113 [.d (encL encZ 1 xs), .d (.int .i64 id)] [] (.d (.bool (xs.any fun y => id == y))) [] := by
  intro hl
  refine spec_intro (E := EE) (fn := Tryz.f113) eok (by kernel_rfl) (by kernel_rfl) Tryz.call113 (by kernel_rfl) (by kernel_rfl) ?_
  conv => whnf
  repeat' first | ((first | refine Cf (idxZ_spec _ _) ?_ ?_ | refine Bt ?_ | refine Bf ?_ | refine Ni ?_ ?_ | refine Wq ?_ | refine Di ?_ | refine Oi ?_); conv => whnf) | (refine bc_intro (fun _ => ?_) (fun _ => ?_) <;> (conv => whnf))
  all_goals first | assumption | exact ⟨LeS.of_eq (by rw [← idxP_nonneg]), trivial⟩
theorem containsNear_spec (id : Int) (xs : List NearT) : xs.length ≤ 1000 → Sx.Spec Tryz.prog GG 114 [.d (encL encR 4 xs), .clo 112 [.ptr 1000 0]] [(1000, .box [.d (.int .i64 id)])] (.d (.bool (xs.any (near1 id)))) [(1000, .box [.d (.int .i64 id)])] := by
  intro hl
  refine spec_intro (E := EE) (fn := Tryz.f114) eok (by kernel_rfl) (by kernel_rfl) Tryz.call114 (by kernel_rfl) (by kernel_rfl) ?_
  conv => whnf
  repeat' first | ((first | refine Cf (idxNear_at _ _ _) ?_ ?_ | refine Bt ?_ | refine Bf ?_ | refine Ni ?_ ?_ | refine Wq ?_ | refine Di ?_ | refine Oi ?_); conv => whnf) | (refine bc_intro (fun _ => ?_) (fun _ => ?_) <;> (conv => whnf))
  all_goals first | assumption | exact ⟨LeS.of_eq (by rw [← idxP_nonneg (p := near1 id)]), LeL.refl _, trivial⟩
theorem containsNear_at (m : Nat) (id : Int) (xs : List NearT) (h : xs.length ≤ 1000) : Sx.Spec Tryz.prog GG 114 [.d (encL encR 4 xs), .clo 112 [.ptr m 0]] [(m, .box [.d (.int .i64 id)])] (.d (.bool (xs.any (near1 id)))) [(m, .box [.d (.int .i64 id)])] := (containsNear_spec id xs h).at m
theorem names_spec (p : PeerT) (id : Int) : PrB p → Sx.Spec Tryz.prog GG 89 [peerS p, .d (.int .i64 id)] [] (.d (.bool (namesF p id))) [] := by
  rintro ⟨hk, hn⟩
  refine spec_intro (E := EE) (fn := Tryz.f89) eok (by kernel_rfl) (by kernel_rfl) Tryz.call89 (by kernel_rfl) (by kernel_rfl) ?_
  conv => whnf
  repeat' first | ((first | refine Cf (containsZ_spec _ _) ?_ ?_ | refine Cf (containsNear_at _ _ _) ?_ ?_ | refine Bt ?_ | refine Bf ?_ | refine Ni ?_ ?_ | refine Wq ?_ | refine Di ?_ | refine Oi ?_); conv => whnf) | (refine bc_intro (fun _ => ?_) (fun _ => ?_) <;> (conv => whnf))
  all_goals first | exact hk | exact hn | exact ⟨LeS.of_eq (by simp only [namesF, *, Bool.true_or, Bool.false_or]), trivial⟩
theorem refs_len {nodes : List NodeT} {p : PeerT} : (refsF nodes p).length ≤ nodes.length := by
  rw [refsF, List.length_map, ← sortN_len nodes]; exact List.length_filter_le _ _
theorem filter_drop {α : Type} [Inhabited α] {q : α → Bool} {xs : List α} {i : Nat} (h : i < xs.length) : (xs.drop i).filter q = (if q (xs.getD i default) then [xs.getD i default] else []) ++ (xs.drop (i + 1)).filter q := by
  rw [List.drop_eq_getElem_cons h, List.filter_cons]
  have e : xs.getD i default = xs[i] := by simp [List.getD, h]
  rw [e]
  split <;> simp
theorem refs0 (nodes : List NodeT) (p : PeerT) : (Sml nodes ∧ PrB p) → Sx.Spec Tryz.prog GG 72 [.d (encL encN 3 nodes), peerS p] [] (.osl 2000 1 0 (refsF nodes p).length) [(2000, .row 3 1 (refsF nodes p).length (cellOf encZ (refsF nodes p)))] := by
  rintro ⟨hS, hp⟩
  have hc := checkF_iff.2 hS.r
  have hl := hS.l20
  have hsl := sortN_len nodes
  have cZ : Tryz.prog.cellsOf 3 = 1 := by kernel_rfl
  have bZ : Tryz.prog.bytesOf 3 = 8 := by kernel_rfl
  have hne : (checkF nodes != 0) = false := by rw [hc]; rfl
  refine spec_intro (E := EE) (fn := Tryz.f72) eok (by kernel_rfl) (by kernel_rfl) Tryz.call72 (by kernel_rfl) (by kernel_rfl) ?_
  conv => whnf
  repeat' first | ((first | refine Cf (checkp_spec _) ?_ ?_ | refine Cf (sort_d) ?_ ?_ | refine Bt ?_ | refine Bf ?_ | refine Ni ?_ ?_ | refine Wq ?_ | refine Di ?_ | refine Oi ?_); conv => whnf)
  · refine loop_auto [3, 12, 13] [3] (fun x : Nat × List Int => [(14, .d (.int .i64 x.1)), (5, .osl 3000 1 0 x.2.length)]) (fun x => [(3000, .row 3 1 x.2.length (cellOf encZ x.2))]) (fun x => (x.1 ≤ (sortN nodes).length ∧ x.2.length ≤ x.1) ∧ x.2 ++ (((sortN nodes).drop x.1).filter (refP p)).map (·.id) = refsF nodes p) (fun x => (sortN nodes).length - x.1) (0, []) ?_ (fun x hx => ?_) ⟨⟨Nat.zero_le _, Nat.le_refl _⟩, rfl⟩
    · conv => whnf
      repeat' first | ((first | refine Bt ?_ | refine Bf ?_ | refine Ni ?_ ?_ | refine Wq ?_ | refine Di ?_ | refine Oi ?_); conv => whnf) | (refine bc_intro (fun _ => ?_) (fun _ => ?_) <;> (conv => whnf))
      all_goals try first | exact Lq
      all_goals exact row_nil
    · obtain ⟨i, acc⟩ := x
      obtain ⟨⟨hi, ha⟩, hf⟩ := hx
      simp only at hi ha hf
      have hs : i < (sortN nodes).length → IntKind.i64.wrap ((i : Int) + 1) = ((i + 1 : Nat) : Int) := fun h => wrap_succ (n := 1000) (by omega) (by omega)
      conv => whnf
      refine bc_intro (fun hlt => ?_) (fun hlt => ?_)
      · have hlt0 : i < (sortN nodes).length := by simpa using hlt
        have hsi := hs hlt0
        rw [filter_drop hlt0] at hf
        cases hq : refP p ((sortN nodes).getD i default) with
        | true =>
          rw [hq] at hf
          have hq' := hq
          simp only [refP, Bool.and_eq_true] at hq'
          obtain ⟨hq1, hq2⟩ := hq'
          conv => whnf
          repeat' first | ((first | refine Cf (names_spec p _) ?_ ?_ | refine NextVC.mk (i + 1, acc ++ [((sortN nodes).getD i default).id]) ?_ ?_ ?_ | refine Bt ?_ | refine Bf ?_ | refine Ni ?_ ?_ | refine Wq ?_ | refine Di ?_ | refine Oi ?_); conv => whnf) | (refine bc_intro (fun _ => ?_) (fun _ => ?_) <;> (conv => whnf))
          all_goals try simp only [Int.toNat_natCast, cZ, bZ, List.length_append, List.length_singleton]
          all_goals first | exact Lf | exact hp | exact DLe.of_eq (by rw [hsi]) | exact ⟨by omega, by omega⟩ | exact ⟨trivial, by omega, by omega⟩ | exact row_snoc rfl (RowLe.refl _ _ _) (jlt1 (DLe.of_eq rfl)) | exact ⟨⟨by omega, by omega⟩, by rw [← hf]; simp⟩
        | false =>
          rw [hq] at hf
          conv => whnf
          repeat' first | ((first | refine Cf (names_spec p _) ?_ ?_ | refine NextVC.mk (i + 1, acc) ?_ ?_ ?_ | refine Bt ?_ | refine Bf ?_ | refine Ni ?_ ?_ | refine Wq ?_ | refine Di ?_ | refine Oi ?_); conv => whnf) | (refine bc_intro (fun _ => ?_) (fun _ => ?_) <;> (conv => whnf))
          all_goals try simp only [Int.toNat_natCast, cZ, bZ] at *
          all_goals first
            | exact Lf | exact hp | exact DLe.of_eq (by rw [hsi]) | exact ⟨by omega, by omega⟩
            | (exfalso; simp only [refP, Bool.and_eq_false_iff] at hq; simp_all; done)
            | exact ⟨⟨by omega, by omega⟩, by rw [← hf]; simp⟩
      · have hlt0 : (sortN nodes).length ≤ i := by simpa using hlt
        rw [List.drop_eq_nil_of_le hlt0] at hf
        have e : acc = refsF nodes p := by rw [← hf]; simp
        subst e
        conv => whnf
        repeat' first | ((first | refine Bt ?_ | refine Bf ?_ | refine Ni ?_ ?_ | refine Wq ?_ | refine Di ?_ | refine Oi ?_); conv => whnf) | (refine bc_intro (fun _ => ?_) (fun _ => ?_) <;> (conv => whnf))
        all_goals first | exact Lf
  all_goals first | exact ⟨hS.r, hl⟩ | omega
end Go.Proofs.YtiadnhbclipmhaaGreatDoor

namespace Go.Proofs.YtiadnhbclipmhaaGreatDoor
open Go Go.Sx Go.ChangeShapes Go.WideShapes Go.ChangeAt Go.RowKit
set_option linter.unusedVariables false
set_option linter.unusedSimpArgs false
set_option maxRecDepth 100000
abbrev EL : List Nat := [31, 64, 58, 77, 7000000, 3000000 + 22, 9000000 + 111, 2000000 + 109]
theorem eokL : EOk Tryz.prog EL := by
  refine ⟨by kernel_rfl, ?_⟩
  intro T hT
  simp only [memN_iff] at hT
  simp only [List.mem_cons, List.not_mem_nil, or_false] at hT
  rcases hT with rfl | rfl | rfl | rfl | rfl | rfl | rfl | rfl <;> exact ⟨by kernel_rfl, by kernel_rfl⟩
theorem insAt : InsOk Tryz.prog 111 3 := Go.Proofs.insOk_of Tryz.in21
theorem row1_spec (nodes : List NodeT) (x : NodeT) (id : Int) : nodes.length ≤ 1000 → Sx.Spec Tryz.prog GG 110 [.d (.int .i64 id), .ptr 1000 0, .ptr 1001 0] [(1000, .box [.d (encL encN 3 nodes)]), (1001, boxN x)] (.d (.bool (gtP nodes x id))) [(1000, .box [.d (encL encN 3 nodes)]), (1001, boxN x)] := by
  intro hl
  refine spec_intro (E := EE) (fn := Tryz.f110) eok (by kernel_rfl) (by kernel_rfl) Tryz.call110 (by kernel_rfl) (by kernel_rfl) ?_
  conv => whnf
  repeat' first | ((first | refine Cf (find_spec _ _) ?_ ?_ | refine Bt ?_ | refine Bf ?_ | refine Ni ?_ ?_ | refine Wq ?_ | refine Di ?_ | refine Oi ?_); conv => whnf) | (refine bc_intro (fun _ => ?_) (fun _ => ?_) <;> (conv => whnf))
  all_goals first | exact ⟨LeS.refl _, LeL.refl _, LeL.refl _, trivial⟩ | exact hl
theorem idxRow_spec (nodes : List NodeT) (x : NodeT) (xs : List Int) : (nodes.length ≤ 1000 ∧ xs.length ≤ 1000) → Sx.Spec Tryz.prog GG 109 [.osl 1002 1 0 xs.length, .clo 110 [.ptr 1000 0, .ptr 1001 0]] [(1000, .box [.d (encL encN 3 nodes)]), (1001, boxN x), (1002, .row 3 1 xs.length (cellOf encZ xs))] (.d (.int .i64 (idxP (gtP nodes x) xs 0)))
    [(1000, .box [.d (encL encN 3 nodes)]), (1001, boxN x), (1002, .row 3 1 xs.length (cellOf encZ xs))] := by
  rintro ⟨hn, hl⟩
  refine spec_intro (E := EL) (fn := Tryz.f109) eokL (by kernel_rfl) (by kernel_rfl) Tryz.call109 (by kernel_rfl) (by kernel_rfl) ?_
  conv => whnf
  repeat' first | ((first | refine Bt ?_ | refine Bf ?_ | refine Ni ?_ ?_ | refine Wq ?_ | refine Di ?_ | refine Oi ?_); conv => whnf) | (refine bc_intro (fun _ => ?_) (fun _ => ?_) <;> (conv => whnf))
  refine loop_auto [0, 0 + 1, 6, 7] [1000, 1001, 1002] (fun i : Nat => [(8, .d (.int .i64 i))]) (fun _ => []) (fun i => i ≤ xs.length ∧ idxP (gtP nodes x) xs 0 = idxP (gtP nodes x) (xs.drop i) i) (fun i => xs.length - i) 0 ?_ (fun i hi => ?_) ⟨Nat.zero_le _, by simp⟩
  · conv => whnf
    repeat' first | ((first | refine Bt ?_ | refine Bf ?_ | refine Ni ?_ ?_ | refine Wq ?_ | refine Di ?_ | refine Oi ?_); conv => whnf) | (refine bc_intro (fun _ => ?_) (fun _ => ?_) <;> (conv => whnf))
    all_goals try first | exact Lq
  · obtain ⟨h1, h2⟩ := hi
    have e1 : i < xs.length → IntKind.i64.wrap ((i : Int) + 1) = ((i + 1 : Nat) : Int) := fun h => wrap_succ (n := 1000) (by omega) (by omega)
    conv => whnf
    repeat' first | ((first | refine call_if (row1_spec nodes x (xs.getD (0 + (i : Int).toNat) default)) Fl (Ni ?_ ?_) | refine NextVC.mk (i + 1) ?_ ?_ ?_ | refine Bt ?_ | refine Bf ?_ | refine Ni ?_ ?_ | refine Wq ?_ | refine Di ?_ | refine Oi ?_); conv => whnf) | (refine bc_intro (fun _ => ?_) (fun _ => ?_) <;> (conv => whnf))
    all_goals try simp only [decide_eq_true_eq, decide_eq_false_iff_not, Int.toNat_natCast, Nat.zero_add] at *
    all_goals first
      | exact Lf | exact DLe.of_eq (by rw [e1 (by omega)]) | exact ⟨by omega, by omega⟩
      | (rw [h2, idxP_end (by omega)]; exact DLe.refl _)
      | (rw [h2, idxP_step (by omega)]; simp_all; exact DLe.refl _)
      | (refine ⟨by omega, ?_⟩; rw [h2, idxP_step (by omega)]; simp_all; done)
theorem idxRow_at (m k q : Nat) (h1 : m ≠ k) (h2 : m ≠ q) (h3 : k ≠ q) {nodes : List NodeT} {x : NodeT} (xs : List Int) : (nodes.length ≤ 1000 ∧ xs.length ≤ 1000) → Sx.Spec Tryz.prog GG 109 [.osl q 1 0 xs.length, .clo 110 [.ptr m 0, .ptr k 0]] [(m, .box [.d (encL encN 3 nodes)]), (k, boxN x), (q, .row 3 1 xs.length (cellOf encZ xs))] (.d (.int .i64 (idxP (gtP nodes x) xs 0)))
    [(m, .box [.d (encL encN 3 nodes)]), (k, boxN x), (q, .row 3 1 xs.length (cellOf encZ xs))] := by
  intro h
  have h1 := (idxRow_spec nodes x xs h).at3 m k q (by decide) (by decide) (by decide) h1 h2 h3
  simp only [renL, renS, renB, if_true, show ¬ (1001 : Nat) = 1000 by decide, show ¬ (1002 : Nat) = 1000 by decide, show ¬ (1002 : Nat) = 1001 by decide, if_false] at h1
  exact h1
theorem refs_at (m : Nat) {nodes : List NodeT} {p : PeerT} : (Sml nodes ∧ PrB p) → Sx.Spec Tryz.prog GG 72 [.d (encL encN 3 nodes), peerS p] [] (.osl m 1 0 (refsF nodes p).length) [(m, .row 3 1 (refsF nodes p).length (cellOf encZ (refsF nodes p)))] := fun h => (refs0 nodes p h).new1 m
theorem find_is {nodes : List NodeT} {id : Int} {x : NodeT} : (findN nodes id = some x ∧ nodes.length ≤ 1000) → Sx.Spec Tryz.prog GG 47 [.d (encL encN 3 nodes), .d (.int .i64 id)] [] (.tup [nodeS x, .d (.bool true)]) [] := fun h => by
  have := find_spec id nodes h.2
  rw [h.1] at this
  exact this
theorem find_no {nodes : List NodeT} {id : Int} : (findN nodes id = none ∧ nodes.length ≤ 1000) → Sx.Spec Tryz.prog GG 47 [.d (encL encN 3 nodes), .d (.int .i64 id)] [] (.tup [nodeS default, .d (.bool false)]) [] := fun h => by
  have := find_spec id nodes h.2
  rw [h.1] at this
  exact this
theorem check_ok0 {nodes : List NodeT} : Sml nodes → Sx.Spec Tryz.prog GG 28 [.d (encL encN 3 nodes)] [] (.d (.int .i64 0)) [] := fun h => by
  have hl := h.l20
  have := checkp_spec nodes (by omega)
  rw [checkF_iff.2 h.r] at this
  exact this
theorem row0 {nodes : List NodeT} {p : PeerT} {x : NodeT} (hx : x ∈ nodes) (hid : x.id = p.id) : (Sml nodes ∧ PrB p) → Sx.Spec Tryz.prog GG 87 [.d (encL encN 3 nodes), peerS p] [] (.osl 2000 1 0 (rowF nodes p).length) [(2000, .row 3 1 (rowF nodes p).length (cellOf encZ (rowF nodes p)))] := by
  rintro ⟨hS, hp⟩
  have hl := hS.l20
  have hfx : findN nodes p.id = some x := by rw [← hid]; exact find_of hS.r.ids hx
  have hrl := refs_len (nodes := nodes) (p := p)
  refine spec_intro (E := EL) (fn := Tryz.f87) eokL (by kernel_rfl) (by kernel_rfl) Tryz.call87 (by kernel_rfl) (by kernel_rfl) ?_
  conv => whnf
  repeat' first | ((first | refine call_if (find_is (x := x)) Fl (Ni ?_ ?_) | refine Cf (check_ok0) ?_ ?_ | refine Cf (refs_at 3000) ?_ ?_ | refine call_if (idxRow_at _ _ _ (by decide) (by decide) (by decide) (refsF nodes p)) Fl (Ni ?_ ?_) | refine Bt ?_ | refine Bf ?_ | refine Ni ?_ ?_ | refine Wq ?_ | refine Di ?_ | refine Oi ?_); conv => whnf)
  · refine join_auto [2, 3, 5, 7] [2, 3, 5, 3000] (fun k : Nat => [(8, .d (.int .i64 k))]) (fun _ => []) (fun k => k ≤ (refsF nodes p).length ∧ (∀ j, j < k → gtP nodes x ((refsF nodes p).getD j default) = false) ∧ (k < (refsF nodes p).length → gtP nodes x ((refsF nodes p).getD k default) = true)) (fun h1 => ?_) (fun h1 => ?_) ?_
    · conv => whnf
      repeat' first | ((first | refine JoinVC.mk (refsF nodes p).length ?_ ?_ | refine Bt ?_ | refine Bf ?_ | refine Ni ?_ ?_ | refine Wq ?_ | refine Di ?_ | refine Oi ?_); conv => whnf)
      all_goals first
        | exact Lf
        | (rcases idxP_range (p := gtP nodes x) (xs := refsF nodes p) (f := 0) with ⟨q1, q2⟩ | ⟨q, q1, _⟩
           · exact ⟨Nat.le_refl _, fun j hj => List.any_eq_false.1 q2 _ (getD_mem2 hj) |> fun h => by simpa using h, fun h => absurd h (Nat.lt_irrefl _)⟩
           · rw [decide_eq_true_eq] at h1; omega)
    · conv => whnf
      repeat' first | ((first | refine JoinVC.mk (idxP (gtP nodes x) (refsF nodes p) 0).toNat ?_ ?_ | refine Bt ?_ | refine Bf ?_ | refine Ni ?_ ?_ | refine Wq ?_ | refine Di ?_ | refine Oi ?_); conv => whnf)
      all_goals first
        | exact Lf
        | (rcases idxP_range (p := gtP nodes x) (xs := refsF nodes p) (f := 0) with ⟨q1, q2⟩ | ⟨q, q1, q2, q3, q4⟩
           · rw [decide_eq_false_iff_not] at h1; omega
           · refine DLe.of_eq ?_; congr 1; omega)
        | (rcases idxP_range (p := gtP nodes x) (xs := refsF nodes p) (f := 0) with ⟨q1, q2⟩ | ⟨q, q1, q2, q3, q4⟩
           · rw [decide_eq_false_iff_not] at h1; omega
           · have e : (idxP (gtP nodes x) (refsF nodes p) 0).toNat = q := by omega
             rw [e]
             exact ⟨by omega, q4, fun _ => q3⟩)
    · rintro k ⟨h1, h2, h3⟩
      have he := row_eq hS.r hx hid h2 h1 h3
      have hlen : (rowF nodes p).length = (refsF nodes p).length + 1 := by rw [← he]; simp; omega
      conv => whnf
      repeat' first | ((first | refine Bt ?_ | refine Bf ?_ | refine Ni ?_ ?_ | refine Wq ?_ | refine Di ?_ | refine Oi ?_); conv => whnf)
      all_goals try simp only [hlen]
      all_goals first
        | exact Lf | exact ⟨insAt, by omega, by omega, trivial, by omega⟩
        | (rw [Int.toNat_natCast, ← he]; exact ins_row h1 (by rw [he, hlen]))
        | (rw [Int.toNat_natCast, ← he]; exact ins_row h1 rfl)
  all_goals first | exact ⟨by omega, by omega⟩ | exact ⟨hfx, by omega⟩ | exact ⟨hS, hp⟩ | exact hS
theorem row_at (m : Nat) {nodes : List NodeT} {p : PeerT} : ((∃ x ∈ nodes, x.id = p.id) ∧ Sml nodes ∧ PrB p) → Sx.Spec Tryz.prog GG 87 [.d (encL encN 3 nodes), peerS p] [] (.osl m 1 0 (rowF nodes p).length) [(m, .row 3 1 (rowF nodes p).length (cellOf encZ (rowF nodes p)))] := by
  rintro ⟨⟨x, hx, hid⟩, h⟩
  exact (row0 hx hid h).new1 m
theorem row_d {nodes : List NodeT} {p : PeerT} : ((∃ x ∈ nodes, x.id = p.id) ∧ Sml nodes ∧ PrB p) → Sx.Spec Tryz.prog GG 87 [.d (encL encN 3 nodes), peerS p] [] (.d (encL encZ 1 (rowF nodes p))) [] := fun h => (row_at 2000 h).pub1
theorem intros0 {nodes : List NodeT} {p : PeerT} : ((∃ x ∈ nodes, x.id = p.id) ∧ Sml nodes ∧ PrB p) → Sx.Spec Tryz.prog GG 70 [.d (encL encN 3 nodes), peerS p] [] (.d (encL encT 2 (introsF nodes p))) [] := by
  intro h
  have hl := h.2.1.l20
  have hrl := row_len (nodes := nodes) (p := p)
  have cT : Tryz.prog.cellsOf 132 = 2 := by kernel_rfl
  have bT : Tryz.prog.bytesOf 132 = 16 := by kernel_rfl
  refine spec_intro (E := EE) (fn := Tryz.f70) eok (by kernel_rfl) (by kernel_rfl) Tryz.call70 (by kernel_rfl) (by kernel_rfl) ?_
  conv => whnf
  repeat' first | ((first | refine Cf (row_d) ?_ ?_ | refine Bt ?_ | refine Bf ?_ | refine Ni ?_ ?_ | refine Wq ?_ | refine Di ?_ | refine Oi ?_); conv => whnf)
  · refine loop_auto [3, 6] [3] (fun x : Nat × List (Int × Int) => [(7, .d (.int .i64 x.1)), (5, .osl 3000 2 0 x.2.length)]) (fun x => [(3000, .row 132 2 x.2.length (cellOf encT x.2))])
      (fun x => (1 ≤ x.1 ∧ x.1 ≤ (rowF nodes p).length + 1 ∧ x.2.length ≤ 2 * x.1) ∧ x.2 ++ (List.range' x.1 ((rowF nodes p).length - x.1)).flatMap (fun i => (introP (rowF nodes p) i).filter fun x => x.1 != p.id) = introsF nodes p) (fun x => (rowF nodes p).length + 1 - x.1) (1, []) ?_ (fun x hx => ?_) ⟨⟨Nat.le_refl _, by simp, by simp⟩, rfl⟩
    · conv => whnf
      repeat' first | ((first | refine Bt ?_ | refine Bf ?_ | refine Ni ?_ ?_ | refine Wq ?_ | refine Di ?_ | refine Oi ?_); conv => whnf) | (refine bc_intro (fun _ => ?_) (fun _ => ?_) <;> (conv => whnf))
      all_goals try first | exact Lq
      all_goals exact row_nil
    · obtain ⟨i, acc⟩ := x
      obtain ⟨⟨hi, hi2, ha⟩, hf⟩ := hx
      simp only at hi hi2 ha hf
      have hs1 : IntKind.i64.wrap ((i : Int) + 1) = ((i + 1 : Nat) : Int) := wrap_succ (n := 1000) (by omega) (by omega)
      have hs2 : IntKind.i64.wrap ((i : Int) - 1) = ((i - 1 : Nat) : Int) := by rw [wrap_of (by omega) (by omega)]; omega
      conv => whnf
      refine bc_intro (fun hlt => ?_) (fun hlt => ?_)
      · have hlt0 : i < (rowF nodes p).length := by simpa using hlt
        rw [show (rowF nodes p).length - i = ((rowF nodes p).length - (i + 1)) + 1 by omega, List.range'_succ, List.flatMap_cons] at hf
        conv => whnf
        repeat' first | ((first | refine Bt ?_ | refine Bf ?_ | refine Ni ?_ ?_ | refine Wq ?_ | refine Di ?_ | refine Oi ?_); conv => whnf)
        · refine loop_auto [3, 6, 7, 40] [3] (fun x : Nat × List (Int × Int) => [(39, .d (encL encT 2 (introP (rowF nodes p) i))), (41, .d (.int .i64 x.1)), (5, .osl 3000 2 0 x.2.length)]) (fun x => [(3000, .row 132 2 x.2.length (cellOf encT x.2))])
            (fun x => (x.1 ≤ 2 ∧ x.2.length ≤ 2 * i + x.1) ∧ x.2 ++ ((introP (rowF nodes p) i).drop x.1).filter (fun x => x.1 != p.id) = acc ++ (introP (rowF nodes p) i).filter (fun x => x.1 != p.id)) (fun x => 2 - x.1) (0, acc) ?_ (fun x hx => ?_) ⟨⟨Nat.zero_le _, by simp only; omega⟩, rfl⟩
          · conv => whnf
            repeat' first | ((first | refine Bt ?_ | refine Bf ?_ | refine Ni ?_ ?_ | refine Wq ?_ | refine Di ?_ | refine Oi ?_); conv => whnf) | (refine bc_intro (fun _ => ?_) (fun _ => ?_) <;> (conv => whnf))
            all_goals try first | exact Lq
            all_goals first
              | (refine dle_lit (by kernel_rfl) rfl ?_
                 refine ⟨fun a b ha hb => ?_⟩
                 simp only [hs2, Int.toNat_natCast]
                 match a, b, ha, hb with
                 | 0, 0, _, _ => exact DLe.refl _
                 | 0, 1, _, _ => exact DLe.refl _
                 | 1, 0, _, _ => exact DLe.refl _
                 | 1, 1, _, _ => exact DLe.refl _)
          · obtain ⟨j, bcc⟩ := x
            obtain ⟨⟨hj, hb⟩, hg⟩ := hx
            simp only at hj hb hg
            have hs3 : IntKind.i64.wrap ((j : Int) + 1) = ((j + 1 : Nat) : Int) := wrap_succ (n := 1000) (by omega) (by omega)
            have hpl : (introP (rowF nodes p) i).length = 2 := rfl
            conv => whnf
            refine bc_intro (fun hjt => ?_) (fun hjt => ?_)
            · have hjt0 : j < (introP (rowF nodes p) i).length := by rw [hpl]; rw [decide_eq_true_eq] at hjt; simp only at hjt; omega
              rw [filter_drop hjt0] at hg
              cases hq : (((introP (rowF nodes p) i).getD j default).1 != p.id) with
              | true =>
                rw [hq] at hg
                conv => whnf
                repeat' first | ((first | refine NextVC.mk (j + 1, bcc ++ [(introP (rowF nodes p) i).getD j default]) ?_ ?_ ?_ | refine Bt ?_ | refine Bf ?_ | refine Ni ?_ ?_ | refine Wq ?_ | refine Di ?_ | refine Oi ?_); conv => whnf) | (refine bc_intro (fun _ => ?_) (fun _ => ?_) <;> (conv => whnf))
                all_goals try simp only [Int.toNat_natCast, cT, bT, List.length_append, List.length_singleton]
                all_goals first | exact Lf | exact DLe.of_eq (by rw [hs3]) | exact ⟨by omega, by omega⟩ | exact ⟨trivial, by omega, by omega⟩ | exact row_snoc rfl (RowLe.refl _ _ _) (jlt2 (DLe.of_eq rfl) (DLe.of_eq rfl)) | exact ⟨⟨by omega, by omega⟩, by rw [← hg]; simp⟩
              | false =>
                rw [hq] at hg
                conv => whnf
                repeat' first | ((first | refine NextVC.mk (j + 1, bcc) ?_ ?_ ?_ | refine Bt ?_ | refine Bf ?_ | refine Ni ?_ ?_ | refine Wq ?_ | refine Di ?_ | refine Oi ?_); conv => whnf) | (refine bc_intro (fun _ => ?_) (fun _ => ?_) <;> (conv => whnf))
                all_goals try simp only [Int.toNat_natCast, cT, bT]
                all_goals first | exact Lf | exact DLe.of_eq (by rw [hs3]) | exact ⟨by omega, by omega⟩ | exact ⟨⟨by omega, by omega⟩, by rw [← hg]; simp⟩
            · have hjt0 : (introP (rowF nodes p) i).length ≤ j := by rw [hpl]; rw [decide_eq_false_iff_not] at hjt; simp only at hjt; omega
              rw [List.drop_eq_nil_of_le hjt0] at hg
              conv => whnf
              repeat' first | ((first | refine NextVC.mk (i + 1, bcc) ?_ ?_ ?_ | refine Bt ?_ | refine Bf ?_ | refine Ni ?_ ?_ | refine Wq ?_ | refine Di ?_ | refine Oi ?_); conv => whnf) | (refine bc_intro (fun _ => ?_) (fun _ => ?_) <;> (conv => whnf))
              all_goals first
                | exact Lf | exact DLe.of_eq (by rw [hs1])
                | (refine ⟨⟨by simp only; omega, by simp only; omega, by simp only; omega⟩, ?_⟩
                   have e : bcc = acc ++ (introP (rowF nodes p) i).filter (fun x => x.1 != p.id) := by simpa using hg
                   simp only
                   rw [e, List.append_assoc]
                   exact hf)
        all_goals try simp only [hs2]
        all_goals exact ⟨by omega, by omega⟩
      · have hlt0 : (rowF nodes p).length ≤ i := by simpa using hlt
        rw [show (rowF nodes p).length - i = 0 by omega] at hf
        have e : acc = introsF nodes p := by rw [← hf]; simp
        subst e
        conv => whnf
        repeat' first | ((first | refine Bt ?_ | refine Bf ?_ | refine Ni ?_ ?_ | refine Wq ?_ | refine Di ?_ | refine Oi ?_); conv => whnf) | (refine bc_intro (fun _ => ?_) (fun _ => ?_) <;> (conv => whnf))
        exact ⟨LeS.d (DLe.rows rfl row_zero), trivial⟩
  · exact h
abbrev linkS (x : LinkT) : SV := .agg [.d (.int .i64 x.left), .d (.int .i64 x.right)]
theorem keep0 {nodes : List NodeT} {p : PeerT} : ((∃ x ∈ nodes, x.id = p.id) ∧ Sml nodes ∧ PrB p) → Sx.Spec Tryz.prog GG 71 [.d (encL encN 3 nodes), peerS p] [] (linkS (keepF nodes p)) [] := by
  intro h
  have hl := h.2.1.l20
  have hrl := row_len (nodes := nodes) (p := p)
  rcases idxP_range (p := fun y => p.id == y) (xs := rowF nodes p) (f := 0) with ⟨q1, q2⟩ | ⟨q, q1, q2, q3, q4⟩
  · exact absurd (own_row h.1) (fun hm => by simpa using List.any_eq_false.1 q2 _ hm)
  · rw [Nat.zero_add] at q1
    have hk := keep_at q1
    have hs1 : IntKind.i64.wrap ((q : Int) + 1) = ((q + 1 : Nat) : Int) := wrap_succ (n := 1000) (by omega) (by omega)
    have hs2 : 0 < q → IntKind.i64.wrap ((q : Int) - 1) = ((q - 1 : Nat) : Int) := fun h => by rw [wrap_of (by omega) (by omega)]; omega
    refine spec_intro (E := EE) (fn := Tryz.f71) eok (by kernel_rfl) (by kernel_rfl) Tryz.call71 (by kernel_rfl) (by kernel_rfl) ?_
    conv => whnf
    repeat' first | ((first | refine Cf (row_d) ?_ ?_ | refine Cf (idxZ_spec _ _) ?_ ?_ | refine Bt ?_ | refine Bf ?_ | refine Ni ?_ ?_ | refine Wq ?_ | refine Di ?_ | refine Oi ?_); conv => whnf) | (refine bc_intro (fun _ => ?_) (fun _ => ?_) <;> (conv => whnf))
    all_goals try simp only [q1, hs1, decide_eq_true_eq, decide_eq_false_iff_not] at *
    all_goals try rw [hs2 (by omega)] at *
    all_goals try simp only [Int.toNat_natCast] at *
    all_goals first
      | omega | exact h | exact ⟨by omega, by omega⟩
      | (refine ⟨LeS.of_eq ?_, trivial⟩
         rw [hk]
         simp only [cellOf, encZ]
         first
           | (rw [if_pos (by omega), if_pos (by omega)]; done)
           | (rw [if_pos (by omega), if_neg (by omega)]; done)
           | (rw [if_neg (by omega), if_pos (by omega)]; done)
           | (rw [if_neg (by omega), if_neg (by omega)]; done)
           | (rw [if_pos (by omega), if_pos (by omega)]; rfl)
           | (rw [if_pos (by omega), if_neg (by omega)]; rfl)
           | (rw [if_neg (by omega), if_pos (by omega)]; rfl)
           | (rw [if_neg (by omega), if_neg (by omega)]; rfl))
      | (refine ⟨LeS.of_eq ?_, trivial⟩
         have e1 : ¬ 0 < q := by omega
         have e2 : ¬ q + 1 < (rowF nodes p).length := by omega
         simp only [hk, if_neg e1, if_neg e2])
end Go.Proofs.YtiadnhbclipmhaaGreatDoor

namespace Go.Proofs.YtiadnhbclipmhaaGreatDoor
open Go Go.Sx Go.ChangeShapes Go.WideShapes Go.ChangeAt Go.RowKit
set_option linter.unusedVariables false
set_option linter.unusedSimpArgs false
set_option maxRecDepth 100000
theorem normal1_spec (x : NodeT) (p : PeerT) : Sx.Spec Tryz.prog GG 39 [peerS p, .ptr 1000 0] [(1000, boxN x)] (.d (.bool (p.id == x.id))) [(1000, boxN x)] := by
  refine spec_intro (E := EE) (fn := Tryz.f39) eok (by kernel_rfl) (by kernel_rfl) Tryz.call39 (by kernel_rfl) (by kernel_rfl) ?_
  conv => whnf
  repeat' first | ((first | refine Bt ?_ | refine Bf ?_ | refine Ni ?_ ?_ | refine Wq ?_ | refine Di ?_ | refine Oi ?_); conv => whnf) | (refine bc_intro (fun _ => ?_) (fun _ => ?_) <;> (conv => whnf))
  exact ⟨LeS.refl _, LeL.refl _, trivial⟩
theorem idxPeer_spec (x : NodeT) (xs : List PeerT) : xs.length ≤ 1000 → Sx.Spec Tryz.prog GG 38 [.d (encL encP 5 xs), .clo 39 [.ptr 1000 0]] [(1000, boxN x)] (.d (.int .i64 (idxP (fun p : PeerT => p.id == x.id) xs 0))) [(1000, boxN x)] := by
  intro hl
  refine spec_intro (E := EE) (fn := Tryz.f38) eok (by kernel_rfl) (by kernel_rfl) Tryz.call38 (by kernel_rfl) (by kernel_rfl) ?_
  conv => whnf
  repeat' first | ((first | refine Bt ?_ | refine Bf ?_ | refine Ni ?_ ?_ | refine Wq ?_ | refine Di ?_ | refine Oi ?_); conv => whnf) | (refine bc_intro (fun _ => ?_) (fun _ => ?_) <;> (conv => whnf))
  refine loop_auto [0, 0 + 1, 6, 7] [1000] (fun i : Nat => [(8, .d (.int .i64 i))]) (fun _ => []) (fun i => i ≤ xs.length ∧ idxP (fun p : PeerT => p.id == x.id) xs 0 = idxP (fun p : PeerT => p.id == x.id) (xs.drop i) i) (fun i => xs.length - i) 0 ?_ (fun i hi => ?_) ⟨Nat.zero_le _, by simp⟩
  · conv => whnf
    repeat' first | ((first | refine Bt ?_ | refine Bf ?_ | refine Ni ?_ ?_ | refine Wq ?_ | refine Di ?_ | refine Oi ?_); conv => whnf) | (refine bc_intro (fun _ => ?_) (fun _ => ?_) <;> (conv => whnf))
    all_goals try first | exact Lq
  · obtain ⟨h1, h2⟩ := hi
    have e1 : i < xs.length → IntKind.i64.wrap ((i : Int) + 1) = ((i + 1 : Nat) : Int) := fun h => wrap_succ (n := 1000) (by omega) (by omega)
    conv => whnf
    repeat' first | ((first | refine call_intro (normal1_spec _ (xs.getD (i : Int).toNat default)) ?_ Fl | refine NextVC.mk (i + 1) ?_ ?_ ?_ | refine Bt ?_ | refine Bf ?_ | refine Ni ?_ ?_ | refine Wq ?_ | refine Di ?_ | refine Oi ?_); conv => whnf) | (refine bc_intro (fun _ => ?_) (fun _ => ?_) <;> (conv => whnf))
    all_goals try simp only [decide_eq_true_eq, decide_eq_false_iff_not, Int.toNat_natCast] at *
    all_goals first
      | exact trivial | exact DLe.refl _ | omega | exact DLe.of_eq (by rw [e1 (by omega)]) | (refine ⟨LeS.of_eq ?_, LeL.refl _, trivial⟩; rw [h2, idxP_end (by omega)]) | (refine ⟨LeS.of_eq ?_, LeL.refl _, trivial⟩; rw [h2, idxP_step (by omega)]; simp_all; done) | (refine ⟨by omega, ?_⟩; rw [h2, idxP_step (by omega)]; simp_all; done)
      | (have hq := ‹_ = true›; refine ⟨LeS.of_eq ?_, LeL.refl _, trivial⟩; rw [h2, idxP_step (by omega)]; simp_all; done)
theorem idxPeer_at (m : Nat) (x : NodeT) (xs : List PeerT) (h : xs.length ≤ 1000) : Sx.Spec Tryz.prog GG 38 [.d (encL encP 5 xs), .clo 39 [.ptr m 0]] [(m, boxN x)] (.d (.int .i64 (idxP (fun p : PeerT => p.id == x.id) xs 0))) [(m, boxN x)] := (idxPeer_spec x xs h).at m
theorem normal0 {nodes : List NodeT} {ps : List PeerT} : (Sml nodes ∧ PrsB ps) → Sx.Spec Tryz.prog GG 19 [.d (encL encN 3 nodes), .d (encL encP 5 ps)] [] (.osl 2000 5 0 nodes.length)
    [(2000, .frow 900000 45 5 nodes.length (getPP (normalF nodes ps))), (900000, .fam (2 * nodes.length) (famPR 3 58 (normalF nodes ps)))] := by
  rintro ⟨hS, hP⟩
  have hl := hS.l20
  have hsl := sortN_len nodes
  have hpl := hP.len
  have cP : Tryz.prog.cellsOf 45 = 5 := by kernel_rfl
  have bP : Tryz.prog.bytesOf 45 = 72 := by kernel_rfl
  have cZ : Tryz.prog.cellsOf 3 = 1 := by kernel_rfl
  have cR : Tryz.prog.cellsOf 58 = 4 := by kernel_rfl
  refine spec_introF (E := EE) (fn := Tryz.f19) eok (by kernel_rfl) (by kernel_rfl) Tryz.call19 (by kernel_rfl) (by kernel_rfl) (by kernel_rfl) ?_
  conv => whnf
  repeat' first | ((first | refine Cf (check_ok0) ?_ ?_ | refine Cf (sort_d) ?_ ?_ | refine Bt ?_ | refine Bf ?_ | refine Ni ?_ ?_ | refine Wq ?_ | refine Di ?_ | refine Oi ?_); conv => whnf)
  · refine loop_auto [0, 0 + 1, 14, 15] [] (fun x : Nat × List PeerT => [(16, .d (.int .i64 x.1)), (5, .osl 2000 5 0 x.1)]) (fun x => [(2000, .frow 900000 45 5 x.1 (getPP x.2)), (900000, .fam (2 * x.1) (famPR 3 58 x.2))])
      (fun x => x.1 ≤ (sortN nodes).length ∧ x.2 = ((sortN nodes).take x.1).map (normal1F ps)) (fun x => (sortN nodes).length - x.1) (0, []) ?_ (fun x hx => ?_) ⟨Nat.zero_le _, rfl⟩
    · conv => whnf
      repeat' first | ((first | refine Bt ?_ | refine Bf ?_ | refine Ni ?_ ?_ | refine Wq ?_ | refine Di ?_ | refine Oi ?_); conv => whnf) | (refine bc_intro (fun _ => ?_) (fun _ => ?_) <;> (conv => whnf))
      all_goals try first | exact Lq
      all_goals exact famPR_nil
    · obtain ⟨i, acc⟩ := x
      obtain ⟨hi, ha⟩ := hx
      simp only at hi ha
      have hs : i < (sortN nodes).length → IntKind.i64.wrap ((i : Int) + 1) = ((i + 1 : Nat) : Int) := fun h => wrap_succ (n := 1000) (by omega) (by omega)
      conv => whnf
      refine bc_intro (fun hlt => ?_) (fun hlt => ?_)
      · have hlt0 : i < (sortN nodes).length := by simpa using hlt
        have hsi := hs hlt0
        have hlen : acc.length = i := by rw [ha, List.length_map, List.length_take]; omega
        have hz : (idxP (fun p : PeerT => p.id == ((sortN nodes).getD i default).id) ps 0 = -1 ∧ normal1F ps ((sortN nodes).getD i default) = ⟨((sortN nodes).getD i default).id, [], 0, 0, []⟩) ∨ ∃ k, idxP (fun p : PeerT => p.id == ((sortN nodes).getD i default).id) ps 0 = ((k : Nat) : Int) ∧ k < ps.length ∧ normal1F ps ((sortN nodes).getD i default) = ps.getD k default := by
          rcases find_idx (ps := ps) (id := ((sortN nodes).getD i default).id) with ⟨q1, q2⟩ | ⟨k, q1, q2, q3⟩
          · exact .inl ⟨q1, by simp only [normal1F, q2]; rfl⟩
          · exact .inr ⟨k, q1, q2, by simp only [normal1F, q3]; rfl⟩
        have hzB := normal1B hP (x := (sortN nodes).getD i default)
        have hzk := hzB.known
        have hzn := hzB.near
        conv => whnf
        repeat' first | ((first | refine Cf (idxPeer_at _ _ _) ?_ ?_ | refine Bt ?_ | refine Bf ?_ | refine Ni ?_ ?_ | refine Wq ?_ | refine Di ?_ | refine Oi ?_); conv => whnf)
        · refine join_auto [0, 0 + 1, 14, 15, 16, 5, 7, 8] [2000, 900000, 7] (fun z : PeerT => []) (fun z => [(8, .box [.d (.int .i64 z.id), .osl 3001 1 0 z.known.length, .d (.int .i64 z.left), .d (.int .i64 z.right), .osl 3002 4 0 z.near.length]), (3001, .row 3 1 z.known.length (cellOf encZ z.known)), (3002, .row 58 4 z.near.length (cellOf encR z.near))])
            (fun z => z = normal1F ps ((sortN nodes).getD i default)) (fun h1 => ?_) (fun h1 => ?_) ?_
          · rw [decide_eq_true_eq] at h1
            simp only [Int.toNat_natCast] at h1
            obtain ⟨k, q1, q2, q3⟩ := hz.resolve_left (fun h => by omega)
            rw [q3] at hzk hzn
            conv => whnf
            repeat' first | ((first | refine Cf (cloneI_at 4001) ?_ ?_ | refine Cf (cloneR_at 4002) ?_ ?_ | refine JoinVC.mk (normal1F ps ((sortN nodes).getD i default)) ?_ ?_ | refine Bt ?_ | refine Bf ?_ | refine Ni ?_ ?_ | refine Wq ?_ | refine Di ?_ | refine Oi ?_); conv => whnf)
            all_goals try simp only [Int.toNat_natCast, q1, q3]
            all_goals first | exact Lf | exact ⟨by omega, by omega⟩
          · rw [decide_eq_false_iff_not] at h1
            simp only [Int.toNat_natCast] at h1
            obtain ⟨q1, q3⟩ := hz.resolve_right (by rintro ⟨k, q1, _⟩; omega)
            conv => whnf
            repeat' first | ((first | refine JoinVC.mk (normal1F ps ((sortN nodes).getD i default)) ?_ ?_ | refine Bt ?_ | refine Bf ?_ | refine Ni ?_ ?_ | refine Wq ?_ | refine Di ?_ | refine Oi ?_); conv => whnf)
            all_goals try simp only [Int.toNat_natCast, q3, List.length_nil]
            all_goals first | exact Lf | exact row_nil
          · rintro z rfl
            have hmap : acc ++ [normal1F ps ((sortN nodes).getD i default)] = ((sortN nodes).take (i + 1)).map (normal1F ps) := by
              rw [take_snoc hlt0, List.map_append, ha]; rfl
            conv => whnf
            repeat' first | ((first | refine NextVC.mk (i + 1, acc ++ [normal1F ps ((sortN nodes).getD i default)]) ?_ ?_ ?_ | refine Bt ?_ | refine Bf ?_ | refine Ni ?_ ?_ | refine Wq ?_ | refine Di ?_ | refine Oi ?_); conv => whnf) | (refine bc_intro (fun _ => ?_) (fun _ => ?_) <;> (conv => whnf))
            all_goals try simp only [cP, bP]
            all_goals first | exact Lf | exact DLe.of_eq (by rw [hsi]) | exact ⟨trivial, by omega, by omega⟩ | exact ⟨by omega, hmap⟩ | exact famPR_push (by omega) rfl rfl (RowLe.refl _ _ _) (RowLe.refl _ _ _) | exact getPP_push hlen.symm rfl rfl rfl rfl rfl rfl rfl
        all_goals first | omega | exact ⟨by simp only; omega, by simp only; omega⟩
      · have hlt0 : (sortN nodes).length ≤ i := by simpa using hlt
        have e : acc = normalF nodes ps := by rw [ha, take_ge hlt0]; rfl
        have e2 : i = nodes.length := by omega
        subst e e2
        conv => whnf
        repeat' first | ((first | refine Bt ?_ | refine Bf ?_ | refine Ni ?_ ?_ | refine Wq ?_ | refine Di ?_ | refine Oi ?_); conv => whnf) | (refine bc_intro (fun _ => ?_) (fun _ => ?_) <;> (conv => whnf))
        all_goals first | exact Lf
  all_goals first | exact ⟨hS.r, hl⟩ | exact hS
theorem normal_d {nodes : List NodeT} {ps : List PeerT} : (Sml nodes ∧ PrsB ps) → Sx.Spec Tryz.prog GG 19 [.d (encL encN 3 nodes), .d (encL encP 5 ps)] [] (.d (encL encP 5 (normalF nodes ps))) [] := fun h => by
  have hlen := normal_len (nodes := nodes) (ps := ps)
  have := Spec.pubNest (post0 := []) (pre := []) (m := 2000) (fn := 900000) (normal0 h) rfl (fun i j hi hj => (famPR_cell (by rw [hlen]; exact hi) hj).1) (by simp) (by simp [pubV, Nat.beq_refl, inS])
  simp only [pubV, Nat.beq_refl] at this
  refine this.res (LeS.d (DLe.rows hlen.symm ⟨fun i j hi hj => ?_⟩)) (by simp [inS])
  rw [Nat.zero_add]
  exact (famPR_cell hi hj).2
end Go.Proofs.YtiadnhbclipmhaaGreatDoor
