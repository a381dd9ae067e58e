/- Contracts of functions that the law reaches: YtiadnhbclipmhaaGreatDoorTP23. Written for this claim. -/
import Derived.Test.YtiadnhbclipmhaaGreatDoorTP21
namespace Go.Proofs.YtiadnhbclipmhaaGreatDoor
open Go Go.Sx Go.ChangeShapes Go.WideShapes Go.ChangeAt Go.RowKit
set_option linter.unusedVariables false
set_option linter.unusedSimpArgs false
set_option maxRecDepth 100000
theorem ref6Same_spec (a b : List LkdT) : (LksB a ∧ LksB b) → Sx.Spec Tryz.prog GG 13 [.d (encL encLk 2 a), .d (encL encLk 2 b)] [] (.d (.bool (decide (a = b)))) [] := by
  rintro ⟨hA, hB⟩
  have ha := hA.len
  have hb := hB.len
  by_cases hl : a.length = b.length
  · refine spec_intro (E := EE) (fn := Tryz.f13) eok (by kernel_rfl) (by kernel_rfl) Tryz.call13 (by kernel_rfl) (by kernel_rfl) ?_
    have hc1 : ((a.length : Int) != (b.length : Int)) = false := by simp [hl]
    have hc1' : (!((a.length : Int) == (b.length : Int))) = false := by simp [hl]
    conv => whnf
    repeat' first | ((first | refine Bt ?_ | refine Bf ?_ | refine Ni ?_ ?_ | refine Wq ?_ | refine Di ?_ | refine Oi ?_); conv => whnf)
    refine loop_auto [0, 0 + 1] [] (fun i : Nat => [(5, .d (.int .i64 i))]) (fun _ => []) (fun i => i ≤ a.length ∧ decide (a = b) = decide (a.drop i = b.drop i)) (fun i => a.length - i) 0 ?_ (fun i hi => ?_) ⟨Nat.zero_le _, by simp⟩
    · conv => whnf
      repeat' first | ((first | refine Bt ?_ | refine Bf ?_ | refine Ni ?_ ?_ | refine Wq ?_ | refine Di ?_ | refine Oi ?_); conv => whnf) | (refine bc_intro (fun _ => ?_) (fun _ => ?_) <;> (conv => whnf))
      all_goals try first | exact Lq
    · obtain ⟨h1, h2⟩ := hi
      conv => whnf
      refine bc_intro (fun hlt => ?_) (fun hlt => ?_)
      · have hlt0 : i < a.length := by simpa using hlt
        have hlb : i < b.length := by omega
        have e1 : IntKind.i64.wrap ((i : Int) + 1) = ((i + 1 : Nat) : Int) := wrap_succ (n := 1000) (by omega) (by omega)
        have hst := eq_stepA hlt0 hlb
        rw [lkd_eq] at hst
        rw [hst] at h2
        have hxa := hA.at hlt0
        have hxb := hB.at hlb
        obtain ⟨A, hAe⟩ : ∃ A, A = (a.getD i default).levels := ⟨_, rfl⟩
        obtain ⟨B, hBe⟩ : ∃ B, B = (b.getD i default).levels := ⟨_, rfl⟩
        rw [← hAe] at hxa h2
        rw [← hBe] at hxb h2
        by_cases hid : (a.getD i default).id = (b.getD i default).id
        · have hid1 : (!((a.getD (i : Int).toNat default).id == (b.getD (i : Int).toNat default).id)) = false := by simp only [Int.toNat_natCast]; simp only [hid]; simp
          have hid2 : ((a.getD (i : Int).toNat default).id != (b.getD (i : Int).toNat default).id) = false := hid1
          rw [show ((a.getD i default).id == (b.getD i default).id) = true by simpa using hid, Bool.true_and] at h2
          by_cases hll : A.length = B.length
          · have hll1 : (!(((a.getD (i : Int).toNat default).levels.length : Int) == ((b.getD (i : Int).toNat default).levels.length : Int))) = false := by simp only [Int.toNat_natCast, ← hAe, ← hBe, hll]; simp
            have hll2 : (((a.getD (i : Int).toNat default).levels.length : Int) != ((b.getD (i : Int).toNat default).levels.length : Int)) = false := hll1
            conv => whnf
            repeat' first | ((first | refine Bt ?_ | refine Bf ?_ | refine Ni ?_ ?_ | refine Wq ?_ | refine Di ?_ | refine Oi ?_); conv => whnf)
            · refine loop_auto [0, 0 + 1, 5] [] (fun j : Nat => [(6, .d (.int .i64 j))]) (fun _ => []) (fun j => j ≤ A.length ∧ decide (A = B) = decide (A.drop j = B.drop j)) (fun j => A.length - j) 0 ?_ (fun j hj => ?_) ⟨Nat.zero_le _, by simp⟩
              · conv => whnf
                repeat' first | ((first | refine Bt ?_ | refine Bf ?_ | refine Ni ?_ ?_ | refine Wq ?_ | refine Di ?_ | refine Oi ?_); conv => whnf) | (refine bc_intro (fun _ => ?_) (fun _ => ?_) <;> (conv => whnf))
                all_goals try first | exact Lq
              · obtain ⟨g1, g2⟩ := hj
                conv => whnf
                repeat' first | ((first | refine Bt ?_ | refine Bf ?_ | refine Ni ?_ ?_ | refine Wq ?_ | refine Di ?_ | refine Oi ?_); conv => whnf)
                · refine bc_intro (fun hjt => ?_) (fun hjt => ?_)
                  · have hjt0 : j < A.length := by rw [decide_eq_true_eq] at hjt; simp only [Int.toNat_natCast, ← hAe] at hjt; omega
                    have hjb : j < B.length := by omega
                    have e2 : IntKind.i64.wrap ((j : Int) + 1) = ((j + 1 : Nat) : Int) := wrap_succ (n := 1000) (by omega) (by omega)
                    have hst2 := eq_stepA hjt0 hjb
                    rw [link_eq] at hst2
                    cases hq : ((A.getD j default).left == (B.getD j default).left && (A.getD j default).right == (B.getD j default).right) with
                    | true =>
                      rw [hq, Bool.true_and] at hst2
                      have hq1 : (!((((a.getD (i : Int).toNat default).levels.getD (j : Int).toNat default).left == ((b.getD (i : Int).toNat default).levels.getD (j : Int).toNat default).left) && (((a.getD (i : Int).toNat default).levels.getD (j : Int).toNat default).right == ((b.getD (i : Int).toNat default).levels.getD (j : Int).toNat default).right))) = false := by
                        simp only [Int.toNat_natCast, ← hAe, ← hBe, hq]; rfl
                      conv => whnf
                      repeat' first | ((first | refine NextVC.mk (j + 1) ?_ ?_ ?_ | refine Bt ?_ | refine Bf ?_ | refine Ni ?_ ?_ | refine Wq ?_ | refine Di ?_ | refine Oi ?_); conv => whnf)
                      all_goals try simp only [Int.toNat_natCast, e2, ← hAe, ← hBe]
                      all_goals first | exact Lf | exact ⟨by omega, by omega⟩ | exact ⟨by omega, by rw [g2, hst2]⟩
                    | false =>
                      rw [hq, Bool.false_and] at hst2
                      have hq1 : (!((((a.getD (i : Int).toNat default).levels.getD (j : Int).toNat default).left == ((b.getD (i : Int).toNat default).levels.getD (j : Int).toNat default).left) && (((a.getD (i : Int).toNat default).levels.getD (j : Int).toNat default).right == ((b.getD (i : Int).toNat default).levels.getD (j : Int).toNat default).right))) = true := by
                        simp only [Int.toNat_natCast, ← hAe, ← hBe, hq]; rfl
                      rw [g2, hst2, Bool.false_and] at h2
                      rw [h2]
                      conv => whnf
                      repeat' first | ((first | refine Bt ?_ | refine Bf ?_ | refine Ni ?_ ?_ | refine Wq ?_ | refine Di ?_ | refine Oi ?_); conv => whnf)
                      all_goals try simp only [Int.toNat_natCast, ← hAe, ← hBe]
                      all_goals first | exact ⟨LeS.refl _, trivial⟩ | exact ⟨by omega, by omega⟩
                  · have hjt0 : A.length ≤ j := by rw [decide_eq_false_iff_not] at hjt; simp only [Int.toNat_natCast, ← hAe] at hjt; omega
                    rw [g2, eq_endA hjt0 (by omega), Bool.true_and] at h2
                    conv => whnf
                    repeat' first | ((first | refine NextVC.mk (i + 1) ?_ ?_ ?_ | refine Bt ?_ | refine Bf ?_ | refine Ni ?_ ?_ | refine Wq ?_ | refine Di ?_ | refine Oi ?_); conv => whnf)
                    all_goals try simp only [Int.toNat_natCast, e1]
                    all_goals first | exact Lf | exact ⟨by omega, by omega⟩ | exact ⟨by omega, h2⟩
                all_goals exact ⟨by omega, by omega⟩
            all_goals first | exact ⟨by omega, by omega⟩
          · have hll1 : (!(((a.getD (i : Int).toNat default).levels.length : Int) == ((b.getD (i : Int).toNat default).levels.length : Int))) = true := by simp only [Int.toNat_natCast, ← hAe, ← hBe]; simp; omega
            have hll2 : (((a.getD (i : Int).toNat default).levels.length : Int) != ((b.getD (i : Int).toNat default).levels.length : Int)) = true := hll1
            rw [show decide (A = B) = false by simp; rintro rfl; exact hll rfl, Bool.false_and] at h2
            rw [h2]
            conv => whnf
            repeat' first | ((first | refine Bt ?_ | refine Bf ?_ | refine Ni ?_ ?_ | refine Wq ?_ | refine Di ?_ | refine Oi ?_); conv => whnf)
            all_goals first | exact ⟨LeS.refl _, trivial⟩ | exact ⟨by omega, by omega⟩
        · have hid1 : (!((a.getD (i : Int).toNat default).id == (b.getD (i : Int).toNat default).id)) = true := by simp only [Int.toNat_natCast]; simpa using hid
          have hid2 : ((a.getD (i : Int).toNat default).id != (b.getD (i : Int).toNat default).id) = true := hid1
          rw [show ((a.getD i default).id == (b.getD i default).id) = false by simpa using hid, Bool.false_and, Bool.false_and] at h2
          rw [h2]
          conv => whnf
          repeat' first | ((first | refine Bt ?_ | refine Bf ?_ | refine Ni ?_ ?_ | refine Wq ?_ | refine Di ?_ | refine Oi ?_); conv => whnf)
          all_goals first | exact ⟨LeS.refl _, trivial⟩ | exact ⟨by omega, by omega⟩
      · have hlt0 : a.length ≤ i := by simpa using hlt
        rw [h2, eq_endA hlt0 (by omega)]
        conv => whnf
        repeat' first | ((first | refine Bt ?_ | refine Bf ?_ | refine Ni ?_ ?_ | refine Wq ?_ | refine Di ?_ | refine Oi ?_); conv => whnf)
        all_goals first | exact ⟨LeS.refl _, trivial⟩
  · have hne : decide (a = b) = false := by simp; rintro rfl; exact hl rfl
    have hc1 : ((a.length : Int) != (b.length : Int)) = true := by simp; omega
    have hc1' : (!((a.length : Int) == (b.length : Int))) = true := by simp; omega
    rw [hne]
    refine spec_intro (E := EE) (fn := Tryz.f13) eok (by kernel_rfl) (by kernel_rfl) Tryz.call13 (by kernel_rfl) (by kernel_rfl) ?_
    conv => whnf
    repeat' first | ((first | refine Bt ?_ | refine Bf ?_ | refine Ni ?_ ?_ | refine Wq ?_ | refine Di ?_ | refine Oi ?_); conv => whnf)
    all_goals first | exact ⟨LeS.refl _, trivial⟩
end Go.Proofs.YtiadnhbclipmhaaGreatDoor

namespace Go.Proofs.YtiadnhbclipmhaaGreatDoor
open Go Go.Sx Go.ChangeShapes Go.WideShapes Go.ChangeAt Go.RowKit
set_option linter.unusedVariables false
set_option linter.unusedSimpArgs false
set_option maxRecDepth 100000
theorem ids5_spec (l : List NodeT) : l.length ≤ 1000 → Sx.Spec Tryz.prog GG 74 [.d (encL encN 3 l)] [] (.osl 2000 1 0 l.length) [(2000, .row 3 1 l.length (cellOf encZ (l.map (·.id))))] := by
  intro hl
  have cZ : Tryz.prog.cellsOf 3 = 1 := by kernel_rfl
  have bZ : Tryz.prog.bytesOf 3 = 8 := by kernel_rfl
  refine spec_intro (E := EE) (fn := Tryz.f74) eok (by kernel_rfl) (by kernel_rfl) Tryz.call74 (by kernel_rfl) (by kernel_rfl) ?_
  conv => whnf
  repeat' first | ((first | refine Bt ?_ | refine Bf ?_ | refine Ni ?_ ?_ | refine Wq ?_ | refine Di ?_ | refine Oi ?_); conv => whnf)
  refine loop_auto [0] [] (fun i : Nat => [(4, .d (.int .i64 i)), (3, .osl 2000 1 0 i)]) (fun i => [(2000, .row 3 1 i (cellOf encZ ((l.take i).map (·.id))))]) (fun i => i ≤ l.length) (fun i => l.length - i) 0 ?_ (fun i hi => ?_) (Nat.zero_le _)
  · conv => whnf
    repeat' first | ((first | refine Bt ?_ | refine Bf ?_ | refine Ni ?_ ?_ | refine Wq ?_ | refine Di ?_ | refine Oi ?_); conv => whnf) | (refine bc_intro (fun _ => ?_) (fun _ => ?_) <;> (conv => whnf))
    all_goals try first | exact Lq
    all_goals exact row_nil
  · conv => whnf
    refine bc_intro (fun hlt => ?_) (fun hlt => ?_)
    · have hlt0 : i < l.length := by simpa using hlt
      have hw1 : IntKind.i64.wrap ((i : Int) + 1) = ((i + 1 : Nat) : Int) := wrap_succ (n := 1000) (by omega) (by omega)
      have htl : i = ((l.take i).map (·.id)).length := by rw [List.length_map, List.length_take]; omega
      conv => whnf
      repeat' first | ((first | refine NextVC.mk (i + 1) ?_ ?_ ?_ | refine Bt ?_ | refine Bf ?_ | refine Ni ?_ ?_ | refine Wq ?_ | refine Di ?_ | refine Oi ?_); conv => whnf)
      all_goals try simp only [hw1, cZ, bZ, Int.toNat_natCast]
      all_goals first
        | exact Lf | exact ⟨trivial, by omega, by omega⟩ | exact ⟨by omega, by omega⟩
        | (rw [take_snoc hlt0, List.map_append]; exact row_snoc htl (RowLe.refl _ _ _) (jlt1 (DLe.of_eq rfl)))
    · have hlt0 : l.length ≤ i := by simpa using hlt
      have e0 : i = l.length := by omega
      subst e0
      rw [take_ge (Nat.le_refl _)]
      conv => whnf
      repeat' first | ((first | refine Bt ?_ | refine Bf ?_ | refine Ni ?_ ?_ | refine Wq ?_ | refine Di ?_ | refine Oi ?_); conv => whnf)
      all_goals first | exact Lf | exact RowLe.refl _ _ _
theorem ids5_d (l : List NodeT) : l.length ≤ 1000 → Sx.Spec Tryz.prog GG 74 [.d (encL encN 3 l)] [] (.d (encL encZ 1 (l.map (·.id)))) [] := fun h => by
  have := (ids5_spec l h).pub1
  simpa [encL] using this
theorem has5_spec (l : List Int) (n : Int) : l.length ≤ 1000000 → Sx.Spec Tryz.prog GG 117 [.d (encL encZ 1 l), .d (.int .i64 n)] [] (.d (.bool (l.any fun y => y == n))) [] := by
  intro hl
  refine spec_intro (E := EE) (fn := Tryz.f117) eok (by kernel_rfl) (by kernel_rfl) Tryz.call117 (by kernel_rfl) (by kernel_rfl) ?_
  conv => whnf
  repeat' first | ((first | refine Bt ?_ | refine Bf ?_ | refine Ni ?_ ?_ | refine Wq ?_ | refine Di ?_ | refine Oi ?_); conv => whnf) | (refine bc_intro (fun _ => ?_) (fun _ => ?_) <;> (conv => whnf))
  refine loop_auto [0, 0 + 1] [] (fun i : Nat => [(5, .d (.int .i64 i))]) (fun _ => []) (fun i => i ≤ l.length ∧ (l.any fun y => y == n) = ((l.drop i).any fun y => y == n)) (fun i => l.length - i) 0 ?_ (fun i hi => ?_) ⟨Nat.zero_le _, by simp⟩
  · conv => whnf
    repeat' first | ((first | refine Bt ?_ | refine Bf ?_ | refine Ni ?_ ?_ | refine Wq ?_ | refine Di ?_ | refine Oi ?_); conv => whnf) | (refine bc_intro (fun _ => ?_) (fun _ => ?_) <;> (conv => whnf))
    all_goals try first | exact Lq
  · obtain ⟨h1, h2⟩ := hi
    conv => whnf
    refine bc_intro (fun hlt => ?_) (fun hlt => ?_)
    · have hlt0 : i < l.length := by simpa using hlt
      have hw1 : IntKind.i64.wrap ((i : Int) + 1) = ((i + 1 : Nat) : Int) := wrap_succ (n := 10000000) (by omega) (by omega)
      rw [drop_step hlt0, List.any_cons] at h2
      cases hq : (l.getD i default == n) with
      | true =>
        have hq1 : (l.getD (i : Int).toNat default == n) = true := hq
        rw [hq, Bool.true_or] at h2
        rw [h2]
        conv => whnf
        repeat' first | ((first | refine Bt ?_ | refine Bf ?_ | refine Ni ?_ ?_ | refine Wq ?_ | refine Di ?_ | refine Oi ?_); conv => whnf)
        all_goals first | exact ⟨LeS.refl _, trivial⟩ | exact ⟨by omega, by omega⟩
      | false =>
        have hq1 : (l.getD (i : Int).toNat default == n) = false := hq
        rw [hq, Bool.false_or] at h2
        conv => whnf
        repeat' first | ((first | refine NextVC.mk (i + 1) ?_ ?_ ?_ | refine Bt ?_ | refine Bf ?_ | refine Ni ?_ ?_ | refine Wq ?_ | refine Di ?_ | refine Oi ?_); conv => whnf)
        all_goals try simp only [hw1]
        all_goals first | exact Lf | exact ⟨by omega, by omega⟩ | exact ⟨by omega, h2⟩
    · have hlt0 : l.length ≤ i := by simpa using hlt
      rw [h2, List.drop_eq_nil_of_le hlt0]
      conv => whnf
      repeat' first | ((first | refine Bt ?_ | refine Bf ?_ | refine Ni ?_ ?_ | refine Wq ?_ | refine Di ?_ | refine Oi ?_); conv => whnf)
      all_goals first | exact ⟨LeS.refl _, trivial⟩
def nums1 (r : NearT) : List Int := [r.l0, r.l1, r.r0, r.r1]
def numsF (p : PeerT) : List Int := p.known ++ [p.left, p.right] ++ p.near.flatMap nums1
theorem tab2 {f : Nat → Nat → D} {x y : Int} : RowLe [x, y].length 1 (tabF f [(0, [D.int .i64 x]), (1, [D.int .i64 y])]) (cellOf encZ [x, y]) := ⟨fun i j hi hj =>
  match i, j, hi, hj with
  | 0, 0, _, _ => DLe.refl _
  | 1, 0, _, _ => DLe.refl _⟩
theorem tab4 {f : Nat → Nat → D} {r : NearT} : RowLe (nums1 r).length 1 (tabF f [(0, [D.int .i64 r.l0]), (1, [D.int .i64 r.l1]), (2, [D.int .i64 r.r0]), (3, [D.int .i64 r.r1])]) (cellOf encZ (nums1 r)) := ⟨fun i j hi hj =>
  match i, j, hi, hj with
  | 0, 0, _, _ => DLe.refl _
  | 1, 0, _, _ => DLe.refl _
  | 2, 0, _, _ => DLe.refl _
  | 3, 0, _, _ => DLe.refl _⟩
theorem numbers_spec (p : PeerT) : PrB p → Sx.Spec Tryz.prog GG 93 [peerS p] [] (.osl 2000 1 0 (numsF p).length) [(2000, .row 3 1 (numsF p).length (cellOf encZ (numsF p)))] := by
  intro hP
  have hk := hP.known
  have hn := hP.near
  have cZ : Tryz.prog.cellsOf 3 = 1 := by kernel_rfl
  have bZ : Tryz.prog.bytesOf 3 = 8 := by kernel_rfl
  refine spec_intro (E := EE) (fn := Tryz.f93) eok (by kernel_rfl) (by kernel_rfl) Tryz.call93 (by kernel_rfl) (by kernel_rfl) ?_
  conv => whnf
  repeat' first | ((first | refine Bt ?_ | refine Bf ?_ | refine Ni ?_ ?_ | refine Wq ?_ | refine Di ?_ | refine Oi ?_); conv => whnf)
  · refine loop_auto [1] [1] (fun x : Nat × List Int => [(4, .d (.int .i64 x.1)), (3, .osl 2000 1 0 x.2.length)]) (fun x => [(2000, .row 3 1 x.2.length (cellOf encZ x.2))])
      (fun x => (x.1 ≤ p.near.length ∧ x.2.length = p.known.length + 2 + 4 * x.1) ∧ x.2 = p.known ++ [p.left, p.right] ++ (p.near.take x.1).flatMap nums1) (fun x => p.near.length - x.1) (0, p.known ++ [p.left, p.right]) ?_ (fun x hx => ?_) ⟨⟨Nat.zero_le _, by simp⟩, by simp⟩
    · conv => whnf
      repeat' first | ((first | refine Bt ?_ | refine Bf ?_ | refine Ni ?_ ?_ | refine Wq ?_ | refine Di ?_ | refine Oi ?_); conv => whnf) | (refine bc_intro (fun _ => ?_) (fun _ => ?_) <;> (conv => whnf))
      all_goals try first | exact Lq
      all_goals try simp only [cZ, List.length_append, List.length_cons, List.length_nil]
      all_goals first | exact ⟨trivial, trivial, trivial⟩ | exact row_append rfl (RowLe.refl _ _ _) tab2
    · obtain ⟨i, L⟩ := x
      obtain ⟨⟨h1, h2⟩, h3⟩ := hx
      simp only at h1 h2 h3
      conv => whnf
      refine bc_intro (fun hlt => ?_) (fun hlt => ?_)
      · have hlt0 : i < p.near.length := by simpa using hlt
        have hw1 : IntKind.i64.wrap ((i : Int) + 1) = ((i + 1 : Nat) : Int) := wrap_succ (n := 10000) (by omega) (by omega)
        conv => whnf
        repeat' first | ((first | refine NextVC.mk (i + 1, L ++ nums1 (p.near.getD i default)) ?_ ?_ ?_ | refine Bt ?_ | refine Bf ?_ | refine Ni ?_ ?_ | refine Wq ?_ | refine Di ?_ | refine Oi ?_); conv => whnf)
        all_goals try simp only [hw1, cZ, bZ, Int.toNat_natCast]
        all_goals first
          | exact Lf | exact ⟨by omega, by omega⟩ | exact ⟨trivial, by omega, by omega⟩ | exact ⟨trivial, trivial, by rw [List.length_append]; rfl⟩ | exact ⟨⟨by omega, by rw [List.length_append, h2]; show _ + 4 = _; omega⟩, by rw [take_snoc hlt0, List.flatMap_append, ← List.append_assoc, ← h3]; simp⟩
          | (rw [List.length_append]; exact row_append rfl (RowLe.refl _ _ _) tab4)
      · have hlt0 : p.near.length ≤ i := by simpa using hlt
        rw [take_ge hlt0] at h3
        have e : L = numsF p := h3
        subst e
        conv => whnf
        repeat' first | ((first | refine Bt ?_ | refine Bf ?_ | refine Ni ?_ ?_ | refine Wq ?_ | refine Di ?_ | refine Oi ?_); conv => whnf)
        all_goals first | exact Lf | exact RowLe.refl _ _ _
  all_goals try simp only [cZ, bZ]
  all_goals first | exact ⟨by omega, by omega⟩ | exact ⟨trivial, by omega, by omega⟩
theorem nums_len {p : PeerT} : (numsF p).length = p.known.length + 2 + 4 * p.near.length := by
  have : ∀ (l : List NearT), (l.flatMap nums1).length = 4 * l.length := by
    intro l
    induction l with
    | nil => rfl
    | cons a l ih => rw [List.flatMap_cons, List.length_append, ih, List.length_cons]; show 4 + _ = _; omega
  unfold numsF
  rw [List.length_append, List.length_append, this]; rfl
theorem numbers_d (p : PeerT) : PrB p → Sx.Spec Tryz.prog GG 93 [peerS p] [] (.d (encL encZ 1 (numsF p))) [] := fun h => (numbers_spec p h).pub1
abbrev EP : List Nat := (4000000 + 22) :: (4000000 + 43) :: EE
theorem eokP : EOk Tryz.prog EP := by
  refine ⟨by kernel_rfl, ?_⟩
  intro T hT
  rw [memN_iff, List.mem_cons, List.mem_cons] at hT
  rcases hT with rfl | rfl | hT
  · exact ⟨by kernel_rfl, by kernel_rfl⟩
  · exact ⟨by kernel_rfl, by kernel_rfl⟩
  · exact eok.2 T (memN_iff.2 hT)
theorem copy_spec (p : PeerT) : PrB p → Sx.Spec Tryz.prog GG 94 [peerS p] [] (peerS p) [] := by
  intro hP
  have hk := hP.known
  have hn := hP.near
  have bZ : Tryz.prog.bytesOf 3 = 8 := by kernel_rfl
  have bR : Tryz.prog.bytesOf 58 = 32 := by kernel_rfl
  refine spec_intro (E := EP) (fn := Tryz.f94) eokP (by kernel_rfl) (by kernel_rfl) Tryz.call94 (by kernel_rfl) (by kernel_rfl) ?_
  conv => whnf
  repeat' first | ((first | refine Bt ?_ | refine Bf ?_ | refine Ni ?_ ?_ | refine Wq ?_ | refine Di ?_ | refine Oi ?_); conv => whnf)
  all_goals try simp only [bZ, bR]
  all_goals first | exact ⟨by omega, by omega⟩ | exact ⟨LeS.agg (LeL.cons (LeS.refl _) (LeL.cons (LeS.d (dle_lit (by kernel_rfl) rfl row_zero)) (LeL.cons (LeS.refl _) (LeL.cons (LeS.refl _) (LeL.cons (LeS.d (dle_lit (by kernel_rfl) rfl row_zero)) LeL.nil))))), trivial⟩
def peerF (ps : List PeerT) (id : Int) : PeerT := (ps.find? fun p => p.id == id).getD ⟨id, [], 0, 0, []⟩
theorem peerF_B {ps : List PeerT} (h : PrsB ps) {id : Int} : PrB (peerF ps id) := by
  unfold peerF
  cases e : ps.find? (fun p => p.id == id) with
  | none => exact ⟨by simp, by simp⟩
  | some p => exact h.ok p (List.mem_of_find?_eq_some e)
theorem peer_spec (ps : List PeerT) (id : Int) : PrsB ps → Sx.Spec Tryz.prog GG 77 [.d (encL encP 5 ps), .d (.int .i64 id)] [] (peerS (peerF ps id)) [] := by
  intro hP
  have hl := hP.len
  refine spec_intro (E := EE) (fn := Tryz.f77) eok (by kernel_rfl) (by kernel_rfl) Tryz.call77 (by kernel_rfl) (by kernel_rfl) ?_
  conv => whnf
  repeat' first | ((first | refine Bt ?_ | refine Bf ?_ | refine Ni ?_ ?_ | refine Wq ?_ | refine Di ?_ | refine Oi ?_); conv => whnf)
  refine loop_auto [0, 0 + 1, 4] [4] (fun i : Nat => [(5, .d (.int .i64 i))]) (fun _ => []) (fun i => i ≤ ps.length ∧ peerF ps id = peerF (ps.drop i) id) (fun i => ps.length - i) 0 ?_ (fun i hi => ?_) ⟨Nat.zero_le _, by simp⟩
  · conv => whnf
    repeat' first | ((first | refine Bt ?_ | refine Bf ?_ | refine Ni ?_ ?_ | refine Wq ?_ | refine Di ?_ | refine Oi ?_); conv => whnf) | (refine bc_intro (fun _ => ?_) (fun _ => ?_) <;> (conv => whnf))
    all_goals try first | exact Lq
  · obtain ⟨h1, h2⟩ := hi
    conv => whnf
    refine bc_intro (fun hlt => ?_) (fun hlt => ?_)
    · have hlt0 : i < ps.length := by simpa using hlt
      have hw1 : IntKind.i64.wrap ((i : Int) + 1) = ((i + 1 : Nat) : Int) := wrap_succ (n := 10000) (by omega) (by omega)
      have hpB := hP.at hlt0
      cases hq : ((ps.getD i default).id == id) with
      | true =>
        have hq1 : ((ps.getD (i : Int).toNat default).id == id) = true := hq
        have h3 : peerF ps id = ps.getD i default := by rw [h2, drop_step hlt0]; unfold peerF; rw [List.find?_cons, hq]; rfl
        rw [h3]
        conv => whnf
        repeat' first | ((first | refine Cf (copy_spec _) ?_ ?_ | refine Bt ?_ | refine Bf ?_ | refine Ni ?_ ?_ | refine Wq ?_ | refine Di ?_ | refine Oi ?_); conv => whnf)
        all_goals first | exact ⟨LeS.refl _, trivial⟩ | exact ⟨by omega, by omega⟩ | exact hpB
      | false =>
        have hq1 : ((ps.getD (i : Int).toNat default).id == id) = false := hq
        have h3 : peerF ps id = peerF (ps.drop (i + 1)) id := by rw [h2, drop_step hlt0]; unfold peerF; rw [List.find?_cons, hq]
        conv => whnf
        repeat' first | ((first | refine NextVC.mk (i + 1) ?_ ?_ ?_ | refine Bt ?_ | refine Bf ?_ | refine Ni ?_ ?_ | refine Wq ?_ | refine Di ?_ | refine Oi ?_); conv => whnf)
        all_goals try simp only [hw1]
        all_goals first | exact Lf | exact ⟨by omega, by omega⟩ | exact ⟨by omega, h3⟩
    · have hlt0 : ps.length ≤ i := by simpa using hlt
      have h3 : peerF ps id = ⟨id, [], 0, 0, []⟩ := by rw [h2, List.drop_eq_nil_of_le hlt0]; rfl
      rw [h3]
      conv => whnf
      repeat' first | ((first | refine Bt ?_ | refine Bf ?_ | refine Ni ?_ ?_ | refine Wq ?_ | refine Di ?_ | refine Oi ?_); conv => whnf)
      all_goals first | exact ⟨LeS.agg (LeL.cons (LeS.refl _) (LeL.cons (LeS.d DLe.nil) (LeL.cons (LeS.refl _) (LeL.cons (LeS.refl _) (LeL.cons (LeS.d DLe.nil) LeL.nil))))), trivial⟩
end Go.Proofs.YtiadnhbclipmhaaGreatDoor

namespace Go.Proofs.YtiadnhbclipmhaaGreatDoor
open Go Go.Sx Go.ChangeShapes Go.WideShapes Go.ChangeAt Go.RowKit
set_option linter.unusedVariables false
set_option linter.unusedSimpArgs false
set_option maxRecDepth 100000
theorem ins_get {α : Type} [Inhabited α] {L : List α} {x : α} {k a : Nat} (h : k ≤ L.length) : (L.take k ++ x :: L.drop k).getD a default = if a < k then L.getD a default else if a = k then x else L.getD (a - 1) default := by
  have ht : (L.take k).length = k := by rw [List.length_take]; omega
  by_cases h1 : a < k
  · rw [if_pos h1]; simp only [List.getD]; rw [List.getElem?_append_left (by omega), List.getElem?_take, if_pos h1]
  · rw [if_neg h1]
    simp only [List.getD]
    rw [List.getElem?_append_right (by omega), ht]
    by_cases h2 : a = k
    · subst h2; simp
    · rw [if_neg h2, show a - k = (a - 1 - k) + 1 by omega, List.getElem?_cons_succ, List.getElem?_drop]
      congr 2; omega
theorem sort5_0 {nodes : List NodeT} : nodes.length ≤ 1000 → ∃ s : List NodeT, (s.length = nodes.length ∧ ∀ x ∈ s, x ∈ nodes) ∧ Sx.Spec Tryz.prog GG 116 [.d (encL encN 3 nodes)] [] (.osl 2000 3 0 nodes.length) [(2000, .row 31 3 nodes.length (cellOf encN s))] := by
  intro hl
  have cN : Tryz.prog.cellsOf 31 = 3 := by kernel_rfl
  have bN : Tryz.prog.bytesOf 31 = 32 := by kernel_rfl
  refine spec_some (E := EE) (fn := Tryz.f116) _ _ _ true eok (by kernel_rfl) (by kernel_rfl) Tryz.call116 (by kernel_rfl) (fun _ => by kernel_rfl) (fun _ => by kernel_rfl) ?_
  conv => whnf
  repeat' first | ((first | refine Bt ?_ | refine Bf ?_ | refine Ni ?_ ?_ | refine Wq ?_ | refine Di ?_ | refine Oi ?_); conv => whnf)
  refine loop_auto [0] [] (fun x : Nat × List NodeT => [(4, .d (.int .i64 x.1)), (3, .osl 2000 3 0 x.1)]) (fun x => [(2000, .row 31 3 x.1 (cellOf encN x.2))]) (fun x => x.1 ≤ nodes.length ∧ x.2.length = x.1 ∧ ∀ y ∈ x.2, y ∈ nodes) (fun x => nodes.length - x.1) (0, []) ?_ (fun x hx => ?_) ⟨Nat.zero_le _, rfl, fun y hy => by cases hy⟩
  · conv => whnf
    repeat' first | ((first | refine Bt ?_ | refine Bf ?_ | refine Ni ?_ ?_ | refine Wq ?_ | refine Di ?_ | refine Oi ?_); conv => whnf) | (refine bc_intro (fun _ => ?_) (fun _ => ?_) <;> (conv => whnf))
    all_goals try first | exact Lq
    all_goals exact row_nil
  · obtain ⟨i, L⟩ := x
    obtain ⟨h1, h2, h3⟩ := hx
    simp only at h1 h2 h3
    conv => whnf
    refine bc_intro (fun hlt => ?_) (fun hlt => ?_)
    · have hlt0 : i < nodes.length := by simpa using hlt
      have hw1 : IntKind.i64.wrap ((i : Int) + 1) = ((i + 1 : Nat) : Int) := wrap_succ (n := 1000) (by omega) (by omega)
      conv => whnf
      repeat' first | ((first | refine Bt ?_ | refine Bf ?_ | refine Ni ?_ ?_ | refine Wq ?_ | refine Di ?_ | refine Oi ?_); conv => whnf)
      refine loop_auto [0, 4, 3] [2000] (fun k : Nat => [(5, .d (.int .i64 k))]) (fun _ => []) (fun k => k ≤ i) (fun k => k) i ?_ (fun k hk => ?_) (Nat.le_refl _)
      · conv => whnf
        repeat' first | ((first | refine Bt ?_ | refine Bf ?_ | refine Ni ?_ ?_ | refine Wq ?_ | refine Di ?_ | refine Oi ?_); conv => whnf) | (refine bc_intro (fun _ => ?_) (fun _ => ?_) <;> (conv => whnf))
        all_goals try first | exact Lq
      · have hw2 : 0 < k → IntKind.i64.wrap ((k : Int) - 1) = ((k - 1 : Nat) : Int) := fun h => by rw [wrap_of (by omega) (by omega)]; omega
        have hw3 : IntKind.i64.wrap ((k : Int) + 1) = ((k + 1 : Nat) : Int) := wrap_succ (n := 1000) (by omega) (by omega)
        have hx := getD_mem2 hlt0
        conv => whnf
        repeat' first | ((first | refine NextVC.mk ((k - 1 : Nat)) ?_ ?_ ?_ | refine NextVC.mk (i + 1, L.take k ++ nodes.getD i default :: L.drop k) ?_ ?_ ?_ | refine Bt ?_ | refine Bf ?_ | refine Ni ?_ ?_ | refine Wq ?_ | refine Di ?_ | refine Oi ?_); conv => whnf) | (refine bc_intro (fun _ => ?_) (fun _ => ?_) <;> (conv => whnf))
        all_goals try simp only [hw1, hw3, cN, bN, Int.toNat_natCast, Nat.zero_add, Option.getD_some, Option.getD_none, decide_eq_true_eq, decide_eq_false_iff_not, gt_iff_lt] at *
        all_goals try rw [hw2 (by omega)] at *
        all_goals try simp only [Int.toNat_natCast] at *
        all_goals first
          | exact Lf | exact ⟨by omega, by omega⟩ | exact ⟨trivial, by omega, by omega⟩ | exact ⟨by omega, by omega, by omega⟩ | exact ⟨trivial, trivial, trivial⟩ | exact DLe.of_eq (by rw [hw2 (by omega)]) | omega
          | (refine ⟨by omega, by simp only [List.length_append, List.length_cons, List.length_take, List.length_drop]; omega, fun y hy => ?_⟩
             rcases List.mem_append.1 hy with hy | hy
             · exact h3 y (List.mem_of_mem_take hy)
             · rcases List.mem_cons.1 hy with rfl | hy
               · exact hx
               · exact h3 y (List.mem_of_mem_drop hy))
          | (refine ⟨fun a c ha hc => ?_⟩
             have hkl : k ≤ L.length := by omega
             simp only [cellOf, ins_get hkl]
             by_cases e1 : a = k
             · subst e1
               simp only [if_true, Nat.lt_irrefl, if_false]
               match c, hc with
               | 0, _ => exact DLe.refl _
               | 1, _ => exact DLe.refl _
               | 2, _ => exact DLe.refl _
             · by_cases e2 : a < k
               · rw [if_neg e1, if_neg (by omega), if_pos (by omega), if_pos e2]; exact DLe.refl _
               · rw [if_neg e1, if_pos ⟨by omega, by omega⟩, if_pos (by omega), if_neg e2, if_neg e1, show k + (a - (k + 1)) = a - 1 by omega]; exact DLe.refl _)
    · have hlt0 : nodes.length ≤ i := by simpa using hlt
      have e0 : i = nodes.length := by omega
      subst e0
      conv => whnf
      repeat' first | ((first | refine Bt ?_ | refine Bf ?_ | refine Ni ?_ ?_ | refine Wq ?_ | refine Di ?_ | refine Oi ?_); conv => whnf)
      refine ⟨L, ⟨h2, h3⟩, ?_⟩
      conv => whnf
      repeat' first | ((first | refine Bt ?_ | refine Bf ?_ | refine Ni ?_ ?_ | refine Wq ?_ | refine Di ?_ | refine Oi ?_); conv => whnf)
      all_goals first | exact Lf | exact RowLe.refl _ _ _
end Go.Proofs.YtiadnhbclipmhaaGreatDoor

namespace Go.Proofs.YtiadnhbclipmhaaGreatDoor
open Go Go.Sx Go.ChangeShapes Go.WideShapes Go.ChangeAt Go.RowKit
set_option linter.unusedVariables false
set_option linter.unusedSimpArgs false
set_option maxRecDepth 100000
def OrdOk (nodes : List NodeT) (l : List Int) (but : Int) (o : List Int) : Prop := ∀ y ∈ o, (∃ x ∈ nodes, x.id = y) ∧ y ≠ but ∧ (l.any fun z => z == y) = true
theorem ordered14_0 {nodes : List NodeT} {l : List Int} {but : Int} : (nodes.length ≤ 1000 ∧ l.length ≤ 100000) → ∃ o : List Int, (o.length ≤ nodes.length ∧ OrdOk nodes l but o) ∧ Sx.Spec Tryz.prog GG 92 [.d (encL encN 3 nodes), .d (encL encZ 1 l), .d (.int .i64 but)] [] (.osl 2000 1 0 o.length) [(2000, .row 3 1 o.length (cellOf encZ o))] := by
  rintro ⟨hl, hl2⟩
  have cZ : Tryz.prog.cellsOf 3 = 1 := by kernel_rfl
  have bZ : Tryz.prog.bytesOf 3 = 8 := by kernel_rfl
  obtain ⟨s, ⟨hs1, hs2⟩, hsp⟩ := sort5_0 hl
  have hsp2 := hsp.new1 3000
  simp only [renS, if_true, renL, renB] at hsp2
  refine spec_some (E := EE) (fn := Tryz.f92) _ _ _ true eok (by kernel_rfl) (by kernel_rfl) Tryz.call92 (by kernel_rfl) (fun _ => by kernel_rfl) (fun _ => by kernel_rfl) ?_
  conv => whnf
  repeat' first | ((first | refine Ci hsp2 ?_ | refine Bt ?_ | refine Bf ?_ | refine Ni ?_ ?_ | refine Wq ?_ | refine Di ?_ | refine Oi ?_); conv => whnf)
  refine loop_auto [0 + 1, 0 + 1 + 1, 8] [3000] (fun x : Nat × List Int => [(9, .d (.int .i64 x.1)), (7, .osl 2000 1 0 x.2.length)]) (fun x => [(2000, .row 3 1 x.2.length (cellOf encZ x.2))]) (fun x => x.1 ≤ nodes.length ∧ x.2.length ≤ x.1 ∧ OrdOk nodes l but x.2) (fun x => nodes.length - x.1) (0, []) ?_ (fun x hx => ?_) ⟨Nat.zero_le _, Nat.le_refl _, fun y hy => by cases hy⟩
  · conv => whnf
    repeat' first | ((first | refine Bt ?_ | refine Bf ?_ | refine Ni ?_ ?_ | refine Wq ?_ | refine Di ?_ | refine Oi ?_); conv => whnf) | (refine bc_intro (fun _ => ?_) (fun _ => ?_) <;> (conv => whnf))
    all_goals try first | exact Lq
    all_goals exact row_nil
  · obtain ⟨i, L⟩ := x
    obtain ⟨h1, h2, h3⟩ := hx
    simp only at h1 h2 h3
    conv => whnf
    refine bc_intro (fun hlt => ?_) (fun hlt => ?_)
    · have hlt0 : i < nodes.length := by simpa using hlt
      have hlt1 : i < s.length := by omega
      have hw1 : IntKind.i64.wrap ((i : Int) + 1) = ((i + 1 : Nat) : Int) := wrap_succ (n := 1000) (by omega) (by omega)
      have hm := hs2 _ (getD_mem2 hlt1)
      cases hc1 : ((s.getD i default).id == but) with
      | true =>
        have hq1 : (!((s.getD (0 + (i : Int).toNat) default).id == but)) = false := by rw [Nat.zero_add, Int.toNat_natCast, hc1]; rfl
        have hq2 : ((s.getD (0 + (i : Int).toNat) default).id != but) = false := hq1
        conv => whnf
        repeat' first | ((first | refine NextVC.mk (i + 1, L) ?_ ?_ ?_ | refine Bt ?_ | refine Bf ?_ | refine Ni ?_ ?_ | refine Wq ?_ | refine Di ?_ | refine Oi ?_); conv => whnf)
        all_goals try simp only [hw1, Int.toNat_natCast, Nat.zero_add]
        all_goals first | exact Lf | exact ⟨by omega, by omega⟩ | exact ⟨by omega, by omega, h3⟩
      | false =>
        have hq1 : (!((s.getD (0 + (i : Int).toNat) default).id == but)) = true := by rw [Nat.zero_add, Int.toNat_natCast, hc1]; rfl
        have hq2 : ((s.getD (0 + (i : Int).toNat) default).id != but) = true := hq1
        have hne : (s.getD i default).id ≠ but := by simpa using hc1
        have hhs := has5_spec l (s.getD (0 + (i : Int).toNat) default).id
        cases hc2 : (l.any fun z => z == (s.getD i default).id) with
        | true =>
          have hq3 : (l.any fun z => z == (s.getD (0 + (i : Int).toNat) default).id) = true := by rw [Nat.zero_add, Int.toNat_natCast, hc2]
          rw [hq3] at hhs
          have hq4 : true = true := rfl
          conv => whnf
          repeat' first | ((first | refine Cf (hhs) ?_ ?_ | refine NextVC.mk (i + 1, L ++ [(s.getD i default).id]) ?_ ?_ ?_ | refine Bt ?_ | refine Bf ?_ | refine Ni ?_ ?_ | refine Wq ?_ | refine Di ?_ | refine Oi ?_); conv => whnf)
          all_goals try simp only [hw1, cZ, bZ, Int.toNat_natCast, Nat.zero_add, List.length_append, List.length_singleton]
          all_goals first
            | exact Lf | exact ⟨by omega, by omega⟩ | exact ⟨trivial, by omega, by omega⟩ | omega | exact row_snoc rfl (RowLe.refl _ _ _) (jlt1 (DLe.of_eq rfl))
            | (refine ⟨by omega, by omega, fun y hy => ?_⟩
               rcases List.mem_append.1 hy with hy | hy
               · exact h3 y hy
               · rw [List.mem_singleton.1 hy]; exact ⟨⟨_, hm, rfl⟩, hne, hc2⟩)
        | false =>
          have hq3 : (l.any fun z => z == (s.getD (0 + (i : Int).toNat) default).id) = false := by rw [Nat.zero_add, Int.toNat_natCast, hc2]
          rw [hq3] at hhs
          have hq4 : false = false := rfl
          conv => whnf
          repeat' first | ((first | refine Cf (hhs) ?_ ?_ | refine NextVC.mk (i + 1, L) ?_ ?_ ?_ | refine Bt ?_ | refine Bf ?_ | refine Ni ?_ ?_ | refine Wq ?_ | refine Di ?_ | refine Oi ?_); conv => whnf)
          all_goals try simp only [hw1, Int.toNat_natCast, Nat.zero_add]
          all_goals first | exact Lf | exact ⟨by omega, by omega⟩ | exact ⟨by omega, by omega, h3⟩ | omega
    · have hlt0 : nodes.length ≤ i := by simpa using hlt
      conv => whnf
      repeat' first | ((first | refine Bt ?_ | refine Bf ?_ | refine Ni ?_ ?_ | refine Wq ?_ | refine Di ?_ | refine Oi ?_); conv => whnf)
      refine ⟨L, ⟨by omega, h3⟩, ?_⟩
      conv => whnf
      repeat' first | ((first | refine Bt ?_ | refine Bf ?_ | refine Ni ?_ ?_ | refine Wq ?_ | refine Di ?_ | refine Oi ?_); conv => whnf)
      all_goals first | exact Lf | exact RowLe.refl _ _ _
theorem is5_true {nodes : List NodeT} : Rst nodes → Sx.Spec Tryz.prog GG 35 [.d (encL encN 3 nodes)] [] (.d (.bool true)) [] := fun h => by
  have hl := h.len
  have := is5_spec nodes (by omega)
  rw [checkF_iff.2 h] at this
  exact this
theorem refs14_0 {nodes : List NodeT} {p : PeerT} : (Rst nodes ∧ PrB p) → ∃ o : List Int, (o.length ≤ nodes.length ∧ OrdOk nodes (numsF p) p.id o) ∧ Sx.Spec Tryz.prog GG 76 [.d (encL encN 3 nodes), peerS p] [] (.d (encL encZ 1 o)) [] := by
  rintro ⟨hr, hP⟩
  have hk := hP.known
  have hn := hP.near
  have hl := hr.len
  have hnl := nums_len (p := p)
  obtain ⟨o, ho, hosp⟩ := ordered14_0 (nodes := nodes) (l := numsF p) (but := p.id) ⟨by omega, by omega⟩
  refine ⟨o, ho, ?_⟩
  have hosp2 : Sx.Spec Tryz.prog GG 92 [.d (encL encN 3 nodes), .d (encL encZ 1 (numsF p)), .d (.int .i64 p.id)] [] (.d (encL encZ 1 o)) [] := by
    have := hosp.pub1
    simpa [encL] using this
  obtain ⟨NL, hNL⟩ : ∃ NL, NL = numsF p := ⟨_, rfl⟩
  have hnum := numbers_d p hP
  rw [← hNL] at hosp2 hnum
  refine spec_intro (E := EE) (fn := Tryz.f76) eok (by kernel_rfl) (by kernel_rfl) Tryz.call76 (by kernel_rfl) (by kernel_rfl) ?_
  conv => whnf
  repeat' first | ((first | refine Cf (is5_true) ?_ ?_ | refine Ci hnum ?_ | refine Ci hosp2 ?_ | refine Bt ?_ | refine Bf ?_ | refine Ni ?_ ?_ | refine Wq ?_ | refine Di ?_ | refine Oi ?_); conv => whnf)
  all_goals first | exact ⟨LeS.refl _, trivial⟩ | exact hr
def PairsOk (nodes : List NodeT) (ps : List PeerT) (o : List (Int × Int)) : Prop := ∀ y ∈ o, (∃ x ∈ nodes, x.id = y.1) ∧ (∃ x ∈ nodes, x.id = y.2) ∧ y.2 ≠ (peerF ps y.1).id ∧ ((numsF (peerF ps y.1)).any fun z => z == y.2) = true
theorem pairs14_0 {nodes : List NodeT} {ps : List PeerT} : (Rst nodes ∧ nodes.length ≤ 20 ∧ PrsB ps) → ∃ o : List (Int × Int), (o.length ≤ 400 ∧ PairsOk nodes ps o) ∧ Sx.Spec Tryz.prog GG 46 [.d (encL encN 3 nodes), .d (encL encP 5 ps)] [] (.osl 2000 2 0 o.length) [(2000, .row 138 2 o.length (cellOf encT o))] := by
  rintro ⟨hr, hl, hP⟩
  have cT : Tryz.prog.cellsOf 138 = 2 := by kernel_rfl
  have bT : Tryz.prog.bytesOf 138 = 16 := by kernel_rfl
  refine spec_some (E := EE) (fn := Tryz.f46) _ _ _ true eok (by kernel_rfl) (by kernel_rfl) Tryz.call46 (by kernel_rfl) (fun _ => by kernel_rfl) (fun _ => by kernel_rfl) ?_
  conv => whnf
  repeat' first | ((first | refine Bt ?_ | refine Bf ?_ | refine Ni ?_ ?_ | refine Wq ?_ | refine Di ?_ | refine Oi ?_); conv => whnf)
  refine loop_auto [0, 0 + 1] [] (fun x : Nat × List (Int × Int) => [(6, .d (.int .i64 x.1)), (5, .osl 2000 2 0 x.2.length)]) (fun x => [(2000, .row 138 2 x.2.length (cellOf encT x.2))]) (fun x => x.1 ≤ nodes.length ∧ x.2.length ≤ 20 * x.1 ∧ PairsOk nodes ps x.2) (fun x => nodes.length - x.1) (0, []) ?_ (fun x hx => ?_) ⟨Nat.zero_le _, Nat.le_refl _, fun y hy => by cases hy⟩
  · conv => whnf
    repeat' first | ((first | refine Bt ?_ | refine Bf ?_ | refine Ni ?_ ?_ | refine Wq ?_ | refine Di ?_ | refine Oi ?_); conv => whnf) | (refine bc_intro (fun _ => ?_) (fun _ => ?_) <;> (conv => whnf))
    all_goals try first | exact Lq
    all_goals exact row_nil
  · obtain ⟨i, L⟩ := x
    obtain ⟨h1, h2, h3⟩ := hx
    simp only at h1 h2 h3
    conv => whnf
    refine bc_intro (fun hlt => ?_) (fun hlt => ?_)
    · have hlt0 : i < nodes.length := by simpa using hlt
      have hw1 : IntKind.i64.wrap ((i : Int) + 1) = ((i + 1 : Nat) : Int) := wrap_succ (n := 1000) (by omega) (by omega)
      have hm := getD_mem2 hlt0
      have hpB := peerF_B hP (id := (nodes.getD i default).id)
      obtain ⟨r, ⟨hr1, hr2⟩, hrsp⟩ := refs14_0 ⟨hr, hpB⟩
      have hpsp : Sx.Spec Tryz.prog GG 77 [.d (encL encP 5 ps), .d (.int .i64 (nodes.getD (i : Int).toNat default).id)] [] (peerS (peerF ps (nodes.getD i default).id)) [] := peer_spec ps _ hP
      conv => whnf
      repeat' first | ((first | refine Ci hpsp ?_ | refine Ci hrsp ?_ | refine Bt ?_ | refine Bf ?_ | refine Ni ?_ ?_ | refine Wq ?_ | refine Di ?_ | refine Oi ?_); conv => whnf)
      · refine loop_auto [0, 0 + 1, 6, 7] [] (fun x : Nat × List (Int × Int) => [(8, .d (.int .i64 x.1)), (5, .osl 2000 2 0 x.2.length)]) (fun x => [(2000, .row 138 2 x.2.length (cellOf encT x.2))]) (fun x => x.1 ≤ r.length ∧ x.2.length ≤ 20 * i + x.1 ∧ PairsOk nodes ps x.2) (fun x => r.length - x.1) (0, L) ?_ (fun x hx => ?_) ⟨Nat.zero_le _, by simp only; omega, h3⟩
        · conv => whnf
          repeat' first | ((first | refine Bt ?_ | refine Bf ?_ | refine Ni ?_ ?_ | refine Wq ?_ | refine Di ?_ | refine Oi ?_); conv => whnf) | (refine bc_intro (fun _ => ?_) (fun _ => ?_) <;> (conv => whnf))
          all_goals try first | exact Lq
        · obtain ⟨k, M⟩ := x
          obtain ⟨g1, g2, g3⟩ := hx
          simp only at g1 g2 g3
          conv => whnf
          refine bc_intro (fun hkt => ?_) (fun hkt => ?_)
          · have hkt0 : k < r.length := by simpa using hkt
            have hw2 : IntKind.i64.wrap ((k : Int) + 1) = ((k + 1 : Nat) : Int) := wrap_succ (n := 1000) (by omega) (by omega)
            obtain ⟨q1, q2, q3⟩ := hr2 _ (getD_mem2 hkt0)
            conv => whnf
            repeat' first | ((first | refine NextVC.mk (k + 1, M ++ [((nodes.getD i default).id, r.getD k default)]) ?_ ?_ ?_ | refine Bt ?_ | refine Bf ?_ | refine Ni ?_ ?_ | refine Wq ?_ | refine Di ?_ | refine Oi ?_); conv => whnf)
            all_goals try simp only [hw2, cT, bT, Int.toNat_natCast, List.length_append, List.length_singleton]
            all_goals first
              | exact Lf | exact ⟨by omega, by omega⟩ | exact ⟨trivial, by omega, by omega⟩ | exact row_snoc rfl (RowLe.refl _ _ _) (jlt2 (DLe.of_eq rfl) (DLe.of_eq rfl))
              | (refine ⟨by omega, by omega, fun y hy => ?_⟩
                 rcases List.mem_append.1 hy with hy | hy
                 · exact g3 y hy
                 · rw [List.mem_singleton.1 hy]; exact ⟨⟨_, hm, rfl⟩, q1, q2, q3⟩)
          · have hkt0 : r.length ≤ k := by simpa using hkt
            conv => whnf
            repeat' first | ((first | refine NextVC.mk (i + 1, M) ?_ ?_ ?_ | refine Bt ?_ | refine Bf ?_ | refine Ni ?_ ?_ | refine Wq ?_ | refine Di ?_ | refine Oi ?_); conv => whnf)
            all_goals try simp only [hw1, Int.toNat_natCast]
            all_goals first | exact Lf | exact ⟨by omega, by omega, g3⟩
      all_goals first | exact ⟨by simp only; omega, by simp only; omega⟩
    · have hlt0 : nodes.length ≤ i := by simpa using hlt
      conv => whnf
      repeat' first | ((first | refine Bt ?_ | refine Bf ?_ | refine Ni ?_ ?_ | refine Wq ?_ | refine Di ?_ | refine Oi ?_); conv => whnf)
      refine ⟨L, ⟨by omega, h3⟩, ?_⟩
      conv => whnf
      repeat' first | ((first | refine Bt ?_ | refine Bf ?_ | refine Ni ?_ ?_ | refine Wq ?_ | refine Di ?_ | refine Oi ?_); conv => whnf)
      all_goals first | exact Lf | exact RowLe.refl _ _ _
end Go.Proofs.YtiadnhbclipmhaaGreatDoor
