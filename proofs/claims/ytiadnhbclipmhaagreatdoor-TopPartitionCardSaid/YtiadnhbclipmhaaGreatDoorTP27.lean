/- Contracts of functions that the law reaches: YtiadnhbclipmhaaGreatDoorTP27. Written for this claim. -/
import Derived.Test.YtiadnhbclipmhaaGreatDoorTP23
import Derived.Test.YtiadnhbclipmhaaGreatDoorSxPub2
namespace Go.Proofs.YtiadnhbclipmhaaGreatDoor
open Go Go.Sx Go.ChangeShapes Go.WideShapes Go.ChangeAt Go.RowKit
set_option linter.unusedVariables false
set_option linter.unusedSimpArgs false
set_option maxRecDepth 100000
theorem index7_spec (l : List Int) (n : Int) : l.length ≤ 1000000 → Sx.Spec Tryz.prog GG 75 [.d (encL encZ 1 l), .d (.int .i64 n)] [] (.d (.int .i64 (idxP (fun y => y == n) l 0))) [] := by
  intro hl
  refine spec_intro (E := EE) (fn := Tryz.f75) eok (by kernel_rfl) (by kernel_rfl) Tryz.call75 (by kernel_rfl) (by kernel_rfl) ?_
  conv => whnf
  repeat' first | ((first | refine Bt ?_ | refine Bf ?_ | refine Ni ?_ ?_ | refine Wq ?_ | refine Di ?_ | refine Oi ?_); conv => whnf)
  refine loop_auto [0, 0 + 1] [] (fun i : Nat => [(5, .d (.int .i64 i))]) (fun _ => []) (fun i => i ≤ l.length ∧ idxP (fun y => y == n) l 0 = idxP (fun y => y == n) (l.drop i) i) (fun i => l.length - i) 0 ?_ (fun i hi => ?_) ⟨Nat.zero_le _, by simp⟩
  · conv => whnf
    repeat' first | ((first | refine Bt ?_ | refine Bf ?_ | refine Ni ?_ ?_ | refine Wq ?_ | refine Di ?_ | refine Oi ?_); conv => whnf) | (refine bc_intro (fun _ => ?_) (fun _ => ?_) <;> (conv => whnf))
    all_goals try first | exact Lq
  · obtain ⟨h1, h2⟩ := hi
    conv => whnf
    refine bc_intro (fun hlt => ?_) (fun hlt => ?_)
    · have hlt0 : i < l.length := by simpa using hlt
      have hw1 : IntKind.i64.wrap ((i : Int) + 1) = ((i + 1 : Nat) : Int) := wrap_succ (n := 10000000) (by omega) (by omega)
      rw [idxP_step hlt0] at h2
      cases hq : (l.getD i default == n) with
      | true =>
        have hq1 : (l.getD (i : Int).toNat default == n) = true := hq
        rw [hq] at h2
        rw [h2]
        conv => whnf
        repeat' first | ((first | refine Bt ?_ | refine Bf ?_ | refine Ni ?_ ?_ | refine Wq ?_ | refine Di ?_ | refine Oi ?_); conv => whnf)
        all_goals first | exact ⟨LeS.refl _, trivial⟩ | exact ⟨by omega, by omega⟩
      | false =>
        have hq1 : (l.getD (i : Int).toNat default == n) = false := hq
        rw [hq] at h2
        conv => whnf
        repeat' first | ((first | refine NextVC.mk (i + 1) ?_ ?_ ?_ | refine Bt ?_ | refine Bf ?_ | refine Ni ?_ ?_ | refine Wq ?_ | refine Di ?_ | refine Oi ?_); conv => whnf)
        all_goals try simp only [hw1]
        all_goals first | exact Lf | exact ⟨by omega, by omega⟩ | exact ⟨by omega, by rw [h2]; rfl⟩
    · have hlt0 : l.length ≤ i := by simpa using hlt
      rw [h2, idxP_end hlt0]
      conv => whnf
      repeat' first | ((first | refine Bt ?_ | refine Bf ?_ | refine Ni ?_ ?_ | refine Wq ?_ | refine Di ?_ | refine Oi ?_); conv => whnf)
      all_goals first | exact ⟨LeS.refl _, trivial⟩
theorem row_u0 {n : Nat} : RowLe n 1 (fun _ j => [D.int .i64 0].getD j default) (cellOf encU (List.replicate n 0)) := by
  refine .of_eq fun i j hi hj => ?_
  have hj : j = 0 := by omega
  subst hj
  have e : (List.replicate n (0 : Nat)).getD i default = 0 := by simp [List.getD, hi]
  simp only [cellOf, e]; rfl
theorem row_u1 {n i m : Nat} {LB : List Nat} (hi : i < LB.length) : RowLe n 1 (fun i' j' => if i' = i then if j' < 0 then cellOf encU LB i' j' else if j' < [D.int .i64 (m : Int)].length then [D.int .i64 (m : Int)].getD (j' - 0) default else cellOf encU LB i' j' else cellOf encU LB i' j') (cellOf encU (LB.set i m)) := by
  refine .of_eq fun a j ha hj => ?_
  have hj : j = 0 := by omega
  subst hj
  simp only [cellOf, set_get hi]
  by_cases e : a = i
  · simp only [if_pos e]; rfl
  · simp only [if_neg e]
set_option maxHeartbeats 2000000 in
theorem joined7_0 {nodes : List NodeT} {prs : List (Int × Int)} : (nodes.length ≤ 20 ∧ prs.length ≤ 400) → ∃ o : List (List Int), (o.length ≤ 20 ∧ (o.length ≤ 1 → ∀ S, ClosedS S prs → ∀ x ∈ nodes, ∀ y ∈ nodes, (S x.id ↔ S y.id))) ∧ Sx.Spec Tryz.prog GG 45 [.d (encL encN 3 nodes), .d (encL encT 2 prs)] [] (.osl 2000 1 0 o.length) [(2000, .row 22 1 o.length (cellOf encIs o))] := by
  rintro ⟨hl, hp⟩
  have cZ : Tryz.prog.cellsOf 3 = 1 := by kernel_rfl
  have bZ : Tryz.prog.bytesOf 3 = 8 := by kernel_rfl
  have cS : Tryz.prog.cellsOf 22 = 1 := by kernel_rfl
  have bS : Tryz.prog.bytesOf 22 = 24 := by kernel_rfl
  have hidl : (nodes.map (·.id)).length = nodes.length := List.length_map ..
  have hidsp := ids5_d nodes (by omega)
  obtain ⟨I, hI⟩ : ∃ I, I = nodes.map (·.id) := ⟨_, rfl⟩
  rw [← hI] at hidsp hidl
  refine spec_some (E := EE) (fn := Tryz.f45) _ _ _ true eok (by kernel_rfl) (by kernel_rfl) Tryz.call45 (by kernel_rfl) (fun _ => by kernel_rfl) (fun _ => by kernel_rfl) ?_
  conv => whnf
  repeat' first | ((first | refine Ci hidsp ?_ | refine Bt ?_ | refine Bf ?_ | refine Ni ?_ ?_ | refine Wq ?_ | refine Di ?_ | refine Oi ?_); conv => whnf)
  · refine loop_auto [0 + 1, 5] [] (fun x : Nat × List Nat => [(7, .d (.int .i64 x.1)), (6, .osl 3000 1 0 I.length)]) (fun x => [(3000, .row 3 1 I.length (cellOf encU x.2))]) (fun x => x.1 ≤ I.length ∧ x.2.length = I.length ∧ ∀ k, k < x.1 → x.2.getD k default = k) (fun x => I.length - x.1) (0, List.replicate I.length 0) ?_ (fun x hx => ?_) ⟨Nat.zero_le _, by simp, fun k hk => absurd hk (Nat.not_lt_zero _)⟩
    · conv => whnf
      repeat' first | ((first | refine Bt ?_ | refine Bf ?_ | refine Ni ?_ ?_ | refine Wq ?_ | refine Di ?_ | refine Oi ?_); conv => whnf) | (refine bc_intro (fun _ => ?_) (fun _ => ?_) <;> (conv => whnf))
      all_goals try first | exact Lq
      all_goals exact row_u0
    · obtain ⟨i, LB⟩ := x
      obtain ⟨h1, h2, h3⟩ := hx
      simp only at h1 h2 h3
      conv => whnf
      refine bc_intro (fun hlt => ?_) (fun hlt => ?_)
      · have hlt0 : i < I.length := by simpa using hlt
        have hw1 : IntKind.i64.wrap ((i : Int) + 1) = ((i + 1 : Nat) : Int) := wrap_succ (n := 1000) (by omega) (by omega)
        conv => whnf
        repeat' first | ((first | refine NextVC.mk (i + 1, LB.set i i) ?_ ?_ ?_ | refine Bt ?_ | refine Bf ?_ | refine Ni ?_ ?_ | refine Wq ?_ | refine Di ?_ | refine Oi ?_); conv => whnf)
        all_goals try simp only [hw1, Int.toNat_natCast, Nat.zero_add]
        all_goals first
          | exact Lf | exact ⟨by omega, by omega⟩ | exact row_u1 (by omega)
          | (refine ⟨by omega, by rw [List.length_set]; exact h2, fun k hk => ?_⟩
             rw [set_get (by omega)]
             split
             · rename_i e; exact e.symm
             · exact h3 k (by omega))
      · have hlt0 : I.length ≤ i := by simpa using hlt
        have hLab : LabOk I prs LB := LabOk.init h2 (fun k hk => h3 k (by omega))
        conv => whnf
        repeat' first | ((first | refine Bt ?_ | refine Bf ?_ | refine Ni ?_ ?_ | refine Wq ?_ | refine Di ?_ | refine Oi ?_); conv => whnf)
        refine loop_auto [0 + 1, 5] [] (fun x : Nat × List Nat => [(8, .d (.int .i64 x.1)), (6, .osl 3000 1 0 I.length)]) (fun x => [(3000, .row 3 1 I.length (cellOf encU x.2))]) (fun x => x.1 ≤ I.length ∧ LabOk I prs x.2) (fun x => I.length - x.1) (0, LB) ?_ (fun x hx => ?_) ⟨Nat.zero_le _, hLab⟩
        · conv => whnf
          repeat' first | ((first | refine Bt ?_ | refine Bf ?_ | refine Ni ?_ ?_ | refine Wq ?_ | refine Di ?_ | refine Oi ?_); conv => whnf) | (refine bc_intro (fun _ => ?_) (fun _ => ?_) <;> (conv => whnf))
          all_goals try first | exact Lq
        · obtain ⟨r, LB1⟩ := x
          obtain ⟨g1, g2⟩ := hx
          simp only at g1 g2
          conv => whnf
          refine bc_intro (fun hlt1 => ?_) (fun hlt1 => ?_)
          · have hlt2 : r < I.length := by simpa using hlt1
            have hw1 : IntKind.i64.wrap ((r : Int) + 1) = ((r + 1 : Nat) : Int) := wrap_succ (n := 1000) (by omega) (by omega)
            conv => whnf
            repeat' first | ((first | refine Bt ?_ | refine Bf ?_ | refine Ni ?_ ?_ | refine Wq ?_ | refine Di ?_ | refine Oi ?_); conv => whnf)
            refine loop_auto [0 + 1, 5, 8] [] (fun x : Nat × List Nat => [(9, .d (.int .i64 x.1)), (6, .osl 3000 1 0 I.length)]) (fun x => [(3000, .row 3 1 I.length (cellOf encU x.2))]) (fun x => x.1 ≤ prs.length ∧ LabOk I prs x.2) (fun x => prs.length - x.1) (0, LB1) ?_ (fun x hx => ?_) ⟨Nat.zero_le _, g2⟩
            · conv => whnf
              repeat' first | ((first | refine Bt ?_ | refine Bf ?_ | refine Ni ?_ ?_ | refine Wq ?_ | refine Di ?_ | refine Oi ?_); conv => whnf) | (refine bc_intro (fun _ => ?_) (fun _ => ?_) <;> (conv => whnf))
              all_goals try first | exact Lq
            · obtain ⟨k, LB2⟩ := x
              obtain ⟨f1, f2⟩ := hx
              simp only at f1 f2
              conv => whnf
              refine bc_intro (fun hlt3 => ?_) (fun hlt3 => ?_)
              · have hlt4 : k < prs.length := by simpa using hlt3
                have hw2 : IntKind.i64.wrap ((k : Int) + 1) = ((k + 1 : Nat) : Int) := wrap_succ (n := 1000) (by omega) (by omega)
                have hy := getD_mem2 hlt4
                obtain ⟨y, hye⟩ : ∃ y, y = prs.getD k default := ⟨_, rfl⟩
                have hla := f2.len
                rcases idxP_range (p := fun z => z == (prs.getD k default).1) (xs := I) (f := 0) with ⟨q1, q2⟩ | ⟨a, q1, q2, q3, q4⟩
                · have hsa : Sx.Spec Tryz.prog GG 75 [.d (encL encZ 1 I), .d (.int .i64 (prs.getD (k : Int).toNat default).1)] [] (.d (.int .i64 (-1))) [] := by
                    have := index7_spec I (prs.getD k default).1 (by omega); rw [q1] at this; exact this
                  have hsb : Sx.Spec Tryz.prog GG 75 [.d (encL encZ 1 I), .d (.int .i64 (prs.getD (k : Int).toNat default).2)] [] (.d (.int .i64 (idxP (fun z => z == (prs.getD k default).2) I 0))) [] := index7_spec I _ (by omega)
                  have hc1 : decide ((-1 : Int) ≥ 0) = false := by decide
                  conv => whnf
                  repeat' first | ((first | refine Ci hsa ?_ | refine Ci hsb ?_ | refine NextVC.mk (k + 1, LB2) ?_ ?_ ?_ | refine Bt ?_ | refine Bf ?_ | refine Ni ?_ ?_ | refine Wq ?_ | refine Di ?_ | refine Oi ?_); conv => whnf)
                  all_goals try simp only [hw2]
                  all_goals first | exact Lf | exact ⟨by omega, by omega⟩ | exact ⟨by omega, f2⟩
                · rcases idxP_range (p := fun z => z == (prs.getD k default).2) (xs := I) (f := 0) with ⟨p1, p2⟩ | ⟨b, p1, p2, p3, p4⟩
                  · have hsa : Sx.Spec Tryz.prog GG 75 [.d (encL encZ 1 I), .d (.int .i64 (prs.getD (k : Int).toNat default).1)] [] (.d (.int .i64 (a : Int))) [] := by
                      have := index7_spec I (prs.getD k default).1 (by omega); rw [q1, Nat.zero_add] at this; exact this
                    have hsb : Sx.Spec Tryz.prog GG 75 [.d (encL encZ 1 I), .d (.int .i64 (prs.getD (k : Int).toNat default).2)] [] (.d (.int .i64 (-1))) [] := by
                      have := index7_spec I (prs.getD k default).2 (by omega); rw [p1] at this; exact this
                    have hc1 : decide ((a : Int) ≥ 0) = true := by simp
                    have hc2 : decide ((-1 : Int) ≥ 0) = false := by decide
                    conv => whnf
                    repeat' first | ((first | refine Ci hsa ?_ | refine Ci hsb ?_ | refine NextVC.mk (k + 1, LB2) ?_ ?_ ?_ | refine Bt ?_ | refine Bf ?_ | refine Ni ?_ ?_ | refine Wq ?_ | refine Di ?_ | refine Oi ?_); conv => whnf)
                    all_goals try simp only [hw2]
                    all_goals first | exact Lf | exact ⟨by omega, by omega⟩ | exact ⟨by omega, f2⟩
                  · have hsa : Sx.Spec Tryz.prog GG 75 [.d (encL encZ 1 I), .d (.int .i64 (prs.getD (k : Int).toNat default).1)] [] (.d (.int .i64 (a : Int))) [] := by
                      have := index7_spec I (prs.getD k default).1 (by omega); rw [q1, Nat.zero_add] at this; exact this
                    have hsb : Sx.Spec Tryz.prog GG 75 [.d (encL encZ 1 I), .d (.int .i64 (prs.getD (k : Int).toNat default).2)] [] (.d (.int .i64 (b : Int))) [] := by
                      have := index7_spec I (prs.getD k default).2 (by omega); rw [p1, Nat.zero_add] at this; exact this
                    have hc1 : decide ((a : Int) ≥ 0) = true := by simp
                    have hc2 : decide ((b : Int) ≥ 0) = true := by simp
                    have hst := f2.step hy q2 p2 (by simpa using q3) (by simpa using p3) rfl
                    obtain ⟨m, hm⟩ : ∃ m, m = if LB2.getD b default < LB2.getD a default then LB2.getD b default else LB2.getD a default := ⟨_, rfl⟩
                    rw [← hm] at hst
                    have hmi : (if ((LB2.getD b default : Nat) : Int) < ((LB2.getD a default : Nat) : Int) then ((LB2.getD b default : Nat) : Int) else ((LB2.getD a default : Nat) : Int)) = (m : Int) := by
                      rw [hm]
                      by_cases hh : LB2.getD b default < LB2.getD a default
                      · rw [if_pos hh, if_pos (by omega)]
                      · rw [if_neg hh, if_neg (by omega)]
                    conv => whnf
                    repeat' first | ((first | refine Ci hsa ?_ | refine Ci hsb ?_ | refine NextVC.mk (k + 1, (LB2.set a m).set b m) ?_ ?_ ?_ | refine Bt ?_ | refine Bf ?_ | refine Ni ?_ ?_ | refine Wq ?_ | refine Di ?_ | refine Oi ?_); conv => whnf)
                    all_goals try simp only [hw2, Int.toNat_natCast, Nat.zero_add]
                    all_goals first
                      | exact Lf | exact ⟨by omega, by omega⟩ | omega | exact ⟨by omega, hst⟩
                      | (refine row_setU (by omega) (by omega) hmi (fun i hi => ?_)
                         by_cases e1 : i = b
                         · simp only [if_pos e1]; rfl
                         · by_cases e2 : i = a
                           · simp only [if_neg e1, if_pos e2]; rfl
                           · simp only [if_neg e1, if_neg e2])
              · conv => whnf
                repeat' first | ((first | refine NextVC.mk (r + 1, LB2) ?_ ?_ ?_ | refine Bt ?_ | refine Bf ?_ | refine Ni ?_ ?_ | refine Wq ?_ | refine Di ?_ | refine Oi ?_); conv => whnf)
                all_goals try simp only [hw1]
                all_goals first | exact Lf | exact ⟨by omega, f2⟩
          · have hla := g2.len
            conv => whnf
            repeat' first | ((first | refine Bt ?_ | refine Bf ?_ | refine Ni ?_ ?_ | refine Wq ?_ | refine Di ?_ | refine Oi ?_); conv => whnf)
            refine loop_auto [5, 6] [3000] (fun x : Nat × List (List Int) => [(14, .d (.int .i64 x.1)), (13, .osl 2000 1 0 x.2.length)]) (fun x => [(2000, .row 22 1 x.2.length (cellOf encIs x.2))])
              (fun x => (x.1 ≤ I.length ∧ x.2.length ≤ x.1) ∧ (0 < x.1 → 1 ≤ x.2.length) ∧ ∀ k, 0 < k → k < x.1 → LB1.getD k default = k → 2 ≤ x.2.length) (fun x => I.length - x.1) (0, []) ?_ (fun x hx => ?_) ⟨⟨Nat.zero_le _, Nat.le_refl _⟩, fun h => absurd h (Nat.lt_irrefl _), fun k _ h => absurd h (Nat.not_lt_zero _)⟩
            · conv => whnf
              repeat' first | ((first | refine Bt ?_ | refine Bf ?_ | refine Ni ?_ ?_ | refine Wq ?_ | refine Di ?_ | refine Oi ?_); conv => whnf) | (refine bc_intro (fun _ => ?_) (fun _ => ?_) <;> (conv => whnf))
              all_goals try first | exact Lq
              all_goals exact row_nil
            · obtain ⟨i, O⟩ := x
              obtain ⟨⟨b1, b2⟩, b3, b4⟩ := hx
              simp only at b1 b2 b3 b4
              conv => whnf
              refine bc_intro (fun hltD => ?_) (fun hltD => ?_)
              · have hltE : i < I.length := by simpa using hltD
                have hw3 : IntKind.i64.wrap ((i : Int) + 1) = ((i + 1 : Nat) : Int) := wrap_succ (n := 1000) (by omega) (by omega)
                have hle := g2.le i hltE
                conv => whnf
                repeat' first | ((first | refine Bt ?_ | refine Bf ?_ | refine Ni ?_ ?_ | refine Wq ?_ | refine Di ?_ | refine Oi ?_); conv => whnf)
                refine loop_auto [5, 6, 14, 13] [3000, 2000] (fun x : Nat × List Int => [(16, .d (.int .i64 x.1)), (15, .osl 3001 1 0 x.2.length)]) (fun x => [(3001, .row 3 1 x.2.length (cellOf encZ x.2))])
                  (fun x => (i ≤ x.1 ∧ x.1 ≤ I.length ∧ x.2.length ≤ x.1) ∧ (i < x.1 → LB1.getD i default = i → 0 < x.2.length)) (fun x => I.length - x.1) (i, []) ?_ (fun x hx => ?_) ⟨⟨Nat.le_refl _, b1, Nat.zero_le _⟩, fun h => absurd h (Nat.lt_irrefl _)⟩
                · conv => whnf
                  repeat' first | ((first | refine Bt ?_ | refine Bf ?_ | refine Ni ?_ ?_ | refine Wq ?_ | refine Di ?_ | refine Oi ?_); conv => whnf) | (refine bc_intro (fun _ => ?_) (fun _ => ?_) <;> (conv => whnf))
                  all_goals try first | exact Lq
                  all_goals exact row_nil
                · obtain ⟨k, Q⟩ := x
                  obtain ⟨⟨c1, c2, c3⟩, c4⟩ := hx
                  simp only at c1 c2 c3 c4
                  have hw4 : k < I.length → IntKind.i64.wrap ((k : Int) + 1) = ((k + 1 : Nat) : Int) := fun h => wrap_succ (n := 1000) (by omega) (by omega)
                  by_cases hk : k < I.length
                  · have hc1 : decide ((k : Int) < (I.length : Int)) = true := by simpa using hk
                    have hw5 := hw4 hk
                    by_cases hli : LB1.getD i default = i
                    · have hc2 : (((LB1.getD (0 + (i : Int).toNat) default : Nat) : Int) == (i : Int)) = true := by rw [Nat.zero_add, Int.toNat_natCast, hli]; simp
                      by_cases hlk : LB1.getD k default = i
                      · have hc3 : (((LB1.getD (0 + (k : Int).toNat) default : Nat) : Int) == (i : Int)) = true := by rw [Nat.zero_add, Int.toNat_natCast, hlk]; simp
                        conv => whnf
                        repeat' first | ((first | refine NextVC.mk (k + 1, Q ++ [I.getD k default]) ?_ ?_ ?_ | refine Bt ?_ | refine Bf ?_ | refine Ni ?_ ?_ | refine Wq ?_ | refine Di ?_ | refine Oi ?_); conv => whnf)
                        all_goals try simp only [hw5, cZ, bZ, Int.toNat_natCast, Nat.zero_add, List.length_append, List.length_singleton]
                        all_goals first
                          | exact Lf | exact ⟨by omega, by omega⟩ | exact ⟨trivial, by omega, by omega⟩
                          | exact ⟨⟨by omega, by omega, by omega⟩, fun _ _ => by omega⟩
                          | exact row_snoc rfl (RowLe.refl _ _ _) (jlt1 (DLe.of_eq rfl)) | omega
                      · have hc3 : (((LB1.getD (0 + (k : Int).toNat) default : Nat) : Int) == (i : Int)) = false := by rw [Nat.zero_add, Int.toNat_natCast]; simp only [beq_eq_false_iff_ne]; omega
                        conv => whnf
                        repeat' first | ((first | refine NextVC.mk (k + 1, Q) ?_ ?_ ?_ | refine Bt ?_ | refine Bf ?_ | refine Ni ?_ ?_ | refine Wq ?_ | refine Di ?_ | refine Oi ?_); conv => whnf)
                        all_goals try simp only [hw5, Int.toNat_natCast, Nat.zero_add]
                        all_goals first
                          | exact Lf | exact ⟨by omega, by omega⟩
                          | exact ⟨⟨by omega, by omega, by omega⟩, fun _ h => (Nat.lt_or_ge i k).elim (fun h2 => c4 h2 h) (fun h2 => absurd (by rw [show k = i by omega]; exact hli) hlk)⟩
                          | omega
                    · have hc2 : (((LB1.getD (0 + (i : Int).toNat) default : Nat) : Int) == (i : Int)) = false := by rw [Nat.zero_add, Int.toNat_natCast]; simp only [beq_eq_false_iff_ne]; omega
                      conv => whnf
                      repeat' first | ((first | refine Bt ?_ | refine Bf ?_ | refine Ni ?_ ?_ | refine Wq ?_ | refine Di ?_ | refine Oi ?_); conv => whnf)
                      · refine bc_intro (fun hz => ?_) (fun hz => ?_)
                        · have hz0 : 0 < Q.length := by simpa using hz
                          conv => whnf
                          repeat' first | ((first | refine NextVC.mk (i + 1, O ++ [Q]) ?_ ?_ ?_ | refine Bt ?_ | refine Bf ?_ | refine Ni ?_ ?_ | refine Wq ?_ | refine Di ?_ | refine Oi ?_); conv => whnf)
                          all_goals try simp only [hw3, cS, bS, Int.toNat_natCast, Nat.zero_add, List.length_append, List.length_singleton]
                          all_goals first
                            | exact Lf | exact ⟨by omega, by omega⟩ | exact ⟨trivial, by omega, by omega⟩
                            | exact ⟨⟨by omega, by omega⟩, fun _ => by omega, fun k' hk1 hk2 hk3 => (Nat.lt_or_ge k' i).elim (fun h => Nat.le_trans (b4 k' hk1 h hk3) (by omega)) (fun h => by have := b3 (by omega); omega)⟩
                            | exact row_snoc rfl (RowLe.refl _ _ _) (jlt1 (DLe.of_eq rfl))
                        · have hz0 : Q.length = 0 := by simp at hz; simp [hz]
                          conv => whnf
                          repeat' first | ((first | refine NextVC.mk (i + 1, O) ?_ ?_ ?_ | refine Bt ?_ | refine Bf ?_ | refine Ni ?_ ?_ | refine Wq ?_ | refine Di ?_ | refine Oi ?_); conv => whnf)
                          all_goals try simp only [hw3, Int.toNat_natCast, Nat.zero_add]
                          all_goals first
                            | exact Lf | exact ⟨by omega, by omega⟩
                            | (have hzn := hli
                               exact ⟨⟨by omega, by omega⟩, fun _ => (Nat.eq_zero_or_pos i).elim (fun h => absurd (by omega) hzn) (fun h => b3 h), fun k' hk1 hk2 hk3 => (Nat.lt_or_ge k' i).elim (fun h => b4 k' hk1 h hk3) (fun h => absurd (by rw [show i = k' by omega]; exact hk3) hzn)⟩)
                      all_goals first
                        | exact ⟨by omega, by omega⟩
                        | (simp only [Int.toNat_natCast, Nat.zero_add]; omega)
                  · have hc1 : decide ((k : Int) < (I.length : Int)) = false := by simp; omega
                    have hk2 : i < k := by omega
                    conv => whnf
                    repeat' first | ((first | refine Bt ?_ | refine Bf ?_ | refine Ni ?_ ?_ | refine Wq ?_ | refine Di ?_ | refine Oi ?_); conv => whnf)
                    · refine bc_intro (fun hz => ?_) (fun hz => ?_)
                      · have hz0 : 0 < Q.length := by simpa using hz
                        conv => whnf
                        repeat' first | ((first | refine NextVC.mk (i + 1, O ++ [Q]) ?_ ?_ ?_ | refine Bt ?_ | refine Bf ?_ | refine Ni ?_ ?_ | refine Wq ?_ | refine Di ?_ | refine Oi ?_); conv => whnf)
                        all_goals try simp only [hw3, cS, bS, Int.toNat_natCast, Nat.zero_add, List.length_append, List.length_singleton]
                        all_goals first
                          | exact Lf | exact ⟨by omega, by omega⟩ | exact ⟨trivial, by omega, by omega⟩
                          | exact ⟨⟨by omega, by omega⟩, fun _ => by omega, fun k' hk1 hk2 hk3 => (Nat.lt_or_ge k' i).elim (fun h => Nat.le_trans (b4 k' hk1 h hk3) (by omega)) (fun h => by have := b3 (by omega); omega)⟩
                          | exact row_snoc rfl (RowLe.refl _ _ _) (jlt1 (DLe.of_eq rfl))
                      · have hz0 : Q.length = 0 := by simp at hz; simp [hz]
                        conv => whnf
                        repeat' first | ((first | refine NextVC.mk (i + 1, O) ?_ ?_ ?_ | refine Bt ?_ | refine Bf ?_ | refine Ni ?_ ?_ | refine Wq ?_ | refine Di ?_ | refine Oi ?_); conv => whnf)
                        all_goals try simp only [hw3, Int.toNat_natCast, Nat.zero_add]
                        all_goals first
                          | exact Lf | exact ⟨by omega, by omega⟩
                          | (have hzn : LB1.getD i default ≠ i := fun h => by have := c4 hk2 h; omega
                             exact ⟨⟨by omega, by omega⟩, fun _ => (Nat.eq_zero_or_pos i).elim (fun h => absurd (by omega) hzn) (fun h => b3 h), fun k' hk1 hk2 hk3 => (Nat.lt_or_ge k' i).elim (fun h => b4 k' hk1 h hk3) (fun h => absurd (by rw [show i = k' by omega]; exact hk3) hzn)⟩)
                    all_goals first | exact ⟨by omega, by omega⟩
              · have hltE : I.length ≤ i := by simpa using hltD
                conv => whnf
                repeat' first | ((first | refine Bt ?_ | refine Bf ?_ | refine Ni ?_ ?_ | refine Wq ?_ | refine Di ?_ | refine Oi ?_); conv => whnf)
                refine ⟨O, ⟨by omega, fun hO S hS x hx y hy => ?_⟩, ?_⟩
                · have hall := g2.all (fun k h1 h2 h3 => by have := b4 k h1 (by omega) h3; omega) hS
                  have key : ∀ x ∈ nodes, (S x.id ↔ S (I.getD 0 default)) := fun x hx => by
                    have hxI : x.id ∈ I := by rw [hI]; exact List.mem_map.2 ⟨x, hx, rfl⟩
                    obtain ⟨q, hq, e⟩ := List.getElem_of_mem hxI
                    have := hall q hq
                    rw [show I.getD q default = x.id by simp only [List.getD, List.getElem?_eq_getElem hq]; exact e] at this
                    exact this
                  exact (key x hx).trans (key y hy).symm
                · conv => whnf
                  repeat' first | ((first | refine Bt ?_ | refine Bf ?_ | refine Ni ?_ ?_ | refine Wq ?_ | refine Di ?_ | refine Oi ?_); conv => whnf)
                  all_goals first | exact Lf | exact RowLe.refl _ _ _
  all_goals exact ⟨by omega, by omega, by rw [bZ]; omega, by omega⟩
end Go.Proofs.YtiadnhbclipmhaaGreatDoor

namespace Go.Proofs.YtiadnhbclipmhaaGreatDoor
open Go Go.Sx Go.ChangeShapes Go.WideShapes Go.ChangeAt Go.RowKit
set_option linter.unusedVariables false
set_option linter.unusedSimpArgs false
set_option maxRecDepth 100000
def ConnS (nodes : List NodeT) (ps : List PeerT) : Prop := ∀ S : Int → Prop, (∀ x ∈ nodes, ∀ z, z ∈ numsF (peerF ps x.id) → (∃ y ∈ nodes, y.id = z) → z ≠ (peerF ps x.id).id → (S x.id ↔ S z)) → ∀ x ∈ nodes, ∀ y ∈ nodes, (S x.id ↔ S y.id)
theorem conn0 {nodes : List NodeT} {ps : List PeerT} : (Rst nodes ∧ nodes.length ≤ 20 ∧ PrsB ps) → ∃ b : Bool, (b = true → ConnS nodes ps) ∧ Sx.Spec Tryz.prog GG 23 [.d (encL encN 3 nodes), .d (encL encP 5 ps)] [] (.d (.bool b)) [] := by
  rintro ⟨hr, hl, hP⟩
  obtain ⟨prs, ⟨hp1, hp2⟩, hpsp⟩ := pairs14_0 ⟨hr, hl, hP⟩
  obtain ⟨o, ⟨ho1, ho2⟩, hosp⟩ := joined7_0 (nodes := nodes) (prs := prs) ⟨hl, hp1⟩
  have hosp2 := hosp.pub1
  have hpsp2 : Sx.Spec Tryz.prog GG 46 [.d (encL encN 3 nodes), .d (encL encP 5 ps)] [] (.d (encL encT 2 prs)) [] := by
    have := hpsp.pub1
    simpa [encL] using this
  refine ⟨decide (o.length ≤ 1), fun hb S hS x hx y hy => ?_, ?_⟩
  · refine ho2 (by simpa using hb) S (fun w hw => ?_) x hx y hy
    obtain ⟨⟨u, hu, e1⟩, h2, h3, h4⟩ := hp2 w hw
    obtain ⟨z, hz, e⟩ := List.any_eq_true.1 h4
    have e : z = w.2 := by simpa using e
    subst e
    rw [← e1] at hz h3
    have := hS u hu w.2 hz h2 h3
    rw [e1] at this
    exact this
  · have hc : (true : Bool) = true := rfl
    refine spec_intro (E := EE) (fn := Tryz.f23) eok (by kernel_rfl) (by kernel_rfl) Tryz.call23 (by kernel_rfl) (by kernel_rfl) ?_
    conv => whnf
    repeat' first | ((first | refine Cf (is5_true) ?_ ?_ | refine Ci hpsp2 ?_ | refine Ci hosp2 ?_ | refine Bt ?_ | refine Bf ?_ | refine Ni ?_ ?_ | refine Wq ?_ | refine Di ?_ | refine Oi ?_); conv => whnf)
    all_goals first
      | exact hr
      | (refine ⟨LeS.of_eq ?_, trivial⟩
         congr 3
         first | (rw [eq_iff_iff]; omega) | (simp; done))
end Go.Proofs.YtiadnhbclipmhaaGreatDoor

namespace Go.Proofs.YtiadnhbclipmhaaGreatDoor
open Go Go.Sx Go.ChangeShapes Go.WideShapes Go.ChangeAt Go.RowKit
set_option linter.unusedVariables false
set_option linter.unusedSimpArgs false
set_option maxRecDepth 100000
theorem near_new {L : List NearT} {n : Nat} {z : NearT} (hn : n = L.length) {g : Nat → Nat → D} (hg : ∀ i j, i < n → j < 4 → g i j = cellOf encR L i j) (h4 : ∀ j, j < 4 → g n j = (encR z).getD j default) : RowLe (n + 1) 4 g (cellOf encR (L ++ [z])) := by
  subst hn
  refine .of_eq fun i j hi hj => ?_
  simp only [cellOf, snoc_get]
  by_cases e : i = L.length
  · rw [if_pos e, e]; exact h4 j hj
  · rw [if_neg e]; exact hg i j (by omega) hj
set_option maxHeartbeats 1000000 in
theorem tpeer0 {l : List Int} {a : Nat} {nodes : List NodeT} {h : Nat} : (TapeOk l a ∧ Rst nodes ∧ h ≤ 16) → ∃ x : PeerT × Nat, ((x.1.known.length ≤ 4 ∧ x.1.near.length ≤ 18) ∧ TapeOk l x.2) ∧
    Sx.Spec Tryz.prog GG 21 [.ptr 1000 0, .d (encL encN 3 nodes), .d (.int .i64 h)] [(1000, tapeB l a)] (.agg [.d (.int .i64 x.1.id), .osl 2000 1 0 x.1.known.length, .d (.int .i64 x.1.left), .d (.int .i64 x.1.right), .osl 2001 4 0 x.1.near.length])
      [(1000, tapeB l x.2), (2000, .row 3 1 x.1.known.length (cellOf encZ x.1.known)), (2001, .row 58 4 x.1.near.length (cellOf encR x.1.near))] := by
  rintro ⟨hT, hr, h16⟩
  have cZ : Tryz.prog.cellsOf 3 = 1 := by kernel_rfl
  have bZ : Tryz.prog.bytesOf 3 = 8 := by kernel_rfl
  have cR : Tryz.prog.cellsOf 58 = 4 := by kernel_rfl
  have bR : Tryz.prog.bytesOf 58 = 32 := by kernel_rfl
  have w2 : IntKind.i64.wrap ((h : Int) + 2) = (h : Int) + 2 := wrap_of (by omega) (by omega)
  refine spec_some (E := EE) (fn := Tryz.f21) _ _ _ true eok (by kernel_rfl) (by kernel_rfl) Tryz.call21 (by kernel_rfl) (fun _ => by kernel_rfl) (fun _ => by kernel_rfl) ?_
  conv => whnf
  repeat' first | ((first | refine call_some_if (id_ex _) (fun _ => Fl) (Ni ?_ ?_); rintro ⟨idv, a1⟩ ⟨g1, g2⟩ | refine call_some_if (next_ex _) (fun _ => Fl) (Ni ?_ ?_); rintro ⟨c0, a2⟩ ⟨⟨h1, h2⟩, h3⟩ | refine Bt ?_ | refine Bf ?_ | refine Ni ?_ ?_ | refine Wq ?_ | refine Di ?_ | refine Oi ?_); conv => whnf)
  · refine loop_auto [0, 0 + 1, 0 + 1 + 1, 6] [6] (fun x : Int × List Int × Nat => [(8, .d (.int .i64 x.1)), (7, .ptr 2007 0)]) (fun x => [(1000, tapeB l x.2.2), (2007, .box [.d (.int .i64 idv), .osl 3000 1 0 x.2.1.length, .d (.int .i64 0), .d (.int .i64 0), .d (.val (.slice none 0 0))]), (3000, .row 3 1 x.2.1.length (cellOf encZ x.2.1))])
      (fun x => (0 ≤ x.1 ∧ (x.2.1.length : Int) + x.1 ≤ 4) ∧ TapeOk l x.2.2) (fun x => x.1.toNat) (c0, [], a2) ?_ (fun x hx => ?_) ⟨⟨h1, by simp only [List.length_nil]; omega⟩, h3⟩
    · conv => whnf
      repeat' first | ((first | refine Bt ?_ | refine Bf ?_ | refine Ni ?_ ?_ | refine Wq ?_ | refine Di ?_ | refine Oi ?_); conv => whnf) | (refine bc_intro (fun _ => ?_) (fun _ => ?_) <;> (conv => whnf))
      all_goals try first | exact Lq
    · obtain ⟨c, K, a3⟩ := x
      obtain ⟨⟨hc, hK⟩, ht⟩ := hx
      simp only at hc hK ht
      have hs : 0 < c → IntKind.i64.wrap (c - 1) = c - 1 := fun _ => wrap_of (by omega) (by omega)
      conv => whnf
      refine bc_intro (fun hlt => ?_) (fun hlt => ?_)
      · have hlt0 : 0 < c := by simpa using hlt
        have hsc := hs hlt0
        conv => whnf
        repeat' first | ((first | refine call_some_if (id_ex _) (fun _ => Fl) (Ni ?_ ?_); rintro ⟨v, b⟩ ⟨k1, k2⟩ | refine NextVC.mk (c - 1, K ++ [v], b) ?_ ?_ ?_ | refine Bt ?_ | refine Bf ?_ | refine Ni ?_ ?_ | refine Wq ?_ | refine Di ?_ | refine Oi ?_); conv => whnf)
        all_goals try simp only [hsc, cZ, bZ, List.length_append, List.length_singleton]
        all_goals first | exact Lf | exact ⟨by omega, by omega⟩ | exact ⟨trivial, by omega, by omega⟩ | exact ⟨ht, hr⟩ | exact ⟨⟨by omega, by omega⟩, k2⟩ | omega | exact row_snoc rfl (RowLe.refl _ _ _) (jlt1 (DLe.of_eq rfl))
      · have hlt0 : c = 0 := by simp at hlt; omega
        conv => whnf
        repeat' first | ((first | refine call_some_if (bool_ex _) (fun _ => Fl) (Ni ?_ ?_); rintro ⟨v, b⟩ k1 | refine Bt ?_ | refine Bf ?_ | refine Ni ?_ ?_ | refine Wq ?_ | refine Di ?_ | refine Oi ?_); conv => whnf)
        · refine join_auto [0, 0 + 1, 0 + 1 + 1, 6, 7] [6, 3000] (fun z : Int × Nat => []) (fun z => [(1000, tapeB l z.2), (2007, .box [.d (.int .i64 idv), .osl 3000 1 0 K.length, .d (.int .i64 z.1), .d (.int .i64 0), .d (.val (.slice none 0 0))])])
            (fun z => TapeOk l z.2) (fun hv => ?_) (fun hv => ?_) ?_
          · conv => whnf
            repeat' first | ((first | refine call_some_if (id_ex _) (fun _ => Fl) (Ni ?_ ?_); rintro ⟨v2, b2⟩ ⟨k2, k3⟩ | refine JoinVC.mk (v2, b2) ?_ ?_ | refine Bt ?_ | refine Bf ?_ | refine Ni ?_ ?_ | refine Wq ?_ | refine Di ?_ | refine Oi ?_); conv => whnf)
            all_goals first | exact Lf | exact k3 | exact ⟨k1, hr⟩
          · conv => whnf
            repeat' first | ((first | refine JoinVC.mk ((0 : Int), b) ?_ ?_ | refine Bt ?_ | refine Bf ?_ | refine Ni ?_ ?_ | refine Wq ?_ | refine Di ?_ | refine Oi ?_); conv => whnf)
            all_goals first | exact Lf | exact k1
          · rintro ⟨lf, a4⟩ hz
            simp only at hz
            conv => whnf
            repeat' first | ((first | refine call_some_if (bool_ex _) (fun _ => Fl) (Ni ?_ ?_); rintro ⟨v, b⟩ k1 | refine Bt ?_ | refine Bf ?_ | refine Ni ?_ ?_ | refine Wq ?_ | refine Di ?_ | refine Oi ?_); conv => whnf)
            · refine join_auto [0, 0 + 1, 0 + 1 + 1, 6, 7] [6, 3000] (fun z : Int × Nat => []) (fun z => [(1000, tapeB l z.2), (2007, .box [.d (.int .i64 idv), .osl 3000 1 0 K.length, .d (.int .i64 lf), .d (.int .i64 z.1), .d (.val (.slice none 0 0))])])
                (fun z => TapeOk l z.2) (fun hv => ?_) (fun hv => ?_) ?_
              · conv => whnf
                repeat' first | ((first | refine call_some_if (id_ex _) (fun _ => Fl) (Ni ?_ ?_); rintro ⟨v2, b2⟩ ⟨k2, k3⟩ | refine JoinVC.mk (v2, b2) ?_ ?_ | refine Bt ?_ | refine Bf ?_ | refine Ni ?_ ?_ | refine Wq ?_ | refine Di ?_ | refine Oi ?_); conv => whnf)
                all_goals first | exact Lf | exact k3 | exact ⟨k1, hr⟩
              · conv => whnf
                repeat' first | ((first | refine JoinVC.mk ((0 : Int), b) ?_ ?_ | refine Bt ?_ | refine Bf ?_ | refine Ni ?_ ?_ | refine Wq ?_ | refine Di ?_ | refine Oi ?_); conv => whnf)
                all_goals first | exact Lf | exact k1
              · rintro ⟨rt, a5⟩ hz2
                simp only at hz2
                conv => whnf
                repeat' first | ((first | refine call_some_if (next_ex _) (fun _ => Fl) (Ni ?_ ?_); rintro ⟨n0, a6⟩ ⟨⟨m1, m2⟩, m3⟩ | refine Bt ?_ | refine Bf ?_ | refine Ni ?_ ?_ | refine Wq ?_ | refine Di ?_ | refine Oi ?_); conv => whnf)
                · rw [w2] at m2
                  refine loop_auto [0, 0 + 1, 0 + 1 + 1, 6] [6, 3000] (fun x : Int × List NearT × Nat => [(9, .d (.int .i64 x.1)), (7, .ptr 2007 0)]) (fun x => [(1000, tapeB l x.2.2), (2007, .box [.d (.int .i64 idv), .osl 3000 1 0 K.length, .d (.int .i64 lf), .d (.int .i64 rt), .osl 3001 4 0 x.2.1.length]), (3001, .row 58 4 x.2.1.length (cellOf encR x.2.1))])
                    (fun x => (0 ≤ x.1 ∧ (x.2.1.length : Int) + x.1 ≤ 18) ∧ TapeOk l x.2.2) (fun x => x.1.toNat) (n0, [], a6) ?_ (fun x hx => ?_) ⟨⟨m1, by simp only [List.length_nil]; omega⟩, m3⟩
                  · conv => whnf
                    repeat' first | ((first | refine Bt ?_ | refine Bf ?_ | refine Ni ?_ ?_ | refine Wq ?_ | refine Di ?_ | refine Oi ?_); conv => whnf) | (refine bc_intro (fun _ => ?_) (fun _ => ?_) <;> (conv => whnf))
                    all_goals try first | exact Lq
                    all_goals first | exact row_nil
                  · obtain ⟨c2, N, a7⟩ := x
                    obtain ⟨⟨hc2, hN⟩, ht2⟩ := hx
                    simp only at hc2 hN ht2
                    have hs2 : 0 < c2 → IntKind.i64.wrap (c2 - 1) = c2 - 1 := fun _ => wrap_of (by omega) (by omega)
                    have hwN : IntKind.i64.wrap (((N.length + 1 : Nat) : Int) - 1) = (N.length : Int) := by rw [wrap_of (by omega) (by omega)]; omega
                    conv => whnf
                    refine bc_intro (fun hlt2 => ?_) (fun hlt2 => ?_)
                    · have hlt3 : 0 < c2 := by simpa using hlt2
                      have hsc2 := hs2 hlt3
                      conv => whnf
                      repeat' first | ((first | refine call_some_if (bool_ex _) (fun _ => Fl) (Ni ?_ ?_); rintro ⟨v, b⟩ k1 | refine Bt ?_ | refine Bf ?_ | refine Ni ?_ ?_ | refine Wq ?_ | refine Di ?_ | refine Oi ?_); conv => whnf)
                      · refine bc_intro (fun hv => ?_) (fun hv => ?_)
                        · obtain ⟨⟨v1, b1⟩, ⟨_, s1⟩, hi1⟩ := id_ex 1000 (l := l) (a := b) (xs := nodes) ⟨k1, hr⟩
                          obtain ⟨⟨v2, b2⟩, ⟨_, s2⟩, hi2⟩ := id_ex 1000 (l := l) (a := b1) (xs := nodes) ⟨s1, hr⟩
                          obtain ⟨⟨v3, b3⟩, ⟨_, s3⟩, hi3⟩ := id_ex 1000 (l := l) (a := b2) (xs := nodes) ⟨s2, hr⟩
                          obtain ⟨⟨v4, b4⟩, ⟨_, s4⟩, hi4⟩ := id_ex 1000 (l := l) (a := b3) (xs := nodes) ⟨s3, hr⟩
                          conv => whnf
                          repeat' first | ((first | refine Ci hi1 ?_ | refine Ci hi2 ?_ | refine Ci hi3 ?_ | refine Ci hi4 ?_ | refine NextVC.mk (c2 - 1, N ++ [⟨v1, v2, v3, v4⟩], b4) ?_ ?_ ?_ | refine Bt ?_ | refine Bf ?_ | refine Ni ?_ ?_ | refine Wq ?_ | refine Di ?_ | refine Oi ?_); conv => whnf)
                          all_goals try simp only [hsc2, hwN, cR, bR, Int.toNat_natCast, Nat.zero_add, List.length_append, List.length_singleton]
                          all_goals first
                            | exact Lf | exact ⟨by omega, by omega⟩ | exact ⟨trivial, by omega, by omega⟩ | exact ⟨⟨by omega, by omega⟩, s4⟩ | omega
                            | exact near_new rfl (fun i j hi hj => by simp only [if_neg (show ¬ i = N.length by omega), if_pos hi]) (jlt4 (by simp only [if_true]; rfl) (by simp only [if_true]; rfl) (by simp only [if_true]; rfl) (by simp only [if_true]; rfl))
                        · conv => whnf
                          repeat' first | ((first | refine NextVC.mk (c2 - 1, N ++ [⟨0, 0, 0, 0⟩], b) ?_ ?_ ?_ | refine Bt ?_ | refine Bf ?_ | refine Ni ?_ ?_ | refine Wq ?_ | refine Di ?_ | refine Oi ?_); conv => whnf)
                          all_goals try simp only [hsc2, cR, bR, List.length_append, List.length_singleton]
                          all_goals first | exact Lf | exact ⟨by omega, by omega⟩ | exact ⟨trivial, by omega, by omega⟩ | exact ⟨⟨by omega, by omega⟩, k1⟩ | omega | exact row_snoc rfl (RowLe.refl _ _ _) (jlt4 (DLe.of_eq rfl) (DLe.of_eq rfl) (DLe.of_eq rfl) (DLe.of_eq rfl))
                      all_goals try simp only [bR]
                      all_goals first | exact ⟨ht2, by omega, by omega⟩ | exact ⟨trivial, by omega, by omega⟩
                    · have hlt3 : c2 = 0 := by simp at hlt2; omega
                      conv => whnf
                      repeat' first | ((first | refine Bt ?_ | refine Bf ?_ | refine Ni ?_ ?_ | refine Wq ?_ | refine Di ?_ | refine Oi ?_); conv => whnf)
                      refine ⟨(⟨idv, K, lf, rt, N⟩, a7), ⟨⟨by simp only; omega, by simp only; omega⟩, ht2⟩, ?_⟩
                      conv => whnf
                      repeat' first | ((first | refine Bt ?_ | refine Bf ?_ | refine Ni ?_ ?_ | refine Wq ?_ | refine Di ?_ | refine Oi ?_); conv => whnf)
                      all_goals first | exact Lf | exact RowLe.refl _ _ _
                all_goals (simp only [w2]; exact ⟨hz2, by omega, by omega⟩)
            all_goals exact ⟨by assumption, by omega, by omega⟩
        all_goals exact ⟨ht, by omega, by omega⟩
  all_goals first | exact ⟨hT, hr⟩ | exact ⟨g2, by omega, by omega⟩
end Go.Proofs.YtiadnhbclipmhaaGreatDoor
