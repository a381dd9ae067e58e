/- Contracts of functions that the law reaches: YtiadnhbclipmhaaGreatDoorTP10. Written for this claim. -/
import Derived.Test.YtiadnhbclipmhaaGreatDoorTP5
namespace Go.Proofs.YtiadnhbclipmhaaGreatDoor
open Go Go.Sx Go.ChangeShapes Go.WideShapes Go.ChangeAt Go.RowKit
set_option linter.unusedVariables false
set_option linter.unusedSimpArgs false
set_option maxRecDepth 100000
def atGet (s : List NodeT) (q : List Int) (j : Nat) : FC := .d (.int .i64 (rankF s q))
def atHas (l : List NodeT) (q : List Int) : Bool := l.any fun x => q == [x.id]
abbrev lkGet (s : List NodeT) (h : Nat) : Nat → Nat → FC := getS (fun a => .int .i64 (s.getD a default).id) 2 (fun _ => h + 1)
theorem build0 {l : List NodeT} {h : Nat} : (Sml l ∧ h ≤ 16) → ∃ x : List (List LinkT), (x = buildL (sortN l) h ∧ ShpL l.length h x) ∧
    Sx.Spec Tryz.prog GG 25 [.d (encL encN 3 l), .d (.int .i64 h)] [] (.tup [.osl 2000 2 0 l.length, .d (.int .i64 0)]) [(2000, .frow 900000 62 2 l.length (lkGet (sortN l) h)), (900000, .fam l.length (famL 64 2 encK x))] := by
  rintro ⟨hS, hh⟩
  have hsl := sortN_len l
  have hl20 := hS.l20
  have hlv' : decide ((h : Int) < 0) = false := by rw [decide_eq_false_iff_not]; omega
  have hlv2 : decide ((h : Int) > 16) = false := by rw [decide_eq_false_iff_not]; omega
  have cK : Tryz.prog.cellsOf 64 = 2 := by kernel_rfl
  have bK : Tryz.prog.bytesOf 64 = 16 := by kernel_rfl
  have cL : Tryz.prog.cellsOf 62 = 2 := by kernel_rfl
  have bL : Tryz.prog.bytesOf 62 = 32 := by kernel_rfl
  have hw1 : IntKind.i64.wrap ((h : Int) + 1) = ((h + 1 : Nat) : Int) := wrap_succ (n := 1000) (by omega) (by omega)
  refine spec_someF (E := EE) (fn := Tryz.f25) _ _ _ true eok (by kernel_rfl) (by kernel_rfl) Tryz.call25 (by kernel_rfl) (fun _ => by kernel_rfl) (fun _ => by kernel_rfl) (by kernel_rfl) ?_
  conv => whnf
  repeat' first | ((first | refine Cf (ordered_spec) ?_ ?_ | refine Bt ?_ | refine Bf ?_ | refine Ni ?_ ?_ | refine Wq ?_ | refine Di ?_ | refine Oi ?_); conv => whnf)
  · refine loop_auto [0, 1, 6, 30, 31, 8] [] (fun i : Nat => [(32, .d (.int .i64 i)), (9, .osl 2000 2 0 i)])
      (fun i => [(29, .gmap 900000 false [.i64] false 1 (atHas ((sortN l).take i)) (atGet (sortN l))), (2000, .frow 900000 62 2 i (lkGet (sortN l) h)), (900000, .fam i (famL 64 2 encK (links0 i h)))])
      (fun i => i ≤ (sortN l).length) (fun i => (sortN l).length - i) 0 ?_ (fun i hi => ?_) (Nat.zero_le _)
    · conv => whnf
      repeat' first | ((first | refine Bt ?_ | refine Bf ?_ | refine Ni ?_ ?_ | refine Wq ?_ | refine Di ?_ | refine Oi ?_); conv => whnf) | (refine bc_intro (fun _ => ?_) (fun _ => ?_) <;> (conv => whnf))
      all_goals try first | exact Lq
      all_goals first
        | exact famL_nil
        | exact ⟨fun _ => rfl, fun k j hk _ => absurd hk (by simp)⟩
    · have hs : i < (sortN l).length → IntKind.i64.wrap ((i : Int) + 1) = ((i + 1 : Nat) : Int) := fun h => wrap_succ (n := 1000) (by omega) (by omega)
      conv => whnf
      refine bc_intro (fun hlt => ?_) (fun hlt => ?_)
      · have hlt0 : i < (sortN l).length := by simpa using hlt
        conv => whnf
        repeat' first | ((first | refine NextVC.mk (i + 1) ?_ ?_ ?_ | refine Bt ?_ | refine Bf ?_ | refine Ni ?_ ?_ | refine Wq ?_ | refine Di ?_ | refine Oi ?_); conv => whnf) | (refine bc_intro (fun _ => ?_) (fun _ => ?_) <;> (conv => whnf))
        all_goals try simp only [cK, bK, cL, bL, Int.toNat_natCast]
        all_goals first
          | exact Lf | exact ⟨trivial, trivial, trivial⟩ | exact ⟨trivial, trivial, trivial, trivial⟩ | exact ⟨trivial, trivial, rfl, by kernel_rfl⟩ | exact ⟨trivial, by omega, by omega⟩ | exact ⟨by omega, by omega⟩ | exact DLe.of_eq (by rw [hs hlt0])
          | (rw [hw1]
             have e : links0 (i + 1) h = links0 i h ++ [List.replicate (h + 1) ⟨0, 0⟩] := by simp [links0, List.replicate_succ']
             rw [e]
             refine famL_push (by simp [links0]) (by simp) (.of_eq fun a b ha hb => ?_)
             have ha : a < h + 1 := by simpa using ha
             simp only [cellOf, List.getD, List.getElem?_replicate, if_pos ha]
             match b, hb with
             | 0, _ => rfl
             | 1, _ => rfl)
          | (refine FRowLe.of_eq fun a b ha hb => ?_
             by_cases ha' : a < i
             · simp only [if_pos ha']
             · have : a = i := by omega
               subst this
               simp only [if_neg ha', hw1]
               match b, hb with
               | 0, _ => rfl
               | 1, _ => rfl)
          | (refine GMapLe.of_eq (fun q => ?_) (fun q j hq hj => ?_)
             · have e : atHas ((sortN l).take (i + 1)) q = (atHas ((sortN l).take i) q || q == [((sortN l).getD i default).id]) := by
                 unfold atHas; rw [take_snoc hlt0, List.any_append]; simp only [List.any_cons, List.any_nil, Bool.or_false]
               rw [e, Bool.or_comm]
             · have : j = 0 := by omega
               subst this
               by_cases e : q = [((sortN l).getD i default).id]
               · subst e
                 simp only [if_true]
                 show FC.d (.int .i64 (i : Int)) = .d (.int .i64 (rankF (sortN l) [((sortN l).getD i default).id] : Int))
                 rw [rank_at hS.sort.r.ids hlt0]
               · simp only [if_neg e])
          | skip
      · have hlt0 : (sortN l).length ≤ i := by simpa using hlt
        have e : i = (sortN l).length := by omega
        subst e
        have ht : (sortN l).take (sortN l).length = sortN l := take_ge (Nat.le_refl _)
        conv => whnf
        repeat' first | ((first | refine Bt ?_ | refine Bf ?_ | refine Ni ?_ ?_ | refine Wq ?_ | refine Di ?_ | refine Oi ?_); conv => whnf)
        refine loop_auto [0, 1, 6, 8, 9, 52] [29, 2000] (fun x : Nat × List (List LinkT) => [(53, .d (.int .i64 x.1))]) (fun x => [(900000, .fam (sortN l).length (famL 64 2 encK x.2))])
          (fun x => x.1 ≤ h + 1 ∧ ShpL (sortN l).length h x.2 ∧ (List.range' x.1 (h + 1 - x.1)).foldl (linkLevel (sortN l)) x.2 = buildL (sortN l) h) (fun x => h + 1 - x.1) (0, links0 (sortN l).length h) ?_ (fun x hx => ?_) ⟨Nat.zero_le _, shp0, rfl⟩
        · conv => whnf
          repeat' first | ((first | refine Bt ?_ | refine Bf ?_ | refine Ni ?_ ?_ | refine Wq ?_ | refine Di ?_ | refine Oi ?_); conv => whnf) | (refine bc_intro (fun _ => ?_) (fun _ => ?_) <;> (conv => whnf))
          all_goals try first | exact Lq
        · obtain ⟨lv, Ls⟩ := x
          obtain ⟨hlv, hsh, hf⟩ := hx
          simp only at hlv hsh hf
          have hsv : lv < h + 1 → IntKind.i64.wrap ((lv : Int) + 1) = ((lv + 1 : Nat) : Int) := fun h => wrap_succ (n := 1000) (by omega) (by omega)
          conv => whnf
          refine bc_intro (fun hlt => ?_) (fun hlt => ?_)
          · have hlt1 : lv < h + 1 := by rw [hw1, decide_eq_true_eq] at hlt; simp only at hlt; omega
            have hf2 : (List.range' (lv + 1) (h + 1 - (lv + 1))).foldl (linkLevel (sortN l)) (linkLevel (sortN l) Ls lv) = buildL (sortN l) h := by
              rw [← hf, show h + 1 - lv = (h + 1 - (lv + 1)) + 1 by omega, List.range'_succ, List.foldl_cons]
            generalize hT : linkLevel (sortN l) Ls lv = T at hf2
            have hlen : (listsF (sortN l) lv).length ≤ 64 := by
              rw [listsF, List.length_map]; exact (cls_bound (by rw [sortN_len, hsl]; omega)).1
            conv => whnf
            repeat' first | ((first | refine Cf (lists_spec) ?_ ?_ | refine Bt ?_ | refine Bf ?_ | refine Ni ?_ ?_ | refine Wq ?_ | refine Di ?_ | refine Oi ?_); conv => whnf)
            · refine loop_auto [0, 1, 6, 8, 9, 52, 53, 12, 58, 59] [29, 2000] (fun x : Nat × List (List LinkT) => [(60, .d (.int .i64 x.1))]) (fun x => [(900000, .fam (sortN l).length (famL 64 2 encK x.2))])
                (fun x => x.1 ≤ (listsF (sortN l) lv).length ∧ ShpL (sortN l).length h x.2 ∧ ((listsF (sortN l) lv).drop x.1).foldl (linkList (sortN l) lv) x.2 = T) (fun x => (listsF (sortN l) lv).length - x.1) (0, Ls) ?_ (fun x hx => ?_) ⟨Nat.zero_le _, hsh, hT⟩
              · conv => whnf
                repeat' first | ((first | refine Bt ?_ | refine Bf ?_ | refine Ni ?_ ?_ | refine Wq ?_ | refine Di ?_ | refine Oi ?_); conv => whnf) | (refine bc_intro (fun _ => ?_) (fun _ => ?_) <;> (conv => whnf))
                all_goals try first | exact Lq
              · obtain ⟨m, Lm⟩ := x
                obtain ⟨hm, hsm, hfm⟩ := hx
                simp only at hm hsm hfm
                have hsv2 : m < (listsF (sortN l) lv).length → IntKind.i64.wrap ((m : Int) + 1) = ((m + 1 : Nat) : Int) := fun h => wrap_succ (n := 1000) (by omega) (by omega)
                conv => whnf
                refine bc_intro (fun hlm => ?_) (fun hlm => ?_)
                · have hlm0 : m < (listsF (sortN l) lv).length := by simpa using hlm
                  have hcm := getD_mem2 hlm0
                  have hfm2 : ((listsF (sortN l) lv).drop (m + 1)).foldl (linkList (sortN l) lv) (linkList (sortN l) lv Lm ((listsF (sortN l) lv).getD m default)) = T := by
                    rw [← hfm, List.drop_eq_getElem_cons hlm0, List.foldl_cons]
                    simp [List.getD, hlm0]
                  have hclen : ((listsF (sortN l) lv).getD m default).length ≤ 64 := by
                    have := (cls_bound (l := sortN (sortN l)) (lv := lv) (by rw [sortN_len, hsl]; omega)).2
                    have hcm' := hcm
                    simp only [listsF, List.mem_map] at hcm'
                    obtain ⟨d, hd, e⟩ := hcm'
                    simp only [listsF] at *
                    rw [← e, List.length_map]; exact this d hd
                  have hcm2 : ∀ i, i < ((listsF (sortN l) lv).getD m default).length → ∃ x ∈ sortN l, x.id = ((listsF (sortN l) lv).getD m default).getD i default := fun i hi => by
                    obtain ⟨x, hx, e⟩ := lists_mem hcm (getD_mem2 hi)
                    exact ⟨x, by rw [sortN_mem] at hx; exact hx, e⟩
                  obtain ⟨c, hc⟩ : ∃ c, (listsF (sortN l) lv).getD m default = c := ⟨_, rfl⟩
                  rw [hc] at hcm hfm2 hclen hcm2
                  generalize hT2 : linkList (sortN l) lv Lm c = T2 at *
                  conv => whnf
                  repeat' first | ((first | refine Bt ?_ | refine Bf ?_ | refine Ni ?_ ?_ | refine Wq ?_ | refine Di ?_ | refine Oi ?_); conv => whnf)
                  · refine loop_auto [0, 1, 6, 8, 9, 52, 53, 12, 58, 59, 60, 14] [29, 2000] (fun x : Nat × List (List LinkT) => [(15, .d (.int .i64 x.1))]) (fun x => [(900000, .fam (sortN l).length (famL 64 2 encK x.2))])
                      (fun x => (1 ≤ x.1 ∧ x.1 ≤ c.length + 1) ∧ ShpL (sortN l).length h x.2 ∧ (List.range' x.1 (c.length - x.1)).foldl (linkStep (sortN l) lv c) x.2 = T2) (fun x => c.length + 1 - x.1) (1, Lm) ?_ (fun x hx => ?_) ⟨⟨Nat.le_refl _, by simp only; omega⟩, hsm, hT2⟩
                    · conv => whnf
                      repeat' first | ((first | refine Bt ?_ | refine Bf ?_ | refine Ni ?_ ?_ | refine Wq ?_ | refine Di ?_ | refine Oi ?_); conv => whnf) | (refine bc_intro (fun _ => ?_) (fun _ => ?_) <;> (conv => whnf))
                      all_goals try first | exact Lq
                    · obtain ⟨i, Li⟩ := x
                      obtain ⟨⟨hi1, hi2⟩, hsi, hfi⟩ := hx
                      simp only at hi1 hi2 hsi hfi
                      have hsv3 : IntKind.i64.wrap ((i : Int) + 1) = ((i + 1 : Nat) : Int) := wrap_succ (n := 1000) (by omega) (by omega)
                      have hsv4 : IntKind.i64.wrap ((i : Int) - 1) = ((i - 1 : Nat) : Int) := by rw [wrap_of (by omega) (by omega)]; omega
                      conv => whnf
                      refine bc_intro (fun hli => ?_) (fun hli => ?_)
                      · have hli0 : i < c.length := by rw [decide_eq_true_eq] at hli; simp only [Int.toNat_natCast, encIs, cellOf] at hli; simp only [hc] at hli; omega
                        have hA : ∀ y, y < c.length → atHas ((sortN l).take (sortN l).length) [((listsF (sortN l) lv).getD m default).getD y default] = true := fun y hy => by
                          rw [hc, ht]
                          obtain ⟨x, hx, e⟩ := hcm2 y hy
                          exact List.any_eq_true.2 ⟨x, hx, by rw [e]; simp⟩
                        have hR : ∀ y, y < c.length → rankF (sortN l) [c.getD y default] < (sortN l).length := fun y hy => by
                          obtain ⟨x, hx, e⟩ := hcm2 y hy
                          rw [← e]; exact rank_lt hx
                        have hA1 := hA i hli0
                        have hA2 : atHas ((sortN l).take (sortN l).length) [((listsF (sortN l) lv).getD m default).getD (IntKind.i64.wrap ((i : Int) - 1)).toNat default] = true := by rw [hsv4]; exact hA (i - 1) (by omega)
                        have hR1 := hR i hli0
                        have hR2 := hR (i - 1) (by omega)
                        have hRi : rankF (sortN l) [c.getD i default] < Li.length := by rw [hsi.1]; exact hR1
                        have hRj : rankF (sortN l) [c.getD (i - 1) default] < (setLf Li (rankF (sortN l) [c.getD i default]) lv (c.getD (i - 1) default)).length := by rw [(hsi.setLf hR1).1]; exact hR2
                        have hLi : lv < (Li.getD (rankF (sortN l) [c.getD i default]) default).length := by rw [hsi.2 _ hR1]; omega
                        have hLj : lv < ((setLf Li (rankF (sortN l) [c.getD i default]) lv (c.getD (i - 1) default)).getD (rankF (sortN l) [c.getD (i - 1) default]) default).length := by rw [(hsi.setLf hR1).2 _ hR2]; omega
                        conv => whnf
                        repeat' first | ((first | refine NextVC.mk (i + 1, linkStep (sortN l) lv c Li i) ?_ ?_ ?_ | refine Bt ?_ | refine Bf ?_ | refine Ni ?_ ?_ | refine Wq ?_ | refine Di ?_ | refine Oi ?_); conv => whnf) | (refine bc_intro (fun _ => ?_) (fun _ => ?_) <;> (conv => whnf))
                        all_goals try simp only [hsv3, hsv4, Int.toNat_natCast, Nat.zero_add, hc]
                        all_goals first
                          | exact Lf | exact ⟨trivial, trivial, rfl, by kernel_rfl⟩ | exact ⟨by omega, by omega⟩ | exact ⟨_, famL_at hRi, rfl, by rw [hsi.2 _ hR1]; omega⟩
                          | exact FamLe.trans (FamLe.mod (famL_set (x := (Li.getD (rankF (sortN l) [c.getD i default]) default).set lv ⟨c.getD (i - 1) default, ((Li.getD (rankF (sortN l) [c.getD i default]) default).getD lv default).right⟩) (fun _ => ⟨rfl, rfl, rfl⟩) hRi (List.length_set ..) (fun r hr => by subst hr; exact updLf hLi)) (fun _ => ⟨rfl, rfl, rfl⟩) (fun r r' h => upd_mono h)) (famL_set (fun _ => ⟨rfl, rfl, rfl⟩) hRj (List.length_set ..) (fun r hr => by subst hr; exact updRt hLj))
                          | exact ⟨⟨by omega, by omega⟩, (hsi.setLf hR1).setRt hR2, by rw [← hfi, show c.length - i = (c.length - (i + 1)) + 1 by omega, List.range'_succ, List.foldl_cons]⟩
                          | (split
                             · rw [famL_at hRi]; exact ⟨_, rfl, rfl, by show lv < _; rw [hsi.2 _ hR1]; omega⟩
                             · rw [famL_at (by rw [hsi.1]; exact hR2)]; exact ⟨_, rfl, rfl, by show lv < _; rw [hsi.2 _ hR2]; omega⟩)
                          | skip
                      · have hli0 : c.length ≤ i := by rw [decide_eq_false_iff_not] at hli; simp only [Int.toNat_natCast, encIs, cellOf] at hli; simp only [hc] at hli; omega
                        have e2 : Li = T2 := by rw [← hfi, show c.length - i = 0 by omega]; rfl
                        subst e2
                        conv => whnf
                        repeat' first | ((first | refine NextVC.mk (m + 1, Li) ?_ ?_ ?_ | refine Bt ?_ | refine Bf ?_ | refine Ni ?_ ?_ | refine Wq ?_ | refine Di ?_ | refine Oi ?_); conv => whnf) | (refine bc_intro (fun _ => ?_) (fun _ => ?_) <;> (conv => whnf))
                        all_goals try simp only [hsv2 hlm0]
                        all_goals first
                          | exact Lf | exact ⟨by omega, hsi, hfm2⟩
                          | skip
                  · simp only; exact ⟨by omega, by omega⟩
                · have hlm0 : (listsF (sortN l) lv).length ≤ m := by simpa using hlm
                  have e3 : Lm = T := by rw [← hfm, List.drop_eq_nil_of_le hlm0]; rfl
                  subst e3
                  conv => whnf
                  repeat' first | ((first | refine NextVC.mk (lv + 1, Lm) ?_ ?_ ?_ | refine Bt ?_ | refine Bf ?_ | refine Ni ?_ ?_ | refine Wq ?_ | refine Di ?_ | refine Oi ?_); conv => whnf) | (refine bc_intro (fun _ => ?_) (fun _ => ?_) <;> (conv => whnf))
                  all_goals try simp only [hsv hlt1]
                  all_goals first
                    | exact Lf | exact ⟨by omega, hsm, hf2⟩
                    | skip
            · exact ⟨hS.sort, by omega⟩
          · have hlt1 : h + 1 ≤ lv := by rw [hw1, decide_eq_false_iff_not] at hlt; simp only at hlt; omega
            have e4 : Ls = buildL (sortN l) h := by rw [← hf, show h + 1 - lv = 0 by omega]; rfl
            conv => whnf
            repeat' first | ((first | refine Bt ?_ | refine Bf ?_ | refine Ni ?_ ?_ | refine Wq ?_ | refine Di ?_ | refine Oi ?_); conv => whnf)
            refine ⟨Ls, ⟨e4, by rw [← hsl]; exact hsh⟩, ?_⟩
            conv => whnf
            repeat' first | ((first | refine Bt ?_ | refine Bf ?_ | refine Ni ?_ ?_ | refine Wq ?_ | refine Di ?_ | refine Oi ?_); conv => whnf)
            all_goals try simp only [hsl]
            all_goals first | exact Lf | exact FRowLe.refl _ _ _
  · exact hS
def builtF (s : List NodeT) (L : List (List LinkT)) : List LkdT := (List.range s.length).map fun i => ⟨(s.getD i default).id, L.getD i default⟩
theorem builtF_get {s : List NodeT} {L : List (List LinkT)} {i : Nat} (h : i < s.length) : (builtF s L).getD i default = ⟨(s.getD i default).id, L.getD i default⟩ := by
  simp [builtF, List.getD, h]
theorem build_d {l : List NodeT} {h : Nat} : (Sml l ∧ h ≤ 16) → Sx.Spec Tryz.prog GG 25 [.d (encL encN 3 l), .d (.int .i64 h)] [] (.tup [.d (encL encLk 2 (builtF (sortN l) (buildL (sortN l) h))), .d (.int .i64 0)]) [] := fun hh => by
  obtain ⟨x, ⟨rfl, hsh⟩, hs⟩ := build0 hh
  have hsl := sortN_len l
  have hcell : ∀ i j, i < l.length → j < 2 → FOk (famL 64 2 encK (buildL (sortN l) h)) (lkGet (sortN l) h i j) ∧ DLe (fcD (famL 64 2 encK (buildL (sortN l) h)) (lkGet (sortN l) h i j)) (cellOf encLk (builtF (sortN l) (buildL (sortN l) h)) i j) := by
    intro i j hi hj
    have hb := builtF_get (L := buildL (sortN l) h) (show i < (sortN l).length by omega)
    have hr := famL_at (E := 64) (s := 2) (enc := encK) (show i < (buildL (sortN l) h).length by rw [hsh.1]; exact hi)
    match j, hj with
    | 0, _ => exact ⟨trivial, DLe.of_eq (by simp only [cellOf, hb]; rfl)⟩
    | 1, _ =>
      refine ⟨⟨_, hr, rfl, Nat.le_of_eq (hsh.2 i hi).symm⟩, ?_⟩
      simp only [cellOf, hb]
      refine DLe.rows (hsh.2 i hi).symm ⟨fun a b ha hb => ?_⟩
      simp only [rowGet, hr]
      exact DLe.refl _
  have := Spec.pubNest (post0 := []) (pre := []) (m := 2000) (fn := 900000) hs rfl (fun i j hi hj => (hcell i j hi hj).1) (by simp) (by simp [pubV, pubC, Nat.beq_refl, inS, inL])
  simp only [pubV, pubC, Nat.beq_refl] at this
  refine this.res (LeS.tup (LeL.cons (LeS.d (DLe.rows (by simp [builtF, hsl]) ⟨fun i j hi hj => ?_⟩)) (LeL.refl _))) (by simp [inS, inL])
  have hi : i < l.length := by simpa [builtF, hsl] using hi
  rw [Nat.zero_add]
  exact (hcell i j hi hj).2
end Go.Proofs.YtiadnhbclipmhaaGreatDoor

namespace Go.Proofs.YtiadnhbclipmhaaGreatDoor
open Go Go.Sx Go.ChangeShapes Go.WideShapes Go.ChangeAt Go.RowKit
set_option linter.unusedVariables false
set_option linter.unusedSimpArgs false
set_option maxRecDepth 100000
theorem eqK_spec (a b : List LinkT) : (a.length ≤ 1000 ∧ b.length ≤ 1000) → Sx.Spec Tryz.prog GG 54 [.d (encL encK 2 a), .d (encL encK 2 b)] [] (.d (.bool (decide (a = b)))) [] := by
  rintro ⟨ha, hb⟩
  refine spec_intro (E := EE) (fn := Tryz.f54) eok (by kernel_rfl) (by kernel_rfl) Tryz.call54 (by kernel_rfl) (by kernel_rfl) ?_
  conv => whnf
  refine bc_intro (fun hne => ?_) (fun hne => ?_)
  · conv => whnf
    repeat' first | ((first | refine Bt ?_ | refine Bf ?_ | refine Ni ?_ ?_ | refine Wq ?_ | refine Di ?_ | refine Oi ?_); conv => whnf) | (refine bc_intro (fun _ => ?_) (fun _ => ?_) <;> (conv => whnf))
    refine ⟨LeS.of_eq ?_, trivial⟩
    have : a.length ≠ b.length := by intro e; rw [e] at hne; simp at hne
    rw [decide_eq_false (fun e => this (by rw [e]))]
  · have hl : a.length = b.length := by simp only [bne_eq_false_iff_eq] at hne; omega
    conv => whnf
    repeat' first | ((first | refine Bt ?_ | refine Bf ?_ | refine Ni ?_ ?_ | refine Wq ?_ | refine Di ?_ | refine Oi ?_); conv => whnf)
    refine loop_auto [0, 0 + 1, 11, 12] [] (fun i : Nat => [(13, .d (.int .i64 i))]) (fun _ => []) (fun i => i ≤ a.length ∧ decide (a = b) = decide (a.drop i = b.drop i)) (fun i => a.length - i) 0 ?_ (fun i hi => ?_) ⟨Nat.zero_le _, by simp⟩
    · conv => whnf
      repeat' first | ((first | refine Bt ?_ | refine Bf ?_ | refine Ni ?_ ?_ | refine Wq ?_ | refine Di ?_ | refine Oi ?_); conv => whnf) | (refine bc_intro (fun _ => ?_) (fun _ => ?_) <;> (conv => whnf))
      all_goals try first | exact Lq
    · obtain ⟨h1, h2⟩ := hi
      have e1 : i < a.length → IntKind.i64.wrap ((i : Int) + 1) = ((i + 1 : Nat) : Int) := fun h => wrap_succ (n := 1000) (by omega) (by omega)
      conv => whnf
      refine bc_intro (fun hlt => ?_) (fun hlt => ?_)
      · have hlt0 : i < a.length := by simpa using hlt
        have hst := eq_stepA hlt0 (show i < b.length by omega)
        rw [link_eq] at hst
        conv => whnf
        repeat' first | ((first | refine NextVC.mk (i + 1) ?_ ?_ ?_ | refine Bt ?_ | refine Bf ?_ | refine Ni ?_ ?_ | refine Wq ?_ | refine Di ?_ | refine Oi ?_); conv => whnf) | (refine bc_intro (fun _ => ?_) (fun _ => ?_) <;> (conv => whnf))
        all_goals try simp only [Int.toNat_natCast] at *
        all_goals first
          | exact Lf | exact DLe.of_eq (by rw [e1 hlt0]) | exact ⟨by omega, by omega⟩
          | (rename_i hq; simp only [Bool.not_eq_true'] at hq; refine ⟨LeS.of_eq ?_, trivial⟩; rw [h2, hst, show ((a.getD i default).left == (b.getD i default).left && (a.getD i default).right == (b.getD i default).right) = false from hq, Bool.false_and])
          | (rename_i hq; simp only [Bool.not_eq_false'] at hq; refine ⟨by omega, ?_⟩; rw [h2, hst, show ((a.getD i default).left == (b.getD i default).left && (a.getD i default).right == (b.getD i default).right) = true from hq, Bool.true_and])
          | skip
      · have hlt0 : a.length ≤ i := by simpa using hlt
        conv => whnf
        repeat' first | ((first | refine Bt ?_ | refine Bf ?_ | refine Ni ?_ ?_ | refine Wq ?_ | refine Di ?_ | refine Oi ?_); conv => whnf) | (refine bc_intro (fun _ => ?_) (fun _ => ?_) <;> (conv => whnf))
        refine ⟨LeS.of_eq ?_, trivial⟩
        rw [h2, eq_endA hlt0 (by omega)]
theorem same1_spec (x y : LkdT) : (x.levels.length ≤ 1000 ∧ y.levels.length ≤ 1000) → Sx.Spec Tryz.prog GG 53 [.agg [.d (.int .i64 x.id), .d (encL encK 2 x.levels)], .agg [.d (.int .i64 y.id), .d (encL encK 2 y.levels)]] [] (.d (.bool (decide (x = y)))) [] := by
  rintro ⟨hx, hy⟩
  refine spec_intro (E := EE) (fn := Tryz.f53) eok (by kernel_rfl) (by kernel_rfl) Tryz.call53 (by kernel_rfl) (by kernel_rfl) ?_
  conv => whnf
  repeat' first | ((first | refine Cf (eqK_spec _ _) ?_ ?_ | refine Bt ?_ | refine Bf ?_ | refine Ni ?_ ?_ | refine Wq ?_ | refine Di ?_ | refine Oi ?_); conv => whnf) | (refine bc_intro (fun _ => ?_) (fun _ => ?_) <;> (conv => whnf))
  all_goals first | exact ⟨hx, hy⟩ | (refine ⟨LeS.of_eq ?_, trivial⟩; rw [lkd_eq]; simp_all; done)
structure LksB (a : List LkdT) : Prop where
  len : a.length ≤ 1000
  lv : ∀ x ∈ a, x.levels.length ≤ 1000
theorem LksB.at {a : List LkdT} (h : LksB a) {i : Nat} (hi : i < a.length) : (a.getD i default).levels.length ≤ 1000 := h.lv _ (getD_mem2 hi)
theorem eqLk_spec (a b : List LkdT) : (LksB a ∧ LksB b) → Sx.Spec Tryz.prog GG 52 [.d (encL encLk 2 a), .d (encL encLk 2 b), .clo 53 []] [] (.d (.bool (decide (a = b)))) [] := by
  rintro ⟨ha, hb⟩
  have hal := ha.len
  have hbl := hb.len
  refine spec_intro (E := EE) (fn := Tryz.f52) eok (by kernel_rfl) (by kernel_rfl) Tryz.call52 (by kernel_rfl) (by kernel_rfl) ?_
  conv => whnf
  refine bc_intro (fun hne => ?_) (fun hne => ?_)
  · conv => whnf
    repeat' first | ((first | refine Bt ?_ | refine Bf ?_ | refine Ni ?_ ?_ | refine Wq ?_ | refine Di ?_ | refine Oi ?_); conv => whnf) | (refine bc_intro (fun _ => ?_) (fun _ => ?_) <;> (conv => whnf))
    refine ⟨LeS.of_eq ?_, trivial⟩
    have : a.length ≠ b.length := by intro e; rw [e] at hne; simp at hne
    rw [decide_eq_false (fun e => this (by rw [e]))]
  · have hl : a.length = b.length := by simp only [bne_eq_false_iff_eq] at hne; omega
    conv => whnf
    repeat' first | ((first | refine Bt ?_ | refine Bf ?_ | refine Ni ?_ ?_ | refine Wq ?_ | refine Di ?_ | refine Oi ?_); conv => whnf)
    refine loop_auto [0, 0 + 1, 0 + 1 + 1, 15, 16] [] (fun i : Nat => [(17, .d (.int .i64 i))]) (fun _ => []) (fun i => i ≤ a.length ∧ decide (a = b) = decide (a.drop i = b.drop i)) (fun i => a.length - i) 0 ?_ (fun i hi => ?_) ⟨Nat.zero_le _, by simp⟩
    · conv => whnf
      repeat' first | ((first | refine Bt ?_ | refine Bf ?_ | refine Ni ?_ ?_ | refine Wq ?_ | refine Di ?_ | refine Oi ?_); conv => whnf) | (refine bc_intro (fun _ => ?_) (fun _ => ?_) <;> (conv => whnf))
      all_goals try first | exact Lq
    · obtain ⟨h1, h2⟩ := hi
      have e1 : i < a.length → IntKind.i64.wrap ((i : Int) + 1) = ((i + 1 : Nat) : Int) := fun h => wrap_succ (n := 1000) (by omega) (by omega)
      conv => whnf
      refine bc_intro (fun hlt => ?_) (fun hlt => ?_)
      · have hlt0 : i < a.length := by simpa using hlt
        have hst := eq_stepA hlt0 (show i < b.length by omega)
        conv => whnf
        repeat' first | ((first | refine call_if (same1_spec (a.getD (i : Int).toNat default) (b.getD (i : Int).toNat default)) Fl (Ni ?_ ?_) | refine NextVC.mk (i + 1) ?_ ?_ ?_ | refine Bt ?_ | refine Bf ?_ | refine Ni ?_ ?_ | refine Wq ?_ | refine Di ?_ | refine Oi ?_); conv => whnf) | (refine bc_intro (fun _ => ?_) (fun _ => ?_) <;> (conv => whnf))
        all_goals try simp only [Int.toNat_natCast] at *
        all_goals first
          | exact Lf | exact DLe.of_eq (by rw [e1 hlt0]) | exact ⟨by omega, by omega⟩ | exact ⟨ha.at hlt0, hb.at (by omega)⟩ | (refine ⟨LeS.of_eq ?_, trivial⟩; rw [h2, hst]; simp_all; done) | (refine ⟨by omega, ?_⟩; rw [h2, hst]; simp_all; done)
          | skip
      · have hlt0 : a.length ≤ i := by simpa using hlt
        conv => whnf
        repeat' first | ((first | refine Bt ?_ | refine Bf ?_ | refine Ni ?_ ?_ | refine Wq ?_ | refine Di ?_ | refine Oi ?_); conv => whnf) | (refine bc_intro (fun _ => ?_) (fun _ => ?_) <;> (conv => whnf))
        refine ⟨LeS.of_eq ?_, trivial⟩
        rw [h2, eq_endA hlt0 (by omega)]
theorem sameLk_spec (a b : List LkdT) : (LksB a ∧ LksB b) → Sx.Spec Tryz.prog GG 26 [.d (encL encLk 2 a), .d (encL encLk 2 b)] [] (.d (.bool (decide (a = b)))) [] := by
  intro h
  refine spec_intro (E := EE) (fn := Tryz.f26) eok (by kernel_rfl) (by kernel_rfl) Tryz.call26 (by kernel_rfl) (by kernel_rfl) ?_
  conv => whnf
  repeat' first | ((first | refine Cf (eqLk_spec _ _) ?_ ?_ | refine Bt ?_ | refine Bf ?_ | refine Ni ?_ ?_ | refine Wq ?_ | refine Di ?_ | refine Oi ?_); conv => whnf) | (refine bc_intro (fun _ => ?_) (fun _ => ?_) <;> (conv => whnf))
  all_goals first | exact h | exact ⟨LeS.refl _, trivial⟩
theorem builtB {l : List NodeT} {h : Nat} (hl : l.length ≤ 64) (hh : h ≤ 16) : LksB (builtF l (buildL l h)) ∨ ¬ ShpL l.length h (buildL l h) := by
  by_cases hs : ShpL l.length h (buildL l h)
  · left
    refine ⟨by simp [builtF]; omega, fun x hx => ?_⟩
    simp only [builtF, List.mem_map, List.mem_range] at hx
    obtain ⟨i, hi, rfl⟩ := hx
    have := hs.2 i hi
    simp only at this ⊢
    omega
  · exact .inr hs
theorem exact_spec {nodes : List NodeT} {l : List LkdT} {h : Nat} : (Sml nodes ∧ h ≤ 16 ∧ LksB l) → Sx.Spec Tryz.prog GG 11 [.d (encL encN 3 nodes), .d (encL encLk 2 l), .d (.int .i64 h)] [] (.d (.bool (decide (l = builtF (sortN nodes) (buildL (sortN nodes) h))))) [] := by
  rintro ⟨hS, hh, hl⟩
  have hB : LksB (builtF (sortN nodes) (buildL (sortN nodes) h)) := by
    obtain ⟨x, ⟨rfl, hsh⟩, _⟩ := build0 ⟨hS, hh⟩
    have h20 := hS.l20
    rcases builtB (l := sortN nodes) (h := h) (by rw [sortN_len]; omega) hh with hb | hb
    · exact hb
    · exact absurd (by rw [sortN_len]; exact hsh) hb
  refine spec_intro (E := EE) (fn := Tryz.f11) eok (by kernel_rfl) (by kernel_rfl) Tryz.call11 (by kernel_rfl) (by kernel_rfl) ?_
  conv => whnf
  repeat' first | ((first | refine Cf (build_d) ?_ ?_ | refine Cf (sameLk_spec _ _) ?_ ?_ | refine Bt ?_ | refine Bf ?_ | refine Ni ?_ ?_ | refine Wq ?_ | refine Di ?_ | refine Oi ?_); conv => whnf) | (refine bc_intro (fun _ => ?_) (fun _ => ?_) <;> (conv => whnf))
  all_goals first | exact ⟨hS, hh⟩ | exact ⟨hl, hB⟩ | exact ⟨LeS.refl _, trivial⟩
end Go.Proofs.YtiadnhbclipmhaaGreatDoor
