/- Contracts of functions that the law reaches: YtiadnhbclipmhaaGreatDoorTP18. Written for this claim. -/
import Derived.Test.YtiadnhbclipmhaaGreatDoorTP15
namespace Go.Proofs.YtiadnhbclipmhaaGreatDoor
open Go Go.Sx Go.ChangeShapes Go.WideShapes Go.ChangeAt Go.RowKit
set_option linter.unusedVariables false
set_option linter.unusedSimpArgs false
set_option maxRecDepth 100000
theorem bnext_at (m : Nat) {nodes : List NodeT} {ps : List PeerT} {p : PeerT} {h : Nat} : ((∃ x ∈ nodes, x.id = p.id) ∧ Sml nodes ∧ PrsB ps ∧ PrB p ∧ h ≤ 16) → Sx.Spec Tryz.prog GG 73 [.d (encL encN 3 nodes), .d (encL encP 5 ps), peerS p, .d (.int .i64 h)] [] (.osl m 4 0 h) [(m, .row 58 4 h (cellOf encR (nextF nodes ps p h)))] := fun h => (bnext0 h).new1 m
theorem normal_mem {nodes : List NodeT} {ps : List PeerT} : ∀ p ∈ normalF nodes ps, ∃ x ∈ nodes, x.id = p.id := by
  intro p hp
  obtain ⟨x, hx, rfl⟩ := List.mem_map.1 hp
  refine ⟨x, sortN_mem.1 hx, ?_⟩
  unfold normal1F
  cases e : ps.find? (fun p => p.id == x.id) with
  | none => rfl
  | some q => have := List.find?_some e; simp only [beq_iff_eq] at this; exact this.symm
theorem bRound0 {nodes : List NodeT} {ps : List PeerT} {h : Nat} : (Sml nodes ∧ PrsB ps ∧ h ≤ 16) → Sx.Spec Tryz.prog GG 43 [.d (encL encN 3 nodes), .d (encL encP 5 ps), .d (.int .i64 h)] [] (.osl 2000 5 0 nodes.length)
    [(2000, .frow 900000 45 5 nodes.length (getPP (bRoundF nodes ps h))), (900000, .fam (2 * nodes.length) (famPR 3 58 (bRoundF nodes ps h)))] := by
  rintro ⟨hS, hP, h16⟩
  have hl := hS.l20
  have hlen := normal_len (nodes := nodes) (ps := ps)
  have hNB := normalB (nodes := nodes) hP (by omega)
  have hmem := normal_mem (nodes := nodes) (ps := ps)
  have cP : Tryz.prog.cellsOf 45 = 5 := by kernel_rfl
  have bP : Tryz.prog.bytesOf 45 = 72 := by kernel_rfl
  have hdef : bRoundF nodes ps h = (normalF nodes ps).map (bRound1F nodes (normalF nodes ps) h) := rfl
  have hg1 : decide ((h : Int) < 0) = false := by simp
  have hg2 : decide ((h : Int) > 16) = false := by simp; omega
  refine spec_introF (E := EE) (fn := Tryz.f43) eok (by kernel_rfl) (by kernel_rfl) Tryz.call43 (by kernel_rfl) (by kernel_rfl) (by kernel_rfl) ?_
  conv => whnf
  repeat' first | ((first | refine Cf (normal_d) ?_ ?_ | refine Bt ?_ | refine Bf ?_ | refine Ni ?_ ?_ | refine Wq ?_ | refine Di ?_ | refine Oi ?_); conv => whnf)
  · generalize hold : normalF nodes ps = old at *
    refine loop_auto [0, 0 + 1 + 1, 7, 20, 21] [] (fun x : Nat × List PeerT => [(22, .d (.int .i64 x.1)), (8, .osl 2000 5 0 x.1)]) (fun x => [(2000, .frow 900000 45 5 x.1 (getPP x.2)), (900000, .fam (2 * x.1) (famPR 3 58 x.2))])
      (fun x => x.1 ≤ old.length ∧ x.2 = (old.take x.1).map (bRound1F nodes old h)) (fun x => old.length - x.1) (0, []) ?_ (fun x hx => ?_) ⟨Nat.zero_le _, rfl⟩
    · conv => whnf
      repeat' first | ((first | refine Bt ?_ | refine Bf ?_ | refine Ni ?_ ?_ | refine Wq ?_ | refine Di ?_ | refine Oi ?_); conv => whnf) | (refine bc_intro (fun _ => ?_) (fun _ => ?_) <;> (conv => whnf))
      all_goals try first | exact Lq
      all_goals exact famPR_nil
    · obtain ⟨i, acc⟩ := x
      obtain ⟨hi, ha⟩ := hx
      simp only at hi ha
      have hs : i < old.length → IntKind.i64.wrap ((i : Int) + 1) = ((i + 1 : Nat) : Int) := fun h => wrap_succ (n := 1000) (by omega) (by omega)
      conv => whnf
      refine bc_intro (fun hlt => ?_) (fun hlt => ?_)
      · have hlt0 : i < old.length := by simpa using hlt
        have hsi := hs hlt0
        have hpm := hmem _ (getD_mem2 hlt0)
        have hpB := hNB.at hlt0
        have hpk := hpB.known
        have hla : acc.length = i := by rw [ha, List.length_map, List.length_take]; omega
        obtain ⟨z, hz⟩ : ∃ z, z = bRound1F nodes old h (old.getD i default) := ⟨_, rfl⟩
        obtain ⟨N, hN⟩ : ∃ N, N = nextF nodes old (old.getD i default) h := ⟨_, rfl⟩
        have hNl : N.length = h := by rw [hN]; exact next_len
        have hz1 : z.id = (old.getD i default).id := by rw [hz]; rfl
        have hz2 : z.left = (old.getD i default).left := by rw [hz]; rfl
        have hz3 : z.right = (old.getD i default).right := by rw [hz]; rfl
        have hz4 : z.near = N := by rw [hz, hN]; rfl
        have hz5 : z.known = (old.getD i default).known := by rw [hz]; rfl
        have hzn : z.near.length = h := by rw [hz4]; exact hNl
        have htk : (old.take (i + 1)).map (bRound1F nodes old h) = acc ++ [z] := by rw [take_snoc hlt0, List.map_append, hz, ha]; rfl
        have hnsp : Sx.Spec Tryz.prog GG 73 [.d (encL encN 3 nodes), .d (encL encP 5 old), peerS (old.getD (i : Int).toNat default), .d (.int .i64 h)] [] (.osl 4002 4 0 h) [(4002, .row 58 4 h (cellOf encR N))] := by rw [hN]; exact bnext_at 4002 ⟨hpm, hS, hNB, hpB, h16⟩
        conv => whnf
        repeat' first | ((first | refine Ci hnsp ?_ | refine Cf (cloneI_at 4001) ?_ ?_ | refine NextVC.mk (i + 1, acc ++ [z]) ?_ ?_ ?_ | refine Bt ?_ | refine Bf ?_ | refine Ni ?_ ?_ | refine Wq ?_ | refine Di ?_ | refine Oi ?_); conv => whnf)
        all_goals try simp only [cP, bP, Int.toNat_natCast, hsi]
        all_goals first | exact Lf | exact ⟨trivial, by omega, by omega⟩ | exact ⟨by omega, by omega⟩ | exact ⟨by omega, htk.symm⟩ | exact famPR_push (by omega) (by rw [hz5]) hzn.symm (by rw [hz5]; exact RowLe.refl _ _ _) (by rw [hz4]; exact RowLe.refl _ _ _) | exact getPP_push hla.symm rfl rfl (by rw [hz5]) hzn.symm (by rw [hz1]; rfl) (by rw [hz2]; rfl) (by rw [hz3]; rfl)
      · have hlt0 : old.length ≤ i := by simpa using hlt
        have e : acc = bRoundF nodes ps h := by rw [ha, take_ge hlt0, hdef]
        have e2 : i = nodes.length := by omega
        subst e e2
        conv => whnf
        repeat' first | ((first | refine Bt ?_ | refine Bf ?_ | refine Ni ?_ ?_ | refine Wq ?_ | refine Di ?_ | refine Oi ?_); conv => whnf)
        all_goals first | exact Lf | exact FRowLe.refl _ _ _ | exact FamLe.refl _
  all_goals exact ⟨hS, hP⟩
theorem bRound_len {nodes : List NodeT} {ps : List PeerT} {h : Nat} : (bRoundF nodes ps h).length = nodes.length := by rw [bRoundF, List.length_map, normal_len]
theorem bRound_d {nodes : List NodeT} {ps : List PeerT} {h : Nat} : (Sml nodes ∧ PrsB ps ∧ h ≤ 16) → Sx.Spec Tryz.prog GG 43 [.d (encL encN 3 nodes), .d (encL encP 5 ps), .d (.int .i64 h)] [] (.d (encL encP 5 (bRoundF nodes ps h))) [] := fun hh => by
  have hlen := bRound_len (nodes := nodes) (ps := ps) (h := h)
  have := Spec.pubNest (post0 := []) (pre := []) (m := 2000) (fn := 900000) (bRound0 hh) rfl (fun i j hi hj => (famPR_cell (by rw [hlen]; exact hi) hj).1) (by simp) (by simp [pubV, Nat.beq_refl, inS])
  simp only [pubV, Nat.beq_refl] at this
  refine this.res (LeS.d (DLe.rows hlen.symm ⟨fun i j hi hj => ?_⟩)) (by simp [inS])
  rw [Nat.zero_add]
  exact (famPR_cell hi hj).2
theorem links_len {nodes : List NodeT} {ps : List PeerT} {h : Nat} : (linksF nodes ps h).length = nodes.length := by rw [linksF, List.length_map, normal_len]
theorem links0_spec {nodes : List NodeT} {ps : List PeerT} {h : Nat} : (Sml nodes ∧ PrsB ps ∧ h ≤ 16) → Sx.Spec Tryz.prog GG 10 [.d (encL encN 3 nodes), .d (encL encP 5 ps), .d (.int .i64 h)] [] (.osl 2000 2 0 nodes.length)
    [(2000, .frow 900000 62 2 nodes.length (getLk (linksF nodes ps h))), (900000, .fam nodes.length (famLk 64 (linksF nodes ps h)))] := by
  rintro ⟨hS, hP, h16⟩
  have hl := hS.l20
  have hlen := normal_len (nodes := nodes) (ps := ps)
  have hNB := normalB (nodes := nodes) hP (by omega)
  have hmem := normal_mem (nodes := nodes) (ps := ps)
  have cP : Tryz.prog.cellsOf 62 = 2 := by kernel_rfl
  have bP : Tryz.prog.bytesOf 62 = 32 := by kernel_rfl
  have cK : Tryz.prog.cellsOf 64 = 2 := by kernel_rfl
  have bK : Tryz.prog.bytesOf 64 = 16 := by kernel_rfl
  have hdef : linksF nodes ps h = (normalF nodes ps).map (links1F nodes h) := rfl
  have hg1 : decide ((h : Int) < 0) = false := by simp
  have hg2 : decide ((h : Int) > 16) = false := by simp; omega
  have hw1 : IntKind.i64.wrap ((h : Int) + 1) = ((h + 1 : Nat) : Int) := wrap_succ (n := 1000) (by omega) (by omega)
  refine spec_introF (E := EE) (fn := Tryz.f10) eok (by kernel_rfl) (by kernel_rfl) Tryz.call10 (by kernel_rfl) (by kernel_rfl) (by kernel_rfl) ?_
  conv => whnf
  repeat' first | ((first | refine Cf (normal_d) ?_ ?_ | refine Bt ?_ | refine Bf ?_ | refine Ni ?_ ?_ | refine Wq ?_ | refine Di ?_ | refine Oi ?_); conv => whnf)
  · generalize hold : normalF nodes ps = old at *
    refine loop_auto [0, 0 + 1 + 1, 20, 21] [] (fun x : Nat × List LkdT => [(22, .d (.int .i64 x.1)), (7, .osl 2000 2 0 x.1)]) (fun x => [(2000, .frow 900000 62 2 x.1 (getLk x.2)), (900000, .fam x.1 (famLk 64 x.2))])
      (fun x => x.1 ≤ old.length ∧ x.2 = (old.take x.1).map (links1F nodes h)) (fun x => old.length - x.1) (0, []) ?_ (fun x hx => ?_) ⟨Nat.zero_le _, rfl⟩
    · conv => whnf
      repeat' first | ((first | refine Bt ?_ | refine Bf ?_ | refine Ni ?_ ?_ | refine Wq ?_ | refine Di ?_ | refine Oi ?_); conv => whnf) | (refine bc_intro (fun _ => ?_) (fun _ => ?_) <;> (conv => whnf))
      all_goals try first | exact Lq
      all_goals exact famLk_nil
    · obtain ⟨i, acc⟩ := x
      obtain ⟨hi, ha⟩ := hx
      simp only at hi ha
      have hs : i < old.length → IntKind.i64.wrap ((i : Int) + 1) = ((i + 1 : Nat) : Int) := fun h => wrap_succ (n := 1000) (by omega) (by omega)
      conv => whnf
      refine bc_intro (fun hlt => ?_) (fun hlt => ?_)
      · have hlt0 : i < old.length := by simpa using hlt
        have hsi := hs hlt0
        have hpm := hmem _ (getD_mem2 hlt0)
        have hpB := hNB.at hlt0
        have hla : acc.length = i := by rw [ha, List.length_map, List.length_take]; omega
        obtain ⟨z, hz⟩ : ∃ z, z = links1F nodes h (old.getD i default) := ⟨_, rfl⟩
        have hz1 : z.id = (old.getD i default).id := by rw [hz]; rfl
        have hz2 : z.levels = (List.range (h + 1)).map (linkP nodes (old.getD i default)) := by rw [hz]; rfl
        have htk : (old.take (i + 1)).map (links1F nodes h) = acc ++ [z] := by rw [take_snoc hlt0, List.map_append, hz, ha]; rfl
        conv => whnf
        repeat' first | ((first | refine Bt ?_ | refine Bf ?_ | refine Ni ?_ ?_ | refine Wq ?_ | refine Di ?_ | refine Oi ?_); conv => whnf)
        · refine loop_auto [0, 0 + 1 + 1, 20, 21, 22, 7, 9, 10, 30] [2000, 900000, 9] (fun x : Nat × List LinkT => [(31, .d (.int .i64 x.1))]) (fun x => [(10, .box [.d (.int .i64 z.id), .osl 3001 2 0 x.2.length]), (3001, .row 64 2 x.2.length (cellOf encK x.2))])
            (fun x => (x.1 ≤ h + 1 ∧ x.2.length = x.1) ∧ x.2 = (List.range x.1).map (linkP nodes (old.getD i default))) (fun x => h + 1 - x.1) (0, []) ?_ (fun x hx => ?_) ⟨⟨Nat.zero_le _, rfl⟩, rfl⟩
          · conv => whnf
            repeat' first | ((first | refine Bt ?_ | refine Bf ?_ | refine Ni ?_ ?_ | refine Wq ?_ | refine Di ?_ | refine Oi ?_); conv => whnf) | (refine bc_intro (fun _ => ?_) (fun _ => ?_) <;> (conv => whnf))
            all_goals try first | exact Lq
            all_goals first | exact row_nil | exact DLe.of_eq (by rw [hz1]; rfl)
          · obtain ⟨lv, L⟩ := x
            obtain ⟨⟨hlv, hLl⟩, hf⟩ := hx
            simp only at hlv hLl hf
            have hs2 : lv < h + 1 → IntKind.i64.wrap ((lv : Int) + 1) = ((lv + 1 : Nat) : Int) := fun h => wrap_succ (n := 1000) (by omega) (by omega)
            conv => whnf
            refine bc_intro (fun hjt => ?_) (fun hjt => ?_)
            · have hjt0 : lv < h + 1 := by rw [hw1, decide_eq_true_eq] at hjt; simp only at hjt; omega
              have hsj := hs2 hjt0
              obtain ⟨y, hy⟩ : ∃ y, y = linkP nodes (old.getD i default) lv := ⟨_, rfl⟩
              have hfn : L ++ [y] = (List.range (lv + 1)).map (linkP nodes (old.getD i default)) := by rw [List.range_succ, List.map_append, ← hf, hy]; rfl
              have hlsp : Sx.Spec Tryz.prog GG 24 [.d (encL encN 3 nodes), peerS (old.getD (i : Int).toNat default), .d (.int .i64 lv)] [] (linkS y) [] := by rw [hy]; exact link_spec _ _ _ ⟨hpm, hS, hpB, by omega⟩
              conv => whnf
              repeat' first | ((first | refine Ci hlsp ?_ | refine NextVC.mk (lv + 1, L ++ [y]) ?_ ?_ ?_ | refine Bt ?_ | refine Bf ?_ | refine Ni ?_ ?_ | refine Wq ?_ | refine Di ?_ | refine Oi ?_); conv => whnf)
              all_goals try simp only [cK, bK, Int.toNat_natCast, hsj, List.length_append, List.length_singleton]
              all_goals first | exact Lf | exact ⟨trivial, by omega, by omega⟩ | exact ⟨by omega, by omega⟩ | exact ⟨⟨by omega, by omega⟩, hfn⟩ | exact row_snoc rfl (RowLe.refl _ _ _) (jlt2 (DLe.of_eq rfl) (DLe.of_eq rfl))
            · have hjt0 : h + 1 ≤ lv := by rw [hw1, decide_eq_false_iff_not] at hjt; simp only at hjt; omega
              have e2 : lv = h + 1 := by omega
              subst e2
              have e3 : L = z.levels := by rw [hf, hz2]
              subst e3
              conv => whnf
              repeat' first | ((first | refine NextVC.mk (i + 1, acc ++ [z]) ?_ ?_ ?_ | refine Bt ?_ | refine Bf ?_ | refine Ni ?_ ?_ | refine Wq ?_ | refine Di ?_ | refine Oi ?_); conv => whnf)
              all_goals try simp only [cP, bP, Int.toNat_natCast, hsi]
              all_goals first | exact Lf | exact ⟨trivial, by omega, by omega⟩ | exact ⟨by omega, by omega⟩ | exact ⟨by omega, htk.symm⟩ | exact famLk_push hla.symm rfl (RowLe.refl _ _ _) | exact getLk_push hla.symm rfl rfl rfl
        · exact ⟨by simp only; omega, by simp only; omega⟩
      · have hlt0 : old.length ≤ i := by simpa using hlt
        have e : acc = linksF nodes ps h := by rw [ha, take_ge hlt0, hdef]
        have e2 : i = nodes.length := by omega
        subst e e2
        conv => whnf
        repeat' first | ((first | refine Bt ?_ | refine Bf ?_ | refine Ni ?_ ?_ | refine Wq ?_ | refine Di ?_ | refine Oi ?_); conv => whnf)
        all_goals first | exact Lf | exact FRowLe.refl _ _ _ | exact FamLe.refl _
  all_goals exact ⟨hS, hP⟩
theorem links_d {nodes : List NodeT} {ps : List PeerT} {h : Nat} : (Sml nodes ∧ PrsB ps ∧ h ≤ 16) → Sx.Spec Tryz.prog GG 10 [.d (encL encN 3 nodes), .d (encL encP 5 ps), .d (.int .i64 h)] [] (.d (encL encLk 2 (linksF nodes ps h))) [] := fun hh => by
  have hlen := links_len (nodes := nodes) (ps := ps) (h := h)
  have := Spec.pubNest (post0 := []) (pre := []) (m := 2000) (fn := 900000) (links0_spec hh) rfl (fun i j hi hj => (famLk_cell (by rw [hlen]; exact hi) hj).1) (by simp) (by simp [pubV, Nat.beq_refl, inS])
  simp only [pubV, Nat.beq_refl] at this
  refine this.res (LeS.d (DLe.rows hlen.symm ⟨fun i j hi hj => ?_⟩)) (by simp [inS])
  rw [Nat.zero_add]
  exact (famLk_cell hi hj).2
end Go.Proofs.YtiadnhbclipmhaaGreatDoor

namespace Go.Proofs.YtiadnhbclipmhaaGreatDoor
open Go Go.Sx Go.ChangeShapes Go.WideShapes Go.ChangeAt Go.RowKit
set_option linter.unusedVariables false
set_option linter.unusedSimpArgs false
set_option maxRecDepth 100000
theorem rRound0 {nodes : List NodeT} {ps : List PeerT} {h : Nat} : (Sml nodes ∧ PrsB ps ∧ h ≤ 16) → ∃ x : Nat × (Nat → Option FRow) × (Nat → Nat), NestP x.2.1 x.1 3 x.2.2 (rRoundF nodes ps h) ∧
    Sx.Spec Tryz.prog GG 20 [.d (encL encN 3 nodes), .d (encL encP 5 ps), .d (.int .i64 h)] [] (.osl 2000 5 0 nodes.length) [(2000, .frow 900000 45 5 nodes.length (peerGet x.2.2 (rRoundF nodes ps h))), (900000, .fam x.1 x.2.1)] := by
  rintro ⟨hS, hP, h16⟩
  have hl := hS.l20
  have hlin := lin_len (nodes := nodes) (ps := ps)
  have hrr := rR_len (nodes := nodes) (ps := ps) (h := h)
  have hbr := bR_len (nodes := nodes) (ps := ps) (h := h)
  obtain ⟨⟨nk, rows, key⟩, hN, hsp⟩ := linRound0 ⟨hS, hP⟩
  refine ⟨⟨nk, rows, key⟩, hN.congr (by rw [hlin, hrr]) (fun _ => rR_known), ?_⟩
  have hget := fun i => rR_get (nodes := nodes) (ps := ps) (h := h) (i := i)
  have hbsp := bRound_d (nodes := nodes) (ps := ps) (h := h) ⟨hS, hP, h16⟩
  generalize rRoundF nodes ps h = R at *
  generalize linRoundF nodes ps = L at *
  generalize bRoundF nodes ps h = B at *
  have hg1 : decide ((h : Int) < 0) = false := by simp
  have hg2 : decide ((h : Int) > 16) = false := by simp; omega
  refine spec_intro (E := EE) (fn := Tryz.f20) eok (by kernel_rfl) (by kernel_rfl) Tryz.call20 (by kernel_rfl) (by kernel_rfl) ?_
  conv => whnf
  repeat' first | ((first | refine Ci hsp ?_ | refine Ci hbsp ?_ | refine Bt ?_ | refine Bf ?_ | refine Ni ?_ ?_ | refine Wq ?_ | refine Di ?_ | refine Oi ?_); conv => whnf)
  refine loop_auto [22, 23] [900000] (fun i : Nat => [(24, .d (.int .i64 i)), (7, .osl 2000 5 0 nodes.length)]) (fun i => [(2000, .frow 900000 45 5 nodes.length (peerGet key (mixF L R i)))])
    (fun i => i ≤ nodes.length) (fun i => nodes.length - i) 0 ?_ (fun i hi => ?_) (Nat.zero_le _)
  · conv => whnf
    repeat' first | ((first | refine Bt ?_ | refine Bf ?_ | refine Ni ?_ ?_ | refine Wq ?_ | refine Di ?_ | refine Oi ?_); conv => whnf) | (refine bc_intro (fun _ => ?_) (fun _ => ?_) <;> (conv => whnf))
    all_goals try first | exact Lq
    all_goals exact by rw [mix_zero]; exact FRowLe.refl _ _ _
  · have hs : i < nodes.length → IntKind.i64.wrap ((i : Int) + 1) = ((i + 1 : Nat) : Int) := fun h => wrap_succ (n := 1000) (by omega) (by omega)
    conv => whnf
    refine bc_intro (fun hlt => ?_) (fun hlt => ?_)
    · have hlt0 : i < nodes.length := by rw [decide_eq_true_eq] at hlt; simp only [hbr] at hlt; omega
      have hsi := hs hlt0
      conv => whnf
      repeat' first | ((first | refine NextVC.mk (i + 1) ?_ ?_ ?_ | refine Bt ?_ | refine Bf ?_ | refine Ni ?_ ?_ | refine Wq ?_ | refine Di ?_ | refine Oi ?_); conv => whnf)
      all_goals try simp only [Int.toNat_natCast, hsi, Nat.zero_add]
      all_goals first
        | exact Lf | exact ⟨by omega, by omega⟩
        | (rw [← hlin]; exact mix_step (by rw [hlin, hrr]) (by omega) (by rw [hget i hlt0]) (DLe.of_eq (by rw [hget i hlt0]; rfl)))
    · have hlt0 : nodes.length ≤ i := by rw [decide_eq_false_iff_not] at hlt; simp only [hbr] at hlt; omega
      have e2 : i = nodes.length := by omega
      subst e2
      rw [← hlin, mix_full (by rw [hlin, hrr])]
      conv => whnf
      repeat' first | ((first | refine Bt ?_ | refine Bf ?_ | refine Ni ?_ ?_ | refine Wq ?_ | refine Di ?_ | refine Oi ?_); conv => whnf)
      all_goals first | exact Lf | exact FRowLe.refl _ _ _
abbrev ER : List Nat := (8000000 + 20) :: EE
theorem eokR : EOk Tryz.prog ER := by
  refine ⟨by kernel_rfl, ?_⟩
  intro T hT
  rw [memN_iff, List.mem_cons] at hT
  rcases hT with rfl | hT
  · exact ⟨by kernel_rfl, by kernel_rfl⟩
  · exact eok.2 T (memN_iff.2 hT)
end Go.Proofs.YtiadnhbclipmhaaGreatDoor

namespace Go.Proofs.YtiadnhbclipmhaaGreatDoor
open Go Go.Sx Go.ChangeShapes Go.WideShapes Go.ChangeAt Go.RowKit
set_option linter.unusedVariables false
set_option linter.unusedSimpArgs false
set_option maxRecDepth 100000
theorem rounds_spec (n h : Nat) : (n ≤ 64 ∧ h ≤ 16) → Sx.Spec Tryz.prog GG 9 [.d (.int .i64 n), .d (.int .i64 h)] [] (.d (.int .i64 ((n * (h + 1) : Nat) : Int))) [] := by
  rintro ⟨h1, h2⟩
  have hw1 : IntKind.i64.wrap ((h : Int) + 1) = ((h + 1 : Nat) : Int) := wrap_succ (n := 1000) (by omega) (by omega)
  have hb : n * (h + 1) ≤ 64 * 17 := Nat.mul_le_mul h1 (by omega)
  have hw2 : IntKind.i64.wrap ((n : Int) * ((h + 1 : Nat) : Int)) = ((n * (h + 1) : Nat) : Int) := by
    rw [← Int.natCast_mul]; exact wrap_of (by omega) (by omega)
  refine spec_intro (E := EE) (fn := Tryz.f9) eok (by kernel_rfl) (by kernel_rfl) Tryz.call9 (by kernel_rfl) (by kernel_rfl) ?_
  conv => whnf
  repeat' first | ((first | refine Bt ?_ | refine Bf ?_ | refine Ni ?_ ?_ | refine Wq ?_ | refine Di ?_ | refine Oi ?_); conv => whnf) | (refine bc_intro (fun _ => ?_) (fun _ => ?_) <;> (conv => whnf))
  all_goals try simp only [decide_eq_true_eq, decide_eq_false_iff_not, hw1, hw2] at *
  all_goals first | omega | exact ⟨LeS.refl _, trivial⟩
def RunOk (nodes : List NodeT) (ps : List PeerT) (h i : Nat) (nk : Nat) (rows : Nat → Option FRow) (get : Nat → Nat → FC) : Prop :=
  (i = 0 → nk = 2 * nodes.length ∧ rows = famPR 3 58 (normalF nodes ps) ∧ get = getPP (normalF nodes ps)) ∧
  (0 < i → ∃ key, get = peerGet key (runF nodes h i (normalF nodes ps)) ∧ NestP rows nk 3 key (runF nodes h i (normalF nodes ps)))
theorem run_len {nodes : List NodeT} {ps : List PeerT} {h i : Nat} : (runF nodes h i (normalF nodes ps)).length = nodes.length := by
  cases i with
  | zero => exact normal_len
  | succ i => exact rR_len
theorem runB {nodes : List NodeT} {ps : List PeerT} {h i : Nat} (hP : PrsB ps) (hn : nodes.length ≤ 1000) (hh : h ≤ 1000) : PrsB (runF nodes h i (normalF nodes ps)) := by
  cases i with
  | zero => exact normalB hP hn
  | succ i => exact rRB hn hh
theorem RunOk.cells {nodes : List NodeT} {ps : List PeerT} {h i nk : Nat} {rows : Nat → Option FRow} {get : Nat → Nat → FC} (hr : RunOk nodes ps h i nk rows get) {a b : Nat} (ha : a < nodes.length) (hb : b < 5) :
    FOk rows (get a b) ∧ DLe (fcD rows (get a b)) (cellOf encP (runF nodes h i (normalF nodes ps)) a b) := by
  rcases Nat.eq_zero_or_pos i with h0 | h0
  · obtain ⟨_, rfl, rfl⟩ := hr.1 h0
    subst h0
    exact famPR_cell (by rw [normal_len]; exact ha) hb
  · obtain ⟨key, rfl, hN⟩ := hr.2 h0
    exact peerGet_cell hN (by rw [run_len]; exact ha) hb
set_option maxHeartbeats 1000000 in
theorem run0 {nodes : List NodeT} {ps : List PeerT} {h n : Nat} : (Sml nodes ∧ PrsB ps ∧ h ≤ 16 ∧ n ≤ 4096) → ∃ x : Nat × (Nat → Option FRow) × (Nat → Nat → FC), RunOk nodes ps h n x.1 x.2.1 x.2.2 ∧
    Sx.Spec Tryz.prog GG 7 [.d (encL encN 3 nodes), .d (encL encP 5 ps), .d (.int .i64 h), .d (.int .i64 n)] [] (.osl 2000 5 0 nodes.length) [(2000, .frow 900000 45 5 nodes.length x.2.2), (900000, .fam x.1 x.2.1)] := by
  rintro ⟨hS, hP, h16, hn⟩
  have hl := hS.l20
  have hg1 : decide ((h : Int) < 0) = false := by simp
  have hg2 : decide ((h : Int) > 16) = false := by simp; omega
  have hm : (if 0 > (if (4096 : Int) < n then (4096 : Int) else n) then (0 : Int) else (if (4096 : Int) < n then (4096 : Int) else n)) = (n : Int) := by
    rw [if_neg (show ¬ (4096 : Int) < n by omega), if_neg (show ¬ (0 : Int) > n by omega)]
  refine spec_some (E := ER) (fn := Tryz.f7) _ _ _ true eokR (by kernel_rfl) (by kernel_rfl) Tryz.call7 (by kernel_rfl) (fun _ => by kernel_rfl) (fun _ => by kernel_rfl) ?_
  conv => whnf
  repeat' first | ((first | refine Cf (normal0) ?_ ?_ | refine Bt ?_ | refine Bf ?_ | refine Ni ?_ ?_ | refine Wq ?_ | refine Di ?_ | refine Oi ?_); conv => whnf)
  · refine loop_auto [0, 0 + 1 + 1, 21] [] (fun x : Nat × Nat × (Nat → Option FRow) × (Nat → Nat → FC) => [(22, .d (.int .i64 x.1)), (9, .osl 2000 5 0 nodes.length)]) (fun x => [(2000, .frow 900000 45 5 nodes.length x.2.2.2), (900000, .fam x.2.1 x.2.2.1)])
      (fun x => x.1 ≤ n ∧ RunOk nodes ps h x.1 x.2.1 x.2.2.1 x.2.2.2) (fun x => n - x.1) (0, 2 * nodes.length, famPR 3 58 (normalF nodes ps), getPP (normalF nodes ps)) ?_ (fun x hx => ?_) ⟨Nat.zero_le _, fun _ => ⟨rfl, rfl, rfl⟩, fun h => absurd h (Nat.lt_irrefl 0)⟩
    · conv => whnf
      repeat' first | ((first | refine Bt ?_ | refine Bf ?_ | refine Ni ?_ ?_ | refine Wq ?_ | refine Di ?_ | refine Oi ?_); conv => whnf) | (refine bc_intro (fun _ => ?_) (fun _ => ?_) <;> (conv => whnf))
      all_goals try first | exact Lq
    · obtain ⟨i, nk, rows, get⟩ := x
      obtain ⟨hi, hR⟩ := hx
      simp only at hi hR
      have hs : i < n → IntKind.i64.wrap ((i : Int) + 1) = ((i + 1 : Nat) : Int) := fun h => wrap_succ (n := 10000) (by omega) (by omega)
      conv => whnf
      refine bc_intro (fun hlt => ?_) (fun hlt => ?_)
      · have hlt0 : i < n := by rw [decide_eq_true_eq] at hlt; simp only at hlt; rw [hm] at hlt; omega
        have hsi := hs hlt0
        obtain ⟨⟨nk', rows', key'⟩, hN', hsp'⟩ := rRound0 (ps := runF nodes h i (normalF nodes ps)) ⟨hS, runB hP (by omega) (by omega), h16⟩
        have hsp2 := hsp'.new2 3000 900001 (by decide) (by decide)
        simp only [renL, renS, renB, if_true, show ¬ (900000 : Nat) = 2000 by decide, if_false] at hsp2
        have hle : LeL [.d (encL encN 3 nodes), .d (.list nodes.length 5 fun a b => fcD rows (get (0 + a) b)), .d (.int .i64 h)] [.d (encL encN 3 nodes), .d (encL encP 5 (runF nodes h i (normalF nodes ps))), .d (.int .i64 h)] :=
          LeL.cons (LeS.refl _) (LeL.cons (LeS.d (DLe.rows run_len.symm ⟨fun a b ha hb => by rw [Nat.zero_add]; exact (hR.cells (by rw [run_len] at ha; exact ha) hb).2⟩)) (LeL.cons (LeS.refl _) LeL.nil))
        conv => whnf
        repeat' first | ((first | refine Ci (hsp2.arg hle) ?_ | refine NextVC.mk (i + 1, nk', rows', peerGet key' (rRoundF nodes (runF nodes h i (normalF nodes ps)) h)) ?_ ?_ ?_ | refine Bt ?_ | refine Bf ?_ | refine Ni ?_ ?_ | refine Wq ?_ | refine Di ?_ | refine Oi ?_); conv => whnf)
        all_goals try simp only [hsi]
        all_goals first
          | exact Lf
          | exact fun a b ha hb => (hR.cells ha hb).1
          | exact fun a b ha hb => by rw [Nat.zero_add]; exact (hR.cells ha hb).1
          | exact ⟨by omega, fun h => absurd h (by omega), fun _ => ⟨key', rfl, hN'⟩⟩
          | exact FRowLe.refl _ _ _ | exact FamLe.refl _
      · have hlt0 : n ≤ i := by rw [decide_eq_false_iff_not] at hlt; simp only at hlt; rw [hm] at hlt; omega
        have e2 : i = n := by omega
        subst e2
        conv => whnf
        repeat' first | ((first | refine Bt ?_ | refine Bf ?_ | refine Ni ?_ ?_ | refine Wq ?_ | refine Di ?_ | refine Oi ?_); conv => whnf)
        refine ⟨(nk, rows, get), hR, ?_⟩
        conv => whnf
        repeat' first | ((first | refine Bt ?_ | refine Bf ?_ | refine Ni ?_ ?_ | refine Wq ?_ | refine Di ?_ | refine Oi ?_); conv => whnf)
        all_goals first | exact Lf | exact FRowLe.refl _ _ _
  all_goals exact ⟨hS, hP⟩
theorem run_d {nodes : List NodeT} {ps : List PeerT} {h n : Nat} : (Sml nodes ∧ PrsB ps ∧ h ≤ 16 ∧ n ≤ 4096) → Sx.Spec Tryz.prog GG 7 [.d (encL encN 3 nodes), .d (encL encP 5 ps), .d (.int .i64 h), .d (.int .i64 n)] [] (.d (encL encP 5 (runF nodes h n (normalF nodes ps)))) [] := fun hh => by
  obtain ⟨⟨nk, rows, get⟩, hR, hsp⟩ := run0 hh
  have hlen := run_len (nodes := nodes) (ps := ps) (h := h) (i := n)
  have := Spec.pubNest (post0 := []) (pre := []) (m := 2000) (fn := 900000) hsp rfl (fun i j hi hj => (hR.cells hi hj).1) (by simp) (by simp [pubV, Nat.beq_refl, inS])
  simp only [pubV, Nat.beq_refl] at this
  refine this.res (LeS.d (DLe.rows hlen.symm ⟨fun i j hi hj => ?_⟩)) (by simp [inS])
  rw [Nat.zero_add]
  rw [hlen] at hi
  exact (hR.cells hi hj).2
end Go.Proofs.YtiadnhbclipmhaaGreatDoor
