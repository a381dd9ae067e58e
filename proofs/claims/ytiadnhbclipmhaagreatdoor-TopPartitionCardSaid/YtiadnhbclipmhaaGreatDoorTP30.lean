/- Contracts of functions that the law reaches: YtiadnhbclipmhaaGreatDoorTP30. Written for this claim. -/
import Derived.Test.YtiadnhbclipmhaaGreatDoorTP27
import Derived.Test.YtiadnhbclipmhaaGreatDoorSxPub2
import Derived.Test.YtiadnhbclipmhaaGreatDoorSxInsr
namespace Go.Proofs.YtiadnhbclipmhaaGreatDoor
open Go Go.Sx Go.ChangeShapes Go.WideShapes Go.ChangeAt Go.RowKit
set_option linter.unusedVariables false
set_option linter.unusedSimpArgs false
set_option maxRecDepth 100000
structure JInv (nodes : List NodeT) (n c : Nat) (ps : List PeerT) : Prop where
  len : ps.length = n
  ids : ∀ j, j < n → (ps.getD j default).id = (nodes.getD j default).id
  kn : ∀ j, j < n → (ps.getD j default).known.length ≤ 4 + c
  nr : ∀ j, j < n → (ps.getD j default).near.length ≤ 18 + c
theorem JInv.set {nodes : List NodeT} {n c p : Nat} {ps : List PeerT} (hJ : JInv nodes n c ps) {q : PeerT} (hp : p < n) (h1 : q.id = (ps.getD p default).id) (h2 : q.known.length ≤ 4 + (c + 1)) (h3 : q.near.length ≤ 18 + (c + 1)) : JInv nodes n (c + 1) (ps.set p q) := by
  have hpl := hJ.len
  have hxp : p < ps.length := by omega
  refine ⟨by rw [List.length_set]; exact hpl, fun j hj => ?_, fun j hj => ?_, fun j hj => ?_⟩
  · rw [set_get hxp]; split
    · rename_i e; rw [e, h1]; exact hJ.ids p hp
    · exact hJ.ids j hj
  · rw [set_get hxp]; split
    · exact h2
    · exact Nat.le_trans (hJ.kn j hj) (by omega)
  · rw [set_get hxp]; split
    · exact h3
    · exact Nat.le_trans (hJ.nr j hj) (by omega)
theorem JInv.prsB {nodes : List NodeT} {n c : Nat} {ps : List PeerT} (hJ : JInv nodes n c ps) (h : n + c ≤ 900) : PrsB ps := by
  have hl := hJ.len
  refine ⟨by omega, fun p hp => ?_⟩
  obtain ⟨i, hi, rfl⟩ := List.getElem_of_mem hp
  have e : ps.getD i default = ps[i] := by simp [List.getD, hi]
  have h1 := hJ.kn i (by omega)
  have h2 := hJ.nr i (by omega)
  rw [e] at h1 h2
  exact ⟨by omega, by omega⟩
theorem JInv.mono {nodes : List NodeT} {n c d : Nat} {ps : List PeerT} (hJ : JInv nodes n c ps) (h : c ≤ d) : JInv nodes n d ps :=
  ⟨hJ.len, hJ.ids, fun j hj => Nat.le_trans (hJ.kn j hj) (by omega), fun j hj => Nat.le_trans (hJ.nr j hj) (by omega)⟩
theorem peer_at {ps : List PeerT} (hn : (ps.map (·.id)).Nodup) {i : Nat} (h : i < ps.length) : peerF ps (ps.getD i default).id = ps.getD i default := by
  unfold peerF
  induction ps generalizing i with
  | nil => simp at h
  | cons y ps ih =>
    simp only [List.map_cons, List.nodup_cons] at hn
    rw [List.find?_cons]
    cases i with
    | zero => simp [List.getD]
    | succ i =>
      have hi : i < ps.length := by simpa using h
      have e : (y :: ps).getD (i + 1) default = ps.getD i default := rfl
      rw [e]
      have hne : y.id ≠ (ps.getD i default).id := fun h' => hn.1 (h' ▸ List.mem_map.2 ⟨_, getD_mem2 hi, rfl⟩)
      have : (y.id == (ps.getD i default).id) = false := by simpa [-List.getD_eq_getElem?_getD] using hne
      rw [this]
      exact ih hn.2 hi
theorem JInv.map {nodes : List NodeT} {c : Nat} {ps : List PeerT} (hJ : JInv nodes nodes.length c ps) : ps.map (·.id) = nodes.map (·.id) := by
  have hl := hJ.len
  refine List.ext_getElem (by simp [hl]) fun i h1 h2 => ?_
  have hi : i < nodes.length := by simpa using h2
  have := hJ.ids i hi
  simpa [List.getD, hi, hl] using this
theorem conn_chain {nodes : List NodeT} {c : Nat} {ps : List PeerT} (hr : Rst nodes) (hJ : JInv nodes nodes.length c ps) (h : ∀ m, 1 ≤ m → m < nodes.length → (nodes.getD (m - 1) default).id ∈ (ps.getD m default).known) : ConnS nodes ps := by
  intro S hS
  have hl := hJ.len
  have hnd : (ps.map (·.id)).Nodup := by rw [hJ.map]; exact hr.ids
  have key : ∀ m, m < nodes.length → (S (nodes.getD m default).id ↔ S (nodes.getD 0 default).id) := by
    intro m
    induction m with
    | zero => intro _; exact Iff.rfl
    | succ m ih =>
      intro hm
      refine Iff.trans ?_ (ih (by omega))
      have hp : peerF ps (nodes.getD (m + 1) default).id = ps.getD (m + 1) default := by
        rw [← hJ.ids (m + 1) hm]; exact peer_at hnd (by omega)
      have hk := h (m + 1) (by omega) hm
      rw [Nat.add_sub_cancel] at hk
      refine hS _ (getD_mem2 hm) _ (by rw [hp]; simp only [numsF, List.mem_append]; exact .inl (.inl hk)) ⟨_, getD_mem2 (show m < nodes.length by omega), rfl⟩ ?_
      rw [hp, hJ.ids (m + 1) hm]
      intro e
      have hn := hr.ids
      have e1 : (nodes.map (·.id))[m]'(by simp; omega) = (nodes.map (·.id))[m + 1]'(by simp; omega) := by
        simp only [List.getElem_map]
        simpa [List.getD, hm, show m < nodes.length by omega] using e
      exact (List.pairwise_iff_getElem.1 hn m (m + 1) (by simp; omega) (by simp; omega) (by omega)) e1
  intro x hx y hy
  obtain ⟨i, hi, rfl⟩ := List.getElem_of_mem hx
  obtain ⟨j, hj, rfl⟩ := List.getElem_of_mem hy
  have h1 := key i hi
  have h2 := key j hj
  rw [show nodes.getD i default = nodes[i] by simp [List.getD, hi]] at h1
  rw [show nodes.getD j default = nodes[j] by simp [List.getD, hj]] at h2
  exact h1.trans h2.symm
set_option maxHeartbeats 2000000 in
theorem joined0 {l : List Int} {a : Nat} {nodes : List NodeT} {h : Nat} : (TapeOk l a ∧ Rst nodes ∧ nodes.length ≤ 20 ∧ h ≤ 16) → ∃ x : (List PeerT × Nat) × Nat × (Nat → Option FRow) × (Nat → Nat) × (Nat → Nat), ((JInv nodes nodes.length 100 x.1.1 ∧ ConnS nodes x.1.1) ∧ PN x.2.2.1 x.2.1 3 58 x.2.2.2.1 x.2.2.2.2 x.1.1 ∧ TapeOk l x.1.2) ∧
    Sx.Spec Tryz.prog GG 8 [.ptr 1000 0, .d (encL encN 3 nodes), .d (.int .i64 h)] [(1000, tapeB l a)] (.osl 5000 5 0 nodes.length)
      [(1000, tapeB l x.1.2), (5000, .frow 900000 45 5 nodes.length (getQ x.2.2.2.1 x.2.2.2.2 x.1.1)), (900000, .fam x.2.1 x.2.2.1)] := by
  rintro ⟨hT, hr, hl, h16⟩
  have cP : Tryz.prog.cellsOf 45 = 5 := by kernel_rfl
  have bP : Tryz.prog.bytesOf 45 = 72 := by kernel_rfl
  have cZ : Tryz.prog.cellsOf 3 = 1 := by kernel_rfl
  have bZ : Tryz.prog.bytesOf 3 = 8 := by kernel_rfl
  have cR : Tryz.prog.cellsOf 58 = 4 := by kernel_rfl
  have bR : Tryz.prog.bytesOf 58 = 32 := by kernel_rfl
  refine spec_someF (E := EE) (fn := Tryz.f8) _ _ _ true eok (by kernel_rfl) (by kernel_rfl) Tryz.call8 (by kernel_rfl) (fun _ => by kernel_rfl) (fun _ => by kernel_rfl) (by kernel_rfl) ?_
  conv => whnf
  repeat' first | ((first | refine Bt ?_ | refine Bf ?_ | refine Ni ?_ ?_ | refine Wq ?_ | refine Di ?_ | refine Oi ?_); conv => whnf)
  refine loop_auto [0, 0 + 1, 0 + 1 + 1] [] (fun x : (Nat × List PeerT × Nat) × Nat × (Nat → Option FRow) × (Nat → Nat) × (Nat → Nat) => [(8, .d (.int .i64 x.1.1)), (7, .osl 5000 5 0 x.1.1)]) (fun x => [(1000, tapeB l x.1.2.2), (5000, .frow 900000 45 5 x.1.1 (getQ x.2.2.2.1 x.2.2.2.2 x.1.2.1)), (900000, .fam x.2.1 x.2.2.1)])
    (fun x => x.1.1 ≤ nodes.length ∧ JInv nodes x.1.1 0 x.1.2.1 ∧ PN x.2.2.1 x.2.1 3 58 x.2.2.2.1 x.2.2.2.2 x.1.2.1 ∧ TapeOk l x.1.2.2) (fun x => nodes.length - x.1.1) ((0, [], a), 0, (fun _ => none), id, id) ?_ (fun x hx => ?_) ⟨Nat.zero_le _, ⟨rfl, fun j h => absurd h (Nat.not_lt_zero _), fun j h => absurd h (Nat.not_lt_zero _), fun j h => absurd h (Nat.not_lt_zero _)⟩, PN.nil, hT⟩
  · conv => whnf
    repeat' first | ((first | refine Bt ?_ | refine Bf ?_ | refine Ni ?_ ?_ | refine Wq ?_ | refine Di ?_ | refine Oi ?_); conv => whnf) | (refine bc_intro (fun _ => ?_) (fun _ => ?_) <;> (conv => whnf))
    all_goals try first | exact Lq
  · obtain ⟨⟨i, ps, a1⟩, nk, rows, kn, kr⟩ := x
    obtain ⟨hi, hJ, hN, hT1⟩ := hx
    simp only at hi hJ hN hT1
    have hpl := hJ.len
    conv => whnf
    refine bc_intro (fun hlt => ?_) (fun hlt => ?_)
    · have hlt0 : i < nodes.length := by simpa using hlt
      have hw1 : IntKind.i64.wrap ((i : Int) + 1) = ((i + 1 : Nat) : Int) := wrap_succ (n := 1000) (by omega) (by omega)
      obtain ⟨⟨p, a2⟩, ⟨⟨hp1, hp2⟩, hT2⟩, hpsp⟩ := tpeer0 (h := h) ⟨hT1, hr, h16⟩
      simp only at hp1 hp2 hT2 hpsp
      obtain ⟨z, hz⟩ : ∃ z : PeerT, z = { p with id := (nodes.getD i default).id } := ⟨_, rfl⟩
      have hz1 : z.id = (nodes.getD i default).id := by rw [hz]
      have hz2 : z.known = p.known := by rw [hz]
      have hz3 : z.near = p.near := by rw [hz]
      have hz4 : z.left = p.left := by rw [hz]
      have hz5 : z.right = p.right := by rw [hz]
      conv => whnf
      repeat' first | ((first | refine Ci hpsp ?_ | refine NextVC.mk ((i + 1, ps ++ [z], a2), nk + 1 + 1, putR (putR rows nk (some ⟨3, 1, p.known.length, cellOf encZ p.known⟩)) (nk + 1) (some ⟨58, 4, p.near.length, cellOf encR p.near⟩), updN kn ps.length nk, updN kr ps.length (nk + 1)) ?_ ?_ ?_ | refine Bt ?_ | refine Bf ?_ | refine Ni ?_ ?_ | refine Wq ?_ | refine Di ?_ | refine Oi ?_); conv => whnf)
      all_goals try simp only [hw1, cP, bP, Int.toNat_natCast]
      all_goals first
        | exact Lf | exact ⟨by omega, by omega⟩ | exact ⟨trivial, by omega, by omega⟩ | exact FamLe.refl _ | exact getQ_push hpl.symm (by rw [hz2]) (by rw [hz3]) (by rw [hz1]; rfl) (by rw [hz4]) (by rw [hz5])
        | (refine ⟨by omega, ⟨by rw [List.length_append, hpl]; rfl, fun j hj => ?_, fun j hj => ?_, fun j hj => ?_⟩, hN.push (by rw [hz2]) (by rw [hz3]) (by rw [hz2]; exact RowLe.refl _ _ _) (by rw [hz3]; exact RowLe.refl _ _ _), hT2⟩
           · rw [snoc_get]; split
             · rename_i e; rw [hz1, e, hpl]
             · rename_i e; exact hJ.ids j (by omega)
           · rw [snoc_get]; split
             · rw [hz2]; exact hp1
             · rename_i e; exact hJ.kn j (by omega)
           · rw [snoc_get]; split
             · rw [hz3]; exact hp2
             · rename_i e; exact hJ.nr j (by omega))
    · have hlt0 : nodes.length ≤ i := by simpa using hlt
      have e0 : i = nodes.length := by omega
      subst e0
      conv => whnf
      repeat' first | ((first | refine Bt ?_ | refine Bf ?_ | refine Ni ?_ ?_ | refine Wq ?_ | refine Di ?_ | refine Oi ?_); conv => whnf)
      refine loop_auto [0, 0 + 1, 0 + 1 + 1] [] (fun x : (Nat × List PeerT × Nat) × Nat × (Nat → Option FRow) × (Nat → Nat) × (Nat → Nat) => [(10, .d (.int .i64 x.1.1)), (7, .osl 5000 5 0 nodes.length)]) (fun x => [(1000, tapeB l x.1.2.2), (5000, .frow 900000 45 5 nodes.length (getQ x.2.2.2.1 x.2.2.2.2 x.1.2.1)), (900000, .fam x.2.1 x.2.2.1)])
        (fun x => (1 ≤ x.1.1 ∧ x.1.1 ≤ nodes.length + 1) ∧ JInv nodes nodes.length x.1.1 x.1.2.1 ∧ PN x.2.2.1 x.2.1 3 58 x.2.2.2.1 x.2.2.2.2 x.1.2.1 ∧ TapeOk l x.1.2.2) (fun x => nodes.length + 1 - x.1.1) ((1, ps, a1), nk, rows, kn, kr) ?_ (fun x hx => ?_) ⟨⟨Nat.le_refl _, by simp⟩, ⟨hJ.len, hJ.ids, fun j hj => Nat.le_trans (hJ.kn j hj) (by omega), fun j hj => Nat.le_trans (hJ.nr j hj) (by omega)⟩, hN, hT1⟩
      · conv => whnf
        repeat' first | ((first | refine Bt ?_ | refine Bf ?_ | refine Ni ?_ ?_ | refine Wq ?_ | refine Di ?_ | refine Oi ?_); conv => whnf) | (refine bc_intro (fun _ => ?_) (fun _ => ?_) <;> (conv => whnf))
        all_goals try first | exact Lq
      · clear hJ hN hT1 hpl
        obtain ⟨⟨i, ps, a1⟩, nk, rows, kn, kr⟩ := x
        obtain ⟨⟨hi1, hi2⟩, hJ, hN, hT1⟩ := hx
        simp only at hi1 hi2 hJ hN hT1
        have hpl := hJ.len
        conv => whnf
        refine bc_intro (fun hlt2 => ?_) (fun hlt2 => ?_)
        · have hlt3 : i < nodes.length := by simpa using hlt2
          have hw1 : IntKind.i64.wrap ((i : Int) + 1) = ((i + 1 : Nat) : Int) := wrap_succ (n := 1000) (by omega) (by omega)
          obtain ⟨⟨v, a2⟩, ⟨⟨h1, h2⟩, hT2⟩, hnx⟩ := next_ex 1000 (l := l) (a := a1) (n := (i : Int)) ⟨hT1, by omega, by omega⟩
          simp only at h1 h2 hT2 hnx
          obtain ⟨q, rfl⟩ := Int.eq_ofNat_of_zero_le h1
          have hq : q < i := by omega
          obtain ⟨⟨bb, a3⟩, hT3, hbx⟩ := bool_ex 1000 (l := l) (a := a2) (n := 2) ⟨hT2, by omega, by omega⟩
          obtain ⟨⟨w, a4⟩, ⟨⟨w1, w2⟩, hT4⟩, hnx2⟩ := next_ex 1000 (l := l) (a := a3) (n := 4) ⟨hT3, by omega, by omega⟩
          simp only at hT3 hbx w1 w2 hT4 hnx2
          conv => whnf
          repeat' first | ((first | refine Ci hnx ?_ | refine Ci hbx ?_ | refine Bt ?_ | refine Bf ?_ | refine Ni ?_ ?_ | refine Wq ?_ | refine Di ?_ | refine Oi ?_); conv => whnf)
          refine join_auto [0, 0 + 1, 0 + 1 + 1, 10, 7] [1000, 5000, 900000] (fun z : Nat × Nat => [(11, .d (.int .i64 z.1)), (12, .d (.int .i64 z.2))]) (fun z => []) (fun z => z.1 < nodes.length ∧ z.2 < nodes.length) (fun hv => ?_) (fun hv => ?_) ?_
          · conv => whnf
            repeat' first | ((first | refine JoinVC.mk (q, i) ?_ ?_ | refine Bt ?_ | refine Bf ?_ | refine Ni ?_ ?_ | refine Wq ?_ | refine Di ?_ | refine Oi ?_); conv => whnf)
            all_goals first | exact Lf | exact ⟨by omega, by omega⟩
          · conv => whnf
            repeat' first | ((first | refine JoinVC.mk (i, q) ?_ ?_ | refine Bt ?_ | refine Bf ?_ | refine Ni ?_ ?_ | refine Wq ?_ | refine Di ?_ | refine Oi ?_); conv => whnf)
            all_goals first | exact Lf | exact ⟨by omega, by omega⟩
          · rintro ⟨x, y⟩ ⟨hx, hy⟩
            simp only at hx hy
            have hxp : x < ps.length := by omega
            obtain ⟨hk1, gk, hk2, hk3⟩ := hN.kc x hxp
            obtain ⟨hk4, gr, hk5, hk6⟩ := hN.rc x hxp
            have hkl := hJ.kn x hx
            have hrl := hJ.nr x hx
            obtain ⟨P, hP⟩ : ∃ P, P = ps.getD x default := ⟨_, rfl⟩
            cases hw0 : (w == 0) with
            | true =>
              conv => whnf
              repeat' first | ((first | refine Ci hnx2 ?_ | refine NextVC.mk ((i + 1, ps.set x { ps.getD x default with left := (nodes.getD y default).id }, a4), nk, rows, kn, kr) ?_ ?_ ?_ | refine Bt ?_ | refine Bf ?_ | refine Ni ?_ ?_ | refine Wq ?_ | refine Di ?_ | refine Oi ?_); conv => whnf)
              all_goals try simp only [hw1, Int.toNat_natCast, Nat.zero_add]
              all_goals first
                | exact Lf | exact ⟨by omega, by omega⟩ | exact FamLe.refl _ | exact ⟨⟨by omega, by omega⟩, hJ.set (p := x) (q := { ps.getD x default with left := (nodes.getD y default).id }) hx rfl (by show (ps.getD x default).known.length ≤ _; omega) (by show (ps.getD x default).near.length ≤ _; omega), hN.setL hxp, hT4⟩
                | exact getQ_set hxp (fun _ e => rfl) (fun _ e => rfl) (fun _ _ e => if_neg e) (jlt5 (by simp only [if_true, updN, List.length_append, List.length_singleton]; rfl) (by simp only [if_true, updN, List.length_append, List.length_singleton]; rfl) (by simp only [if_true, updN, List.length_append, List.length_singleton]; rfl) (by simp only [if_true, updN, List.length_append, List.length_singleton]; rfl) (by simp only [if_true, updN, List.length_append, List.length_singleton]; rfl))
            | false =>
              cases hw3 : (w == 1) with
              | true =>
                conv => whnf
                repeat' first | ((first | refine Ci hnx2 ?_ | refine NextVC.mk ((i + 1, ps.set x { ps.getD x default with near := (ps.getD x default).near ++ [⟨0, 0, 0, (nodes.getD y default).id⟩] }, a4), nk + 1, putR (putR rows (kr x) none) nk (some ⟨58, 4, (ps.getD x default).near.length + 1, cellOf encR ((ps.getD x default).near ++ [⟨0, 0, 0, (nodes.getD y default).id⟩])⟩), kn, updN kr x nk) ?_ ?_ ?_ | refine Bt ?_ | refine Bf ?_ | refine Ni ?_ ?_ | refine Wq ?_ | refine Di ?_ | refine Oi ?_); conv => whnf)
                all_goals try simp only [hw1, cR, bR, cZ, bZ, Int.toNat_natCast, Nat.zero_add, List.length_append, List.length_singleton]
                all_goals first
                  | exact Lf | exact ⟨by omega, by omega⟩ | exact ⟨⟨_, hk5, rfl, rfl, rfl⟩, by omega, by omega⟩
                  | exact FamLe.put (FamLe.refl _) (row_snoc rfl ⟨fun a c ha hc => by simp only [rowGet, hk5]; exact hk6.le a c ha hc⟩ (jlt4 (DLe.of_eq rfl) (DLe.of_eq rfl) (DLe.of_eq rfl) (DLe.of_eq rfl)))
                  | exact ⟨⟨by omega, by omega⟩, hJ.set (p := x) (q := { ps.getD x default with near := (ps.getD x default).near ++ [⟨0, 0, 0, (nodes.getD y default).id⟩] }) hx rfl (by show (ps.getD x default).known.length ≤ _; omega) (by simp only [List.length_append, List.length_singleton]; omega), hN.setR hxp (by simp) (RowLe.refl _ _ _), hT4⟩
                  | exact getQ_set hxp (fun _ e => rfl) (fun _ e => if_neg e) (fun _ _ e => if_neg e) (jlt5 (by simp only [if_true, updN, List.length_append, List.length_singleton]; rfl) (by simp only [if_true, updN, List.length_append, List.length_singleton]; rfl) (by simp only [if_true, updN, List.length_append, List.length_singleton]; rfl) (by simp only [if_true, updN, List.length_append, List.length_singleton]; rfl) (by simp only [if_true, updN, List.length_append, List.length_singleton]; rfl))
              | false =>
                conv => whnf
                repeat' first | ((first | refine Ci hnx2 ?_ | refine NextVC.mk ((i + 1, ps.set x { ps.getD x default with known := (ps.getD x default).known ++ [(nodes.getD y default).id] }, a4), nk + 1, putR (putR rows (kn x) none) nk (some ⟨3, 1, (ps.getD x default).known.length + 1, cellOf encZ ((ps.getD x default).known ++ [(nodes.getD y default).id])⟩), updN kn x nk, kr) ?_ ?_ ?_ | refine Bt ?_ | refine Bf ?_ | refine Ni ?_ ?_ | refine Wq ?_ | refine Di ?_ | refine Oi ?_); conv => whnf)
                all_goals try simp only [hw1, cR, bR, cZ, bZ, Int.toNat_natCast, Nat.zero_add, List.length_append, List.length_singleton]
                all_goals first
                  | exact Lf | exact ⟨by omega, by omega⟩ | exact ⟨⟨_, hk2, rfl, rfl, rfl⟩, by omega, by omega⟩
                  | exact FamLe.put (FamLe.refl _) (row_snoc rfl ⟨fun a c ha hc => by simp only [rowGet, hk2]; exact hk3.le a c ha hc⟩ (jlt1 (DLe.of_eq rfl)))
                  | exact ⟨⟨by omega, by omega⟩, hJ.set (p := x) (q := { ps.getD x default with known := (ps.getD x default).known ++ [(nodes.getD y default).id] }) hx rfl (by simp only [List.length_append, List.length_singleton]; omega) (by show (ps.getD x default).near.length ≤ _; omega), hN.setK hxp (by simp) (RowLe.refl _ _ _), hT4⟩
                  | exact getQ_set hxp (fun _ e => if_neg e) (fun _ e => rfl) (fun _ _ e => if_neg e) (jlt5 (by simp only [if_true, updN, List.length_append, List.length_singleton]; rfl) (by simp only [if_true, updN, List.length_append, List.length_singleton]; rfl) (by simp only [if_true, updN, List.length_append, List.length_singleton]; rfl) (by simp only [if_true, updN, List.length_append, List.length_singleton]; rfl) (by simp only [if_true, updN, List.length_append, List.length_singleton]; rfl))
        · have hlt3 : nodes.length ≤ i := by simpa using hlt2
          have hJ100 : JInv nodes nodes.length 22 ps := ⟨hJ.len, hJ.ids, fun j hj => Nat.le_trans (hJ.kn j hj) (by omega), fun j hj => Nat.le_trans (hJ.nr j hj) (by omega)⟩
          have hPB : PrsB ps := JInv.prsB hJ100 (by omega)
          obtain ⟨cb, hcb, hcsp⟩ := conn0 (ps := ps) ⟨hr, hl, hPB⟩
          have hle : LeL [.d (encL encN 3 nodes), .d (.list nodes.length 5 fun i j => fcD rows (getQ kn kr ps (0 + i) j))] [.d (encL encN 3 nodes), .d (encL encP 5 ps)] :=
            LeL.cons (LeS.refl _) (LeL.cons (LeS.d (DLe.rows hpl.symm ⟨fun x y hx hy => by rw [Nat.zero_add]; exact (hN.cell hx hy).2⟩)) LeL.nil)
          have hcsp2 := hcsp.arg hle
          cases cb with
          | true =>
            have hc1 : (!true) = false := rfl
            conv => whnf
            repeat' first | ((first | refine Ci hcsp2 ?_ | refine Bt ?_ | refine Bf ?_ | refine Ni ?_ ?_ | refine Wq ?_ | refine Di ?_ | refine Oi ?_); conv => whnf)
            · refine ⟨((ps, a1), nk, rows, kn, kr), ⟨⟨hJ100.mono (by omega), hcb rfl⟩, hN, hT1⟩, ?_⟩
              conv => whnf
              repeat' first | ((first | refine Bt ?_ | refine Bf ?_ | refine Ni ?_ ?_ | refine Wq ?_ | refine Di ?_ | refine Oi ?_); conv => whnf)
              all_goals first | exact Lf | exact FRowLe.refl _ _ _ | exact FamLe.refl _
            · exact fun x y hx hy => by rw [Nat.zero_add]; exact (hN.cell (by omega) hy).1
          | false =>
            have hc1 : (!false) = true := rfl
            conv => whnf
            repeat' first | ((first | refine Ci hcsp2 ?_ | refine Bt ?_ | refine Bf ?_ | refine Ni ?_ ?_ | refine Wq ?_ | refine Di ?_ | refine Oi ?_); conv => whnf)
            · refine loop_auto [0, 0 + 1] [1000] (fun x : (Nat × List PeerT) × Nat × (Nat → Option FRow) × (Nat → Nat) => [(14, .d (.int .i64 x.1.1)), (7, .osl 5000 5 0 nodes.length)]) (fun x => [(5000, .frow 900000 45 5 nodes.length (getQ x.2.2.2 kr x.1.2)), (900000, .fam x.2.1 x.2.2.1)])
                (fun x => (1 ≤ x.1.1 ∧ x.1.1 ≤ nodes.length + 1) ∧ JInv nodes nodes.length (22 + x.1.1) x.1.2 ∧ PN x.2.2.1 x.2.1 3 58 x.2.2.2 kr x.1.2 ∧ ∀ m, 1 ≤ m → m < x.1.1 → m < nodes.length → (nodes.getD (m - 1) default).id ∈ (x.1.2.getD m default).known) (fun x => nodes.length + 1 - x.1.1) ((1, ps), nk, rows, kn) ?_ (fun x hx => ?_) ⟨⟨Nat.le_refl _, by simp⟩, hJ100.mono (by simp), hN, fun m h1 h2 => by simp only at h2; omega⟩
              · conv => whnf
                repeat' first | ((first | refine Bt ?_ | refine Bf ?_ | refine Ni ?_ ?_ | refine Wq ?_ | refine Di ?_ | refine Oi ?_); conv => whnf) | (refine bc_intro (fun _ => ?_) (fun _ => ?_) <;> (conv => whnf))
                all_goals try first | exact Lq
              · clear hJ hN hpl hcb hcsp hle hcsp2 hPB hJ100
                obtain ⟨⟨x, ps⟩, nk, rows, kn⟩ := x
                obtain ⟨⟨hi3, hi4⟩, hJ, hN, hch⟩ := hx
                simp only at hi3 hi4 hJ hN hch
                have hpl := hJ.len
                conv => whnf
                refine bc_intro (fun hlt4 => ?_) (fun hlt4 => ?_)
                · have hx : x < nodes.length := by simpa using hlt4
                  have hxp : x < ps.length := by omega
                  have hw2 : IntKind.i64.wrap ((x : Int) + 1) = ((x + 1 : Nat) : Int) := wrap_succ (n := 1000) (by omega) (by omega)
                  have hw4 : IntKind.i64.wrap ((x : Int) - 1) = ((x - 1 : Nat) : Int) := by rw [wrap_of (by omega) (by omega)]; omega
                  obtain ⟨hk1, gk, hk2, hk3⟩ := hN.kc x hxp
                  have hkl := hJ.kn x hx
                  have hrl := hJ.nr x hx
                  conv => whnf
                  repeat' first | ((first | refine NextVC.mk ((x + 1, ps.set x { ps.getD x default with known := (ps.getD x default).known ++ [(nodes.getD (x - 1) default).id] }), nk + 1, putR (putR rows (kn x) none) nk (some ⟨3, 1, (ps.getD x default).known.length + 1, cellOf encZ ((ps.getD x default).known ++ [(nodes.getD (x - 1) default).id])⟩), updN kn x nk) ?_ ?_ ?_ | refine Bt ?_ | refine Bf ?_ | refine Ni ?_ ?_ | refine Wq ?_ | refine Di ?_ | refine Oi ?_); conv => whnf)
                  all_goals try simp only [hw2, hw4, cZ, bZ, Int.toNat_natCast, Nat.zero_add, List.length_append, List.length_singleton]
                  all_goals first
                    | exact Lf | exact ⟨by omega, by omega⟩ | exact ⟨⟨_, hk2, rfl, rfl, rfl⟩, by omega, by omega⟩
                    | exact FamLe.put (FamLe.refl _) (row_snoc rfl ⟨fun a c ha hc => by simp only [rowGet, hk2]; exact hk3.le a c ha hc⟩ (jlt1 (DLe.of_eq rfl)))
                    | exact getQ_set hxp (fun _ e => if_neg e) (fun _ e => rfl) (fun _ _ e => if_neg e) (jlt5 (by simp only [if_true, updN, List.length_append, List.length_singleton]; rfl) (by simp only [if_true, updN, List.length_append, List.length_singleton]; rfl) (by simp only [if_true, updN, List.length_append, List.length_singleton]; rfl) (by simp only [if_true, updN, List.length_append, List.length_singleton]; rfl) (by simp only [if_true, updN, List.length_append, List.length_singleton]; rfl))
                    | (refine ⟨⟨by omega, by omega⟩, hJ.set (p := x) (q := { ps.getD x default with known := (ps.getD x default).known ++ [(nodes.getD (x - 1) default).id] }) hx rfl (by simp only [List.length_append, List.length_singleton]; omega) (by show (ps.getD x default).near.length ≤ _; omega), hN.setK hxp (by simp) (RowLe.refl _ _ _), fun m h1 h2 h3 => ?_⟩
                       rw [set_get hxp]
                       split
                       · rename_i e; subst e; simp
                       · rename_i e; exact hch m h1 (by omega) h3)
                · have hx : nodes.length ≤ x := by simpa using hlt4
                  conv => whnf
                  repeat' first | ((first | refine Bt ?_ | refine Bf ?_ | refine Ni ?_ ?_ | refine Wq ?_ | refine Di ?_ | refine Oi ?_); conv => whnf)
                  refine ⟨((ps, a1), nk, rows, kn, kr), ⟨⟨hJ.mono (by omega), conn_chain hr hJ (fun m h1 h2 => hch m h1 (by omega) h2)⟩, hN, hT1⟩, ?_⟩
                  conv => whnf
                  repeat' first | ((first | refine Bt ?_ | refine Bf ?_ | refine Ni ?_ ?_ | refine Wq ?_ | refine Di ?_ | refine Oi ?_); conv => whnf)
                  all_goals first | exact Lf | exact FRowLe.refl _ _ _ | exact FamLe.refl _
            · exact fun x y hx hy => by rw [Nat.zero_add]; exact (hN.cell (by omega) hy).1
theorem joined_d (m : Nat) {l : List Int} {a : Nat} {nodes : List NodeT} {h : Nat} : (TapeOk l a ∧ Rst nodes ∧ nodes.length ≤ 20 ∧ h ≤ 16) → ∃ x : List PeerT × Nat, ((JInv nodes nodes.length 100 x.1 ∧ ConnS nodes x.1) ∧ TapeOk l x.2) ∧
    Sx.Spec Tryz.prog GG 8 [.ptr m 0, .d (encL encN 3 nodes), .d (.int .i64 h)] [(m, tapeB l a)] (.d (encL encP 5 x.1)) [(m, tapeB l x.2)] := fun hh => by
  obtain ⟨⟨⟨ps, a1⟩, nk, rows, kn, kr⟩, ⟨hJ, hN, hT⟩, hsp⟩ := joined0 hh
  simp only at hJ hN hT hsp
  have hl := hJ.1.len
  refine ⟨(ps, a1), ⟨hJ, hT⟩, ?_⟩
  have := Spec.pubNest (post0 := [(1000, tapeB l a1)]) (pre := [(1000, tapeB l a)]) (m := 5000) (fn := 900000) hsp rfl (fun i j hi hj => (hN.cell (by omega) hj).1) (by intro q b k h hk; simp only [List.mem_singleton, Prod.mk.injEq] at h; obtain ⟨rfl, rfl⟩ := h; simp [inB, inL, inS] at hk) (by simp [pubV, Nat.beq_refl, inS])
  simp only [pubV, Nat.beq_refl] at this
  have h2 : Sx.Spec Tryz.prog GG 8 [.ptr 1000 0, .d (encL encN 3 nodes), .d (.int .i64 h)] [(1000, tapeB l a)] (.d (encL encP 5 ps)) [(1000, tapeB l a1)] := by
    refine this.res (LeS.d (DLe.rows hl.symm ⟨fun i j hi hj => ?_⟩)) (by simp [inS])
    rw [Nat.zero_add]
    exact (hN.cell hi hj).2
  exact h2.at m
end Go.Proofs.YtiadnhbclipmhaaGreatDoor

namespace Go.Proofs.YtiadnhbclipmhaaGreatDoor
open Go Go.Sx Go.ChangeShapes Go.WideShapes Go.ChangeAt Go.RowKit
set_option linter.unusedVariables false
set_option linter.unusedSimpArgs false
set_option maxRecDepth 100000
def nGet (nodes : List NodeT) (q : List Int) (j : Nat) : FC := .d (cellOf encN nodes (rankF nodes q) j)
def vGet (ls : List LkdT) (q : List Int) (_ : Nat) : FC := .d (encL encK 2 (ls.getD (rankL ls q) default).levels)
theorem atHas_take {s : List NodeT} {i : Nat} (h : i < s.length) {q : List Int} : atHas (s.take (i + 1)) q = (q == [(s.getD i default).id] || atHas (s.take i) q) := by
  have e : s.take (i + 1) = s.take i ++ [s.getD i default] := take_snoc h
  unfold atHas
  rw [e, List.any_append, Bool.or_comm]; simp
theorem made0 {nodes : List NodeT} {ls : List LkdT} (hn : (nodes.map (·.id)).Nodup) (hm : (ls.map (·.id)).Nodup) : (nodes.length ≤ 1000 ∧ ls.length ≤ 1000) → Sx.Spec Tryz.prog GG 66 [.d (encL encN 3 nodes), .d (encL encLk 2 ls)] [] (.agg [.mp 2000, .mp 2001])
    [(2000, .gmap 900000 false [.i64] true 3 (atHas nodes) (nGet nodes)), (2001, .gmap 900000 false [.i64] false 1 (mHas ls) (vGet ls)), (900000, .fam 0 fun _ => none)] := by
  rintro ⟨hl, hl2⟩
  refine spec_introF (E := EE) (fn := Tryz.f66) eok (by kernel_rfl) (by kernel_rfl) Tryz.call66 (by kernel_rfl) (by kernel_rfl) (by kernel_rfl) ?_
  conv => whnf
  repeat' first | ((first | refine Bt ?_ | refine Bf ?_ | refine Ni ?_ ?_ | refine Wq ?_ | refine Di ?_ | refine Oi ?_); conv => whnf)
  trace_state
  refine loop_auto [0 + 1, 4, 15, 16] [4] (fun i : Nat => [(17, .d (.int .i64 i)), (5, .ptr 2005 0)]) (fun i => [(2005, .box [.mp 2000, .mp 2001]), (2000, .gmap 900000 false [.i64] true 3 (atHas (nodes.take i)) (nGet nodes)), (2001, .gmap 900000 false [.i64] false 1 (mHas (ls.take 0)) (vGet ls)), (900000, .fam 0 fun _ => none)])
    (fun i => i ≤ nodes.length) (fun i => nodes.length - i) 0 ?_ (fun i hi => ?_) (Nat.zero_le _)
  · conv => whnf
    repeat' first | ((first | refine Bt ?_ | refine Bf ?_ | refine Ni ?_ ?_ | refine Wq ?_ | refine Di ?_ | refine Oi ?_); conv => whnf) | (refine bc_intro (fun _ => ?_) (fun _ => ?_) <;> (conv => whnf))
    all_goals try first | exact Lq
    all_goals first
      | exact GMapLe.of_eq (fun q => rfl) (fun q c hq hc => by cases hq)
  · conv => whnf
    refine bc_intro (fun hlt => ?_) (fun hlt => ?_)
    · have hlt0 : i < nodes.length := by simpa using hlt
      have hw1 : IntKind.i64.wrap ((i : Int) + 1) = ((i + 1 : Nat) : Int) := wrap_succ (n := 1000) (by omega) (by omega)
      conv => whnf
      repeat' first | ((first | refine NextVC.mk (i + 1) ?_ ?_ ?_ | refine Bt ?_ | refine Bf ?_ | refine Ni ?_ ?_ | refine Wq ?_ | refine Di ?_ | refine Oi ?_); conv => whnf)
      all_goals try simp only [hw1, Int.toNat_natCast, Nat.zero_add]
      all_goals first
        | exact Lf | exact ⟨by omega, by omega⟩ | exact ⟨trivial, trivial, by kernel_rfl, by kernel_rfl⟩ | exact FamLe.refl _
        | exact GMapLe.of_eq (fun _ => rfl) (fun _ _ _ _ => rfl)
        | (refine GMapLe.of_eq (fun q => (atHas_take hlt0).symm) (fun q c hq hc => ?_)
           by_cases e : q = [(nodes.getD i default).id]
           · subst e
             simp only [if_true, nGet, rank_at hn hlt0]
             match c, hc with
             | 0, _ => rfl
             | 1, _ => rfl
             | 2, _ => rfl
           · simp only [if_neg e])
    · have hlt0 : nodes.length ≤ i := by simpa using hlt
      rw [take_ge hlt0]
      conv => whnf
      repeat' first | ((first | refine Bt ?_ | refine Bf ?_ | refine Ni ?_ ?_ | refine Wq ?_ | refine Di ?_ | refine Oi ?_); conv => whnf)
      refine loop_auto [4, 27, 28] [4] (fun i : Nat => [(29, .d (.int .i64 i)), (5, .ptr 2005 0)]) (fun i => [(2005, .box [.mp 2000, .mp 2001]), (2000, .gmap 900000 false [.i64] true 3 (atHas nodes) (nGet nodes)), (2001, .gmap 900000 false [.i64] false 1 (mHas (ls.take i)) (vGet ls)), (900000, .fam 0 fun _ => none)])
        (fun i => i ≤ ls.length) (fun i => ls.length - i) 0 ?_ (fun i hi => ?_) (Nat.zero_le _)
      · conv => whnf
        repeat' first | ((first | refine Bt ?_ | refine Bf ?_ | refine Ni ?_ ?_ | refine Wq ?_ | refine Di ?_ | refine Oi ?_); conv => whnf) | (refine bc_intro (fun _ => ?_) (fun _ => ?_) <;> (conv => whnf))
        all_goals try first | exact Lq
        all_goals first
          | exact GMapLe.of_eq (fun _ => rfl) (fun _ _ _ _ => rfl)
      · conv => whnf
        refine bc_intro (fun hlt1 => ?_) (fun hlt1 => ?_)
        · have hlt2 : i < ls.length := by simpa using hlt1
          have hw1 : IntKind.i64.wrap ((i : Int) + 1) = ((i + 1 : Nat) : Int) := wrap_succ (n := 1000) (by omega) (by omega)
          have hno : mHas (ls.take i) [(ls.getD i default).id] = false := by
            cases e : mHas (ls.take i) [(ls.getD i default).id] with
            | false => rfl
            | true =>
              obtain ⟨x, hx, e⟩ := mHas_one.1 e
              obtain ⟨j, hj, rfl⟩ := List.getElem_of_mem hx
              have hj2 : j < i := by rw [List.length_take] at hj; omega
              have h1 := rankL_at hm (show j < ls.length by omega)
              have h2 := rankL_at hm hlt2
              rw [List.getElem_take] at e
              rw [show ls.getD j default = ls[j] by simp [List.getD, show j < ls.length by omega], e, h2] at h1
              omega
          have hno2 : mHas (ls.take i) [(ls.getD (i : Int).toNat default).id] = false := by rw [Int.toNat_natCast]; exact hno
          have hno3 : (!false) = true := rfl
          conv => whnf
          repeat' first | ((first | refine NextVC.mk (i + 1) ?_ ?_ ?_ | refine Bt ?_ | refine Bf ?_ | refine Ni ?_ ?_ | refine Wq ?_ | refine Di ?_ | refine Oi ?_); conv => whnf)
          all_goals try simp only [hw1, Int.toNat_natCast, Nat.zero_add]
          all_goals first
            | exact Lf | exact ⟨by omega, by omega⟩ | exact ⟨trivial, trivial, by kernel_rfl, by kernel_rfl⟩ | exact FamLe.refl _
            | exact GMapLe.of_eq (fun _ => rfl) (fun _ _ _ _ => rfl)
            | (refine GMapLe.of_eq (fun q => (mHas_take hlt2).symm) (fun q c hq hc => ?_)
               have hc : c = 0 := by omega
               subst hc
               by_cases e : q = [(ls.getD i default).id]
               · subst e
                 simp only [if_true, vGet, rankL_at hm hlt2]; rfl
               · simp only [if_neg e])
        · have hlt2 : ls.length ≤ i := by simpa using hlt1
          rw [take_ge hlt2]
          conv => whnf
          repeat' first | ((first | refine Bt ?_ | refine Bf ?_ | refine Ni ?_ ?_ | refine Wq ?_ | refine Di ?_ | refine Oi ?_); conv => whnf)
          all_goals first
            | exact Lf
            | exact GMapLe.of_eq (fun _ => rfl) (fun _ _ _ _ => rfl)
            | exact FamLe.refl _
theorem made_self {nodes : List NodeT} {ls : List LkdT} (m k : Nat) (hmk : m ≠ k) (hn : (nodes.map (·.id)).Nodup) (hm : (ls.map (·.id)).Nodup) : (nodes.length ≤ 1000 ∧ ls.length ≤ 1000) → Sx.Spec Tryz.prog GG 66 [.d (encL encN 3 nodes), .d (encL encLk 2 ls)] [] (.agg [.mp m, .mp k])
    [(m, .gmap m false [.i64] true 3 (atHas nodes) (nGet nodes)), (k, .gmap k false [.i64] false 1 (mHas ls) (vGet ls))] := fun h => by
  have := ((made0 hn hm h).gself (fun _ _ _ _ => ⟨_, rfl⟩) (fun _ _ _ _ => ⟨_, rfl⟩) (fun n h => by simpa [inS, inL, eq_comm] using h)).new2 m k (by decide) hmk
  simpa [renL, renS, renB] using this
def toK (ls : List LkdT) (id : Int) (lv : Nat) (side : Int) : Int := if side = 1 then ((ls.getD (rankL ls [id]) default).levels.getD lv default).right else ((ls.getD (rankL ls [id]) default).levels.getD lv default).left
abbrev nwB (m k : Nat) (nodes : List NodeT) (ls : List LkdT) : List (Nat × Blk) := [(m, .gmap m false [.i64] true 3 (atHas nodes) (nGet nodes)), (k, .gmap k false [.i64] false 1 (mHas ls) (vGet ls))]
theorem slink0 {nodes : List NodeT} {ls : List LkdT} {id : Int} {lv : Nat} {side : Int} {b : Bool} {x : NodeT} (hb : atHas nodes [toK ls id lv side] = b) (hx : b = true → nodes.getD (rankF nodes [toK ls id lv side]) default = x) (hx2 : b = false → x = default) :
    (mHas ls [id] = true ∧ lv < (ls.getD (rankL ls [id]) default).levels.length) → Sx.Spec Tryz.prog GG 68 [.agg [.mp 1000, .mp 1001], .d (.int .i64 id), .d (.int .i64 lv), .d (.int .i64 side)] (nwB 1000 1001 nodes ls) (.tup [nodeS x, .d (.bool b)]) (nwB 1000 1001 nodes ls) := by
  rintro ⟨h1, h2⟩
  have hc1 : decide ((lv : Int) ≥ ((ls.getD (rankL ls [id]) default).levels.length : Int)) = false := by rw [decide_eq_false_iff_not]; omega
  by_cases hs : side = 1
  · subst hs
    have hc2 : ((1 : Int) == 1) = true := rfl
    cases b with
    | true =>
      obtain rfl := hx rfl
      refine spec_intro (E := EE) (fn := Tryz.f68) eok (by kernel_rfl) (by kernel_rfl) Tryz.call68 (by kernel_rfl) (by kernel_rfl) ?_
      conv => whnf
      repeat' first | ((first | refine Bt ?_ | refine Bf ?_ | refine Ni ?_ ?_ | refine Wq ?_ | refine Di ?_ | refine Oi ?_); conv => whnf)
      all_goals first
        | exact Lf | exact ⟨trivial, trivial, by kernel_rfl, by kernel_rfl⟩ | exact ⟨by omega, by omega⟩ | exact DLe.of_eq rfl
        | exact GMapLe.of_eq (fun _ => rfl) (fun _ _ _ _ => rfl)
    | false =>
      obtain rfl := hx2 rfl
      refine spec_intro (E := EE) (fn := Tryz.f68) eok (by kernel_rfl) (by kernel_rfl) Tryz.call68 (by kernel_rfl) (by kernel_rfl) ?_
      conv => whnf
      repeat' first | ((first | refine Bt ?_ | refine Bf ?_ | refine Ni ?_ ?_ | refine Wq ?_ | refine Di ?_ | refine Oi ?_); conv => whnf)
      all_goals first
        | exact Lf | exact ⟨trivial, trivial, by kernel_rfl, by kernel_rfl⟩ | exact ⟨by omega, by omega⟩ | exact DLe.of_eq rfl
        | exact GMapLe.of_eq (fun _ => rfl) (fun _ _ _ _ => rfl)
  · have hc2 : (side == 1) = false := by simpa using hs
    have hto : toK ls id lv side = ((ls.getD (rankL ls [id]) default).levels.getD lv default).left := by rw [toK, if_neg hs]
    rw [hto] at hb hx
    cases b with
    | true =>
      obtain rfl := hx rfl
      refine spec_intro (E := EE) (fn := Tryz.f68) eok (by kernel_rfl) (by kernel_rfl) Tryz.call68 (by kernel_rfl) (by kernel_rfl) ?_
      conv => whnf
      repeat' first | ((first | refine Bt ?_ | refine Bf ?_ | refine Ni ?_ ?_ | refine Wq ?_ | refine Di ?_ | refine Oi ?_); conv => whnf)
      all_goals first
        | exact Lf | exact ⟨trivial, trivial, by kernel_rfl, by kernel_rfl⟩ | exact ⟨by omega, by omega⟩ | exact DLe.of_eq rfl
        | exact GMapLe.of_eq (fun _ => rfl) (fun _ _ _ _ => rfl)
    | false =>
      obtain rfl := hx2 rfl
      refine spec_intro (E := EE) (fn := Tryz.f68) eok (by kernel_rfl) (by kernel_rfl) Tryz.call68 (by kernel_rfl) (by kernel_rfl) ?_
      conv => whnf
      repeat' first | ((first | refine Bt ?_ | refine Bf ?_ | refine Ni ?_ ?_ | refine Wq ?_ | refine Di ?_ | refine Oi ?_); conv => whnf)
      all_goals first
        | exact Lf | exact ⟨trivial, trivial, by kernel_rfl, by kernel_rfl⟩ | exact ⟨by omega, by omega⟩ | exact DLe.of_eq rfl
        | exact GMapLe.of_eq (fun _ => rfl) (fun _ _ _ _ => rfl)
end Go.Proofs.YtiadnhbclipmhaaGreatDoor
