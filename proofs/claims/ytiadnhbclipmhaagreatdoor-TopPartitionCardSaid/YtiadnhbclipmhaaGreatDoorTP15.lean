/- Contracts of functions that the law reaches: YtiadnhbclipmhaaGreatDoorTP15. Written for this claim. -/
import Derived.Test.YtiadnhbclipmhaaGreatDoorTP12
import Derived.Test.YtiadnhbclipmhaaGreatDoorSxPub2
namespace Go.Proofs.YtiadnhbclipmhaaGreatDoor
open Go Go.Sx Go.ChangeShapes Go.WideShapes Go.ChangeAt Go.RowKit
set_option linter.unusedVariables false
set_option linter.unusedSimpArgs false
set_option maxRecDepth 100000
theorem drop_step {α : Type} [Inhabited α] {xs : List α} {i : Nat} (h : i < xs.length) : xs.drop i = xs.getD i default :: xs.drop (i + 1) := by
  rw [List.drop_eq_getElem_cons h]; simp [List.getD, h]
theorem intros_len {nodes : List NodeT} {p : PeerT} : (introsF nodes p).length ≤ 2 * (rowF nodes p).length := by
  have key : ∀ (l : List Nat), (l.flatMap fun i => (introP (rowF nodes p) i).filter fun x => x.1 != p.id).length ≤ 2 * l.length := by
    intro l
    induction l with
    | nil => simp
    | cons i l ih =>
      rw [List.flatMap_cons, List.length_append, List.length_cons]
      have := List.length_filter_le (fun x : Int × Int => x.1 != p.id) (introP (rowF nodes p) i)
      have : (introP (rowF nodes p) i).length = 2 := rfl
      omega
  have := key (List.range' 1 ((rowF nodes p).length - 1))
  rw [List.length_range'] at this
  show ((List.range' 1 ((rowF nodes p).length - 1)).flatMap _).length ≤ _
  omega
theorem refs_le (m : Nat) {nodes : List NodeT} {p : PeerT} {a : List SV} (hle : LeL a [.d (.int .i64 p.id), .d (encL encZ 1 p.known), .d (.int .i64 p.left), .d (.int .i64 p.right), .d (encL encR 4 p.near)]) : (Sml nodes ∧ PrB p) →
    Sx.Spec Tryz.prog GG 72 [.d (encL encN 3 nodes), .agg a] [] (.osl m 1 0 (refsF nodes p).length) [(m, .row 3 1 (refsF nodes p).length (cellOf encZ (refsF nodes p)))] := fun h =>
  (refs_at m h).arg (LeL.cons (LeS.refl _) (LeL.cons (LeS.agg hle) LeL.nil))
set_option maxHeartbeats 1000000 in
theorem linRound0 {nodes : List NodeT} {ps : List PeerT} : (Sml nodes ∧ PrsB ps) → ∃ x : Nat × (Nat → Option FRow) × (Nat → Nat), NestP x.2.1 x.1 3 x.2.2 (linRoundF nodes ps) ∧
    Sx.Spec Tryz.prog GG 42 [.d (encL encN 3 nodes), .d (encL encP 5 ps)] [] (.osl 2000 5 0 nodes.length) [(2000, .frow 900000 45 5 nodes.length (peerGet x.2.2 (linRoundF nodes ps))), (900000, .fam x.1 x.2.1)] := by
  rintro ⟨hS, hP⟩
  have hl := hS.l20
  have hlen := normal_len (nodes := nodes) (ps := ps)
  have hNB := normalB (nodes := nodes) hP (by omega)
  have hmem : ∀ p ∈ normalF nodes ps, ∃ x ∈ nodes, x.id = p.id := by
    intro p hp
    obtain ⟨x, hx, rfl⟩ := List.mem_map.1 hp
    refine ⟨x, sortN_mem.1 hx, ?_⟩
    unfold normal1F
    cases e : ps.find? (fun p => p.id == x.id) with
    | none => rfl
    | some q => have := List.find?_some e; simp only [beq_iff_eq] at this; exact this.symm
  have cP : Tryz.prog.cellsOf 45 = 5 := by kernel_rfl
  have bP : Tryz.prog.bytesOf 45 = 72 := by kernel_rfl
  have cZ : Tryz.prog.cellsOf 3 = 1 := by kernel_rfl
  have bZ : Tryz.prog.bytesOf 3 = 8 := by kernel_rfl
  have hdef : linRoundF nodes ps = (normalF nodes ps).map (round1F nodes (normalF nodes ps)) := rfl
  refine spec_someF (E := EE) (fn := Tryz.f42) _ _ _ true eok (by kernel_rfl) (by kernel_rfl) Tryz.call42 (by kernel_rfl) (fun _ => by kernel_rfl) (fun _ => by kernel_rfl) (by kernel_rfl) ?_
  conv => whnf
  repeat' first | ((first | refine Cf (normal_d) ?_ ?_ | refine Bt ?_ | refine Bf ?_ | refine Ni ?_ ?_ | refine Wq ?_ | refine Di ?_ | refine Oi ?_); conv => whnf)
  · generalize hold : normalF nodes ps = old at *
    refine loop_auto [0, 0 + 1, 5, 6, 20, 21] [] (fun x : (Nat × List (Int × Int)) × Nat × (Nat → Option FRow) × (List Int → Nat → FC) => [(22, .d (.int .i64 x.1.1))]) (fun x => [(19, .gmap 900000 false [.i64] false 1 (tHas x.1.2) x.2.2.2), (900000, .fam x.2.1 x.2.2.1)])
      (fun x => (x.1.1 ≤ old.length ∧ x.1.2.length ≤ 40 * x.1.1) ∧ x.1.2 ++ (old.drop x.1.1).flatMap (introsF nodes) = old.flatMap (introsF nodes) ∧ TOLD x.2.2.1 x.2.1 3 x.2.2.2 x.1.2) (fun x => old.length - x.1.1) ((0, []), 0, fun _ => none, fun _ _ => default) ?_ (fun x hx => ?_) ⟨⟨Nat.zero_le _, by simp⟩, rfl, TOLD.nil⟩
    · conv => whnf
      repeat' first | ((first | refine Bt ?_ | refine Bf ?_ | refine Ni ?_ ?_ | refine Wq ?_ | refine Di ?_ | refine Oi ?_); conv => whnf) | (refine bc_intro (fun _ => ?_) (fun _ => ?_) <;> (conv => whnf))
      all_goals try first | exact Lq
      all_goals exact ⟨fun _ => rfl, fun k j hk _ => absurd hk (by simp)⟩
    · obtain ⟨⟨i, L⟩, nk, rows, get⟩ := x
      obtain ⟨⟨hi, hL⟩, hf, hT⟩ := hx
      simp only at hi hL hf hT
      have hs : i < old.length → IntKind.i64.wrap ((i : Int) + 1) = ((i + 1 : Nat) : Int) := fun h => wrap_succ (n := 1000) (by omega) (by omega)
      conv => whnf
      refine bc_intro (fun hlt => ?_) (fun hlt => ?_)
      · have hlt0 : i < old.length := by simpa using hlt
        have hsi := hs hlt0
        have hpm := hmem _ (getD_mem2 hlt0)
        have hpB := hNB.at hlt0
        have hil := intros_len (nodes := nodes) (p := old.getD i default)
        have hrl := row_len (nodes := nodes) (p := old.getD i default)
        rw [drop_step hlt0, List.flatMap_cons] at hf
        obtain ⟨IN, hIN⟩ : ∃ IN, IN = introsF nodes (old.getD i default) := ⟨_, rfl⟩
        have hsp : Sx.Spec Tryz.prog GG 70 [.d (encL encN 3 nodes), peerS (old.getD (i : Int).toNat default)] [] (.d (encL encT 2 IN)) [] := by rw [hIN]; exact intros0 ⟨hpm, hS, hpB⟩
        rw [← hIN] at hf hil
        conv => whnf
        repeat' first | ((first | refine Ci hsp ?_ | refine Bt ?_ | refine Bf ?_ | refine Ni ?_ ?_ | refine Wq ?_ | refine Di ?_ | refine Oi ?_); conv => whnf)
        · refine loop_auto [0, 0 + 1, 5, 6, 20, 21, 22, 28, 29] [] (fun x : (Nat × List (Int × Int)) × Nat × (Nat → Option FRow) × (List Int → Nat → FC) => [(30, .d (.int .i64 x.1.1))]) (fun x => [(19, .gmap 900000 false [.i64] false 1 (tHas x.1.2) x.2.2.2), (900000, .fam x.2.1 x.2.2.1)])
            (fun x => (x.1.1 ≤ IN.length ∧ x.1.2.length ≤ 40 * i + x.1.1) ∧ x.1.2 ++ IN.drop x.1.1 = L ++ IN ∧ TOLD x.2.2.1 x.2.1 3 x.2.2.2 x.1.2) (fun x => IN.length - x.1.1) ((0, L), nk, rows, get) ?_ (fun x hx => ?_) ⟨⟨Nat.zero_le _, by simp only; omega⟩, rfl, hT⟩
          · conv => whnf
            repeat' first | ((first | refine Bt ?_ | refine Bf ?_ | refine Ni ?_ ?_ | refine Wq ?_ | refine Di ?_ | refine Oi ?_); conv => whnf) | (refine bc_intro (fun _ => ?_) (fun _ => ?_) <;> (conv => whnf))
            all_goals try first | exact Lq
          · obtain ⟨⟨j, L2⟩, nk2, rows2, get2⟩ := x
            obtain ⟨⟨hj, hL2⟩, hf2, hT2⟩ := hx
            simp only at hj hL2 hf2 hT2
            conv => whnf
            refine bc_intro (fun hjt => ?_) (fun hjt => ?_)
            · have hjt0 : j < IN.length := by rw [decide_eq_true_eq] at hjt; simp only [Int.toNat_natCast] at hjt; omega
              have hsj : IntKind.i64.wrap ((j : Int) + 1) = ((j + 1 : Nat) : Int) := wrap_succ (n := 1000) (by omega) (by omega)
              have hf3 : (L2 ++ [IN.getD j default]) ++ IN.drop (j + 1) = L ++ IN := by
                rw [← hf2, drop_step hjt0]; simp
              have htl := told_len (L := L2) (id := (IN.getD j default).1)
              conv => whnf
              repeat' first | ((first | refine Bt ?_ | refine Bf ?_ | refine Ni ?_ ?_ | refine Wq ?_ | refine Di ?_ | refine Oi ?_); conv => whnf)
              · refine bc_intro (fun hh => ?_) (fun hh => ?_)
                · obtain ⟨k, g, e1, e2, e3, e4⟩ := hT2.cell _ hh
                  simp only [Int.toNat_natCast] at hh e1 e3 e4
                  have e1' : get2 [((IN).getD (j : Int).toNat default).1] 0 = .fs k 1 (toldL L2 (IN.getD j default).1).length := e1
                  conv => whnf
                  dsimp only
                  rw [e1']
                  conv => whnf
                  repeat' first | ((first | refine NextVC.mk ((j + 1, L2 ++ [IN.getD j default]), nk2 + 1, putR (putR rows2 k none) nk2 (some ⟨3, 1, (toldL L2 (IN.getD j default).1).length + 1, cellOf encZ (toldL L2 (IN.getD j default).1 ++ [(IN.getD j default).2])⟩), fun q c => if q = [(IN.getD j default).1] then .fs nk2 1 ((toldL L2 (IN.getD j default).1).length + 1) else get2 q c) ?_ ?_ ?_ | refine Bt ?_ | refine Bf ?_ | refine Ni ?_ ?_ | refine Wq ?_ | refine Di ?_ | refine Oi ?_); conv => whnf)
                  all_goals try simp only [cZ, bZ, Int.toNat_natCast]
                  all_goals first
                    | exact Lf | exact ⟨trivial, trivial, rfl, by kernel_rfl⟩ | exact DLe.of_eq (by rw [hsj]) | exact ⟨⟨_, e3, rfl, rfl, rfl⟩, by omega, by omega⟩
                    | exact FamLe.put (FamLe.refl _) (row_snoc rfl ⟨fun a c ha hc => by simp only [rowGet, e3]; exact e4.le a c ha hc⟩ (jlt1 (DLe.of_eq rfl)))
                    | (refine GMapLe.of_eq (fun q => ?_) (fun q c hq hc => ?_)
                       · exact (tHas_snoc (a := (IN.getD j default).1) (b := (IN.getD j default).2)).symm
                       · have hc : c = 0 := by omega
                         subst hc
                         by_cases e : q = [(IN.getD j default).1]
                         · simp only [if_pos e]; rfl
                         · simp only [if_neg e])
                    | (refine ⟨⟨by omega, by rw [List.length_append, List.length_singleton]; omega⟩, hf3, ?_⟩
                       exact hT2.push (rows' := putR (putR rows2 k none) nk2 (some ⟨3, 1, (toldL L2 (IN.getD j default).1).length + 1, cellOf encZ (toldL L2 (IN.getD j default).1 ++ [(IN.getD j default).2])⟩)) (a := (IN.getD j default).1) (b := (IN.getD j default).2) (g := cellOf encZ (toldL L2 (IN.getD j default).1 ++ [(IN.getD j default).2])) (ko := fun k' => k' = k) (fun k' hk' => ⟨hh, (toldL L2 (IN.getD j default).1).length, by have hk2 : k' = k := hk'; rw [hk2]; exact e1⟩) (fun k' h1 h2 => by simp only [putR]; rw [if_neg h1, if_neg h2]) (by simp only [putR, if_true]) (RowLe.refl _ _ _))
                · have ht0 := told_none hh
                  simp only [Int.toNat_natCast] at ht0
                  conv => whnf
                  repeat' first | ((first | refine NextVC.mk ((j + 1, L2 ++ [IN.getD j default]), nk2 + 1, putR rows2 nk2 (some ⟨3, 1, 1, cellOf encZ [(IN.getD j default).2]⟩), fun q c => if q = [(IN.getD j default).1] then .fs nk2 1 1 else get2 q c) ?_ ?_ ?_ | refine Bt ?_ | refine Bf ?_ | refine Ni ?_ ?_ | refine Wq ?_ | refine Di ?_ | refine Oi ?_); conv => whnf)
                  all_goals try simp only [cZ, bZ, Int.toNat_natCast]
                  all_goals first
                    | exact Lf | exact ⟨trivial, trivial, rfl, by kernel_rfl⟩ | exact DLe.of_eq (by rw [hsj]) | exact FamLe.put (FamLe.refl _) (row_one (jlt1 (DLe.of_eq rfl)))
                    | (refine GMapLe.of_eq (fun q => ?_) (fun q c hq hc => ?_)
                       · exact (tHas_snoc (a := (IN.getD j default).1) (b := (IN.getD j default).2)).symm
                       · have hc : c = 0 := by omega
                         subst hc
                         by_cases e : q = [(IN.getD j default).1]
                         · simp only [if_pos e]; rfl
                         · simp only [if_neg e])
                    | (refine ⟨⟨by omega, by rw [List.length_append, List.length_singleton]; omega⟩, hf3, ?_⟩
                       have hpu := hT2.push (rows' := putR rows2 nk2 (some ⟨3, 1, 1, cellOf encZ [(IN.getD j default).2]⟩)) (a := (IN.getD j default).1) (b := (IN.getD j default).2) (g := cellOf encZ [(IN.getD j default).2]) (ko := fun _ => False) (fun k' hk' => hk'.elim) (fun k' h1 _ => by simp only [putR]; rw [if_neg h1]) (by rw [ht0]; simp only [putR, if_true, List.length_nil]) (by rw [ht0]; exact RowLe.refl _ _ _)
                       rw [ht0] at hpu
                       exact hpu)
              all_goals first | exact ⟨rfl, rfl, rfl, by kernel_rfl⟩ | exact ⟨by simp only; omega, by simp only; omega⟩
            · have hjt0 : IN.length ≤ j := by rw [decide_eq_false_iff_not] at hjt; simp only [Int.toNat_natCast] at hjt; omega
              rw [List.drop_eq_nil_of_le hjt0, List.append_nil] at hf2
              conv => whnf
              repeat' first | ((first | refine NextVC.mk ((i + 1, L2), nk2, rows2, get2) ?_ ?_ ?_ | refine Bt ?_ | refine Bf ?_ | refine Ni ?_ ?_ | refine Wq ?_ | refine Di ?_ | refine Oi ?_); conv => whnf)
              all_goals try simp only [hsi]
              all_goals first
                | exact Lf | exact ⟨⟨by omega, by omega⟩, by rw [hf2, List.append_assoc]; exact hf, hT2⟩
                | skip
        · exact ⟨by simp only; omega, by simp only; omega⟩
      · have hlt0 : old.length ≤ i := by simpa using hlt
        rw [List.drop_eq_nil_of_le hlt0] at hf
        have e : L = old.flatMap (introsF nodes) := by rw [← hf]; simp
        subst e
        obtain ⟨LL, hLL⟩ : ∃ LL, LL = old.flatMap (introsF nodes) := ⟨_, rfl⟩
        rw [← hLL] at hT hL
        rw [← hLL]
        conv => whnf
        repeat' first | ((first | refine Bt ?_ | refine Bf ?_ | refine Ni ?_ ?_ | refine Wq ?_ | refine Di ?_ | refine Oi ?_); conv => whnf)
        refine loop_auto [0, 0 + 1, 6, 47, 48] [19] (fun x : Nat × (Nat → Nat) × Nat × (Nat → Option FRow) => [(49, .d (.int .i64 x.1)), (11, .osl 2000 5 0 x.1)]) (fun x => [(2000, .frow 900000 45 5 x.1 (peerGet x.2.1 ((old.take x.1).map (round1F nodes old)))), (900000, .fam x.2.2.1 x.2.2.2)])
          (fun x => x.1 ≤ old.length ∧ NestP x.2.2.2 x.2.2.1 3 x.2.1 ((old.take x.1).map (round1F nodes old)) ∧ TOLD x.2.2.2 x.2.2.1 3 get LL) (fun x => old.length - x.1) (0, fun _ => 0, nk, rows) ?_ (fun x hx => ?_) ⟨Nat.zero_le _, NestAt.nil, hT⟩
        · conv => whnf
          repeat' first | ((first | refine Bt ?_ | refine Bf ?_ | refine Ni ?_ ?_ | refine Wq ?_ | refine Di ?_ | refine Oi ?_); conv => whnf) | (refine bc_intro (fun _ => ?_) (fun _ => ?_) <;> (conv => whnf))
          all_goals try first | exact Lq
        · obtain ⟨a, key, nk3, rows3⟩ := x
          obtain ⟨ha, hN, hT3⟩ := hx
          simp only at ha hN hT3
          conv => whnf
          refine bc_intro (fun hlt2 => ?_) (fun hlt2 => ?_)
          · have hlt3 : a < old.length := by simpa using hlt2
            have hsa : IntKind.i64.wrap ((a : Int) + 1) = ((a + 1 : Nat) : Int) := wrap_succ (n := 1000) (by omega) (by omega)
            have hpm := hmem _ (getD_mem2 hlt3)
            have hpB := hNB.at hlt3
            obtain ⟨K, hK⟩ : ∃ K, K = keepF nodes (old.getD a default) := ⟨_, rfl⟩
            have hksp : Sx.Spec Tryz.prog GG 71 [.d (encL encN 3 nodes), peerS (old.getD (a : Int).toNat default)] [] (linkS K) [] := by rw [hK]; exact keep0 ⟨hpm, hS, hpB⟩
            obtain ⟨z, hz⟩ : ∃ z, z = round1F nodes old (old.getD a default) := ⟨_, rfl⟩
            have hz1 : z.id = (old.getD a default).id := by rw [hz]; rfl
            have hz2 : z.left = K.left := by rw [hz, hK]; rfl
            have hz3 : z.right = K.right := by rw [hz, hK]; rfl
            have hz4 : z.near = (old.getD a default).near := by rw [hz]; rfl
            have hz5 : z.known = refsF nodes ⟨(old.getD a default).id, toldL LL (old.getD a default).id, K.left, K.right, []⟩ := by rw [hz, hK, hLL]; rfl
            have htk : (old.take (a + 1)).map (round1F nodes old) = (old.take a).map (round1F nodes old) ++ [z] := by rw [take_snoc hlt3, List.map_append, hz]; rfl
            conv => whnf
            repeat' first | ((first | refine Ci hksp ?_ | refine Bt ?_ | refine Bf ?_ | refine Ni ?_ ?_ | refine Wq ?_ | refine Di ?_ | refine Oi ?_); conv => whnf)
            · have hla : ((old.take a).map (round1F nodes old)).length = a := by rw [List.length_map, List.length_take]; omega
              have hRF : ∀ {a' : List SV}, LeL a' [.d (.int .i64 (old.getD a default).id), .d (encL encZ 1 (toldL LL (old.getD a default).id)), .d (.int .i64 K.left), .d (.int .i64 K.right), .d (encL encR 4 [])] → (Sml nodes ∧ PrB ⟨(old.getD a default).id, toldL LL (old.getD a default).id, K.left, K.right, []⟩) →
                  Sx.Spec Tryz.prog GG 72 [.d (encL encN 3 nodes), .agg a'] [] (.osl 5001 1 0 z.known.length) [(5001, .row 3 1 z.known.length (cellOf encZ z.known))] := fun hle h => by
                rw [hz5]; exact refs_le 5001 (p := ⟨(old.getD a default).id, toldL LL (old.getD a default).id, K.left, K.right, []⟩) hle h
              have hflat : FlatB (.row 3 1 z.known.length (cellOf encZ z.known)) := fun i j hi hj => jlt1 (p := fun j => flatD (cellOf encZ z.known i j) = true) rfl j hj
              have hqB : PrB ⟨(old.getD a default).id, toldL LL (old.getD a default).id, K.left, K.right, []⟩ := ⟨by have := told_len (L := LL) (id := (old.getD a default).id); simp only; omega, by simp⟩
              refine bc_intro (fun hh => ?_) (fun hh => ?_)
              · obtain ⟨k, g, e1, e2, e3, e4⟩ := hT3.cell _ hh
                simp only [Int.toNat_natCast] at hh e1 e3 e4
                have e1' : get [(old.getD (a : Int).toNat default).id] 0 = .fs k 1 (toldL LL (old.getD a default).id).length := e1
                have hle : LeL [.d (.int .i64 (old.getD a default).id), .d (.list (toldL LL (old.getD a default).id).length 1 (rowGet rows3 k)), .d (.int .i64 K.left), .d (.int .i64 K.right), .d (.val (.slice none 0 0))] [.d (.int .i64 (old.getD a default).id), .d (encL encZ 1 (toldL LL (old.getD a default).id)), .d (.int .i64 K.left), .d (.int .i64 K.right), .d (encL encR 4 [])] :=
                  LeL.cons (LeS.refl _) (LeL.cons (LeS.d (DLe.rows rfl ⟨fun x y hx hy => by simp only [rowGet, e3]; exact e4.le x y hx hy⟩)) (LeL.cons (LeS.refl _) (LeL.cons (LeS.refl _) (LeL.cons (LeS.d DLe.nil) LeL.nil))))
                conv => whnf
                dsimp only
                rw [e1']
                conv => whnf
                repeat' first | ((first | refine Cf (hRF hle) ?_ ?_ | refine NextVC.mk (a + 1, (fun c => if c = ((old.take a).map (round1F nodes old)).length then nk3 else key c), nk3 + 1, putR rows3 nk3 (some ⟨3, 1, z.known.length, cellOf encZ z.known⟩)) ?_ ?_ ?_ | refine Bt ?_ | refine Bf ?_ | refine Ni ?_ ?_ | refine Wq ?_ | refine Di ?_ | refine Oi ?_); conv => whnf)
                all_goals try simp only [cP, bP, cZ, bZ, Int.toNat_natCast]
                all_goals first
                  | exact Lf | exact ⟨hS, hqB⟩ | exact DLe.of_eq (by rw [hsa]) | exact ⟨trivial, by omega, by omega⟩ | exact ⟨_, e3, rfl, Nat.le_refl _⟩ | exact FamLe.refl _
                  | (rw [htk]; exact peerGet_push hla.symm (rfl) (by rw [hz1]; rfl) (by rw [hz2]) (by rw [hz3]) (by rw [hz4]; exact DLe.refl _))
                  | (refine ⟨by omega, ?_, hT3.put⟩; rw [htk]; exact hN.snoc rfl (RowLe.refl _ _ _))
              · have ht0 := told_none hh
                simp only [Int.toNat_natCast] at ht0
                have hle : LeL [.d (.int .i64 (old.getD a default).id), .d (.val (.slice none 0 0)), .d (.int .i64 K.left), .d (.int .i64 K.right), .d (.val (.slice none 0 0))] [.d (.int .i64 (old.getD a default).id), .d (encL encZ 1 (toldL LL (old.getD a default).id)), .d (.int .i64 K.left), .d (.int .i64 K.right), .d (encL encR 4 [])] :=
                  LeL.cons (LeS.refl _) (LeL.cons (LeS.d (by rw [ht0]; exact DLe.nil)) (LeL.cons (LeS.refl _) (LeL.cons (LeS.refl _) (LeL.cons (LeS.d DLe.nil) LeL.nil))))
                conv => whnf
                conv => whnf
                repeat' first | ((first | refine Cf (hRF hle) ?_ ?_ | refine NextVC.mk (a + 1, (fun c => if c = ((old.take a).map (round1F nodes old)).length then nk3 else key c), nk3 + 1, putR rows3 nk3 (some ⟨3, 1, z.known.length, cellOf encZ z.known⟩)) ?_ ?_ ?_ | refine Bt ?_ | refine Bf ?_ | refine Ni ?_ ?_ | refine Wq ?_ | refine Di ?_ | refine Oi ?_); conv => whnf)
                all_goals try simp only [cP, bP, cZ, bZ, Int.toNat_natCast]
                all_goals first
                  | exact Lf | exact ⟨hS, hqB⟩ | exact DLe.of_eq (by rw [hsa]) | exact ⟨trivial, by omega, by omega⟩ | exact FamLe.refl _
                  | (rw [htk]; exact peerGet_push hla.symm (rfl) (by rw [hz1]; rfl) (by rw [hz2]) (by rw [hz3]) (by rw [hz4]; exact DLe.refl _))
                  | (refine ⟨by omega, ?_, hT3.put⟩; rw [htk]; exact hN.snoc rfl (RowLe.refl _ _ _))
            all_goals first | exact ⟨rfl, rfl, rfl, by kernel_rfl⟩ | exact ⟨by simp only; omega, by simp only; omega⟩
          · have hlt3 : old.length ≤ a := by simpa using hlt2
            have e2 : a = nodes.length := by omega
            have e3 : (old.take a).map (round1F nodes old) = linRoundF nodes ps := by rw [take_ge hlt3, hdef]
            rw [e3] at hN
            conv => whnf
            repeat' first | ((first | refine Bt ?_ | refine Bf ?_ | refine Ni ?_ ?_ | refine Wq ?_ | refine Di ?_ | refine Oi ?_); conv => whnf)
            refine ⟨(nk3, rows3, key), hN, ?_⟩
            conv => whnf
            repeat' first | ((first | refine Bt ?_ | refine Bf ?_ | refine Ni ?_ ?_ | refine Wq ?_ | refine Di ?_ | refine Oi ?_); conv => whnf)
            all_goals first
              | exact Lf
              | (rw [← e2, e3]; exact FRowLe.refl _ _ _)
  all_goals exact ⟨hS, hP⟩
end Go.Proofs.YtiadnhbclipmhaaGreatDoor

namespace Go.Proofs.YtiadnhbclipmhaaGreatDoor
open Go Go.Sx Go.ChangeShapes Go.WideShapes Go.ChangeAt Go.RowKit
set_option linter.unusedVariables false
set_option linter.unusedSimpArgs false
set_option maxRecDepth 100000
theorem other_spec (nodes : List NodeT) (id own : Int) : nodes.length ≤ 1000 → Sx.Spec Tryz.prog GG 49 [.d (encL encN 3 nodes), .d (.int .i64 id), .d (.int .i64 own)] [] (.d (.int .i64 (otherF nodes id own))) [] := by
  intro hl
  cases hf : findN nodes id with
  | none =>
    refine spec_intro (E := EE) (fn := Tryz.f49) eok (by kernel_rfl) (by kernel_rfl) Tryz.call49 (by kernel_rfl) (by kernel_rfl) ?_
    conv => whnf
    repeat' first | ((first | refine Cf (find_no) ?_ ?_ | refine Bt ?_ | refine Bf ?_ | refine Ni ?_ ?_ | refine Wq ?_ | refine Di ?_ | refine Oi ?_); conv => whnf) | (refine bc_intro (fun _ => ?_) (fun _ => ?_) <;> (conv => whnf))
    all_goals first | exact ⟨hf, hl⟩ | (refine ⟨LeS.of_eq ?_, trivial⟩; simp [otherF, hf])
  | some x =>
    refine spec_intro (E := EE) (fn := Tryz.f49) eok (by kernel_rfl) (by kernel_rfl) Tryz.call49 (by kernel_rfl) (by kernel_rfl) ?_
    conv => whnf
    repeat' first | ((first | refine call_if (find_is (x := x)) Fl (Ni ?_ ?_) | refine Bt ?_ | refine Bf ?_ | refine Ni ?_ ?_ | refine Wq ?_ | refine Di ?_ | refine Oi ?_); conv => whnf) | (refine bc_intro (fun _ => ?_) (fun _ => ?_) <;> (conv => whnf))
    all_goals first | exact ⟨hf, hl⟩ | (refine ⟨LeS.of_eq ?_, trivial⟩; simp_all [otherF])
theorem pair_spec (nodes : List NodeT) (own nb : Int) (lv : Nat) (zero one : Int) : (Sml nodes ∧ lv < 16) → Sx.Spec Tryz.prog GG 91 [.d (encL encN 3 nodes), .d (.int .i64 own), .d (.int .i64 nb), .d (.int .i64 lv), .d (.int .i64 zero), .d (.int .i64 one)] [] (.tup [.d (.int .i64 (pairF nodes own nb lv zero one).1), .d (.int .i64 (pairF nodes own nb lv zero one).2)]) [] := by
  rintro ⟨hS, h16⟩
  have hl := hS.l20
  cases hf : findN nodes nb with
  | none =>
    refine spec_intro (E := EE) (fn := Tryz.f91) eok (by kernel_rfl) (by kernel_rfl) Tryz.call91 (by kernel_rfl) (by kernel_rfl) ?_
    conv => whnf
    repeat' first | ((first | refine Cf (find_no) ?_ ?_ | refine Bt ?_ | refine Bf ?_ | refine Ni ?_ ?_ | refine Wq ?_ | refine Di ?_ | refine Oi ?_); conv => whnf) | (refine bc_intro (fun _ => ?_) (fun _ => ?_) <;> (conv => whnf))
    all_goals first
      | exact ⟨hf, by omega⟩
      | (simp only [pairF, hf]; exact ⟨LeS.refl _, trivial⟩)
  | some x =>
    have hw := hS.wd x (find_mem hf).1
    have hb := bit_spec x.word (lv : Int)
    rw [if_pos (by omega)] at hb
    simp only [Int.toNat_natCast] at hb
    refine spec_intro (E := EE) (fn := Tryz.f91) eok (by kernel_rfl) (by kernel_rfl) Tryz.call91 (by kernel_rfl) (by kernel_rfl) ?_
    conv => whnf
    repeat' first | ((first | refine call_if (find_is (x := x)) Fl (Ni ?_ ?_) | refine Cf (hb) ?_ ?_ | refine Cf (other_spec _ _ _) ?_ ?_ | refine Bt ?_ | refine Bf ?_ | refine Ni ?_ ?_ | refine Wq ?_ | refine Di ?_ | refine Oi ?_); conv => whnf)
    · refine bc_intro (fun hh => ?_) (fun hh => ?_)
      · have hh0 : bitW x.word lv = 0 := by have := eq_of_beq hh; omega
        conv => whnf
        repeat' first | ((first | refine Cf (other_spec _ _ _) ?_ ?_ | refine Bt ?_ | refine Bf ?_ | refine Ni ?_ ?_ | refine Wq ?_ | refine Di ?_ | refine Oi ?_); conv => whnf)
        all_goals first
          | omega
          | (simp only [pairF, hf, hh0, if_true]; exact ⟨LeS.refl _, trivial⟩)
      · have hh0 : ¬ bitW x.word lv = 0 := by intro e; rw [e] at hh; cases hh
        conv => whnf
        repeat' first | ((first | refine Cf (other_spec _ _ _) ?_ ?_ | refine Bt ?_ | refine Bf ?_ | refine Ni ?_ ?_ | refine Wq ?_ | refine Di ?_ | refine Oi ?_); conv => whnf)
        all_goals first
          | omega
          | (simp only [pairF, hf, if_neg hh0]; exact ⟨LeS.refl _, trivial⟩)
    all_goals first | exact ⟨hf, by omega⟩ | exact hw
theorem link_spec (nodes : List NodeT) (p : PeerT) (lv : Nat) : ((∃ x ∈ nodes, x.id = p.id) ∧ Sml nodes ∧ PrB p ∧ lv ≤ 16) → Sx.Spec Tryz.prog GG 24 [.d (encL encN 3 nodes), peerS p, .d (.int .i64 lv)] [] (linkS (linkP nodes p lv)) [] := by
  rintro ⟨⟨x, hx, hid⟩, hS, hP, h16⟩
  have hl := hS.l20
  have hnl := hP.near
  have hfx : findN nodes p.id = some x := by rw [← hid]; exact find_of hS.r.ids hx
  have hw := hS.wd x hx
  have hwd : wordF nodes p.id = x.word := by simp [wordF, hfx]
  have hs : 0 < lv → IntKind.i64.wrap ((lv : Int) - 1) = ((lv - 1 : Nat) : Int) := fun h => by rw [wrap_of (by omega) (by omega)]; omega
  have cl : ∀ {q : Prop}, lv < 0 → q := fun h => absurd h (by omega)
  by_cases hlt : p.near.length < lv
  · have hL : linkP nodes p lv = ⟨0, 0⟩ := by simp only [linkP, if_pos hlt]
    rw [hL]
    refine spec_intro (E := EE) (fn := Tryz.f24) eok (by kernel_rfl) (by kernel_rfl) Tryz.call24 (by kernel_rfl) (by kernel_rfl) ?_
    conv => whnf
    repeat' first | ((first | refine call_if (find_is (x := x)) Fl (Ni ?_ ?_) | refine Cf (check_ok0) ?_ ?_ | refine Bt ?_ | refine Bf ?_ | refine Ni ?_ ?_ | refine Wq ?_ | refine Di ?_ | refine Oi ?_); conv => whnf) | (refine bc_intro (fun _ => ?_) (fun _ => ?_) <;> (conv => whnf))
    all_goals try simp only [decide_eq_true_eq, decide_eq_false_iff_not] at *
    all_goals first | omega | exact ⟨LeS.refl _, trivial⟩ | exact ⟨hfx, by omega⟩ | exact hS
  · have hL : linkP nodes p lv = ⟨otherF nodes (baseP nodes p lv).left p.id, otherF nodes (baseP nodes p lv).right p.id⟩ := by simp only [linkP, if_neg hlt]
    rw [hL]
    rcases Nat.eq_zero_or_pos lv with h0 | h0
    · subst h0
      have hB : baseP nodes p 0 = ⟨p.left, p.right⟩ := rfl
      rw [hB]
      refine spec_intro (E := EE) (fn := Tryz.f24) eok (by kernel_rfl) (by kernel_rfl) Tryz.call24 (by kernel_rfl) (by kernel_rfl) ?_
      conv => whnf
      repeat' first | ((first | refine call_if (find_is (x := x)) Fl (Ni ?_ ?_) | refine Cf (check_ok0) ?_ ?_ | refine Cf (other_spec _ _ _) ?_ ?_ | refine Bt ?_ | refine Bf ?_ | refine Ni ?_ ?_ | refine Wq ?_ | refine Di ?_ | refine Oi ?_); conv => whnf) | (refine bc_intro (fun _ => ?_) (fun _ => ?_) <;> (conv => whnf))
      all_goals try simp only [decide_eq_true_eq, decide_eq_false_iff_not] at *
      all_goals first | omega | exact ⟨LeS.refl _, trivial⟩ | exact ⟨hfx, by omega⟩ | exact hS
    · have hsi := hs h0
      have hb := bit_spec x.word ((lv - 1 : Nat) : Int)
      rw [if_pos (by omega)] at hb
      simp only [Int.toNat_natCast] at hb
      rw [← hsi] at hb
      have hB : baseP nodes p lv = if bitW x.word (lv - 1) = 1 then ⟨(p.near.getD (lv - 1) default).l1, (p.near.getD (lv - 1) default).r1⟩ else ⟨(p.near.getD (lv - 1) default).l0, (p.near.getD (lv - 1) default).r0⟩ := by simp only [baseP, if_neg (show ¬ lv = 0 by omega), hwd]
      refine spec_intro (E := EE) (fn := Tryz.f24) eok (by kernel_rfl) (by kernel_rfl) Tryz.call24 (by kernel_rfl) (by kernel_rfl) ?_
      conv => whnf
      repeat' first | ((first | refine call_if (find_is (x := x)) Fl (Ni ?_ ?_) | refine Cf (check_ok0) ?_ ?_ | refine Cf (hb) ?_ ?_ | refine Cf (other_spec _ _ _) ?_ ?_ | refine Bt ?_ | refine Bf ?_ | refine Ni ?_ ?_ | refine Wq ?_ | refine Di ?_ | refine Oi ?_); conv => whnf) | (refine bc_intro (fun _ => ?_) (fun _ => ?_) <;> (conv => whnf))
      all_goals try simp only [decide_eq_true_eq, decide_eq_false_iff_not, beq_iff_eq, beq_eq_false_iff_ne, hsi, Int.toNat_natCast] at *
      all_goals first
        | omega | exact ⟨LeS.refl _, trivial⟩ | exact ⟨hfx, by omega⟩ | exact hS | exact hw | exact ⟨by omega, by omega⟩
        | (rw [hB, if_pos (by omega)]; exact ⟨LeS.refl _, trivial⟩)
        | (rw [hB, if_neg (by omega)]; exact ⟨LeS.refl _, trivial⟩)
theorem at1_spec (id : Int) (p : PeerT) : Sx.Spec Tryz.prog GG 115 [peerS p, .ptr 1000 0] [(1000, .box [.d (.int .i64 id)])] (.d (.bool (p.id == id))) [(1000, .box [.d (.int .i64 id)])] := by
  refine spec_intro (E := EE) (fn := Tryz.f115) eok (by kernel_rfl) (by kernel_rfl) Tryz.call115 (by kernel_rfl) (by kernel_rfl) ?_
  conv => whnf
  repeat' first | ((first | refine Bt ?_ | refine Bf ?_ | refine Ni ?_ ?_ | refine Wq ?_ | refine Di ?_ | refine Oi ?_); conv => whnf) | (refine bc_intro (fun _ => ?_) (fun _ => ?_) <;> (conv => whnf))
  exact ⟨LeS.refl _, LeL.refl _, trivial⟩
theorem idxAt_spec (id : Int) (xs : List PeerT) : xs.length ≤ 1000 → Sx.Spec Tryz.prog GG 38 [.d (encL encP 5 xs), .clo 115 [.ptr 1000 0]] [(1000, .box [.d (.int .i64 id)])] (.d (.int .i64 (idxP (fun p : PeerT => p.id == id) xs 0))) [(1000, .box [.d (.int .i64 id)])] := by
  intro hl
  refine spec_intro (E := EE) (fn := Tryz.f38) eok (by kernel_rfl) (by kernel_rfl) Tryz.call38 (by kernel_rfl) (by kernel_rfl) ?_
  conv => whnf
  repeat' first | ((first | refine Bt ?_ | refine Bf ?_ | refine Ni ?_ ?_ | refine Wq ?_ | refine Di ?_ | refine Oi ?_); conv => whnf) | (refine bc_intro (fun _ => ?_) (fun _ => ?_) <;> (conv => whnf))
  refine loop_auto [0, 0 + 1, 6, 7] [1000] (fun i : Nat => [(8, .d (.int .i64 i))]) (fun _ => []) (fun i => i ≤ xs.length ∧ idxP (fun p : PeerT => p.id == id) xs 0 = idxP (fun p : PeerT => p.id == id) (xs.drop i) i) (fun i => xs.length - i) 0 ?_ (fun i hi => ?_) ⟨Nat.zero_le _, by simp⟩
  · conv => whnf
    repeat' first | ((first | refine Bt ?_ | refine Bf ?_ | refine Ni ?_ ?_ | refine Wq ?_ | refine Di ?_ | refine Oi ?_); conv => whnf) | (refine bc_intro (fun _ => ?_) (fun _ => ?_) <;> (conv => whnf))
    all_goals try first | exact Lq
  · obtain ⟨h1, h2⟩ := hi
    have e1 : i < xs.length → IntKind.i64.wrap ((i : Int) + 1) = ((i + 1 : Nat) : Int) := fun h => wrap_succ (n := 1000) (by omega) (by omega)
    conv => whnf
    repeat' first | ((first | refine call_intro (at1_spec _ (xs.getD (i : Int).toNat default)) ?_ Fl | refine NextVC.mk (i + 1) ?_ ?_ ?_ | refine Bt ?_ | refine Bf ?_ | refine Ni ?_ ?_ | refine Wq ?_ | refine Di ?_ | refine Oi ?_); conv => whnf) | (refine bc_intro (fun _ => ?_) (fun _ => ?_) <;> (conv => whnf))
    all_goals try simp only [decide_eq_true_eq, decide_eq_false_iff_not, Int.toNat_natCast] at *
    all_goals first
      | exact trivial | exact DLe.refl _ | omega | exact DLe.of_eq (by rw [e1 (by omega)]) | (refine ⟨LeS.of_eq ?_, LeL.refl _, trivial⟩; rw [h2, idxP_end (by omega)]) | (refine ⟨LeS.of_eq ?_, LeL.refl _, trivial⟩; rw [h2, idxP_step (by omega)]; simp_all; done) | (refine ⟨by omega, ?_⟩; rw [h2, idxP_step (by omega)]; simp_all; done)
      | (have hq := ‹_ = true›; refine ⟨LeS.of_eq ?_, LeL.refl _, trivial⟩; rw [h2, idxP_step (by omega)]; simp_all; done)
theorem idxAt_at (m : Nat) (id : Int) (xs : List PeerT) (h : xs.length ≤ 1000) : Sx.Spec Tryz.prog GG 38 [.d (encL encP 5 xs), .clo 115 [.ptr m 0]] [(m, .box [.d (.int .i64 id)])] (.d (.int .i64 (idxP (fun p : PeerT => p.id == id) xs 0))) [(m, .box [.d (.int .i64 id)])] := (idxAt_spec id xs h).at m
theorem getD_ge2 {α : Type} [Inhabited α] {xs : List α} {i : Nat} (h : xs.length ≤ i) : xs.getD i default = default := by
  simp [List.getD, List.getElem?_eq_none h]
theorem at_spec (ps : List PeerT) (id : Int) (lv : Nat) : (PrsB ps ∧ lv ≤ 16) → Sx.Spec Tryz.prog GG 90 [.d (encL encP 5 ps), .d (.int .i64 id), .d (.int .i64 lv)] [] (nearS (atF ps id lv)) [] := by
  rintro ⟨hP, h16⟩
  have hpl := hP.len
  rcases find_idx (ps := ps) (id := id) with ⟨q1, q2⟩ | ⟨k, q1, q2, q3⟩
  · have hat : atF ps id lv = default := by simp only [atF, q2]; rfl
    refine spec_intro (E := EE) (fn := Tryz.f90) eok (by kernel_rfl) (by kernel_rfl) Tryz.call90 (by kernel_rfl) (by kernel_rfl) ?_
    conv => whnf
    repeat' first | ((first | refine Cf (idxAt_at _ _ _) ?_ ?_ | refine Bt ?_ | refine Bf ?_ | refine Ni ?_ ?_ | refine Wq ?_ | refine Di ?_ | refine Oi ?_); conv => whnf) | (refine bc_intro (fun _ => ?_) (fun _ => ?_) <;> (conv => whnf))
    all_goals try simp only [q1, decide_eq_true_eq, decide_eq_false_iff_not] at *
    all_goals first
      | omega
      | (rw [hat]; exact ⟨LeS.refl _, trivial⟩)
  · have hB := (hP.at q2).near
    have hat : atF ps id lv = (ps.getD k default).near.getD lv default := by simp only [atF, q3]; rfl
    refine spec_intro (E := EE) (fn := Tryz.f90) eok (by kernel_rfl) (by kernel_rfl) Tryz.call90 (by kernel_rfl) (by kernel_rfl) ?_
    conv => whnf
    repeat' first | ((first | refine Cf (idxAt_at _ _ _) ?_ ?_ | refine Bt ?_ | refine Bf ?_ | refine Ni ?_ ?_ | refine Wq ?_ | refine Di ?_ | refine Oi ?_); conv => whnf) | (refine bc_intro (fun _ => ?_) (fun _ => ?_) <;> (conv => whnf))
    all_goals try simp only [q1, decide_eq_true_eq, decide_eq_false_iff_not, Int.toNat_natCast] at *
    all_goals first
      | omega | exact ⟨by omega, by omega⟩
      | (rw [hat, getD_ge2 (by omega)]; exact ⟨LeS.refl _, trivial⟩)
      | (rw [hat]; exact ⟨LeS.refl _, trivial⟩)
end Go.Proofs.YtiadnhbclipmhaaGreatDoor

namespace Go.Proofs.YtiadnhbclipmhaaGreatDoor
open Go Go.Sx Go.ChangeShapes Go.WideShapes Go.ChangeAt Go.RowKit
set_option linter.unusedVariables false
set_option linter.unusedSimpArgs false
set_option maxRecDepth 100000
theorem row_rep {n : Nat} : RowLe n 4 (fun _ j => [D.int .i64 0, D.int .i64 0, D.int .i64 0, D.int .i64 0].getD j default) (cellOf encR (List.replicate n default)) := by
  refine .of_eq fun i j hi hj => ?_
  have e : (List.replicate n (default : NearT)).getD i default = default := by simp [List.getD, hi]
  simp only [cellOf, e]; rfl
theorem set_next {α : Type} [Inhabited α] {f : Nat → α} {h lv : Nat} {L : List α} (hl : lv < h) (hL : L.length = h) (hf : L = (List.range lv).map f ++ List.replicate (h - lv) default) :
    L.set lv (f lv) = (List.range (lv + 1)).map f ++ List.replicate (h - (lv + 1)) default := by
  rw [hf, List.set_append_right _ _ (by simp)]
  simp only [List.length_map, List.length_range, Nat.sub_self]
  rw [show h - lv = (h - (lv + 1)) + 1 by omega, List.replicate_succ, List.set_cons_zero, List.range_succ, List.map_append]
  simp
theorem bnext0 {nodes : List NodeT} {ps : List PeerT} {p : PeerT} {h : Nat} : ((∃ x ∈ nodes, x.id = p.id) ∧ Sml nodes ∧ PrsB ps ∧ PrB p ∧ h ≤ 16) → Sx.Spec Tryz.prog GG 73 [.d (encL encN 3 nodes), .d (encL encP 5 ps), peerS p, .d (.int .i64 h)] [] (.osl 2000 4 0 h) [(2000, .row 58 4 h (cellOf encR (nextF nodes ps p h)))] := by
  rintro ⟨hx, hS, hPs, hP, h16⟩
  have cR : Tryz.prog.cellsOf 58 = 4 := by kernel_rfl
  have bR : Tryz.prog.bytesOf 58 = 32 := by kernel_rfl
  refine spec_intro (E := EE) (fn := Tryz.f73) eok (by kernel_rfl) (by kernel_rfl) Tryz.call73 (by kernel_rfl) (by kernel_rfl) ?_
  conv => whnf
  repeat' first | ((first | refine Bt ?_ | refine Bf ?_ | refine Ni ?_ ?_ | refine Wq ?_ | refine Di ?_ | refine Oi ?_); conv => whnf)
  · refine loop_auto [0, 0 + 1, 6, 17] [6] (fun x : Nat × List NearT => [(18, .d (.int .i64 x.1)), (9, .osl 2000 4 0 h)]) (fun x => [(2000, .row 58 4 h (cellOf encR x.2))])
      (fun x => (x.1 ≤ h ∧ x.2.length = h) ∧ x.2 = (List.range x.1).map (near1F nodes ps p) ++ List.replicate (h - x.1) default) (fun x => h - x.1) (0, List.replicate h default) ?_ (fun x hx => ?_) ⟨⟨Nat.zero_le _, by simp⟩, by simp⟩
    · conv => whnf
      repeat' first | ((first | refine Bt ?_ | refine Bf ?_ | refine Ni ?_ ?_ | refine Wq ?_ | refine Di ?_ | refine Oi ?_); conv => whnf) | (refine bc_intro (fun _ => ?_) (fun _ => ?_) <;> (conv => whnf))
      all_goals try first | exact Lq
      all_goals exact row_rep
    · obtain ⟨lv, L⟩ := x
      obtain ⟨⟨hi, hL⟩, hf⟩ := hx
      simp only at hi hL hf
      have hs : lv < h → IntKind.i64.wrap ((lv : Int) + 1) = ((lv + 1 : Nat) : Int) := fun h => wrap_succ (n := 1000) (by omega) (by omega)
      conv => whnf
      refine bc_intro (fun hlt => ?_) (fun hlt => ?_)
      · have hlt0 : lv < h := by simpa using hlt
        have hsi := hs hlt0
        conv => whnf
        repeat' first | ((first | refine Cf (link_spec _ _ _) ?_ ?_ | refine Cf (at_spec _ _ _) ?_ ?_ | refine Cf (pair_spec _ _ _ _ _ _) ?_ ?_ | refine NextVC.mk (lv + 1, L.set lv (near1F nodes ps p lv)) ?_ ?_ ?_ | refine Bt ?_ | refine Bf ?_ | refine Ni ?_ ?_ | refine Wq ?_ | refine Di ?_ | refine Oi ?_); conv => whnf)
        all_goals try simp only [Int.toNat_natCast, Nat.zero_add, hsi]
        all_goals first
          | exact Lf | exact ⟨hS, by omega⟩ | exact ⟨hPs, by omega⟩ | exact ⟨hx, hS, hP, by omega⟩ | exact ⟨by omega, by omega⟩ | exact ⟨⟨by omega, by rw [List.length_set]; exact hL⟩, set_next hlt0 hL hf⟩
          | (refine .of_eq fun i j hi' hj => ?_
             simp only [cellOf, set_get (show lv < L.length by omega)]
             by_cases e : i = lv
             · subst e
               simp only [if_true]
               match j, hj with
               | 0, _ => rfl
               | 1, _ => rfl
               | 2, _ => rfl
               | 3, _ => rfl
             · simp only [if_neg e])
      · have hlt0 : h ≤ lv := by simpa using hlt
        have e : lv = h := by omega
        subst e
        have e : L = nextF nodes ps p lv := by rw [hf]; simp [nextF]
        subst e
        conv => whnf
        repeat' first | ((first | refine Bt ?_ | refine Bf ?_ | refine Ni ?_ ?_ | refine Wq ?_ | refine Di ?_ | refine Oi ?_); conv => whnf)
        all_goals first | exact Lf
  all_goals exact ⟨by omega, by omega, by rw [bR]; omega, by omega⟩
end Go.Proofs.YtiadnhbclipmhaaGreatDoor
