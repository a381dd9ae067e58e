/- Part of a symbolic executor over the model, proved sound, with plain laws: SxGrp10. Written for these claims. -/
import Derived.Test.YtegbenagmciegaaGreatDoorSxGrp9
namespace Go.Sx
open Go
set_option linter.unusedVariables false
set_option linter.unusedSimpArgs false

/-! a closed group is opened (chapter 26) -/
theorem settleC_ok : ∀ (k : Nat) {c : CopyT}, validC c = true → c.pend.length ≤ k → c.sv + k < 1099511627776 → (settleC k c).2 = 0 ∧ (settleC k c).1.pend.length = 0
  | 0, c, hv, hp, hs => ⟨rfl, by show c.pend.length = 0; omega⟩
  | k + 1, c, hv, hp, hs => by
    unfold settleC
    by_cases h0 : c.pend.length = 0
    · rw [if_pos h0]; exact ⟨rfl, h0⟩
    · rw [if_neg h0]
      have hc : (commitC c).2 = 0 := by
        unfold commitC
        rw [if_neg (by simp [hv]), if_neg h0, if_neg (by omega)]
      rw [if_pos hc]
      obtain ⟨e, _, _, _, _, hv2⟩ := commit_okC hc
      refine settleC_ok k hv2 ?_ ?_
      · rw [e]; simp only [List.length_drop]; omega
      · rw [e]; simp only; omega
theorem settle_ok {c : CopyT} (hv : validC c = true) (hs : c.sv ≤ 1000000000) : (settleF c).2 = 0 ∧ (settleF c).1.pend.length = 0 := by
  obtain ⟨_, _, _, _, h5, _⟩ := valid_head hv
  unfold settleF
  rw [if_neg (by simp [hv])]
  exact settleC_ok _ hv (by omega) (by omega)
theorem ext_get {a b : List MemT} (hl : a.length = b.length) (h : ∀ j, j < a.length → a.getD j default = b.getD j default) : a = b := by
  apply List.ext_getElem hl
  intro j h1 h2
  have := h j h1
  simpa [List.getD, h1, h2] using this
def fillM (o : CopyT) (m : MemT) : MemT := if m.up then { m with copy := o } else m
def allAt (G : GrpT) (k : Nat) : GrpT := { G with mem := (G.mem.take k).map (fillM (own0 G).copy) ++ G.mem.drop k }
theorem all_len {G : GrpT} {k : Nat} (hk : k ≤ G.mem.length) : (allAt G k).mem.length = G.mem.length := by
  simp only [allAt, List.length_append, List.length_map, List.length_take, List.length_drop]; omega
theorem all_get {G : GrpT} {k j : Nat} (hk : k ≤ G.mem.length) (hj : j < G.mem.length) : (allAt G k).mem.getD j default = if j < k then fillM (own0 G).copy (G.mem.getD j default) else G.mem.getD j default := by
  simp only [allAt, List.getD]
  by_cases h : j < k
  · rw [if_pos h, List.getElem?_append_left (by simp; omega)]
    simp [h, hj]
  · rw [if_neg h, List.getElem?_append_right (by simp; omega)]
    simp only [List.length_map, List.length_take, List.getElem?_drop]
    congr 2
    omega
theorem fill_id {o : CopyT} {m : MemT} : (fillM o m).id = m.id := by unfold fillM; split <;> rfl
theorem fill_up {o : CopyT} {m : MemT} : (fillM o m).up = m.up := by unfold fillM; split <;> rfl
theorem all_id {G : GrpT} {k j : Nat} (hk : k ≤ G.mem.length) (hj : j < G.mem.length) : ((allAt G k).mem.getD j default).id = (G.mem.getD j default).id := by
  rw [all_get hk hj]; split
  · exact fill_id
  · rfl
theorem all_up {G : GrpT} {k j : Nat} (hk : k ≤ G.mem.length) (hj : j < G.mem.length) : ((allAt G k).mem.getD j default).up = (G.mem.getD j default).up := by
  rw [all_get hk hj]; split
  · exact fill_up
  · rfl
theorem all_own {G : GrpT} {k : Nat} (hk : k ≤ G.mem.length) (hn : 1 ≤ G.mem.length) (hu : (own0 G).up = true) : own0 (allAt G k) = own0 G := by
  have h : (allAt G k).mem.getD 0 default = own0 G := by
    rw [all_get hk (by omega)]
    split
    · show fillM (own0 G).copy (own0 G) = own0 G
      unfold fillM
      rw [if_pos hu]
    · rfl
  exact h
theorem owner_up {g : GrpT} (hn : 1 ≤ g.mem.length) (hu : (own0 g).up = true) : ownerG g = (own0 g, true) := by
  unfold ownerG
  rw [if_neg (by omega), if_pos hu]
theorem all_uniq {G : GrpT} {k : Nat} (hk : k ≤ G.mem.length) (h : Uniq G.mem) : Uniq (allAt G k).mem := by
  intro i j hi hj e
  rw [all_len hk] at hi hj
  rw [all_id hk hi, all_id hk hj] at e
  exact h i j hi hj e
theorem all_same {G : GrpT} {k : Nat} (hk : k < G.mem.length) (hu : (G.mem.getD k default).up = false) : allAt G (k + 1) = allAt G k := by
  have : (allAt G (k + 1)).mem = (allAt G k).mem := by
    refine ext_get (by rw [all_len (by omega), all_len (by omega)]) fun j hj => ?_
    rw [all_len (by omega)] at hj
    rw [all_get (by omega) hj, all_get (by omega) hj]
    by_cases h1 : j < k
    · rw [if_pos h1, if_pos (by omega)]
    · rw [if_neg h1]
      by_cases h2 : j = k
      · subst h2
        rw [if_pos (by omega)]
        unfold fillM
        rw [if_neg (by simp only [hu]; simp)]
      · rw [if_neg (by omega)]
  simp only [allAt] at this ⊢
  rw [this]
theorem all_rep {G : GrpT} {k : Nat} (h0 : 1 ≤ k) (hk : k < G.mem.length) (hq : Uniq G.mem) (ho : (own0 G).up = true) (hu : (G.mem.getD k default).up = true) : replicateG (allAt G k) (G.mem.getD k default).id = (allAt G (k + 1), 0) := by
  have hl := all_len (G := G) (k := k) (by omega)
  have how := owner_up (g := allAt G k) (by omega) (by rw [all_own (by omega) (by omega) ho]; exact ho)
  rw [all_own (by omega) (by omega) ho] at how
  have hix : indexG (allAt G k).mem (G.mem.getD k default).id 1 = (k : Nat) := by
    have := index_at (ms := (allAt G k).mem) (f := 1) (i := k) (all_uniq (by omega) hq) h0 (by omega)
    rw [all_id (by omega) hk] at this
    exact this
  rw [replicate_ok (by rw [how]) (by rw [hix]; omega) (by rw [hix, Int.toNat_natCast, all_up (by omega) hk]; exact hu), how, hix, Int.toNat_natCast]
  have : (allAt G k).mem.set k { (allAt G k).mem.getD k default with copy := (own0 G).copy } = (allAt G (k + 1)).mem := by
    refine ext_get (by rw [List.length_set, hl, all_len (by omega)]) fun j hj => ?_
    rw [List.length_set, hl] at hj
    rw [all_get (k := k + 1) (by omega) hj]
    by_cases h2 : j = k
    · subst h2
      rw [getD_set_self (by omega), if_pos (by omega), all_get (by omega) hj, if_neg (by omega)]
      unfold fillM
      rw [if_pos hu]
    · rw [getD_set_ne h2, all_get (by omega) hj]
      by_cases h3 : j < k
      · rw [if_pos h3, if_pos (by omega)]
      · rw [if_neg h3, if_neg (by omega)]
  show (({ (allAt G k) with mem := _ } : GrpT), (0 : Int)) = _
  rw [this]
  rfl
theorem rec_all {G : GrpT} (hq : Uniq G.mem) (ho : (own0 G).up = true) : ∀ (n : Nat) {k : Nat}, n = G.mem.length - k → 1 ≤ k → k ≤ G.mem.length → recAt G.mem k (allAt G k) = (allAt G G.mem.length, 0)
  | 0, k, hn, h1, hk => by
    have : k = G.mem.length := by omega
    rw [rec_end (by omega), this]
  | n + 1, k, hn, h1, hk => by
    rw [rec_step (by omega)]
    have ih := rec_all hq ho n (k := k + 1) (by omega) (by omega) (by omega)
    split
    · rename_i hu
      rw [all_rep h1 (by omega) hq ho hu, if_neg (by simp)]
      exact ih
    · rename_i hu
      rw [← ih, all_same (by omega) (by simpa using hu)]
theorem all_one {G : GrpT} (hn : 1 ≤ G.mem.length) (ho : (own0 G).up = true) : allAt G 1 = G := by
  have : (allAt G 1).mem = G.mem := by
    refine ext_get (all_len hn) fun j hj => ?_
    rw [all_len hn] at hj
    rw [all_get hn hj]
    split
    · have : j = 0 := by omega
      subst this
      show fillM (own0 G).copy (own0 G) = own0 G
      unfold fillM
      rw [if_pos ho]
    · rfl
  simp only [allAt] at this ⊢
  rw [this]
/-- the replications of a list of numbers, errors or not -/
def runIds : List Int → GrpT → GrpT
  | [], g => g
  | id :: ids, g => runIds ids (replicateG g id).1
theorem run_all {G : GrpT} (hq : Uniq G.mem) (ho : (own0 G).up = true) : ∀ (n : Nat) {k : Nat}, n = G.mem.length - k → 1 ≤ k → k ≤ G.mem.length → runIds (liveL (G.mem.drop k)) (allAt G k) = allAt G G.mem.length
  | 0, k, hn, h1, hk => by
    have : k = G.mem.length := by omega
    rw [List.drop_eq_nil_of_le (by omega), this]; rfl
  | n + 1, k, hn, h1, hk => by
    rw [drop_cons' (by omega)]
    have ih := run_all hq ho n (k := k + 1) (by omega) (by omega) (by omega)
    cases hu : (G.mem.getD k default).up with
    | true =>
      have : liveL (G.mem.getD k default :: G.mem.drop (k + 1)) = (G.mem.getD k default).id :: liveL (G.mem.drop (k + 1)) := by
        unfold liveL
        rw [List.filter_cons_of_pos hu]; rfl
      rw [this]
      unfold runIds
      rw [all_rep h1 (by omega) hq ho hu]
      exact ih
    | false =>
      have : liveL (G.mem.getD k default :: G.mem.drop (k + 1)) = liveL (G.mem.drop (k + 1)) := by
        unfold liveL
        rw [List.filter_cons_of_neg (by simp only [hu]; simp)]
      rw [this, ← all_same (by omega) hu]
      exact ih
theorem live_own {G : GrpT} (hn : 1 ≤ G.mem.length) (ho : (own0 G).up = true) : liveL G.mem = (own0 G).id :: liveL (G.mem.drop 1) := by
  have : G.mem = own0 G :: G.mem.drop 1 := by
    have := drop_cons' (xs := G.mem) (i := 0) (by omega)
    rw [List.drop_zero] at this
    exact this
  conv => lhs; rw [this]
  unfold liveL
  rw [List.filter_cons_of_pos ho]; rfl
theorem opened {r : Rng} {n : Nat} {G : GrpT} (hE : EvM r n G.mem) (hnn : n ≤ 1000000) (hc : G.opn = false) (ho : (own0 G).up = true) :
    ∃ K, rec2 G = ((K, (own0 G).copy.pend), 0) ∧ finishG (runIds ((liveL G.mem).drop 1) G) = ((K, (own0 G).copy.pend), 0) ∧ readyG (runIds ((liveL G.mem).drop 1) G) = true ∧ K.opn = true ∧ K.mem.length = G.mem.length ∧
      (own0 K).copy = (settleF (own0 G).copy).1 ∧ (settleF (own0 G).copy).2 = 0 ∧ (own0 K).copy.pend.length = 0 ∧ (∀ i, i < K.mem.length → (K.mem.getD i default).up = (G.mem.getD i default).up) := by
  have hn1 := hE.n1
  have hr := run_all hE.uniq ho _ (k := 1) rfl (Nat.le_refl _) hn1
  have hc1 := rec_all hE.uniq ho _ (k := 1) rfl (Nat.le_refl _) hn1
  rw [all_one hn1 ho] at hr hc1
  rw [live_own hn1 ho, List.drop_one, List.tail_cons, hr]
  have hl := all_len (G := G) (Nat.le_refl _)
  have ha := all_own (G := G) (Nat.le_refl _) hn1 ho
  have how := owner_up (g := allAt G G.mem.length) (by omega) (by rw [ha]; exact ho)
  rw [ha] at how
  have hE0 := hE.at (i := 0) (by omega)
  obtain ⟨s1, s2⟩ := settle_ok (c := (own0 G).copy) hE0.v (by have := hE0.sv; show (G.mem.getD 0 default).copy.sv ≤ _; omega)
  have hrd : readyG (allAt G G.mem.length) = true := by
    unfold readyG
    rw [how]
    have h1 : (allAt G G.mem.length).opn = false := hc
    have h2 : ((allAt G G.mem.length).mem.drop 1).any (stale (own0 G).copy) = false := by
      rw [List.any_eq_false]
      intro m hm
      obtain ⟨j, hj, rfl⟩ := mem_getD (List.mem_of_mem_drop hm)
      rw [hl] at hj
      rw [all_get (Nat.le_refl _) hj, if_pos hj]
      unfold stale
      cases hu : (G.mem.getD j default).up with
      | true =>
        have : fillM (own0 G).copy (G.mem.getD j default) = { G.mem.getD j default with copy := (own0 G).copy } := by unfold fillM; rw [if_pos hu]
        rw [this]
        simp [sameC_refl]
      | false => rw [fill_up, hu]; simp
    rw [h1]
    show (true && (!false && !(List.any _ (stale (own0 G).copy)))) = true
    rw [h2]; rfl
  have hf : finishG (allAt G G.mem.length) = ((openG (allAt G G.mem.length) (settleF (own0 G).copy).1, (own0 G).copy.pend), 0) := by
    unfold finishG
    rw [how, if_neg (by simp), if_neg (by show ¬ G.opn = true; rw [hc]; simp), if_neg (by rw [hrd]; simp), if_neg (fun h => h s1)]
  have e : own0 (openG (allAt G G.mem.length) (settleF (own0 G).copy).1) = { own0 G with copy := (settleF (own0 G).copy).1 } := by
    show List.getD (List.set _ 0 _) 0 default = _
    rw [getD_set_self (by omega)]
    have ha' : (allAt G G.mem.length).mem.getD 0 default = own0 G := ha
    rw [ha']
  have hkl : (openG (allAt G G.mem.length) (settleF (own0 G).copy).1).mem.length = G.mem.length := by
    show (List.set _ 0 _).length = _
    rw [List.length_set, hl]
  refine ⟨_, ?_, hf, hrd, rfl, hkl, by rw [e], s1, by rw [e]; exact s2, fun i hi => ?_⟩
  · rw [rec2, hc1, if_neg (by simp)]; exact hf
  · rw [hkl] at hi
    show ((List.set (allAt G G.mem.length).mem 0 _).getD i default).up = _
    by_cases h0 : i = 0
    · subst h0
      rw [getD_set_self (by omega)]
      show (own0 (allAt G G.mem.length)).up = _
      rw [ha]
    · rw [getD_set_ne h0, all_up (Nat.le_refl _) hi]
end Go.Sx
