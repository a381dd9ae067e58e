/- Contracts of functions that the law reaches: YtiadnhbclipmhaaGreatDoorTP35. Written for this claim. -/
import Derived.Test.YtiadnhbclipmhaaGreatDoorTP34
import Derived.Test.YtiadnhbclipmhaaGreatDoorTPLay
import Derived.Test.YtiadnhbclipmhaaGreatDoorSxConv
namespace Go.Proofs.YtiadnhbclipmhaaGreatDoor
open Go Go.Sx Go.ChangeShapes Go.WideShapes Go.ChangeAt Go.WideMaps Go.WideElems Go.RowKit
set_option linter.unusedVariables false
set_option linter.unusedSimpArgs false
set_option maxRecDepth 100000
theorem names_nums {p : PeerT} {z : Int} (h : z ∈ numsF p) : namesF p z = true := by
  simp only [numsF, List.mem_append, List.mem_cons, List.not_mem_nil, or_false, List.mem_flatMap] at h
  simp only [namesF, Bool.or_eq_true, beq_iff_eq, List.any_eq_true]
  rcases h with (h | h | h) | ⟨r, hr, h⟩
  · exact .inr (.inr (.inl ⟨z, h, rfl⟩))
  · exact .inl h.symm
  · exact .inr (.inl h.symm)
  · refine .inr (.inr (.inr ⟨r, hr, ?_⟩))
    simp only [nums1, List.mem_cons, List.not_mem_nil, or_false] at h
    simp only [near1, Bool.or_eq_true, beq_iff_eq]
    rcases h with h | h | h | h
    · exact .inl h.symm
    · exact .inr (.inl h.symm)
    · exact .inr (.inr (.inl h.symm))
    · exact .inr (.inr (.inr h.symm))
theorem conn_of {nodes : List NodeT} {ps : List PeerT} (h : ConnS nodes ps) : ConnN nodes ps := by
  intro S hS x hx y hy
  refine h S (fun u hu z hz hw _ => ?_) x hx y hy
  obtain ⟨w, hw, rfl⟩ := hw
  exact hS u hu w hw (names_nums hz)
theorem built_ideal {p : List NodeT} (hr : Rst p) {h : Nat} : builtF (sortN p) (buildL (sortN p) h) = idealF (sortN p) h := by
  unfold builtF idealF
  refine List.map_congr_left fun i hi => ?_
  rw [build_get hr.sort (sortN_id hr.asc) (List.mem_range.1 hi)]
theorem part_run {p : List NodeT} (hr : Rst p) {ps : List PeerT} {h : Nat} (hC : ConnS p ps) : linksF p (partF p ps h) h = builtF (sortN p) (buildL (sortN p) h) :=
  (repair_ideal hr (conn_of hC)).trans (built_ideal hr).symm
theorem part_al {p : List NodeT} (hr : Rst p) {ps : List PeerT} {h : Nat} : AlQ p (partF p ps h) := run_al hr
theorem part_adj {p : List NodeT} (hr : Rst p) {ps : List PeerT} {h : Nat} (hC : ConnS p ps) : Adj p (partF p ps h) := repair_adj hr (conn_of hC)
theorem ids_nodup {a b : List NodeT} (hr : Rst (a ++ b)) : ((sortN a).map (·.id) ++ (sortN b).map (·.id)).Nodup := by
  rw [← List.map_append]
  exact ((((sortN_perm a).append (sortN_perm b)).map (·.id)).nodup_iff).2 hr.ids
theorem sml_left {a b : List NodeT} (h : Sml (a ++ b)) : Sml a := ⟨rst_left h.r, by have := h.l20; rw [List.length_append] at this; omega⟩
theorem sml_right {a b : List NodeT} (h : Sml (a ++ b)) : Sml b := ⟨rst_right h.r, by have := h.l20; rw [List.length_append] at this; omega⟩
theorem ideal_lev {p : List NodeT} {h : Nat} {x : LkdT} (hx : x ∈ idealF p h) : x.levels.length = h + 1 := by
  obtain ⟨k, _, rfl⟩ := ideal_mem hx
  simp [levelsF]
theorem mrg_ok {a b : List NodeT} {h : Nat} (hS : Sml (a ++ b)) (hh : h ≤ 2) : MrgB a (builtF (sortN a) (buildL (sortN a) h)) b (builtF (sortN b) (buildL (sortN b) h)) h := by
  have hS0 := sml_left hS
  have hS1 := sml_right hS
  have e0 := built_ideal hS0.r (h := h)
  have e1 := built_ideal hS1.r (h := h)
  have hm : ∀ p : List NodeT, (idealF p h).map (·.id) = p.map (·.id) := by
    intro p
    unfold idealF
    rw [List.map_map]
    refine List.ext_getElem (by simp) fun i h1 h2 => ?_
    have hi : i < p.length := by simpa using h2
    simp [List.getD, hi]
  have l0 := hS0.l20
  have l1 := hS1.l20
  refine ⟨hS0, hS1, hS, rfl, rfl, by omega, ?_, ?_, ?_, ?_, ?_, ?_⟩
  · rw [e0]; exact ⟨by rw [ideal_len, sortN_len]; omega, fun x hx => by rw [ideal_lev hx]; omega⟩
  · rw [e1]; exact ⟨by rw [ideal_len, sortN_len]; omega, fun x hx => by rw [ideal_lev hx]; omega⟩
  · rw [e0, e1, List.length_append, List.length_append, ideal_len, ideal_len, sortN_len, sortN_len]
  · intro x hx
    rw [e0, e1]
    rcases List.mem_append.1 hx with hx | hx
    · obtain ⟨y, hy, e⟩ := ideal_of (h := h) (sortN_mem.2 hx)
      exact ⟨y, List.mem_append.2 (.inl hy), e⟩
    · obtain ⟨y, hy, e⟩ := ideal_of (h := h) (sortN_mem.2 hx)
      exact ⟨y, List.mem_append.2 (.inr hy), e⟩
  · rw [e0, e1, List.map_append, hm, hm]; exact ids_nodup hS.r
  · intro y hy
    rw [e0, e1] at hy
    rcases List.mem_append.1 hy with hy | hy <;> exact ideal_lev hy
theorem sort_perm {a b : List NodeT} (hr : Rst b) (hp : a.Perm b) : sortN a = sortN b := asc_unique (hr.perm hp).asc hr.asc ((sortN_perm a).trans (hp.trans (sortN_perm b).symm))
theorem merge_right {all a b : List NodeT} {h : Nat} (hS : Sml all) (hp : (a ++ b).Perm all) : mergedF (builtF (sortN a) (buildL (sortN a) h) ++ builtF (sortN b) (buildL (sortN b) h)) h (sortN (a ++ b)) = idealF (sortN all) h := by
  have hr := hS.r.perm hp
  rw [built_ideal (rst_left hr), built_ideal (rst_right hr), merged_ideal hr, sort_perm hS.r hp]
theorem id_at {Q R : List PeerT} (h : Q.map (·.id) = R.map (·.id)) {m : Nat} (hm : m < Q.length) : (Q.getD m default).id = (R.getD m default).id := by
  have hl := congrArg List.length h
  rw [List.length_map, List.length_map] at hl
  have h1 := congrArg (fun l => List.getD l m default) h
  simp only at h1
  rw [map_getD hm, map_getD (by omega)] at h1
  exact h1
theorem el_getD {xs : List PeerT} {i : Nat} (h : i < xs.length) : xs[i] = xs.getD i default := by simp [List.getD, h]
theorem ids_eq {Q R : List PeerT} (hl : Q.length = R.length) (h : ∀ m, m < R.length → (Q.getD m default).id = (R.getD m default).id) : Q.map (·.id) = R.map (·.id) := by
  refine List.ext_getElem (by rw [List.length_map, List.length_map, hl]) fun m h1 h2 => ?_
  have hm : m < R.length := by rw [List.length_map] at h2; exact h2
  rw [List.getElem_map, List.getElem_map, el_getD (by omega), el_getD hm]
  exact h m hm
theorem both_find {a b : List NodeT} (hr : Rst (a ++ b)) {PA PB Q : List PeerT} (hA : AlQ a PA) (hB : AlQ b PB) (hQ : Q.map (·.id) = (PA ++ PB).map (·.id)) {m : Nat} (hm : m < Q.length) {x : NodeT} (hx : x.id = (Q.getD m default).id) : normal1F Q x = Q.getD m default := by
  have hn : (Q.map (·.id)).Nodup := by rw [hQ, List.map_append, hA.map, hB.map]; exact ids_nodup hr
  have := peer_at hn hm
  rw [← hx] at this
  exact this
theorem conn_both {all a b : List NodeT} (hS : Sml all) (hp : (a ++ b).Perm all) {PA PB Q : List PeerT} (hA : AlQ a PA) (hB : AlQ b PB) (ja : Adj a PA) (jb : Adj b PB) (hQ : Q.map (·.id) = (PA ++ PB).map (·.id)) (hQn : ∀ m z, m < Q.length → namesF ((PA ++ PB).getD m default) z = true → namesF (Q.getD m default) z = true)
    (hc : (a = [] ∨ b = []) ∨ ∃ i j, i < a.length ∧ j < b.length ∧ namesF (Q.getD i default) (b.getD j default).id = true) : ConnN all Q := by
  intro S hSc
  have hr := hS.r.perm hp
  have hQl : Q.length = a.length + b.length := by
    have := congrArg List.length hQ
    rw [List.length_map, List.length_map, List.length_append, hA.len, hB.len] at this
    exact this
  have hpid : ∀ m, m < Q.length → (Q.getD m default).id = ((PA ++ PB).getD m default).id := by
    intro m hm
    exact id_at hQ hm
  have hsa : ∀ x ∈ a, x ∈ all := fun x hx => hp.mem_iff.1 (List.mem_append.2 (.inl hx))
  have hsb : ∀ x ∈ b, x ∈ all := fun x hx => hp.mem_iff.1 (List.mem_append.2 (.inr hx))
  have ka := conn_part hsa ja (Q := Q) (fun k hk z hz => by
    rw [both_find hr hA hB hQ (m := k) (by omega) (by rw [hpid k (by omega), getD_append_left (by rw [hA.len]; exact hk), hA.id k hk])]
    exact hQn k z (by omega) (by rw [getD_append_left (by rw [hA.len]; exact hk)]; exact hz)) hSc
  have kb := conn_part hsb jb (Q := Q) (fun k hk z hz => by
    have e : (PA ++ PB).getD (a.length + k) default = PB.getD k default := by
      rw [getD_append_right (by rw [hA.len]; omega), hA.len]; congr 1; omega
    rw [both_find hr hA hB hQ (m := a.length + k) (by omega) (by rw [hpid _ (by omega), e, hB.id k hk])]
    exact hQn _ z (by omega) (by rw [e]; exact hz)) hSc
  have hcross : (a = [] ∨ b = []) ∨ (S (sid a 0) ↔ S (sid b 0)) := by
    rcases hc with hc | ⟨i, j, hi, hj, hn⟩
    · exact .inl hc
    · refine .inr ?_
      have h1 := hSc _ (hsa _ (sid_mem hi)) _ (hsb _ (getD_mem2 hj)) (by
        rw [both_find hr hA hB hQ (m := i) (by omega) (by rw [hpid i (by omega), getD_append_left (by rw [hA.len]; exact hi), hA.id i hi])]
        exact hn)
      exact ((ka _ (sid_mem hi)).symm.trans h1).trans (kb _ (getD_mem2 hj))
  intro x hx y hy
  rcases List.mem_append.1 (hp.mem_iff.2 hx) with h1 | h1 <;> rcases List.mem_append.1 (hp.mem_iff.2 hy) with h2 | h2
  · exact (ka x h1).trans (ka y h2).symm
  · rcases hcross with (h | h) | h
    · rw [h] at h1; cases h1
    · rw [h] at h2; cases h2
    · exact ((ka x h1).trans h).trans (kb y h2).symm
  · rcases hcross with (h | h) | h
    · rw [h] at h2; cases h2
    · rw [h] at h1; cases h1
    · exact ((kb x h1).trans h.symm).trans (ka y h2).symm
  · exact (kb x h1).trans (kb y h2).symm
theorem laws : Laws where
  part p ps h hS _ hC _ := part_run hS.r hC
  mrg a b h hS hh := mrg_ok hS hh
  both all a b pa pb h i j hS hp hJa hCa hJb hCb hh hi hj := by
    have hr := hS.r.perm hp
    have hra := rst_left hr
    have hrb := rst_right hr
    have hA := part_al hra (ps := pa) (h := h)
    have hB := part_al hrb (ps := pb) (h := h)
    have hil : i < (partF a pa h ++ partF b pb h).length := by rw [List.length_append, hA.len]; omega
    have hget : ∀ m, (knowF (partF a pa h ++ partF b pb h) i (b.getD j default).id).getD m default = if m = i then { (partF a pa h ++ partF b pb h).getD i default with known := ((partF a pa h ++ partF b pb h).getD i default).known ++ [(b.getD j default).id] } else (partF a pa h ++ partF b pb h).getD m default := fun m => by unfold knowF; rw [set_get hil]
    rw [merge_right hS hp]
    refine repair_ideal hS.r (conn_both hS hp hA hB (part_adj hra hCa) (part_adj hrb hCb) ?_ ?_ (.inr ⟨i, j, hi, hj, ?_⟩))
    · refine ids_eq (by unfold knowF; rw [List.length_set]) fun m hm => ?_
      rw [hget m]
      by_cases e : m = i
      · rw [if_pos e, e]
      · rw [if_neg e]
    · intro m z _ hz
      rw [hget m]
      by_cases e : m = i
      · rw [if_pos e]; rw [e] at hz; exact names_more hz
      · rw [if_neg e]; exact hz
    · rw [hget i, if_pos rfl]; exact names_last
  one all a b pa pb h hS hp hJa hCa hJb hCb hh hab := by
    have hr := hS.r.perm hp
    have hra := rst_left hr
    have hrb := rst_right hr
    rw [merge_right hS hp]
    exact repair_ideal hS.r (conn_both hS hp (part_al hra) (part_al hrb) (part_adj hra hCa) (part_adj hrb hCb) rfl (fun _ _ _ h => h) (.inl hab))
theorem topPartition_all (dss : List (List D)) (h : All2 (wfT Tryz.prog reachBytes 12) [22] dss) : Sx.Spec Tryz.prog GG 3 (svs Tryz.prog [22] dss) [] (.d (.bool true)) [] := by
  obtain ⟨x, rfl, hx⟩ := inv1 h
  obtain ⟨l, h1, h2, h3⟩ := ints_arg hx
  obtain ⟨_, _, rfl, _⟩ := hx
  exact (top_walk laws h1).arg h2
end Go.Proofs.YtiadnhbclipmhaaGreatDoor
