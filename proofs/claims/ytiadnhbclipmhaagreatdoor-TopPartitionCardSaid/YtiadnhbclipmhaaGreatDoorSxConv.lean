/- Part of a symbolic executor over the model, proved sound, with plain laws: SxConv. Written for these claims. -/
import Derived.Test.YtiadnhbclipmhaaGreatDoorSxPub2
set_option linter.unusedVariables false
set_option linter.unusedSimpArgs false
namespace Go.Sx
open Go
theorem idx_split {a : Int} : ∀ {A B : List Int} {f : Nat}, a ∉ A → idxP (fun y => a == y) (A ++ a :: B) f = ((f + A.length : Nat) : Int)
  | [], B, f, _ => by simp [idxP]
  | x :: A, B, f, h => by
    have h1 : ¬ a = x := fun e => h (by simp [e])
    have h2 : a ∉ A := fun e => h (by simp [e])
    have hb : (a == x) = false := by simpa using h1
    simp only [List.cons_append, idxP, hb, Bool.false_eq_true, if_false, idx_split h2, List.length_cons]
    congr 1; omega
theorem keep_split {nodes : List NodeT} {p : PeerT} {A B : List Int} (h : rowF nodes p = A ++ p.id :: B) (hA : p.id ∉ A) : keepF nodes p = ⟨A.getLast?.getD 0, B.head?.getD 0⟩ := by
  have hi : idxP (fun y => p.id == y) (rowF nodes p) 0 = ((A.length : Nat) : Int) := by rw [h, idx_split hA]; congr 1; omega
  rw [keep_at hi, h]
  congr 1
  · rcases List.eq_nil_or_concat A with rfl | ⟨A', z, rfl⟩
    · rfl
    · simp [List.getD]
  · cases B with
    | nil => simp
    | cons b B => simp [List.getD]
theorem split_at {α : Type} [Inhabited α] {s : List α} {i : Nat} (h : i < s.length) : s = s.take i ++ s.getD i default :: s.drop (i + 1) := by
  have e : s.getD i default = s[i] := by simp [List.getD, h]
  rw [e, List.getElem_cons_drop, List.take_append_drop]
theorem filter_none {α : Type} [Inhabited α] {s : List α} {P : α → Bool} {a n : Nat} (h : ∀ z, a ≤ z → z < n → P (s.getD z default) = false) : ((s.take n).drop a).filter P = [] := by
  rw [List.filter_eq_nil_iff]
  intro z hz
  obtain ⟨k, hk, rfl⟩ := List.getElem_of_mem hz
  have hk' : a + k < n ∧ a + k < s.length := by simp at hk; omega
  have := h (a + k) (by omega) hk'.1
  have e : s.getD (a + k) default = s[a + k] := by simp [List.getD, hk'.2]
  rw [e] at this
  simpa using this
theorem filter_pair {α : Type} [Inhabited α] {s : List α} {P : α → Bool} {x y : Nat} (hxy : x < y) (hy : y < s.length) (hPx : P (s.getD x default) = true) (hPy : P (s.getD y default) = true) (hb : ∀ z, x < z → z < y → P (s.getD z default) = false) :
    s.filter P = (s.take x).filter P ++ s.getD x default :: s.getD y default :: (s.drop (y + 1)).filter P := by
  have h1 := split_at (show x < s.length by omega)
  have h2 : s.drop (x + 1) = (s.take y).drop (x + 1) ++ s.getD y default :: s.drop (y + 1) := by
    have h3 := split_at hy
    have h4 : (s.take y).length = y := by rw [List.length_take]; omega
    conv => lhs; rw [h3]
    rw [List.drop_append_of_le_length (by omega)]
  conv => lhs; rw [h1, h2]
  rw [List.filter_append, List.filter_cons, if_pos hPx, List.filter_append, filter_none (fun z hz hz' => hb z (by omega) hz'), List.filter_cons, if_pos hPy]
  rfl
theorem intros_pair {own : Int} {A C : List Int} {a b : Int} : (a ≠ own → (a, b) ∈ introsL own (A ++ a :: b :: C)) ∧ (b ≠ own → (b, a) ∈ introsL own (A ++ a :: b :: C)) := by
  have hi : A.length + 1 ∈ List.range' 1 ((A ++ a :: b :: C).length - 1) := by
    rw [List.mem_range'_1]; simp; omega
  have e1 : (A ++ a :: b :: C).getD (A.length + 1 - 1) default = a := by simp [List.getD]
  have e2 : (A ++ a :: b :: C).getD (A.length + 1) default = b := by simp [List.getD]
  constructor
  · intro h
    refine List.mem_flatMap.2 ⟨_, hi, List.mem_filter.2 ⟨?_, by simpa using h⟩⟩
    rw [introP, e1, e2]; simp
  · intro h
    refine List.mem_flatMap.2 ⟨_, hi, List.mem_filter.2 ⟨?_, by simpa using h⟩⟩
    rw [introP, e1, e2]; simp
abbrev sid (nodes : List NodeT) (i : Nat) : Int := ((sortN nodes).getD i default).id
theorem sid_inj {nodes : List NodeT} (hr : Rst nodes) {i j : Nat} (hi : i < nodes.length) (hj : j < nodes.length) (h : sid nodes i = sid nodes j) : i = j := by
  have h1 := rank_at hr.sort.ids (i := i) (by rw [sortN_len]; exact hi)
  have h2 := rank_at hr.sort.ids (i := j) (by rw [sortN_len]; exact hj)
  unfold sid at h
  rw [← h1, ← h2, h]
theorem sid_mem {nodes : List NodeT} {i : Nat} (hi : i < nodes.length) : (sortN nodes).getD i default ∈ nodes := sortN_mem.1 (getD_mem2 (by rw [sortN_len]; exact hi))
theorem sid_find {nodes : List NodeT} (hr : Rst nodes) {i : Nat} (hi : i < nodes.length) : findN nodes (sid nodes i) = some ((sortN nodes).getD i default) := find_of hr.ids (sid_mem hi)
theorem find_zero {nodes : List NodeT} (hr : Rst nodes) : findN nodes 0 = none := by
  cases h : findN nodes 0 with
  | none => rfl
  | some x =>
    obtain ⟨h1, h2⟩ := find_mem h
    have := (hr.ok x h1).1
    omega
structure AlQ (nodes : List NodeT) (q : List PeerT) : Prop where
  len : q.length = nodes.length
  id : ∀ i, i < nodes.length → (q.getD i default).id = sid nodes i
theorem AlQ.find {nodes : List NodeT} (hr : Rst nodes) {q : List PeerT} (h : AlQ nodes q) {i : Nat} (hi : i < nodes.length) : q.find? (fun p => p.id == sid nodes i) = some (q.getD i default) := by
  have e : q.getD i default = q[i]'(by rw [h.len]; exact hi) := by simp [List.getD, h.len, hi]
  rw [List.find?_eq_some_iff_getElem]
  refine ⟨by simpa [-List.getD_eq_getElem?_getD] using h.id i hi, i, by rw [h.len]; exact hi, e.symm, fun j hj => ?_⟩
  have hj' : j < nodes.length := by omega
  have e2 : q.getD j default = q[j]'(by rw [h.len]; exact hj') := by simp [List.getD, h.len, hj']
  rw [← e2, h.id j hj']
  have : sid nodes j ≠ sid nodes i := fun e => by have := sid_inj hr hj' hi e; omega
  simpa [-List.getD_eq_getElem?_getD] using this
theorem normal_al {nodes : List NodeT} {ps : List PeerT} : AlQ nodes (normalF nodes ps) := by
  refine ⟨normal_len, fun i hi => ?_⟩
  rw [normalF, map_getD (by rw [sortN_len]; exact hi)]
  unfold normal1F
  cases e : ps.find? (fun p => p.id == ((sortN nodes).getD i default).id) with
  | none => rfl
  | some p => simpa [-List.getD_eq_getElem?_getD] using List.find?_some e
theorem normal_self {nodes : List NodeT} (hr : Rst nodes) {q : List PeerT} (h : AlQ nodes q) : normalF nodes q = q := by
  refine List.ext_getElem (by rw [normal_len, h.len]) fun i h1 h2 => ?_
  have hi : i < nodes.length := by rw [h.len] at h2; exact h2
  have e1 : (normalF nodes q)[i] = (normalF nodes q).getD i default := by simp [List.getD, h1]
  have e2 : q[i] = q.getD i default := by simp [List.getD, h2]
  rw [e1, e2, normalF, map_getD (by rw [sortN_len]; exact hi)]
  unfold normal1F
  rw [h.find hr hi]; rfl
def qStep (nodes : List NodeT) (h : Nat) (q : List PeerT) : List PeerT := q.map (rRound1F nodes q h)
def qRun (nodes : List NodeT) (h : Nat) : Nat → List PeerT → List PeerT
  | 0, q => q
  | n + 1, q => qStep nodes h (qRun nodes h n q)
theorem step_get {nodes : List NodeT} {h : Nat} {q : List PeerT} {i : Nat} (hi : i < q.length) : (qStep nodes h q).getD i default = rRound1F nodes q h (q.getD i default) := by
  unfold qStep; rw [map_getD hi]
theorem AlQ.step {nodes : List NodeT} {q : List PeerT} (h : AlQ nodes q) {ht : Nat} : AlQ nodes (qStep nodes ht q) := by
  refine ⟨by unfold qStep; rw [List.length_map, h.len], fun i hi => ?_⟩
  rw [step_get (by rw [h.len]; exact hi)]
  exact h.id i hi
theorem AlQ.run {nodes : List NodeT} {q : List PeerT} (h : AlQ nodes q) {ht : Nat} : ∀ n, AlQ nodes (qRun nodes ht n q)
  | 0 => h
  | n + 1 => (AlQ.run h n).step
theorem run_q {nodes : List NodeT} (hr : Rst nodes) {ps : List PeerT} {h : Nat} : ∀ n, normalF nodes (runF nodes h n ps) = qRun nodes h n (normalF nodes ps)
  | 0 => rfl
  | n + 1 => by
    have ih := run_q hr (ps := ps) (h := h) n
    show normalF nodes (rRoundF nodes (runF nodes h n ps) h) = _
    unfold rRoundF
    rw [ih]
    exact normal_self hr (normal_al.run n).step
theorem run_add {nodes : List NodeT} {h a : Nat} {q : List PeerT} : ∀ b, qRun nodes h (a + b) q = qRun nodes h b (qRun nodes h a q)
  | 0 => rfl
  | b + 1 => congrArg (qStep nodes h) (run_add b)
def Kn (nodes : List NodeT) (q : List PeerT) (i j : Nat) : Prop := j < nodes.length ∧ (i = j ∨ namesF (q.getD i default) (sid nodes j) = true)
def Cq (nodes : List NodeT) (q : List PeerT) (x y : Nat) : Prop := ∃ p, p < nodes.length ∧ Kn nodes q p x ∧ Kn nodes q p y ∧ x < y ∧ ∀ z, x < z → z < y → ¬ Kn nodes q p z
def Cn (nodes : List NodeT) (q : List PeerT) (lo hi i j : Nat) : Prop := ∀ S : Nat → Prop, (∀ x y, lo ≤ x → y ≤ hi → Cq nodes q x y → (S x ↔ S y)) → (S i ↔ S j)
theorem kn_chain {nodes : List NodeT} {q : List PeerT} {lo hi p : Nat} {S : Nat → Prop} (hS : ∀ x y, lo ≤ x → y ≤ hi → Cq nodes q x y → (S x ↔ S y)) (hp : p < nodes.length) :
    ∀ (d u w : Nat), w = u + d → lo ≤ u → w ≤ hi → Kn nodes q p u → Kn nodes q p w → (S u ↔ S w) := by
  intro d
  induction d using Nat.strongRecOn with
  | ind d ih =>
    intro u w hw hu hh hku hkw
    rcases Nat.eq_zero_or_pos d with h0 | h0
    · have : u = w := by omega
      rw [this]
    · by_cases hb : ∃ z, u < z ∧ z < w ∧ Kn nodes q p z
      · obtain ⟨z, h1, h2, h3⟩ := hb
        have a1 := ih (z - u) (by omega) u z (by omega) hu (by omega) hku h3
        have a2 := ih (w - z) (by omega) z w (by omega) (by omega) hh h3 hkw
        exact a1.trans a2
      · exact hS u w hu hh ⟨p, hp, hku, hkw, by omega, fun z h1 h2 h3 => hb ⟨z, h1, h2, h3⟩⟩
theorem kn_chain2 {nodes : List NodeT} {q : List PeerT} {lo hi p : Nat} {S : Nat → Prop} (hS : ∀ x y, lo ≤ x → y ≤ hi → Cq nodes q x y → (S x ↔ S y)) (hp : p < nodes.length) {u w : Nat} (h1 : lo ≤ u) (h2 : lo ≤ w) (h3 : u ≤ hi) (h4 : w ≤ hi) (hu : Kn nodes q p u) (hw : Kn nodes q p w) : S u ↔ S w := by
  rcases Nat.le_total u w with h | h
  · exact kn_chain hS hp (w - u) u w (by omega) h1 h4 hu hw
  · exact (kn_chain hS hp (u - w) w u (by omega) h2 h3 hw hu).symm
theorem row_pred {nodes : List NodeT} {p : PeerT} : rowF nodes p = ((sortN nodes).filter fun x => x.id == p.id || namesF p x.id).map (·.id) := rfl
theorem kn_pred {nodes : List NodeT} (hr : Rst nodes) {q : List PeerT} (h : AlQ nodes q) {p z : Nat} (hp : p < nodes.length) (hz : z < nodes.length) :
    ((sid nodes z == (q.getD p default).id || namesF (q.getD p default) (sid nodes z)) = true) ↔ Kn nodes q p z := by
  rw [h.id p hp, Bool.or_eq_true, beq_iff_eq]
  constructor
  · rintro (e | e)
    · exact ⟨hz, .inl (sid_inj hr hp hz e.symm)⟩
    · exact ⟨hz, .inr e⟩
  · rintro ⟨_, e | e⟩
    · exact .inl (by rw [e])
    · exact .inr e
theorem row_pair {nodes : List NodeT} (hr : Rst nodes) {q : List PeerT} (h : AlQ nodes q) {p x y : Nat} (hp : p < nodes.length) (hx : Kn nodes q p x) (hy : Kn nodes q p y) (hxy : x < y) (hb : ∀ z, x < z → z < y → ¬ Kn nodes q p z) :
    ∃ A C, rowF nodes (q.getD p default) = A ++ sid nodes x :: sid nodes y :: C ∧ (∀ z ∈ A, ∃ k, k < x ∧ z = sid nodes k) := by
  have hyl := hy.1
  have hsl := sortN_len nodes
  have key := filter_pair (s := sortN nodes) (P := fun x => x.id == (q.getD p default).id || namesF (q.getD p default) x.id) hxy (by omega) ((kn_pred hr h hp hx.1).2 hx) ((kn_pred hr h hp hy.1).2 hy) (fun z h1 h2 => by
    rw [Bool.eq_false_iff]
    exact fun e => hb z h1 h2 ((kn_pred hr h hp (by omega)).1 e))
  refine ⟨(((sortN nodes).take x).filter fun x => x.id == (q.getD p default).id || namesF (q.getD p default) x.id).map (·.id), (((sortN nodes).drop (y + 1)).filter fun x => x.id == (q.getD p default).id || namesF (q.getD p default) x.id).map (·.id), ?_, ?_⟩
  · rw [row_pred, key, List.map_append, List.map_cons, List.map_cons]
  · intro z hz
    obtain ⟨w, hw, rfl⟩ := List.mem_map.1 hz
    have hw := (List.mem_filter.1 hw).1
    obtain ⟨k, hk, rfl⟩ := List.getElem_of_mem hw
    have hk' : k < x ∧ k < (sortN nodes).length := by simp at hk; omega
    exact ⟨k, hk'.1, by simp [sid, List.getD, hk'.2]⟩
theorem told_in {nodes : List NodeT} {q : List PeerT} {p : PeerT} {a b : Int} (hp : p ∈ q) (h : (a, b) ∈ introsF nodes p) : b ∈ toldF nodes q a :=
  List.mem_map.2 ⟨(a, b), List.mem_filter.2 ⟨List.mem_flatMap.2 ⟨p, hp, h⟩, by simp⟩, rfl⟩
theorem kn_told {nodes : List NodeT} (hr : Rst nodes) {q : List PeerT} (hq : AlQ nodes q) {ht x y : Nat} (hx : x < nodes.length) (hy : y < nodes.length) (hne : x ≠ y) (h : sid nodes y ∈ toldF nodes q (sid nodes x)) : Kn nodes (qStep nodes ht q) x y := by
  refine ⟨hy, .inr ?_⟩
  rw [step_get (by rw [hq.len]; exact hx)]
  have hm : sid nodes y ∈ (rRound1F nodes q ht (q.getD x default)).known := by
    show sid nodes y ∈ refsF nodes ⟨(q.getD x default).id, toldF nodes q (q.getD x default).id, _, _, []⟩
    rw [hq.id x hx]
    refine List.mem_map.2 ⟨_, List.mem_filter.2 ⟨getD_mem2 (by rw [sortN_len]; exact hy), ?_⟩, rfl⟩
    have h1 : sid nodes y ≠ sid nodes x := fun e => hne (sid_inj hr hy hx e).symm
    have h2 : (toldF nodes q (sid nodes x)).any (fun z => sid nodes y == z) = true := List.any_eq_true.2 ⟨_, h, by simp⟩
    simp only [refP, namesF, h2, Bool.true_or, Bool.or_true, Bool.and_true]
    simpa [bne, -List.getD_eq_getElem?_getD] using h1
  have h3 : (rRound1F nodes q ht (q.getD x default)).known.any (fun z => sid nodes y == z) = true := List.any_eq_true.2 ⟨_, hm, by simp⟩
  simp only [namesF, h3, Bool.true_or, Bool.or_true]
theorem cq_step {nodes : List NodeT} (hr : Rst nodes) {q : List PeerT} (hq : AlQ nodes q) {ht x y : Nat} (h : Cq nodes q x y) : Kn nodes (qStep nodes ht q) x y ∧ Kn nodes (qStep nodes ht q) y x := by
  obtain ⟨p, hp, hx, hy, hxy, hb⟩ := h
  obtain ⟨A, C, hrow, hA⟩ := row_pair hr hq hp hx hy hxy hb
  have hpm : q.getD p default ∈ q := getD_mem2 (by rw [hq.len]; exact hp)
  have hpi := hq.id p hp
  obtain ⟨i1, i2⟩ := intros_pair (own := (q.getD p default).id) (A := A) (C := C) (a := sid nodes x) (b := sid nodes y)
  rw [← hrow] at i1 i2
  have n1 : x ≠ p → sid nodes x ≠ (q.getD p default).id := fun hne e => hne (sid_inj hr hx.1 hp (e.trans hpi))
  have n2 : y ≠ p → sid nodes y ≠ (q.getD p default).id := fun hne e => hne (sid_inj hr hy.1 hp (e.trans hpi))
  constructor
  · by_cases e : x = p
    · subst e
      refine ⟨hy.1, .inr ?_⟩
      rw [step_get (by rw [hq.len]; exact hp)]
      have hk := keep_split (nodes := nodes) (p := q.getD x default) (A := A) (B := sid nodes y :: C) (by rw [hrow, hpi]) (fun hm => by
        obtain ⟨k, hk, e⟩ := hA _ hm
        rw [hpi] at e
        have := sid_inj hr hp (by omega) e
        omega)
      have : (rRound1F nodes q ht (q.getD x default)).right = sid nodes y := by
        show (keepF nodes (q.getD x default)).right = _
        rw [hk]; rfl
      simp only [namesF, this, beq_self_eq_true, Bool.true_or, Bool.or_true]
    · exact kn_told hr hq hx.1 hy.1 (by omega) (told_in hpm (i1 (n1 e)))
  · by_cases e : y = p
    · subst e
      refine ⟨hx.1, .inr ?_⟩
      rw [step_get (by rw [hq.len]; exact hp)]
      have hk := keep_split (nodes := nodes) (p := q.getD y default) (A := A ++ [sid nodes x]) (B := C) (by rw [hrow, hpi]; simp) (fun hm => by
        rw [hpi] at hm
        rcases List.mem_append.1 hm with hm | hm
        · obtain ⟨k, hk, e⟩ := hA _ hm
          have := sid_inj hr hp (by omega) e
          omega
        · have := sid_inj hr hp hx.1 (List.mem_singleton.1 hm)
          omega)
      have : (rRound1F nodes q ht (q.getD y default)).left = sid nodes x := by
        show (keepF nodes (q.getD y default)).left = _
        rw [hk]; simp
      simp only [namesF, this, beq_self_eq_true, Bool.true_or]
    · exact kn_told hr hq hy.1 hx.1 (by omega) (told_in hpm (i2 (n2 e)))
theorem cn_hi {nodes : List NodeT} (hr : Rst nodes) {q : List PeerT} (hq : AlQ nodes q) {ht lo hi i j : Nat} (hhi : hi + 1 < nodes.length) (h : Cn nodes q lo (hi + 1) i j) (hi' : i ≤ hi) (hj : j ≤ hi) : Cn nodes (qStep nodes ht q) lo hi i j := by
  intro S hS
  have key := h (fun x => if x ≤ hi then S x else ∃ u, lo ≤ u ∧ u ≤ hi ∧ Cq nodes q u (hi + 1) ∧ S u) (fun x y hx hy hc => ?_)
  · simpa only [if_pos hi', if_pos hj] using key
  · obtain ⟨k1, k2⟩ := cq_step hr hq (ht := ht) hc
    have hxy : x < y := hc.choose_spec.2.2.2.1
    by_cases e : y ≤ hi
    · rw [if_pos e, if_pos (show x ≤ hi by omega)]
      exact kn_chain2 hS k2.1 hx (by omega) (by omega) e ⟨k2.1, .inl rfl⟩ k1
    · have ey : y = hi + 1 := by omega
      subst ey
      rw [if_pos (show x ≤ hi by omega), if_neg e]
      constructor
      · intro hSx
        exact ⟨x, hx, by omega, hc, hSx⟩
      · rintro ⟨u, h1, h2, h3, h4⟩
        have k3 := (cq_step hr hq (ht := ht) h3).2
        exact (kn_chain2 hS hhi h1 hx h2 (by omega) k3 k2).1 h4
theorem cn_lo {nodes : List NodeT} (hr : Rst nodes) {q : List PeerT} (hq : AlQ nodes q) {ht lo hi i j : Nat} (hlo : lo < nodes.length) (h : Cn nodes q lo hi i j) (hi' : lo < i) (hj : lo < j) : Cn nodes (qStep nodes ht q) (lo + 1) hi i j := by
  intro S hS
  have key := h (fun x => if lo < x then S x else ∃ u, lo < u ∧ u ≤ hi ∧ Cq nodes q lo u ∧ S u) (fun x y hx hy hc => ?_)
  · simpa only [if_pos hi', if_pos hj] using key
  · obtain ⟨k1, k2⟩ := cq_step hr hq (ht := ht) hc
    have hxy : x < y := hc.choose_spec.2.2.2.1
    by_cases e : lo < x
    · rw [if_pos e, if_pos (show lo < y by omega)]
      exact kn_chain2 hS k2.1 (by omega) (by omega) (by omega) hy ⟨k2.1, .inl rfl⟩ k1
    · have ex : x = lo := by omega
      subst ex
      rw [if_neg e, if_pos hxy]
      constructor
      · rintro ⟨u, h1, h2, h3, h4⟩
        have k3 := (cq_step hr hq (ht := ht) h3).1
        exact (kn_chain2 hS hlo (by omega) (by omega) h2 hy k3 k1).1 h4
      · intro hSy
        exact ⟨y, hxy, hy, hc, hSy⟩
theorem cn_run {nodes : List NodeT} (hr : Rst nodes) {q : List PeerT} (hq : AlQ nodes q) {ht i j : Nat} (hij : i ≤ j) : ∀ (a b lo hi : Nat), hi < nodes.length → Cn nodes q lo hi i j → lo + a ≤ i → j + b ≤ hi → Cn nodes (qRun nodes ht (a + b) q) (lo + a) (hi - b) i j := by
  intro a
  induction a with
  | zero =>
    intro b
    induction b with
    | zero => intro lo hi _ h _ _; exact h
    | succ b ih =>
      intro lo hi hn h h1 h2
      have := ih lo hi hn h h1 (by omega)
      have e : hi - b = (hi - (b + 1)) + 1 := by omega
      rw [e] at this
      exact cn_hi hr (hq.run _) (by omega) this (by omega) (by omega)
  | succ a ih =>
    intro b lo hi hn h h1 h2
    have := ih b lo hi hn h (by omega) h2
    have e : a + 1 + b = (a + b) + 1 := by omega
    rw [e, ← Nat.add_assoc]
    exact cn_lo hr (hq.run _) (by omega) this (by omega) (by omega)
theorem cn_adj {nodes : List NodeT} {q : List PeerT} {i : Nat} (h : Cn nodes q i (i + 1) i (i + 1)) : Cq nodes q i (i + 1) := by
  refine Classical.byContradiction fun hn => ?_
  have := h (fun x => x = i) (fun x y hx hy hc => by
    have hxy : x < y := hc.choose_spec.2.2.2.1
    have e1 : x = i := by omega
    have e2 : y = i + 1 := by omega
    subst e1 e2
    exact absurd hc hn)
  have := this.1 rfl
  omega
def Adj (nodes : List NodeT) (q : List PeerT) : Prop := ∀ i, i + 1 < nodes.length → Kn nodes q i (i + 1) ∧ Kn nodes q (i + 1) i
theorem Adj.step {nodes : List NodeT} (hr : Rst nodes) {q : List PeerT} (hq : AlQ nodes q) {ht : Nat} (h : Adj nodes q) : Adj nodes (qStep nodes ht q) := fun i hi =>
  cq_step hr hq ⟨i, by omega, ⟨by omega, .inl rfl⟩, (h i hi).1, by omega, fun z h1 h2 => by omega⟩
theorem Adj.run {nodes : List NodeT} (hr : Rst nodes) {q : List PeerT} (hq : AlQ nodes q) {ht : Nat} (h : Adj nodes q) : ∀ n, Adj nodes (qRun nodes ht n q)
  | 0 => h
  | n + 1 => (Adj.run hr hq h n).step hr (hq.run n)
theorem adj_at {nodes : List NodeT} (hr : Rst nodes) {q : List PeerT} (hq : AlQ nodes q) {ht : Nat} (h : ∀ i j, i < nodes.length → j < nodes.length → Cn nodes q 0 (nodes.length - 1) i j) : Adj nodes (qRun nodes ht (nodes.length - 1) q) := by
  intro i hi
  have h1 := cn_run hr hq (ht := ht) (show i ≤ i + 1 by omega) i (nodes.length - 1 - (i + 1)) 0 (nodes.length - 1) (by omega) (h i (i + 1) (by omega) hi) (by omega) (by omega)
  rw [Nat.zero_add, show nodes.length - 1 - (nodes.length - 1 - (i + 1)) = i + 1 by omega, show i + (nodes.length - 1 - (i + 1)) = nodes.length - 2 by omega] at h1
  have h2 := cq_step hr (hq.run _) (ht := ht) (cn_adj h1)
  rw [show nodes.length - 1 = nodes.length - 2 + 1 by omega]
  exact h2
theorem adj_from {nodes : List NodeT} (hr : Rst nodes) {q : List PeerT} (hq : AlQ nodes q) {ht t : Nat} (h : ∀ i j, i < nodes.length → j < nodes.length → Cn nodes q 0 (nodes.length - 1) i j) (htt : nodes.length - 1 ≤ t) : Adj nodes (qRun nodes ht t q) := by
  have e : t = (nodes.length - 1) + (t - (nodes.length - 1)) := by omega
  rw [e, run_add]
  exact (adj_at hr hq h).run hr (hq.run _) _
def sidL (nodes : List NodeT) (i : Nat) : Int := if i = 0 then 0 else sid nodes (i - 1)
def sidR (nodes : List NodeT) (i : Nat) : Int := if i + 1 < nodes.length then sid nodes (i + 1) else 0
theorem row_at {nodes : List NodeT} (hr : Rst nodes) {q : List PeerT} (hq : AlQ nodes q) {i : Nat} (hi : i < nodes.length) :
    rowF nodes (q.getD i default) = (((sortN nodes).take i).filter fun x => x.id == (q.getD i default).id || namesF (q.getD i default) x.id).map (·.id) ++ (q.getD i default).id :: (((sortN nodes).drop (i + 1)).filter fun x => x.id == (q.getD i default).id || namesF (q.getD i default) x.id).map (·.id) := by
  have h1 := split_at (s := sortN nodes) (i := i) (by rw [sortN_len]; exact hi)
  rw [row_pred]
  conv => lhs; rw [h1]
  rw [List.filter_append, List.filter_cons, if_pos (by rw [hq.id i hi]; simp [sid]), List.map_append, List.map_cons, hq.id i hi]
theorem keep_adj {nodes : List NodeT} (hr : Rst nodes) {q : List PeerT} (hq : AlQ nodes q) (h : Adj nodes q) {i : Nat} (hi : i < nodes.length) : keepF nodes (q.getD i default) = ⟨sidL nodes i, sidR nodes i⟩ := by
  have hsl := sortN_len nodes
  rw [keep_split (row_at hr hq hi) (fun hm => ?_)]
  · congr 1
    · unfold sidL
      by_cases e : i = 0
      · subst e; simp
      · rw [if_neg e]
        have hk := (h (i - 1) (by omega)).2
        rw [show i - 1 + 1 = i by omega] at hk
        have e2 : (sortN nodes).take i = (sortN nodes).take (i - 1) ++ [(sortN nodes).getD (i - 1) default] := by
          conv => lhs; rw [show i = i - 1 + 1 by omega]
          rw [List.take_add_one]
          simp [List.getD, List.getElem?_eq_getElem (show i - 1 < (sortN nodes).length by omega)]
        have e3 := (kn_pred hr hq hi hk.1).2 hk
        rw [e2, List.filter_append, List.filter_cons, if_pos e3]
        simp [sid]
    · unfold sidR
      by_cases e : i + 1 < nodes.length
      · rw [if_pos e]
        have hk := (h i e).1
        have e3 := (kn_pred hr hq hi hk.1).2 hk
        rw [List.drop_eq_getElem_cons (by omega), List.filter_cons]
        have e4 : (sortN nodes)[i + 1] = (sortN nodes).getD (i + 1) default := by simp [List.getD, show i + 1 < (sortN nodes).length by omega]
        rw [e4, if_pos e3]; simp [sid]
      · rw [if_neg e, List.drop_eq_nil_of_le (by omega)]; rfl
  · rw [hq.id i hi] at hm
    obtain ⟨w, hw, e⟩ := List.mem_map.1 hm
    have hw := (List.mem_filter.1 hw).1
    obtain ⟨k, hk, rfl⟩ := List.getElem_of_mem hw
    have hk' : k < i ∧ k < (sortN nodes).length := by simp at hk; omega
    have e5 : ((sortN nodes).take i)[k] = (sortN nodes).getD k default := by simp [List.getD, hk'.2]
    rw [e5] at e
    have := sid_inj hr (by omega) hi e
    omega
theorem sides_at {nodes : List NodeT} (hr : Rst nodes) {q : List PeerT} (hq : AlQ nodes q) {ht t : Nat} (h : ∀ i j, i < nodes.length → j < nodes.length → Cn nodes q 0 (nodes.length - 1) i j) (htt : nodes.length ≤ t) {i : Nat} (hi : i < nodes.length) :
    ((qRun nodes ht t q).getD i default).left = sidL nodes i ∧ ((qRun nodes ht t q).getD i default).right = sidR nodes i := by
  obtain ⟨t', rfl⟩ : ∃ t', t = t' + 1 := ⟨t - 1, by omega⟩
  have ha := adj_from hr hq (ht := ht) (t := t') h (by omega)
  have hq' := hq.run (ht := ht) t'
  have hk := keep_adj hr hq' ha hi
  show ((qStep nodes ht (qRun nodes ht t' q)).getD i default).left = _ ∧ ((qStep nodes ht (qRun nodes ht t' q)).getD i default).right = _
  rw [step_get (by rw [hq'.len]; exact hi)]
  show (keepF nodes _).left = _ ∧ (keepF nodes _).right = _
  rw [hk]; exact ⟨rfl, rfl⟩
def ConnN (nodes : List NodeT) (ps : List PeerT) : Prop := ∀ S : Int → Prop, (∀ x ∈ nodes, ∀ y ∈ nodes, namesF (normal1F ps x) y.id = true → (S x.id ↔ S y.id)) → ∀ x ∈ nodes, ∀ y ∈ nodes, (S x.id ↔ S y.id)
theorem conn_cn {nodes : List NodeT} (hr : Rst nodes) {ps : List PeerT} (h : ConnN nodes ps) : ∀ i j, i < nodes.length → j < nodes.length → Cn nodes (normalF nodes ps) 0 (nodes.length - 1) i j := by
  intro i j hi hj S hS
  have hsl := sortN_len nodes
  have hrk : ∀ k, k < nodes.length → rankF (sortN nodes) [sid nodes k] = k := fun k hk => rank_at hr.sort.ids (by omega)
  have key := h (fun z => S (rankF (sortN nodes) [z])) (fun x hx y hy hn => by
    obtain ⟨a, ha, rfl⟩ := List.getElem_of_mem (sortN_mem.2 hx)
    obtain ⟨b, hb, rfl⟩ := List.getElem_of_mem (sortN_mem.2 hy)
    have ea : (sortN nodes)[a] = (sortN nodes).getD a default := by simp [List.getD, ha]
    have eb : (sortN nodes)[b] = (sortN nodes).getD b default := by simp [List.getD, hb]
    rw [ea, eb] at hn ⊢
    have e1 := hrk a (by omega)
    have e2 := hrk b (by omega)
    unfold sid at e1 e2
    rw [e1, e2]
    refine kn_chain2 hS (p := a) (by omega) (by omega) (by omega) (by omega) (by omega) ⟨by omega, .inl rfl⟩ ⟨by omega, .inr ?_⟩
    rw [normalF, map_getD (by omega)]
    exact hn) _ (sid_mem hi) _ (sid_mem hj)
  have e1 := hrk i hi
  have e2 := hrk j hj
  unfold sid at e1 e2
  rw [e1, e2] at key
  exact key
end Go.Sx

namespace Go.Sx
open Go
theorem last_eq {p : NodeT → Bool} {s : List NodeT} {n j : Nat} (hj : j < n) (hl : j < s.length) (h : p (s.getD j default) = true) (hb : ∀ k, j < k → k < n → p (s.getD k default) = false) : lastN p (s.take n) = (s.getD j default).id := by
  have e : s.take n = s.take j ++ s.getD j default :: (s.take n).drop (j + 1) := by
    have h1 := split_at (s := s.take n) (i := j) (by rw [List.length_take]; omega)
    have h2 : (s.take n).getD j default = s.getD j default := by simp [List.getD, hj]
    rw [h2, List.take_take, Nat.min_eq_left (by omega)] at h1
    exact h1
  unfold lastN
  rw [e, List.filter_append, List.filter_cons, if_pos h, filter_none (fun z hz hz' => hb z (by omega) hz')]
  simp
theorem last_none {p : NodeT → Bool} {s : List NodeT} {n : Nat} (hb : ∀ k, k < n → p (s.getD k default) = false) : lastN p (s.take n) = 0 := by
  have := filter_none (s := s) (P := p) (a := 0) (n := n) (fun z _ hz => hb z hz)
  rw [List.drop_zero] at this
  unfold lastN; rw [this]; rfl
theorem first_eq {p : NodeT → Bool} {s : List NodeT} {n j : Nat} (hj : n ≤ j) (hl : j < s.length) (h : p (s.getD j default) = true) (hb : ∀ k, n ≤ k → k < j → p (s.getD k default) = false) : firstN p (s.drop n) = (s.getD j default).id := by
  have e : s.drop n = (s.take j).drop n ++ s.getD j default :: s.drop (j + 1) := by
    have h1 := split_at hl
    have h4 : (s.take j).length = j := by rw [List.length_take]; omega
    conv => lhs; rw [h1]
    rw [List.drop_append_of_le_length (by omega)]
  unfold firstN
  rw [e, List.filter_append, filter_none hb, List.filter_cons, if_pos h]
  rfl
theorem first_none {p : NodeT → Bool} {s : List NodeT} {n : Nat} (hb : ∀ k, n ≤ k → k < s.length → p (s.getD k default) = false) : firstN p (s.drop n) = 0 := by
  have := filter_none (s := s) (P := p) (a := n) (n := s.length) hb
  rw [List.take_length] at this
  unfold firstN; rw [this]; rfl
theorem last_cases (p : NodeT → Bool) (s : List NodeT) (n : Nat) (hn : n ≤ s.length) : ((∀ k, k < n → p (s.getD k default) = false) ∧ lastN p (s.take n) = 0) ∨ ∃ j, j < n ∧ p (s.getD j default) = true ∧ (∀ k, j < k → k < n → p (s.getD k default) = false) ∧ lastN p (s.take n) = (s.getD j default).id := by
  by_cases h : ∃ j, j < n ∧ p (s.getD j default) = true
  · have key : ∀ d, (∃ j, j < n ∧ n - j ≤ d ∧ p (s.getD j default) = true) → ∃ j, j < n ∧ p (s.getD j default) = true ∧ ∀ k, j < k → k < n → p (s.getD k default) = false := by
      intro d
      induction d with
      | zero => rintro ⟨j, h1, h2, _⟩; omega
      | succ d ih =>
        rintro ⟨j, h1, h2, h3⟩
        by_cases hb : ∃ k, j < k ∧ k < n ∧ p (s.getD k default) = true
        · obtain ⟨k, k1, k2, k3⟩ := hb
          exact ih ⟨k, k2, by omega, k3⟩
        · refine ⟨j, h1, h3, fun k k1 k2 => ?_⟩
          rw [Bool.eq_false_iff]
          exact fun e => hb ⟨k, k1, k2, e⟩
    obtain ⟨j, h1, h2⟩ := h
    obtain ⟨j, h1, h2, h3⟩ := key n ⟨j, h1, by omega, h2⟩
    exact .inr ⟨j, h1, h2, h3, last_eq h1 (by omega) h2 h3⟩
  · have hb : ∀ k, k < n → p (s.getD k default) = false := fun k hk => by
      rw [Bool.eq_false_iff]
      exact fun e => h ⟨k, hk, e⟩
    exact .inl ⟨hb, last_none hb⟩
theorem first_cases (p : NodeT → Bool) (s : List NodeT) (n : Nat) : ((∀ k, n ≤ k → k < s.length → p (s.getD k default) = false) ∧ firstN p (s.drop n) = 0) ∨ ∃ j, n ≤ j ∧ j < s.length ∧ p (s.getD j default) = true ∧ (∀ k, n ≤ k → k < j → p (s.getD k default) = false) ∧ firstN p (s.drop n) = (s.getD j default).id := by
  by_cases h : ∃ j, n ≤ j ∧ j < s.length ∧ p (s.getD j default) = true
  · have key : ∀ d j, j ≤ d → n ≤ j → j < s.length → p (s.getD j default) = true → ∃ j, n ≤ j ∧ j < s.length ∧ p (s.getD j default) = true ∧ ∀ k, n ≤ k → k < j → p (s.getD k default) = false := by
      intro d
      induction d with
      | zero => intro j h0 h1 h2 h3; exact ⟨j, h1, h2, h3, fun k _ _ => by omega⟩
      | succ d ih =>
        intro j h0 h1 h2 h3
        by_cases hb : ∃ k, n ≤ k ∧ k < j ∧ p (s.getD k default) = true
        · obtain ⟨k, k1, k2, k3⟩ := hb
          exact ih k (by omega) k1 (by omega) k3
        · refine ⟨j, h1, h2, h3, fun k k1 k2 => ?_⟩
          rw [Bool.eq_false_iff]
          exact fun e => hb ⟨k, k1, k2, e⟩
    obtain ⟨j, h1, h2, h3⟩ := h
    obtain ⟨j, h1, h2, h3, h4⟩ := key j j (Nat.le_refl _) h1 h2 h3
    exact .inr ⟨j, h1, h2, h3, h4, first_eq h1 h2 h3 h4⟩
  · have hb : ∀ k, n ≤ k → k < s.length → p (s.getD k default) = false := fun k hk hl => by
      rw [Bool.eq_false_iff]
      exact fun e => h ⟨k, hk, hl, e⟩
    exact .inl ⟨hb, first_none hb⟩
theorem sameP_iff {lv : Nat} {x y : NodeT} : sameP lv x y = true ↔ x.word % 2 ^ lv = y.word % 2 ^ lv := by unfold sameP; exact sameW_iff
theorem sameP_congr {lv : Nat} {x y z : NodeT} (h : sameP lv x y = true) : sameP lv x z = sameP lv y z := by
  rw [sameP_iff] at h
  rw [Bool.eq_iff_iff, sameP_iff, sameP_iff, h]
def bitOf (lv : Nat) (x : NodeT) (b : Nat) (y : NodeT) : Bool := sameP lv x y && (bitW y.word lv == b)
def lastOf (s : List NodeT) (lv i b : Nat) : Int := lastN (bitOf lv (s.getD i default) b) (s.take i)
def firstOf (s : List NodeT) (lv i b : Nat) : Int := firstN (bitOf lv (s.getD i default) b) (s.drop (i + 1))
theorem bit_lt {w l : Nat} : bitW w l = 0 ∨ bitW w l = 1 := by unfold bitW; omega
theorem lastOf_none {s : List NodeT} {lv i b : Nat} (h : ∀ k, k < i → sameP lv (s.getD i default) (s.getD k default) = false) : lastOf s lv i b = 0 :=
  last_none fun k hk => by rw [bitOf, h k hk]; rfl
theorem lastOf_at {s : List NodeT} {lv i j : Nat} (hj : j < i) (hl : j < s.length) (h : sameP lv (s.getD i default) (s.getD j default) = true) (hb : ∀ k, j < k → k < i → sameP lv (s.getD i default) (s.getD k default) = false) {b : Nat} (hbit : bitW (s.getD j default).word lv = b) : lastOf s lv i b = (s.getD j default).id :=
  last_eq hj hl (by rw [bitOf, h, hbit]; simp) fun k h1 h2 => by rw [bitOf, hb k h1 h2]; rfl
theorem lastOf_past {s : List NodeT} {lv i j : Nat} (hj : j < i) (hi : i ≤ s.length) (h : sameP lv (s.getD i default) (s.getD j default) = true) (hb : ∀ k, j < k → k < i → sameP lv (s.getD i default) (s.getD k default) = false) {b : Nat} (hbit : bitW (s.getD j default).word lv ≠ b) : lastOf s lv i b = lastOf s lv j b := by
  have hc : ∀ z, sameP lv (s.getD j default) z = sameP lv (s.getD i default) z := fun z => (sameP_congr h).symm
  have hp : bitOf lv (s.getD j default) b = bitOf lv (s.getD i default) b := by funext z; rw [bitOf, bitOf, hc]
  have hrest : ∀ k, j ≤ k → k < i → bitOf lv (s.getD i default) b (s.getD k default) = false := by
    intro k h1 h2
    rcases Nat.lt_or_ge j k with h3 | h3
    · rw [bitOf, hb k h3 h2]; rfl
    · have : k = j := by omega
      subst this
      rw [bitOf]
      have : (bitW (s.getD k default).word lv == b) = false := by simpa using hbit
      rw [this, Bool.and_false]
  unfold lastOf
  rw [hp]
  rcases last_cases (bitOf lv (s.getD i default) b) s j (by omega) with ⟨h1, h2⟩ | ⟨m, h1, h2, h3, h4⟩
  · rw [h2]
    refine last_none fun k hk => ?_
    rcases Nat.lt_or_ge k j with h3 | h3
    · exact h1 k h3
    · exact hrest k h3 hk
  · rw [h4]
    refine last_eq (by omega) (by omega) h2 fun k k1 k2 => ?_
    rcases Nat.lt_or_ge k j with h5 | h5
    · exact h3 k k1 h5
    · exact hrest k h5 k2
theorem firstOf_none {s : List NodeT} {lv i b : Nat} (h : ∀ k, i + 1 ≤ k → k < s.length → sameP lv (s.getD i default) (s.getD k default) = false) : firstOf s lv i b = 0 :=
  first_none fun k hk hl => by rw [bitOf, h k hk hl]; rfl
theorem firstOf_at {s : List NodeT} {lv i j : Nat} (hj : i + 1 ≤ j) (hl : j < s.length) (h : sameP lv (s.getD i default) (s.getD j default) = true) (hb : ∀ k, i + 1 ≤ k → k < j → sameP lv (s.getD i default) (s.getD k default) = false) {b : Nat} (hbit : bitW (s.getD j default).word lv = b) : firstOf s lv i b = (s.getD j default).id :=
  first_eq hj hl (by rw [bitOf, h, hbit]; simp) fun k h1 h2 => by rw [bitOf, hb k h1 h2]; rfl
theorem firstOf_past {s : List NodeT} {lv i j : Nat} (hj : i + 1 ≤ j) (hl : j < s.length) (h : sameP lv (s.getD i default) (s.getD j default) = true) (hb : ∀ k, i + 1 ≤ k → k < j → sameP lv (s.getD i default) (s.getD k default) = false) {b : Nat} (hbit : bitW (s.getD j default).word lv ≠ b) : firstOf s lv i b = firstOf s lv j b := by
  have hc : ∀ z, sameP lv (s.getD j default) z = sameP lv (s.getD i default) z := fun z => (sameP_congr h).symm
  have hp : bitOf lv (s.getD j default) b = bitOf lv (s.getD i default) b := by funext z; rw [bitOf, bitOf, hc]
  have hrest : ∀ k, i + 1 ≤ k → k ≤ j → bitOf lv (s.getD i default) b (s.getD k default) = false := by
    intro k h1 h2
    rcases Nat.lt_or_ge k j with h3 | h3
    · rw [bitOf, hb k h1 h3]; rfl
    · have : k = j := by omega
      subst this
      rw [bitOf]
      have : (bitW (s.getD k default).word lv == b) = false := by simpa using hbit
      rw [this, Bool.and_false]
  unfold firstOf
  rw [hp]
  rcases first_cases (bitOf lv (s.getD i default) b) s (j + 1) with ⟨h1, h2⟩ | ⟨m, h0, h1, h2, h3, h4⟩
  · rw [h2]
    refine first_none fun k hk hl => ?_
    rcases Nat.lt_or_ge j k with h3 | h3
    · exact h1 k h3 hl
    · exact hrest k hk h3
  · rw [h4]
    refine first_eq (by omega) h1 h2 fun k k1 k2 => ?_
    rcases Nat.lt_or_ge j k with h5 | h5
    · exact h3 k h5 k2
    · exact hrest k k1 h5
theorem other_sid {nodes : List NodeT} (hr : Rst nodes) {i j : Nat} (hi : i < nodes.length) (hj : j < nodes.length) (hne : i ≠ j) : otherF nodes (sid nodes j) (sid nodes i) = sid nodes j := by
  unfold otherF
  rw [sid_find hr hj]
  have : sid nodes j ≠ sid nodes i := fun e => hne (sid_inj hr hj hi e).symm
  rw [if_pos]
  simpa [bne, -List.getD_eq_getElem?_getD] using this
theorem other_zero {nodes : List NodeT} {own : Int} : otherF nodes 0 own = 0 := by unfold otherF; split <;> rfl
theorem other_last {nodes : List NodeT} (hr : Rst nodes) {i n : Nat} (hi : i < nodes.length) (hn : n ≤ i) (p : NodeT → Bool) : otherF nodes (lastN p ((sortN nodes).take n)) (sid nodes i) = lastN p ((sortN nodes).take n) := by
  rcases last_cases p (sortN nodes) n (by rw [sortN_len]; omega) with ⟨_, h⟩ | ⟨j, h1, _, _, h⟩
  · rw [h]; exact other_zero
  · rw [h]; exact other_sid hr hi (by omega) (by omega)
theorem other_first {nodes : List NodeT} (hr : Rst nodes) {i n : Nat} (hi : i < nodes.length) (hn : i < n) (p : NodeT → Bool) : otherF nodes (firstN p ((sortN nodes).drop n)) (sid nodes i) = firstN p ((sortN nodes).drop n) := by
  rcases first_cases p (sortN nodes) n with ⟨_, h⟩ | ⟨j, h1, h2, _, _, h⟩
  · rw [h]; exact other_zero
  · rw [h]; exact other_sid hr hi (by rw [sortN_len] at h2; exact h2) (by omega)
def NL (nodes : List NodeT) (q : List PeerT) (lv i : Nat) : Prop := ((q.getD i default).near.getD lv default).l0 = lastOf (sortN nodes) lv i 0 ∧ ((q.getD i default).near.getD lv default).l1 = lastOf (sortN nodes) lv i 1
def NR (nodes : List NodeT) (q : List PeerT) (lv i : Nat) : Prop := ((q.getD i default).near.getD lv default).r0 = firstOf (sortN nodes) lv i 0 ∧ ((q.getD i default).near.getD lv default).r1 = firstOf (sortN nodes) lv i 1
def LvOk (nodes : List NodeT) (q : List PeerT) (lv : Nat) : Prop := ∀ i, i < nodes.length → linkP nodes (q.getD i default) lv = linkAt (sortN nodes) lv i
theorem atF_sid {nodes : List NodeT} (hr : Rst nodes) {q : List PeerT} (hq : AlQ nodes q) {j lv : Nat} (hj : j < nodes.length) : atF q (sid nodes j) lv = (q.getD j default).near.getD lv default := by
  unfold atF; rw [hq.find hr hj]; rfl
theorem step_near {nodes : List NodeT} {h : Nat} {q : List PeerT} {i lv : Nat} (hi : i < q.length) (hlv : lv < h) : ((qStep nodes h q).getD i default).near.getD lv default = near1F nodes q (q.getD i default) lv := by
  rw [step_get hi]
  show (nextF nodes q (q.getD i default) h).getD lv default = _
  simp [nextF, List.getD, hlv]
theorem nl_step {nodes : List NodeT} (hr : Rst nodes) {h : Nat} {q : List PeerT} (hq : AlQ nodes q) {lv i : Nat} (hlv : lv < h) (hi : i < nodes.length) (hl : LvOk nodes q lv) (hn : ∀ j, j < i → NL nodes q lv j) : NL nodes (qStep nodes h q) lv i := by
  have hsl := sortN_len nodes
  unfold NL
  rw [step_near (by rw [hq.len]; exact hi) hlv]
  unfold near1F
  rw [hl i hi, hq.id i hi]
  simp only [linkAt]
  rcases last_cases (sameP lv ((sortN nodes).getD i default)) (sortN nodes) i (by omega) with ⟨h1, h2⟩ | ⟨j, h1, h2, h3, h4⟩
  · rw [h2, lastOf_none h1, lastOf_none h1]
    unfold pairF; rw [find_zero hr]; exact ⟨rfl, rfl⟩
  · rw [h4]
    have hj : j < nodes.length := by omega
    have hnj := hn j h1
    have ha := atF_sid hr hq (lv := lv) hj
    unfold sid at ha
    have hf := sid_find hr hj
    unfold sid at hf
    rw [ha, hnj.1, hnj.2]
    unfold pairF
    rw [hf]
    simp only
    rcases bit_lt (w := ((sortN nodes).getD j default).word) (l := lv) with hb | hb
    · rw [if_pos hb]
      refine ⟨(lastOf_at h1 (by omega) h2 h3 hb).symm, ?_⟩
      rw [lastOf_past h1 (by omega) h2 h3 (b := 1) (by omega)]
      exact other_last hr hi (by omega) _
    · rw [if_neg (by omega)]
      refine ⟨?_, (lastOf_at h1 (by omega) h2 h3 hb).symm⟩
      rw [lastOf_past h1 (by omega) h2 h3 (b := 0) (by omega)]
      exact other_last hr hi (by omega) _
theorem nr_step {nodes : List NodeT} (hr : Rst nodes) {h : Nat} {q : List PeerT} (hq : AlQ nodes q) {lv i : Nat} (hlv : lv < h) (hi : i < nodes.length) (hl : LvOk nodes q lv) (hn : ∀ j, i < j → j < nodes.length → NR nodes q lv j) : NR nodes (qStep nodes h q) lv i := by
  have hsl := sortN_len nodes
  unfold NR
  rw [step_near (by rw [hq.len]; exact hi) hlv]
  unfold near1F
  rw [hl i hi, hq.id i hi]
  simp only [linkAt]
  rcases first_cases (sameP lv ((sortN nodes).getD i default)) (sortN nodes) (i + 1) with ⟨h1, h2⟩ | ⟨j, h0, h1, h2, h3, h4⟩
  · rw [h2, firstOf_none h1, firstOf_none h1]
    unfold pairF; rw [find_zero hr]; exact ⟨rfl, rfl⟩
  · rw [h4]
    have hj : j < nodes.length := by omega
    have hnj := hn j (by omega) hj
    have ha := atF_sid hr hq (lv := lv) hj
    unfold sid at ha
    have hf := sid_find hr hj
    unfold sid at hf
    rw [ha, hnj.1, hnj.2]
    unfold pairF
    rw [hf]
    simp only
    rcases bit_lt (w := ((sortN nodes).getD j default).word) (l := lv) with hb | hb
    · rw [if_pos hb]
      refine ⟨(firstOf_at h0 h1 h2 h3 hb).symm, ?_⟩
      rw [firstOf_past h0 h1 h2 h3 (b := 1) (by omega)]
      exact other_first hr hi (by omega) _
    · rw [if_neg (by omega)]
      refine ⟨?_, (firstOf_at h0 h1 h2 h3 hb).symm⟩
      rw [firstOf_past h0 h1 h2 h3 (b := 0) (by omega)]
      exact other_first hr hi (by omega) _
theorem nl_from {nodes : List NodeT} (hr : Rst nodes) {h : Nat} {q : List PeerT} (hq : AlQ nodes q) {lv T : Nat} (hlv : lv < h) (hl : ∀ t, T ≤ t → LvOk nodes (qRun nodes h t q) lv) : ∀ i, i < nodes.length → ∀ t, T + i + 1 ≤ t → NL nodes (qRun nodes h t q) lv i := by
  intro i
  induction i using Nat.strongRecOn with
  | ind i ih =>
    intro hi t ht
    obtain ⟨t', rfl⟩ : ∃ t', t = t' + 1 := ⟨t - 1, by omega⟩
    exact nl_step hr (hq.run _) hlv hi (hl t' (by omega)) fun j hj => ih j hj (by omega) t' (by omega)
theorem nr_from {nodes : List NodeT} (hr : Rst nodes) {h : Nat} {q : List PeerT} (hq : AlQ nodes q) {lv T : Nat} (hlv : lv < h) (hl : ∀ t, T ≤ t → LvOk nodes (qRun nodes h t q) lv) : ∀ d i, nodes.length = i + d + 1 → ∀ t, T + d + 1 ≤ t → NR nodes (qRun nodes h t q) lv i := by
  intro d
  induction d using Nat.strongRecOn with
  | ind d ih =>
    intro i hi t ht
    obtain ⟨t', rfl⟩ : ∃ t', t = t' + 1 := ⟨t - 1, by omega⟩
    exact nr_step hr (hq.run _) hlv (by omega) (hl t' (by omega)) fun j hj hjl => ih (nodes.length - j - 1) (by omega) j (by omega) t' (by omega)
theorem linkAt_succ {s : List NodeT} {lv i : Nat} : linkAt s (lv + 1) i = ⟨lastOf s lv i (bitW (s.getD i default).word lv), firstOf s lv i (bitW (s.getD i default).word lv)⟩ := by
  have e : sameP (lv + 1) (s.getD i default) = bitOf lv (s.getD i default) (bitW (s.getD i default).word lv) := by
    funext z
    rw [bitOf, sameP, same_succ, sameP]
    congr 1
    rw [Bool.eq_iff_iff, beq_iff_eq, beq_iff_eq]
    exact eq_comm
  rw [linkAt, e]; rfl
theorem lv_succ {nodes : List NodeT} (hr : Rst nodes) {h : Nat} {q : List PeerT} (hq : AlQ nodes q) {lv T : Nat} (hlv : lv < h) (hl : ∀ t, T ≤ t → LvOk nodes (qRun nodes h t q) lv) : ∀ t, T + nodes.length ≤ t → LvOk nodes (qRun nodes h t q) (lv + 1) := by
  intro t ht i hi
  have h1 := nl_from hr hq hlv hl i hi t (by omega)
  have h2 := nr_from hr hq hlv hl (nodes.length - i - 1) i (by omega) t (by omega)
  have hlen : ((qRun nodes h t q).getD i default).near.length = h := by
    obtain ⟨t', rfl⟩ : ∃ t', t = t' + 1 := ⟨t - 1, by omega⟩
    have hq' := hq.run (ht := h) t'
    show ((qStep nodes h (qRun nodes h t' q)).getD i default).near.length = h
    rw [step_get (by rw [hq'.len]; exact hi)]
    exact next_len
  have hid := (hq.run (ht := h) t).id i hi
  have hw : wordF nodes (sid nodes i) = ((sortN nodes).getD i default).word := by unfold wordF; rw [sid_find hr hi]; rfl
  unfold NL at h1
  unfold NR at h2
  generalize (qRun nodes h t q).getD i default = p at *
  rw [linkAt_succ]
  unfold linkP
  rw [if_neg (by omega)]
  unfold baseP
  rw [if_neg (by omega), hid, hw, Nat.add_sub_cancel]
  rcases bit_lt (w := ((sortN nodes).getD i default).word) (l := lv) with hb | hb
  · rw [if_neg (by omega), hb]
    congr 1
    · rw [h1.1]; exact other_last hr hi (Nat.le_refl _) _
    · rw [h2.1]; exact other_first hr hi (by omega) _
  · rw [if_pos hb, hb]
    congr 1
    · rw [h1.2]; exact other_last hr hi (Nat.le_refl _) _
    · rw [h2.2]; exact other_first hr hi (by omega) _
theorem sameP_zero {x y : NodeT} : sameP 0 x y = true := by rw [sameP_iff]; omega
theorem lv_zero {nodes : List NodeT} (hr : Rst nodes) {h : Nat} {q : List PeerT} (hq : AlQ nodes q) (hc : ∀ i j, i < nodes.length → j < nodes.length → Cn nodes q 0 (nodes.length - 1) i j) : ∀ t, nodes.length ≤ t → LvOk nodes (qRun nodes h t q) 0 := by
  intro t ht i hi
  have hsl := sortN_len nodes
  obtain ⟨h1, h2⟩ := sides_at hr hq (ht := h) hc ht hi
  have hid := (hq.run (ht := h) t).id i hi
  unfold linkP
  rw [if_neg (by omega)]
  unfold baseP
  rw [if_pos rfl, h1, h2, hid]
  have e1 : sidL nodes i = lastN (sameP 0 ((sortN nodes).getD i default)) ((sortN nodes).take i) := by
    unfold sidL
    by_cases e : i = 0
    · subst e; rw [if_pos rfl]; exact (last_none fun k hk => by omega).symm
    · rw [if_neg e]; exact (last_eq (by omega) (by omega) sameP_zero fun k k1 k2 => by omega).symm
  have e2 : sidR nodes i = firstN (sameP 0 ((sortN nodes).getD i default)) ((sortN nodes).drop (i + 1)) := by
    unfold sidR
    by_cases e : i + 1 < nodes.length
    · rw [if_pos e]; exact (first_eq (Nat.le_refl _) (by omega) sameP_zero fun k k1 k2 => by omega).symm
    · rw [if_neg e]; exact (first_none fun k k1 k2 => by omega).symm
  unfold linkAt
  simp only
  congr 1
  · rw [e1]; exact other_last hr hi (Nat.le_refl _) _
  · rw [e2]; exact other_first hr hi (by omega) _
theorem lv_all {nodes : List NodeT} (hr : Rst nodes) {h : Nat} {q : List PeerT} (hq : AlQ nodes q) (hc : ∀ i j, i < nodes.length → j < nodes.length → Cn nodes q 0 (nodes.length - 1) i j) : ∀ lv, lv ≤ h → ∀ t, nodes.length * (lv + 1) ≤ t → LvOk nodes (qRun nodes h t q) lv := by
  intro lv
  induction lv with
  | zero => intro _ t ht; exact lv_zero hr hq hc t (by omega)
  | succ lv ih =>
    intro hlv t ht
    exact lv_succ hr hq (T := nodes.length * (lv + 1)) (by omega) (ih (by omega)) t (by rw [Nat.mul_add, Nat.mul_one] at ht; exact ht)
theorem repair_ideal {nodes : List NodeT} (hr : Rst nodes) {ps : List PeerT} {h : Nat} (hc : ConnN nodes ps) : linksF nodes (runF nodes h (nodes.length * (h + 1)) (normalF nodes ps)) h = idealF (sortN nodes) h := by
  have hsl := sortN_len nodes
  have hq : AlQ nodes (normalF nodes ps) := normal_al
  have hrun := run_q hr (ps := normalF nodes ps) (h := h) (nodes.length * (h + 1))
  rw [normal_self hr hq] at hrun
  have hl := fun lv hlv => lv_all hr hq (conn_cn hr hc) (h := h) lv hlv
  unfold linksF
  rw [hrun]
  have ha := hq.run (ht := h) (nodes.length * (h + 1))
  have hlen := ha.len
  refine List.ext_getElem (by rw [List.length_map, hlen, idealF, List.length_map, List.length_range, hsl]) fun i h1 h2 => ?_
  have hi : i < nodes.length := by rw [List.length_map, hlen] at h1; exact h1
  rw [List.getElem_map]
  have e1 : (qRun nodes h (nodes.length * (h + 1)) (normalF nodes ps))[i]'(by rw [hlen]; exact hi) = (qRun nodes h (nodes.length * (h + 1)) (normalF nodes ps)).getD i default := by simp [List.getD, hlen, hi]
  rw [e1]
  simp only [idealF, List.getElem_map, List.getElem_range]
  unfold links1F levelsF
  rw [ha.id i hi]
  congr 1
  refine List.map_congr_left fun lv hlv => ?_
  have hlv : lv < h + 1 := List.mem_range.1 hlv
  exact hl lv (by omega) _ (Nat.mul_le_mul_left _ (by omega)) i hi
theorem run_q2 {nodes : List NodeT} (hr : Rst nodes) {ps : List PeerT} {h : Nat} : ∀ n, runF nodes h n (normalF nodes ps) = qRun nodes h n (normalF nodes ps)
  | 0 => rfl
  | n + 1 => by
    show rRoundF nodes (runF nodes h n (normalF nodes ps)) h = _
    unfold rRoundF
    rw [run_q hr n, normal_self hr normal_al]; rfl
theorem run_al {nodes : List NodeT} (hr : Rst nodes) {ps : List PeerT} {h n : Nat} : AlQ nodes (runF nodes h n (normalF nodes ps)) := by
  rw [run_q2 hr]; exact normal_al.run n
theorem repair_adj {nodes : List NodeT} (hr : Rst nodes) {ps : List PeerT} {h : Nat} (hc : ConnN nodes ps) : Adj nodes (runF nodes h (nodes.length * (h + 1)) (normalF nodes ps)) := by
  rw [run_q2 hr]
  refine adj_from hr normal_al (conn_cn hr hc) ?_
  have : nodes.length ≤ nodes.length * (h + 1) := Nat.le_mul_of_pos_right _ (by omega)
  omega
theorem AlQ.map {nodes : List NodeT} {q : List PeerT} (h : AlQ nodes q) : q.map (·.id) = (sortN nodes).map (·.id) := by
  have hsl := sortN_len nodes
  refine List.ext_getElem (by simp [h.len, hsl]) fun i h1 h2 => ?_
  have hi : i < nodes.length := by rw [List.length_map, h.len] at h1; exact h1
  have := h.id i hi
  simpa [sid, List.getD, h.len, hsl, hi] using this
theorem conn_part {all p : List NodeT} (hp : ∀ x ∈ p, x ∈ all) {q Q : List PeerT} (hadj : Adj p q) (hQ : ∀ k, k < p.length → ∀ z, namesF (q.getD k default) z = true → namesF (normal1F Q ((sortN p).getD k default)) z = true) {S : Int → Prop} (hS : ∀ x ∈ all, ∀ y ∈ all, namesF (normal1F Q x) y.id = true → (S x.id ↔ S y.id)) : ∀ x ∈ p, (S x.id ↔ S (sid p 0)) := by
  have hsl := sortN_len p
  have key : ∀ k, k < p.length → (S (sid p k) ↔ S (sid p 0)) := by
    intro k
    induction k with
    | zero => intro _; exact Iff.rfl
    | succ k ih =>
      intro hk
      have h1 := (hadj k hk).1.2.resolve_left (by omega)
      have h2 := hS _ (hp _ (sid_mem (show k < p.length by omega))) _ (hp _ (sid_mem hk)) (hQ k (by omega) _ h1)
      exact h2.symm.trans (ih (by omega))
  intro x hx
  obtain ⟨k, hk, rfl⟩ := List.getElem_of_mem (sortN_mem.2 hx)
  have := key k (by omega)
  have e : (sortN p)[k] = (sortN p).getD k default := by simp [List.getD, hk]
  rw [e]; exact this
theorem names_more {p : PeerT} {z v : Int} (h : namesF p z = true) : namesF { p with known := p.known ++ [v] } z = true := by
  simp only [namesF, List.any_append, Bool.or_eq_true] at h ⊢
  rcases h with h | h | h | h
  · exact .inl h
  · exact .inr (.inl h)
  · exact .inr (.inr (.inl (.inl h)))
  · exact .inr (.inr (.inr h))
theorem names_last {p : PeerT} {v : Int} : namesF { p with known := p.known ++ [v] } v = true := by
  simp [namesF]
end Go.Sx

namespace Go.Sx
open Go
def rdL (Ls : List (List LinkT)) (r lv : Nat) : LinkT := (Ls.getD r default).getD lv default
theorem rd_set {n h r lv r' lv' : Nat} {Ls : List (List LinkT)} {x : LinkT} (hs : ShpL n h Ls) (hr : r < n) (hl : lv < h + 1) : rdL (Ls.set r ((Ls.getD r default).set lv x)) r' lv' = if r' = r ∧ lv' = lv then x else rdL Ls r' lv' := by
  unfold rdL
  rw [set_get (by rw [hs.1]; exact hr)]
  by_cases e : r' = r
  · subst e
    rw [if_pos rfl, set_get (by rw [hs.2 _ hr]; exact hl)]
    by_cases e2 : lv' = lv
    · rw [if_pos e2, if_pos ⟨rfl, e2⟩]
    · rw [if_neg e2, if_neg (fun h => e2 h.2)]
  · rw [if_neg e, if_neg (fun h => e h.1)]
theorem rd_lf {n h r lv r' lv' : Nat} {v : Int} {Ls : List (List LinkT)} (hs : ShpL n h Ls) (hr : r < n) (hl : lv < h + 1) : rdL (setLf Ls r lv v) r' lv' = if r' = r ∧ lv' = lv then ⟨v, (rdL Ls r' lv').right⟩ else rdL Ls r' lv' := by
  unfold setLf
  rw [rd_set hs hr hl]
  by_cases e : r' = r ∧ lv' = lv
  · rw [if_pos e, if_pos e, e.1, e.2]; rfl
  · rw [if_neg e, if_neg e]
theorem rd_rt {n h r lv r' lv' : Nat} {v : Int} {Ls : List (List LinkT)} (hs : ShpL n h Ls) (hr : r < n) (hl : lv < h + 1) : rdL (setRt Ls r lv v) r' lv' = if r' = r ∧ lv' = lv then ⟨(rdL Ls r' lv').left, v⟩ else rdL Ls r' lv' := by
  unfold setRt
  rw [rd_set hs hr hl]
  by_cases e : r' = r ∧ lv' = lv
  · rw [if_pos e, if_pos e, e.1, e.2]; rfl
  · rw [if_neg e, if_neg e]
theorem lk_ext {a b c d : Int} (h1 : a = c) (h2 : b = d) : LinkT.mk a b = ⟨c, d⟩ := by rw [h1, h2]
structure RkOk (rk : Int → Nat) (n : Nat) (c : List Int) : Prop where
  lt : ∀ j, j < c.length → rk (c.getD j default) < n
  inj : ∀ i j, i < c.length → j < c.length → rk (c.getD i default) = rk (c.getD j default) → i = j
theorem list_run {s : List NodeT} {n h lv : Nat} {c : List Int} (hc : RkOk (fun z => rankF s [z]) n c) (hl : lv < h + 1) {Ls : List (List LinkT)} (hs : ShpL n h Ls) : ∀ k, k + 1 ≤ c.length ∨ k = 0 →
    ShpL n h ((List.range' 1 k).foldl (linkStep s lv c) Ls) ∧
    (∀ r lv', lv' ≠ lv → rdL ((List.range' 1 k).foldl (linkStep s lv c) Ls) r lv' = rdL Ls r lv') ∧
    (∀ r, (∀ j, j < c.length → rankF s [c.getD j default] ≠ r) → rdL ((List.range' 1 k).foldl (linkStep s lv c) Ls) r lv = rdL Ls r lv) ∧
    (∀ j, j < c.length → rdL ((List.range' 1 k).foldl (linkStep s lv c) Ls) (rankF s [c.getD j default]) lv = ⟨if 1 ≤ j ∧ j ≤ k then c.getD (j - 1) default else (rdL Ls (rankF s [c.getD j default]) lv).left, if j < k then c.getD (j + 1) default else (rdL Ls (rankF s [c.getD j default]) lv).right⟩) := by
  intro k
  induction k with
  | zero =>
    intro _
    refine ⟨hs, fun _ _ _ => rfl, fun _ _ => rfl, fun j hj => ?_⟩
    rw [if_neg (by omega), if_neg (by omega)]; rfl
  | succ k ih =>
    intro hk
    obtain ⟨h1, h2, h3, h4⟩ := ih (.inl (by omega))
    have hk1 : k + 1 < c.length := by omega
    have e : (List.range' 1 (k + 1)).foldl (linkStep s lv c) Ls = linkStep s lv c ((List.range' 1 k).foldl (linkStep s lv c) Ls) (k + 1) := by
      rw [List.range'_concat, List.foldl_append]
      simp only [List.foldl_cons, List.foldl_nil]
      congr 1; omega
    rw [e]
    generalize (List.range' 1 k).foldl (linkStep s lv c) Ls = M at *
    have a1 := hc.lt (k + 1) hk1
    have a2 := hc.lt k (by omega)
    have hS := h1.setLf (lv := lv) (v := c.getD (k + 1 - 1) default) a1
    have hrd : ∀ r' lv', rdL (linkStep s lv c M (k + 1)) r' lv' = if r' = rankF s [c.getD k default] ∧ lv' = lv then ⟨(if r' = rankF s [c.getD (k + 1) default] ∧ lv' = lv then (⟨c.getD k default, (rdL M r' lv').right⟩ : LinkT) else rdL M r' lv').left, c.getD (k + 1) default⟩ else (if r' = rankF s [c.getD (k + 1) default] ∧ lv' = lv then ⟨c.getD k default, (rdL M r' lv').right⟩ else rdL M r' lv') := by
      intro r' lv'
      unfold linkStep
      rw [rd_rt hS (by simpa using a2) hl, rd_lf h1 a1 hl]
      simp only [Nat.add_sub_cancel]
    refine ⟨hS.setRt (by simpa using a2), fun r lv' hne => ?_, fun r hno => ?_, fun j hj => ?_⟩
    · rw [hrd, if_neg (fun h => hne h.2), if_neg (fun h => hne h.2)]; exact h2 r lv' hne
    · rw [hrd, if_neg (fun h => hno k (by omega) h.1.symm), if_neg (fun h => hno (k + 1) hk1 h.1.symm)]; exact h3 r hno
    · rw [hrd]
      have hj4 := h4 j hj
      by_cases e1 : j = k
      · subst e1
        have hne : ¬ (rankF s [c.getD j default] = rankF s [c.getD (j + 1) default] ∧ lv = lv) := fun h => by have := hc.inj j (j + 1) hj hk1 h.1; omega
        rw [if_pos ⟨rfl, rfl⟩, if_neg hne, hj4]
        refine lk_ext ?_ ?_
        · dsimp only
          by_cases e2 : 1 ≤ j
          · rw [if_pos (show 1 ≤ j ∧ j ≤ j from ⟨e2, Nat.le_refl _⟩), if_pos (show 1 ≤ j ∧ j ≤ j + 1 from ⟨e2, by omega⟩)]
          · rw [if_neg (show ¬ (1 ≤ j ∧ j ≤ j) by omega), if_neg (show ¬ (1 ≤ j ∧ j ≤ j + 1) by omega)]
        · rw [if_pos (by omega)]
      · have hne : ¬ (rankF s [c.getD j default] = rankF s [c.getD k default] ∧ lv = lv) := fun h => e1 (hc.inj j k hj (by omega) h.1)
        rw [if_neg hne]
        by_cases e2 : j = k + 1
        · subst e2
          rw [if_pos ⟨rfl, rfl⟩, hj4]
          refine lk_ext ?_ ?_
          · rw [if_pos (show 1 ≤ k + 1 ∧ k + 1 ≤ k + 1 by omega)]; rfl
          · dsimp only
            rw [if_neg (show ¬ k + 1 < k by omega), if_neg (show ¬ k + 1 < k + 1 by omega)]
        · have hne2 : ¬ (rankF s [c.getD j default] = rankF s [c.getD (k + 1) default] ∧ lv = lv) := fun h => e2 (hc.inj j (k + 1) hj hk1 h.1)
          rw [if_neg hne2, hj4]
          refine lk_ext ?_ ?_
          · by_cases e3 : 1 ≤ j ∧ j ≤ k
            · rw [if_pos e3, if_pos (by omega)]
            · rw [if_neg e3, if_neg (by omega)]
          · by_cases e3 : j < k
            · rw [if_pos e3, if_pos (by omega)]
            · rw [if_neg e3, if_neg (by omega)]
theorem list_all {s : List NodeT} {n h lv : Nat} {c : List Int} (hc : RkOk (fun z => rankF s [z]) n c) (hl : lv < h + 1) {Ls : List (List LinkT)} (hs : ShpL n h Ls) :
    ShpL n h (linkList s lv Ls c) ∧ (∀ r lv', lv' ≠ lv → rdL (linkList s lv Ls c) r lv' = rdL Ls r lv') ∧ (∀ r, (∀ j, j < c.length → rankF s [c.getD j default] ≠ r) → rdL (linkList s lv Ls c) r lv = rdL Ls r lv) ∧
    (∀ j, j < c.length → rdL (linkList s lv Ls c) (rankF s [c.getD j default]) lv = ⟨if 1 ≤ j then c.getD (j - 1) default else (rdL Ls (rankF s [c.getD j default]) lv).left, if j + 1 < c.length then c.getD (j + 1) default else (rdL Ls (rankF s [c.getD j default]) lv).right⟩) := by
  obtain ⟨h1, h2, h3, h4⟩ := list_run hc hl hs (c.length - 1) (by omega)
  refine ⟨h1, h2, h3, fun j hj => ?_⟩
  have := h4 j hj
  unfold linkList
  rw [this]
  congr 1
  · by_cases e : 1 ≤ j
    · rw [if_pos ⟨e, by omega⟩, if_pos e]
    · rw [if_neg (by omega), if_neg e]
  · by_cases e : j + 1 < c.length
    · rw [if_pos (by omega), if_pos e]
    · rw [if_neg (by omega), if_neg e]
theorem lists_run {s : List NodeT} {n h lv : Nat} (hl : lv < h + 1) : ∀ (cs : List (List Int)) (Ls : List (List LinkT)), (∀ c ∈ cs, RkOk (fun z => rankF s [z]) n c) → ShpL n h Ls →
    ShpL n h (cs.foldl (linkList s lv) Ls) ∧ (∀ r lv', lv' ≠ lv → rdL (cs.foldl (linkList s lv) Ls) r lv' = rdL Ls r lv') ∧
    (∀ r, (∀ c ∈ cs, ∀ j, j < c.length → rankF s [c.getD j default] ≠ r) → rdL (cs.foldl (linkList s lv) Ls) r lv = rdL Ls r lv)
  | [], Ls, _, hs => ⟨hs, fun _ _ _ => rfl, fun _ _ => rfl⟩
  | c :: cs, Ls, hc, hs => by
    obtain ⟨h1, h2, h3, _⟩ := list_all (hc c (by simp)) hl hs
    obtain ⟨g1, g2, g3⟩ := lists_run hl cs (linkList s lv Ls c) (fun d hd => hc d (by simp [hd])) h1
    refine ⟨g1, fun r lv' hne => (g2 r lv' hne).trans (h2 r lv' hne), fun r hno => (g3 r fun d hd => hno d (by simp [hd])).trans (h3 r (hno c (by simp)))⟩
structure ClsOk (lv : Nat) (l : List NodeT) (cs : List (List NodeT)) : Prop where
  ne : ∀ c ∈ cs, c ≠ []
  eq : ∀ c ∈ cs, c = l.filter (sameP lv (c.getD 0 default))
  dis : cs.Pairwise fun c d => sameP lv (c.getD 0 default) (d.getD 0 default) = false
  all : ∀ x ∈ l, ∃ c ∈ cs, sameP lv (c.getD 0 default) x = true
theorem addC_map {lv : Nat} {x : NodeT} : ∀ {cs : List (List NodeT)}, (cs.Pairwise fun c d => sameP lv (c.getD 0 default) (d.getD 0 default) = false) → addC lv cs x = if cs.any (inC lv x) then cs.map (fun c => if inC lv x c then c ++ [x] else c) else cs ++ [[x]]
  | [], _ => rfl
  | c :: cs, h => by
    have h' := List.pairwise_cons.1 h
    have ec : inC lv x c = sameW (c.getD 0 default).word x.word lv := rfl
    by_cases e : inC lv x c = true
    · have e' := e
      rw [ec] at e'
      simp only [addC, e', if_true, List.any_cons, e, Bool.true_or, List.map_cons]
      congr 1
      have : ∀ d ∈ cs, inC lv x d = false := by
        intro d hd
        have h1 := h'.1 d hd
        rw [Bool.eq_false_iff] at h1 ⊢
        intro h2
        refine h1 ?_
        have h3 : sameP lv (c.getD 0 default) x = true := e
        have h4 : sameP lv (d.getD 0 default) x = true := h2
        rw [sameP_iff] at h3 h4 ⊢
        omega
      have e3 : cs.map (fun c => if inC lv x c then c ++ [x] else c) = cs.map id := List.map_congr_left fun d hd => by rw [this d hd]; rfl
      rw [e3, List.map_id]
    · have e0 : inC lv x c = false := by simpa using e
      have e' := e0
      rw [ec] at e'
      simp only [addC, e', Bool.false_eq_true, if_false, List.any_cons, e0, Bool.false_or, List.map_cons]
      rw [addC_map h'.2]
      split <;> rfl
theorem head_snoc {c : List NodeT} {x : NodeT} (h : c ≠ []) : (c ++ [x]).getD 0 default = c.getD 0 default := by
  cases c with
  | nil => exact absurd rfl h
  | cons y c => rfl
theorem ClsOk.add {lv : Nat} {l : List NodeT} {cs : List (List NodeT)} (h : ClsOk lv l cs) (x : NodeT) : ClsOk lv (l ++ [x]) (addC lv cs x) := by
  rw [addC_map h.dis]
  have hin : ∀ c, inC lv x c = sameP lv (c.getD 0 default) x := fun c => rfl
  by_cases e : cs.any (inC lv x) = true
  · rw [if_pos e]
    have hhd : ∀ c ∈ cs, (if inC lv x c then c ++ [x] else c).getD 0 default = c.getD 0 default := by
      intro c hc
      split
      · exact head_snoc (h.ne c hc)
      · rfl
    refine ⟨fun c hc => ?_, fun c hc => ?_, ?_, fun y hy => ?_⟩
    · obtain ⟨d, hd, rfl⟩ := List.mem_map.1 hc
      split
      · simp
      · exact h.ne d hd
    · obtain ⟨d, hd, rfl⟩ := List.mem_map.1 hc
      rw [hhd d hd, List.filter_append, ← h.eq d hd, hin]
      by_cases e2 : sameP lv (d.getD 0 default) x = true
      · rw [if_pos e2, List.filter_cons, if_pos e2]; rfl
      · rw [if_neg e2, List.filter_cons, if_neg e2]; simp
    · rw [List.pairwise_map]
      refine List.Pairwise.imp_of_mem (fun {c d} hc hd hcd => ?_) h.dis
      rw [hhd c hc, hhd d hd]; exact hcd
    · rcases List.mem_append.1 hy with hy | hy
      · obtain ⟨c, hc, hs⟩ := h.all y hy
        exact ⟨_, List.mem_map.2 ⟨c, hc, rfl⟩, by rw [hhd c hc]; exact hs⟩
      · obtain ⟨c, hc, hs⟩ := List.any_eq_true.1 e
        refine ⟨_, List.mem_map.2 ⟨c, hc, rfl⟩, ?_⟩
        rw [hhd c hc, List.mem_singleton.1 hy]; exact hs
  · rw [if_neg e]
    have hno : ∀ c ∈ cs, sameP lv (c.getD 0 default) x = false := by
      intro c hc
      have := List.any_eq_false.1 (by simpa using e) c hc
      simpa [hin] using this
    refine ⟨fun c hc => ?_, fun c hc => ?_, ?_, fun y hy => ?_⟩
    · rcases List.mem_append.1 hc with hc | hc
      · exact h.ne c hc
      · rw [List.mem_singleton.1 hc]; simp
    · rcases List.mem_append.1 hc with hc | hc
      · rw [List.filter_append, ← h.eq c hc, List.filter_cons, if_neg (by rw [hno c hc]; simp)]; simp
      · rw [List.mem_singleton.1 hc]
        show [x] = (l ++ [x]).filter (sameP lv x)
        have e1 : l.filter (sameP lv x) = [] := by
          rw [List.filter_eq_nil_iff]
          intro y hy hxy
          obtain ⟨c, hc, hs⟩ := h.all y hy
          have h1 := hno c hc
          rw [Bool.eq_false_iff] at h1
          refine h1 ?_
          rw [sameP_iff] at hxy hs ⊢
          omega
        rw [List.filter_append, e1, List.filter_cons, if_pos (by rw [sameP_iff])]; rfl
    · rw [List.pairwise_append]
      refine ⟨h.dis, by simp, fun c hc d hd => ?_⟩
      rw [List.mem_singleton.1 hd]; exact hno c hc
    · rcases List.mem_append.1 hy with hy | hy
      · obtain ⟨c, hc, hs⟩ := h.all y hy
        exact ⟨c, by simp [hc], hs⟩
      · refine ⟨[x], by simp, ?_⟩
        rw [List.mem_singleton.1 hy, sameP_iff]; rfl
theorem cls_ok (lv : Nat) (l : List NodeT) : ClsOk lv l (classesF lv l) := by
  have key : ∀ (m done : List NodeT) (cs : List (List NodeT)), ClsOk lv done cs → ClsOk lv (done ++ m) (m.foldl (addC lv) cs) := by
    intro m
    induction m with
    | nil => intro done cs h; rw [List.append_nil]; exact h
    | cons x m ih =>
      intro done cs h
      have := ih (done ++ [x]) _ (h.add x)
      rw [List.append_assoc] at this
      exact this
  exact key l [] [] ⟨fun c h => by simp at h, fun c h => by simp at h, .nil, fun x h => by simp at h⟩
theorem rk_filter {s : List NodeT} (hn : (s.map (·.id)).Nodup) (p : NodeT → Bool) : RkOk (fun z => rankF s [z]) s.length ((s.filter p).map (·.id)) := by
  have hmem : ∀ j, j < ((s.filter p).map (·.id)).length → ∃ k, k < s.length ∧ ((s.filter p).map (·.id)).getD j default = (s.getD k default).id := by
    intro j hj
    have h1 := getD_mem2 hj
    obtain ⟨x, hx, e⟩ := List.mem_map.1 h1
    obtain ⟨k, hk, rfl⟩ := List.getElem_of_mem (List.mem_filter.1 hx).1
    exact ⟨k, hk, by rw [← e]; simp [List.getD, hk]⟩
  have hnd : ((s.filter p).map (·.id)).Nodup := List.Nodup.sublist (List.Sublist.map _ List.filter_sublist) hn
  refine ⟨fun j hj => ?_, fun i j hi hj e => ?_⟩
  · obtain ⟨k, hk, e⟩ := hmem j hj
    simp only [e, rank_at hn hk]; exact hk
  · obtain ⟨k, hk, e1⟩ := hmem i hi
    obtain ⟨m, hm, e2⟩ := hmem j hj
    simp only [e1, e2, rank_at hn hk, rank_at hn hm] at e
    subst e
    have e3 := e1.trans e2.symm
    simp only [List.getD, List.getElem?_eq_getElem hi, List.getElem?_eq_getElem hj, Option.getD_some] at e3
    exact (List.getElem_inj hnd).1 e3
theorem filter_at {s : List NodeT} {r : Nat} (hr : r < s.length) {P : NodeT → Bool} (h : P (s.getD r default) = true) : s.filter P = (s.take r).filter P ++ s.getD r default :: (s.drop (r + 1)).filter P := by
  conv => lhs; rw [split_at hr]
  rw [List.filter_append, List.filter_cons, if_pos h]
set_option maxHeartbeats 1000000 in
theorem level_run {s : List NodeT} (hr : Rst s) (ha : sortN s = s) {h lv : Nat} (hl : lv < h + 1) {Ls : List (List LinkT)} (hs : ShpL s.length h Ls) (h0 : ∀ r, r < s.length → rdL Ls r lv = ⟨0, 0⟩) :
    ShpL s.length h (linkLevel s Ls lv) ∧ (∀ r lv', lv' ≠ lv → rdL (linkLevel s Ls lv) r lv' = rdL Ls r lv') ∧ (∀ r, r < s.length → rdL (linkLevel s Ls lv) r lv = linkAt s lv r) := by
  have hcl := cls_ok lv s
  unfold linkLevel listsF
  rw [ha]
  have hrk : ∀ c ∈ (classesF lv s).map (fun c => c.map (·.id)), RkOk (fun z => rankF s [z]) s.length c := by
    intro c hc
    obtain ⟨d, hd, rfl⟩ := List.mem_map.1 hc
    rw [hcl.eq d hd]
    exact rk_filter hr.ids _
  obtain ⟨g1, g2, _⟩ := lists_run hl _ Ls hrk hs
  refine ⟨g1, g2, fun r hrl => ?_⟩
  obtain ⟨c, hc, hsc⟩ := hcl.all _ (getD_mem2 hrl)
  have hce : c = s.filter (sameP lv (s.getD r default)) := by
    exact (hcl.eq c hc).trans (List.filter_congr fun y _ => sameP_congr hsc)
  obtain ⟨A, B, hAB⟩ := List.append_of_mem hc
  have hdis := hcl.dis
  rw [hAB] at hdis hrk ⊢
  have hp := List.pairwise_append.1 hdis
  have hp2 := List.pairwise_cons.1 hp.2.1
  have hother : ∀ d, (sameP lv (d.getD 0 default) (s.getD r default) = false) → d = s.filter (sameP lv (d.getD 0 default)) → ∀ j, j < (d.map (·.id)).length → rankF s [(d.map (·.id)).getD j default] ≠ r := by
    intro d hd he j hj e
    have h1 := getD_mem2 hj
    obtain ⟨x, hx, e2⟩ := List.mem_map.1 h1
    rw [he] at hx
    have hx := List.mem_filter.1 hx
    obtain ⟨k, hk, rfl⟩ := List.getElem_of_mem hx.1
    have e3 : s[k] = s.getD k default := by simp [List.getD, hk]
    rw [← e2, e3, rank_at hr.ids hk] at e
    subst e
    rw [← e3, hx.2] at hd
    cases hd
  have hfalse : ∀ d ∈ A ++ B, sameP lv (d.getD 0 default) (s.getD r default) = false := by
    intro d hd
    rw [Bool.eq_false_iff]
    intro h1
    rcases List.mem_append.1 hd with hd | hd
    · have h2 := hp.2.2 d hd c (by simp)
      rw [Bool.eq_false_iff] at h2
      exact h2 (by rw [sameP_iff] at *; omega)
    · have h2 := hp2.1 d hd
      rw [Bool.eq_false_iff] at h2
      exact h2 (by rw [sameP_iff] at *; omega)
  have heq : ∀ d ∈ A ++ B, d = s.filter (sameP lv (d.getD 0 default)) := by
    intro d hd
    refine hcl.eq d ?_
    rw [hAB]
    rcases List.mem_append.1 hd with hd | hd <;> simp [hd]
  rw [List.map_append, List.map_cons, List.foldl_append, List.foldl_cons]
  obtain ⟨a1, a2, a3⟩ := lists_run hl (A.map fun c => c.map (·.id)) Ls (fun d hd => hrk d (by rw [List.map_append]; simp [hd])) hs
  have a4 : rdL ((A.map fun c => c.map (·.id)).foldl (linkList s lv) Ls) r lv = ⟨0, 0⟩ := by
    rw [a3 r (fun d hd => ?_)]
    · exact h0 r hrl
    · obtain ⟨d', hd', rfl⟩ := List.mem_map.1 hd
      exact hother d' (hfalse d' (by simp [hd'])) (heq d' (by simp [hd']))
  generalize (A.map fun c => c.map (·.id)).foldl (linkList s lv) Ls = M at *
  obtain ⟨b1, b2, b3, b4⟩ := list_all (hrk (c.map (·.id)) (by simp)) hl a1
  obtain ⟨c1, c2, c3⟩ := lists_run hl (B.map fun c => c.map (·.id)) (linkList s lv M (c.map (·.id))) (fun d hd => hrk d (by rw [List.map_append, List.map_cons]; simp [hd])) b1
  rw [c3 r (fun d hd => by
    obtain ⟨d', hd', rfl⟩ := List.mem_map.1 hd
    exact hother d' (hfalse d' (by simp [hd'])) (heq d' (by simp [hd'])))]
  have hcs : c.map (·.id) = ((s.take r).filter (sameP lv (s.getD r default))).map (·.id) ++ (s.getD r default).id :: ((s.drop (r + 1)).filter (sameP lv (s.getD r default))).map (·.id) := by
    rw [hce, filter_at hrl (by rw [sameP_iff]), List.map_append, List.map_cons]
  have e0 : (c.map (·.id)).getD ((s.take r).filter (sameP lv (s.getD r default))).length default = (s.getD r default).id := by
    rw [hcs]; simp [List.getD]
  have hlen : (c.map (·.id)).length = ((s.take r).filter (sameP lv (s.getD r default))).length + (((s.drop (r + 1)).filter (sameP lv (s.getD r default))).length + 1) := by
    rw [hcs]; simp
  have key := b4 ((s.take r).filter (sameP lv (s.getD r default))).length (by omega)
  rw [e0, rank_at hr.ids hrl, a4] at key
  rw [key]
  unfold linkAt
  congr 1
  · unfold lastN
    rcases List.eq_nil_or_concat ((s.take r).filter (sameP lv (s.getD r default))) with e | ⟨A', z, e⟩
    · rw [e]; simp
    · rw [if_pos (by rw [e]; simp), hcs, e]
      simp [List.getD, List.getElem?_append]
  · unfold firstN
    cases e : (s.drop (r + 1)).filter (sameP lv (s.getD r default)) with
    | nil => rw [if_neg (by rw [hlen, e]; simp)]; rfl
    | cons b B' =>
      rw [if_pos (by rw [hlen, e]; simp), hcs, e]
      simp [List.getD]
theorem build_run {s : List NodeT} (hr : Rst s) (ha : sortN s = s) {h : Nat} : ∀ k, k ≤ h + 1 → ShpL s.length h ((List.range' 0 k).foldl (linkLevel s) (links0 s.length h)) ∧ ∀ r lv, r < s.length → lv < h + 1 → rdL ((List.range' 0 k).foldl (linkLevel s) (links0 s.length h)) r lv = if lv < k then linkAt s lv r else ⟨0, 0⟩ := by
  intro k
  induction k with
  | zero =>
    intro _
    refine ⟨shp0, fun r lv hrl hl => ?_⟩
    rw [if_neg (by omega)]
    simp [rdL, links0, List.getD, hrl, hl]
  | succ k ih =>
    intro hk
    obtain ⟨h1, h2⟩ := ih (by omega)
    have e : (List.range' 0 (k + 1)).foldl (linkLevel s) (links0 s.length h) = linkLevel s ((List.range' 0 k).foldl (linkLevel s) (links0 s.length h)) k := by
      rw [List.range'_concat, List.foldl_append]
      simp only [List.foldl_cons, List.foldl_nil]
      congr 1; omega
    rw [e]
    generalize (List.range' 0 k).foldl (linkLevel s) (links0 s.length h) = M at *
    obtain ⟨g1, g2, g3⟩ := level_run hr ha (show k < h + 1 by omega) h1 (fun r hrl => by rw [h2 r k hrl (by omega), if_neg (by omega)])
    refine ⟨g1, fun r lv hrl hl => ?_⟩
    by_cases e1 : lv = k
    · subst e1
      rw [g3 r hrl, if_pos (by omega)]
    · rw [g2 r lv e1, h2 r lv hrl hl]
      by_cases e2 : lv < k
      · rw [if_pos e2, if_pos (by omega)]
      · rw [if_neg e2, if_neg (by omega)]
theorem build_get {s : List NodeT} (hr : Rst s) (ha : sortN s = s) {h r : Nat} (hrl : r < s.length) : (buildL s h).getD r default = levelsF s h r := by
  obtain ⟨h1, h2⟩ := build_run hr ha (h := h) (h + 1) (Nat.le_refl _)
  refine List.ext_getElem (by unfold buildL; rw [h1.2 r hrl]; simp [levelsF]) fun lv h3 h4 => ?_
  have hl : lv < h + 1 := by simpa [levelsF] using h4
  have := h2 r lv hrl hl
  rw [if_pos hl] at this
  have e1 : ((buildL s h).getD r default)[lv] = rdL (buildL s h) r lv := by
    unfold rdL
    generalize (buildL s h).getD r default = L at *
    simp [List.getD, h3]
  rw [e1]
  unfold buildL
  rw [this]
  simp [levelsF]
end Go.Sx

namespace Go.Sx
open Go
structure PM (cl : List LkdT) (h : Nat) (s : List NodeT) (lv k : Nat) (S : List (List LinkT) × List (List Int × Int)) : Prop where
  shp : ShpL cl.length h S.1
  lok : LastOk cl S.2
  l1 : ∀ bits : Nat, hasL S.2 [(lv : Int), (bits : Int)] = true → ∃ j, j < k ∧ (s.getD j default).word % 2 ^ lv = bits ∧ (∀ m, j < m → m < k → (s.getD m default).word % 2 ^ lv ≠ bits) ∧ valL S.2 [(lv : Int), (bits : Int)] = (s.getD j default).id
  l2 : ∀ bits : Nat, hasL S.2 [(lv : Int), (bits : Int)] = false → ∀ j, j < k → (s.getD j default).word % 2 ^ lv ≠ bits
  f1 : ∀ i, i < s.length → i < k → (∃ j, j < i ∧ sameP lv (s.getD i default) (s.getD j default) = true) → (rdL S.1 (rankL cl [(s.getD i default).id]) lv).left = lastN (sameP lv (s.getD i default)) (s.take i)
  f2 : ∀ i, i < s.length → ¬ (i < k ∧ ∃ j, j < i ∧ sameP lv (s.getD i default) (s.getD j default) = true) → (rdL S.1 (rankL cl [(s.getD i default).id]) lv).left = (rdL (cl.map (·.levels)) (rankL cl [(s.getD i default).id]) lv).left
  r1 : ∀ i, i < s.length → (∃ j, i < j ∧ j < k ∧ sameP lv (s.getD i default) (s.getD j default) = true) → (rdL S.1 (rankL cl [(s.getD i default).id]) lv).right = firstN (sameP lv (s.getD i default)) (s.drop (i + 1))
  r2 : ∀ i, i < s.length → ¬ (∃ j, i < j ∧ j < k ∧ sameP lv (s.getD i default) (s.getD j default) = true) → (rdL S.1 (rankL cl [(s.getD i default).id]) lv).right = (rdL (cl.map (·.levels)) (rankL cl [(s.getD i default).id]) lv).right
theorem PM.other {cl : List LkdT} {h : Nat} {s : List NodeT} {lv k : Nat} {S : List (List LinkT) × List (List Int × Int)} (H : PM cl h s lv k S) {id : Int} (hid : ∃ x ∈ cl, x.id = id) {p : PlcT} (hp : p.lv ≠ lv) (hp2 : p.lv < h + 1) : PM cl h s lv k (mStep cl id S p) := by
  have hk : ∀ bits : Nat, ([(lv : Int), (bits : Int)] == [(p.lv : Int), (p.bits : Int)]) = false := by
    intro bits
    rw [beq_eq_false_iff_ne]
    intro e
    simp only [List.cons.injEq] at e
    have := e.1
    omega
  have hk2 : ∀ bits : Nat, [(lv : Int), (bits : Int)] ≠ [(p.lv : Int), (p.bits : Int)] := fun bits => by simpa using hk bits
  have hh : ∀ bits : Nat, hasL (mStep cl id S p).2 [(lv : Int), (bits : Int)] = hasL S.2 [(lv : Int), (bits : Int)] := by
    intro bits
    show hasL (_ :: S.2) _ = _
    rw [hasL_cons, hk, Bool.false_or]
  have hv : ∀ bits : Nat, valL (mStep cl id S p).2 [(lv : Int), (bits : Int)] = valL S.2 [(lv : Int), (bits : Int)] := by
    intro bits
    show valL (_ :: S.2) _ = _
    rw [valL_cons, if_neg (hk2 bits)]
  have hrd : ∀ r, rdL (mStep cl id S p).1 r lv = rdL S.1 r lv := by
    intro r
    show rdL (mStepL cl id p S) r lv = _
    unfold mStepL
    split
    · rename_i hq
      have a1 := rankL_lt (H.lok.val hq)
      have a2 := rankL_lt hid
      rw [rd_lf (H.shp.setRt a1) a2 hp2, if_neg (fun e => hp e.2.symm), rd_rt H.shp a1 hp2, if_neg (fun e => hp e.2.symm)]
    · rfl
  exact ⟨mStep_shp H.shp H.lok hid, H.lok.cons hid, fun b hb => by rw [hh] at hb; rw [hv]; exact H.l1 b hb, fun b hb => by rw [hh] at hb; exact H.l2 b hb,
    fun i hi h1 h2 => by rw [hrd]; exact H.f1 i hi h1 h2, fun i hi h1 => by rw [hrd]; exact H.f2 i hi h1, fun i hi h1 => by rw [hrd]; exact H.r1 i hi h1, fun i hi h1 => by rw [hrd]; exact H.r2 i hi h1⟩
theorem PM.here {cl : List LkdT} {h : Nat} {s : List NodeT} {lv k : Nat} {S : List (List LinkT) × List (List Int × Int)} (H : PM cl h s lv k S) (hk : k < s.length) (hlv : lv < h + 1) (hid : ∀ i, i < s.length → ∃ x ∈ cl, x.id = (s.getD i default).id)
    (hin : ∀ i j, i < s.length → j < s.length → (s.getD i default).id = (s.getD j default).id → i = j) {p : PlcT} (hp : p = ⟨lv, (s.getD k default).word % 2 ^ lv⟩) : PM cl h s lv (k + 1) (mStep cl (s.getD k default).id S p) := by
  subst hp
  have hrk : ∀ i j, i < s.length → j < s.length → rankL cl [(s.getD i default).id] = rankL cl [(s.getD j default).id] → i = j := by
    intro i j hi hj e
    refine hin i j hi hj ?_
    rw [← rankL_get (hid i hi), ← rankL_get (hid j hj), e]
  have hsame : ∀ j, sameP lv (s.getD k default) (s.getD j default) = true ↔ (s.getD j default).word % 2 ^ lv = (s.getD k default).word % 2 ^ lv := fun j => by rw [sameP_iff]; exact eq_comm
  have hsh := mStep_shp (p := ⟨lv, (s.getD k default).word % 2 ^ lv⟩) H.shp H.lok (hid k hk)
  have hlo := H.lok.cons (q := [(lv : Int), (((s.getD k default).word % 2 ^ lv : Nat) : Int)]) (hid k hk)
  have hkb : ∀ b : Nat, b ≠ (s.getD k default).word % 2 ^ lv → [(lv : Int), (b : Int)] ≠ [(lv : Int), (((s.getD k default).word % 2 ^ lv : Nat) : Int)] := by
    intro b hb e
    simp only [List.cons.injEq, and_true, true_and] at e
    omega
  have hl1 : ∀ bits : Nat, hasL (mStep cl (s.getD k default).id S ⟨lv, (s.getD k default).word % 2 ^ lv⟩).2 [(lv : Int), (bits : Int)] = true → ∃ j, j < k + 1 ∧ (s.getD j default).word % 2 ^ lv = bits ∧ (∀ m, j < m → m < k + 1 → (s.getD m default).word % 2 ^ lv ≠ bits) ∧ valL (mStep cl (s.getD k default).id S ⟨lv, (s.getD k default).word % 2 ^ lv⟩).2 [(lv : Int), (bits : Int)] = (s.getD j default).id := by
    intro b hb
    show ∃ j, j < k + 1 ∧ _ ∧ _ ∧ valL (_ :: S.2) _ = _
    rw [valL_cons]
    by_cases e : b = (s.getD k default).word % 2 ^ lv
    · subst e
      rw [if_pos rfl]
      exact ⟨k, by omega, rfl, fun m h1 h2 => by omega, rfl⟩
    · rw [if_neg (hkb b e)]
      have hb' : hasL (_ :: S.2) [(lv : Int), (b : Int)] = true := hb
      rw [hasL_cons, beq_eq_false_iff_ne.2 (hkb b e), Bool.false_or] at hb'
      obtain ⟨j, h1, h2, h3, h4⟩ := H.l1 b hb'
      refine ⟨j, by omega, h2, fun m m1 m2 => ?_, h4⟩
      rcases Nat.lt_or_ge m k with h5 | h5
      · exact h3 m m1 h5
      · have : m = k := by omega
        subst this; exact Ne.symm e
  have hl2 : ∀ bits : Nat, hasL (mStep cl (s.getD k default).id S ⟨lv, (s.getD k default).word % 2 ^ lv⟩).2 [(lv : Int), (bits : Int)] = false → ∀ j, j < k + 1 → (s.getD j default).word % 2 ^ lv ≠ bits := by
    intro b hb j hj
    have hb' : hasL (_ :: S.2) [(lv : Int), (b : Int)] = false := hb
    rw [hasL_cons, Bool.or_eq_false_iff] at hb'
    have hne : b ≠ (s.getD k default).word % 2 ^ lv := by
      rintro rfl
      have := hb'.1
      simp at this
    rcases Nat.lt_or_ge j k with h5 | h5
    · exact H.l2 b hb'.2 j h5
    · have : j = k := by omega
      subst this; exact Ne.symm hne
  cases hq : hasL S.2 [(lv : Int), (((s.getD k default).word % 2 ^ lv : Nat) : Int)] with
  | false =>
    have hno := H.l2 _ hq
    have e1 : (mStep cl (s.getD k default).id S ⟨lv, (s.getD k default).word % 2 ^ lv⟩).1 = S.1 := by
      show mStepL _ _ _ _ = _
      unfold mStepL
      simp only
      rw [if_neg (by rw [hq]; simp)]
    have hnk : ∀ j, j < k → ¬ sameP lv (s.getD k default) (s.getD j default) = true := fun j hj e => hno j hj ((hsame j).1 e)
    refine ⟨hsh, hlo, hl1, hl2, fun i hi h1 h2 => ?_, fun i hi h1 => ?_, fun i hi h1 => ?_, fun i hi h1 => ?_⟩
    · rw [e1]
      obtain ⟨j, h3, h4⟩ := h2
      rcases Nat.lt_or_ge i k with h5 | h5
      · exact H.f1 i hi h5 ⟨j, h3, h4⟩
      · have : i = k := by omega
        subst this
        exact absurd h4 (hnk j h3)
    · rw [e1]
      exact H.f2 i hi (fun e => h1 ⟨by omega, e.2⟩)
    · rw [e1]
      obtain ⟨j, h2, h3, h4⟩ := h1
      rcases Nat.lt_or_ge j k with h5 | h5
      · exact H.r1 i hi ⟨j, h2, h5, h4⟩
      · have : j = k := by omega
        subst this
        refine absurd ?_ (hnk i h2)
        rw [sameP_iff] at h4 ⊢; exact h4.symm
    · rw [e1]
      exact H.r2 i hi (fun ⟨j, h2, h3, h4⟩ => h1 ⟨j, h2, by omega, h4⟩)
  | true =>
    obtain ⟨j0, g1, g2, g3, g4⟩ := H.l1 _ hq
    have hj0 : j0 < s.length := by omega
    have a1 := rankL_lt (hid j0 hj0)
    have a2 := rankL_lt (hid k hk)
    have hrd : ∀ r, rdL (mStep cl (s.getD k default).id S ⟨lv, (s.getD k default).word % 2 ^ lv⟩).1 r lv = if r = rankL cl [(s.getD k default).id] then ⟨(s.getD j0 default).id, (rdL (setRt S.1 (rankL cl [(s.getD j0 default).id]) lv (s.getD k default).id) r lv).right⟩ else rdL (setRt S.1 (rankL cl [(s.getD j0 default).id]) lv (s.getD k default).id) r lv := by
      intro r
      show rdL (mStepL _ _ _ _) r lv = _
      unfold mStepL
      simp only
      rw [if_pos hq, g4, rd_lf (H.shp.setRt a1) a2 hlv]
      by_cases e : r = rankL cl [(s.getD k default).id]
      · rw [if_pos ⟨e, rfl⟩, if_pos e]
      · rw [if_neg (fun h => e h.1), if_neg e]
    have hrd2 : ∀ r, rdL (setRt S.1 (rankL cl [(s.getD j0 default).id]) lv (s.getD k default).id) r lv = if r = rankL cl [(s.getD j0 default).id] then ⟨(rdL S.1 r lv).left, (s.getD k default).id⟩ else rdL S.1 r lv := by
      intro r
      rw [rd_rt H.shp a1 hlv]
      by_cases e : r = rankL cl [(s.getD j0 default).id]
      · rw [if_pos ⟨e, rfl⟩, if_pos e]
      · rw [if_neg (fun h => e h.1), if_neg e]
    have hleft : ∀ i, i < s.length → i ≠ k → (rdL (mStep cl (s.getD k default).id S ⟨lv, (s.getD k default).word % 2 ^ lv⟩).1 (rankL cl [(s.getD i default).id]) lv).left = (rdL S.1 (rankL cl [(s.getD i default).id]) lv).left := by
      intro i hi hne
      rw [hrd, if_neg (fun e => hne (hrk i k hi hk e)), hrd2]
      split <;> rfl
    have hright : ∀ i, i < s.length → i ≠ j0 → (rdL (mStep cl (s.getD k default).id S ⟨lv, (s.getD k default).word % 2 ^ lv⟩).1 (rankL cl [(s.getD i default).id]) lv).right = (rdL S.1 (rankL cl [(s.getD i default).id]) lv).right := by
      intro i hi hne
      rw [hrd, hrd2, if_neg (fun e => hne (hrk i j0 hi hj0 e))]
      split <;> rfl
    have hs0 : sameP lv (s.getD k default) (s.getD j0 default) = true := (hsame j0).2 g2
    have hb0 : ∀ m, j0 < m → m < k → sameP lv (s.getD k default) (s.getD m default) = false := by
      intro m m1 m2
      rw [Bool.eq_false_iff]
      exact fun e => g3 m m1 m2 ((hsame m).1 e)
    refine ⟨hsh, hlo, hl1, hl2, fun i hi h1 h2 => ?_, fun i hi h1 => ?_, fun i hi h1 => ?_, fun i hi h1 => ?_⟩
    · by_cases e : i = k
      · subst e
        rw [hrd, if_pos rfl]
        exact (last_eq g1 hj0 hs0 hb0).symm
      · rw [hleft i hi e]
        exact H.f1 i hi (by omega) h2
    · have e : i ≠ k := by
        rintro rfl
        exact h1 ⟨by omega, j0, g1, hs0⟩
      rw [hleft i hi e]
      exact H.f2 i hi (fun h => h1 ⟨by omega, h.2⟩)
    · by_cases e : i = j0
      · subst e
        have hne : rankL cl [(s.getD i default).id] ≠ rankL cl [(s.getD k default).id] := fun e => by have := hrk i k hi hk e; omega
        rw [hrd, if_neg hne, hrd2, if_pos rfl]
        refine (first_eq (by omega) hk (by rw [sameP_iff] at hs0 ⊢; exact hs0.symm) fun m m1 m2 => ?_).symm
        rw [← sameP_congr hs0]
        exact hb0 m (by omega) m2
      · rw [hright i hi e]
        obtain ⟨j, h2, h3, h4⟩ := h1
        rcases Nat.lt_or_ge j k with h5 | h5
        · exact H.r1 i hi ⟨j, h2, h5, h4⟩
        · have : j = k := by omega
          subst this
          have hik : sameP lv (s.getD j default) (s.getD i default) = true := by rw [sameP_iff] at h4 ⊢; exact h4.symm
          rcases Nat.lt_trichotomy i j0 with h6 | h6 | h6
          · refine H.r1 i hi ⟨j0, h6, g1, ?_⟩
            rw [← sameP_congr hik]; exact hs0
          · exact absurd h6 e
          · rw [hb0 i h6 h2] at hik; cases hik
    · have e : i ≠ j0 := by
        rintro rfl
        exact h1 ⟨k, g1, by omega, by rw [sameP_iff] at hs0 ⊢; exact hs0.symm⟩
      rw [hright i hi e]
      exact H.r2 i hi (fun ⟨j, h2, h3, h4⟩ => h1 ⟨j, h2, by omega, h4⟩)
theorem PM.node {cl : List LkdT} {h : Nat} {s : List NodeT} {lv k : Nat} {S : List (List LinkT) × List (List Int × Int)} (H : PM cl h s lv k S) (hk : k < s.length) (hlv : lv < h + 1) (hid : ∀ i, i < s.length → ∃ x ∈ cl, x.id = (s.getD i default).id)
    (hin : ∀ i j, i < s.length → j < s.length → (s.getD i default).id = (s.getD j default).id → i = j) : PM cl h s lv (k + 1) (mNode cl h S (s.getD k default)) := by
  have key : ∀ m, m ≤ h + 1 → PM cl h s lv (if lv < m then k + 1 else k) (((List.range m).map fun l => (⟨l, (s.getD k default).word % 2 ^ l⟩ : PlcT)).foldl (mStep cl (s.getD k default).id) S) := by
    intro m
    induction m with
    | zero => intro _; rw [if_neg (by omega)]; exact H
    | succ m ih =>
      intro hm
      have hm' := ih (by omega)
      rw [List.range_succ, List.map_append, List.foldl_append]
      simp only [List.map_cons, List.map_nil, List.foldl_cons, List.foldl_nil]
      by_cases e : lv = m
      · subst e
        rw [if_neg (by omega)] at hm'
        rw [if_pos (by omega)]
        exact hm'.here hk hlv hid hin rfl
      · have e2 : (if lv < m + 1 then k + 1 else k) = (if lv < m then k + 1 else k) := by
          by_cases e3 : lv < m
          · rw [if_pos e3, if_pos (by omega)]
          · rw [if_neg e3, if_neg (by omega)]
        rw [e2]
        exact hm'.other (hid k hk) (Ne.symm e) (by show m < h + 1; omega)
  have := key (h + 1) (Nat.le_refl _)
  rw [if_pos hlv] at this
  exact this
theorem PM.all {cl : List LkdT} {h : Nat} {s : List NodeT} {lv : Nat} (hlv : lv < h + 1) (hid : ∀ i, i < s.length → ∃ x ∈ cl, x.id = (s.getD i default).id)
    (hin : ∀ i j, i < s.length → j < s.length → (s.getD i default).id = (s.getD j default).id → i = j) (hsh : ShpL cl.length h (cl.map (·.levels))) : PM cl h s lv s.length (mAll cl h s) := by
  have key : ∀ k, k ≤ s.length → PM cl h s lv k ((s.take k).foldl (mNode cl h) (cl.map (·.levels), [])) := by
    intro k
    induction k with
    | zero =>
      intro _
      exact ⟨hsh, fun y hy => by simp at hy, fun b hb => by simp [hasL] at hb, fun b hb j hj => by omega, fun i hi h1 => by omega, fun i hi _ => rfl, fun i hi ⟨j, h1, h2, _⟩ => by omega, fun i hi _ => rfl⟩
    | succ k ih =>
      intro hk
      have e : s.take (k + 1) = s.take k ++ [s.getD k default] := by
        rw [List.take_add_one]; simp [List.getD, List.getElem?_eq_getElem (show k < s.length by omega)]
      rw [e, List.foldl_append]
      exact (ih (by omega)).node (by omega) hlv hid hin
  have := key s.length (Nat.le_refl _)
  rw [List.take_length] at this
  exact this
theorem klt_idx {s : List NodeT} (ha : Asc s) {i j : Nat} (hi : i < s.length) (hj : j < s.length) (h : klt (s.getD i default) (s.getD j default)) : i < j := by
  have ei : s.getD i default = s[i] := by simp [List.getD, hi]
  have ej : s.getD j default = s[j] := by simp [List.getD, hj]
  have hp := List.pairwise_iff_getElem.1 ha
  rcases Nat.lt_trichotomy i j with h1 | h1 | h1
  · exact h1
  · subst h1
    unfold klt at h; rw [bl_irrefl] at h; cases h
  · have h2 := hp j i hj hi h1
    rw [← ei, ← ej] at h2
    have := bl_trans h h2
    rw [bl_irrefl] at this; cases this
theorem asc_lt {s : List NodeT} (ha : Asc s) {i j : Nat} (h : i < j) (hj : j < s.length) : klt (s.getD i default) (s.getD j default) := by
  have ei : s.getD i default = s[i]'(by omega) := by simp [List.getD, show i < s.length by omega]
  have ej : s.getD j default = s[j] := by simp [List.getD, hj]
  rw [ei, ej]
  exact List.pairwise_iff_getElem.1 ha i j (by omega) hj h
theorem part_none {p : List NodeT} {s : List NodeT} (hs : Asc s) (hp : Asc p) (hsub : ∀ x ∈ p, x ∈ s) {i k lv : Nat} (hi : i < s.length) (hk : k < p.length) (he : p.getD k default = s.getD i default) :
    ((¬ ∃ j, j < i ∧ sameP lv (s.getD i default) (s.getD j default) = true) → (linkAt p lv k).left = 0) ∧ ((¬ ∃ j, i < j ∧ j < s.length ∧ sameP lv (s.getD i default) (s.getD j default) = true) → (linkAt p lv k).right = 0) := by
  have hidx : ∀ j, j < p.length → ∃ m, m < s.length ∧ p.getD j default = s.getD m default := by
    intro j hj
    obtain ⟨m, hm, e⟩ := List.getElem_of_mem (hsub _ (getD_mem2 hj))
    exact ⟨m, hm, by rw [← e]; simp [List.getD, hm]⟩
  constructor
  · intro hno
    show lastN _ _ = 0
    rcases last_cases (sameP lv (p.getD k default)) p k (by omega) with ⟨_, h⟩ | ⟨j, h1, h2, _, _⟩
    · exact h
    · exfalso
      obtain ⟨m, hm, em⟩ := hidx j (by omega)
      have := asc_lt hp h1 hk
      rw [em, he] at this
      rw [em, he] at h2
      exact hno ⟨m, klt_idx hs hm hi this, h2⟩
  · intro hno
    show firstN _ _ = 0
    rcases first_cases (sameP lv (p.getD k default)) p (k + 1) with ⟨_, h⟩ | ⟨j, h0, h1, h2, _, _⟩
    · exact h
    · exfalso
      obtain ⟨m, hm, em⟩ := hidx j h1
      have := asc_lt hp (show k < j by omega) h1
      rw [em, he] at this
      rw [em, he] at h2
      exact hno ⟨m, klt_idx hs hi hm this, hm, h2⟩
theorem ideal_mem {p : List NodeT} {h : Nat} {x : LkdT} (hx : x ∈ idealF p h) : ∃ k, k < p.length ∧ x = ⟨(p.getD k default).id, levelsF p h k⟩ := by
  unfold idealF at hx
  obtain ⟨k, hk, rfl⟩ := List.mem_map.1 hx
  exact ⟨k, List.mem_range.1 hk, rfl⟩
theorem ideal_of {p : List NodeT} {h : Nat} {y : NodeT} (hy : y ∈ p) : ∃ x ∈ idealF p h, x.id = y.id := by
  obtain ⟨k, hk, rfl⟩ := List.getElem_of_mem hy
  exact ⟨_, List.mem_map.2 ⟨k, List.mem_range.2 hk, rfl⟩, by simp [List.getD, hk]⟩
theorem ideal_len {p : List NodeT} {h : Nat} : (idealF p h).length = p.length := by rw [idealF, List.length_map, List.length_range]
theorem levels_get {p : List NodeT} {h k lv : Nat} (hl : lv < h + 1) : (levelsF p h k).getD lv default = linkAt p lv k := by simp [levelsF, List.getD, hl]
theorem merged_ideal {a b : List NodeT} (hr : Rst (a ++ b)) {h : Nat} : mergedF (idealF (sortN a) h ++ idealF (sortN b) h) h (sortN (a ++ b)) = idealF (sortN (a ++ b)) h := by
  have hs := hr.asc
  have hra : Asc (sortN a) := sortN_asc (by have := hr.keys; rw [List.map_append] at this; exact (List.nodup_append.1 this).1)
  have hrb : Asc (sortN b) := sortN_asc (by have := hr.keys; rw [List.map_append] at this; exact (List.nodup_append.1 this).2.1)
  have hsub1 : ∀ x ∈ sortN a, x ∈ sortN (a ++ b) := fun x hx => sortN_mem.2 (List.mem_append.2 (.inl (sortN_mem.1 hx)))
  have hsub2 : ∀ x ∈ sortN b, x ∈ sortN (a ++ b) := fun x hx => sortN_mem.2 (List.mem_append.2 (.inr (sortN_mem.1 hx)))
  have hid : ∀ i, i < (sortN (a ++ b)).length → ∃ x ∈ idealF (sortN a) h ++ idealF (sortN b) h, x.id = ((sortN (a ++ b)).getD i default).id := by
    intro i hi
    rcases List.mem_append.1 (sortN_mem.1 (getD_mem2 hi)) with hm | hm
    · obtain ⟨x, hx, e⟩ := ideal_of (h := h) (sortN_mem.2 hm)
      exact ⟨x, List.mem_append.2 (.inl hx), e⟩
    · obtain ⟨x, hx, e⟩ := ideal_of (h := h) (sortN_mem.2 hm)
      exact ⟨x, List.mem_append.2 (.inr hx), e⟩
  have hin : ∀ i j, i < (sortN (a ++ b)).length → j < (sortN (a ++ b)).length → ((sortN (a ++ b)).getD i default).id = ((sortN (a ++ b)).getD j default).id → i = j := fun i j hi hj e => sid_inj hr (by rw [sortN_len] at hi; exact hi) (by rw [sortN_len] at hj; exact hj) e
  have huq : ∀ x y, x ∈ sortN (a ++ b) → y ∈ sortN (a ++ b) → x.id = y.id → x = y := by
    intro x y hx hy e
    have h1 := find_of hr.sort.ids hx
    have h2 := find_of hr.sort.ids hy
    rw [e, h2] at h1
    exact (Option.some.inj h1).symm
  generalize hcl : idealF (sortN a) h ++ idealF (sortN b) h = cl at *
  have hlen : ∀ x ∈ cl, x.levels.length = h + 1 := by
    intro x hx
    rw [← hcl] at hx
    rcases List.mem_append.1 hx with hx | hx <;> (obtain ⟨k, _, rfl⟩ := ideal_mem hx; simp [levelsF])
  have hsh : ShpL cl.length h (cl.map (·.levels)) := ⟨by simp, fun r hr => by rw [map_getD hr]; exact hlen _ (getD_mem2 hr)⟩
  have horig : ∀ i lv, i < (sortN (a ++ b)).length → lv < h + 1 → ∃ p k, Asc p ∧ (∀ x ∈ p, x ∈ sortN (a ++ b)) ∧ k < p.length ∧ p.getD k default = (sortN (a ++ b)).getD i default ∧ rdL (cl.map (·.levels)) (rankL cl [((sortN (a ++ b)).getD i default).id]) lv = linkAt p lv k := by
    intro i lv hi hl
    have h1 := rankL_lt (hid i hi)
    have h2 := rankL_get (hid i hi)
    unfold rdL
    rw [map_getD h1]
    have h3 := getD_mem2 h1
    generalize cl.getD (rankL cl [((sortN (a ++ b)).getD i default).id]) default = e at *
    rw [← hcl] at h3
    rcases List.mem_append.1 h3 with h3 | h3
    · obtain ⟨k, hk, rfl⟩ := ideal_mem h3
      exact ⟨sortN a, k, hra, hsub1, hk, huq _ _ (hsub1 _ (getD_mem2 hk)) (getD_mem2 hi) h2, levels_get hl⟩
    · obtain ⟨k, hk, rfl⟩ := ideal_mem h3
      exact ⟨sortN b, k, hrb, hsub2, hk, huq _ _ (hsub2 _ (getD_mem2 hk)) (getD_mem2 hi) h2, levels_get hl⟩
  unfold mergedF idealF
  refine List.map_congr_left fun i hi => ?_
  have hi : i < (sortN (a ++ b)).length := List.mem_range.1 hi
  have hsa : ShpL cl.length h (mAll cl h (sortN (a ++ b))).1 := (PM.all (lv := 0) (by omega) hid hin hsh).shp
  congr 1
  have hrl := rankL_lt (hid i hi)
  have hl2 := hsa.2 _ hrl
  refine List.ext_getElem (by rw [hl2]; simp [levelsF]) fun lv h3 h4 => ?_
  have hl : lv < h + 1 := by rw [hl2] at h3; exact h3
  have H := PM.all hl hid hin hsh
  have e1 : ((mAll cl h (sortN (a ++ b))).1.getD (rankL cl [((sortN (a ++ b)).getD i default).id]) default)[lv] = rdL (mAll cl h (sortN (a ++ b))).1 (rankL cl [((sortN (a ++ b)).getD i default).id]) lv := by
    unfold rdL
    generalize (mAll cl h (sortN (a ++ b))).1.getD (rankL cl [((sortN (a ++ b)).getD i default).id]) default = L at *
    simp [List.getD, h3]
  have e2 : (levelsF (sortN (a ++ b)) h i)[lv] = linkAt (sortN (a ++ b)) lv i := by simp [levelsF]
  rw [e1, e2]
  obtain ⟨p, k, p1, p2, p3, p4, p5⟩ := horig i lv hi hl
  obtain ⟨n1, n2⟩ := part_none (lv := lv) hs p1 p2 hi p3 p4
  generalize hR : rdL (mAll cl h (sortN (a ++ b))).1 (rankL cl [((sortN (a ++ b)).getD i default).id]) lv = R
  have hf1 := H.f1 i hi hi
  have hf2 := H.f2 i hi
  have hr1 := H.r1 i hi
  have hr2 := H.r2 i hi
  rw [hR] at hf1 hf2 hr1 hr2
  rw [p5] at hf2 hr2
  obtain ⟨rl, rr⟩ := R
  refine lk_ext ?_ ?_
  · by_cases e : ∃ j, j < i ∧ sameP lv ((sortN (a ++ b)).getD i default) ((sortN (a ++ b)).getD j default) = true
    · exact hf1 e
    · have h5 := hf2 (fun h => e h.2)
      rw [n1 e] at h5
      refine h5.trans (last_none fun q hq => ?_).symm
      rw [Bool.eq_false_iff]
      exact fun h => e ⟨q, hq, h⟩
  · by_cases e : ∃ j, i < j ∧ j < (sortN (a ++ b)).length ∧ sameP lv ((sortN (a ++ b)).getD i default) ((sortN (a ++ b)).getD j default) = true
    · exact hr1 e
    · have h5 := hr2 e
      rw [n2 e] at h5
      refine h5.trans (first_none fun q hq hq2 => ?_).symm
      rw [Bool.eq_false_iff]
      exact fun h => e ⟨q, by omega, hq2, h⟩
end Go.Sx
