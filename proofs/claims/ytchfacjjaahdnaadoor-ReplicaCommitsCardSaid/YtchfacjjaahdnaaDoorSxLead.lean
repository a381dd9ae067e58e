/- Part of a symbolic executor over the model, proved sound, with plain laws: SxLead. Written for these claims. -/
import Derived.Test.YtchfacjjaahdnaaDoorSxTabC
namespace Go.Sx
open Go
set_option linter.unusedVariables false
set_option linter.unusedSimpArgs false

/-! Diff leads from a table to another one -/
theorem find_ins {x : Row} {q : List UInt8} (hq : (x.1 == q) = false) : ∀ {l : List Row}, (insF x l).find? (fun r => r.1 == q) = l.find? (fun r => r.1 == q)
  | [] => by simp [insF, hq]
  | r :: l => by
    simp only [insF]
    split
    · simp only [List.find?_cons, hq]
    · simp only [List.find?_cons]
      rw [find_ins hq]
theorem find_ins_self {x : Row} : ∀ {l : List Row}, (∀ r ∈ l, r.1 ≠ x.1) → (insF x l).find? (fun r => r.1 == x.1) = some x
  | [], _ => by simp [insF]
  | r :: l, h => by
    simp only [insF]
    split
    · simp
    · have : (r.1 == x.1) = false := by simpa using h r (by simp)
      rw [List.find?_cons, this]
      exact find_ins_self (fun s hs => h s (by simp [hs]))
theorem find_without {k q : List UInt8} (hq : ¬ q = k) : ∀ {l : List Row}, (withoutF l k).find? (fun r => r.1 == q) = l.find? (fun r => r.1 == q)
  | [] => rfl
  | r :: l => by
    have ih := find_without hq (l := l)
    simp only [withoutF] at ih ⊢
    by_cases hr : r.1 = k
    · have : (r.1 == q) = false := by
        simp only [beq_eq_false_iff_ne, ne_eq]
        intro e; exact hq (e.symm.trans hr)
      rw [List.filter_cons, if_neg (by simp [hr]), ih, List.find?_cons, this]
    · rw [List.filter_cons, if_pos (by simp [hr]), List.find?_cons, List.find?_cons, ih]
theorem get_with {r : List Row} {k v q : List UInt8} : getF (withF r (k, v)) q = if q = k then (v, true) else getF r q := by
  by_cases h : q = k
  · subst h
    have := find_ins_self (x := (q, v)) (l := withoutF r q) (fun r hr => (without_ne hr).2)
    simp only [getF, withF, this, if_true]
  · have hk : (k == q) = false := by simpa using fun e : k = q => h e.symm
    simp only [getF, withF, find_ins (x := (k, v)) hk, find_without h, if_neg h]
theorem get_without {r : List Row} {k q : List UInt8} : getF (withoutF r k) q = if q = k then ([], false) else getF r q := by
  by_cases h : q = k
  · subst h
    have : (withoutF r q).find? (fun r => r.1 == q) = none := by
      rw [List.find?_eq_none]
      intro s hs
      simpa using (without_ne hs).2
    simp only [getF, this, if_true]
  · simp only [getF, find_without h, if_neg h]
theorem get_memT {rows : List Row} (hs : Sorted rows) {q : Row} (hq : q ∈ rows) : getF rows q.1 = (q.2, true) := by
  induction rows with
  | nil => cases hq
  | cons r l ih =>
    have hs' := List.pairwise_cons.1 hs
    unfold getF at ih ⊢
    rw [List.find?_cons]
    rcases List.mem_cons.1 hq with rfl | hq
    · simp
    · have hne : (r.1 == q.1) = false := by
        simp only [beq_eq_false_iff_ne, ne_eq]
        exact bl_ne (hs'.1 q hq)
      rw [hne]
      exact ih hs'.2 hq
theorem get_true {rows : List Row} {k : List UInt8} (h : (getF rows k).2 = true) : ∃ r ∈ rows, r.1 = k ∧ getF rows k = (r.2, true) := by
  unfold getF at h ⊢
  split at h
  · rename_i r hr
    exact ⟨r, List.mem_of_find?_eq_some hr, by simpa using List.find?_some hr, by simp⟩
  · cases h
theorem get_false {rows : List Row} {k : List UInt8} (h : (getF rows k).2 = false) : getF rows k = ([], false) := by
  unfold getF at h ⊢
  split at h
  · cases h
  · rfl
theorem get_key {rows : List Row} {r : Row} (h : r ∈ rows) : (getF rows r.1).2 = true := by
  unfold getF
  split
  · rfl
  · rename_i hn
    rw [List.find?_eq_none] at hn
    exact absurd (hn r h) (by simp)
theorem nodup_len {α : Type} [DecidableEq α] : ∀ {l m : List α}, l.Nodup → (∀ x ∈ l, x ∈ m) → l.length ≤ m.length
  | [], _, _, _ => Nat.zero_le _
  | x :: l, m, h, hm => by
    have h' := List.nodup_cons.1 h
    have hx := hm x (by simp)
    have := nodup_len (l := l) (m := m.erase x) h'.2 (fun y hy => (List.mem_erase_of_ne (by rintro rfl; exact h'.1 hy)).2 (hm y (by simp [hy])))
    have e := List.length_erase_of_mem hx
    have hp : 0 < m.length := List.length_pos_of_mem hx
    simp only [List.length_cons]
    omega
theorem sorted_keys {rows : List Row} (h : Sorted rows) : (rows.map (·.1)).Nodup := by
  rw [List.Nodup, List.pairwise_map]
  exact h.imp (fun h => bl_ne h)
theorem sub_len {a b : List Row} (ha : Sorted a) (h : ∀ q, (getF a q).2 = true → (getF b q).2 = true) : a.length ≤ b.length := by
  have := nodup_len (l := a.map (·.1)) (m := b.map (·.1)) (sorted_keys ha) (fun x hx => by
    obtain ⟨r, hr, rfl⟩ := List.mem_map.1 hx
    obtain ⟨s, hs, e, _⟩ := get_true (h r.1 (get_key hr))
    exact List.mem_map.2 ⟨s, hs, e⟩)
  simpa using this
theorem sorted_ext : ∀ {a b : List Row}, Sorted a → Sorted b → (∀ q, getF a q = getF b q) → a = b
  | [], [], _, _, _ => rfl
  | [], r :: b, _, hb, h => by
    have := h r.1
    rw [get_memT hb (q := r) (by simp)] at this
    simp [getF] at this
  | r :: a, [], ha, _, h => by
    have := h r.1
    rw [get_memT ha (q := r) (by simp)] at this
    simp [getF] at this
  | r :: a, s :: b, ha, hb, h => by
    have ha' := List.pairwise_cons.1 ha
    have hb' := List.pairwise_cons.1 hb
    have h1 := h r.1
    rw [get_memT ha (q := r) (by simp)] at h1
    have h2 := h s.1
    rw [get_memT hb (q := s) (by simp)] at h2
    have hk : r.1 = s.1 := by
      obtain ⟨x, hx, ex, _⟩ := get_true (by rw [← h1] : (getF (s :: b) r.1).2 = true)
      obtain ⟨y, hy, ey, _⟩ := get_true (by rw [h2] : (getF (r :: a) s.1).2 = true)
      rcases List.mem_cons.1 hx with rfl | hx
      · exact ex.symm
      · rcases List.mem_cons.1 hy with rfl | hy
        · exact ey
        · have g1 := hb'.1 x hx
          have g2 := ha'.1 y hy
          rw [ex] at g1
          rw [ey] at g2
          have := bl_trans g1 g2
          rw [bl_irrefl] at this
          cases this
    have hv : r.2 = s.2 := by
      rw [hk, get_memT hb (q := s) (by simp)] at h1
      simpa using h1
    have hrs : r = s := Prod.ext hk hv
    subst hrs
    congr 1
    refine sorted_ext ha'.2 hb'.2 (fun q => ?_)
    have := h q
    by_cases hq : (r.1 == q) = true
    · have hq' : r.1 = q := by simpa using hq
      subst hq'
      have e1 : a.find? (fun x => x.1 == r.1) = none := by
        rw [List.find?_eq_none]
        intro x hx e
        have e : x.1 = r.1 := by simpa using e
        have := ha'.1 x hx
        rw [e, bl_irrefl] at this
        cases this
      have e2 : b.find? (fun x => x.1 == r.1) = none := by
        rw [List.find?_eq_none]
        intro x hx e
        have e : x.1 = r.1 := by simpa using e
        have := hb'.1 x hx
        rw [e, bl_irrefl] at this
        cases this
      simp only [getF, e1, e2]
    · have hq : (r.1 == q) = false := by simpa using hq
      simpa only [getF, List.find?_cons, hq] using this
end Go.Sx
