/- Part of a symbolic executor over the model, proved sound, with plain laws: SxTop. Written for these claims. -/
import Derived.Test.YtiadnhbclipmhaaGreatDoorSxTab
import Derived.Test.YtiadnhbclipmhaaGreatDoorSxRen
import Derived.Shelf.GgSortFunc.InsertionK
import Derived.Sort.AssemblyPlain
import Derived.Shelf.GgSortMore.Stable
import Derived.Shelf.GgSortFunc.SmallK
set_option linter.unusedVariables false
set_option linter.unusedSimpArgs false
namespace Go.Sx
open Go
structure NodeT where
  id : Int
  key : List UInt8
  word : Nat
deriving DecidableEq
instance : Inhabited NodeT := ⟨⟨0, [], 0⟩⟩
def encN (x : NodeT) : List D := [.int .i64 x.id, .str x.key, .int .u32 (x.word : Int)]
abbrev nodeS (x : NodeT) : SV := .agg [.d (.int .i64 x.id), .d (.str x.key), .d (.int .u32 (x.word : Int))]
def okN (x : NodeT) : Bool := decide (1 ≤ x.id) && (decide (x.id ≤ 2147483647) && (decide (x.key.length ≤ 64) && decide (x.word ≤ 65535)))
def clash (x y : NodeT) : Bool := (y.id == x.id) || (y.key == x.key)
def dups : List NodeT → List NodeT → Bool
  | _, [] => false
  | done, x :: l => done.any (clash x) || dups (done ++ [x]) l
def checkF (l : List NodeT) : Int := if 64 < l.length then 3 else if l.all okN then (if dups [] l then 5 else 0) else 1
structure Rst (l : List NodeT) : Prop where
  len : l.length ≤ 64
  ok : ∀ x ∈ l, 1 ≤ x.id ∧ x.id ≤ 2147483647 ∧ x.key.length ≤ 64 ∧ x.word ≤ 65535
  ids : (l.map (·.id)).Nodup
  keys : (l.map (·.key)).Nodup
theorem okN_iff {x : NodeT} : okN x = true ↔ 1 ≤ x.id ∧ x.id ≤ 2147483647 ∧ x.key.length ≤ 64 ∧ x.word ≤ 65535 := by
  simp [okN]
theorem dups_iff : ∀ {l done : List NodeT}, (done.map (·.id)).Nodup → (done.map (·.key)).Nodup → (dups done l = false ↔ ((done ++ l).map (·.id)).Nodup ∧ ((done ++ l).map (·.key)).Nodup)
  | [], done, h1, h2 => by simp only [dups, List.append_nil, true_iff]; exact ⟨h1, h2⟩
  | x :: l, done, h1, h2 => by
    have e : done ++ x :: l = (done ++ [x]) ++ l := by simp
    rw [e]
    simp only [dups, Bool.or_eq_false_iff]
    by_cases hc : done.any (clash x) = true
    · simp only [hc, Bool.true_eq_false, false_and, false_iff, not_and]
      intro h3 h4
      obtain ⟨y, hy, hxy⟩ := List.any_eq_true.1 hc
      simp only [clash, Bool.or_eq_true, beq_iff_eq] at hxy
      rw [List.map_append, List.nodup_append] at h3 h4
      have g3 := h3.1
      have g4 := h4.1
      rw [List.map_append, List.nodup_append] at g3 g4
      rcases hxy with hxy | hxy
      · exact g3.2.2 y.id (List.mem_map.2 ⟨y, hy, rfl⟩) x.id (by simp) hxy
      · exact g4.2.2 y.key (List.mem_map.2 ⟨y, hy, rfl⟩) x.key (by simp) hxy
    · have hc : done.any (clash x) = false := by simpa using hc
      have hn : ∀ y ∈ done, y.id ≠ x.id ∧ y.key ≠ x.key := by
        intro y hy
        have := List.any_eq_false.1 hc y hy
        simpa [clash] using this
      simp only [hc, true_and]
      refine dups_iff ?_ ?_
      · rw [List.map_append, List.nodup_append]
        refine ⟨h1, by simp, ?_⟩
        intro a ha b hb
        simp only [List.map_cons, List.map_nil, List.mem_singleton] at hb
        obtain ⟨y, hy, rfl⟩ := List.mem_map.1 ha
        rw [hb]; exact (hn y hy).1
      · rw [List.map_append, List.nodup_append]
        refine ⟨h2, by simp, ?_⟩
        intro a ha b hb
        simp only [List.map_cons, List.map_nil, List.mem_singleton] at hb
        obtain ⟨y, hy, rfl⟩ := List.mem_map.1 ha
        rw [hb]; exact (hn y hy).2
theorem checkF_iff {l : List NodeT} : checkF l = 0 ↔ Rst l := by
  unfold checkF
  constructor
  · intro h
    split at h
    · simp at h
    · rename_i h1
      split at h
      · rename_i h2
        split at h
        · simp at h
        · rename_i h3
          have h3 : dups [] l = false := by simpa using h3
          have := (dups_iff (by simp) (by simp)).1 h3
          exact ⟨by omega, fun x hx => okN_iff.1 (List.all_eq_true.1 h2 x hx), this.1, this.2⟩
      · simp at h
  · rintro ⟨h1, h2, h3, h4⟩
    rw [if_neg (by omega), if_pos (List.all_eq_true.2 fun x hx => okN_iff.2 (h2 x hx)), if_neg]
    rw [(dups_iff (l := l) (done := []) (by simp) (by simp)).2 ⟨h3, h4⟩]
    simp
theorem all_step {α : Type} [Inhabited α] {p : α → Bool} {xs : List α} {i : Nat} (h : i < xs.length) : (xs.drop i).all p = (p (xs.getD i default) && (xs.drop (i + 1)).all p) := by
  rw [List.drop_eq_getElem_cons h, List.all_cons]
  simp only [List.getD, List.getElem?_eq_getElem h, Option.getD_some]
theorem dups_step {xs : List NodeT} {i : Nat} (h : i < xs.length) : dups (xs.take i) (xs.drop i) = ((xs.take i).any (clash (xs.getD i default)) || dups (xs.take (i + 1)) (xs.drop (i + 1))) := by
  have e : xs.take (i + 1) = xs.take i ++ [xs.getD i default] := by
    rw [List.take_add_one, List.getElem?_eq_getElem h]; simp [List.getD, h]
  rw [e, List.drop_eq_getElem_cons h]
  simp only [dups, List.getD, List.getElem?_eq_getElem h, Option.getD_some]
theorem check_bad {xs : List NodeT} {i : Nat} (h1 : ¬ 64 < xs.length) (hi : i < xs.length) (h2 : xs.all okN = (xs.drop i).all okN) (h3 : okN (xs.getD i default) = false) : checkF xs = 1 := by
  unfold checkF
  rw [if_neg h1, if_neg]
  rw [h2, all_step hi, h3]; simp
theorem check_dup {xs : List NodeT} {i : Nat} (h1 : ¬ 64 < xs.length) (hi : i < xs.length) (h2 : xs.all okN = true) (h3 : dups [] xs = dups (xs.take i) (xs.drop i)) (h4 : (xs.take i).any (clash (xs.getD i default)) = true) : checkF xs = 5 := by
  unfold checkF
  rw [if_neg h1, if_pos h2, if_pos]
  rw [h3, dups_step hi, h4]; rfl
theorem check_ok {xs : List NodeT} {i : Nat} (h1 : ¬ 64 < xs.length) (hi : xs.length ≤ i) (h2 : xs.all okN = true) (h3 : dups [] xs = dups (xs.take i) (xs.drop i)) : checkF xs = 0 := by
  unfold checkF
  rw [if_neg h1, if_pos h2, if_neg]
  rw [h3, List.drop_eq_nil_of_le hi]; simp [dups]
theorem clash_of1 {x y : NodeT} (h : (x.id == y.id) = true) : clash x y = true := by
  have := eq_of_beq h; simp [clash, this]
theorem clash_of2 {x y : NodeT} (h : (x.key == y.key) = true) : clash x y = true := by
  have := eq_of_beq h; simp [clash, this]
theorem clash_not {x y : NodeT} (h : (x.id == y.id) = false) (h' : (x.key == y.key) = false) : clash x y = false := by
  simp only [clash, Bool.or_eq_false_iff, beq_eq_false_iff_ne] at *
  exact ⟨Ne.symm h, Ne.symm h'⟩
theorem any_take_step {xs : List NodeT} {k j : Nat} {p : NodeT → Bool} (hk : k ≤ xs.length) (hj : j < k) : ((xs.take k).drop j).any p = (p (xs.getD j default) || ((xs.take k).drop (j + 1)).any p) := by
  have hjl : j < (xs.take k).length := by simp; omega
  rw [List.drop_eq_getElem_cons hjl, List.any_cons]
  congr 2
  simp [List.getD, show j < xs.length by omega]
theorem any_take_end {xs : List NodeT} {k j : Nat} {p : NodeT → Bool} (hj : k ≤ j) : ((xs.take k).drop j).any p = false := by
  rw [List.drop_eq_nil_of_le (by simp; omega)]; rfl
def idxP {α : Type} (p : α → Bool) : List α → Nat → Int
  | [], _ => -1
  | x :: l, i => if p x then (i : Int) else idxP p l (i + 1)
theorem idxP_step {α : Type} [Inhabited α] {p : α → Bool} {xs : List α} {i : Nat} (h : i < xs.length) : idxP p (xs.drop i) i = if p (xs.getD i default) then (i : Int) else idxP p (xs.drop (i + 1)) (i + 1) := by
  rw [List.drop_eq_getElem_cons h]
  simp [idxP, List.getD, h]
theorem idxP_end {α : Type} {p : α → Bool} {xs : List α} {i : Nat} (h : xs.length ≤ i) : idxP p (xs.drop i) i = -1 := by
  rw [List.drop_eq_nil_of_le h]; rfl
theorem idxP_range {α : Type} [Inhabited α] {p : α → Bool} : ∀ {xs : List α} {f : Nat}, idxP p xs f = -1 ∧ xs.any p = false ∨ ∃ i, idxP p xs f = ((f + i : Nat) : Int) ∧ i < xs.length ∧ p (xs.getD i default) = true ∧ ∀ j, j < i → p (xs.getD j default) = false
  | [], f => .inl ⟨rfl, rfl⟩
  | x :: l, f => by
    by_cases h : p x = true
    · exact .inr ⟨0, by simp [idxP, h], by simp, by simpa using h, by simp⟩
    · have h : p x = false := by simpa using h
      rcases idxP_range (p := p) (xs := l) (f := f + 1) with ⟨h1, h2⟩ | ⟨i, h1, h2, h3, h4⟩
      · exact .inl ⟨by simp [idxP, h, h1], by simp [h, h2]⟩
      · refine .inr ⟨i + 1, by simp [idxP, h, h1]; omega, by simpa using h2, by simpa using h3, fun j hj => ?_⟩
        cases j with
        | zero => simpa using h
        | succ j => simpa using h4 j (by omega)
theorem idxP_nonneg {α : Type} [Inhabited α] {p : α → Bool} {xs : List α} : decide (idxP p xs 0 ≥ 0) = xs.any p := by
  rcases idxP_range (p := p) (xs := xs) (f := 0) with ⟨h1, h2⟩ | ⟨i, h1, h2, h3, h4⟩
  · rw [h1, h2]; rfl
  · rw [h1]
    have : xs.any p = true := List.any_eq_true.2 ⟨xs.getD i default, by simp [List.getD, h2], h3⟩
    rw [this]; simp
def findN (l : List NodeT) (id : Int) : Option NodeT := l.find? fun x => x.id == id
end Go.Sx

namespace Go.Sx
open Go
def enc3 (r : NodeT) : List Value := [.int .i64 r.id, .string ⟨⟨r.key⟩⟩, .int .u32 (r.word : Int)]
theorem enc3_len (r : NodeT) : (enc3 r).length = 3 := rfl
theorem enc3_one (r : NodeT) : ∀ v ∈ enc3 r, v.oneCell' = true := by
  intro v hv
  simp only [enc3, List.mem_cons, List.not_mem_nil, or_false] at hv
  rcases hv with rfl | rfl | rfl <;> rfl
def ltN (a b : NodeT) : Bool := Op.bytesLess a.key b.key || (a.key == b.key && decide (a.id < b.id))
theorem swo_ltN : Sort.SWO ltN := by
  refine ⟨fun x => ?_, fun x y z h1 h2 => ?_, fun x y z h1 h2 => ?_⟩
  · simp [ltN, bl_irrefl]
  · simp only [ltN, Bool.or_eq_true, Bool.and_eq_true, beq_iff_eq, decide_eq_true_eq] at *
    rcases h1 with h1 | ⟨h1, h1'⟩
    · rcases h2 with h2 | ⟨h2, h2'⟩
      · exact .inl (bl_trans h1 h2)
      · exact .inl (by rw [← h2]; exact h1)
    · rcases h2 with h2 | ⟨h2, h2'⟩
      · exact .inl (by rw [h1]; exact h2)
      · exact .inr ⟨h1.trans h2, by omega⟩
  · simp only [ltN, Bool.or_eq_false_iff, Bool.and_eq_false_iff, beq_eq_false_iff_ne, decide_eq_false_iff_not] at *
    obtain ⟨h1, h1'⟩ := h1
    obtain ⟨h2, h2'⟩ := h2
    have h3 : Op.bytesLess x.key z.key = false := bl_ntrans h1 h2
    refine ⟨h3, ?_⟩
    by_cases e : x.key = z.key
    · right
      have e1 : x.key = y.key := by
        by_cases e' : x.key = y.key
        · exact e'
        · have := bl_tot h1 e'
          rw [e] at this
          rw [this] at h2; cases h2
      have e2 : y.key = z.key := e1.symm.trans e
      have g1 := h1'.resolve_left (fun h => h e1)
      have g2 := h2'.resolve_left (fun h => h e2)
      omega
    · exact .inl e
end Go.Sx

namespace Go.Sx
open Go Go.Shelf Go.RowKit Go.Lib Go.Sort Go.Proofs
theorem get!_list (l : List Row) (i : Nat) : (l.toArray)[i]! = l.getD i default := by
  simp [List.getD, getElem!_def]
  cases l[i]? <;> rfl
def sortF (rows : List Row) : List Row := if rows.length < 2 then rows else (pdq ltR rows.toArray 0 rows.toArray.size (Lib.bitLen rows.toArray.size) true true).toList
theorem sort_perm (rows : List Row) : (sortF rows).Perm rows ∧ ∀ i j, i < j → j < (sortF rows).length → ltR ((sortF rows).getD j default) ((sortF rows).getD i default) = false := by
  unfold sortF
  split
  · rename_i h
    refine ⟨List.Perm.refl _, fun i j hij hj => ?_⟩
    omega
  · have h := pdq_sorts ltR swo_ltR rows.toArray 0 rows.toArray.size (Lib.bitLen rows.toArray.size) true true (Nat.zero_le _) (Nat.le_refl _) (Or.inl rfl)
    generalize pdq ltR rows.toArray 0 rows.toArray.size (Lib.bitLen rows.toArray.size) true true = d at h
    obtain ⟨⟨h1, h2, h3⟩, h4⟩ := h
    refine ⟨?_, fun i j hij hj => ?_⟩
    · have e1 : d.extract 0 rows.toArray.size = d := by rw [← h1]; exact Array.extract_size
      have e2 : rows.toArray.extract 0 rows.toArray.size = rows.toArray := Array.extract_size
      rw [e1, e2] at h3
      exact h3
    · have hj' : j < d.size := by simpa using hj
      have := h4 i j (Nat.zero_le _) hij (by rw [← h1]; exact hj')
      have ed : d = d.toList.toArray := by simp
      rw [ed, get!_list, get!_list] at this
      exact this
theorem modify_other (h : Array Obj) (b : Nat) (f : Obj → Obj) (k : Nat) (hk : k ≠ b) : (h.modify b f)[k]? = h[k]? := by
  rw [Array.getElem?_modify]; simp [Ne.symm hk]
theorem modify_at (h : Array Obj) (b : Nat) (f : Obj → Obj) : (h.modify b f)[b]? = (h[b]?).map f := by
  rw [Array.getElem?_modify]; simp
variable {P : Program} {G : Nat → Option (Nat × (Nat → D))}
end Go.Sx

namespace Go.Proofs
open Go.Shelf Go.RowKit Go.Lib Go.Sort
variable {P : Program} {ρ : Ren} {α : Type} [Inhabited α]
def LessGrowsK (P : Program) (g : Nat) (lb : Array Value) (enc : α → List Value) (k : Nat) (lt : α → α → Bool) (blk off size : Nat) (w : World) : Prop :=
  ∀ (m : Nat) (os : Array Obj) (dk : Array α), dk.size = size → ∀ i j : Nat, i < size → j < size →
    Calls P g (#[.int .i64 i, .int .i64 j] ++ lb) (putRowK enc k (Sort.ahead (Sort.grow w os) m) blk off dk) fun e w' => e = .returned (.bool (lt dk[i]! dk[j]!)) ∧ ∃ q os', w' = putRowK enc k (Sort.ahead (Sort.grow w (os ++ os')) (m + q)) blk off dk
theorem LessGrowsK.grow {g : Nat} {lb : Array Value} {enc : α → List Value} {k : Nat} {lt : α → α → Bool} {blk off size : Nat} {w : World} (h : LessGrowsK P g lb enc k lt blk off size w) (os0 : Array Obj) :
    LessGrowsK P g lb enc k lt blk off size (Sort.grow w os0) := fun m os dk hs i j hi hj => by
  have := h m (os0 ++ os) dk hs i j hi hj
  rw [grow_grow]
  refine this.mono ?_
  rintro e w' ⟨he, q, os', rfl⟩
  exact ⟨he, q, os', by rw [grow_grow, Array.append_assoc]⟩
theorem grow_nil0 (w : World) : Sort.grow w #[] = w := by cases w; simp [Sort.grow]
set_option maxHeartbeats 2000000 in
set_option maxRecDepth 100000 in
theorem Any.insertionSort_grows (L : LaysGg.n26 P ρ) (enc : α → List Value) (k : Nat) (hk : ∀ x, (enc x).length = k) (lt : α → α → Bool) (g : Nat) (lb : Array Value) (sf : Nat) (sb : Array Value) (blk off a b : Nat) (d : Array α) (w : World)
    (eg : ∀ args w, (callFunc g args).run P w = .ok (.enter g args) w) (hless : LessGrowsK P g lb enc k lt blk off d.size w) (hswap : SwapSwapsK P sf sb enc k blk off d.size)
    (hH : HoldsK enc k w blk off d) (hblk : blk < w.heap.size) (hab : a ≤ b) (hb : b ≤ d.size) (hsz : d.size < 4611686018427387904) :
    Calls P (ρ.f 26) #[.agg #[.func (.func g) #[] lb, .func (.func sf) #[] sb], .int .i64 a, .int .i64 b] w fun e w' =>
      e = .returned (.tuple #[]) ∧ ∃ n os, w' = putRowK enc k (Sort.ahead (Sort.grow (w.alloc (.cells #[.func (.func g) #[] lb, .func (.func sf) #[] sb] (ρ.t 44))) os) n) blk off (Sort.insertionSort lt d a b) := by
  have mixed := L.mixed; have t0 := L.t0; have a0 := L.a0; have z0 := L.z0; have v0 := L.v0; have t3 := L.t3; have a3 := L.a3; have z3 := L.z3; have v3 := L.v3; have t4 := L.t4; have a4 := L.a4; have z4 := L.z4; have v4 := L.v4; have t26 := L.t26; have a26 := L.a26; have z26 := L.z26; have v26 := L.v26; have t37 := L.t37; have a37 := L.a37; have z37 := L.z37; have v37 := L.v37; have t44 := L.t44; have a44 := L.a44; have z44 := L.z44; have v44 := L.v44
  have u44 := run_underlying L.t44
  have hH1 : HoldsK enc k (w.alloc (.cells #[.func (.func g) #[] lb, .func (.func sf) #[] sb] (ρ.t 44))) blk off d := by rw [alloc_eq_grow]; exact holdsK_grow enc k w _ blk off d hblk hH
  have hb1 : blk < (w.alloc (.cells #[.func (.func g) #[] lb, .func (.func sf) #[] sb] (ρ.t 44))).heap.size := by simp; omega
  have hl1 : LessGrowsK P g lb enc k lt blk off d.size (w.alloc (.cells #[.func (.func g) #[] lb, .func (.func sf) #[] sb] (ρ.t 44))) := by rw [alloc_eq_grow]; exact hless.grow _
  have hsz1 : w.heap.size < (w.alloc (.cells #[.func (.func g) #[] lb, .func (.func sf) #[] sb] (ρ.t 44))).heap.size := by simp
  go_enter L.f26, BodyGg.n26_ntmps ρ
  go_wp2
  go_loopw [6] (fun vi wr => ∃ (i n : Nat) (os : Array Obj) (dk : Array α), vi = .int .i64 i ∧ a < i ∧ i ≤ b + 1 ∧ dk.size = d.size ∧ wr = putRowK enc k (Sort.ahead (Sort.grow (w.alloc (.cells #[.func (.func g) #[] lb, .func (.func sf) #[] sb] (ρ.t 44))) os) n) blk off dk ∧
      insOuter lt a b i dk = insOuter lt a b (a + 1) d) (fun vi _ => b + 1 - (intOf vi).toNat)
  case atStart => exact ⟨a + 1, 0, #[], d, by go_num, by omega, by omega, rfl, (by rw [grow_nil0]; exact (putRowK_self _ _ _ _ _ _ hH1).symm), rfl⟩
  case round =>
    obtain ⟨i, n, os, dk, rfl, hai, hib, hsk, hwr, hO⟩ := hrel
    have HO : Hid (insOuter lt a b i dk = insOuter lt a b (a + 1) d) := hO
    clear hO
    go_wp2
    · -- i < b: the inner loop
      go_loopw [7] (fun vj wr2 => ∃ (j m : Nat) (os2 : Array Obj) (dj : Array α), vj = .int .i64 j ∧ a ≤ j ∧ j ≤ i ∧ dj.size = d.size ∧ wr2 = putRowK enc k (Sort.ahead (Sort.grow (w.alloc (.cells #[.func (.func g) #[] lb, .func (.func sf) #[] sb] (ρ.t 44))) os2) m) blk off dj ∧
          insInner lt a j dj = insInner lt a i dk) (fun vj _ => (intOf vj).toNat)
      case atStart => exact ⟨i, n, os, dk, rfl, by omega, Nat.le_refl _, hsk, rfl, rfl⟩
      case round =>
        obtain ⟨j, m, os2, dj, rfl, haj, hji, hsj, hw2, hI⟩ := hrel
        have hlt : i < b := by assumption
        have hHw : ∀ q (os3 : Array Obj), HoldsK enc k (putRowK enc k (Sort.ahead (Sort.grow (w.alloc (.cells #[.func (.func g) #[] lb, .func (.func sf) #[] sb] (ρ.t 44))) os3) q) blk off dj) blk off dj := fun q os3 =>
          holdsK_putRowK enc k _ blk off d dj (holdsK_ahead _ _ _ _ _ _ _ (holdsK_grow _ _ _ _ _ _ _ hb1 hH1)) hsj
        have cc : ∀ kk v, ((w.alloc (.cells #[.func (.func g) #[] lb, .func (.func sf) #[] sb] (ρ.t 44)))).cell? ⟨w.heap.size, kk, none⟩ = some v → ∀ q (os3 : Array Obj), (putRowK enc k (Sort.ahead (Sort.grow (w.alloc (.cells #[.func (.func g) #[] lb, .func (.func sf) #[] sb] (ρ.t 44))) os3) q) blk off dj).cell? ⟨w.heap.size, kk, none⟩ = some v := fun kk v h q os3 => by
          rw [cell?_putRowK_other enc k _ blk off dj _ (by show w.heap.size ≠ blk; omega)]
          exact (cell?_grow _ _ _ hsz1).trans h
        have c0 := cc 0 (.func (.func g) #[] lb) (by simp)
        have c1 := cc 1 (.func (.func sf) #[] sb) (by simp)
        have c0' : wr.cell? ⟨w.heap.size, 0, none⟩ = some (.func (.func g) #[] lb) := by rw [hw2]; exact c0 m os2
        have HW : Hid (wr = putRowK enc k (Sort.ahead (Sort.grow (w.alloc (.cells #[.func (.func g) #[] lb, .func (.func sf) #[] sb] (ρ.t 44))) os2) m) blk off dj) := hw2
        have HI : Hid (insInner lt a j dj = insInner lt a i dk) := hI
        clear hw2 hI hH hH1 cc
        have out : (j ≤ a ∨ lt dj[j]! dj[j - 1]! = false) → ∀ (m' : Nat) (os3 : Array Obj), ∃ i' n' os' dk', Value.int .i64 ((i : Int) + 1) = .int .i64 (i' : Nat) ∧ a < i' ∧ i' ≤ b + 1 ∧ dk'.size = d.size ∧
            putRowK enc k (Sort.ahead (Sort.grow (w.alloc (.cells #[.func (.func g) #[] lb, .func (.func sf) #[] sb] (ρ.t 44))) os3) m') blk off dj = putRowK enc k (Sort.ahead (Sort.grow (w.alloc (.cells #[.func (.func g) #[] lb, .func (.func sf) #[] sb] (ρ.t 44))) os') n') blk off dk' ∧ insOuter lt a b i' dk' = insOuter lt a b (a + 1) d := fun hs m' os3 =>
          ⟨i + 1, m', os3, dj, by go_num, by omega, by omega, hsj, rfl,
            by rw [← HO.out, insOuter_go _ _ _ _ _ hlt, ← HI.out, insInner_stop _ _ _ _ hs]⟩
        have OUT : Hid _ := out
        clear out
        by_cases hja : a < j
        · have hl := hl1 m os2 dj hsj j (j - 1) (by omega) (by omega)
          rw [← HW.out] at hl
          rw [show (((j - 1 : Nat) : Int)) = (j : Int) - 1 by omega] at hl
          cases hlv : lt dj[j]! dj[j - 1]! with
          | true =>
            rw [hlv] at hl
            go_wp2_with (go_at_fn g; refine hl.mono ?_; rintro e w' ⟨rfl, q, os4, rfl⟩)
            have hs := hswap _ dj (hHw (m + q) (os2 ++ os4)) hsj j (j - 1) (by omega) (by omega)
            rw [show (((j - 1 : Nat) : Int)) = (j : Int) - 1 by omega] at hs
            rw [hs, Oper.upon_value]
            go_wp2
            go_roundw
            case rel =>
              (repeat apply Exists.intro)
              refine ⟨⟨j - 1, m + q, os2 ++ os4, swp dj j (j - 1), by congr 1 <;> omega, by omega, by omega, by rw [size_swp]; exact hsj, ?_, ?_⟩, by rw [decide_eq_true hlt, show ((j - 1 : Nat) : Int) = (j : Int) - 1 by omega]⟩
              · exact swap_worldK enc k hk _ (m + q) 0 blk off dj j (j - 1) (by omega) (by omega)
              · rw [← HI.out, insInner_go lt a j dj hja hlv]
            case measure => simp [intOf]; omega
          | false =>
            rw [hlv] at hl
            go_wp2_with (go_at_fn g; refine hl.mono ?_; rintro e w' ⟨rfl, q, os4, rfl⟩)
            go_roundw
            case rel => exact OUT.out (Or.inr hlv) (m + q) (os2 ++ os4)
            case measure => simp [intOf]; omega
        · go_wp2
          go_roundw
          case rel => rw [HW.out]; exact OUT.out (Or.inl (by omega)) m os2
          case measure => simp [intOf]; omega
    · -- the outer loop is at its end
      have hge : ¬ i < b := by assumption
      go_end0
      exact ⟨rfl, n, os, by unfold Sort.insertionSort; rw [← HO.out, insOuter_stop _ _ _ _ _ hge]⟩
end Go.Proofs

namespace Go.Sx
open Go Go.Shelf Go.RowKit Go.Lib Go.Sort Go.Proofs
theorem get!_listA {α : Type} [Inhabited α] (l : List α) (i : Nat) : (l.toArray)[i]! = l.getD i default := by
  simp [List.getD, getElem!_def]
  cases l[i]? <;> rfl
theorem get!_toList {α : Type} [Inhabited α] (d : Array α) (i : Nat) : d[i]! = d.toList.getD i default := by
  have := get!_listA d.toList i
  simpa using this
theorem enc3_rep (r : NodeT) : ∀ j, j < 3 → ∀ I w, RepD I w ((encN r).getD j default) ((enc3 r)[j]!)
  | 0, _, _, _ => rfl
  | 1, _, _, _ => rfl
  | 2, _, _, _ => rfl
variable {P : Program} {G : Nat → Option (Nat × (Nat → D))}
theorem flat_listN (rows : List NodeT) {i j : Nat} (hi : i < rows.length) (hj : j < 3) : (flatK enc3 3 rows.toArray)[i * 3 + j]! = (enc3 (rows.getD i default))[j]! := by
  rw [get_flatK enc3 3 _ _ (by simp only [List.size_toArray]; omega), show (i * 3 + j) / 3 = i by omega, show (i * 3 + j) % 3 = j by omega, get!_listA]
def LessSpec (P : Program) (G : Nat → Option (Nat × (Nat → D))) (g : Nat) : Prop := ∀ (xs : List NodeT) (i j : Nat), i < xs.length → j < xs.length → xs.length ≤ 1000 →
  Sx.Spec P G g [.d (.int .i64 i), .d (.int .i64 j), .cptr 1 fun _ => .list xs.length 3 (cellOf encN xs)] [] (.d (.bool (ltN (xs.getD i default) (xs.getD j default)))) []
set_option maxHeartbeats 1000000 in
theorem less_grows {g : Nat} (hL : LessSpec P G g) {I : Nat → Prop} {w : World} {B blk off n c : Nat} {l : List NodeT} (hG : GOk G I w) (hI : ∀ b, I b → b < w.heap.size ∧ b ≠ blk) (hB : w.cell? ⟨B, 0, none⟩ = some (.slice (some ⟨blk, off, none⟩) n c)) (hBb : B ≠ blk)
    (hBlt : B < w.heap.size) (hnc : n ≤ c) (hH : HoldsK enc3 3 w blk off l.toArray) (hl : l.length = n) (hblt : blk < w.heap.size) (hn : n ≤ 1000) : LessGrowsK P g #[.pointer (some ⟨B, 0, none⟩)] enc3 3 ltN blk off n w := by
  intro m os dk hs i j hi hj
  have hHg : HoldsK enc3 3 (Sort.ahead (grow w os) m) blk off l.toArray := holdsK_ahead _ _ _ _ _ _ _ (holdsK_grow _ _ _ _ blk off _ hblt hH)
  have hHW := holdsK_putRowK enc3 3 _ blk off l.toArray dk hHg (by rw [hs]; simp [hl])
  have hsz : (putRowK enc3 3 (Sort.ahead (grow w os) m) blk off dk).heap.size = w.heap.size + os.size := by
    show ((grow w os).heap.modify _ _).size = _
    simp [grow]
  have hother : ∀ (b o : Nat), b ≠ blk → b < w.heap.size → (putRowK enc3 3 (Sort.ahead (grow w os) m) blk off dk).cell? ⟨b, o, none⟩ = w.cell? ⟨b, o, none⟩ := by
    intro b o hb hlt
    rw [cell?_putRowK_other _ _ _ blk off dk _ hb]
    exact cell?_grow _ _ _ hlt
  have hxl : dk.toList.length = n := by simpa using hs
  have hsp := hL dk.toList i j (by omega) (by omega) (by omega)
  rw [← get!_toList, ← get!_toList] at hsp
  generalize hW : putRowK enc3 3 (Sort.ahead (grow w os) m) blk off dk = W at *
  refine (hsp.calls W (fun b => I b ∨ b = B ∨ b = blk) (fun _ => mkL 0 0 0 0 0) [.int .i64 i, .int .i64 j, .pointer (some ⟨B, 0, none⟩)] ?_ (fun n b h => by simp at h) (fun n b m c h => by simp at h) ?_ ?_).mono ?_
  · simp only [RepL, RepS]
    refine ⟨_, _, rfl, rfl, _, _, rfl, rfl, _, _, rfl, ⟨B, 0, rfl, .inr (.inl rfl), ?_⟩, rfl⟩
    intro q hq
    have : q = 0 := by omega
    subst this
    refine ⟨_, (hother B 0 hBb hBlt).trans hB, ?_⟩
    simp only [RepD]
    refine ⟨_, c, by rw [hxl], by omega, fun _ => ⟨blk, off, rfl, .inr (.inr rfl), fun a b ha hb => ?_⟩⟩
    have h1 := (hHW.cell (i := a) (c := b) (by simpa using ha) hb).1
    refine ⟨_, h1, ?_⟩
    rw [get!_toList]
    exact enc3_rep _ b hb _ _
  · rintro b (hb | rfl | rfl)
    · have := (hI b hb).1; omega
    · omega
    · omega
  · refine hG.mono (fun b hb => .inl hb) ?_
    intro b o hb
    exact hother b o (hI b hb).2 (hI b hb).1
  · rintro e w' ⟨v, I', ρ', rfl, ha⟩
    have hv := ha.res
    simp only [RepS, RepD] at hv
    subst hv
    refine ⟨rfl, w'.drawn - W.drawn, w'.heap.extract W.heap.size w'.heap.size, ?_⟩
    have hk := ha.keep
    have e1 : w' = grow (W.drewN (w'.drawn - W.drawn)) (w'.heap.extract W.heap.size w'.heap.size) := by
      obtain ⟨h', t', d', o', p'⟩ := w'
      obtain ⟨k1, k2, k3, k4, k5, k6⟩ := hk
      simp only at k1 k2 k3 k4 k6
      simp only [grow, World.drewN]
      congr 1
      · apply Array.ext'
        apply List.ext_getElem?
        intro q
        by_cases hq : q < W.heap.size
        · have := k5 q hq (by rintro ⟨n, b, hn, _⟩; simp at hn)
          simp only at this
          simp only [Array.getElem?_toList, Array.getElem?_append_left hq]
          exact this
        · simp only [Array.getElem?_toList]
          rw [Array.getElem?_append_right (by omega), Array.getElem?_extract]
          by_cases hq2 : q < h'.size
          · rw [if_pos (by omega)]; congr 1; omega
          · rw [if_neg (by omega), Array.getElem?_eq_none (by omega)]
      · omega
    refine e1.trans ?_
    generalize w'.drawn - W.drawn = a1
    generalize w'.heap.extract W.heap.size w'.heap.size = a2
    rw [← hW, putRowK_drewN, ← putRowK_grow _ _ _ _ _ _ _ (by show blk < (grow w os).heap.size; simp [grow]; omega)]
    show _ = putRowK enc3 3 (Sort.ahead (grow w (os ++ a2)) (m + a1)) blk off dk
    congr 1
    rw [← grow_grow]
    rfl
end Go.Sx

namespace Go.Sx
open Go Go.Shelf Go.RowKit Go.Lib Go.Sort Go.Proofs
variable {P : Program} {G : Nat → Option (Nat × (Nat → D))}
structure SorterAt (P : Program) (G : Nat → Option (Nat × (Nat → D))) (f t g : Nat) (R : List NodeT → SV) (V : List NodeT → Value) (outF : List NodeT → List NodeT) : Prop where
  enter : ∀ (vs : Array Value) (w : World), (callFunc f vs).run P w = .ok (.enter f vs) w
  rep : ∀ l I ρ w, RepS I ρ w (R l) (V l)
  names : ∀ l n, ¬ inS n (R l)
  outTiny : ∀ l, l.length ≤ 1 → outF l = l
  outLen : ∀ l, (outF l).length = l.length
  tiny : ∀ (l : List NodeT), l.length ≤ 1 → ∀ (p : Option Addr) (c : Nat) (la lb : Array Value) (w : World), Calls P f #[.iface t (.slice p l.length c), .func (.func g) la lb] w fun e w' => e = .returned (V l) ∧ ∃ os, w' = grow w os
  whole : ∀ (lb : Array Value) (blk off c : Nat) (l : List NodeT), 2 ≤ l.length → l.length < 20 → ∀ w : World, LessGrowsK P g lb enc3 3 ltN blk off l.length w → HoldsK enc3 3 w blk off l.toArray → blk < w.heap.size →
    Calls P f #[.iface t (.slice (some ⟨blk, off, none⟩) l.length c), .func (.func g) #[] lb] w fun e w' =>
      e = .returned (V l) ∧ ∃ n os, w' = putRowK enc3 3 (Sort.ahead (Sort.grow w os) n) blk off (outF l).toArray
  less : LessSpec P G g
theorem sorter_spec {f t g : Nat} {R : List NodeT → SV} {V : List NodeT → Value} {outF : List NodeT → List NodeT} (hS : SorterAt P G f t g R V outF) (rows : List NodeT) (m b E : Nat) (hmb : m ≠ b) {gg : Nat → Nat → D} (hgg : RowLe rows.length 3 gg (cellOf encN rows)) (hsz : rows.length < 20) :
    Sx.Spec P G f [.ifc t [.osl m 3 0 rows.length], .clo g [.ptr b 0]] [(b, .box [.osl m 3 0 rows.length]), (m, .row E 3 rows.length gg)] (R rows)
      [(b, .box [.osl m 3 0 rows.length]), (m, .row E 3 rows.length (cellOf encN (outF rows)))] := by
  have hnew : newP [(b, Blk.box [.osl m 3 0 rows.length]), (m, .row E 3 rows.length gg)] [(b, Blk.box [.osl m 3 0 rows.length]), (m, .row E 3 rows.length (cellOf encN (outF rows)))] = [] := rfl
  refine { keys := rfl, apart := ?_, rnames := ?_, pnames := ?_, kind := ?_, enter := hS.enter, calls := ?_ }
  · intro n hn; rw [hnew] at hn; cases hn
  · intro n hn; exact (hS.names _ _ hn).elim
  · intro n c k hn hk
    simp only [List.mem_cons, Prod.mk.injEq, List.not_mem_nil, or_false] at hn
    rcases hn with ⟨rfl, rfl⟩ | ⟨rfl, rfl⟩
    · simp only [inB, inL, inS, or_false] at hk
      subst hk
      simp [keysP]
    · simp [inB] at hk
  · intro n c d hn hd
    simp only [List.mem_cons, Prod.mk.injEq, List.not_mem_nil, or_false] at hn hd
    rcases hn with ⟨rfl, rfl⟩ | ⟨rfl, rfl⟩ <;> rcases hd with ⟨h, rfl⟩ | ⟨h, rfl⟩ <;> first | trivial | exact absurd h hmb | exact absurd h.symm hmb
  · intro w I ρ vs hargs hpre hinj hlt hg
    simp only [RepL, RepS] at hargs
    obtain ⟨_, _, rfl, ⟨v1, rfl, _, _, hv1, ⟨hs2, hle, hcl, a, ha, hao⟩, hnil⟩, _, _, rfl, ⟨us, rfl, _, _, hus, rfl, hnil2⟩, rfl⟩ := hargs
    simp only [List.cons.injEq] at hv1
    obtain ⟨rfl, rfl⟩ := hv1
    subst ha hnil2 hus
    clear hnil
    obtain ⟨hbx, hbI⟩ := hpre b (.box [.osl m 3 0 rows.length]) (by simp)
    obtain ⟨hrw, hrI⟩ := hpre m (.row E 3 rows.length gg) (by simp)
    have hbI := hbI trivial
    obtain ⟨bus, Eb, hb1, hb2, hb3⟩ := hbx
    obtain ⟨hrl, hrs, hrc, hra⟩ := hrw
    simp only [RepL, RepS] at hb2
    obtain ⟨bv, _, rfl, ⟨_, _, _, ba, rfl, hbao⟩, rfl⟩ := hb2
    have hblt : (ρ b).b < w.heap.size := (Array.getElem?_eq_some_iff.1 hb1).1
    have done : ∀ w', w'.os = w.os → w'.tape = w.tape → w'.output = w.output → w.drawn ≤ w'.drawn → w.heap.size ≤ w'.heap.size → (∀ k, k < w.heap.size → ¬ (0 < (ρ m).cap ∧ k = (ρ m).b) → w'.heap[k]? = w.heap[k]?) →
        (0 < (ρ m).cap → ∃ arr, RowAt w' (ρ m).b arr E ∧ arr.size = (ρ m).o + (ρ m).cap * 3 ∧ ∀ i j, i < rows.length → j < 3 → ∃ u, arr[(ρ m).o + (i * 3 + j)]? = some u ∧ ∀ I w, RepD I w (cellOf encN (outF rows) i j) u) →
        ∃ v I' ρ', Ending.returned (V rows) = .returned v ∧ After I ρ w [(b, .box [.osl m 3 0 rows.length]), (m, .row E 3 rows.length gg)] (R rows) [(b, .box [.osl m 3 0 rows.length]), (m, .row E 3 rows.length (cellOf encN (outF rows)))] I' ρ' w' v := by
      intro w' e1 e2 e3 e4 hsz hblk hrow
      have hbb : w'.heap[(ρ b).b]? = w.heap[(ρ b).b]? := by
        refine hblk _ hblt ?_
        rintro ⟨hc, e⟩
        exact hmb.symm (hinj b (.box [.osl m 3 0 rows.length]) m (.row E 3 rows.length gg) (by simp) (by simp) trivial hc e)
      refine ⟨V rows, I, ρ, rfl, ?_⟩
      exact {
        old := fun _ _ => rfl
        res := hS.rep _ _ _ _
        own := by
          intro n c hn
          simp only [List.mem_cons, Prod.mk.injEq, List.not_mem_nil, or_false] at hn
          rcases hn with ⟨rfl, rfl⟩ | ⟨rfl, rfl⟩
          · refine ⟨_, Eb, by rw [hbb]; exact hb1, ?_, hb3⟩
            simp only [RepL, RepS]
            exact ⟨_, _, rfl, ⟨hs2, hle, hcl, ba, rfl, hbao⟩, rfl⟩
          · refine ⟨hrl, hrs, hrc, fun hc => ?_⟩
            obtain ⟨arr, h1, h2, h3⟩ := hrow hc
            refine ⟨arr, h1, h2, fun i j hi hj => ?_⟩
            obtain ⟨u, hu, hr⟩ := h3 i j hi hj
            exact ⟨u, hu, hr _ _⟩
        i0 := fun _ h => h
        i1 := fun _ h => .inl h
        ilt := fun k hk => Nat.lt_of_lt_of_le (hlt k hk) hsz
        keep := ⟨e1, e2, e3, hsz, fun k hk hn => hblk k hk (by
          rintro ⟨hc, rfl⟩
          exact hn ⟨m, .row E 3 rows.length gg, by simp, hc, rfl⟩), e4⟩
        sep := fun n c _ _ hn => by rw [hnew] at hn; cases hn
        inj := fun n k c d _ _ _ hn => by rw [hnew] at hn; cases hn }
    by_cases h2 : rows.length < 2
    · refine (hS.tiny rows (by omega) a _ #[] _ w).mono ?_
      rintro e w' ⟨rfl, os, rfl⟩
      refine done _ rfl rfl rfl (Nat.le_refl _) (by rw [size_grow]; omega) (fun k hk _ => heap_grow_old w os hk) (fun hc => ?_)
      obtain ⟨arr, h3, h4, h5⟩ := hra hc
      refine ⟨arr, h3.congr (heap_grow_old w os h3.lt), h4, fun i j hi hj => ?_⟩
      obtain ⟨u, hu, hr⟩ := h5 i j hi hj
      have hr := (hgg.le i j hi hj).le _ _ _ hr
      refine ⟨u, hu, fun I' w' => ?_⟩
      rw [hS.outTiny rows (by omega)]
      match j, hj with
      | 0, _ => exact hr
      | 1, _ => exact hr
      | 2, _ => exact hr
    · have hcap : 0 < (ρ m).cap := by omega
      obtain ⟨arr, h3, h4, h5⟩ := hra hcap
      have hmlt := h3.lt
      have hne : (ρ b).b ≠ (ρ m).b := fun e => hmb.symm (hinj b (.box [.osl m 3 0 rows.length]) m (.row E 3 rows.length gg) (by simp) (by simp) trivial hcap e)
      simp only [Nat.zero_mul, Nat.add_zero, Nat.sub_zero] at hao hbao
      obtain rfl := hao.resolve_right (by omega)
      obtain rfl := hbao.resolve_right (by omega)
      have hcell : ∀ i j, i < rows.length → j < 3 → w.cell? ⟨(ρ m).b, (ρ m).o + (i * 3 + j), none⟩ = some (enc3 (rows.getD i default))[j]! := by
        intro i j hi hj
        obtain ⟨u, hu, hr⟩ := h5 i j hi hj
        have hr := (hgg.le i j hi hj).le _ _ _ hr
        rw [h3.cell, hu]
        match j, hj with
        | 0, _ => exact congrArg some hr
        | 1, _ => exact congrArg some hr
        | 2, _ => exact congrArg some hr
      have hH : HoldsK enc3 3 w (ρ m).b (ρ m).o rows.toArray := by
        intro k hk
        rw [size_flatK, List.size_toArray] at hk
        have hk2 : k = k / 3 * 3 + k % 3 := by omega
        have := hcell (k / 3) (k % 3) (by omega) (Nat.mod_lt _ (by decide))
        refine ⟨?_, h3.frozen (by rw [h4]; omega)⟩
        rw [hk2, this, flat_listN rows (by omega) (Nat.mod_lt _ (by decide))]
        rfl
      have hreads : LessGrowsK P g #[.pointer (some ⟨(ρ b).b, 0, none⟩)] enc3 3 ltN (ρ m).b (ρ m).o rows.length w :=
        less_grows hS.less (c := (ρ m).cap) hg (fun k hk => ⟨hlt k hk, fun e => hrI hcap (e ▸ hk)⟩) (by simp only [World.cell?, hb1]; rfl) hne hblt (by omega) hH rfl hmlt (by omega)
      refine (hS.whole _ (ρ m).b (ρ m).o (ρ m).cap rows (by omega) hsz w hreads hH hmlt).mono ?_
      rintro e w' ⟨rfl, q, os, rfl⟩
      have hheap : ∀ k, k < w.heap.size → k ≠ (ρ m).b → (putRowK enc3 3 (Sort.ahead (grow w os) q) (ρ m).b (ρ m).o (outF rows).toArray).heap[k]? = w.heap[k]? := by
        intro k hk hne
        show ((grow w os).heap.modify _ _)[k]? = _
        rw [modify_other _ _ _ _ hne]
        exact heap_grow_old w os hk
      refine done _ rfl rfl rfl (Nat.le_add_right _ _) ?_ (fun k hk hn => hheap k hk (fun e => hn ⟨hcap, e⟩)) (fun hc => ?_)
      · show w.heap.size ≤ ((grow w os).heap.modify _ _).size
        simp [grow]
      · obtain ⟨fr, hf1, hf2⟩ := h3
        have hat : (putRowK enc3 3 (Sort.ahead (grow w os) q) (ρ m).b (ρ m).o (outF rows).toArray).heap[(ρ m).b]? = some (.cells (putCells id (ρ m).o (flatK enc3 3 (outF rows).toArray) arr) E fr) := by
          show ((grow w os).heap.modify _ _)[_]? = _
          rw [modify_at, heap_grow_old w os hmlt, hf1]
          rfl
        refine ⟨_, ⟨fr, hat, by rw [show (putCells id (ρ m).o (flatK enc3 3 (outF rows).toArray) arr).size = arr.size by simp [putCells]]; exact hf2⟩, by rw [← h4]; simp [putCells], fun i j hi hj => ?_⟩
        have hlt2 : (ρ m).o + (i * 3 + j) < arr.size := by rw [h4]; omega
        have hsl := hS.outLen rows
        refine ⟨(enc3 ((outF rows).getD i default))[j]!, ?_, ?_⟩
        · rw [← flat_listN (outF rows) (by omega) hj]
          simp only [putCells, Array.getElem?_mapIdx, Array.getElem?_eq_getElem hlt2, Option.map_some, size_flatK, List.size_toArray]
          rw [if_pos ⟨by omega, by omega⟩, show (ρ m).o + (i * 3 + j) - (ρ m).o = i * 3 + j by omega]
          rfl
        · intro I' w'
          match j, hj with
          | 0, _ => exact rfl
          | 1, _ => exact rfl
          | 2, _ => exact rfl
theorem sorter_at {f t g : Nat} {R : List NodeT → SV} {V : List NodeT → Value} {outF : List NodeT → List NodeT} (hS : SorterAt P G f t g R V outF) (rows : List NodeT) (m b E : Nat) (hmb : m ≠ b) {n : Nat} {gg : Nat → Nat → D} : (n = rows.length ∧ RowLe n 3 gg (cellOf encN rows) ∧ n < 20) →
    Sx.Spec P G f [.ifc t [.osl m 3 0 n], .clo g [.ptr b 0]] [(b, .box [.osl m 3 0 n]), (m, .row E 3 n gg)] (R rows)
      [(b, .box [.osl m 3 0 n]), (m, .row E 3 n (cellOf encN (outF rows)))] := by
  rintro ⟨rfl, hg, hl⟩
  exact sorter_spec hS rows m b E hmb hg hl
end Go.Sx

namespace Go.Sx
open Go Go.Shelf Go.RowKit Go.Lib Go.Sort Go.Proofs
def klt (a b : NodeT) : Prop := Op.bytesLess a.key b.key = true
abbrev Asc (l : List NodeT) : Prop := l.Pairwise klt
def insN (x : NodeT) : List NodeT → List NodeT
  | [] => [x]
  | y :: l => if ltN y x then y :: insN x l else x :: y :: l
def sortN : List NodeT → List NodeT
  | [] => []
  | x :: l => insN x (sortN l)
theorem insN_perm (x : NodeT) : ∀ l, (insN x l).Perm (x :: l)
  | [] => .refl _
  | y :: l => by
    unfold insN
    split
    · exact ((insN_perm x l).cons y).trans (.swap x y l)
    · exact .refl _
theorem sortN_perm : ∀ l, (sortN l).Perm l
  | [] => .refl _
  | x :: l => (insN_perm x _).trans ((sortN_perm l).cons x)
theorem sortN_len (l : List NodeT) : (sortN l).length = l.length := (sortN_perm l).length_eq
theorem sortN_mem {l : List NodeT} {x : NodeT} : x ∈ sortN l ↔ x ∈ l := (sortN_perm l).mem_iff
theorem ltN_key {a b : NodeT} (h : a.key ≠ b.key) : ltN a b = Op.bytesLess a.key b.key := by simp [ltN, h]
theorem klt_of {a b : NodeT} (h : a.key ≠ b.key) (h' : ltN b a = false) : klt a b := by
  rw [ltN_key (Ne.symm h)] at h'
  exact bl_tot h' (Ne.symm h)
theorem klt.ne {a b : NodeT} (h : klt a b) : a.key ≠ b.key := by
  intro e; unfold klt at h; rw [e, bl_irrefl] at h; cases h
theorem insN_asc {x : NodeT} : ∀ {l : List NodeT}, Asc l → (∀ y ∈ l, y.key ≠ x.key) → Asc (insN x l)
  | [], _, _ => by simp [insN]
  | y :: l, h, hn => by
    have h' := List.pairwise_cons.1 h
    unfold insN
    have hne := hn y (by simp)
    split
    · rename_i hlt
      rw [ltN_key hne] at hlt
      refine List.pairwise_cons.2 ⟨fun z hz => ?_, insN_asc h'.2 (fun z hz => hn z (by simp [hz]))⟩
      rcases List.mem_cons.1 ((insN_perm x l).mem_iff.1 hz) with rfl | hz
      · exact hlt
      · exact h'.1 z hz
    · rename_i hlt
      have hlt : klt x y := klt_of (Ne.symm hne) (by simpa using hlt)
      refine List.pairwise_cons.2 ⟨fun z hz => ?_, h⟩
      rcases List.mem_cons.1 hz with rfl | hz
      · exact hlt
      · exact bl_trans hlt (h'.1 z hz)
theorem sortN_asc : ∀ {l : List NodeT}, (l.map (·.key)).Nodup → Asc (sortN l)
  | [], _ => by simp [sortN]
  | x :: l, h => by
    simp only [List.map_cons, List.nodup_cons] at h
    refine insN_asc (sortN_asc h.2) (fun y hy e => h.1 ?_)
    exact List.mem_map.2 ⟨y, sortN_mem.1 hy, e⟩
theorem asc_unique : ∀ {a b : List NodeT}, Asc a → Asc b → a.Perm b → a = b
  | [], b, _, _, hp => (List.nil_perm.1 hp).symm
  | x :: a, [], _, _, hp => by have := hp.length_eq; simp at this
  | x :: a, y :: b, ha, hb, hp => by
    have ha' := List.pairwise_cons.1 ha
    have hb' := List.pairwise_cons.1 hb
    have e : x = y := by
      rcases List.mem_cons.1 (hp.mem_iff.1 (List.mem_cons_self)) with h | h
      · exact h
      · rcases List.mem_cons.1 (hp.mem_iff.2 (List.mem_cons_self)) with h' | h'
        · exact h'.symm
        · have h1 := hb'.1 x h
          have h2 := ha'.1 y h'
          have := bl_trans h1 h2
          rw [bl_irrefl] at this; cases this
    subst e
    rw [asc_unique ha'.2 hb'.2 (List.Perm.cons_inv hp)]
theorem sortN_id {l : List NodeT} (h : Asc l) : sortN l = l := asc_unique (sortN_asc (by
  rw [List.nodup_iff_pairwise_ne, List.pairwise_map]
  exact h.imp klt.ne)) h (sortN_perm l)
theorem Rst.perm {l m : List NodeT} (h : Rst l) (p : m.Perm l) : Rst m :=
  ⟨by rw [p.length_eq]; exact h.len, fun x hx => h.ok x (p.mem_iff.1 hx), (p.map _).nodup_iff.2 h.ids, (p.map _).nodup_iff.2 h.keys⟩
theorem Rst.sort {l : List NodeT} (h : Rst l) : Rst (sortN l) := h.perm (sortN_perm l)
theorem Rst.asc {l : List NodeT} (h : Rst l) : Asc (sortN l) := sortN_asc h.keys
theorem asc_of_idx {l : List NodeT} (hk : (l.map (·.key)).Nodup) (h : ∀ i j, i < j → j < l.length → ltN (l.getD j default) (l.getD i default) = false) : Asc l := by
  rw [Asc, List.pairwise_iff_getElem]
  intro i j hi hj hij
  have h1 := h i j hij hj
  have ei : l.getD i default = l[i] := by simp [List.getD, hi]
  have ej : l.getD j default = l[j] := by simp [List.getD, hj]
  rw [ei, ej] at h1
  refine klt_of ?_ h1
  have := List.pairwise_iff_getElem.1 (List.nodup_iff_pairwise_ne.1 hk) i j (by simpa using hi) (by simpa using hj) hij
  simpa using this
def stabF (rows : List NodeT) : List NodeT := if rows.length < 2 then rows else (Sort.insertionSort ltN rows.toArray 0 rows.toArray.size).toList
theorem stabF_perm (rows : List NodeT) : (stabF rows).Perm rows ∧ ∀ i j, i < j → j < (stabF rows).length → ltN ((stabF rows).getD j default) ((stabF rows).getD i default) = false := by
  unfold stabF
  split
  · rename_i h
    exact ⟨List.Perm.refl _, fun i j hij hj => by omega⟩
  · have h := insertionSort_holds swo_ltN rows.toArray 0 rows.toArray.size (Nat.zero_le _) (Nat.le_refl _)
    generalize Sort.insertionSort ltN rows.toArray 0 rows.toArray.size = d at h
    obtain ⟨⟨h1, h2, h3⟩, h4⟩ := h
    refine ⟨?_, fun i j hij hj => ?_⟩
    · have e1 : d.extract 0 rows.toArray.size = d := by rw [← h1]; exact Array.extract_size
      have e2 : rows.toArray.extract 0 rows.toArray.size = rows.toArray := Array.extract_size
      rw [e1, e2] at h3
      exact h3
    · have hj' : j < d.size := by simpa using hj
      have := h4 i j (Nat.zero_le _) hij (by rw [← h1]; exact hj')
      have ed : d = d.toList.toArray := by simp
      rw [ed, get!_listA, get!_listA] at this
      exact this
theorem stabF_len (rows : List NodeT) : (stabF rows).length = rows.length := (stabF_perm rows).1.length_eq
theorem stabF_eq {l : List NodeT} (h : Rst l) : stabF l = sortN l := by
  obtain ⟨h1, h2⟩ := stabF_perm l
  have hk : ((stabF l).map (·.key)).Nodup := (h1.map _).nodup_iff.2 h.keys
  exact asc_unique (asc_of_idx hk h2) h.asc (h1.trans (sortN_perm l).symm)
def sortedTo {α : Type} [Inhabited α] (lt : α → α → Bool) (d : Array α) : Nat → Bool
  | 0 => true
  | i + 1 => !lt d[i + 1]! d[i]! && sortedTo lt d i
theorem sortedTo_iff {α : Type} [Inhabited α] {lt : α → α → Bool} {d : Array α} : ∀ {n : Nat}, sortedTo lt d n = true ↔ ∀ i, i < n → lt d[i + 1]! d[i]! = false
  | 0 => by simp [sortedTo]
  | n + 1 => by
    simp only [sortedTo, Bool.and_eq_true, Bool.not_eq_true', sortedTo_iff (n := n)]
    constructor
    · rintro ⟨h1, h2⟩ i hi
      by_cases e : i = n
      · subst e; exact h1
      · exact h2 i (by omega)
    · exact fun h => ⟨h n (by omega), fun i hi => h i (by omega)⟩
def isSortedF (l : List NodeT) : Bool := sortedTo ltN l.toArray (l.length - 1)
theorem isSorted_eq {l : List NodeT} (h : Rst l) (hs : isSortedF l = true) : sortN l = l := by
  refine sortN_id ?_
  have h1 := sortedTo_iff.1 hs
  rw [Asc, List.pairwise_iff_getElem]
  have step : ∀ k i (hi : i + k + 1 < l.length), klt l[i] l[i + k + 1] := by
    intro k
    induction k with
    | zero =>
      intro i hi
      have := h1 i (by omega)
      rw [get!_listA, get!_listA] at this
      have ei : l.getD i default = l[i] := by simp [List.getD, show i < l.length by omega]
      have ej : l.getD (i + 1) default = l[i + 1] := by simp [List.getD, hi]
      rw [ei, ej] at this
      refine klt_of ?_ this
      have := List.pairwise_iff_getElem.1 (List.nodup_iff_pairwise_ne.1 h.keys) i (i + 1) (by simp; omega) (by simpa using hi) (by omega)
      simpa using this
    | succ k ih =>
      intro i hi
      have h2 := ih i (by omega)
      have := h1 (i + k + 1) (by omega)
      rw [get!_listA, get!_listA] at this
      have ei : l.getD (i + k + 1) default = l[i + k + 1] := by simp [List.getD, show i + k + 1 < l.length by omega]
      have ej : l.getD (i + k + 1 + 1) default = l[i + k + 1 + 1] := by simp [List.getD, show i + k + 1 + 1 < l.length by omega]
      rw [ei, ej] at this
      have h3 : klt l[i + k + 1] l[i + k + 1 + 1] := by
        refine klt_of ?_ this
        have := List.pairwise_iff_getElem.1 (List.nodup_iff_pairwise_ne.1 h.keys) (i + k + 1) (i + k + 1 + 1) (by simp; omega) (by simp; omega) (by omega)
        simpa using this
      exact bl_trans h2 h3
  intro i j hi hj hij
  have := step (j - i - 1) i (by omega)
  have e : i + (j - i - 1) + 1 = j := by omega
  simpa only [e] using this
end Go.Sx

namespace Go.Proofs
open Go.Shelf Go.RowKit Go.Lib Go.Sort
variable {P : Program} {ρ : Ren} {α : Type} [Inhabited α]
set_option maxHeartbeats 1600000 in
set_option maxRecDepth 100000 in
theorem Any.stable_func_under20K (L : LaysGt.n15 P ρ) (enc : α → List Value) (k : Nat) (hk : ∀ x, (enc x).length = k) (lt : α → α → Bool) (g : Nat) (lb : Array Value) (sf : Nat) (sb : Array Value) (blk off : Nat) (d : Array α) (W : World)
    (eg : ∀ args w, (callFunc g args).run P w = .ok (.enter g args) w) (hless : LessGrowsK P g lb enc k lt blk off d.size W) (hswap : SwapSwapsK P sf sb enc k blk off d.size)
    (hH : HoldsK enc k W blk off d) (hblk : blk < W.heap.size) (h20 : d.size < 20) :
    Calls P (ρ.f 15) #[.agg #[.func (.func g) #[] lb, .func (.func sf) #[] sb], .int .i64 d.size] W fun e w' => e = .returned (.tuple #[]) ∧ ∃ n os, w' = putRowK enc k (Sort.ahead (Sort.grow W os) n) blk off (Sort.insertionSort lt d 0 d.size) := by
  have mixed := L.mixed; have t0 := L.t0; have a0 := L.a0; have z0 := L.z0; have v0 := L.v0; have t3 := L.t3; have a3 := L.a3; have z3 := L.z3; have v3 := L.v3; have t4 := L.t4; have a4 := L.a4; have z4 := L.z4; have v4 := L.v4; have t26 := L.t26; have a26 := L.a26; have z26 := L.z26; have v26 := L.v26; have t38 := L.t38; have a38 := L.a38; have z38 := L.z38; have v38 := L.v38; have t42 := L.t42; have a42 := L.a42; have z42 := L.z42; have v42 := L.v42; have t47 := L.t47; have a47 := L.a47; have z47 := L.z47; have v47 := L.v47
  have u42 := run_underlying L.t42
  have e29 : ∀ args w, (callFunc (ρ.f 29) args).run P w = .ok (.enter (ρ.f 29) args) w := enters_of L.f29 (by kernel_rfl) rfl
  have LI : LaysGg.n26 P ρ.viaGt := ({ L with } : LaysGt.n29 P ρ).elder
  have hc : Calls P (ρ.f 29) #[.agg #[.func (.func g) #[] lb, .func (.func sf) #[] sb], .int .i64 (0 : Nat), .int .i64 d.size] (W.alloc (.cells #[.func (.func g) #[] lb, .func (.func sf) #[] sb] (ρ.t 42))) fun e w' => e = .returned (.tuple #[]) ∧ ∃ n os, w' = putRowK enc k (Sort.ahead (Sort.grow W os) n) blk off (Sort.insertionSort lt d 0 d.size) := by
    have h1 : LessGrowsK P g lb enc k lt blk off d.size (W.alloc (.cells #[.func (.func g) #[] lb, .func (.func sf) #[] sb] (ρ.t 42))) := by
      rw [alloc_eq_grow]; exact hless.grow _
    have h2 : HoldsK enc k (W.alloc (.cells #[.func (.func g) #[] lb, .func (.func sf) #[] sb] (ρ.t 42))) blk off d := by
      rw [alloc_eq_grow]; exact holdsK_grow enc k W _ blk off d hblk hH
    have h3 : blk < (W.alloc (.cells #[.func (.func g) #[] lb, .func (.func sf) #[] sb] (ρ.t 42))).heap.size := by simp; omega
    refine (Any.insertionSort_grows LI enc k hk lt g lb sf sb blk off 0 d.size d _ eg h1 hswap h2 h3 (Nat.zero_le _) (Nat.le_refl _) (by omega)).mono ?_
    rintro e w' ⟨rfl, n, os, rfl⟩
    exact ⟨rfl, n, _, by rw [alloc_eq_grow, alloc_eq_grow, grow_grow, grow_grow]⟩
  clear hless hswap hH
  go_enter L.f15, BodyGt.n15_ntmps ρ
  go_wp2
  refine wp_loop_rounds 1 ?_
  rw [rounds_succ]
  go_wp2_with (go_at_fn (ρ.f 29); refine hc.mono ?_; rintro e w1 ⟨rfl, n, os, rfl⟩)
  refine wp_loop_rounds 1 ?_
  rw [rounds_succ]
  go_wp2
  all_goals first | (exfalso; omega) | (go_end0; exact ⟨rfl, n, os, rfl⟩)
theorem Any.sort_SliceStable_smallK (L : LaysGt.n8 P ρ) (t e : TypeId) (i ie : TypeInfo) (hi : P.info? t = some i) (hd : i.desc = .slice e) (hpk : P.packed t = false) (hie : P.info? e = some ie) (ke : Nat) (hke : ∀ w, (Extern.Rtype.kind e).run P w = .ok ke w)
    (enc : α → List Value) (k : Nat) (hk : ∀ x, (enc x).length = k) (hs : ie.size = k) (hagg : ∀ w, (isAgg e).run P w = .ok true w) (h1 : ∀ x, ∀ v ∈ enc x, v.oneCell' = true) (lt : α → α → Bool) (g : Nat) (lb : Array Value)
    (eg : ∀ args w, (callFunc g args).run P w = .ok (.enter g args) w) (blk off c : Nat) (d : Array α) (h2 : 2 ≤ d.size) (h20 : d.size < 20)
    (f : Nat) (hf : P.funcs.findIdx? (·.name == "internal/reflectlite" ++ ".Swapper$" ++ toString (swapperK d.size ie ke)) = some f)
    (gS : Bool) (hx : ∀ args W, (callFunc f args).run P W = ((Extern.ReflectliteSwapper.swap gS args).run P W).andThen fun v w' => .ok (.value v) w')
    (w : World) (hless : LessGrowsK P g lb enc k lt blk off d.size w) (hH : HoldsK enc k w blk off d) (hblk : blk < w.heap.size) :
    Calls P (ρ.f 8) #[.iface t (.slice (some ⟨blk, off, none⟩) d.size c), .func (.func g) #[] lb] w fun e w' =>
      e = .returned (.tuple #[]) ∧ ∃ n os, w' = putRowK enc k (Sort.ahead (Sort.grow w os) n) blk off (Sort.insertionSort lt d 0 d.size) := by
  refine Any.sort_SliceStable_of_stable L t e i ie hi hd hpk hie ke hke _ d.size c (by omega) f hf (.func g) #[] lb w _ ?_
  have hB : sliceBound P e ie ke (some ⟨blk, off, none⟩) d.size c = #[.slice (some ⟨blk, off, none⟩) d.size c, typeHandle P e] := by
    unfold sliceBound; rw [if_neg (swapperK_gt _ _ _ h2)]
  have hW : stableWorld P ρ t (some ⟨blk, off, none⟩) d.size c w = grow w #[.cells #[.slice (some ⟨blk, off, none⟩) d.size c] t, .cells #[.pointer (some ⟨P.globals.size, t, none⟩), .pointer (some ⟨w.heap.size, 0, none⟩), .int .u64 151] (ρ.t 36)] := by
    unfold stableWorld; rw [alloc_eq_grow, alloc_eq_grow, grow_grow]; rfl
  generalize (#[.cells #[.slice (some ⟨blk, off, none⟩) d.size c] t, .cells #[.pointer (some ⟨P.globals.size, t, none⟩), .pointer (some ⟨w.heap.size, 0, none⟩), .int .u64 151] (ρ.t 36)] : Array Obj) = os0 at hW
  rw [hB, hW]
  have hp := Any.stable_func_under20K (P := P) (ρ := ρ) { L with } enc k hk lt g lb f _ blk off d (grow w os0) eg (hless.grow os0)
    (swapSwapsK_of_literal gS f hx e ie hie enc k hk hs hagg h1 blk off d.size c) (holdsK_grow enc k w _ blk off d hblk hH) (by rw [size_grow]; omega) h20
  refine hp.mono ?_
  rintro e w' ⟨rfl, n, os, rfl⟩
  exact ⟨rfl, n, _, by rw [grow_grow]⟩
end Go.Proofs

namespace Go.Sx
open Go
def tz32N (n : Nat) : Int := ([0, 1, 28, 2, 29, 14, 24, 3, 30, 22, 20, 15, 25, 17, 4, 8, 31, 27, 13, 23, 21, 19, 16, 7, 26, 12, 18, 6, 11, 5, 10, 9] : List Int).getD n 0
theorem odd_split : ∀ {n x : Nat}, 0 < x → x < 2 ^ n → ∃ k m, k < n ∧ x = 2 ^ k * (2 * m + 1)
  | 0, x, h0, h => by simp at h; omega
  | n + 1, x, h0, h => by
    rcases Nat.mod_two_eq_zero_or_one x with e | e
    · obtain ⟨k, m, h1, h2⟩ := odd_split (n := n) (x := x / 2) (by omega) (by rw [Nat.pow_succ] at h; omega)
      refine ⟨k + 1, m, by omega, ?_⟩
      have : x = 2 * (x / 2) := by omega
      rw [this, h2, Nat.pow_succ]
      have e : x / 2 * 2 / 2 = x / 2 := by omega
      rw [Nat.mul_comm (2 ^ k) 2, Nat.mul_assoc]
    · exact ⟨0, x / 2, by omega, by omega⟩
theorem land_neg {k m : Nat} (hk : k < 32) (h : 2 ^ k * (2 * m + 1) < 2 ^ 32) : (2 ^ k * (2 * m + 1)) &&& (2 ^ 32 - 2 ^ k * (2 * m + 1)) = 2 ^ k := by
  have e32 : 2 ^ 32 = 2 ^ k * 2 ^ (32 - k) := by rw [← Nat.pow_add]; congr 1; omega
  have hm : 2 * m + 1 < 2 ^ (32 - k) := by
    rw [e32] at h
    exact Nat.lt_of_mul_lt_mul_left h
  have e31 : 2 ^ (32 - k) = 2 * 2 ^ (31 - k) := by rw [← Nat.pow_succ']; congr 1; omega
  have hm2 : m < 2 ^ (31 - k) := by omega
  rw [e32, ← Nat.mul_sub, Nat.mul_comm (2 ^ k) (2 * m + 1), Nat.mul_comm (2 ^ k) (2 ^ (32 - k) - (2 * m + 1)), ← Nat.shiftLeft_eq, ← Nat.shiftLeft_eq, ← Nat.shiftLeft_and_distrib]
  have e1 : 2 ^ (32 - k) - (2 * m + 1) = 2 * (2 ^ (31 - k) - (m + 1)) + 1 := by omega
  rw [e1]
  have e2 : (2 * m + 1) &&& (2 * (2 ^ (31 - k) - (m + 1)) + 1) = 1 := by
    apply Nat.eq_of_testBit_eq
    intro i
    cases i with
    | zero => simp [Nat.testBit_and]
    | succ i =>
      have h1 : ∀ q : Nat, (2 * q + 1).testBit (i + 1) = q.testBit i := by
        intro q
        rw [Nat.testBit_succ]; congr 1; omega
      rw [Nat.testBit_and, h1, h1, Nat.testBit_two_pow_sub_succ hm2]
      have : Nat.testBit 1 (i + 1) = false := by rw [Nat.testBit_succ]; simp
      rw [this]; cases m.testBit i <;> simp
  rw [e2, Nat.shiftLeft_eq, Nat.one_mul]
theorem tz_table : ∀ k : Nat, k < 32 → tz32N ((2 ^ k * 125613361) % 2 ^ 32 / 2 ^ 27) = (k : Int) := by decide
theorem le_tz {k m l : Nat} : 2 ^ k * (2 * m + 1) % 2 ^ l = 0 ↔ l ≤ k := by
  constructor
  · intro h
    refine Nat.le_of_not_lt fun hl => ?_
    have e : 2 ^ l = 2 ^ k * 2 ^ (l - k) := by rw [← Nat.pow_add]; congr 1; omega
    rw [e, Nat.mul_mod_mul_left] at h
    have h2 : (2 * m + 1) % 2 ^ (l - k) = 0 := by
      rcases Nat.mul_eq_zero.1 h with h | h
      · have := Nat.two_pow_pos k; omega
      · exact h
    have e2 : 2 ^ (l - k) = 2 * 2 ^ (l - k - 1) := by rw [← Nat.pow_succ']; congr 1; omega
    have h3 := Nat.dvd_of_mod_eq_zero h2
    rw [e2] at h3
    have := Nat.dvd_trans (Nat.dvd_mul_right 2 _) h3
    omega
  · intro h
    have e : 2 ^ k = 2 ^ l * 2 ^ (k - l) := by rw [← Nat.pow_add]; congr 1; omega
    rw [e, Nat.mul_assoc]
    exact Nat.mul_mod_right _ _
theorem xor_mod_eq {a b l : Nat} : (a ^^^ b) % 2 ^ l = 0 ↔ a % 2 ^ l = b % 2 ^ l := by
  rw [Nat.xor_mod_two_pow]
  constructor
  · intro h
    apply Nat.eq_of_testBit_eq
    intro i
    have := congrArg (fun q => Nat.testBit q i) h
    simp only [Nat.testBit_xor, Nat.zero_testBit] at this
    revert this
    cases (a % 2 ^ l).testBit i <;> cases (b % 2 ^ l).testBit i <;> simp
  · intro h; rw [h, Nat.xor_self]
def sameW (a b l : Nat) : Bool := a % 2 ^ l == b % 2 ^ l
def bitW (w l : Nat) : Nat := w / 2 ^ l % 2
def tzF (x : Nat) : Int := if x = 0 then 32 else tz32N (((x &&& (2 ^ 32 - x)) * 125613361) % 2 ^ 32 / 2 ^ 27)
theorem tzF_le {x l : Nat} (hx : x < 65536) (hl : l ≤ 16) : (l : Int) ≤ min (tzF x) 16 ↔ x % 2 ^ l = 0 := by
  unfold tzF
  by_cases h0 : x = 0
  · subst h0; simp; omega
  · rw [if_neg h0]
    obtain ⟨k, m, h1, h2⟩ := odd_split (n := 16) (x := x) (by omega) (by simpa using hx)
    have h3 := land_neg (k := k) (m := m) (by omega) (by rw [← h2]; omega)
    rw [← h2] at h3
    rw [h3, tz_table k (by omega), h2, le_tz]
    omega
theorem sameW_iff {a b l : Nat} : sameW a b l = true ↔ a % 2 ^ l = b % 2 ^ l := by simp [sameW]
theorem same_common {a b l : Nat} (ha : a ≤ 65535) (hb : b ≤ 65535) (hl : l ≤ 16) : decide ((l : Int) ≤ min (tzF (a ^^^ b)) 16) = sameW a b l := by
  have hx : a ^^^ b < 65536 := Nat.xor_lt_two_pow (n := 16) (by omega) (by omega)
  rw [sameW]
  refine Bool.eq_iff_iff.2 ?_
  rw [decide_eq_true_eq, tzF_le hx hl, xor_mod_eq, beq_iff_eq]
theorem same_succ {a b l : Nat} : sameW a b (l + 1) = (sameW a b l && (bitW a l == bitW b l)) := by
  refine Bool.eq_iff_iff.2 ?_
  simp only [sameW, bitW, Bool.and_eq_true, beq_iff_eq]
  have e : ∀ x : Nat, x % 2 ^ (l + 1) = x % 2 ^ l + 2 ^ l * (x / 2 ^ l % 2) := fun x => by
    rw [Nat.pow_succ, Nat.mod_mul]
  rw [e, e]
  have h1 := Nat.mod_lt a (Nat.two_pow_pos l)
  have h2 := Nat.mod_lt b (Nat.two_pow_pos l)
  constructor
  · intro h
    have hq : a / 2 ^ l % 2 = b / 2 ^ l % 2 := by
      have h3 : (a % 2 ^ l + 2 ^ l * (a / 2 ^ l % 2)) / 2 ^ l = (b % 2 ^ l + 2 ^ l * (b / 2 ^ l % 2)) / 2 ^ l := by rw [h]
      rw [Nat.add_mul_div_left _ _ (Nat.two_pow_pos l), Nat.add_mul_div_left _ _ (Nat.two_pow_pos l), Nat.div_eq_of_lt h1, Nat.div_eq_of_lt h2] at h3
      omega
    rw [hq] at h
    exact ⟨by omega, hq⟩
  · rintro ⟨h3, h4⟩
    rw [h3, h4]
end Go.Sx
namespace Go.Sx
open Go
theorem u32wrap (n : Int) : IntKind.u32.wrap n = n % 4294967296 := by
  simp [IntKind.wrap, IntKind.bits, IntKind.signed]
theorem bv32 {x : Nat} (h : x < 4294967296) : (BitVec.ofInt IntKind.u32.bits (x : Int)).toNat = x := by
  simp only [IntKind.bits, BitVec.toNat_ofInt]
  omega
theorem deb {x : Nat} (h0 : 0 < x) (hx : x ≤ 65535) : (IntKind.u32.wrap (IntKind.u32.wrap ↑(BitVec.ofInt IntKind.u32.bits (x : Int) &&& BitVec.ofInt IntKind.u32.bits (IntKind.u32.wrap (0 - (x : Int)))).toNat * 125613361)).fdiv (2 ^ min (Int.toNat 27) IntKind.u32.bits) =
    ((((x &&& (2 ^ 32 - x)) * 125613361) % 2 ^ 32 / 2 ^ 27 : Nat) : Int) := by
  have e1 : IntKind.u32.wrap (0 - (x : Int)) = ((2 ^ 32 - x : Nat) : Int) := by rw [u32wrap]; omega
  rw [e1, BitVec.toNat_and, bv32 (by omega), bv32 (by omega)]
  have hl : x &&& (2 ^ 32 - x) ≤ x := Nat.and_le_left
  generalize x &&& (2 ^ 32 - x) = y at *
  rw [u32wrap, u32wrap]
  have e2 : (2 : Int) ^ min (Int.toNat 27) IntKind.u32.bits = 134217728 := by decide
  rw [e2, Int.fdiv_eq_ediv_of_nonneg _ (by decide)]
  omega
theorem deb_tz {x : Nat} (h0 : 0 < x) (hx : x ≤ 65535) : (((x &&& (2 ^ 32 - x)) * 125613361) % 2 ^ 32 / 2 ^ 27) < 32 := by omega
theorem tzF_range {x : Nat} : 0 ≤ tzF x ∧ tzF x ≤ 32 := by
  unfold tzF
  split
  · omega
  · have : ∀ n, n < 32 → 0 ≤ tz32N n ∧ tz32N n ≤ 32 := by decide
    exact this _ (by omega)
theorem bit_val {w : Nat} {i : Int} (hw : w ≤ 65535) (h0 : 0 ≤ i) (h1 : i < 16) :
    IntKind.i64.wrap (IntKind.u32.wrap ↑(BitVec.ofInt IntKind.u32.bits ((w : Int).fdiv (2 ^ min i.toNat IntKind.u32.bits)) &&& BitVec.ofInt IntKind.u32.bits 1).toNat) = (bitW w i.toNat : Int) := by
  have e : min i.toNat IntKind.u32.bits = i.toNat := by simp [IntKind.bits]; omega
  rw [e]
  have e2 : (w : Int).fdiv (2 ^ i.toNat) = ((w / 2 ^ i.toNat : Nat) : Int) := by
    rw [Int.fdiv_eq_ediv_of_nonneg _ (by exact Int.pow_nonneg (by decide))]; simp
  have hle : w / 2 ^ i.toNat ≤ w := Nat.div_le_self _ _
  rw [e2, BitVec.toNat_and, bv32 (by omega)]
  have e3 : (BitVec.ofInt IntKind.u32.bits 1).toNat = 1 := by decide
  rw [e3, Nat.and_one_is_mod, u32wrap]
  unfold bitW
  generalize w / 2 ^ i.toNat = q at *
  rw [show (((q % 2 : Nat) : Int) % 4294967296) = ((q % 2 : Nat) : Int) by omega]
  exact wrap_of (by omega) (by omega)
theorem xor_val {a b : Nat} (ha : a ≤ 65535) (hb : b ≤ 65535) : IntKind.u32.wrap ↑(BitVec.ofInt IntKind.u32.bits (a : Int) ^^^ BitVec.ofInt IntKind.u32.bits (b : Int)).toNat = ((a ^^^ b : Nat) : Int) := by
  have hx : a ^^^ b < 65536 := Nat.xor_lt_two_pow (n := 16) (by omega) (by omega)
  rw [BitVec.toNat_xor, bv32 (by omega), bv32 (by omega), u32wrap]
  omega
end Go.Sx
