/- Part of a symbolic executor over the model, proved sound, with plain laws: SxCol. Written for these claims. -/
import Derived.Test.YtohenbaodklohaaDoorSxGrp
namespace Go.Sx
open Go
set_option linter.unusedVariables false
set_option linter.unusedSimpArgs false

/-! stores of copies (chapter 34) -/
structure StoT where
  node : Int
  grp : Int
  ser : Int
  copy : CopyT
def noSto : StoT := ⟨0, 0, 0, noCopy⟩
instance : Inhabited StoT := ⟨⟨0, 0, 0, default⟩⟩
structure MrkT where
  grp : Int
  nodes : List Int
instance : Inhabited MrkT := ⟨⟨0, []⟩⟩
structure SwpT where
  marks : List MrkT
  ser : Int
  pos : Int
def keyS (x : StoT) (n g : Int) : Bool := x.node == n && x.grp == g
def dropS (l : List StoT) (n g : Int) : List StoT := l.filter fun x => !(keyS x n g)
def storeS (l : List StoT) (s : StoT) : List StoT := dropS l s.node s.grp ++ [s]
def findS : List StoT → Int → Int → StoT × Bool
  | [], _, _ => (noSto, false)
  | x :: l, n, g => if keyS x n g then (x, true) else findS l n g
def marksS (gs : List GrpT) : List MrkT := gs.map fun g => ⟨g.num, liveL g.mem⟩
def markedS (ms : List MrkT) (n g : Int) : Bool := ms.any fun m => m.grp == g && m.nodes.contains n
def deadS (ms : List MrkT) (ser : Int) (s : StoT) : Bool := decide (s.ser ≤ ser) && !(markedS ms s.node s.grp)
def sweepS (l : List StoT) (ms : List MrkT) (ser : Int) : List StoT := l.filter fun x => !(deadS ms ser x)
def beginS (gs : List GrpT) (ser : Int) : SwpT := ⟨marksS gs, ser, 0⟩
def stepS (c : SwpT) (l : List StoT) : (SwpT × List StoT) × Bool :=
  if c.pos < 0 ∨ (l.length : Int) ≤ c.pos then ((c, l), false)
  else if deadS c.marks c.ser (l.getD c.pos.toNat default) then ((c, l.take c.pos.toNat ++ l.drop (c.pos.toNat + 1)), true)
  else (({ c with pos := c.pos + 1 }, l), true)
def needS (l : List StoT) (num : Int) (m : MemT) : Bool := !m.up || ((findS l m.id num).2 && sameC (findS l m.id num).1.copy m.copy)
def completeG (l : List StoT) (g : GrpT) : Bool := g.mem.all (needS l g.num)
def completeS (l : List StoT) (gs : List GrpT) : Bool := gs.all (completeG l)
def saveS (x : List StoT) (num ser : Int) : List MemT → List StoT
  | [] => x
  | m :: ms => saveS (if m.up then storeS x ⟨m.id, num, ser, m.copy⟩ else x) num ser ms

theorem find_at {l : List StoT} {n g : Int} {i : Nat} (h : i < l.length) : findS (l.drop i) n g = if keyS (l.getD i default) n g then (l.getD i default, true) else findS (l.drop (i + 1)) n g := by
  rw [drop_cons' h, findS]
theorem find_end {l : List StoT} {n g : Int} {i : Nat} (h : l.length ≤ i) : findS (l.drop i) n g = (noSto, false) := by
  rw [List.drop_eq_nil_of_le h, findS]
theorem find_app {a b : List StoT} {n g : Int} : findS (a ++ b) n g = if (findS a n g).2 then findS a n g else findS b n g := by
  induction a with
  | nil => simp [findS]
  | cons x a ih =>
    simp only [List.cons_append, findS]
    split
    · simp
    · exact ih
theorem key_eq {x : StoT} {n g : Int} : keyS x n g = true ↔ x.node = n ∧ x.grp = g := by simp [keyS]
theorem find_drop {l : List StoT} {n g n' g' : Int} : findS (dropS l n' g') n g = if n = n' ∧ g = g' then (noSto, false) else findS l n g := by
  induction l with
  | nil => simp [dropS, findS]
  | cons x l ih =>
    simp only [dropS, List.filter_cons] at ih ⊢
    by_cases hk : keyS x n' g' = true
    · simp only [hk, Bool.not_true, Bool.false_eq_true, if_false, ih]
      have := key_eq.1 hk
      by_cases he : n = n' ∧ g = g'
      · rw [if_pos he, if_pos he]
      · rw [if_neg he, if_neg he, findS, if_neg (fun h => he (by have := key_eq.1 h; omega))]
    · have hk : keyS x n' g' = false := by simpa using hk
      simp only [hk, Bool.not_false, if_true, findS, ih]
      by_cases he : n = n' ∧ g = g'
      · rw [if_pos he, if_pos he, if_neg (by rw [he.1, he.2, hk]; simp)]
      · rw [if_neg he, if_neg he]
theorem find_store {l : List StoT} {s : StoT} {n g : Int} : findS (storeS l s) n g = if keyS s n g then (s, true) else findS l n g := by
  rw [storeS, find_app, find_drop]
  by_cases hk : keyS s n g = true
  · have := key_eq.1 hk
    rw [if_pos (show n = s.node ∧ g = s.grp by omega), if_pos hk]
    simp [findS, hk]
  · have hn : ¬ (n = s.node ∧ g = s.grp) := fun h => hk (key_eq.2 ⟨h.1.symm, h.2.symm⟩)
    simp only [if_neg hn, if_neg hk]
    split
    · rfl
    · rename_i h
      simp only [findS, if_neg hk]
      cases hf : findS l n g with
      | mk a b =>
        rw [hf] at h
        simp only [Bool.not_eq_true] at h
        subst h
        clear hk
        induction l with
        | nil => simpa [findS] using hf
        | cons x l ih =>
          simp only [findS] at hf
          split at hf
          · simp at hf
          · exact ih hf
theorem find_new {l : List StoT} {s : StoT} : findS (storeS l s) s.node s.grp = (s, true) := by rw [find_store, if_pos (key_eq.2 ⟨rfl, rfl⟩)]
theorem find_mem {l : List StoT} {n g : Int} (h : (findS l n g).2 = true) : (findS l n g).1 ∈ l ∧ keyS (findS l n g).1 n g = true := by
  induction l with
  | nil => simp [findS] at h
  | cons x l ih =>
    simp only [findS] at h ⊢
    split
    · rename_i hk; exact ⟨by simp, hk⟩
    · rename_i hk
      rw [if_neg hk] at h
      exact ⟨List.mem_cons_of_mem _ (ih h).1, (ih h).2⟩
/-- one row is taken out -/
theorem find_cut {l : List StoT} {n g : Int} {s : StoT} : ∀ {i : Nat}, i < l.length → findS l n g = (s, true) → l.getD i default ≠ s → findS (l.take i ++ l.drop (i + 1)) n g = (s, true) := by
  induction l with
  | nil => intro i hi; simp at hi
  | cons x l ih =>
    intro i hi hf hne
    cases i with
    | zero =>
      simp only [findS] at hf
      simp only [List.getD_cons_zero] at hne
      rw [if_neg (fun h => by rw [if_pos h] at hf; simp only [Prod.mk.injEq, and_true] at hf; exact hne hf)] at hf
      simpa using hf
    | succ i =>
      simp only [List.getD_cons_succ] at hne
      simp only [findS] at hf
      simp only [List.take_succ_cons, List.cons_append, findS, List.drop_succ_cons]
      split
      · rename_i hk; rw [if_pos hk] at hf; exact hf
      · rename_i hk; rw [if_neg hk] at hf
        exact ih (by simpa using hi) hf hne
/-! what a sweeper leaves -/
def KeptS (x : List StoT) (c : SwpT) (g : GrpT) : Prop := ∀ m ∈ g.mem, m.up = true → ∃ s, findS x m.id g.num = (s, true) ∧ s.copy = m.copy ∧ (c.ser < s.ser ∨ markedS c.marks m.id g.num = true)
theorem kept_complete {x : List StoT} {c : SwpT} {g : GrpT} (h : KeptS x c g) : completeG x g = true := by
  simp only [completeG, List.all_eq_true]
  intro m hm
  cases hu : m.up with
  | false => simp [needS, hu]
  | true =>
    obtain ⟨s, h1, h2, _⟩ := h m hm hu
    simp [needS, hu, h1, h2, sameC_refl]
theorem live_mem {ms : List MemT} {m : MemT} (h : m ∈ ms) (hu : m.up = true) : m.id ∈ liveL ms := by
  simp only [liveL, List.mem_map, List.mem_filter]
  exact ⟨m, ⟨h, hu⟩, rfl⟩
theorem marked_live {gs : List GrpT} {g : GrpT} {m : MemT} (hg : g ∈ gs) (h : m ∈ g.mem) (hu : m.up = true) : markedS (marksS gs) m.id g.num = true := by
  simp only [markedS, marksS, List.any_map, List.any_eq_true]
  refine ⟨g, hg, ?_⟩
  have := live_mem h hu
  simpa using this
theorem kept_begin {x : List StoT} {c : SwpT} {gs : List GrpT} {ser : Int} {g : GrpT} (hg : g ∈ gs) (h : KeptS x c g) : KeptS x (beginS gs ser) g := fun m hm hu => by
  obtain ⟨s, h1, h2, _⟩ := h m hm hu
  exact ⟨s, h1, h2, .inr (marked_live hg hm hu)⟩
theorem step_keep {c : SwpT} {l : List StoT} : (stepS c l).1.1.marks = c.marks ∧ (stepS c l).1.1.ser = c.ser := by
  unfold stepS
  split
  · exact ⟨rfl, rfl⟩
  · split <;> exact ⟨rfl, rfl⟩
theorem kept_step {x : List StoT} {c : SwpT} {g : GrpT} (h : KeptS x c g) : KeptS (stepS c x).1.2 (stepS c x).1.1 g := by
  intro m hm hu
  obtain ⟨s, h1, h2, h3⟩ := h m hm hu
  rw [step_keep.1, step_keep.2]
  refine ⟨s, ?_, h2, h3⟩
  unfold stepS
  split
  · exact h1
  · rename_i hp
    split
    · rename_i hd
      refine find_cut (by omega) h1 (fun e => ?_)
      rw [e] at hd
      have hk := find_mem (l := x) (n := m.id) (g := g.num) (by rw [h1])
      rw [h1] at hk
      have hk := key_eq.1 hk.2
      simp only at hk
      simp only [deadS, Bool.and_eq_true, decide_eq_true_eq, Bool.not_eq_true', hk.1, hk.2] at hd
      rcases h3 with h3 | h3
      · omega
      · rw [h3] at hd; simp at hd
    · exact h1
theorem save_other {num ser n g : Int} (hg : g ≠ num) : ∀ {ms : List MemT} {x : List StoT}, findS (saveS x num ser ms) n g = findS x n g
  | [], _ => rfl
  | m :: ms, x => by
    rw [saveS, save_other hg]
    split
    · rw [find_store, if_neg (fun h => by have := key_eq.1 h; simp only at this; omega)]
    · rfl
theorem save_absent {num ser n : Int} : ∀ {ms : List MemT} {x : List StoT}, (∀ m ∈ ms, m.id ≠ n) → findS (saveS x num ser ms) n num = findS x n num
  | [], _, _ => rfl
  | m :: ms, x, h => by
    rw [saveS, save_absent (fun k hk => h k (List.mem_cons_of_mem _ hk))]
    split
    · rw [find_store, if_neg (fun hk => by have := key_eq.1 hk; exact h m (by simp) this.1)]
    · rfl
/-- no two members have the same number -/
def Ids (ms : List MemT) : Prop := ms.Pairwise fun a b => a.id ≠ b.id
theorem ids_uniq {ms : List MemT} (h : Uniq ms) : Ids ms := by
  refine List.pairwise_iff_getElem.2 fun i j hi hj hij e => ?_
  have := h i j hi hj (by simpa [List.getD, hi, hj] using e)
  omega
theorem save_find {num ser : Int} : ∀ {ms : List MemT} {x : List StoT}, Ids ms → ∀ m ∈ ms, m.up = true → findS (saveS x num ser ms) m.id num = (⟨m.id, num, ser, m.copy⟩, true)
  | [], _, _, m, hm, _ => absurd hm (by simp)
  | a :: ms, x, hp, m, hm, hu => by
    have hp' := List.pairwise_cons.1 hp
    rw [saveS]
    rcases List.mem_cons.1 hm with rfl | hm
    · rw [save_absent (fun k hk e => hp'.1 k hk e.symm), if_pos hu, find_store, if_pos (key_eq.2 ⟨rfl, rfl⟩)]
    · exact save_find hp'.2 m hm hu
theorem kept_save {x : List StoT} {c : SwpT} {g : GrpT} {ser : Int} (hi : Ids g.mem) (hs : c.ser < ser) : KeptS (saveS x g.num ser g.mem) c g := fun m hm hu =>
  ⟨_, save_find hi m hm hu, rfl, .inl hs⟩
theorem kept_other {x : List StoT} {c : SwpT} {g : GrpT} {num ser : Int} {ms : List MemT} (hg : g.num ≠ num) (h : KeptS x c g) : KeptS (saveS x num ser ms) c g := fun m hm hu => by
  obtain ⟨s, h1, h2, h3⟩ := h m hm hu
  exact ⟨s, by rw [save_other hg]; exact h1, h2, h3⟩
/-- all groups are kept -/
structure SafeS (x : List StoT) (c : SwpT) (gs : List GrpT) (ser : Int) : Prop where
  kept : ∀ g ∈ gs, KeptS x c g
  ids : ∀ g ∈ gs, Ids g.mem
  nums : ∀ i, i < gs.length → (gs.getD i ⟨0, false, []⟩).num = (i : Int) + 1
  le : c.ser ≤ ser
theorem safe_complete {x : List StoT} {c : SwpT} {gs : List GrpT} {ser : Int} (h : SafeS x c gs ser) : completeS x gs = true := by
  simp only [completeS, List.all_eq_true]
  exact fun g hg => kept_complete (h.kept g hg)
theorem safe_begin {x : List StoT} {c : SwpT} {gs : List GrpT} {ser : Int} (h : SafeS x c gs ser) : SafeS x (beginS gs ser) gs ser :=
  ⟨fun g hg => kept_begin hg (h.kept g hg), h.ids, h.nums, Int.le_refl _⟩
theorem safe_step {x : List StoT} {c : SwpT} {gs : List GrpT} {ser : Int} (h : SafeS x c gs ser) : SafeS (stepS c x).1.2 (stepS c x).1.1 gs ser :=
  ⟨fun g hg => kept_step (h.kept g hg), h.ids, h.nums, by rw [step_keep.2]; exact h.le⟩
theorem getD_memG {gs : List GrpT} {i : Nat} {d : GrpT} (h : i < gs.length) : gs.getD i d ∈ gs := by
  simp [List.getD, h]
theorem safe_save {x : List StoT} {c : SwpT} {gs : List GrpT} {ser : Int} {i : Nat} {h' : GrpT} (h : SafeS x c gs ser) (hi : i < gs.length) (hu : Ids h'.mem) (hn : h'.num = (gs.getD i ⟨0, false, []⟩).num) :
    SafeS (saveS x h'.num (ser + 1) h'.mem) c (gs.set i h') (ser + 1) := by
  have hni := h.nums i hi
  have get : ∀ g ∈ gs.set i h', g = h' ∨ ∃ j, j < gs.length ∧ j ≠ i ∧ g = gs.getD j ⟨0, false, []⟩ := by
    intro g hg
    obtain ⟨j, hj, rfl⟩ := List.getElem_of_mem hg
    rw [List.length_set] at hj
    by_cases e : i = j
    · subst e; left; simp
    · right; exact ⟨j, hj, Ne.symm e, by simp [List.getElem_set_ne e, List.getD, hj]⟩
  refine ⟨?_, ?_, ?_, by have := h.le; omega⟩
  · intro g hg
    rcases get g hg with rfl | ⟨j, hj, hne, rfl⟩
    · exact kept_save hu (by have := h.le; omega)
    · have hnj := h.nums j hj
      exact kept_other (by omega) (h.kept _ (getD_memG hj))
  · intro g hg
    rcases get g hg with rfl | ⟨j, hj, hne, rfl⟩
    · exact hu
    · exact h.ids _ (getD_memG hj)
  · intro j hj
    rw [List.length_set] at hj
    by_cases e : i = j
    · subst e; simp [List.getD, hj, hn]; simpa [List.getD, hj] using hni
    · have := h.nums j hj
      simp only [List.getD, List.getElem?_set_ne e]
      exact this
/-- the groups are saved one after another -/
def saveAll (x : List StoT) (ser : Int) (gs : List GrpT) : List StoT := gs.foldl (fun x g => saveS x g.num ser g.mem) x
theorem saveAll_take {x : List StoT} {ser : Int} {gs : List GrpT} {i : Nat} {d : GrpT} (h : i < gs.length) : saveAll x ser (gs.take (i + 1)) = saveS (saveAll x ser (gs.take i)) (gs.getD i d).num ser (gs.getD i d).mem := by
  have : gs.take (i + 1) = gs.take i ++ [gs.getD i d] := by rw [List.take_add_one, List.getElem?_eq_getElem h]; simp [List.getD, h]
  rw [this, saveAll, List.foldl_append]; rfl
theorem saveAll_kept {c : SwpT} {ser : Int} (hs : c.ser < ser) : ∀ {gs : List GrpT} {x : List StoT}, (∀ g ∈ gs, Ids g.mem) → gs.Pairwise (fun a b => a.num ≠ b.num) → ∀ g ∈ gs, KeptS (saveAll x ser gs) c g := by
  have other : ∀ {gs : List GrpT} {x : List StoT} {g : GrpT}, (∀ h ∈ gs, g.num ≠ h.num) → KeptS x c g → KeptS (saveAll x ser gs) c g := by
    intro gs
    induction gs with
    | nil => intro x g _ h; exact h
    | cons a gs ih => intro x g hn h; exact ih (fun k hk => hn k (List.mem_cons_of_mem _ hk)) (kept_other (hn a (by simp)) h)
  intro gs
  induction gs with
  | nil => intro x _ _ g hg; simp at hg
  | cons a gs ih =>
    intro x hi hp g hg
    have hp' := List.pairwise_cons.1 hp
    rcases List.mem_cons.1 hg with rfl | hg
    · exact other (gs := gs) (x := saveS x g.num ser g.mem) hp'.1 (kept_save (hi g (by simp)) hs)
    · exact ih (fun k hk => hi k (List.mem_cons_of_mem _ hk)) hp'.2 g hg
theorem nums_pair {gs : List GrpT} (h : ∀ i, i < gs.length → (gs.getD i ⟨0, false, []⟩).num = (i : Int) + 1) : gs.Pairwise fun a b => a.num ≠ b.num := by
  refine List.pairwise_iff_getElem.2 fun i j hi hj hij e => ?_
  have h1 := h i hi
  have h2 := h j hj
  simp only [List.getD, List.getElem?_eq_getElem, hi, hj, Option.getD_some] at h1 h2
  omega
/-- the beginning: nothing is marked and no copy is old -/
theorem safe_all {gs : List GrpT} (hi : ∀ g ∈ gs, Ids g.mem) (hn : ∀ i, i < gs.length → (gs.getD i ⟨0, false, []⟩).num = (i : Int) + 1) : SafeS (saveAll [] 1 gs) (beginS gs 1) gs 1 := by
  have h0 : ∀ g ∈ gs, KeptS (saveAll [] 1 gs) ⟨[], 0, 0⟩ g := saveAll_kept (c := ⟨[], 0, 0⟩) (by simp) hi (nums_pair hn)
  exact ⟨fun g hg => kept_begin hg (h0 g hg), hi, hn, Int.le_refl _⟩
/-! bounds -/
structure StoB (n : Nat) (l : List StoT) : Prop where
  len : l.length ≤ n
  small : ∀ s ∈ l, SmallC s.copy
theorem StoB.mono {n m : Nat} {l : List StoT} (h : StoB n l) (k : n ≤ m) : StoB m l := ⟨by have := h.len; omega, h.small⟩
theorem stob_nil {n : Nat} : StoB n [] := ⟨by simp, by simp⟩
theorem sto_small {n : Nat} {l : List StoT} (h : StoB n l) (i : Nat) : SmallC (l.getD i default).copy := by
  rcases Nat.lt_or_ge i l.length with hi | hi
  · exact h.small _ (getD_mem hi)
  · have e : l.getD i default = default := by simp [List.getD, hi]
    rw [e]; simp [default, SmallC]
theorem drop_len {l : List StoT} {n g : Int} : (dropS l n g).length ≤ l.length := List.length_filter_le _ _
theorem stob_store {n : Nat} {l : List StoT} {s : StoT} (h : StoB n l) (hs : SmallC s.copy) : StoB (n + 1) (storeS l s) := by
  refine ⟨?_, fun x hx => ?_⟩
  · have := h.len
    have := drop_len (l := l) (n := s.node) (g := s.grp)
    simp only [storeS, List.length_append, List.length_singleton]; omega
  · simp only [storeS, List.mem_append, List.mem_singleton, dropS, List.mem_filter] at hx
    rcases hx with hx | rfl
    · exact h.small x hx.1
    · exact hs
theorem stob_save {num ser : Int} : ∀ {ms : List MemT} {n : Nat} {x : List StoT}, StoB n x → (∀ m ∈ ms, SmallC m.copy) → StoB (n + ms.length) (saveS x num ser ms)
  | [], _, _, h, _ => h
  | m :: ms, n, x, h, hm => by
    rw [saveS]
    have : StoB (n + 1) (if m.up then storeS x ⟨m.id, num, ser, m.copy⟩ else x) := by
      split
      · exact stob_store h (hm m (by simp))
      · exact h.mono (by omega)
    have := stob_save (num := num) (ser := ser) this (fun k hk => hm k (List.mem_cons_of_mem _ hk))
    exact this.mono (by simp only [List.length_cons]; omega)
theorem stob_step {n : Nat} {c : SwpT} {l : List StoT} (h : StoB n l) : StoB n (stepS c l).1.2 := by
  unfold stepS
  split
  · exact h
  · split
    · have := h.len
      refine ⟨by simp only [List.length_append, List.length_take, List.length_drop]; omega, fun x hx => ?_⟩
      simp only [List.mem_append] at hx
      rcases hx with hx | hx
      · exact h.small x (List.mem_of_mem_take hx)
      · exact h.small x (List.mem_of_mem_drop hx)
    · exact h
theorem save_take {x : List StoT} {num ser : Int} : ∀ {ms : List MemT} {i : Nat}, i < ms.length → saveS x num ser (ms.take (i + 1)) = if (ms.getD i default).up then storeS (saveS x num ser (ms.take i)) ⟨(ms.getD i default).id, num, ser, (ms.getD i default).copy⟩ else saveS x num ser (ms.take i) := by
  intro ms
  induction ms generalizing x with
  | nil => intro i h; simp at h
  | cons m ms ih =>
    intro i hi
    cases i with
    | zero => simp [saveS]
    | succ i =>
      simp only [List.take_succ_cons, saveS, List.getD_cons_succ]
      exact ih (by simpa using hi)
end Go.Sx

namespace Go.Sx
open Go
set_option linter.unusedVariables false
set_option linter.unusedSimpArgs false

/-! what stays when nothing changes any more -/
def entM (num ser : Int) (ms : List MemT) : List StoT := (ms.filter (·.up)).map fun m => ⟨m.id, num, ser, m.copy⟩
def liveIn (s : StoT) (g : GrpT) : Bool := g.mem.any fun m => m.up && keyS s m.id g.num
def entAll (ser : Int) (gs : List GrpT) : List StoT := gs.flatMap fun g => entM g.num ser g.mem
theorem save_eq {num ser : Int} : ∀ {ms : List MemT} {x : List StoT}, Ids ms → saveS x num ser ms = x.filter (fun s => !(ms.any fun m => m.up && keyS s m.id num)) ++ entM num ser ms
  | [], x, _ => by simp [saveS, entM, List.filter_eq_self.2]
  | a :: ms, x, hp => by
    have hp' := List.pairwise_cons.1 hp
    rw [saveS, save_eq hp'.2]
    cases hu : a.up with
    | false => simp [entM, hu]
    | true =>
      have hk : (!(ms.any fun m => m.up && keyS ⟨a.id, num, ser, a.copy⟩ m.id num)) = true := by
        simp only [Bool.not_eq_true', List.any_eq_false, Bool.and_eq_true, not_and, Bool.not_eq_true]
        intro m hm _
        have := hp'.1 m hm
        simp [keyS, this]
      simp only [if_true, storeS, dropS, List.filter_append, List.filter_filter, entM, List.filter_cons, hu, List.map_cons, List.filter_nil, hk, List.any_cons, Bool.true_and, List.append_assoc, List.cons_append, List.nil_append]
      congr 2
      funext s
      cases h1 : keyS s a.id num <;> cases h2 : (ms.any fun m => m.up && keyS s m.id num) <;> simp_all
theorem ent_mem {num ser : Int} {ms : List MemT} {s : StoT} (h : s ∈ entM num ser ms) : ∃ m ∈ ms, m.up = true ∧ s = ⟨m.id, num, ser, m.copy⟩ := by
  simp only [entM, List.mem_map, List.mem_filter] at h
  obtain ⟨m, ⟨h1, h2⟩, rfl⟩ := h
  exact ⟨m, h1, h2, rfl⟩
theorem live_not {s : StoT} {g : GrpT} (h : s.grp ≠ g.num) : liveIn s g = false := by
  simp only [liveIn, List.any_eq_false, Bool.and_eq_true, not_and, Bool.not_eq_true]
  intro m _ _
  simp [keyS, h]
theorem live_ent {ser : Int} {g : GrpT} {s : StoT} (h : s ∈ entM g.num ser g.mem) : liveIn s g = true := by
  obtain ⟨m, h1, h2, rfl⟩ := ent_mem h
  simp only [liveIn, List.any_eq_true, Bool.and_eq_true]
  exact ⟨m, h1, h2, key_eq.2 ⟨rfl, rfl⟩⟩
theorem saveAll_eq {ser : Int} : ∀ {gs : List GrpT} {x : List StoT}, (∀ g ∈ gs, Ids g.mem) → gs.Pairwise (fun a b => a.num ≠ b.num) → saveAll x ser gs = x.filter (fun s => !(gs.any (liveIn s))) ++ entAll ser gs
  | [], x, _, _ => by simp [saveAll, entAll, List.filter_eq_self.2]
  | g :: gs, x, hi, hp => by
    have hp' := List.pairwise_cons.1 hp
    have h1 : saveAll x ser (g :: gs) = saveAll (saveS x g.num ser g.mem) ser gs := rfl
    rw [h1, saveAll_eq (fun k hk => hi k (List.mem_cons_of_mem _ hk)) hp'.2, save_eq (hi g (by simp)), List.filter_append, List.filter_filter]
    have h2 : (entM g.num ser g.mem).filter (fun s => !(gs.any (liveIn s))) = entM g.num ser g.mem := by
      refine List.filter_eq_self.2 fun s hs => ?_
      obtain ⟨m, _, _, rfl⟩ := ent_mem hs
      simp only [Bool.not_eq_true', List.any_eq_false, Bool.not_eq_true]
      exact fun k hk => live_not (hp'.1 k hk)
    rw [h2]
    simp only [entAll, List.flatMap_cons, List.append_assoc, List.any_cons]
    congr 2
    funext s
    have : liveIn s g = g.mem.any fun m => m.up && keyS s m.id g.num := rfl
    rw [← this]
    cases liveIn s g <;> cases gs.any (liveIn s) <;> rfl
theorem marked_any {gs : List GrpT} {s : StoT} : markedS (marksS gs) s.node s.grp = gs.any (liveIn s) := by
  simp only [markedS, marksS, List.any_map]
  congr 1
  funext g
  rw [Bool.eq_iff_iff]
  simp only [Function.comp, Bool.and_eq_true, beq_iff_eq, liveIn, List.any_eq_true, keyS, liveL, List.contains_iff_mem, List.mem_map, List.mem_filter]
  constructor
  · rintro ⟨h1, m, ⟨h2, h3⟩, h4⟩
    exact ⟨m, h2, h3, h4.symm, h1.symm⟩
  · rintro ⟨m, h1, h2, h3, h4⟩
    exact ⟨h4.symm, m, ⟨h1, h2⟩, h3.symm⟩
/-- the sweeper ends with the copies of the members that are up -/
theorem sweep_all {ser : Int} {pre gs : List GrpT} {x : List StoT} (hi : ∀ g ∈ pre ++ gs, Ids g.mem) (hp : (pre ++ gs).Pairwise fun a b => a.num ≠ b.num) (hs : ∀ s ∈ x, s.ser ≤ ser) :
    sweepS (saveAll x ser (pre ++ gs)) (marksS gs) ser = entAll ser gs := by
  rw [saveAll_eq hi hp]
  have hp' := List.pairwise_append.1 hp
  have ha : ∀ {s : StoT} {l : List GrpT}, s ∈ entAll ser l → ∃ g ∈ l, s ∈ entM g.num ser g.mem := fun h => by
    simp only [entAll, List.mem_flatMap] at h; exact h
  have hd : ∀ s : StoT, s.ser ≤ ser → (!(deadS (marksS gs) ser s)) = gs.any (liveIn s) := fun s h => by
    rw [deadS, marked_any, decide_eq_true h]; simp
  have e1 : (x.filter fun s => !((pre ++ gs).any (liveIn s))).filter (fun s => !(deadS (marksS gs) ser s)) = [] := by
    refine List.filter_eq_nil_iff.2 fun s hs' => ?_
    have := List.mem_filter.1 hs'
    rw [hd s (hs s this.1)]
    have h2 := this.2
    simp only [List.any_append, Bool.not_or, Bool.and_eq_true, Bool.not_eq_true'] at h2
    rw [h2.2]; simp
  have e2 : (entAll ser pre).filter (fun s => !(deadS (marksS gs) ser s)) = [] := by
    refine List.filter_eq_nil_iff.2 fun s hs' => ?_
    obtain ⟨g, hg, h⟩ := ha hs'
    obtain ⟨m, h1, h2, rfl⟩ := ent_mem h
    rw [hd _ (Int.le_refl _)]
    simp only [List.any_eq_true, not_exists, not_and, Bool.not_eq_true]
    exact fun k hk => live_not (hp'.2.2 g hg k hk)
  have e3 : (entAll ser gs).filter (fun s => !(deadS (marksS gs) ser s)) = entAll ser gs := by
    refine List.filter_eq_self.2 fun s hs' => ?_
    obtain ⟨g, hg, h⟩ := ha hs'
    have h9 := live_ent h
    obtain ⟨m, h1, h2, rfl⟩ := ent_mem h
    rw [hd _ (Int.le_refl _), List.any_eq_true]
    exact ⟨g, hg, h9⟩
  have e4 : entAll ser (pre ++ gs) = entAll ser pre ++ entAll ser gs := by simp [entAll]
  rw [sweepS, List.filter_append, e1, e4, List.filter_append, e2, e3]; rfl
def sumLive (gs : List GrpT) : Nat := (gs.map fun g => (liveL g.mem).length).sum
theorem ent_len {ser : Int} {gs : List GrpT} : (entAll ser gs).length = sumLive gs := by
  induction gs with
  | nil => rfl
  | cons g gs ih => simp only [entAll, List.flatMap_cons, List.length_append, sumLive, List.map_cons, List.sum_cons] at ih ⊢; rw [ih]; simp [entM, liveL]
theorem sum_take {gs : List GrpT} {i : Nat} {d : GrpT} (h : i < gs.length) : sumLive (gs.take (i + 1)) = sumLive (gs.take i) + (liveL (gs.getD i d).mem).length := by
  have : gs.take (i + 1) = gs.take i ++ [gs.getD i d] := by rw [List.take_add_one, List.getElem?_eq_getElem h]; simp [List.getD, h]
  rw [this]; simp [sumLive]
theorem find_ent {ser n g : Int} : ∀ {ms : List MemT}, Ids ms → ∀ m ∈ ms, m.up = true → m.id = n → findS (entM g ser ms) n g = (⟨m.id, g, ser, m.copy⟩, true)
  | [], _, m, hm, _, _ => by simp at hm
  | a :: ms, hp, m, hm, hu, hn => by
    have hp' := List.pairwise_cons.1 hp
    rcases List.mem_cons.1 hm with rfl | hm
    · simp only [entM, List.filter_cons, hu, if_true, List.map_cons, findS]
      rw [if_pos (key_eq.2 ⟨hn, rfl⟩)]
    · have ih := find_ent (ser := ser) (n := n) (g := g) hp'.2 m hm hu hn
      simp only [entM, List.filter_cons] at ih ⊢
      cases ha : a.up with
      | false => simpa [ha] using ih
      | true =>
        simp only [if_true, List.map_cons, findS]
        rw [if_neg (fun h => hp'.1 m hm (by have := key_eq.1 h; simp only at this; omega))]
        exact ih
theorem find_none {l : List StoT} {n g : Int} (h : ∀ s ∈ l, s.grp ≠ g) : (findS l n g).2 = false := by
  induction l with
  | nil => rfl
  | cons x l ih =>
    rw [findS, if_neg (fun hk => h x (by simp) (key_eq.1 hk).2)]
    exact ih (fun s hs => h s (List.mem_cons_of_mem _ hs))
theorem ent_complete {ser : Int} {gs : List GrpT} (hi : ∀ g ∈ gs, Ids g.mem) (hp : gs.Pairwise fun a b => a.num ≠ b.num) : completeS (entAll ser gs) gs = true := by
  have key : ∀ {l : List GrpT}, (∀ g ∈ l, Ids g.mem) → (l.Pairwise fun a b => a.num ≠ b.num) → ∀ g ∈ l, ∀ m ∈ g.mem, m.up = true → findS (entAll ser l) m.id g.num = (⟨m.id, g.num, ser, m.copy⟩, true) := by
    intro l
    induction l with
    | nil => intro _ _ g hg; simp at hg
    | cons a l ih =>
      intro hi hp g hg m hm hu
      have hp' := List.pairwise_cons.1 hp
      have e : entAll ser (a :: l) = entM a.num ser a.mem ++ entAll ser l := rfl
      rw [e, find_app]
      rcases List.mem_cons.1 hg with rfl | hg
      · have := find_ent (ser := ser) (n := m.id) (g := g.num) (hi g (by simp)) m hm hu rfl
        rw [this]; rfl
      · have hn := find_none (l := entM a.num ser a.mem) (n := m.id) (g := g.num) (fun s hs => by
          obtain ⟨_, _, _, rfl⟩ := ent_mem hs
          exact hp'.1 g hg)
        rw [hn]
        simpa using ih (fun k hk => hi k (List.mem_cons_of_mem _ hk)) hp'.2 g hg m hm hu
  simp only [completeS, completeG, List.all_eq_true]
  intro g hg m hm
  cases hu : m.up with
  | false => simp [needS, hu]
  | true => simp [needS, hu, key hi hp g hg m hm hu, sameC_refl]
/-- k steps -/
structure SwI (c0 : SwpT) (x0 : List StoT) (k : Nat) (c : SwpT) (x : List StoT) : Prop where
  le : k ≤ x0.length
  x : x = (x0.take k).filter (fun s => !(deadS c0.marks c0.ser s)) ++ x0.drop k
  pos : c.pos = ((x0.take k).filter (fun s => !(deadS c0.marks c0.ser s))).length
  marks : c.marks = c0.marks
  ser : c.ser = c0.ser
theorem swi_zero {c0 : SwpT} {x0 : List StoT} (h : c0.pos = 0) : SwI c0 x0 0 c0 x0 := ⟨Nat.zero_le _, by simp, by simpa using h, rfl, rfl⟩
theorem swi_step {c0 : SwpT} {x0 : List StoT} {k : Nat} {c : SwpT} {x : List StoT} (h : SwI c0 x0 k c x) (hk : k < x0.length) : SwI c0 x0 (k + 1) (stepS c x).1.1 (stepS c x).1.2 ∧ (stepS c x).2 = true := by
  obtain ⟨h1, h2, h3, h4, h5⟩ := h
  generalize hA : (x0.take k).filter (fun s => !(deadS c0.marks c0.ser s)) = A at h2 h3
  have hd : x0.drop k = x0.getD k default :: x0.drop (k + 1) := drop_cons' hk
  have ht : (x0.take (k + 1)).filter (fun s => !(deadS c0.marks c0.ser s)) = A ++ [x0.getD k default].filter (fun s => !(deadS c0.marks c0.ser s)) := by
    rw [take_succ' hk, List.filter_append, hA]
  have hg : x.getD A.length default = x0.getD k default := by
    rw [h2, getD_append_right (by omega), Nat.sub_self, hd]; rfl
  have hn : c.pos.toNat = A.length := by omega
  have hl : x.length = A.length + (x0.length - k) := by rw [h2]; simp
  unfold stepS
  rw [if_neg (by omega), hn, hg, h4, h5]
  cases hq : deadS c0.marks c0.ser (x0.getD k default) with
  | true =>
    rw [if_pos rfl]
    refine ⟨⟨by omega, ?_, ?_, h4, h5⟩, rfl⟩
    · rw [ht, h2, hd]; simp [hq, -List.getD_eq_getElem?_getD]
    · rw [ht]; simp [hq, h3, -List.getD_eq_getElem?_getD]
  | false =>
    rw [if_neg (by simp)]
    refine ⟨⟨by omega, ?_, ?_, rfl, rfl⟩, rfl⟩
    · rw [ht, h2, hd]; simp [hq, -List.getD_eq_getElem?_getD]
    · rw [ht]; simp [hq, h3, -List.getD_eq_getElem?_getD]
theorem swi_end {c0 : SwpT} {x0 : List StoT} {c : SwpT} {x : List StoT} (h : SwI c0 x0 x0.length c x) : stepS c x = ((c, x), false) ∧ x = sweepS x0 c0.marks c0.ser := by
  obtain ⟨h1, h2, h3, h4, h5⟩ := h
  simp only [List.take_length, List.drop_length, List.append_nil] at h2 h3
  refine ⟨?_, h2⟩
  unfold stepS
  rw [if_pos (.inr (by rw [h2, h3]; exact Int.le_refl _))]
end Go.Sx

namespace Go.Sx
open Go
set_option linter.unusedVariables false
set_option linter.unusedSimpArgs false

/-! groups that change (CollectSafe) -/
structure SafG (i : Nat) (g : GrpT) : Prop where
  num : g.num = (i : Int) + 1
  snd : SndG g
  rng : emptyR' (own0 g).copy.rng = false
theorem safg_propose {i : Nat} {g : GrpT} {w : Wr} (h : SafG i g) (he : (proposeG g w).2 = 0) : SafG i (proposeG g w).1 := by
  obtain ⟨h1, h2, _⟩ := snd_propose h.snd he
  exact ⟨by rw [(propose_inv he).2.2]; exact h.num, h1, by rw [h2.rng]; exact h.rng⟩
theorem replicate_num {g : GrpT} {id : Int} (he : (replicateG g id).2 = 0) : (replicateG g id).1.num = g.num := by
  obtain ⟨h1, h2, h3⟩ := replicate_inv he
  unfold replicateG; rw [if_neg (by rw [h1]; simp), if_neg h2, if_neg (by rw [h3]; simp)]
theorem safg_replicate {i : Nat} {g : GrpT} {id : Int} (h : SafG i g) (he : (replicateG g id).2 = 0) : SafG i (replicateG g id).1 := by
  obtain ⟨h1, h2⟩ := snd_replicate h.snd he
  exact ⟨by rw [replicate_num he]; exact h.num, h1, by rw [h2]; exact h.rng⟩
theorem safg_commit {i : Nat} {g : GrpT} (h : SafG i g) (he : (commitG g).2 = 0) : SafG i (commitG g).1.1 := by
  obtain ⟨h1, h2, _, _, _, h6⟩ := snd_commit h.snd he
  exact ⟨by rw [(commit_inv he).2.2.2]; exact h.num, h1, by rw [h2, (commit_keep h6).2.2.1]; exact h.rng⟩
theorem safg_crash {i : Nat} {g : GrpT} {id : Int} (h : SafG i g) (he : (crashG g id).2 = 0) : SafG i (crashG g id).1 := by
  obtain ⟨h1, h2, _⟩ := snd_crash h.snd he
  exact ⟨by rw [(crash_inv he).2.2]; exact h.num, h1, by rw [h2]; exact h.rng⟩
theorem safg_recruit {i : Nat} {g : GrpT} {id : Int} (h : SafG i g) (he : (recruitG g id).2 = 0) : SafG i (recruitG g id).1 := by
  obtain ⟨h1, h2⟩ := snd_recruit h.snd he
  exact ⟨by rw [(recruit_inv he).2.2.2.2]; exact h.num, h1, by rw [h2]; exact h.rng⟩
theorem safg_dismiss {i : Nat} {g : GrpT} {id : Int} (h : SafG i g) (he : (dismissG g id).2 = 0) : SafG i (dismissG g id).1 := by
  obtain ⟨h1, h2⟩ := snd_dismiss h.snd he
  exact ⟨by rw [(dismiss_inv he).2.2]; exact h.num, h1, by rw [h2]; exact h.rng⟩
structure SafN (n : Nat) (gs : List GrpT) : Prop where
  len : gs.length = n
  all : ∀ j, j < n → SafG j (gs.getD j ⟨0, false, []⟩)
theorem SafN.set {n i : Nat} {gs : List GrpT} {g : GrpT} (h : SafN n gs) (hg : SafG i g) : SafN n (gs.set i g) := by
  refine ⟨by simpa using h.len, fun j hj => ?_⟩
  by_cases e : i = j
  · subst e; simpa [List.getD, h.len, hj] using hg
  · have := h.all j hj
    simpa [List.getD, List.getElem?_set_ne e] using this
theorem SafN.mem {n : Nat} {gs : List GrpT} (h : SafN n gs) : ∀ g ∈ gs, SndG g := fun g hg => by
  obtain ⟨j, hj, rfl⟩ := List.getElem_of_mem hg
  have := (h.all j (by rw [← h.len]; exact hj)).snd
  simpa [List.getD, hj] using this
theorem SafN.ids {n : Nat} {gs : List GrpT} (h : SafN n gs) : ∀ g ∈ gs, Ids g.mem := fun g hg => ids_uniq (h.mem g hg).uniq
theorem SafN.nums {n : Nat} {gs : List GrpT} (h : SafN n gs) : ∀ i, i < gs.length → (gs.getD i ⟨0, false, []⟩).num = (i : Int) + 1 := fun i hi => by
  have := (h.all i (by rw [← h.len]; exact hi)).num
  exact this
/-- what the walk of CollectSafe keeps -/
structure SafI (n k : Nat) (gs : List GrpT) (x : List StoT) (c : SwpT) (ser : Int) : Prop where
  safe : SafeS x c gs ser
  grp : SafN n gs
  sto : StoB (20 + 5 * k) x
  ser : 1 ≤ ser ∧ ser ≤ (k : Int) + 1
theorem SafI.mono {n k m : Nat} {gs : List GrpT} {x : List StoT} {c : SwpT} {ser : Int} (h : SafI n k gs x c ser) (hk : k ≤ m) : SafI n m gs x c ser := ⟨h.safe, h.grp, h.sto.mono (by omega), by have := h.ser; omega⟩
theorem safi_save {n k i : Nat} {gs : List GrpT} {x : List StoT} {c : SwpT} {ser : Int} {g : GrpT} (h : SafI n k gs x c ser) (hi : i < n) (hg : SafG i g) : SafI n (k + 1) (gs.set i g) (saveS x g.num (ser + 1) g.mem) c (ser + 1) := by
  have h1 := h.safe.nums i (by rw [h.grp.len]; exact hi)
  refine ⟨safe_save h.safe (by rw [h.grp.len]; exact hi) (ids_uniq hg.snd.uniq) (by rw [h1]; exact hg.num), h.grp.set hg, ?_, by have := h.ser; omega⟩
  have h5 := hg.snd.n5
  exact (stob_save h.sto (fun m hm => (hg.snd.all m hm).2.2)).mono (by omega)
theorem safi_begin {n k : Nat} {gs : List GrpT} {x : List StoT} {c : SwpT} {ser : Int} (h : SafI n k gs x c ser) : SafI n k gs x (beginS gs ser) ser := ⟨safe_begin h.safe, h.grp, h.sto, h.ser⟩
theorem safi_step {n k : Nat} {gs : List GrpT} {x : List StoT} {c : SwpT} {ser : Int} (h : SafI n k gs x c ser) : SafI n k gs (stepS c x).1.2 (stepS c x).1.1 ser := ⟨safe_step h.safe, h.grp, stob_step h.sto, h.ser⟩
end Go.Sx
