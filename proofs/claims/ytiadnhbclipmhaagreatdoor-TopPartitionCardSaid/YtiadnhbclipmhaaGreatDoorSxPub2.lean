/- Part of a symbolic executor over the model, proved sound, with plain laws: SxPub2. Written for these claims. -/
import Derived.Test.YtiadnhbclipmhaaGreatDoorSxTab
import Derived.Test.YtiadnhbclipmhaaGreatDoorSxTop
set_option linter.unusedVariables false
set_option linter.unusedSimpArgs false
namespace Go.Sx
open Go
variable {P : Program} {G : Nat → Option (Nat × (Nat → D))}
theorem Spec.pubNest {f : FuncId} {args : List SV} {pre post0 : List (Nat × Blk)} {res : SV} {m fn E sz n nk : Nat} {get : Nat → Nat → FC} {rows : Nat → Option FRow}
    (h : Spec P G f args pre res (post0 ++ [(m, .frow fn E sz n get), (fn, .fam nk rows)])) (hk : keysP post0 = keysP pre) (hok : ∀ i j, i < n → j < sz → FOk rows (get i j))
    (hb : ∀ q b k, (q, b) ∈ post0 → inB k b → k ∈ keysP post0) (hr : ∀ k, inS k (pubV m sz (fun i j => fcD rows (get i j)) res) → k ∈ keysP post0) :
    Spec P G f args pre (pubV m sz (fun i j => fcD rows (get i j)) res) post0 where
  keys := by
    have e : newP pre post0 = [] := by
      unfold newP; rw [hk]; rw [List.drop_eq_nil_of_le]; simp [keysP]
    rw [e, hk, List.append_nil]
  apart := by
    intro q hq
    have e : newP pre post0 = [] := by
      unfold newP; rw [hk]; rw [List.drop_eq_nil_of_le]; simp [keysP]
    rw [e] at hq; cases hq
  rnames := hr
  pnames := hb
  kind := fun q b c h1 h2 => h.kind q b c (List.mem_append.2 (.inl h1)) h2
  enter := h.enter
  calls := by
    intro w I ρ vs hr0 hp hi hl hg
    refine Calls.mono (h.calls w I ρ vs hr0 hp hi hl hg) ?_
    rintro e w' ⟨v, I', ρ', rfl, ha⟩
    have hm : (m, Blk.frow fn E sz n get) ∈ post0 ++ [(m, .frow fn E sz n get), (fn, .fam nk rows)] := by simp
    have hf : (fn, Blk.fam nk rows) ∈ post0 ++ [(m, .frow fn E sz n get), (fn, .fam nk rows)] := by simp
    have hpl : pre.length = post0.length := by have := congrArg List.length hk; simpa [keysP] using this.symm
    have hnew : newP pre (post0 ++ [(m, .frow fn E sz n get), (fn, .fam nk rows)]) = [m, fn] := by
      unfold newP
      have e : keysP (post0 ++ [(m, Blk.frow fn E sz n get), (fn, .fam nk rows)]) = keysP post0 ++ [m, fn] := by simp [keysP]
      rw [e, List.drop_left' (by simp [keysP, hpl])]
    have hown := ha.own m _ hm
    have hfam := ha.own fn _ hf
    let I2 := pubJ I' (ρ' m) (ρ' fn) (.frow fn E sz n get) (.fam nk rows)
    have hI : ∀ b, I' b → I2 b := fun b hb => .inl hb
    have hS : Same I' w' w' := fun _ _ _ => rfl
    have hrow : BlkOk I2 ρ' w' (ρ' m) (.row E sz n fun i j => fcD rows (get i j)) :=
      frow_row (hfam.mono hI hS (fun _ _ => rfl) (fun _ _ => rfl)) (fun j hj => .inr (.inr hj)) hok (hown.mono hI hS (fun _ _ => rfl) (fun _ _ => rfl))
    have hne : newP pre post0 = [] := by
      unfold newP; rw [hk]; rw [List.drop_eq_nil_of_le]; simp [keysP]
    refine ⟨_, I2, ρ', rfl, ⟨ha.old, ?_, ?_, fun b hb => .inl (ha.i0 b hb), ?_, ?_, ha.keep, fun n b k _ hn => (by rw [hne] at hn; cases hn), fun n m b c k _ _ hn => (by rw [hne] at hn; cases hn)⟩⟩
    · exact repS_pub (fun hc => .inr (.inl ⟨hc, rfl⟩)) hrow (ha.res.mono hI hS (fun _ _ => rfl))
    · intro q b hq
      exact (ha.own q b (List.mem_append.2 (.inl hq))).mono hI hS (fun _ _ => rfl) (fun _ _ => rfl)
    · rintro b (hb' | hb' | hb')
      · exact ha.i1 b hb'
      · exact .inr (ha.sep m _ b hm (by rw [hnew]; simp) hb').2
      · exact .inr (ha.sep fn _ b hf (by rw [hnew]; simp) hb').2
    · rintro b (hb' | hb' | hb')
      · exact ha.ilt b hb'
      · exact blk_lt hown hb'
      · exact blk_lt hfam hb'
def CellIs (rows : Nat → Option FRow) (nk : Nat) (c : FC) (E s l : Nat) (g : Nat → Nat → D) : Prop :=
  ∃ k g', c = .fs k s l ∧ k < nk ∧ rows k = some ⟨E, s, l, g'⟩ ∧ RowLe l s g' g
structure NestAt (rows : Nat → Option FRow) (nk E s n : Nat) (sl : Nat → FC) (ln : Nat → Nat) (cn : Nat → Nat → Nat → D) : Prop where
  cell : ∀ i, i < n → CellIs rows nk (sl i) E s (ln i) (cn i)
  inj : ∀ i j k l l', i < n → j < n → sl i = .fs k s l → sl j = .fs k s l' → i = j
theorem CellIs.ok {rows : Nat → Option FRow} {nk : Nat} {c : FC} {E s l : Nat} {g : Nat → Nat → D} (h : CellIs rows nk c E s l g) : FOk rows c := by
  obtain ⟨k, g', rfl, _, h2, _⟩ := h
  exact ⟨_, h2, rfl, Nat.le_refl _⟩
theorem CellIs.le {rows : Nat → Option FRow} {nk : Nat} {c : FC} {E s l : Nat} {g : Nat → Nat → D} (h : CellIs rows nk c E s l g) : DLe (fcD rows c) (.list l s g) := by
  obtain ⟨k, g', rfl, _, h2, h3⟩ := h
  simp only [fcD]
  refine DLe.list rfl (fun _ => rfl) (fun i j hi hj => ?_)
  simp only [rowGet, h2]
  exact h3.le i j hi hj
theorem NestAt.nil {rows : Nat → Option FRow} {nk E s : Nat} {sl : Nat → FC} {ln : Nat → Nat} {cn : Nat → Nat → Nat → D} : NestAt rows nk E s 0 sl ln cn :=
  ⟨fun i h => absurd h (Nat.not_lt_zero _), fun i _ _ _ _ h => absurd h (Nat.not_lt_zero _)⟩
theorem NestAt.push {rows : Nat → Option FRow} {nk E s n : Nat} {sl sl' : Nat → FC} {ln ln' : Nat → Nat} {cn cn' : Nat → Nat → Nat → D} {g : Nat → Nat → D} (h : NestAt rows nk E s n sl ln cn) (hs : ∀ i, i < n → sl' i = sl i ∧ ln' i = ln i ∧ cn' i = cn i)
    (hn : sl' n = .fs nk s (ln' n)) (hg : RowLe (ln' n) s g (cn' n)) : NestAt (putR rows nk (some ⟨E, s, ln' n, g⟩)) (nk + 1) E s (n + 1) sl' ln' cn' := by
  refine ⟨fun i hi => ?_, fun i j k l l' hi hj h1 h2 => ?_⟩
  · by_cases e : i = n
    · subst e
      exact ⟨nk, g, hn, by omega, by simp [putR], hg⟩
    · obtain ⟨e1, e2, e3⟩ := hs i (by omega)
      rw [e1, e2, e3]
      obtain ⟨k, g', h1, h2, h3, h4⟩ := h.cell i (by omega)
      exact ⟨k, g', h1, by omega, by simp only [putR]; rw [if_neg (by omega)]; exact h3, h4⟩
  · by_cases e : i = n <;> by_cases e' : j = n
    · omega
    · subst e
      rw [hn] at h1
      rw [(hs j (by omega)).1] at h2
      obtain ⟨k', g', h3, h4, _⟩ := h.cell j (by omega)
      rw [h2] at h3
      simp only [FC.fs.injEq] at h1 h3
      omega
    · subst e'
      rw [hn] at h2
      rw [(hs i (by omega)).1] at h1
      obtain ⟨k', g', h3, h4, _⟩ := h.cell i (by omega)
      rw [h1] at h3
      simp only [FC.fs.injEq] at h2 h3
      omega
    · rw [(hs i (by omega)).1] at h1
      rw [(hs j (by omega)).1] at h2
      exact h.inj i j k l l' (by omega) (by omega) h1 h2
theorem NestAt.swap {rows : Nat → Option FRow} {nk E s n p kp lp : Nat} {sl sl' : Nat → FC} {ln ln' : Nat → Nat} {cn cn' : Nat → Nat → Nat → D} {g : Nat → Nat → D} (h : NestAt rows nk E s n sl ln cn) (hp : p < n) (hkp : sl p = .fs kp s lp) (hs : ∀ i, i < n → i ≠ p → sl' i = sl i ∧ ln' i = ln i ∧ cn' i = cn i)
    (hn : sl' p = .fs nk s (ln' p)) (hg : RowLe (ln' p) s g (cn' p)) : NestAt (putR (putR rows kp none) nk (some ⟨E, s, ln' p, g⟩)) (nk + 1) E s n sl' ln' cn' := by
  refine ⟨fun i hi => ?_, fun i j k l l' hi hj h1 h2 => ?_⟩
  · by_cases e : i = p
    · subst e
      exact ⟨nk, g, hn, by omega, by simp [putR], hg⟩
    · obtain ⟨e1, e2, e3⟩ := hs i hi e
      rw [e1, e2, e3]
      obtain ⟨k, g', h1, h2, h3, h4⟩ := h.cell i hi
      have hne : k ≠ kp := by
        rintro rfl
        exact e (h.inj i p k _ _ hi hp h1 hkp)
      exact ⟨k, g', h1, by omega, by simp only [putR]; rw [if_neg (by omega), if_neg hne]; exact h3, h4⟩
  · by_cases e : i = p <;> by_cases e' : j = p
    · omega
    · subst e
      rw [hn] at h1
      rw [(hs j hj e').1] at h2
      obtain ⟨k', g', h3, h4, _⟩ := h.cell j hj
      rw [h2] at h3
      simp only [FC.fs.injEq] at h1 h3
      omega
    · subst e'
      rw [hn] at h2
      rw [(hs i hi e).1] at h1
      obtain ⟨k', g', h3, h4, _⟩ := h.cell i hi
      rw [h1] at h3
      simp only [FC.fs.injEq] at h2 h3
      omega
    · rw [(hs i hi e).1] at h1
      rw [(hs j hj e').1] at h2
      exact h.inj i j k l l' hi hj h1 h2
end Go.Sx
namespace Go.Sx
open Go
theorem Spec.at2 {P : Program} {G : Nat → Option (Nat × (Nat → D))} {f : FuncId} {args : List SV} {n k : Nat} {b b' c c' : Blk} {res : SV} (h : Spec P G f args [(n, b), (k, c)] res [(n, b'), (k, c')]) (m j : Nat) (hne : n ≠ k) (hmj : m ≠ j) :
    Spec P G f (renL (fun i => if i = n then m else j) args) [(m, renB (fun i => if i = n then m else j) b), (j, renB (fun i => if i = n then m else j) c)] (renS (fun i => if i = n then m else j) res) [(m, renB (fun i => if i = n then m else j) b'), (j, renB (fun i => if i = n then m else j) c')] := by
  have := h.ren (fun i => if i = n then m else j) (by
    intro x y hx hy e
    simp only [keysP, List.map_cons, List.map_nil, List.mem_cons, List.not_mem_nil, or_false] at hx hy
    rcases hx with rfl | rfl <;> rcases hy with rfl | rfl <;> simp_all [Ne.symm])
  simpa only [renP, if_true, if_neg (Ne.symm hne)] using this
theorem Spec.new2 {P : Program} {G : Nat → Option (Nat × (Nat → D))} {f : FuncId} {args : List SV} {n k : Nat} {b c : Blk} {res : SV} (h : Spec P G f args [] res [(n, b), (k, c)]) (m j : Nat) (hne : n ≠ k) (hmj : m ≠ j) :
    Spec P G f (renL (fun i => if i = n then m else j) args) [] (renS (fun i => if i = n then m else j) res) [(m, renB (fun i => if i = n then m else j) b), (j, renB (fun i => if i = n then m else j) c)] := by
  have := h.ren (fun i => if i = n then m else j) (by
    intro x y hx hy e
    simp only [keysP, List.map_cons, List.map_nil, List.mem_cons, List.not_mem_nil, or_false] at hx hy
    rcases hx with rfl | rfl <;> rcases hy with rfl | rfl <;> simp_all [Ne.symm])
  simpa only [renP, if_true, if_neg (Ne.symm hne)] using this
end Go.Sx
namespace Go.Sx
open Go
theorem FamLe.put {rows rows' : Nat → Option FRow} {k E s l : Nat} {g g' : Nat → Nat → D} (h : FamLe rows rows') (hg : RowLe l s g g') : FamLe (putR rows k (some ⟨E, s, l, g⟩)) (putR rows' k (some ⟨E, s, l, g'⟩)) := by
  refine ⟨fun i r' hr => ?_⟩
  simp only [putR] at hr ⊢
  by_cases e : i = k
  · rw [if_pos e] at hr ⊢
    cases hr
    exact ⟨_, rfl, rfl, rfl, rfl, hg⟩
  · rw [if_neg e] at hr ⊢
    exact h.le i r' hr
end Go.Sx
namespace Go.Sx
open Go
theorem Spec.res {P : Program} {G : Nat → Option (Nat × (Nat → D))} {f : FuncId} {args : List SV} {pre post : List (Nat × Blk)} {res res' : SV} (h : Spec P G f args pre res post) (hle : LeS res res') (hn : ∀ n, inS n res' → n ∈ keysP post) : Spec P G f args pre res' post :=
  { keys := h.keys, apart := h.apart, rnames := hn, pnames := h.pnames, kind := h.kind, enter := h.enter
    calls := fun w I ρ vs h1 h2 h3 h4 h5 => (h.calls w I ρ vs h1 h2 h3 h4 h5).mono (by
      rintro e w' ⟨v, I', ρ', rfl, ha⟩
      exact ⟨v, I', ρ', rfl, { ha with res := hle.le _ _ _ _ ha.res }⟩) }
end Go.Sx
namespace Go.Sx
open Go
theorem Spec.at3 {P : Program} {G : Nat → Option (Nat × (Nat → D))} {f : FuncId} {args : List SV} {n k q : Nat} {b b' c c' d d' : Blk} {res : SV} (h : Spec P G f args [(n, b), (k, c), (q, d)] res [(n, b'), (k, c'), (q, d')]) (m j r : Nat) (h1 : n ≠ k) (h2 : n ≠ q) (h3 : k ≠ q) (g1 : m ≠ j) (g2 : m ≠ r) (g3 : j ≠ r) :
    Spec P G f (renL (fun i => if i = n then m else if i = k then j else r) args) [(m, renB (fun i => if i = n then m else if i = k then j else r) b), (j, renB (fun i => if i = n then m else if i = k then j else r) c), (r, renB (fun i => if i = n then m else if i = k then j else r) d)]
      (renS (fun i => if i = n then m else if i = k then j else r) res) [(m, renB (fun i => if i = n then m else if i = k then j else r) b'), (j, renB (fun i => if i = n then m else if i = k then j else r) c'), (r, renB (fun i => if i = n then m else if i = k then j else r) d')] := by
  have := h.ren (fun i => if i = n then m else if i = k then j else r) (by
    intro x y hx hy e
    simp only [keysP, List.map_cons, List.map_nil, List.mem_cons, List.not_mem_nil, or_false] at hx hy
    rcases hx with rfl | rfl | rfl <;> rcases hy with rfl | rfl | rfl <;> simp_all [Ne.symm])
  simpa only [renP, if_true, if_neg (Ne.symm h1), if_neg (Ne.symm h2), if_neg (Ne.symm h3)] using this
end Go.Sx

namespace Go.Sx
open Go
def encC (c : List NodeT) : List D := [encL encN 3 c]
def addC (lv : Nat) : List (List NodeT) → NodeT → List (List NodeT)
  | [], x => [[x]]
  | c :: cs, x => if sameW (c.getD 0 default).word x.word lv then (c ++ [x]) :: cs else c :: addC lv cs x
def classesF (lv : Nat) (l : List NodeT) : List (List NodeT) := l.foldl (addC lv) []
def inC (lv : Nat) (x : NodeT) (c : List NodeT) : Bool := sameW (c.getD 0 default).word x.word lv
theorem addC_none {lv : Nat} {x : NodeT} : ∀ {cs : List (List NodeT)}, cs.any (inC lv x) = false → addC lv cs x = cs ++ [[x]]
  | [], _ => rfl
  | c :: cs, h => by
    simp only [List.any_cons, Bool.or_eq_false_iff] at h
    have h1 : sameW (c.getD 0 default).word x.word lv = false := h.1
    simp only [addC, h1, Bool.false_eq_true, if_false, addC_none h.2, List.cons_append]
theorem addC_at {lv : Nat} {x : NodeT} : ∀ {cs : List (List NodeT)} {i : Nat}, i < cs.length → inC lv x (cs.getD i default) = true → (∀ j, j < i → inC lv x (cs.getD j default) = false) → addC lv cs x = cs.set i (cs.getD i default ++ [x])
  | [], i, h, _, _ => by simp at h
  | c :: cs, 0, _, h, _ => by
    have h1 : sameW (c.getD 0 default).word x.word lv = true := h
    simp only [addC, h1, if_true]; rfl
  | c :: cs, i + 1, hl, h, hb => by
    have h0 := hb 0 (by omega)
    have h1 : sameW (c.getD 0 default).word x.word lv = false := h0
    have := addC_at (cs := cs) (i := i) (by simpa using hl) (by simpa using h) (fun j hj => by simpa using hb (j + 1) (by omega))
    simp only [addC, h1, Bool.false_eq_true, if_false, this]; rfl
theorem addC_ne {lv : Nat} {x : NodeT} : ∀ {cs : List (List NodeT)}, (∀ c ∈ cs, c ≠ []) → ∀ c ∈ addC lv cs x, c ≠ []
  | [], _, c, hc => by simp [addC] at hc; subst hc; simp
  | d :: cs, h, c, hc => by
    simp only [addC] at hc
    split at hc
    · rcases List.mem_cons.1 hc with rfl | hc
      · simp
      · exact h c (by simp [hc])
    · rcases List.mem_cons.1 hc with rfl | hc
      · exact h _ (by simp)
      · exact addC_ne (fun c hc => h c (by simp [hc])) c hc
theorem addC_mem {lv : Nat} {x : NodeT} : ∀ {cs : List (List NodeT)} {y : NodeT}, (∃ c ∈ addC lv cs x, y ∈ c) ↔ (∃ c ∈ cs, y ∈ c) ∨ y = x
  | [], y => by simp [addC]
  | d :: cs, y => by
    simp only [addC]
    split
    · simp only [List.mem_cons, exists_eq_or_imp, List.mem_append, List.mem_singleton, List.not_mem_nil, or_false]
      constructor
      · rintro ((h | h) | h)
        · exact .inl (.inl h)
        · exact .inr h
        · exact .inl (.inr h)
      · rintro ((h | h) | h)
        · exact .inl (.inl h)
        · exact .inr h
        · exact .inl (.inr h)
    · have := addC_mem (lv := lv) (x := x) (cs := cs) (y := y)
      simp only [List.mem_cons, exists_eq_or_imp, this, or_assoc]
theorem addC_len {lv : Nat} {x : NodeT} {cs : List (List NodeT)} : (addC lv cs x).length ≤ cs.length + 1 := by
  induction cs with
  | nil => simp [addC]
  | cons c cs ih => simp only [addC]; split <;> simp <;> omega
end Go.Sx
namespace Go.Sx
open Go
theorem addC_sz {lv n : Nat} {x : NodeT} : ∀ {cs : List (List NodeT)}, (∀ c ∈ cs, c.length ≤ n) → ∀ c ∈ addC lv cs x, c.length ≤ n + 1
  | [], _, c, hc => by simp [addC] at hc; subst hc; simp
  | d :: cs, h, c, hc => by
    simp only [addC] at hc
    split at hc
    · rcases List.mem_cons.1 hc with rfl | hc
      · have := h d (by simp); simp; omega
      · have := h c (by simp [hc]); omega
    · rcases List.mem_cons.1 hc with rfl | hc
      · have := h c (by simp); omega
      · exact addC_sz (fun c hc => h c (by simp [hc])) c hc
theorem set_get {α : Type} [Inhabited α] {cs : List α} {k i : Nat} {y : α} (hk : k < cs.length) : (cs.set k y).getD i default = if i = k then y else cs.getD i default := by
  simp only [List.getD, List.getElem?_set]
  by_cases e : k = i
  · subst e; simp [hk]
  · simp [e, Ne.symm e]
theorem snoc_get {α : Type} [Inhabited α] {cs : List α} {i : Nat} {y : α} : (cs ++ [y]).getD i default = if i = cs.length then y else cs.getD i default := by
  by_cases e : i = cs.length
  · subst e; simp [List.getD]
  · by_cases h : i < cs.length
    · rw [if_neg e, getD_append_left h]
    · rw [if_neg e, getD_append_right h]
      simp only [List.getD]
      rw [List.getElem?_eq_none (by simp; omega), List.getElem?_eq_none (by omega)]
end Go.Sx

namespace Go.Sx
open Go
def encZ (n : Int) : List D := [.int .i64 n]
structure LinkT where
  left : Int
  right : Int
deriving DecidableEq
instance : Inhabited LinkT := ⟨⟨0, 0⟩⟩
def encK (x : LinkT) : List D := [.int .i64 x.left, .int .i64 x.right]
structure LkdT where
  id : Int
  levels : List LinkT
deriving DecidableEq
instance : Inhabited LkdT := ⟨⟨0, []⟩⟩
def encLk (x : LkdT) : List D := [.int .i64 x.id, encL encK 2 x.levels]
def famL {α : Type} [Inhabited α] (E s : Nat) (enc : α → List D) (Ls : List (List α)) : Nat → Option FRow := fun k => if k < Ls.length then some ⟨E, s, (Ls.getD k default).length, cellOf enc (Ls.getD k default)⟩ else none
theorem famL_at {α : Type} [Inhabited α] {E s : Nat} {enc : α → List D} {Ls : List (List α)} {k : Nat} (h : k < Ls.length) : famL E s enc Ls k = some ⟨E, s, (Ls.getD k default).length, cellOf enc (Ls.getD k default)⟩ := by simp only [famL, if_pos h]
theorem famL_nil {α : Type} [Inhabited α] {E s : Nat} {enc : α → List D} : FamLe (fun _ => none) (famL E s enc ([] : List (List α))) := ⟨fun k r h => by simp [famL] at h⟩
theorem famL_push {α : Type} [Inhabited α] {E s n l : Nat} {enc : α → List D} {Ls : List (List α)} {x : List α} {g : Nat → Nat → D} (hn : n = Ls.length) (hl : l = x.length) (hg : RowLe l s g (cellOf enc x)) :
    FamLe (putR (famL E s enc Ls) n (some ⟨E, s, l, g⟩)) (famL E s enc (Ls ++ [x])) := by
  subst hn hl
  refine ⟨fun k r' hr => ?_⟩
  simp only [famL, putR] at hr ⊢
  split at hr
  · rename_i hk
    simp only [List.length_append, List.length_singleton] at hk
    cases hr
    by_cases e : k = Ls.length
    · rw [if_pos e]
      simp only [snoc_get, if_pos e]
      exact ⟨_, rfl, rfl, rfl, rfl, hg⟩
    · rw [if_neg e, if_pos (by omega)]
      simp only [snoc_get, if_neg e]
      exact ⟨_, rfl, rfl, rfl, rfl, RowLe.refl _ _ _⟩
  · cases hr
theorem famL_set {α : Type} [Inhabited α] {E s a : Nat} {enc : α → List D} {Ls : List (List α)} {x : List α} {f : FRow → FRow} (hf : ∀ r, (f r).E = r.E ∧ (f r).sz = r.sz ∧ (f r).len = r.len) (ha : a < Ls.length) (hl : x.length = (Ls.getD a default).length)
    (hg : ∀ r, r = ⟨E, s, (Ls.getD a default).length, cellOf enc (Ls.getD a default)⟩ → RowLe x.length s (f r).get (cellOf enc x)) :
    FamLe (fun k => if k = a then (famL E s enc Ls a).map f else famL E s enc Ls k) (famL E s enc (Ls.set a x)) := by
  refine ⟨fun k r' hr => ?_⟩
  simp only [famL, List.length_set, set_get ha] at hr
  split at hr
  · rename_i hk
    cases hr
    by_cases e : k = a
    · subst e
      simp only [if_true, famL_at ha, Option.map_some]
      obtain ⟨h1, h2, h3⟩ := hf ⟨E, s, (Ls.getD k default).length, cellOf enc (Ls.getD k default)⟩
      refine ⟨_, rfl, h1, h2, by rw [h3, hl], ?_⟩
      rw [h2, h3]
      have := hg _ rfl
      rw [hl] at this
      exact this
    · simp only [if_neg e, famL_at hk]
      exact ⟨_, rfl, rfl, rfl, rfl, RowLe.refl _ _ _⟩
  · cases hr
def getS (id : Nat → D) (s : Nat) (ln : Nat → Nat) : Nat → Nat → FC := fun a b => match b with
  | 0 => .d (id a)
  | _ => .fs a s (ln a)
def lastN (p : NodeT → Bool) (l : List NodeT) : Int := ((l.filter p).getLast?.map (·.id)).getD 0
def firstN (p : NodeT → Bool) (l : List NodeT) : Int := ((l.filter p).head?.map (·.id)).getD 0
def sameP (lv : Nat) (x y : NodeT) : Bool := sameW x.word y.word lv
def linkAt (s : List NodeT) (lv i : Nat) : LinkT := ⟨lastN (sameP lv (s.getD i default)) (s.take i), firstN (sameP lv (s.getD i default)) (s.drop (i + 1))⟩
def levelsF (s : List NodeT) (h i : Nat) : List LinkT := (List.range (h + 1)).map fun lv => linkAt s lv i
def idealF (s : List NodeT) (h : Nat) : List LkdT := (List.range s.length).map fun i => ⟨(s.getD i default).id, levelsF s h i⟩
def listsF (nodes : List NodeT) (lv : Nat) : List (List Int) := (classesF lv (sortN nodes)).map fun c => c.map (·.id)
def encIs (c : List Int) : List D := [encL encZ 1 c]
def rankF (s : List NodeT) (q : List Int) : Nat := (s.takeWhile fun x => !([x.id] == q)).length
end Go.Sx
namespace Go.Sx
open Go
def setLf (Ls : List (List LinkT)) (r lv : Nat) (v : Int) : List (List LinkT) := Ls.set r ((Ls.getD r default).set lv ⟨v, ((Ls.getD r default).getD lv default).right⟩)
def setRt (Ls : List (List LinkT)) (r lv : Nat) (v : Int) : List (List LinkT) := Ls.set r ((Ls.getD r default).set lv ⟨((Ls.getD r default).getD lv default).left, v⟩)
def linkStep (s : List NodeT) (lv : Nat) (c : List Int) (Ls : List (List LinkT)) (i : Nat) : List (List LinkT) :=
  setRt (setLf Ls (rankF s [c.getD i default]) lv (c.getD (i - 1) default)) (rankF s [c.getD (i - 1) default]) lv (c.getD i default)
def linkList (s : List NodeT) (lv : Nat) (Ls : List (List LinkT)) (c : List Int) : List (List LinkT) := (List.range' 1 (c.length - 1)).foldl (linkStep s lv c) Ls
def linkLevel (s : List NodeT) (Ls : List (List LinkT)) (lv : Nat) : List (List LinkT) := (listsF s lv).foldl (linkList s lv) Ls
def links0 (n h : Nat) : List (List LinkT) := List.replicate n (List.replicate (h + 1) ⟨0, 0⟩)
def buildL (s : List NodeT) (h : Nat) : List (List LinkT) := (List.range' 0 (h + 1)).foldl (linkLevel s) (links0 s.length h)
def ShpL (n h : Nat) (Ls : List (List LinkT)) : Prop := Ls.length = n ∧ ∀ r, r < n → (Ls.getD r default).length = h + 1
theorem ShpL.set {n h r : Nat} {Ls : List (List LinkT)} {x : List LinkT} (hs : ShpL n h Ls) (hr : r < n) (hx : x.length = h + 1) : ShpL n h (Ls.set r x) := by
  refine ⟨by rw [List.length_set]; exact hs.1, fun q hq => ?_⟩
  rw [set_get (by rw [hs.1]; exact hr)]
  split
  · exact hx
  · exact hs.2 q hq
theorem ShpL.setLf {n h r lv : Nat} {v : Int} {Ls : List (List LinkT)} (hs : ShpL n h Ls) (hr : r < n) : ShpL n h (setLf Ls r lv v) := hs.set hr (by rw [List.length_set]; exact hs.2 r hr)
theorem ShpL.setRt {n h r lv : Nat} {v : Int} {Ls : List (List LinkT)} (hs : ShpL n h Ls) (hr : r < n) : ShpL n h (setRt Ls r lv v) := hs.set hr (by rw [List.length_set]; exact hs.2 r hr)
theorem shp0 {n h : Nat} : ShpL n h (links0 n h) := ⟨by simp [links0], fun r hr => by simp [links0, List.getD, hr]⟩
theorem rank_lt {s : List NodeT} {x : NodeT} (h : x ∈ s) : rankF s [x.id] < s.length := by
  unfold rankF
  induction s with
  | nil => cases h
  | cons y s ih =>
    simp only [List.takeWhile_cons]
    split
    · rename_i hy
      have hne : y ≠ x := by rintro rfl; simp at hy
      have := ih (by
        rcases List.mem_cons.1 h with rfl | h
        · exact absurd rfl hne
        · exact h)
      simp only [List.length_cons]; omega
    · simp
theorem getD_mem2 {α : Type} [Inhabited α] {xs : List α} {i : Nat} (h : i < xs.length) : xs.getD i default ∈ xs := by
  simp only [List.getD, List.getElem?_eq_getElem h, Option.getD_some]
  exact List.getElem_mem h
theorem rank_at {s : List NodeT} (hn : (s.map (·.id)).Nodup) {i : Nat} (h : i < s.length) : rankF s [(s.getD i default).id] = i := by
  unfold rankF
  induction s generalizing i with
  | nil => simp at h
  | cons y s ih =>
    simp only [List.map_cons, List.nodup_cons] at hn
    cases i with
    | zero => simp [List.getD]
    | succ i =>
      have hi : i < s.length := by simpa using h
      have e : (y :: s).getD (i + 1) default = s.getD i default := rfl
      rw [e, List.takeWhile_cons]
      have hne : y.id ≠ (s.getD i default).id := fun h' => hn.1 (h' ▸ List.mem_map.2 ⟨_, getD_mem2 hi, rfl⟩)
      have hb : (!([y.id] == [(s.getD i default).id])) = true := by simpa [-List.getD_eq_getElem?_getD] using hne
      rw [if_pos hb, List.length_cons, ih hn.2 hi]
end Go.Sx
namespace Go.Sx
open Go
theorem cls_mem {lv : Nat} {l : List NodeT} {y : NodeT} : (∃ c ∈ classesF lv l, y ∈ c) ↔ y ∈ l := by
  have key : ∀ (m : List NodeT) (cs : List (List NodeT)), (∃ c ∈ m.foldl (addC lv) cs, y ∈ c) ↔ (∃ c ∈ cs, y ∈ c) ∨ y ∈ m := by
    intro m
    induction m with
    | nil => intro cs; simp
    | cons x m ih =>
      intro cs
      rw [List.foldl_cons, ih, addC_mem, List.mem_cons, or_assoc]
  have := key l []
  simpa [classesF] using this
theorem lists_mem {lv : Nat} {l : List NodeT} {c : List Int} (hc : c ∈ listsF l lv) {i : Int} (hi : i ∈ c) : ∃ x ∈ sortN l, x.id = i := by
  simp only [listsF, List.mem_map] at hc
  obtain ⟨d, hd, rfl⟩ := hc
  obtain ⟨x, hx, rfl⟩ := List.mem_map.1 hi
  exact ⟨x, cls_mem.1 ⟨d, hd, hx⟩, rfl⟩
end Go.Sx
namespace Go.Sx
open Go
theorem DLe.trans {x y z : D} (h : DLe x y) (k : DLe y z) : DLe x z := ⟨fun I w v hv => k.le I w v (h.le I w v hv)⟩
theorem RowLe.trans {len sz : Nat} {f g h : Nat → Nat → D} (a : RowLe len sz f g) (b : RowLe len sz g h) : RowLe len sz f h := ⟨fun i j hi hj => (a.le i j hi hj).trans (b.le i j hi hj)⟩
theorem FamLe.trans {r s t : Nat → Option FRow} (h : FamLe r s) (k : FamLe s t) : FamLe r t := ⟨fun i x hx => by
  obtain ⟨y, hy, a1, a2, a3, a4⟩ := k.le i x hx
  obtain ⟨z, hz, b1, b2, b3, b4⟩ := h.le i y hy
  exact ⟨z, hz, b1.trans a1, b2.trans a2, b3.trans a3, b4.trans (by rw [b2, b3]; exact a4)⟩⟩
theorem FamLe.mod {rows rows' : Nat → Option FRow} {b : Nat} {g : FRow → FRow} (h : FamLe rows rows') (hg : ∀ r, (g r).E = r.E ∧ (g r).sz = r.sz ∧ (g r).len = r.len) (hm : ∀ r r', RowLe r.len r.sz r.get r'.get → RowLe r.len r.sz (g r).get (g r').get) :
    FamLe (fun k => if k = b then (rows b).map g else rows k) (fun k => if k = b then (rows' b).map g else rows' k) := ⟨fun k x hx => by
  by_cases e : k = b
  · rw [if_pos e] at hx ⊢
    obtain ⟨y, hy, rfl⟩ := Option.map_eq_some_iff.1 hx
    obtain ⟨z, hz, b1, b2, b3, b4⟩ := h.le b y hy
    refine ⟨g z, by rw [hz]; rfl, ?_, ?_, ?_, ?_⟩
    · rw [(hg z).1, (hg y).1, b1]
    · rw [(hg z).2.1, (hg y).2.1, b2]
    · rw [(hg z).2.2, (hg y).2.2, b3]
    · rw [(hg z).2.1, (hg z).2.2]; exact hm z y b4
  · rw [if_neg e] at hx ⊢
    exact h.le k x hx⟩
theorem updLf {L : List LinkT} {lv : Nat} {v : Int} (h : lv < L.length) : RowLe (L.set lv ⟨v, (L.getD lv default).right⟩).length 2
    (fun i' j' => if i' = lv then (if j' < 0 then cellOf encK L i' j' else if j' < [D.int .i64 v].length then [D.int .i64 v].getD (j' - 0) default else cellOf encK L i' j') else cellOf encK L i' j') (cellOf encK (L.set lv ⟨v, (L.getD lv default).right⟩)) := by
  refine .of_eq fun i j hi hj => ?_
  simp only [cellOf, set_get h]
  by_cases e : i = lv
  · subst e
    simp only [if_true]
    match j, hj with
    | 0, _ => rfl
    | 1, _ => rfl
  · simp only [if_neg e]
theorem updRt {L : List LinkT} {lv : Nat} {v : Int} (h : lv < L.length) : RowLe (L.set lv ⟨(L.getD lv default).left, v⟩).length 2
    (fun i' j' => if i' = lv then (if j' < 1 then cellOf encK L i' j' else if j' < 1 + [D.int .i64 v].length then [D.int .i64 v].getD (j' - 1) default else cellOf encK L i' j') else cellOf encK L i' j') (cellOf encK (L.set lv ⟨(L.getD lv default).left, v⟩)) := by
  refine .of_eq fun i j hi hj => ?_
  simp only [cellOf, set_get h]
  by_cases e : i = lv
  · subst e
    simp only [if_true]
    match j, hj with
    | 0, _ => rfl
    | 1, _ => rfl
  · simp only [if_neg e]
theorem upd_mono {n s lv a b : Nat} {ds : List D} {g g' : Nat → Nat → D} (h : RowLe n s g g') : RowLe n s (fun i' j' => if i' = lv then (if j' < a then g i' j' else if j' < b then ds.getD (j' - a) default else g i' j') else g i' j')
    (fun i' j' => if i' = lv then (if j' < a then g' i' j' else if j' < b then ds.getD (j' - a) default else g' i' j') else g' i' j') := ⟨fun i j hi hj => by
  show DLe (if _ then _ else _) (if _ then _ else _)
  split
  · split
    · exact h.le i j hi hj
    · split
      · exact DLe.refl _
      · exact h.le i j hi hj
  · exact h.le i j hi hj⟩
end Go.Sx
namespace Go.Sx
open Go
theorem eq_stepA {α : Type} [Inhabited α] [DecidableEq α] {a b : List α} {i : Nat} (ha : i < a.length) (hb : i < b.length) : decide (a.drop i = b.drop i) = (decide (a.getD i default = b.getD i default) && decide (a.drop (i + 1) = b.drop (i + 1))) := by
  rw [List.drop_eq_getElem_cons ha, List.drop_eq_getElem_cons hb]
  have e1 : a.getD i default = a[i] := by simp [List.getD, ha]
  have e2 : b.getD i default = b[i] := by simp [List.getD, hb]
  rw [e1, e2]
  simp only [List.cons.injEq]
  exact Bool.decide_and _ _
theorem eq_endA {α : Type} [DecidableEq α] {a b : List α} {i : Nat} (ha : a.length ≤ i) (hb : b.length ≤ i) : decide (a.drop i = b.drop i) = true := by
  rw [List.drop_eq_nil_of_le ha, List.drop_eq_nil_of_le hb]; simp
theorem link_eq {x y : LinkT} : decide (x = y) = (x.left == y.left && x.right == y.right) := by
  obtain ⟨a, b⟩ := x
  obtain ⟨c, d⟩ := y
  refine Bool.eq_iff_iff.2 ?_
  simp
theorem lkd_eq {x y : LkdT} : decide (x = y) = (x.id == y.id && decide (x.levels = y.levels)) := by
  obtain ⟨a, b⟩ := x
  obtain ⟨c, d⟩ := y
  refine Bool.eq_iff_iff.2 ?_
  simp
end Go.Sx

namespace Go.Sx
open Go
structure NearT where
  l0 : Int
  l1 : Int
  r0 : Int
  r1 : Int
deriving DecidableEq
instance : Inhabited NearT := ⟨⟨0, 0, 0, 0⟩⟩
def encR (x : NearT) : List D := [.int .i64 x.l0, .int .i64 x.l1, .int .i64 x.r0, .int .i64 x.r1]
structure PeerT where
  id : Int
  known : List Int
  left : Int
  right : Int
  near : List NearT
deriving DecidableEq
instance : Inhabited PeerT := ⟨⟨0, [], 0, 0, []⟩⟩
def encP (p : PeerT) : List D := [.int .i64 p.id, encL encZ 1 p.known, .int .i64 p.left, .int .i64 p.right, encL encR 4 p.near]
abbrev peerS (p : PeerT) : SV := .agg [.d (.int .i64 p.id), .d (encL encZ 1 p.known), .d (.int .i64 p.left), .d (.int .i64 p.right), .d (encL encR 4 p.near)]
abbrev nearS (x : NearT) : SV := .agg [.d (.int .i64 x.l0), .d (.int .i64 x.l1), .d (.int .i64 x.r0), .d (.int .i64 x.r1)]
def near1 (id : Int) (x : NearT) : Bool := (x.l0 == id) || ((x.l1 == id) || ((x.r0 == id) || (x.r1 == id)))
def namesF (p : PeerT) (id : Int) : Bool := (p.left == id) || ((p.right == id) || (p.known.any (fun y => id == y) || p.near.any (near1 id)))
def refP (p : PeerT) (x : NodeT) : Bool := (x.id != p.id) && namesF p x.id
def refsF (nodes : List NodeT) (p : PeerT) : List Int := ((sortN nodes).filter (refP p)).map (·.id)
def gtK (x y : NodeT) : Bool := !(Op.bytesLess x.key y.key || x.key == y.key)
def gtP (nodes : List NodeT) (own : NodeT) (id : Int) : Bool := gtK ((findN nodes id).getD default) own
def rowF (nodes : List NodeT) (p : PeerT) : List Int := ((sortN nodes).filter fun x => x.id == p.id || namesF p x.id).map (·.id)
structure PrB (p : PeerT) : Prop where
  known : p.known.length ≤ 1000
  near : p.near.length ≤ 1000
structure PrsB (ps : List PeerT) : Prop where
  len : ps.length ≤ 1000
  ok : ∀ p ∈ ps, PrB p
theorem PrsB.at {ps : List PeerT} (h : PrsB ps) {i : Nat} (hi : i < ps.length) : PrB (ps.getD i default) := h.ok _ (getD_mem2 hi)
theorem find_mem {l : List NodeT} {id : Int} {x : NodeT} (h : findN l id = some x) : x ∈ l ∧ x.id = id := by
  unfold findN at h
  exact ⟨List.mem_of_find?_eq_some h, by simpa using List.find?_some h⟩
theorem find_of {l : List NodeT} (hn : (l.map (·.id)).Nodup) {x : NodeT} (h : x ∈ l) : findN l x.id = some x := by
  unfold findN
  induction l with
  | nil => cases h
  | cons y l ih =>
    simp only [List.map_cons, List.nodup_cons] at hn
    rw [List.find?_cons]
    rcases List.mem_cons.1 h with rfl | h
    · simp
    · have hne : y.id ≠ x.id := fun e => hn.1 (e ▸ List.mem_map.2 ⟨x, h, rfl⟩)
      have : (y.id == x.id) = false := by simpa using hne
      rw [this]
      exact ih hn.2 h
theorem gtK_iff {x y : NodeT} : gtK x y = true ↔ klt y x := by
  unfold gtK klt
  constructor
  · intro h
    simp only [Bool.not_eq_true', Bool.or_eq_false_iff, beq_eq_false_iff_ne] at h
    exact bl_tot h.1 h.2
  · intro h
    have h1 : Op.bytesLess x.key y.key = false := by
      cases e : Op.bytesLess x.key y.key with
      | false => rfl
      | true => have := bl_trans h e; rw [bl_irrefl] at this; cases this
    have h2 : x.key ≠ y.key := by intro e; rw [e, bl_irrefl] at h; cases h
    simp [h1, h2]
theorem row_eq {nodes : List NodeT} (hr : Rst nodes) {p : PeerT} {x : NodeT} (hx : x ∈ nodes) (hid : x.id = p.id) {k : Nat}
    (h1 : ∀ j, j < k → gtP nodes x ((refsF nodes p).getD j default) = false) (h2 : k ≤ (refsF nodes p).length) (h3 : k < (refsF nodes p).length → gtP nodes x ((refsF nodes p).getD k default) = true) :
    (refsF nodes p).take k ++ p.id :: (refsF nodes p).drop k = rowF nodes p := by
  have hxs : x ∈ sortN nodes := sortN_mem.2 hx
  obtain ⟨A, B, hAB⟩ := List.append_of_mem hxs
  have hasc := hr.asc
  have hids := hr.sort.ids
  rw [hAB] at hasc hids
  have hA : ∀ y ∈ A, klt y x := fun y hy => (List.pairwise_append.1 hasc).2.2 y hy x (by simp)
  have hB : ∀ y ∈ B, klt x y := fun y hy => (List.pairwise_cons.1 (List.pairwise_append.1 hasc).2.1).1 y hy
  have hidA : ∀ y ∈ A, y.id ≠ p.id := by
    intro y hy e
    rw [List.map_append, List.nodup_append] at hids
    exact hids.2.2 y.id (List.mem_map.2 ⟨y, hy, rfl⟩) x.id (by simp) (by rw [e, hid])
  have hidB : ∀ y ∈ B, y.id ≠ p.id := by
    intro y hy e
    rw [List.map_append, List.nodup_append] at hids
    have := hids.2.1
    simp only [List.map_cons, List.nodup_cons] at this
    exact this.1 (by rw [hid, ← e]; exact List.mem_map.2 ⟨y, hy, rfl⟩)
  have hrefs : refsF nodes p = (A.filter (refP p)).map (·.id) ++ (B.filter (refP p)).map (·.id) := by
    unfold refsF
    rw [hAB, List.filter_append, List.filter_cons, if_neg (by simp [refP, hid]), List.map_append]
  have hrow : rowF nodes p = (A.filter (refP p)).map (·.id) ++ p.id :: (B.filter (refP p)).map (·.id) := by
    unfold rowF
    have e1 : ∀ (L : List NodeT), (∀ y ∈ L, y.id ≠ p.id) → (L.filter fun z => z.id == p.id || namesF p z.id) = L.filter (refP p) := by
      intro L hL
      refine List.filter_congr fun y hy => ?_
      have hb : (y.id == p.id) = false := by simpa using hL y hy
      simp only [refP, bne, hb, Bool.false_or, Bool.not_false, Bool.true_and]
    rw [hAB, List.filter_append, List.filter_cons, if_pos (by simp [hid]), e1 A hidA, e1 B hidB, List.map_append, List.map_cons, hid]
  have hgA : ∀ y ∈ A, gtP nodes x y.id = false := by
    intro y hy
    have hm : y ∈ nodes := sortN_mem.1 (by rw [hAB]; simp [hy])
    unfold gtP
    rw [find_of hr.ids hm]
    cases hg : gtK y x with
    | false => simp [hg]
    | true =>
      have := bl_trans (hA y hy) (gtK_iff.1 hg)
      rw [bl_irrefl] at this; cases this
  have hgB : ∀ y ∈ B, gtP nodes x y.id = true := by
    intro y hy
    have hm : y ∈ nodes := sortN_mem.1 (by rw [hAB]; simp [hy])
    unfold gtP
    rw [find_of hr.ids hm]
    exact gtK_iff.2 (hB y hy)
  generalize hAf : (A.filter (refP p)).map (·.id) = A' at hrefs hrow
  generalize hBf : (B.filter (refP p)).map (·.id) = B' at hrefs hrow
  have hA' : ∀ z ∈ A', gtP nodes x z = false := by
    intro z hz
    rw [← hAf] at hz
    obtain ⟨y, hy, rfl⟩ := List.mem_map.1 hz
    exact hgA y (List.mem_filter.1 hy).1
  have hB' : ∀ z ∈ B', gtP nodes x z = true := by
    intro z hz
    rw [← hBf] at hz
    obtain ⟨y, hy, rfl⟩ := List.mem_map.1 hz
    exact hgB y (List.mem_filter.1 hy).1
  rw [hrefs] at h1 h2 h3 ⊢
  have hk : k = A'.length := by
    rcases Nat.lt_trichotomy k A'.length with h | h | h
    · have := h3 (by rw [List.length_append]; omega)
      rw [getD_append_left h, hA' _ (getD_mem2 h)] at this; cases this
    · exact h
    · have := h1 A'.length h
      rw [List.length_append] at h2
      have hb : 0 < B'.length := by omega
      rw [getD_append_right (by omega), Nat.sub_self, hB' _ (getD_mem2 hb)] at this; cases this
  subst hk
  rw [List.take_left, List.drop_left, hrow]
def introP (l : List Int) (i : Nat) : List (Int × Int) := [(l.getD (i - 1) default, l.getD i default), (l.getD i default, l.getD (i - 1) default)]
def introsL (own : Int) (l : List Int) : List (Int × Int) := (List.range' 1 (l.length - 1)).flatMap fun i => (introP l i).filter fun x => x.1 != own
def introsF (nodes : List NodeT) (p : PeerT) : List (Int × Int) := introsL p.id (rowF nodes p)
theorem ins_row {xs : List Int} {k n : Nat} {v : Int} (h : k ≤ xs.length) (hn : n = xs.length + 1) : RowLe n 1 (insGet (cellOf encZ xs) k (.int .i64 v)) (cellOf encZ (xs.take k ++ v :: xs.drop k)) := by
  subst hn
  refine .of_eq fun i j hi hj => ?_
  have hj : j = 0 := by omega
  subst hj
  have ht : (xs.take k).length = k := by rw [List.length_take]; omega
  unfold insGet
  by_cases h1 : i < k
  · rw [if_pos h1]
    have e : (xs.take k ++ v :: xs.drop k).getD i default = xs.getD i default := by
      simp only [List.getD]; rw [List.getElem?_append_left (by omega), List.getElem?_take, if_pos h1]
    simp only [cellOf, e]
  · by_cases h2 : i = k
    · subst h2
      rw [if_neg h1, if_pos rfl]
      simp only [cellOf, getD_append_right (show ¬ i < (xs.take i).length by omega), ht, Nat.sub_self]
      rfl
    · rw [if_neg h1, if_neg h2]
      have e : i - k = (i - 1 - k) + 1 := by omega
      simp only [cellOf, getD_append_right (show ¬ i < (xs.take k).length by omega), ht]
      rw [e]
      show (encZ (xs.getD (i - 1) default)).getD 0 default = (encZ ((xs.drop k).getD (i - 1 - k) default)).getD 0 default
      congr 2
      simp only [List.getD, List.getElem?_drop]
      congr 2; omega
theorem row_len {nodes : List NodeT} {p : PeerT} : (rowF nodes p).length ≤ nodes.length := by
  rw [rowF, List.length_map, ← sortN_len nodes]; exact List.length_filter_le _ _
def encT (x : Int × Int) : List D := [.int .i64 x.1, .int .i64 x.2]
def keepF (nodes : List NodeT) (p : PeerT) : LinkT :=
  let l := rowF nodes p
  let at_ := idxP (fun y => p.id == y) l 0
  ⟨if at_ > 0 then l.getD (at_ - 1).toNat default else 0, if at_ ≥ 0 ∧ at_ + 1 < l.length then l.getD (at_ + 1).toNat default else 0⟩
def normal1F (ps : List PeerT) (x : NodeT) : PeerT := (ps.find? fun p => p.id == x.id).getD ⟨x.id, [], 0, 0, []⟩
def normalF (nodes : List NodeT) (ps : List PeerT) : List PeerT := (sortN nodes).map (normal1F ps)
def toldF (nodes : List NodeT) (ps : List PeerT) (id : Int) : List Int := ((ps.flatMap (introsF nodes)).filter fun x => x.1 == id).map (·.2)
def round1F (nodes : List NodeT) (old : List PeerT) (p : PeerT) : PeerT :=
  ⟨p.id, refsF nodes ⟨p.id, toldF nodes old p.id, (keepF nodes p).left, (keepF nodes p).right, []⟩, (keepF nodes p).left, (keepF nodes p).right, p.near⟩
def linRoundF (nodes : List NodeT) (ps : List PeerT) : List PeerT := (normalF nodes ps).map (round1F nodes (normalF nodes ps))
end Go.Sx
namespace Go.Sx
open Go
theorem own_row {nodes : List NodeT} {p : PeerT} (h : ∃ x ∈ nodes, x.id = p.id) : p.id ∈ rowF nodes p := by
  obtain ⟨x, hx, e⟩ := h
  rw [rowF, List.mem_map]
  exact ⟨x, List.mem_filter.2 ⟨sortN_mem.2 hx, by simp [e]⟩, e⟩
theorem keep_at {nodes : List NodeT} {p : PeerT} {q : Nat} (h : idxP (fun y => p.id == y) (rowF nodes p) 0 = (q : Int)) :
    keepF nodes p = ⟨if 0 < q then (rowF nodes p).getD (q - 1) default else 0, if q + 1 < (rowF nodes p).length then (rowF nodes p).getD (q + 1) default else 0⟩ := by
  unfold keepF
  simp only [h]
  have e1 : ((q : Int) - 1).toNat = q - 1 := by omega
  have e2 : ((q : Int) + 1).toNat = q + 1 := by omega
  rw [e1, e2]
  congr 1
  · by_cases h0 : 0 < q
    · rw [if_pos h0, if_pos (by omega)]
    · rw [if_neg h0, if_neg (by omega)]
  · by_cases h0 : q + 1 < (rowF nodes p).length
    · rw [if_pos h0, if_pos (by omega)]
    · rw [if_neg h0, if_neg (by omega)]
end Go.Sx

namespace Go.Sx
open Go
def famPR (E1 E2 : Nat) (ps : List PeerT) : Nat → Option FRow := fun k =>
  if k < 2 * ps.length then (if k % 2 = 0 then some ⟨E1, 1, (ps.getD (k / 2) default).known.length, cellOf encZ (ps.getD (k / 2) default).known⟩ else some ⟨E2, 4, (ps.getD (k / 2) default).near.length, cellOf encR (ps.getD (k / 2) default).near⟩) else none
def getPP (ps : List PeerT) : Nat → Nat → FC := fun i j => match j with
  | 0 => .d (.int .i64 (ps.getD i default).id)
  | 1 => .fs (2 * i) 1 (ps.getD i default).known.length
  | 2 => .d (.int .i64 (ps.getD i default).left)
  | 3 => .d (.int .i64 (ps.getD i default).right)
  | _ => .fs (2 * i + 1) 4 (ps.getD i default).near.length
theorem famPR_nil {E1 E2 : Nat} : FamLe (fun _ => none) (famPR E1 E2 []) := ⟨fun k r h => by simp [famPR] at h⟩
theorem famPR_push {E1 E2 n l1 l2 : Nat} {ps : List PeerT} {z : PeerT} {g1 g2 : Nat → Nat → D} (hn : n = 2 * ps.length) (h1 : l1 = z.known.length) (h2 : l2 = z.near.length) (hg1 : RowLe l1 1 g1 (cellOf encZ z.known)) (hg2 : RowLe l2 4 g2 (cellOf encR z.near)) :
    FamLe (putR (putR (famPR E1 E2 ps) n (some ⟨E1, 1, l1, g1⟩)) (n + 1) (some ⟨E2, 4, l2, g2⟩)) (famPR E1 E2 (ps ++ [z])) := by
  subst hn h1 h2
  refine ⟨fun k r' hr => ?_⟩
  simp only [famPR, putR, List.length_append, List.length_singleton] at hr ⊢
  by_cases e1 : k = 2 * ps.length + 1
  · rw [if_pos (by omega), if_neg (by omega)] at hr
    have ed : k / 2 = ps.length := by omega
    rw [ed, snoc_get, if_pos rfl] at hr
    cases hr
    rw [if_pos e1]
    exact ⟨_, rfl, rfl, rfl, rfl, hg2⟩
  · by_cases e2 : k = 2 * ps.length
    · rw [if_pos (by omega), if_pos (by omega)] at hr
      have ed : k / 2 = ps.length := by omega
      rw [ed, snoc_get, if_pos rfl] at hr
      cases hr
      rw [if_neg e1, if_pos e2]
      exact ⟨_, rfl, rfl, rfl, rfl, hg1⟩
    · by_cases hk : k < 2 * ps.length
      · rw [if_pos (by omega)] at hr
        have ed : k / 2 ≠ ps.length := by omega
        rw [snoc_get, if_neg ed] at hr
        rw [if_neg e1, if_neg e2, if_pos hk]
        exact ⟨r', hr, rfl, rfl, rfl, RowLe.refl _ _ _⟩
      · rw [if_neg (by omega)] at hr; cases hr
theorem getPP_push {n l1 l2 m1 m2 : Nat} {ps : List PeerT} {z : PeerT} {x y u : D} (hn : n = ps.length) (hm1 : m1 = 2 * n) (hm2 : m2 = 2 * n + 1) (h1 : l1 = z.known.length) (h2 : l2 = z.near.length) (hx : x = .int .i64 z.id) (hy : y = .int .i64 z.left) (hu : u = .int .i64 z.right) :
    FRowLe (n + 1) 5 (fun i j => if i < n then getPP ps i j else [FC.d x, FC.fs m1 1 l1, FC.d y, FC.d u, FC.fs m2 4 l2].getD j default) (getPP (ps ++ [z])) := by
  subst hn h1 h2 hx hy hu hm1 hm2
  refine .of_eq fun i j hi hj => ?_
  by_cases e : i < ps.length
  · rw [if_pos e]
    unfold getPP
    rw [snoc_get, if_neg (by omega)]
  · obtain rfl : i = ps.length := by omega
    rw [if_neg e]
    match j, hj with
    | 0, _ => simp only [getPP, snoc_get, if_true]; rfl
    | 1, _ => simp only [getPP, snoc_get, if_true]; rfl
    | 2, _ => simp only [getPP, snoc_get, if_true]; rfl
    | 3, _ => simp only [getPP, snoc_get, if_true]; rfl
    | 4, _ => simp only [getPP, snoc_get, if_true]; rfl
theorem famPR_cell {E1 E2 : Nat} {ps : List PeerT} {i j : Nat} (hi : i < ps.length) (hj : j < 5) : FOk (famPR E1 E2 ps) (getPP ps i j) ∧ DLe (fcD (famPR E1 E2 ps) (getPP ps i j)) (cellOf encP ps i j) := by
  have e1 : famPR E1 E2 ps (2 * i) = some ⟨E1, 1, (ps.getD i default).known.length, cellOf encZ (ps.getD i default).known⟩ := by
    simp only [famPR]; rw [if_pos (by omega), if_pos (by omega), show 2 * i / 2 = i by omega]
  have e2 : famPR E1 E2 ps (2 * i + 1) = some ⟨E2, 4, (ps.getD i default).near.length, cellOf encR (ps.getD i default).near⟩ := by
    simp only [famPR]; rw [if_pos (by omega), if_neg (by omega), show (2 * i + 1) / 2 = i by omega]
  match j, hj with
  | 0, _ => exact ⟨trivial, DLe.refl _⟩
  | 1, _ =>
    refine ⟨⟨_, e1, rfl, Nat.le_refl _⟩, DLe.rows rfl ⟨fun a b _ _ => ?_⟩⟩
    simp only [rowGet, e1]; exact DLe.refl _
  | 2, _ => exact ⟨trivial, DLe.refl _⟩
  | 3, _ => exact ⟨trivial, DLe.refl _⟩
  | 4, _ =>
    refine ⟨⟨_, e2, rfl, Nat.le_refl _⟩, DLe.rows rfl ⟨fun a b _ _ => ?_⟩⟩
    simp only [rowGet, e2]; exact DLe.refl _
theorem find_idx {ps : List PeerT} {id : Int} : (idxP (fun p : PeerT => p.id == id) ps 0 = -1 ∧ ps.find? (fun p => p.id == id) = none) ∨ ∃ i, idxP (fun p : PeerT => p.id == id) ps 0 = ((i : Nat) : Int) ∧ i < ps.length ∧ ps.find? (fun p => p.id == id) = some (ps.getD i default) := by
  rcases idxP_range (p := fun p : PeerT => p.id == id) (xs := ps) (f := 0) with ⟨h1, h2⟩ | ⟨i, h1, h2, h3, h4⟩
  · refine .inl ⟨h1, ?_⟩
    simp only [List.find?_eq_none]
    intro x hx
    simpa using List.any_eq_false.1 h2 x hx
  · refine .inr ⟨i, by simpa using h1, h2, ?_⟩
    rw [List.find?_eq_some_iff_getElem]
    have e : ps.getD i default = ps[i] := by simp [List.getD, h2]
    rw [e] at h3
    refine ⟨by rw [e]; exact h3, i, h2, e.symm, fun j hj => ?_⟩
    have := h4 j hj
    have e2 : ps.getD j default = ps[j] := by simp [List.getD, show j < ps.length by omega]
    rw [e2] at this
    simpa using this
theorem normal1B {ps : List PeerT} (h : PrsB ps) {x : NodeT} : PrB (normal1F ps x) := by
  unfold normal1F
  cases e : ps.find? (fun p => p.id == x.id) with
  | none => exact ⟨by simp, by simp⟩
  | some p => exact h.ok p (List.mem_of_find?_eq_some e)
theorem normalB {nodes : List NodeT} {ps : List PeerT} (h : PrsB ps) (hl : nodes.length ≤ 1000) : PrsB (normalF nodes ps) := by
  refine ⟨by rw [normalF, List.length_map, sortN_len]; exact hl, fun p hp => ?_⟩
  obtain ⟨x, _, rfl⟩ := List.mem_map.1 hp
  exact normal1B h
theorem normal_len {nodes : List NodeT} {ps : List PeerT} : (normalF nodes ps).length = nodes.length := by rw [normalF, List.length_map, sortN_len]
end Go.Sx

namespace Go.Sx
open Go
def tHas (L : List (Int × Int)) (q : List Int) : Bool := L.any fun x => q == [x.1]
def toldL (L : List (Int × Int)) (id : Int) : List Int := (L.filter fun x => x.1 == id).map (·.2)
theorem tHas_one {L : List (Int × Int)} {id : Int} : tHas L [id] = true ↔ ∃ y, (id, y) ∈ L := by
  unfold tHas
  rw [List.any_eq_true]
  constructor
  · rintro ⟨⟨a, y⟩, h, e⟩
    simp only [beq_iff_eq, List.cons.injEq, and_true] at e
    exact ⟨y, e ▸ h⟩
  · rintro ⟨y, h⟩
    exact ⟨(id, y), h, by simp⟩
theorem told_none {L : List (Int × Int)} {id : Int} (h : tHas L [id] = false) : toldL L id = [] := by
  unfold toldL
  rw [List.map_eq_nil_iff, List.filter_eq_nil_iff]
  rintro ⟨a, y⟩ hm e
  have e : a = id := by simpa using e
  subst e
  rw [tHas_one.2 ⟨y, hm⟩] at h; cases h
theorem told_snoc {L : List (Int × Int)} {a b id : Int} : toldL (L ++ [(a, b)]) id = if id = a then toldL L id ++ [b] else toldL L id := by
  unfold toldL
  rw [List.filter_append, List.map_append]
  by_cases e : id = a
  · subst e; simp
  · have : (a == id) = false := by simpa using Ne.symm e
    simp [e, Ne.symm e]
theorem told_len {L : List (Int × Int)} {id : Int} : (toldL L id).length ≤ L.length := by
  unfold toldL; rw [List.length_map]; exact List.length_filter_le _ _
theorem tHas_snoc {L : List (Int × Int)} {a b : Int} {q : List Int} : tHas (L ++ [(a, b)]) q = (q == [a] || tHas L q) := by
  unfold tHas; rw [List.any_append, Bool.or_comm]; simp
structure TOLD (rows : Nat → Option FRow) (nk E : Nat) (get : List Int → Nat → FC) (L : List (Int × Int)) : Prop where
  cell : ∀ id, tHas L [id] = true → CellIs rows nk (get [id] 0) E 1 (toldL L id).length (cellOf encZ (toldL L id))
  inj : ∀ a b k l l', tHas L [a] = true → tHas L [b] = true → get [a] 0 = .fs k 1 l → get [b] 0 = .fs k 1 l' → a = b
theorem TOLD.nil {rows : Nat → Option FRow} {nk E : Nat} {get : List Int → Nat → FC} : TOLD rows nk E get [] := ⟨fun id h => by simp [tHas] at h, fun a b k l l' h => by simp [tHas] at h⟩
theorem TOLD.push {rows rows' : Nat → Option FRow} {nk E : Nat} {get : List Int → Nat → FC} {L : List (Int × Int)} (h : TOLD rows nk E get L) {a b : Int} {g : Nat → Nat → D} {ko : Nat → Prop} (hko : ∀ k, ko k → tHas L [a] = true ∧ ∃ l, get [a] 0 = .fs k 1 l)
    (hr : ∀ k, k ≠ nk → ¬ ko k → rows' k = rows k) (hn : rows' nk = some ⟨E, 1, (toldL L a).length + 1, g⟩) (hg : RowLe ((toldL L a).length + 1) 1 g (cellOf encZ (toldL L a ++ [b]))) :
    TOLD rows' (nk + 1) E (fun q j => if q = [a] then .fs nk 1 ((toldL L a).length + 1) else get q j) (L ++ [(a, b)]) := by
  have hne : ∀ id, id ≠ a → tHas (L ++ [(a, b)]) [id] = true → tHas L [id] = true := by
    intro id hid ht
    rw [tHas_snoc] at ht
    have : ([id] == [a]) = false := by simpa using hid
    rw [this, Bool.false_or] at ht
    exact ht
  constructor
  · intro id ht
    by_cases e : id = a
    · subst e
      have e2 : toldL (L ++ [(id, b)]) id = toldL L id ++ [b] := by rw [told_snoc, if_pos rfl]
      simp only [if_true, e2, List.length_append, List.length_singleton]
      exact ⟨nk, g, rfl, by omega, hn, hg⟩
    · have ht' := hne id e ht
      have e2 : toldL (L ++ [(a, b)]) id = toldL L id := by rw [told_snoc, if_neg e]
      have e3 : ¬ [id] = [a] := by simpa using e
      simp only [if_neg e3, e2]
      obtain ⟨k, g', h1, h2, h3, h4⟩ := h.cell id ht'
      refine ⟨k, g', h1, by omega, ?_, h4⟩
      rw [hr k (by omega) (fun hk => ?_)]
      · exact h3
      · obtain ⟨h5, l, h6⟩ := hko k hk
        exact e (h.inj id a k _ _ ht' h5 h1 h6)
  · intro x y k l l' hx hy h1 h2
    simp only [List.cons.injEq, and_true] at h1 h2
    by_cases ex : x = a <;> by_cases ey : y = a
    · rw [ex, ey]
    · rw [if_pos ex] at h1
      rw [if_neg ey] at h2
      obtain ⟨k', g', h3, h4, _⟩ := h.cell y (hne y ey hy)
      rw [h2] at h3
      simp only [FC.fs.injEq] at h1 h3
      omega
    · rw [if_neg ex] at h1
      rw [if_pos ey] at h2
      obtain ⟨k', g', h3, h4, _⟩ := h.cell x (hne x ex hx)
      rw [h1] at h3
      simp only [FC.fs.injEq] at h2 h3
      omega
    · rw [if_neg ex] at h1
      rw [if_neg ey] at h2
      exact h.inj x y k l l' (hne x ex hx) (hne y ey hy) h1 h2
theorem TOLD.put {rows : Nat → Option FRow} {nk E : Nat} {r : FRow} {get : List Int → Nat → FC} {L : List (Int × Int)} (h : TOLD rows nk E get L) : TOLD (putR rows nk (some r)) (nk + 1) E get L :=
  ⟨fun id ht => by
    obtain ⟨k, g', h1, h2, h3, h4⟩ := h.cell id ht
    exact ⟨k, g', h1, by omega, by simp only [putR]; rw [if_neg (by omega)]; exact h3, h4⟩, h.inj⟩
def peerGet (key : Nat → Nat) (ps : List PeerT) : Nat → Nat → FC := fun i j => match j with
  | 0 => .d (.int .i64 (ps.getD i default).id)
  | 1 => .fs (key i) 1 (ps.getD i default).known.length
  | 2 => .d (.int .i64 (ps.getD i default).left)
  | 3 => .d (.int .i64 (ps.getD i default).right)
  | _ => .d (encL encR 4 (ps.getD i default).near)
abbrev NestP (rows : Nat → Option FRow) (nk E : Nat) (key : Nat → Nat) (ps : List PeerT) : Prop :=
  NestAt rows nk E 1 ps.length (fun i => .fs (key i) 1 (ps.getD i default).known.length) (fun i => (ps.getD i default).known.length) (fun i => cellOf encZ (ps.getD i default).known)
theorem peerGet_cell {rows : Nat → Option FRow} {nk E : Nat} {key : Nat → Nat} {ps : List PeerT} (h : NestP rows nk E key ps) {i j : Nat} (hi : i < ps.length) (hj : j < 5) : FOk rows (peerGet key ps i j) ∧ DLe (fcD rows (peerGet key ps i j)) (cellOf encP ps i j) :=
  match j, hj with
  | 0, _ => ⟨trivial, DLe.refl _⟩
  | 1, _ => ⟨(h.cell i hi).ok, (h.cell i hi).le⟩
  | 2, _ => ⟨trivial, DLe.refl _⟩
  | 3, _ => ⟨trivial, DLe.refl _⟩
  | 4, _ => ⟨trivial, DLe.refl _⟩
theorem NestP.snoc {rows : Nat → Option FRow} {nk E l : Nat} {key : Nat → Nat} {ps : List PeerT} (h : NestP rows nk E key ps) {z : PeerT} {g : Nat → Nat → D} (hl : l = z.known.length) (hg : RowLe l 1 g (cellOf encZ z.known)) :
    NestP (putR rows nk (some ⟨E, 1, l, g⟩)) (nk + 1) E (fun a => if a = ps.length then nk else key a) (ps ++ [z]) := by
  subst hl
  have hn := NestAt.push (sl' := fun i => .fs (if i = ps.length then nk else key i) 1 ((ps ++ [z]).getD i default).known.length) (ln' := fun i => ((ps ++ [z]).getD i default).known.length) (cn' := fun i => cellOf encZ ((ps ++ [z]).getD i default).known) (g := g) h
    (fun i hi => by
      have hne : i ≠ ps.length := by omega
      simp only [snoc_get, if_neg hne]; exact ⟨trivial, trivial, trivial⟩) (by simp only [snoc_get, if_true]) (by simp only [snoc_get, if_true]; exact hg)
  simp only [snoc_get, if_true] at hn
  show NestAt _ _ _ _ _ _ _ _
  simp only [List.length_append, List.length_singleton, snoc_get]
  exact hn
theorem peerGet_push {n l m1 : Nat} {key : Nat → Nat} {ps : List PeerT} {z : PeerT} {x y u v : D} (hn : n = ps.length) (hl : l = z.known.length) (hx : x = .int .i64 z.id) (hy : y = .int .i64 z.left) (hu : u = .int .i64 z.right) (hv : DLe v (encL encR 4 z.near)) :
    FRowLe (n + 1) 5 (fun i j => if i < n then peerGet key ps i j else [FC.d x, FC.fs m1 1 l, FC.d y, FC.d u, FC.d v].getD j default) (peerGet (fun a => if a = ps.length then m1 else key a) (ps ++ [z])) := by
  subst hn hl hx hy hu
  refine ⟨fun i j hi hj => ?_⟩
  by_cases e : i < ps.length
  · rw [if_pos e]
    have hne : i ≠ ps.length := by omega
    refine FCLe.of_eq ?_
    unfold peerGet
    rw [snoc_get, if_neg hne]; simp only [if_neg hne]
  · obtain rfl : i = ps.length := by omega
    rw [if_neg e]
    match j, hj with
    | 0, _ => exact FCLe.of_eq (by simp only [peerGet, snoc_get, if_true]; rfl)
    | 1, _ => exact FCLe.of_eq (by simp only [peerGet, snoc_get, if_true]; rfl)
    | 2, _ => exact FCLe.of_eq (by simp only [peerGet, snoc_get, if_true]; rfl)
    | 3, _ => exact FCLe.of_eq (by simp only [peerGet, snoc_get, if_true]; rfl)
    | 4, _ => simp only [peerGet, snoc_get, if_true]; exact FCLe.d hv
end Go.Sx

namespace Go.Sx
open Go
def otherF (nodes : List NodeT) (id own : Int) : Int := if (findN nodes id).isSome && id != own then id else 0
def wordF (nodes : List NodeT) (id : Int) : Nat := ((findN nodes id).getD default).word
def baseP (nodes : List NodeT) (p : PeerT) (lv : Nat) : LinkT :=
  if lv = 0 then ⟨p.left, p.right⟩ else if bitW (wordF nodes p.id) (lv - 1) = 1 then ⟨(p.near.getD (lv - 1) default).l1, (p.near.getD (lv - 1) default).r1⟩ else ⟨(p.near.getD (lv - 1) default).l0, (p.near.getD (lv - 1) default).r0⟩
def linkP (nodes : List NodeT) (p : PeerT) (lv : Nat) : LinkT :=
  if p.near.length < lv then ⟨0, 0⟩ else ⟨otherF nodes (baseP nodes p lv).left p.id, otherF nodes (baseP nodes p lv).right p.id⟩
def pairF (nodes : List NodeT) (own nb : Int) (lv : Nat) (zero one : Int) : Int × Int :=
  match findN nodes nb with
  | none => (0, 0)
  | some u => if bitW u.word lv = 0 then (u.id, otherF nodes one own) else (otherF nodes zero own, u.id)
def atF (ps : List PeerT) (id : Int) (lv : Nat) : NearT := ((ps.find? fun p => p.id == id).getD default).near.getD lv default
def near1F (nodes : List NodeT) (ps : List PeerT) (p : PeerT) (lv : Nat) : NearT :=
  ⟨(pairF nodes p.id (linkP nodes p lv).left lv (atF ps (linkP nodes p lv).left lv).l0 (atF ps (linkP nodes p lv).left lv).l1).1,
   (pairF nodes p.id (linkP nodes p lv).left lv (atF ps (linkP nodes p lv).left lv).l0 (atF ps (linkP nodes p lv).left lv).l1).2,
   (pairF nodes p.id (linkP nodes p lv).right lv (atF ps (linkP nodes p lv).right lv).r0 (atF ps (linkP nodes p lv).right lv).r1).1,
   (pairF nodes p.id (linkP nodes p lv).right lv (atF ps (linkP nodes p lv).right lv).r0 (atF ps (linkP nodes p lv).right lv).r1).2⟩
def nextF (nodes : List NodeT) (ps : List PeerT) (p : PeerT) (h : Nat) : List NearT := (List.range h).map (near1F nodes ps p)
def bRound1F (nodes : List NodeT) (old : List PeerT) (h : Nat) (p : PeerT) : PeerT := { p with near := nextF nodes old p h }
def bRoundF (nodes : List NodeT) (ps : List PeerT) (h : Nat) : List PeerT := (normalF nodes ps).map (bRound1F nodes (normalF nodes ps) h)
def rRound1F (nodes : List NodeT) (old : List PeerT) (h : Nat) (p : PeerT) : PeerT := { round1F nodes old p with near := nextF nodes old p h }
def rRoundF (nodes : List NodeT) (ps : List PeerT) (h : Nat) : List PeerT := (normalF nodes ps).map (rRound1F nodes (normalF nodes ps) h)
def runF (nodes : List NodeT) (h : Nat) : Nat → List PeerT → List PeerT
  | 0, ps => ps
  | n + 1, ps => rRoundF nodes (runF nodes h n ps) h
def links1F (nodes : List NodeT) (h : Nat) (p : PeerT) : LkdT := ⟨p.id, (List.range (h + 1)).map (linkP nodes p)⟩
def linksF (nodes : List NodeT) (ps : List PeerT) (h : Nat) : List LkdT := (normalF nodes ps).map (links1F nodes h)
def getLk (ls : List LkdT) : Nat → Nat → FC := getS (fun a => .int .i64 (ls.getD a default).id) 2 (fun a => (ls.getD a default).levels.length)
def famLk (E : Nat) (ls : List LkdT) : Nat → Option FRow := famL E 2 encK (ls.map (·.levels))
theorem famLk_nil {E : Nat} : FamLe (fun _ => none) (famLk E []) := famL_nil
theorem famLk_push {E n l : Nat} {ls : List LkdT} {z : LkdT} {g : Nat → Nat → D} (hn : n = ls.length) (hl : l = z.levels.length) (hg : RowLe l 2 g (cellOf encK z.levels)) :
    FamLe (putR (famLk E ls) n (some ⟨E, 2, l, g⟩)) (famLk E (ls ++ [z])) := by
  unfold famLk
  rw [List.map_append]
  exact famL_push (by rw [List.length_map]; exact hn) hl hg
theorem getLk_push {n l m1 : Nat} {ls : List LkdT} {z : LkdT} {x : D} (hn : n = ls.length) (hm : m1 = n) (hl : l = z.levels.length) (hx : x = .int .i64 z.id) :
    FRowLe (n + 1) 2 (fun i j => if i < n then getLk ls i j else [FC.d x, FC.fs m1 2 l].getD j default) (getLk (ls ++ [z])) := by
  subst hn hm hl hx
  refine .of_eq fun i j hi hj => ?_
  by_cases e : i < ls.length
  · rw [if_pos e]
    have hne : i ≠ ls.length := by omega
    simp only [getLk, getS, snoc_get, if_neg hne]
  · obtain rfl : i = ls.length := by omega
    rw [if_neg e]
    match j, hj with
    | 0, _ => simp only [getLk, getS, snoc_get, if_true]; rfl
    | 1, _ => simp only [getLk, getS, snoc_get, if_true]; rfl
theorem famLk_at {E : Nat} {ls : List LkdT} {k : Nat} (h : k < ls.length) : famLk E ls k = some ⟨E, 2, (ls.getD k default).levels.length, cellOf encK (ls.getD k default).levels⟩ := by
  unfold famLk
  rw [famL_at (by rw [List.length_map]; exact h)]
  have e : (ls.map (·.levels)).getD k default = (ls.getD k default).levels := by simp [List.getD, h]
  rw [e]
theorem famLk_cell {E : Nat} {ls : List LkdT} {i j : Nat} (hi : i < ls.length) (hj : j < 2) : FOk (famLk E ls) (getLk ls i j) ∧ DLe (fcD (famLk E ls) (getLk ls i j)) (cellOf encLk ls i j) :=
  match j, hj with
  | 0, _ => ⟨trivial, DLe.refl _⟩
  | 1, _ => by
    refine ⟨⟨_, famLk_at hi, rfl, Nat.le_refl _⟩, DLe.rows rfl ⟨fun a b _ _ => ?_⟩⟩
    simp only [rowGet, famLk_at hi]; exact DLe.refl _
theorem next_len {nodes : List NodeT} {old : List PeerT} {h : Nat} {p : PeerT} : (nextF nodes old p h).length = h := by rw [nextF, List.length_map, List.length_range]
end Go.Sx
namespace Go.Sx
open Go
def mixF (a b : List PeerT) (k : Nat) : List PeerT := b.take k ++ a.drop k
theorem mix_zero {a b : List PeerT} : mixF a b 0 = a := by simp [mixF]
theorem mix_full {a b : List PeerT} (h : a.length = b.length) : mixF a b a.length = b := by simp [mixF, h]
theorem mix_get {a b : List PeerT} {k i : Nat} (h : a.length = b.length) (hk : k ≤ a.length) : (mixF a b k).getD i default = if i < k then b.getD i default else a.getD i default := by
  have ht : (b.take k).length = k := by rw [List.length_take]; omega
  unfold mixF
  by_cases e : i < k
  · rw [if_pos e]; simp only [List.getD]
    rw [List.getElem?_append_left (by omega), List.getElem?_take, if_pos e]
  · rw [if_neg e]; simp only [List.getD]
    rw [List.getElem?_append_right (by omega), List.getElem?_drop, ht]
    congr 2; omega
theorem mix_step {key : Nat → Nat} {a b : List PeerT} {k : Nat} {v : D} (h : a.length = b.length) (hk : k < a.length) (he : b.getD k default = { a.getD k default with near := (b.getD k default).near }) (hv : DLe v (encL encR 4 (b.getD k default).near)) :
    FRowLe a.length 5 (fun i j => if i = k then (if j < 4 then peerGet key (mixF a b k) i j else if j < 4 + 1 then [FC.d v].getD (j - 4) default else peerGet key (mixF a b k) i j) else peerGet key (mixF a b k) i j) (peerGet key (mixF a b (k + 1))) := by
  refine ⟨fun i j hi hj => ?_⟩
  show FCLe (if _ then _ else _) _
  by_cases e : i = k
  · subst e
    rw [if_pos rfl]
    match j, hj with
    | 0, _ => exact FCLe.of_eq (by simp only [peerGet, mix_get h (show i ≤ a.length by omega), mix_get h (show i + 1 ≤ a.length by omega), Nat.lt_irrefl, if_false, show i < i + 1 by omega, if_true]; rw [he]; rfl)
    | 1, _ => exact FCLe.of_eq (by simp only [peerGet, mix_get h (show i ≤ a.length by omega), mix_get h (show i + 1 ≤ a.length by omega), Nat.lt_irrefl, if_false, show i < i + 1 by omega, if_true]; rw [he]; rfl)
    | 2, _ => exact FCLe.of_eq (by simp only [peerGet, mix_get h (show i ≤ a.length by omega), mix_get h (show i + 1 ≤ a.length by omega), Nat.lt_irrefl, if_false, show i < i + 1 by omega, if_true]; rw [he]; rfl)
    | 3, _ => exact FCLe.of_eq (by simp only [peerGet, mix_get h (show i ≤ a.length by omega), mix_get h (show i + 1 ≤ a.length by omega), Nat.lt_irrefl, if_false, show i < i + 1 by omega, if_true]; rw [he]; rfl)
    | 4, _ => simp only [peerGet, mix_get h (show i + 1 ≤ a.length by omega), show i < i + 1 by omega, if_true]; exact FCLe.d hv
  · rw [if_neg e]
    have e2 : (i < k + 1) = (i < k) := by rw [eq_iff_iff]; omega
    refine FCLe.of_eq ?_
    unfold peerGet
    rw [mix_get h (by omega), mix_get h (by omega)]
    simp only [e2]
theorem NestP.congr {rows : Nat → Option FRow} {nk E : Nat} {key : Nat → Nat} {a b : List PeerT} (h : NestP rows nk E key a) (hl : a.length = b.length) (hk : ∀ i, (a.getD i default).known = (b.getD i default).known) : NestP rows nk E key b := by
  unfold NestP at h ⊢
  rw [← hl]
  simp only [← hk]
  exact h
theorem lin_len {nodes : List NodeT} {ps : List PeerT} : (linRoundF nodes ps).length = nodes.length := by rw [linRoundF, List.length_map, normal_len]
theorem rR_len {nodes : List NodeT} {ps : List PeerT} {h : Nat} : (rRoundF nodes ps h).length = nodes.length := by rw [rRoundF, List.length_map, normal_len]
theorem bR_len {nodes : List NodeT} {ps : List PeerT} {h : Nat} : (bRoundF nodes ps h).length = nodes.length := by rw [bRoundF, List.length_map, normal_len]
theorem map_getD {α β : Type} [Inhabited α] [Inhabited β] {f : α → β} {xs : List α} {i : Nat} (h : i < xs.length) : (xs.map f).getD i default = f (xs.getD i default) := by simp [List.getD, h]
theorem rR_get {nodes : List NodeT} {ps : List PeerT} {h i : Nat} (hi : i < nodes.length) : (rRoundF nodes ps h).getD i default = { (linRoundF nodes ps).getD i default with near := ((bRoundF nodes ps h).getD i default).near } := by
  have hi2 : i < (normalF nodes ps).length := by rw [normal_len]; exact hi
  rw [rRoundF, linRoundF, bRoundF, map_getD hi2, map_getD hi2, map_getD hi2]; rfl
theorem rR_known {nodes : List NodeT} {ps : List PeerT} {h i : Nat} : ((linRoundF nodes ps).getD i default).known = ((rRoundF nodes ps h).getD i default).known := by
  by_cases hi : i < nodes.length
  · rw [rR_get hi]
  · have e1 : (linRoundF nodes ps).getD i default = default := by simp [List.getD, List.getElem?_eq_none (show (linRoundF nodes ps).length ≤ i by rw [lin_len]; omega)]
    have e2 : (rRoundF nodes ps h).getD i default = default := by simp [List.getD, List.getElem?_eq_none (show (rRoundF nodes ps h).length ≤ i by rw [rR_len]; omega)]
    rw [e1, e2]
theorem refs_len2 {nodes : List NodeT} {p : PeerT} : (refsF nodes p).length ≤ nodes.length := by
  rw [refsF, List.length_map, ← sortN_len nodes]; exact List.length_filter_le _ _
theorem rRB {nodes : List NodeT} {ps : List PeerT} {h : Nat} (hn : nodes.length ≤ 1000) (hh : h ≤ 1000) : PrsB (rRoundF nodes ps h) := by
  refine ⟨by rw [rR_len]; exact hn, fun p hp => ?_⟩
  obtain ⟨q, _, rfl⟩ := List.mem_map.1 hp
  exact ⟨Nat.le_trans refs_len2 hn, by show (nextF nodes _ q h).length ≤ 1000; rw [next_len]; exact hh⟩
end Go.Sx

namespace Go.Sx
open Go
structure PlcT where
  lv : Nat
  bits : Nat
deriving DecidableEq
instance : Inhabited PlcT := ⟨⟨0, 0⟩⟩
def encPl (x : PlcT) : List D := [.int .i64 x.lv, .int .u32 x.bits]
def placesF (x : NodeT) (h : Nat) : List PlcT := (List.range (h + 1)).map fun lv => ⟨lv, x.word % 2 ^ lv⟩
def rankL (cl : List LkdT) (q : List Int) : Nat := (cl.takeWhile fun x => !([x.id] == q)).length
def mHas (cl : List LkdT) (q : List Int) : Bool := cl.any fun x => q == [x.id]
def mGet (cl : List LkdT) (q : List Int) (j : Nat) : FC := getLk cl (rankL cl q) j
def hasL (last : List (List Int × Int)) (q : List Int) : Bool := last.any fun y => q == y.1
def valL (last : List (List Int × Int)) (q : List Int) : Int := ((last.find? fun y => q == y.1).map (·.2)).getD 0
def lGet (last : List (List Int × Int)) (q : List Int) (_ : Nat) : FC := .d (.int .i64 (valL last q))
def mStepL (cl : List LkdT) (id : Int) (p : PlcT) (S : List (List LinkT) × List (List Int × Int)) : List (List LinkT) :=
  if hasL S.2 [p.lv, p.bits] then setLf (setRt S.1 (rankL cl [valL S.2 [p.lv, p.bits]]) p.lv id) (rankL cl [id]) p.lv (valL S.2 [p.lv, p.bits]) else S.1
def mStep (cl : List LkdT) (id : Int) (S : List (List LinkT) × List (List Int × Int)) (p : PlcT) : List (List LinkT) × List (List Int × Int) :=
  (mStepL cl id p S, ([p.lv, p.bits], id) :: S.2)
def mNode (cl : List LkdT) (h : Nat) (S : List (List LinkT) × List (List Int × Int)) (x : NodeT) : List (List LinkT) × List (List Int × Int) := (placesF x h).foldl (mStep cl x.id) S
def mAll (cl : List LkdT) (h : Nat) (s : List NodeT) : List (List LinkT) × List (List Int × Int) := s.foldl (mNode cl h) (cl.map (·.levels), [])
def mergedF (cl : List LkdT) (h : Nat) (s : List NodeT) : List LkdT := (List.range s.length).map fun i => ⟨(s.getD i default).id, (mAll cl h s).1.getD (rankL cl [(s.getD i default).id]) default⟩
def getM (cl : List LkdT) (s : List NodeT) (h : Nat) : Nat → Nat → FC := fun i j => match j with
  | 0 => .d (.int .i64 (s.getD i default).id)
  | _ => .fs (rankL cl [(s.getD i default).id]) 2 (h + 1)
theorem rankL_lt {cl : List LkdT} {id : Int} (h : ∃ x ∈ cl, x.id = id) : rankL cl [id] < cl.length := by
  unfold rankL
  induction cl with
  | nil => obtain ⟨x, hx, _⟩ := h; cases hx
  | cons y cl ih =>
    simp only [List.takeWhile_cons]
    split
    · rename_i hy
      obtain ⟨x, hx, e⟩ := h
      have hne : y ≠ x := by rintro rfl; simp [e] at hy
      have := ih (by
        rcases List.mem_cons.1 hx with rfl | hx
        · exact absurd rfl hne
        · exact ⟨x, hx, e⟩)
      simp only [List.length_cons]; omega
    · simp
theorem rankL_get {cl : List LkdT} {id : Int} (h : ∃ x ∈ cl, x.id = id) : (cl.getD (rankL cl [id]) default).id = id := by
  unfold rankL
  induction cl with
  | nil => obtain ⟨x, hx, _⟩ := h; cases hx
  | cons y cl ih =>
    simp only [List.takeWhile_cons]
    split
    · rename_i hy
      obtain ⟨x, hx, e⟩ := h
      have hne : y ≠ x := by rintro rfl; simp [e] at hy
      have := ih (by
        rcases List.mem_cons.1 hx with rfl | hx
        · exact absurd rfl hne
        · exact ⟨x, hx, e⟩)
      simpa [List.getD] using this
    · rename_i hy
      have : y.id = id := by simpa using hy
      simpa [List.getD] using this
theorem rankL_at {cl : List LkdT} (hn : (cl.map (·.id)).Nodup) {i : Nat} (h : i < cl.length) : rankL cl [(cl.getD i default).id] = i := by
  unfold rankL
  induction cl generalizing i with
  | nil => simp at h
  | cons y s ih =>
    simp only [List.map_cons, List.nodup_cons] at hn
    cases i with
    | zero => simp [List.getD]
    | succ i =>
      have hi : i < s.length := by simpa using h
      have e : (y :: s).getD (i + 1) default = s.getD i default := rfl
      rw [e, List.takeWhile_cons]
      have hne : y.id ≠ (s.getD i default).id := fun h' => hn.1 (h' ▸ List.mem_map.2 ⟨_, getD_mem2 hi, rfl⟩)
      have hb : (!([y.id] == [(s.getD i default).id])) = true := by simpa [-List.getD_eq_getElem?_getD] using hne
      rw [if_pos hb, List.length_cons, ih hn.2 hi]
theorem mHas_one {cl : List LkdT} {id : Int} : mHas cl [id] = true ↔ ∃ x ∈ cl, x.id = id := by
  unfold mHas
  rw [List.any_eq_true]
  constructor
  · rintro ⟨x, h, e⟩
    simp only [beq_iff_eq, List.cons.injEq, and_true] at e
    exact ⟨x, h, e.symm⟩
  · rintro ⟨x, h, e⟩
    exact ⟨x, h, by simp [e]⟩
theorem hasL_cons {last : List (List Int × Int)} {q r : List Int} {v : Int} : hasL ((q, v) :: last) r = (r == q || hasL last r) := by simp [hasL]
theorem valL_cons {last : List (List Int × Int)} {q r : List Int} {v : Int} : valL ((q, v) :: last) r = if r = q then v else valL last r := by
  unfold valL
  rw [List.find?_cons]
  by_cases e : r = q
  · subst e; simp
  · have : (r == q) = false := by simpa using e
    simp only [this, if_neg e]
def LastOk (cl : List LkdT) (last : List (List Int × Int)) : Prop := ∀ y ∈ last, ∃ x ∈ cl, x.id = y.2
theorem LastOk.val {cl : List LkdT} {last : List (List Int × Int)} (h : LastOk cl last) {q : List Int} (hq : hasL last q = true) : ∃ x ∈ cl, x.id = valL last q := by
  unfold hasL at hq
  unfold valL
  obtain ⟨y, hy, e⟩ := List.any_eq_true.1 hq
  cases ef : last.find? (fun y => q == y.1) with
  | none =>
    have := List.find?_eq_none.1 ef y hy
    exact absurd e this
  | some z => exact h z (List.mem_of_find?_eq_some ef)
theorem LastOk.cons {cl : List LkdT} {last : List (List Int × Int)} (h : LastOk cl last) {q : List Int} {id : Int} (hi : ∃ x ∈ cl, x.id = id) : LastOk cl ((q, id) :: last) := by
  intro y hy
  rcases List.mem_cons.1 hy with rfl | hy
  · exact hi
  · exact h y hy
theorem places_get {x : NodeT} {h lv : Nat} (hl : lv < h + 1) : (placesF x h).getD lv default = ⟨lv, x.word % 2 ^ lv⟩ := by simp [placesF, List.getD, hl]
theorem places_len {x : NodeT} {h : Nat} : (placesF x h).length = h + 1 := by simp [placesF]
theorem mStep_shp {cl : List LkdT} {id : Int} {h : Nat} {S : List (List LinkT) × List (List Int × Int)} {p : PlcT} (hs : ShpL cl.length h S.1) (hl : LastOk cl S.2) (hi : ∃ x ∈ cl, x.id = id) : ShpL cl.length h (mStepL cl id p S) := by
  unfold mStepL
  split
  · rename_i hq
    exact (hs.setRt (rankL_lt (hl.val hq))).setLf (rankL_lt hi)
  · exact hs
theorem flat_getLk {fn E n : Nat} {ls : List LkdT} : FlatB (.frow fn E 2 n (getLk ls)) := fun i j _ hj => jlt2 (p := fun j => flatF (getLk ls i j) = true) rfl rfl j hj
theorem flat_famLk {E nk : Nat} {ls : List LkdT} : FlatB (.fam nk (famLk E ls)) := fun k r hr i j hi hj => by
  simp only [famLk, famL] at hr
  split at hr
  · cases hr
    exact jlt2 (p := fun j => flatD (cellOf encK ((ls.map (·.levels)).getD k default) i j) = true) rfl rfl j hj
  · cases hr
theorem mHas_take {cl : List LkdT} {i : Nat} (h : i < cl.length) {q : List Int} : mHas (cl.take (i + 1)) q = (q == [(cl.getD i default).id] || mHas (cl.take i) q) := by
  have e : cl.take (i + 1) = cl.take i ++ [cl.getD i default] := by rw [List.take_add_one]; simp [List.getD, List.getElem?_eq_getElem h]
  unfold mHas
  rw [e, List.any_append, Bool.or_comm]; simp
theorem getM_push {cl : List LkdT} {s : List NodeT} {h i k l : Nat} {v : Int} (hv : v = (s.getD i default).id) (hk : k = rankL cl [(s.getD i default).id]) (hl : l = h + 1) :
    FRowLe (i + 1) 2 (fun a b => if a < i then getM cl s h a b else [FC.d (.int .i64 v), FC.fs k 2 l].getD b default) (getM cl s h) := by
  subst hv hk hl
  refine .of_eq fun a b ha hb => ?_
  by_cases e : a < i
  · rw [if_pos e]
  · obtain rfl : a = i := by omega
    rw [if_neg e]
    match b, hb with
    | 0, _ => rfl
    | 1, _ => rfl
theorem mNode_ok {cl : List LkdT} {h : Nat} {id : Int} (hi : ∃ y ∈ cl, y.id = id) : ∀ (PL : List PlcT) (S : List (List LinkT) × List (List Int × Int)), ShpL cl.length h S.1 → LastOk cl S.2 → ShpL cl.length h (PL.foldl (mStep cl id) S).1 ∧ LastOk cl (PL.foldl (mStep cl id) S).2
  | [], S, h1, h2 => ⟨h1, h2⟩
  | p :: PL, S, h1, h2 => mNode_ok hi PL (mStep cl id S p) (mStep_shp h1 h2 hi) (h2.cons hi)
theorem mAll_ok {cl : List LkdT} {h : Nat} : ∀ (s : List NodeT) (S : List (List LinkT) × List (List Int × Int)), (∀ x ∈ s, ∃ y ∈ cl, y.id = x.id) → ShpL cl.length h S.1 → LastOk cl S.2 → ShpL cl.length h (s.foldl (mNode cl h) S).1 ∧ LastOk cl (s.foldl (mNode cl h) S).2
  | [], S, _, h1, h2 => ⟨h1, h2⟩
  | x :: s, S, hi, h1, h2 => by
    obtain ⟨h3, h4⟩ := mNode_ok (hi x (by simp)) (placesF x h) S h1 h2
    exact mAll_ok s _ (fun y hy => hi y (by simp [hy])) h3 h4
theorem getM_cell {cl : List LkdT} {s : List NodeT} {h E i j : Nat} {Ls : List (List LinkT)} (hs : ShpL cl.length h Ls) (hr : ∀ i, i < s.length → rankL cl [(s.getD i default).id] < cl.length) (hi : i < s.length) (hj : j < 2) :
    FOk (famL E 2 encK Ls) (getM cl s h i j) ∧ DLe (fcD (famL E 2 encK Ls) (getM cl s h i j)) (cellOf encLk ((List.range s.length).map fun i => (⟨(s.getD i default).id, Ls.getD (rankL cl [(s.getD i default).id]) default⟩ : LkdT)) i j) := by
  have hk := hr i hi
  have hl := hs.2 _ hk
  have hf := famL_at (E := E) (s := 2) (enc := encK) (Ls := Ls) (k := rankL cl [(s.getD i default).id]) (by rw [hs.1]; exact hk)
  have e : ((List.range s.length).map fun i => (⟨(s.getD i default).id, Ls.getD (rankL cl [(s.getD i default).id]) default⟩ : LkdT)).getD i default = ⟨(s.getD i default).id, Ls.getD (rankL cl [(s.getD i default).id]) default⟩ := by
    simp [List.getD, hi]
  match j, hj with
  | 0, _ => exact ⟨trivial, by simp only [cellOf, e]; exact DLe.refl _⟩
  | 1, _ =>
    refine ⟨⟨_, hf, rfl, by show h + 1 ≤ _; rw [hl]; exact Nat.le_refl _⟩, ?_⟩
    simp only [cellOf, e]
    refine DLe.rows (by rw [hl]) ⟨fun a b _ _ => ?_⟩
    simp only [rowGet, hf]; exact DLe.refl _
end Go.Sx

namespace Go.Sx
open Go
def encU (n : Nat) : List D := [.int .i64 n]
def ClosedS (S : Int → Prop) (prs : List (Int × Int)) : Prop := ∀ y ∈ prs, (S y.1 ↔ S y.2)
structure LabOk (ids : List Int) (prs : List (Int × Int)) (LB : List Nat) : Prop where
  len : LB.length = ids.length
  le : ∀ i, i < ids.length → LB.getD i default ≤ i
  cls : ∀ i, i < ids.length → ∀ S, ClosedS S prs → (S (ids.getD i default) ↔ S (ids.getD (LB.getD i default) default))
theorem LabOk.step {ids : List Int} {prs : List (Int × Int)} {LB : List Nat} (h : LabOk ids prs LB) {a b m : Nat} {y : Int × Int} (hy : y ∈ prs) (ha : a < ids.length) (hb : b < ids.length) (hya : ids.getD a default = y.1) (hyb : ids.getD b default = y.2)
    (hm : m = if LB.getD b default < LB.getD a default then LB.getD b default else LB.getD a default) : LabOk ids prs ((LB.set a m).set b m) := by
  have hla : a < LB.length := by rw [h.len]; exact ha
  have hlb : b < (LB.set a m).length := by rw [List.length_set, h.len]; exact hb
  have h1 := h.le a ha
  have h2 := h.le b hb
  have hma : m ≤ a := by rw [hm]; split <;> omega
  have hmb : m ≤ b := by rw [hm]; split <;> omega
  have hcl : ∀ S, ClosedS S prs → (S (ids.getD a default) ↔ S (ids.getD b default)) := fun S hS => by rw [hya, hyb]; exact hS y hy
  have hcm : ∀ S, ClosedS S prs → (S (ids.getD a default) ↔ S (ids.getD m default)) := fun S hS => by
    rw [hm]
    split
    · exact (hcl S hS).trans (h.cls b hb S hS)
    · exact h.cls a ha S hS
  refine ⟨by rw [List.length_set, List.length_set]; exact h.len, fun i hi => ?_, fun i hi S hS => ?_⟩
  · rw [set_get hlb]
    split
    · rename_i e; rw [e]; exact hmb
    · rw [set_get hla]
      split
      · rename_i e; rw [e]; exact hma
      · exact h.le i hi
  · rw [set_get hlb]
    split
    · rename_i e; rw [e]; exact ((hcl S hS).symm).trans (hcm S hS)
    · rw [set_get hla]
      split
      · rename_i e; rw [e]; exact hcm S hS
      · exact h.cls i hi S hS
theorem LabOk.init {ids : List Int} {prs : List (Int × Int)} {LB : List Nat} (h1 : LB.length = ids.length) (h2 : ∀ k, k < ids.length → LB.getD k default = k) : LabOk ids prs LB :=
  ⟨h1, fun i hi => by rw [h2 i hi]; exact Nat.le_refl _, fun i hi S _ => by rw [h2 i hi]⟩
theorem LabOk.all {ids : List Int} {prs : List (Int × Int)} {LB : List Nat} (h : LabOk ids prs LB) (hn : ∀ k, 0 < k → k < ids.length → LB.getD k default ≠ k) {S : Int → Prop} (hS : ClosedS S prs) : ∀ i, i < ids.length → (S (ids.getD i default) ↔ S (ids.getD 0 default)) := by
  intro i
  induction i using Nat.strongRecOn with
  | ind i ih =>
    intro hi
    rcases Nat.eq_zero_or_pos i with h0 | h0
    · rw [h0]
    · have h1 := h.le i hi
      have h2 := hn i h0 hi
      exact (h.cls i hi S hS).trans (ih _ (by omega) (by omega))
theorem row_setU {LB : List Nat} {a b m n : Nat} (ha : a < LB.length) (hb : b < LB.length) {v : Int} (hv : v = m) {g : Nat → Nat → D} (hg : ∀ i, i < n → g i 0 = if i = b then .int .i64 v else if i = a then .int .i64 v else cellOf encU LB i 0) : RowLe n 1 g (cellOf encU ((LB.set a m).set b m)) := by
  refine .of_eq fun i j hi hj => ?_
  have hj : j = 0 := by omega
  subst hj
  rw [hg i hi]
  have hb' : b < (LB.set a m).length := by rw [List.length_set]; exact hb
  simp only [cellOf, set_get hb', set_get ha]
  by_cases e1 : i = b
  · rw [if_pos e1, if_pos e1, hv]; rfl
  · rw [if_neg e1, if_neg e1]
    by_cases e2 : i = a
    · rw [if_pos e2, if_pos e2, hv]; rfl
    · rw [if_neg e2, if_neg e2]
end Go.Sx

namespace Go.Sx
open Go
structure PN (rows : Nat → Option FRow) (nk E1 E2 : Nat) (kn kr : Nat → Nat) (ps : List PeerT) : Prop where
  kc : ∀ i, i < ps.length → kn i < nk ∧ ∃ g, rows (kn i) = some ⟨E1, 1, (ps.getD i default).known.length, g⟩ ∧ RowLe (ps.getD i default).known.length 1 g (cellOf encZ (ps.getD i default).known)
  rc : ∀ i, i < ps.length → kr i < nk ∧ ∃ g, rows (kr i) = some ⟨E2, 4, (ps.getD i default).near.length, g⟩ ∧ RowLe (ps.getD i default).near.length 4 g (cellOf encR (ps.getD i default).near)
  ki : ∀ i j, i < ps.length → j < ps.length → kn i = kn j → i = j
  ri : ∀ i j, i < ps.length → j < ps.length → kr i = kr j → i = j
  sep : ∀ i j, i < ps.length → j < ps.length → kn i ≠ kr j
def getQ (kn kr : Nat → Nat) (ps : List PeerT) : Nat → Nat → FC := fun i j => match j with
  | 0 => .d (.int .i64 (ps.getD i default).id)
  | 1 => .fs (kn i) 1 (ps.getD i default).known.length
  | 2 => .d (.int .i64 (ps.getD i default).left)
  | 3 => .d (.int .i64 (ps.getD i default).right)
  | _ => .fs (kr i) 4 (ps.getD i default).near.length
def updN (k : Nat → Nat) (p v : Nat) : Nat → Nat := fun i => if i = p then v else k i
variable {rows : Nat → Option FRow} {nk E1 E2 : Nat} {kn kr : Nat → Nat} {ps : List PeerT}
theorem PN.nil : PN rows nk E1 E2 kn kr [] := ⟨fun i h => absurd h (Nat.not_lt_zero _), fun i h => absurd h (Nat.not_lt_zero _), fun i _ h => absurd h (Nat.not_lt_zero _), fun i _ h => absurd h (Nat.not_lt_zero _), fun i _ h => absurd h (Nat.not_lt_zero _)⟩
theorem PN.push (h : PN rows nk E1 E2 kn kr ps) {z : PeerT} {l1 l2 : Nat} {g1 g2 : Nat → Nat → D} (h1 : l1 = z.known.length) (h2 : l2 = z.near.length) (hg1 : RowLe l1 1 g1 (cellOf encZ z.known)) (hg2 : RowLe l2 4 g2 (cellOf encR z.near)) :
    PN (putR (putR rows nk (some ⟨E1, 1, l1, g1⟩)) (nk + 1) (some ⟨E2, 4, l2, g2⟩)) (nk + 1 + 1) E1 E2 (updN kn ps.length nk) (updN kr ps.length (nk + 1)) (ps ++ [z]) := by
  subst h1 h2
  have hl : (ps ++ [z]).length = ps.length + 1 := by simp
  refine ⟨fun i hi => ?_, fun i hi => ?_, fun i j hi hj e => ?_, fun i j hi hj e => ?_, fun i j hi hj e => ?_⟩
  all_goals rw [hl] at hi
  · simp only [updN, snoc_get]
    by_cases e : i = ps.length
    · simp only [if_pos e]
      exact ⟨by omega, g1, by simp only [putR]; rw [if_neg (by omega)]; simp, hg1⟩
    · simp only [if_neg e]
      obtain ⟨a, g, b, c⟩ := h.kc i (by omega)
      exact ⟨by omega, g, by simp only [putR]; rw [if_neg (by omega), if_neg (by omega)]; exact b, c⟩
  · simp only [updN, snoc_get]
    by_cases e : i = ps.length
    · simp only [if_pos e]
      exact ⟨by omega, g2, by simp [putR], hg2⟩
    · simp only [if_neg e]
      obtain ⟨a, g, b, c⟩ := h.rc i (by omega)
      exact ⟨by omega, g, by simp only [putR]; rw [if_neg (by omega), if_neg (by omega)]; exact b, c⟩
  all_goals rw [hl] at hj
  · simp only [updN] at e
    by_cases e1 : i = ps.length <;> by_cases e2 : j = ps.length
    · omega
    · rw [if_pos e1, if_neg e2] at e; have := (h.kc j (by omega)).1; omega
    · rw [if_neg e1, if_pos e2] at e; have := (h.kc i (by omega)).1; omega
    · rw [if_neg e1, if_neg e2] at e; exact h.ki i j (by omega) (by omega) e
  · simp only [updN] at e
    by_cases e1 : i = ps.length <;> by_cases e2 : j = ps.length
    · omega
    · rw [if_pos e1, if_neg e2] at e; have := (h.rc j (by omega)).1; omega
    · rw [if_neg e1, if_pos e2] at e; have := (h.rc i (by omega)).1; omega
    · rw [if_neg e1, if_neg e2] at e; exact h.ri i j (by omega) (by omega) e
  · simp only [updN] at e
    by_cases e1 : i = ps.length <;> by_cases e2 : j = ps.length
    · rw [if_pos e1, if_pos e2] at e; omega
    · rw [if_pos e1, if_neg e2] at e; have := (h.rc j (by omega)).1; omega
    · rw [if_neg e1, if_pos e2] at e; have := (h.kc i (by omega)).1; omega
    · rw [if_neg e1, if_neg e2] at e; exact h.sep i j (by omega) (by omega) e
theorem PN.setK (h : PN rows nk E1 E2 kn kr ps) {p l : Nat} {x : List Int} {g : Nat → Nat → D} (hp : p < ps.length) (hl : l = x.length) (hg : RowLe l 1 g (cellOf encZ x)) :
    PN (putR (putR rows (kn p) none) nk (some ⟨E1, 1, l, g⟩)) (nk + 1) E1 E2 (updN kn p nk) kr (ps.set p { ps.getD p default with known := x }) := by
  subst hl
  have hlen : (ps.set p { ps.getD p default with known := x }).length = ps.length := by simp
  refine ⟨fun i hi => ?_, fun i hi => ?_, fun i j hi hj e => ?_, fun i j hi hj e => ?_, fun i j hi hj e => ?_⟩
  all_goals rw [hlen] at hi
  · simp only [updN, set_get hp]
    by_cases e : i = p
    · simp only [if_pos e]
      exact ⟨by omega, g, by simp [putR], hg⟩
    · simp only [if_neg e]
      obtain ⟨a, g', b, c⟩ := h.kc i hi
      exact ⟨by omega, g', by simp only [putR]; rw [if_neg (by omega), if_neg (fun e' => e (h.ki i p hi hp e'))]; exact b, c⟩
  · obtain ⟨a, g', b, c⟩ := h.rc i hi
    have e1 : ((ps.set p { ps.getD p default with known := x }).getD i default).near = (ps.getD i default).near := by
      rw [set_get hp]; split
      · rename_i e; rw [e]
      · rfl
    rw [e1]
    exact ⟨by omega, g', by simp only [putR]; rw [if_neg (by omega), if_neg (fun e' => h.sep p i hp hi e'.symm)]; exact b, c⟩
  all_goals rw [hlen] at hj
  · simp only [updN] at e
    by_cases e1 : i = p <;> by_cases e2 : j = p
    · omega
    · rw [if_pos e1, if_neg e2] at e; have := (h.kc j hj).1; omega
    · rw [if_neg e1, if_pos e2] at e; have := (h.kc i hi).1; omega
    · rw [if_neg e1, if_neg e2] at e; exact h.ki i j hi hj e
  · exact h.ri i j hi hj e
  · simp only [updN] at e
    by_cases e1 : i = p
    · rw [if_pos e1] at e; have := (h.rc j hj).1; omega
    · rw [if_neg e1] at e; exact h.sep i j hi hj e
theorem PN.setR (h : PN rows nk E1 E2 kn kr ps) {p l : Nat} {x : List NearT} {g : Nat → Nat → D} (hp : p < ps.length) (hl : l = x.length) (hg : RowLe l 4 g (cellOf encR x)) :
    PN (putR (putR rows (kr p) none) nk (some ⟨E2, 4, l, g⟩)) (nk + 1) E1 E2 kn (updN kr p nk) (ps.set p { ps.getD p default with near := x }) := by
  subst hl
  have hlen : (ps.set p { ps.getD p default with near := x }).length = ps.length := by simp
  refine ⟨fun i hi => ?_, fun i hi => ?_, fun i j hi hj e => ?_, fun i j hi hj e => ?_, fun i j hi hj e => ?_⟩
  all_goals rw [hlen] at hi
  · obtain ⟨a, g', b, c⟩ := h.kc i hi
    have e1 : ((ps.set p { ps.getD p default with near := x }).getD i default).known = (ps.getD i default).known := by
      rw [set_get hp]; split
      · rename_i e; rw [e]
      · rfl
    rw [e1]
    exact ⟨by omega, g', by simp only [putR]; rw [if_neg (by omega), if_neg (fun e' => h.sep i p hi hp e')]; exact b, c⟩
  · simp only [updN, set_get hp]
    by_cases e : i = p
    · simp only [if_pos e]
      exact ⟨by omega, g, by simp [putR], hg⟩
    · simp only [if_neg e]
      obtain ⟨a, g', b, c⟩ := h.rc i hi
      exact ⟨by omega, g', by simp only [putR]; rw [if_neg (by omega), if_neg (fun e' => e (h.ri i p hi hp e'))]; exact b, c⟩
  all_goals rw [hlen] at hj
  · exact h.ki i j hi hj e
  · simp only [updN] at e
    by_cases e1 : i = p <;> by_cases e2 : j = p
    · omega
    · rw [if_pos e1, if_neg e2] at e; have := (h.rc j hj).1; omega
    · rw [if_neg e1, if_pos e2] at e; have := (h.rc i hi).1; omega
    · rw [if_neg e1, if_neg e2] at e; exact h.ri i j hi hj e
  · simp only [updN] at e
    by_cases e1 : j = p
    · rw [if_pos e1] at e; have := (h.kc i hi).1; omega
    · rw [if_neg e1] at e; exact h.sep i j hi hj e
theorem PN.setL (h : PN rows nk E1 E2 kn kr ps) {p : Nat} {v : Int} (hp : p < ps.length) : PN rows nk E1 E2 kn kr (ps.set p { ps.getD p default with left := v }) := by
  have hlen : (ps.set p { ps.getD p default with left := v }).length = ps.length := by simp
  have e1 : ∀ i, ((ps.set p { ps.getD p default with left := v }).getD i default).known = (ps.getD i default).known := fun i => by
    rw [set_get hp]; split
    · rename_i e; rw [e]
    · rfl
  have e2 : ∀ i, ((ps.set p { ps.getD p default with left := v }).getD i default).near = (ps.getD i default).near := fun i => by
    rw [set_get hp]; split
    · rename_i e; rw [e]
    · rfl
  refine ⟨fun i hi => ?_, fun i hi => ?_, fun i j hi hj e => ?_, fun i j hi hj e => ?_, fun i j hi hj e => ?_⟩
  all_goals rw [hlen] at hi
  · rw [e1]; exact h.kc i hi
  · rw [e2]; exact h.rc i hi
  all_goals rw [hlen] at hj
  · exact h.ki i j hi hj e
  · exact h.ri i j hi hj e
  · exact h.sep i j hi hj e
theorem PN.cell (h : PN rows nk E1 E2 kn kr ps) {i j : Nat} (hi : i < ps.length) (hj : j < 5) : FOk rows (getQ kn kr ps i j) ∧ DLe (fcD rows (getQ kn kr ps i j)) (cellOf encP ps i j) :=
  match j, hj with
  | 0, _ => ⟨trivial, DLe.refl _⟩
  | 1, _ => by
    obtain ⟨_, g, b, c⟩ := h.kc i hi
    refine ⟨⟨_, b, rfl, Nat.le_refl _⟩, DLe.rows rfl ⟨fun x y hx hy => ?_⟩⟩
    simp only [rowGet, b]; exact c.le x y hx hy
  | 2, _ => ⟨trivial, DLe.refl _⟩
  | 3, _ => ⟨trivial, DLe.refl _⟩
  | 4, _ => by
    obtain ⟨_, g, b, c⟩ := h.rc i hi
    refine ⟨⟨_, b, rfl, Nat.le_refl _⟩, DLe.rows rfl ⟨fun x y hx hy => ?_⟩⟩
    simp only [rowGet, b]; exact c.le x y hx hy
theorem getQ_push {n l1 l2 m1 m2 : Nat} {z : PeerT} {x y u : D} (hn : n = ps.length) (h1 : l1 = z.known.length) (h2 : l2 = z.near.length) (hx : x = .int .i64 z.id) (hy : y = .int .i64 z.left) (hu : u = .int .i64 z.right) :
    FRowLe (n + 1) 5 (fun i j => if i < n then getQ kn kr ps i j else [FC.d x, FC.fs m1 1 l1, FC.d y, FC.d u, FC.fs m2 4 l2].getD j default) (getQ (updN kn ps.length m1) (updN kr ps.length m2) (ps ++ [z])) := by
  subst hn h1 h2 hx hy hu
  refine .of_eq fun i j hi hj => ?_
  by_cases e : i < ps.length
  · rw [if_pos e]
    have hne : i ≠ ps.length := by omega
    unfold getQ updN
    simp only [snoc_get, if_neg hne]
  · obtain rfl : i = ps.length := by omega
    rw [if_neg e]
    match j, hj with
    | 0, _ => simp only [getQ, updN, snoc_get, if_true]; rfl
    | 1, _ => simp only [getQ, updN, snoc_get, if_true]; rfl
    | 2, _ => simp only [getQ, updN, snoc_get, if_true]; rfl
    | 3, _ => simp only [getQ, updN, snoc_get, if_true]; rfl
    | 4, _ => simp only [getQ, updN, snoc_get, if_true]; rfl
theorem getQ_set {n p : Nat} {kn' kr' : Nat → Nat} {q : PeerT} {g : Nat → Nat → FC} (hp : p < ps.length) (hk : ∀ i, i ≠ p → kn' i = kn i) (hr : ∀ i, i ≠ p → kr' i = kr i) (hg : ∀ i j, i ≠ p → g i j = getQ kn kr ps i j)
    (h5 : ∀ j, j < 5 → g p j = [FC.d (.int .i64 q.id), FC.fs (kn' p) 1 q.known.length, FC.d (.int .i64 q.left), FC.d (.int .i64 q.right), FC.fs (kr' p) 4 q.near.length].getD j default) : FRowLe n 5 g (getQ kn' kr' (ps.set p q)) := by
  refine .of_eq fun i j _ hj => ?_
  by_cases e : i = p
  · subst e
    rw [h5 j hj]
    match j, hj with
    | 0, _ => simp only [getQ, set_get hp, if_true]; rfl
    | 1, _ => simp only [getQ, set_get hp, if_true]; rfl
    | 2, _ => simp only [getQ, set_get hp, if_true]; rfl
    | 3, _ => simp only [getQ, set_get hp, if_true]; rfl
    | 4, _ => simp only [getQ, set_get hp, if_true]; rfl
  · rw [hg i j e]
    unfold getQ
    simp only [set_get hp, if_neg e, hk i e, hr i e]
end Go.Sx

namespace Go.Sx
open Go
abbrev kRows (rows : Nat → Option FRow) (E sz kk nk n : Nat) (g : Nat → Nat → D) : Nat → Option FRow := putR (putR rows kk none) nk (some ⟨E, sz, n, g⟩)
abbrev kGet (get0 : Nat → Nat → FC) (i nk sz n : Nat) : Nat → Nat → FC := fun i' j' => if i' = i then if j' < 0 + 1 then get0 i' j' else if j' < 0 + 1 + [FC.fs nk sz n].length then [FC.fs nk sz n].getD (j' - (0 + 1)) default else get0 i' j' else get0 i' j'
theorem know_cells {rows : Nat → Option FRow} {nk E sz i len kk : Nat} {key : Nat → Nat} {P0 P1 : List PeerT} {id : Int} {g : Nat → Nat → D} {get0 : Nat → Nat → FC} (hNP : NestP rows nk E key P0) (hi : i < P0.length) (hk : key i = kk) (hsz : sz = 1) (hlen : len = (P0.getD i default).known.length)
    (hg : RowLe (len + 1) 1 g (cellOf encZ ((P0.getD i default).known ++ [id]))) (h0 : ∀ a b, a < P0.length → get0 a b = peerGet key P0 a b) (h1 : ∀ a b, ¬ a < P0.length → get0 a b = .d (cellOf encP P1 (a - P0.length) b)) :
    ∀ a b, a < P0.length + P1.length → b < 5 → FOk (kRows rows E sz kk nk (len + 1) g) (kGet get0 i nk sz (len + 1) a b) ∧ DLe (fcD (kRows rows E sz kk nk (len + 1) g) (kGet get0 i nk sz (len + 1) a b)) (cellOf encP ((P0 ++ P1).set i { (P0 ++ P1).getD i default with known := ((P0 ++ P1).getD i default).known ++ [id] }) a b) := by
  subst hsz hlen
  intro a b ha hb
  have hia : i < (P0 ++ P1).length := by rw [List.length_append]; omega
  have hpi : (P0 ++ P1).getD i default = P0.getD i default := getD_append_left hi
  have hsw := NestAt.swap (sl' := fun a => .fs (if a = i then nk else key a) 1 ((P0.set i { P0.getD i default with known := (P0.getD i default).known ++ [id] }).getD a default).known.length)
    (ln' := fun a => ((P0.set i { P0.getD i default with known := (P0.getD i default).known ++ [id] }).getD a default).known.length)
    (cn' := fun a => cellOf encZ ((P0.set i { P0.getD i default with known := (P0.getD i default).known ++ [id] }).getD a default).known) (p := i) (kp := kk) (lp := (P0.getD i default).known.length) (g := g)
    hNP hi (by rw [hk]) (fun j hj hne => by simp only [set_get hi, if_neg hne]; exact ⟨trivial, trivial, trivial⟩) (by simp only [if_true]) (by
      simp only [set_get hi, if_true, List.length_append, List.length_singleton]
      exact hg)
  have hln : ((P0.set i { P0.getD i default with known := (P0.getD i default).known ++ [id] }).getD i default).known.length = (P0.getD i default).known.length + 1 := by simp only [set_get hi, if_true, List.length_append, List.length_singleton]
  simp only [hln] at hsw
  have hNP2 : NestP (kRows rows E 1 kk nk ((P0.getD i default).known.length + 1) g) (nk + 1) E (fun a => if a = i then nk else key a) (P0.set i { P0.getD i default with known := (P0.getD i default).known ++ [id] }) := by
    unfold NestP
    rw [List.length_set]
    exact hsw
  by_cases hal : a < P0.length
  · have hc := peerGet_cell hNP2 (i := a) (j := b) (by rw [List.length_set]; exact hal) hb
    have e1 : kGet get0 i nk 1 ((P0.getD i default).known.length + 1) a b = peerGet (fun a => if a = i then nk else key a) (P0.set i { P0.getD i default with known := (P0.getD i default).known ++ [id] }) a b := by
      unfold kGet
      by_cases e : a = i
      · subst e
        rw [if_pos rfl]
        match b, hb with
        | 0, _ => rw [if_pos (by omega), h0 _ _ hal]; simp only [peerGet, set_get hi, if_true]
        | 1, _ => rw [if_neg (by omega), if_pos (by simp)]; simp only [peerGet, set_get hi, if_true, List.length_append, List.length_singleton]; rfl
        | 2, _ => rw [if_neg (by omega), if_neg (by simp), h0 _ _ hal]; simp only [peerGet, set_get hi, if_true]
        | 3, _ => rw [if_neg (by omega), if_neg (by simp), h0 _ _ hal]; simp only [peerGet, set_get hi, if_true]
        | 4, _ => rw [if_neg (by omega), if_neg (by simp), h0 _ _ hal]; simp only [peerGet, set_get hi, if_true]
      · rw [if_neg e, h0 _ _ hal]
        unfold peerGet
        simp only [set_get hi, if_neg e]
    have e2 : cellOf encP ((P0 ++ P1).set i { (P0 ++ P1).getD i default with known := ((P0 ++ P1).getD i default).known ++ [id] }) a b = cellOf encP (P0.set i { P0.getD i default with known := (P0.getD i default).known ++ [id] }) a b := by
      simp only [cellOf]
      rw [set_get hia, set_get hi, hpi]
      by_cases e : a = i
      · rw [if_pos e, if_pos e]
      · rw [if_neg e, if_neg e, getD_append_left hal]
    rw [e1, e2]; exact hc
  · have hne : a ≠ i := by omega
    have e1 : kGet get0 i nk 1 ((P0.getD i default).known.length + 1) a b = .d (cellOf encP P1 (a - P0.length) b) := by
      unfold kGet
      rw [if_neg hne, h1 _ _ hal]
    have e2 : cellOf encP ((P0 ++ P1).set i { (P0 ++ P1).getD i default with known := ((P0 ++ P1).getD i default).known ++ [id] }) a b = cellOf encP P1 (a - P0.length) b := by
      simp only [cellOf]
      rw [set_get hia, if_neg hne, getD_append_right hal]
    rw [e1, e2]
    exact ⟨trivial, DLe.refl _⟩
end Go.Sx
