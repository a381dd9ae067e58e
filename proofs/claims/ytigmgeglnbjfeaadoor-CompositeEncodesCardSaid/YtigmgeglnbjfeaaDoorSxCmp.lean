/- Part of a symbolic executor over the model, proved sound, with plain laws: SxCmp. Written for these claims. -/
import Derived.Test.YtigmgeglnbjfeaaDoorSxTab
import Derived.Test.YtigmgeglnbjfeaaDoorSxTool
namespace Go.Sx
open Go
set_option linter.unusedVariables false
set_option linter.unusedSimpArgs false

/-! composite keys (chapter 2) -/
abbrev Fld := Int × Int × List UInt8
abbrev Col := Int × Bool
def nullF : Fld := (0, 0, [])
def encCol (c : Col) : List D := [.int .i64 c.1, .bool c.2]
def encFld (f : Fld) : List D := [.int .i64 f.1, .int .i64 f.2.1, .str f.2.2]
def kindOk (c : Col) : Bool := c.1 == 1 || c.1 == 2
def validS (s : List Col) : Bool := decide (1 ≤ s.length) && (decide (s.length ≤ 6) && s.all kindOk)
def fitsF (c : Col) (f : Fld) : Bool := (f.1 == 0 && (f.2.1 == 0 && f.2.2 == [])) || (f.1 == c.1 && (if f.1 = 1 then f.2.2 == [] else (f.2.1 == 0 && decide (f.2.2.length ≤ 16))))
def fitAt : List Col → List Fld → Bool
  | _, [] => true
  | c :: s, f :: l => fitsF c f && fitAt s l
  | [], _ :: _ => false
def fitsL (s : List Col) (l : List Fld) : Bool := validS s && (decide (l.length ≤ s.length) && fitAt s l)
def cmpI (a b : Int) : Int := if a < b then -1 else if a > b then 1 else 0
def cmpT (a b : List UInt8) : Int := if Op.bytesLess a b then -1 else if Op.bytesLess b a then 1 else 0
def cmpF (a b : Fld) : Int := if cmpI (min a.1 1) (min b.1 1) ≠ 0 then cmpI (min a.1 1) (min b.1 1) else if cmpI a.2.1 b.2.1 ≠ 0 then cmpI a.2.1 b.2.1 else cmpT a.2.2 b.2.2
def cmpC (c : Col) (a b : Fld) : Int := if c.2 then -(cmpF a b) else cmpF a b
def cmpL : List Col → List Fld → List Fld → Int
  | c :: s, x :: a, y :: b => if cmpC c x y ≠ 0 then cmpC c x y else cmpL s a b
  | _, a, b => cmpI a.length b.length
def compareL (s : List Col) (a b : List Fld) : Int := if !(fitsL s a) || !(fitsL s b) then 0 else cmpL s a b

/-! bytes -/
def esc : List UInt8 → List UInt8
  | [] => []
  | c :: t => if c = 0 then 0 :: 255 :: esc t else c :: esc t
def beL : Nat → Nat → List UInt8
  | 0, _ => []
  | n + 1, u => beL n (u / 256) ++ [UInt8.ofNat (u % 256)]
def offN (n : Int) : Nat := (n + 9223372036854775808).toNat
def enc1 (f : Fld) : List UInt8 := if f.1 = 1 then 2 :: beL 8 (offN f.2.1) else if f.1 = 2 then 3 :: (esc f.2.2 ++ [0, 1]) else [1]
def flipB (d : Bool) (l : List UInt8) : List UInt8 := if d then l.map (fun b => 255 - b) else l
def encF (c : Col) (f : Fld) : List UInt8 := flipB c.2 (enc1 f)
def encS : List Col → List Fld → List UInt8
  | c :: s, f :: l => encF c f ++ encS s l
  | _, _ => []
def encodeS (s : List Col) (l : List Fld) : List UInt8 × Int := if !(fitsL s l) then ([], 1) else if (encS s l).length > 64 then ([], 3) else (encS s l, 0)

theorem cmpI_neg {a b : Int} : cmpI b a = -(cmpI a b) := by
  unfold cmpI; split <;> split <;> (try split) <;> omega
theorem cmpT_neg {a b : List UInt8} : cmpT b a = -(cmpT a b) := by
  unfold cmpT
  cases h1 : Op.bytesLess a b with
  | true => simp [bl_asymm h1]
  | false => cases h2 : Op.bytesLess b a <;> simp
theorem cmpF_neg {a b : Fld} : cmpF b a = -(cmpF a b) := by
  unfold cmpF
  rw [cmpI_neg (a := min a.1 1), cmpI_neg (a := a.2.1), cmpT_neg (a := a.2.2)]
  split <;> split <;> (try split) <;> (try split) <;> omega
theorem cmpC_neg {c : Col} {a b : Fld} : cmpC c b a = -(cmpC c a b) := by
  unfold cmpC; rw [cmpF_neg (a := a)]; split <;> rfl
theorem cmpI_rng (a b : Int) : cmpI a b = -1 ∨ cmpI a b = 0 ∨ cmpI a b = 1 := by unfold cmpI; split <;> (try split) <;> simp
theorem cmpT_rng (a b : List UInt8) : cmpT a b = -1 ∨ cmpT a b = 0 ∨ cmpT a b = 1 := by unfold cmpT; split <;> (try split) <;> simp
theorem cmpF_rng (a b : Fld) : cmpF a b = -1 ∨ cmpF a b = 0 ∨ cmpF a b = 1 := by
  unfold cmpF; split
  · exact cmpI_rng _ _
  · split
    · exact cmpI_rng _ _
    · exact cmpT_rng _ _
theorem cmpC_rng (c : Col) (a b : Fld) : cmpC c a b = -1 ∨ cmpC c a b = 0 ∨ cmpC c a b = 1 := by
  have := cmpF_rng a b
  unfold cmpC; split <;> omega
theorem cmpI_zero {a b : Int} : cmpI a b = 0 ↔ a = b := by unfold cmpI; split <;> (try split) <;> omega
theorem cmpT_zero {a b : List UInt8} (h : cmpT a b = 0) : a = b := by
  unfold cmpT at h
  split at h
  · simp at h
  · split at h
    · simp at h
    · rename_i h1 h2
      exact bl_tri (by simpa using h1) (by simpa using h2)
theorem cmpT_self {a : List UInt8} : cmpT a a = 0 := by simp [cmpT, bl_irrefl]
theorem cmpF_self {a : Fld} : cmpF a a = 0 := by simp [cmpF, cmpI, cmpT_self]
theorem cmpC_self {c : Col} {a : Fld} : cmpC c a a = 0 := by simp [cmpC, cmpF_self]
/-- what a field that fits is like -/
theorem fit_cases {c : Col} {f : Fld} (hc : kindOk c = true) (h : fitsF c f = true) : f = nullF ∨ (c.1 = 1 ∧ ∃ n, f = (1, n, [])) ∨ (c.1 = 2 ∧ ∃ t, f = (2, 0, t) ∧ t.length ≤ 16) := by
  obtain ⟨k, n, t⟩ := f
  simp only [fitsF, kindOk, Bool.or_eq_true, Bool.and_eq_true, beq_iff_eq] at h hc
  rcases h with ⟨rfl, rfl, rfl⟩ | ⟨rfl, h⟩
  · exact .inl rfl
  · rcases hc with hc | hc
    · rw [if_pos hc] at h
      simp only [beq_iff_eq] at h
      exact .inr (.inl ⟨hc, n, by rw [hc, h]⟩)
    · rw [if_neg (by omega)] at h
      simp only [Bool.and_eq_true, beq_iff_eq, decide_eq_true_eq] at h
      exact .inr (.inr ⟨hc, t, by rw [hc, h.1], h.2⟩)
theorem cmpF_zero {c : Col} {a b : Fld} (hc : kindOk c = true) (ha : fitsF c a = true) (hb : fitsF c b = true) (h : cmpF a b = 0) : a = b := by
  unfold cmpF at h
  split at h
  · rename_i hk; exact absurd h hk
  · rename_i hk
    split at h
    · rename_i hn; exact absurd h hn
    · rename_i hn
      have hk := cmpI_zero.1 (Decidable.not_not.1 hk)
      have hn := cmpI_zero.1 (Decidable.not_not.1 hn)
      have ht := cmpT_zero h
      have : a.1 = b.1 := by
        rcases fit_cases hc ha with rfl | ⟨h1, n, rfl⟩ | ⟨h1, t, rfl, _⟩ <;> rcases fit_cases hc hb with rfl | ⟨h2, m, rfl⟩ | ⟨h2, u, rfl, _⟩ <;> simp [nullF] at hk ⊢ <;> omega
      exact Prod.ext this (Prod.ext hn ht)

/-! less, and no beginning -/
def Lt2 (x y : List UInt8) : Prop := ∃ p a b u v, x = p ++ a :: u ∧ y = p ++ b :: v ∧ a < b
theorem lt2_app {x y u v : List UInt8} (h : Lt2 x y) : Lt2 (x ++ u) (y ++ v) := by
  obtain ⟨p, a, b, s, t, rfl, rfl, hl⟩ := h
  exact ⟨p, a, b, s ++ u, t ++ v, by simp, by simp, hl⟩
theorem lt2_pre {x y p : List UInt8} (h : Lt2 x y) : Lt2 (p ++ x) (p ++ y) := by
  obtain ⟨q, a, b, s, t, rfl, rfl, hl⟩ := h
  exact ⟨p ++ q, a, b, s, t, by simp, by simp, hl⟩
theorem lt2_cons {x y : List UInt8} {c : UInt8} (h : Lt2 x y) : Lt2 (c :: x) (c :: y) := lt2_pre (p := [c]) h
theorem lt2_head {a b : UInt8} {u v : List UInt8} (h : a < b) : Lt2 (a :: u) (b :: v) := ⟨[], a, b, u, v, rfl, rfl, h⟩
theorem sub255 {a b : UInt8} (h : a < b) : 255 - b < 255 - a := by
  rw [UInt8.lt_iff_toNat_lt] at h ⊢
  have h1 := a.toNat_lt
  have h2 := b.toNat_lt
  rw [UInt8.toNat_sub_of_le _ _ (by rw [UInt8.le_iff_toNat_le]; show b.toNat ≤ 255; omega), UInt8.toNat_sub_of_le _ _ (by rw [UInt8.le_iff_toNat_le]; show a.toNat ≤ 255; omega)]
  show 255 - b.toNat < 255 - a.toNat
  omega
theorem lt2_flip {x y : List UInt8} (h : Lt2 x y) : Lt2 (flipB true y) (flipB true x) := by
  obtain ⟨p, a, b, s, t, rfl, rfl, hl⟩ := h
  exact ⟨p.map (fun b => 255 - b), 255 - b, 255 - a, t.map (fun b => 255 - b), s.map (fun b => 255 - b), by simp [flipB], by simp [flipB], sub255 hl⟩
theorem bl_pre {p x y : List UInt8} : Op.bytesLess (p ++ x) (p ++ y) = Op.bytesLess x y := by
  induction p with
  | nil => rfl
  | cons a p ih =>
    simp only [List.cons_append, Op.bytesLess, ih]
    have : decide (a < a) = false := by simp
    simp [this]
theorem lt2_less {x y : List UInt8} (h : Lt2 x y) : Op.bytesLess x y = true := by
  obtain ⟨p, a, b, s, t, rfl, rfl, hl⟩ := h
  rw [bl_pre]
  simp [Op.bytesLess, hl]
theorem bl_longer {x y : List UInt8} (h : y ≠ []) : Op.bytesLess x (x ++ y) = true := by
  have := bl_pre (p := x) (x := []) (y := y)
  rw [List.append_nil] at this
  rw [this]
  cases y with
  | nil => exact absurd rfl h
  | cons a y => rfl
theorem lt2_nopre {x y : List UInt8} (h : Lt2 x y) : (∀ r, y ≠ x ++ r) ∧ (∀ r, x ≠ y ++ r) := by
  obtain ⟨p, a, b, s, t, rfl, rfl, hl⟩ := h
  have hne : a ≠ b := fun e => by subst e; exact absurd hl (by simp)
  constructor
  · intro r e
    rw [List.append_assoc] at e
    have := List.append_cancel_left e
    simp only [List.cons_append, List.cons.injEq] at this
    exact hne this.1.symm
  · intro r e
    rw [List.append_assoc] at e
    have := List.append_cancel_left e
    simp only [List.cons_append, List.cons.injEq] at this
    exact hne this.1
theorem beL_len : ∀ {n u : Nat}, (beL n u).length = n
  | 0, _ => rfl
  | n + 1, u => by simp [beL, beL_len]
theorem beL_lt : ∀ {n u v : Nat}, v < 256 ^ n → u < v → Lt2 (beL n u) (beL n v)
  | 0, u, v, hv, h => by simp at hv; omega
  | n + 1, u, v, hv, h => by
    have h1 : v / 256 < 256 ^ n := by rw [Nat.pow_succ] at hv; exact Nat.div_lt_of_lt_mul (by rw [Nat.mul_comm]; exact hv)
    simp only [beL]
    rcases Nat.lt_or_ge (u / 256) (v / 256) with hq | hq
    · exact lt2_app (beL_lt h1 hq)
    · have e : u / 256 = v / 256 := by omega
      rw [e]
      refine lt2_pre (lt2_head ?_)
      rw [UInt8.lt_iff_toNat_lt, UInt8.toNat_ofNat', UInt8.toNat_ofNat']
      omega
theorem esc_lt : ∀ {s t : List UInt8}, Op.bytesLess s t = true → Lt2 (esc s ++ [0, 1]) (esc t ++ [0, 1])
  | _, [], h => by rw [bl_nil] at h; cases h
  | [], b :: t, _ => by
    simp only [esc, List.nil_append]
    split
    · exact lt2_cons (lt2_head (by decide))
    · rename_i hb
      refine lt2_head ?_
      rw [UInt8.lt_iff_toNat_lt]
      have : b.toNat ≠ 0 := fun e => hb (UInt8.toNat_inj.1 e)
      show 0 < b.toNat
      omega
  | a :: s, b :: t, h => by
    simp only [Op.bytesLess, Bool.or_eq_true, Bool.and_eq_true, decide_eq_true_eq, beq_iff_eq] at h
    rcases h with h | ⟨rfl, h⟩
    · have hb : b ≠ 0 := fun e => by subst e; rw [UInt8.lt_iff_toNat_lt] at h; exact absurd h (by simp)
      simp only [esc, if_neg hb]
      split
      · rename_i ha; subst ha; exact lt2_head h
      · exact lt2_head h
    · have ih := esc_lt h
      simp only [esc]
      split
      · exact lt2_cons (lt2_cons ih)
      · exact lt2_cons ih
theorem enc1_lt {c : Col} {f g : Fld} (hc : kindOk c = true) (hf : fitsF c f = true) (hg : fitsF c g = true) (hj : -9223372036854775808 ≤ f.2.1 ∧ g.2.1 < 9223372036854775808) (h : cmpF f g = -1) : Lt2 (enc1 f) (enc1 g) := by
  have m01 : min (0 : Int) 1 = 0 := by decide
  have m11 : min (1 : Int) 1 = 1 := by decide
  have m21 : min (2 : Int) 1 = 1 := by decide
  rcases fit_cases hc hf with rfl | ⟨h1, n, rfl⟩ | ⟨h1, t, rfl, _⟩ <;> rcases fit_cases hc hg with rfl | ⟨h2, m, rfl⟩ | ⟨h2, u, rfl, _⟩
  · rw [cmpF_self] at h; simp at h
  · exact lt2_head (by decide)
  · exact lt2_head (by decide)
  · exfalso
    simp only [cmpF, nullF, m01, m11] at h
    rw [if_pos (by decide)] at h
    exact absurd h (by decide)
  · simp only [enc1, if_true]
    have hnm : n < m := by
      simp only [cmpF, m11] at h
      rw [if_neg (by decide)] at h
      rcases Int.lt_trichotomy n m with hl | rfl | hl
      · exact hl
      · rw [if_neg (by simp [cmpI]), cmpT_self] at h
        simp at h
      · have e : cmpI n m = 1 := by unfold cmpI; rw [if_neg (by omega), if_pos hl]
        rw [e, if_pos (by decide)] at h
        simp at h
    simp only at hj
    refine lt2_cons (beL_lt ?_ ?_)
    · unfold offN; omega
    · unfold offN; omega
  · omega
  · exfalso
    simp only [cmpF, nullF, m01, m21] at h
    rw [if_pos (by decide)] at h
    exact absurd h (by decide)
  · omega
  · have : Op.bytesLess t u = true := by
      simp only [cmpF, m21] at h
      rw [if_neg (by decide), if_neg (by decide)] at h
      unfold cmpT at h
      cases hb : Op.bytesLess t u with
      | true => rfl
      | false =>
        rw [hb] at h
        cases hb2 : Op.bytesLess u t <;> rw [hb2] at h <;> simp at h
    have e : ∀ t : List UInt8, enc1 (2, 0, t) = 3 :: (esc t ++ [0, 1]) := fun t => by simp [enc1]
    rw [e, e]
    exact lt2_cons (esc_lt this)
/-! lists -/
def FldB (f : Fld) : Prop := -9223372036854775808 ≤ f.2.1 ∧ f.2.1 < 9223372036854775808
theorem encF_lt {c : Col} {f g : Fld} (hc : kindOk c = true) (hf : fitsF c f = true) (hg : fitsF c g = true) (hi : FldB f) (hj : FldB g) (h : cmpC c f g = -1) : Lt2 (encF c f) (encF c g) := by
  unfold cmpC at h
  unfold encF
  cases hd : c.2 with
  | false =>
    rw [hd] at h
    exact enc1_lt hc hf hg ⟨hi.1, hj.2⟩ (by simpa using h)
  | true =>
    rw [hd] at h
    simp only [if_true] at h
    exact lt2_flip (enc1_lt hc hg hf ⟨hj.1, hi.2⟩ (by rw [cmpF_neg (a := f)]; omega))
theorem enc1_ne {f : Fld} : enc1 f ≠ [] := by unfold enc1; split <;> (try split) <;> simp
theorem flip_ne {d : Bool} {l : List UInt8} (h : l ≠ []) : flipB d l ≠ [] := by unfold flipB; split <;> simp [h]
theorem encF_ne {c : Col} {f : Fld} : encF c f ≠ [] := flip_ne enc1_ne
theorem flip_len {d : Bool} {l : List UInt8} : (flipB d l).length = l.length := by unfold flipB; split <;> simp
/-- lists of the same columns: which of them is less -/
theorem encS_lt : ∀ {s : List Col} {a b : List Fld}, s.all kindOk = true → fitAt s a = true → fitAt s b = true → (∀ f ∈ a, FldB f) → (∀ f ∈ b, FldB f) → cmpL s a b = -1 →
    Lt2 (encS s a) (encS s b) ∨ ∃ r, r ≠ [] ∧ encS s b = encS s a ++ r
  | [], [], [], _, _, _, _, _, h => by simp [cmpL, cmpI] at h
  | [], _ :: _, _, _, ha, _, _, _, _ => by simp [fitAt] at ha
  | [], _, _ :: _, _, _, hb, _, _, _ => by simp [fitAt] at hb
  | c :: s, [], [], _, _, _, _, _, h => by simp [cmpL, cmpI] at h
  | c :: s, f :: a, [], _, _, _, _, _, h => by
    simp only [cmpL, cmpI, List.length_cons, List.length_nil] at h
    rw [if_neg (by omega), if_pos (by omega)] at h
    simp at h
  | c :: s, [], g :: b, _, _, _, _, _, _ => .inr ⟨encF c g ++ encS s b, by simp [encF_ne], by simp [encS]⟩
  | c :: s, f :: a, g :: b, hk, ha, hb, hi, hj, h => by
    simp only [List.all_cons, Bool.and_eq_true] at hk
    simp only [fitAt, Bool.and_eq_true] at ha hb
    have hi1 := hi f (by simp)
    have hj1 := hj g (by simp)
    simp only [cmpL] at h
    split at h
    · exact .inl (by simp only [encS]; exact lt2_app (encF_lt hk.1 ha.1 hb.1 hi1 hj1 h))
    · rename_i hz
      have hz : cmpC c f g = 0 := Decidable.not_not.1 hz
      have hfg : f = g := cmpF_zero hk.1 ha.1 hb.1 (by unfold cmpC at hz; split at hz <;> omega)
      subst hfg
      rcases encS_lt hk.2 ha.2 hb.2 (fun x hx => hi x (List.mem_cons_of_mem _ hx)) (fun x hx => hj x (List.mem_cons_of_mem _ hx)) h with h1 | ⟨r, h1, h2⟩
      · exact .inl (lt2_pre h1)
      · exact .inr ⟨r, h1, by simp only [encS, h2, List.append_assoc]⟩
theorem cmpL_rng : ∀ (s : List Col) (a b : List Fld), cmpL s a b = -1 ∨ cmpL s a b = 0 ∨ cmpL s a b = 1
  | c :: s, x :: a, y :: b => by
    simp only [cmpL]
    split
    · exact cmpC_rng c x y
    · exact cmpL_rng s a b
  | [], a, b => by cases a <;> cases b <;> exact cmpI_rng _ _
  | _ :: _, [], b => by cases b <;> exact cmpI_rng _ _
  | _ :: _, _ :: _, [] => cmpI_rng _ _
theorem cmpL_neg : ∀ (s : List Col) (a b : List Fld), cmpL s b a = -(cmpL s a b)
  | c :: s, x :: a, y :: b => by
    simp only [cmpL]
    rw [cmpC_neg (a := x), cmpL_neg s a b]
    split <;> split <;> omega
  | [], a, b => by cases a <;> cases b <;> exact cmpI_neg
  | _ :: _, [], b => by cases b <;> exact cmpI_neg
  | _ :: _, _ :: _, [] => cmpI_neg
theorem cmpL_zero : ∀ {s : List Col} {a b : List Fld}, s.all kindOk = true → fitAt s a = true → fitAt s b = true → cmpL s a b = 0 → a = b
  | _, [], [], _, _, _, _ => rfl
  | [], _ :: _, _, _, ha, _, _ => by simp [fitAt] at ha
  | [], _, _ :: _, _, _, hb, _ => by simp [fitAt] at hb
  | c :: s, f :: a, [], _, _, _, h => by
    have := cmpI_zero.1 (show cmpI _ _ = 0 from h)
    simp at this; omega
  | c :: s, [], g :: b, _, _, _, h => by
    have := cmpI_zero.1 (show cmpI _ _ = 0 from h)
    simp at this; omega
  | c :: s, f :: a, g :: b, hk, ha, hb, h => by
    simp only [List.all_cons, Bool.and_eq_true] at hk
    simp only [fitAt, Bool.and_eq_true] at ha hb
    simp only [cmpL] at h
    split at h
    · rename_i hz; exact absurd h hz
    · rename_i hz
      have hz : cmpC c f g = 0 := Decidable.not_not.1 hz
      have hfg : f = g := cmpF_zero hk.1 ha.1 hb.1 (by unfold cmpC at hz; split at hz <;> omega)
      rw [hfg, cmpL_zero hk.2 ha.2 hb.2 h]
theorem cmpL_self : ∀ {s : List Col} {a : List Fld}, cmpL s a a = 0
  | c :: s, x :: a => by simp only [cmpL]; rw [if_neg (by simp [cmpC_self])]; exact cmpL_self
  | [], a => by cases a <;> exact cmpI_zero.2 rfl
  | _ :: _, [] => cmpI_zero.2 rfl
/-- the order of the bytes -/
theorem encS_order {s : List Col} {a b : List Fld} (hk : s.all kindOk = true) (ha : fitAt s a = true) (hb : fitAt s b = true) (hi : ∀ f ∈ a, FldB f) (hj : ∀ f ∈ b, FldB f) : cmpL s a b = cmpT (encS s a) (encS s b) := by
  have less : ∀ {x y : List UInt8}, (Lt2 x y ∨ ∃ r, r ≠ [] ∧ y = x ++ r) → Op.bytesLess x y = true := by
    rintro x y (h | ⟨r, h1, rfl⟩)
    · exact lt2_less h
    · exact bl_longer h1
  rcases cmpL_rng s a b with h | h | h
  · have := less (encS_lt hk ha hb hi hj h)
    rw [h, cmpT, this]; rfl
  · have := cmpL_zero hk ha hb h
    subst this
    rw [h, cmpT_self]
  · have h2 : cmpL s b a = -1 := by rw [cmpL_neg s a b, h]
    have := less (encS_lt hk hb ha hj hi h2)
    rw [h, cmpT, bl_asymm this, this]; rfl
/-! beginnings -/
theorem encS_take : ∀ {s : List Col} {b : List Fld} {m : Nat}, b.length ≤ s.length → ∃ r, encS s b = encS s (b.take m) ++ r
  | s, b, 0, _ => ⟨encS s b, by cases s <;> simp [encS]⟩
  | _, [], m + 1, _ => ⟨[], by simp⟩
  | [], _ :: _, _, h => by simp at h
  | c :: s, f :: b, m + 1, h => by
    obtain ⟨r, hr⟩ := encS_take (s := s) (b := b) (m := m) (by simpa using h)
    exact ⟨r, by simp only [encS, List.take_succ_cons, hr, List.append_assoc]⟩
theorem fitAt_take : ∀ {s : List Col} {b : List Fld} {m : Nat}, fitAt s b = true → fitAt s (b.take m) = true
  | _, _, 0, _ => by simp [fitAt]
  | _, [], _ + 1, _ => by simp [fitAt]
  | [], _ :: _, _, h => by simp [fitAt] at h
  | c :: s, f :: b, m + 1, h => by
    simp only [fitAt, Bool.and_eq_true, List.take_succ_cons] at h ⊢
    exact ⟨h.1, fitAt_take h.2⟩
/-- lists of the same length: the one is the beginning of a key only if they are equal -/
theorem encS_diff : ∀ {s : List Col} {a b : List Fld}, s.all kindOk = true → fitAt s a = true → fitAt s b = true → (∀ f ∈ a, FldB f) → (∀ f ∈ b, FldB f) → a.length = b.length → a ≠ b → Lt2 (encS s a) (encS s b) ∨ Lt2 (encS s b) (encS s a)
  | _, [], [], _, _, _, _, _, _, h => absurd rfl h
  | _, [], _ :: _, _, _, _, _, _, h, _ => by simp at h
  | _, _ :: _, [], _, _, _, _, _, h, _ => by simp at h
  | [], _ :: _, _ :: _, _, ha, _, _, _, _, _ => by simp [fitAt] at ha
  | c :: s, f :: a, g :: b, hk, ha, hb, hi, hj, hl, hne => by
    simp only [List.all_cons, Bool.and_eq_true] at hk
    simp only [fitAt, Bool.and_eq_true] at ha hb
    have hi1 := hi f (by simp)
    have hj1 := hj g (by simp)
    simp only [encS]
    rcases cmpC_rng c f g with h | h | h
    · exact .inl (lt2_app (encF_lt hk.1 ha.1 hb.1 hi1 hj1 h))
    · have hfg : f = g := cmpF_zero hk.1 ha.1 hb.1 (by unfold cmpC at h; split at h <;> omega)
      subst hfg
      have hab : a ≠ b := fun e => hne (by rw [e])
      rcases encS_diff hk.2 ha.2 hb.2 (fun x hx => hi x (List.mem_cons_of_mem _ hx)) (fun x hx => hj x (List.mem_cons_of_mem _ hx)) (by simpa using hl) hab with h1 | h1
      · exact .inl (lt2_pre h1)
      · exact .inr (lt2_pre h1)
    · exact .inr (lt2_app (encF_lt hk.1 hb.1 ha.1 hj1 hi1 (by rw [cmpC_neg (a := f), h])))
theorem encS_prefix {s : List Col} {a b : List Fld} {m : Nat} (hk : s.all kindOk = true) (ha : fitAt s a = true) (hb : fitAt s b = true) (hi : ∀ f ∈ a, FldB f) (hj : ∀ f ∈ b, FldB f) (hla : m ≤ a.length) (hlb : m ≤ b.length) (hbs : b.length ≤ s.length) :
    (∃ r, encS s b = encS s (a.take m) ++ r) ↔ a.take m = b.take m := by
  constructor
  · rintro ⟨r, hr⟩
    refine Classical.byContradiction fun hne => ?_
    obtain ⟨u, hu⟩ := encS_take (s := s) (b := b) (m := m) hbs
    have hd := encS_diff (s := s) hk (fitAt_take (m := m) ha) (fitAt_take (m := m) hb) (fun f hf => hi f (List.mem_of_mem_take hf)) (fun f hf => hj f (List.mem_of_mem_take hf)) (by simp only [List.length_take]; omega) hne
    rcases hd with h | h
    · have h1 := (lt2_nopre (lt2_app (u := []) (v := u) h)).1 r
      rw [List.append_nil, ← hu] at h1
      exact h1 hr
    · have h1 := (lt2_nopre (lt2_app (u := u) (v := []) h)).2 r
      rw [List.append_nil, ← hu] at h1
      exact h1 hr
  · intro h
    rw [h]
    exact encS_take hbs
end Go.Sx

namespace Go.Sx
open Go
set_option linter.unusedVariables false
set_option linter.unusedSimpArgs false

/-! decoding -/
theorem sub_sub255 (b : UInt8) : 255 - (255 - b) = b := by
  have h := b.toNat_lt
  apply UInt8.toNat_inj.1
  have h1 : (255 - b).toNat = 255 - b.toNat := UInt8.toNat_sub_of_le _ _ (by rw [UInt8.le_iff_toNat_le]; show b.toNat ≤ 255; omega)
  rw [UInt8.toNat_sub_of_le _ _ (by rw [UInt8.le_iff_toNat_le, h1]; show 255 - b.toNat ≤ 255; omega), h1]
  show 255 - (255 - b.toNat) = b.toNat
  omega
theorem flip_flip {d : Bool} {l : List UInt8} : flipB d (flipB d l) = l := by
  cases d with
  | false => rfl
  | true =>
    simp only [flipB, if_true, List.map_map]
    conv => rhs; rw [← List.map_id l]
    refine List.map_congr_left fun b _ => ?_
    exact sub_sub255 b
theorem flip_app {d : Bool} {a b : List UInt8} : flipB d (a ++ b) = flipB d a ++ flipB d b := by
  cases d <;> simp [flipB]
def rdT : List UInt8 → Option (List UInt8 × List UInt8)
  | [] => none
  | [c] => if c = 0 then none else none
  | c :: e :: r => if c = 0 then (if e = 255 then (rdT r).map fun x => (0 :: x.1, x.2) else if e = 1 then some ([], r) else none)
    else (rdT (e :: r)).map fun x => (c :: x.1, x.2)
def valN (l : List UInt8) : Nat := l.foldl (fun n b => n * 256 + b.toNat) 0
def rdF : List UInt8 → Option (Fld × List UInt8)
  | [] => none
  | m :: r => if m = 1 then some (nullF, r) else if m = 2 then (if r.length < 8 then none else some ((1, (valN (r.take 8) : Int) - 9223372036854775808, []), r.drop 8)) else if m = 3 then (rdT r).map (fun x => ((2, 0, x.1), x.2)) else none
def readF (c : Col) (b : List UInt8) : Option (Fld × List UInt8) := (rdF (flipB c.2 b)).map fun x => (x.1, flipB c.2 x.2)
def decS : List Col → List UInt8 → Option (List Fld × List UInt8)
  | [], b => some ([], b)
  | c :: s, b => match readF c b with
    | none => none
    | some (f, r) => if fitsF c f then (decS s r).map (fun x => (f :: x.1, x.2)) else none
def decodeS (s : List Col) (key : List UInt8) : List Fld × Int :=
  if !(validS s) then ([], 1) else match decS s key with
    | some (l, r) => if r.length > 0 ∨ key.length > 64 then ([], 4) else (l, 0)
    | none => ([], 4)
theorem rdT_esc : ∀ (t r : List UInt8), rdT (esc t ++ 0 :: 1 :: r) = some (t, r)
  | [], r => by simp [esc, rdT]
  | c :: t, r => by
    have ih := rdT_esc t r
    simp only [esc]
    split
    · rename_i hc
      subst hc
      simp [rdT, ih]
    · rename_i hc
      cases he : esc t ++ 0 :: 1 :: r with
      | nil => simp at he
      | cons e u =>
        rw [List.cons_append, he]
        rw [he] at ih
        simp [rdT, hc, ih]
theorem esc_rdT : ∀ {l t r : List UInt8}, rdT l = some (t, r) → l = esc t ++ 0 :: 1 :: r
  | [], _, _, h => by simp [rdT] at h
  | [c], _, _, h => by simp [rdT] at h
  | c :: e :: u, t, r, h => by
    simp only [rdT] at h
    split at h
    · rename_i hc
      subst hc
      split at h
      · rename_i he
        subst he
        simp only [Option.map_eq_some_iff, Prod.mk.injEq] at h
        obtain ⟨⟨t', r'⟩, h1, rfl, rfl⟩ := h
        have := esc_rdT h1
        simp [esc, this]
      · split at h
        · rename_i he
          subst he
          simp only [Option.some.injEq, Prod.mk.injEq] at h
          obtain ⟨rfl, rfl⟩ := h
          rfl
        · cases h
    · rename_i hc
      simp only [Option.map_eq_some_iff, Prod.mk.injEq] at h
      obtain ⟨⟨t', r'⟩, h1, rfl, rfl⟩ := h
      have := esc_rdT h1
      simp [esc, hc, this]
theorem valN_app {a : List UInt8} {b : UInt8} : valN (a ++ [b]) = valN a * 256 + b.toNat := by simp [valN]
theorem valN_be : ∀ {n u : Nat}, u < 256 ^ n → valN (beL n u) = u
  | 0, u, h => by simp at h; subst h; rfl
  | n + 1, u, h => by
    have h1 : u / 256 < 256 ^ n := by rw [Nat.pow_succ] at h; exact Nat.div_lt_of_lt_mul (by rw [Nat.mul_comm]; exact h)
    rw [beL, valN_app, valN_be h1, UInt8.toNat_ofNat']
    omega
theorem be_valN : ∀ {n : Nat} {l : List UInt8}, l.length = n → beL n (valN l) = l ∧ valN l < 256 ^ n
  | 0, l, h => by
    have : l = [] := List.length_eq_zero_iff.1 h
    subst this
    exact ⟨rfl, by simp [valN]⟩
  | n + 1, l, h => by
    have hne : l ≠ [] := fun e => by subst e; simp at h
    obtain ⟨a, b, rfl⟩ : ∃ a b, l = a ++ [b] := ⟨l.dropLast, l.getLast hne, (List.dropLast_concat_getLast hne).symm⟩
    obtain ⟨h1, h2⟩ := be_valN (n := n) (l := a) (by simpa using h)
    have hb := b.toNat_lt
    rw [valN_app, beL]
    have e1 : (valN a * 256 + b.toNat) / 256 = valN a := by omega
    have e2 : (valN a * 256 + b.toNat) % 256 = b.toNat := by omega
    rw [e1, e2, h1]
    refine ⟨by simp, ?_⟩
    rw [Nat.pow_succ]; omega
theorem rdF_enc {c : Col} {f : Fld} {r : List UInt8} (hc : kindOk c = true) (hf : fitsF c f = true) (hb : FldB f) : rdF (enc1 f ++ r) = some (f, r) := by
  rcases fit_cases hc hf with rfl | ⟨h1, n, rfl⟩ | ⟨h1, t, rfl, _⟩
  · rfl
  · have hl := beL_len (n := 8) (u := offN n)
    have hu : offN n < 256 ^ 8 := by unfold FldB at hb; unfold offN; simp only at hb; omega
    have e : enc1 (1, n, []) ++ r = 2 :: (beL 8 (offN n) ++ r) := by simp [enc1]
    rw [e]
    simp only [rdF]
    rw [if_neg (by decide), if_pos trivial, if_neg (by simp only [List.length_append]; omega), List.take_append_of_le_length (by omega), List.take_of_length_le (by omega), valN_be hu, List.drop_append_of_le_length (by omega), List.drop_of_length_le (by omega)]
    have : ((offN n : Nat) : Int) - 9223372036854775808 = n := by unfold FldB at hb; unfold offN; simp only at hb; omega
    rw [this]; rfl
  · have e : enc1 (2, 0, t) ++ r = 3 :: (esc t ++ 0 :: 1 :: r) := by simp [enc1]
    rw [e]
    simp only [rdF]
    rw [if_neg (by decide), if_neg (by decide), if_pos trivial, rdT_esc]; rfl
theorem enc_rdF {b r : List UInt8} {f : Fld} (h : rdF b = some (f, r)) : b = enc1 f ++ r ∧ FldB f := by
  cases b with
  | nil => simp [rdF] at h
  | cons m u =>
    simp only [rdF] at h
    split at h
    · rename_i hm
      subst hm
      simp only [Option.some.injEq, Prod.mk.injEq] at h
      obtain ⟨rfl, rfl⟩ := h
      exact ⟨rfl, by unfold FldB nullF; simp⟩
    · split at h
      · rename_i hm
        subst hm
        split at h
        · cases h
        · rename_i hl
          simp only [Option.some.injEq, Prod.mk.injEq] at h
          obtain ⟨rfl, rfl⟩ := h
          obtain ⟨h1, h2⟩ := be_valN (n := 8) (l := u.take 8) (by simp; omega)
          have h3 : offN ((valN (u.take 8) : Int) - 9223372036854775808) = valN (u.take 8) := by unfold offN; omega
          refine ⟨?_, by unfold FldB; simp only; omega⟩
          simp only [enc1, if_true]
          rw [h3, h1]
          simp
      · split at h
        · rename_i hm
          subst hm
          simp only [Option.map_eq_some_iff, Prod.mk.injEq] at h
          obtain ⟨⟨t, r'⟩, h1, rfl, rfl⟩ := h
          have := esc_rdT h1
          refine ⟨?_, by unfold FldB; simp⟩
          simp [enc1, this]
        · cases h
theorem readF_enc {c : Col} {f : Fld} {r : List UInt8} (hc : kindOk c = true) (hf : fitsF c f = true) (hb : FldB f) : readF c (encF c f ++ r) = some (f, r) := by
  unfold readF encF
  rw [flip_app, flip_flip, rdF_enc hc hf hb]
  simp [flip_flip]
theorem enc_readF {c : Col} {f : Fld} {b r : List UInt8} (h : readF c b = some (f, r)) : b = encF c f ++ r ∧ FldB f := by
  unfold readF at h
  simp only [Option.map_eq_some_iff, Prod.mk.injEq] at h
  obtain ⟨⟨f', r'⟩, h1, rfl, rfl⟩ := h
  obtain ⟨h2, h3⟩ := enc_rdF h1
  refine ⟨?_, h3⟩
  have := congrArg (flipB c.2) h2
  rw [flip_flip, flip_app] at this
  exact this
theorem decS_enc : ∀ {s : List Col} {l : List Fld} {r : List UInt8}, s.all kindOk = true → fitAt s l = true → l.length = s.length → (∀ f ∈ l, FldB f) → decS s (encS s l ++ r) = some (l, r)
  | [], [], r, _, _, _, _ => by simp [decS, encS]
  | [], _ :: _, _, _, _, h, _ => by simp at h
  | _ :: _, [], _, _, _, h, _ => by simp at h
  | c :: s, f :: l, r, hk, hf, hl, hb => by
    simp only [List.all_cons, Bool.and_eq_true] at hk
    simp only [fitAt, Bool.and_eq_true] at hf
    simp only [decS, encS, List.append_assoc]
    rw [readF_enc hk.1 hf.1 (hb f (by simp))]
    simp only [hf.1, if_true]
    rw [decS_enc hk.2 hf.2 (by simpa using hl) (fun x hx => hb x (List.mem_cons_of_mem _ hx))]
    rfl
theorem enc_decS : ∀ {s : List Col} {b r : List UInt8} {l : List Fld}, decS s b = some (l, r) → b = encS s l ++ r ∧ fitAt s l = true ∧ l.length = s.length ∧ ∀ f ∈ l, FldB f
  | [], b, r, l, h => by
    simp only [decS, Option.some.injEq, Prod.mk.injEq] at h
    obtain ⟨rfl, rfl⟩ := h
    exact ⟨rfl, rfl, rfl, by simp⟩
  | c :: s, b, r, l, h => by
    simp only [decS] at h
    split at h
    · cases h
    · rename_i f u hr
      split at h
      · rename_i hf
        simp only [Option.map_eq_some_iff, Prod.mk.injEq] at h
        obtain ⟨⟨l', r'⟩, h1, rfl, rfl⟩ := h
        obtain ⟨h2, h3, h4, h5⟩ := enc_decS h1
        obtain ⟨h6, h7⟩ := enc_readF hr
        refine ⟨?_, by simp [fitAt, hf, h3], by simp [h4], ?_⟩
        · rw [h6, h2]; simp [encS]
        · intro x hx
          rcases List.mem_cons.1 hx with rfl | hx
          · exact h7
          · exact h5 x hx
      · cases h
theorem fitsL_inv {s : List Col} {l : List Fld} (h : fitsL s l = true) : s.all kindOk = true ∧ fitAt s l = true ∧ l.length ≤ s.length := by
  simp only [fitsL, validS, Bool.and_eq_true, decide_eq_true_eq] at h
  exact ⟨h.1.2.2, h.2.2, h.2.1⟩
/-- lists come back from their encodings -/
theorem round_trip {s : List Col} {l : List Fld} (h : fitsL s l = true) (hl : l.length = s.length) (hb : ∀ f ∈ l, FldB f) (he : (encS s l).length ≤ 64) : decodeS s (encS s l) = (l, 0) := by
  obtain ⟨h1, h2, h3⟩ := fitsL_inv h
  have hv : validS s = true := by simp only [fitsL, Bool.and_eq_true] at h; exact h.1
  have := decS_enc (r := []) h1 h2 hl hb
  rw [List.append_nil] at this
  simp only [decodeS, hv, Bool.not_true, Bool.false_eq_true, if_false, this]
  rw [if_neg (by simp; omega)]
/-- what is decoded is the encoding of what is returned -/
theorem decode_inv {s : List Col} {key : List UInt8} {l : List Fld} {e : Int} (h : decodeS s key = (l, e)) : (e = 0 ∧ encodeS s l = (key, 0) ∧ l.length = s.length) ∨ (l = [] ∧ (e = 1 ∨ e = 4) ∧ (validS s = true → e = 4)) := by
  unfold decodeS at h
  split at h
  · rename_i hv
    simp only [Prod.mk.injEq] at h
    obtain ⟨rfl, rfl⟩ := h
    exact .inr ⟨rfl, .inl rfl, fun h9 => by rw [h9] at hv; simp at hv⟩
  · rename_i hv
    split at h
    · rename_i l' r hd
      split at h
      · simp only [Prod.mk.injEq] at h
        obtain ⟨rfl, rfl⟩ := h
        exact .inr ⟨rfl, .inr rfl, fun _ => rfl⟩
      · rename_i hr
        simp only [Prod.mk.injEq] at h
        obtain ⟨rfl, rfl⟩ := h
        obtain ⟨h1, h2, h3, h4⟩ := enc_decS hd
        have hr0 : r = [] := List.length_eq_zero_iff.1 (by omega)
        subst hr0
        rw [List.append_nil] at h1
        refine .inl ⟨rfl, ?_, h3⟩
        have hf : fitsL s l' = true := by simp only [fitsL, Bool.and_eq_true, decide_eq_true_eq]; exact ⟨by simpa using hv, by omega, h2⟩
        simp only [encodeS, hf, Bool.not_true, Bool.false_eq_true, if_false]
        rw [← h1, if_neg (by omega)]
    · simp only [Prod.mk.injEq] at h
      obtain ⟨rfl, rfl⟩ := h
      exact .inr ⟨rfl, .inr rfl, fun _ => rfl⟩
/-! turned directions -/
def turnS (s : List Col) : List Col := s.map fun c => (c.1, !c.2)
theorem turn_valid {s : List Col} : validS (turnS s) = validS s := by
  simp only [validS, turnS, List.length_map, List.all_map]; rfl
theorem turn_fitAt : ∀ {s : List Col} {l : List Fld}, fitAt (turnS s) l = fitAt s l
  | _, [] => by simp [fitAt]
  | [], _ :: _ => rfl
  | c :: s, f :: l => by
    have ih := turn_fitAt (s := s) (l := l)
    simp only [turnS, List.map_cons, fitAt] at ih ⊢
    rw [ih]; rfl
theorem turn_fits {s : List Col} {l : List Fld} : fitsL (turnS s) l = fitsL s l := by
  simp only [fitsL, turn_valid, turn_fitAt]; simp [turnS]
theorem turn_cmpL : ∀ {s : List Col} {a b : List Fld}, a.length = b.length → cmpL (turnS s) a b = cmpL s b a
  | c :: s, x :: a, y :: b, h => by
    have ih := turn_cmpL (s := s) (a := a) (b := b) (by simpa using h)
    simp only [turnS, List.map_cons, cmpL] at ih ⊢
    have e : cmpC (c.1, !c.2) x y = cmpC c y x := by
      unfold cmpC
      rw [cmpF_neg (a := x)]
      cases c.2 <;> simp
    rw [e, ih]
  | [], a, b, h => by
    have e1 : cmpL [] a b = cmpI a.length b.length := by cases a <;> cases b <;> rfl
    have e2 : cmpL [] b a = cmpI b.length a.length := by cases a <;> cases b <;> rfl
    show cmpL [] a b = _
    rw [e1, e2, h]
  | _ :: _, [], [], _ => rfl
  | _ :: _, [], _ :: _, h => by simp at h
  | _ :: _, _ :: _, [], h => by simp at h
theorem turn_len : ∀ {s : List Col} {l : List Fld}, (encS (turnS s) l).length = (encS s l).length
  | [], _ => by simp [turnS, encS]
  | _ :: _, [] => by simp [turnS, encS]
  | c :: s, f :: l => by
    have ih := turn_len (s := s) (l := l)
    simp only [turnS, List.map_cons, encS, List.length_append, encF, flip_len] at ih ⊢
    omega
end Go.Sx

namespace Go.Sx
open Go
set_option linter.unusedVariables false
set_option linter.unusedSimpArgs false

/-! the keys that begin with a key -/
def bump : List UInt8 → Option (List UInt8)
  | [] => none
  | c :: t => match bump t with
    | some u => some (c :: u)
    | none => if c = 255 then none else some [c + 1]
theorem bump_255 : ∀ {l : List UInt8}, bump (l ++ [255]) = bump l
  | [] => rfl
  | c :: l => by
    have ih := bump_255 (l := l)
    simp only [List.cons_append, bump, ih]
theorem bump_last {c : UInt8} (hc : c ≠ 255) : ∀ {l : List UInt8}, bump (l ++ [c]) = some (l ++ [c + 1])
  | [] => by simp [bump, hc]
  | a :: l => by
    have ih := bump_last hc (l := l)
    simp only [List.cons_append, bump, ih]
theorem bump_none : ∀ {p x : List UInt8}, bump p = none → ((∃ r, x = p ++ r) ↔ Op.bytesLess x p = false)
  | [], x, _ => ⟨fun _ => bl_nil, fun _ => ⟨x, rfl⟩⟩
  | c :: t, x, h => by
    simp only [bump] at h
    split at h
    · cases h
    · rename_i ht
      split at h
      · rename_i hc
        subst hc
        cases x with
        | nil => simp [Op.bytesLess]
        | cons b w =>
          have ih := bump_none (x := w) ht
          have hb := b.toNat_lt
          have h255 : decide (b < 255) = !(b == 255) := by
            rw [Bool.eq_iff_iff]
            simp only [decide_eq_true_eq, Bool.not_eq_true', beq_eq_false_iff_ne, ne_eq, UInt8.lt_iff_toNat_lt]
            constructor
            · intro h e; subst e; exact absurd h (by decide)
            · intro h
              have : b.toNat ≠ 255 := fun e => h (UInt8.toNat_inj.1 e)
              show b.toNat < 255
              omega
          simp only [Op.bytesLess, h255, List.cons_append, List.cons.injEq]
          cases he : b == 255 with
          | false =>
            have : b ≠ 255 := by simpa using he
            simp [this]
          | true =>
            have : b = 255 := by simpa using he
            simp [this, ih]
      · cases h
theorem bump_some : ∀ {p q x : List UInt8}, bump p = some q → ((∃ r, x = p ++ r) ↔ (Op.bytesLess x p = false ∧ Op.bytesLess x q = true))
  | [], _, _, h => by simp [bump] at h
  | c :: t, q, x, h => by
    simp only [bump] at h
    split at h
    · rename_i u hu
      simp only [Option.some.injEq] at h
      subst h
      cases x with
      | nil => simp [Op.bytesLess]
      | cons b w =>
        have ih := bump_some (x := w) hu
        simp only [Op.bytesLess, List.cons_append, List.cons.injEq, Bool.or_eq_false_iff, Bool.and_eq_false_iff, decide_eq_false_iff_not, Bool.or_eq_true, Bool.and_eq_true, decide_eq_true_eq, beq_iff_eq, beq_eq_false_iff_ne, ne_eq]
        constructor
        · rintro ⟨r, rfl, rfl⟩
          have := ih.1 ⟨r, rfl⟩
          exact ⟨⟨by simp, .inr this.1⟩, .inr ⟨rfl, this.2⟩⟩
        · rintro ⟨⟨h1, h2⟩, h3⟩
          rcases h3 with h3 | ⟨rfl, h3⟩
          · exact absurd h3 h1
          · rcases h2 with h2 | h2
            · exact absurd rfl h2
            · obtain ⟨r, rfl⟩ := ih.2 ⟨h2, h3⟩
              exact ⟨r, rfl, rfl⟩
    · rename_i ht
      split at h
      · cases h
      · rename_i hc
        simp only [Option.some.injEq] at h
        subst h
        cases x with
        | nil => simp [Op.bytesLess]
        | cons b w =>
          have ih := bump_none (x := w) ht
          have hcn : c.toNat < 255 := by
            have := c.toNat_lt
            have : c.toNat ≠ 255 := fun e => hc (UInt8.toNat_inj.1 e)
            omega
          have hc1 : (c + 1).toNat = c.toNat + 1 := by
            rw [UInt8.toNat_add]
            show (c.toNat + 1) % 256 = _
            omega
          simp only [Op.bytesLess, bl_nil, List.cons_append, List.cons.injEq, Bool.or_eq_false_iff, Bool.and_eq_false_iff, decide_eq_false_iff_not, Bool.or_eq_true, Bool.and_eq_true, decide_eq_true_eq, beq_iff_eq, beq_eq_false_iff_ne, ne_eq, Bool.false_eq_true, and_false, or_false]
          constructor
          · rintro ⟨r, rfl, rfl⟩
            exact ⟨⟨by simp, .inr (ih.1 ⟨r, rfl⟩)⟩, by rw [UInt8.lt_iff_toNat_lt, hc1]; omega⟩
          · rintro ⟨⟨h1, h2⟩, h3⟩
            rw [UInt8.lt_iff_toNat_lt, hc1] at h3
            rw [UInt8.lt_iff_toNat_lt] at h1
            have hbc : b = c := UInt8.toNat_inj.1 (by omega)
            subst hbc
            rcases h2 with h2 | h2
            · exact absurd rfl h2
            · obtain ⟨r, rfl⟩ := ih.2 h2
              exact ⟨r, rfl, rfl⟩
theorem bump_len : ∀ {p q : List UInt8}, bump p = some q → q.length ≤ p.length
  | [], _, h => by simp [bump] at h
  | c :: t, q, h => by
    simp only [bump] at h
    split at h
    · rename_i u hu
      simp only [Option.some.injEq] at h
      subst h
      have := bump_len hu
      simp; omega
    · split at h
      · cases h
      · simp only [Option.some.injEq] at h
        subst h
        simp
/-- the range of the keys that begin with p -/
def prefR (p : List UInt8) : (List UInt8 × Bool) × (List UInt8 × Bool) :=
  if p.length > 64 then (([], false), ([], false)) else match bump p with
    | some q => ((p, false), (q, false))
    | none => ((p, false), ([], true))
theorem pref_has {p x : List UInt8} (hp : p.length ≤ 64) (hx : x.length ≤ 64) : containsR (prefR p).1.1 (prefR p).1.2 (prefR p).2.1 (prefR p).2.2 x = true ↔ ∃ r, x = p ++ r := by
  unfold prefR
  rw [if_neg (by omega)]
  cases hb : bump p with
  | some q =>
    have hq := bump_len hb
    have hlt : Op.bytesLess p q = true := ((bump_some (x := p) hb).1 ⟨[], by simp⟩).2
    have hql := bl_asymm hlt
    have h := bump_some (x := x) hb
    rw [h]
    simp only [containsR, emptyR, validR, validB, cmpB, Bool.and_eq_true, Bool.not_eq_true', Bool.or_eq_false_iff, decide_eq_true_eq, Bool.false_and, Bool.not_false, Bool.true_or, Bool.and_true, Bool.false_or]
    simp only [hlt, if_true, Bool.false_eq_true, if_false]
    have e1 : decide ((p.length : Int) ≤ 64) = true := decide_eq_true (by omega)
    have e2 : decide ((q.length : Int) ≤ 64) = true := decide_eq_true (by omega)
    simp only [e1, e2]
    cases h1 : Op.bytesLess x p with
    | true => simp [bl_asymm h1]
    | false =>
      cases h2 : Op.bytesLess x q with
      | false =>
        cases h3 : Op.bytesLess p x <;> cases h4 : Op.bytesLess q x <;> simp
      | true =>
        cases h3 : Op.bytesLess p x <;> simp <;> omega
  | none =>
    have h := bump_none (x := x) hb
    rw [h]
    have e1 : decide ((p.length : Int) ≤ 64) = true := decide_eq_true (by omega)
    simp only [containsR, emptyR, validR, validB, cmpB, e1]
    cases h1 : Op.bytesLess x p with
    | true => simp [bl_asymm h1]
    | false => cases h3 : Op.bytesLess p x <;> simp <;> omega
end Go.Sx

namespace Go.Sx
open Go
set_option linter.unusedVariables false
set_option linter.unusedSimpArgs false

/-! bytes as cells; bits -/
def encB (b : UInt8) : List D := [.int .u8 b.toNat]
theorem row_byte {l : List UInt8} {n : Nat} : RowLe n 1 (byteRow l) (cellOf encB l) := .of_eq fun i j _ hj => by
  have : j = 0 := by omega
  subst this
  rfl
theorem bytesR_eq {g : Nat → Nat → D} : ∀ {l : List UInt8} {k : Nat}, (∀ i, i < l.length → g (k + i) 0 = .int .u8 (l.getD i 0).toNat) → bytesR g k l.length = some l
  | [], _, _ => rfl
  | b :: l, k, h => by
    have h0 := h 0 (by simp)
    rw [Nat.add_zero] at h0
    have h0 : g k 0 = .int .u8 b.toNat := by simpa using h0
    have ih := bytesR_eq (g := g) (l := l) (k := k + 1) (fun i hi => by
      have := h (i + 1) (by simpa using hi)
      rw [show k + (i + 1) = k + 1 + i by omega] at this
      simpa using this)
    simp only [List.length_cons, bytesR, h0, byteD, ih]
    simp
theorem bytesR_enc {g : Nat → Nat → D} {l : List UInt8} {n : Nat} (hn : n = l.length) (h : ∀ i, i < l.length → g i 0 = cellOf encB l i 0) : bytesR g 0 n = some (bytesL g n) ∧ bytesL g n = l := by
  subst hn
  have := bytesR_eq (g := g) (l := l) (k := 0) (fun i hi => by rw [Nat.zero_add, h i hi]; rfl)
  refine ⟨?_, by rw [bytesL, this]; rfl⟩
  rw [bytesL, this]; rfl
theorem xor63 {N : Nat} (h : N < 18446744073709551616) : N ^^^ 9223372036854775808 = (N + 9223372036854775808) % 18446744073709551616 := by
  have key : ∀ a, a < 2 ^ 63 → a ^^^ 2 ^ 63 = 2 ^ 63 + a := by
    intro a ha
    refine Nat.eq_of_testBit_eq fun i => ?_
    rw [Nat.testBit_xor, Nat.testBit_two_pow]
    rcases Nat.lt_trichotomy i 63 with hi | rfl | hi
    · rw [Nat.testBit_two_pow_add_gt hi]
      simp [show ¬ 63 = i by omega]
    · rw [Nat.testBit_two_pow_add_eq]
      simp
    · have h1 : a.testBit i = false := Nat.testBit_lt_two_pow (Nat.lt_of_lt_of_le ha (Nat.pow_le_pow_right (by omega) (by omega)))
      have h2 : (2 ^ 63 + a).testBit i = false := Nat.testBit_lt_two_pow (by
        have : 2 ^ 64 ≤ 2 ^ i := Nat.pow_le_pow_right (by omega) (by omega)
        omega)
      rw [h1, h2]
      simp [show ¬ 63 = i by omega]
  rcases Nat.lt_or_ge N 9223372036854775808 with hN | hN
  · have := key N (by omega)
    have e : (2 : Nat) ^ 63 = 9223372036854775808 := by decide
    rw [e] at this
    rw [this]; omega
  · have := key (N - 9223372036854775808) (by omega)
    have e : (2 : Nat) ^ 63 = 9223372036854775808 := by decide
    rw [e] at this
    have h2 : 9223372036854775808 + (N - 9223372036854775808) = N := by omega
    rw [h2] at this
    rw [← this, Nat.xor_assoc, Nat.xor_self, Nat.xor_zero]
    omega
theorem u64_wrap (n : Int) : IntKind.u64.wrap n = n % 18446744073709551616 := by
  simp [IntKind.wrap, IntKind.bits, IntKind.signed]
theorem u8_wrap (n : Int) : IntKind.u8.wrap n = n % 256 := by
  simp [IntKind.wrap, IntKind.bits, IntKind.signed]
theorem ofInt_nat {w : Nat} {n : Int} (h : 0 ≤ n) (h2 : n < 2 ^ w) : (BitVec.ofInt w n).toNat = n.toNat := by
  rw [BitVec.toNat_ofInt]
  have e : ((2 ^ w : Nat) : Int) = (2 : Int) ^ w := by simp
  rw [e, Int.emod_eq_of_lt h h2]
theorem xor_off {n : Int} (h : -9223372036854775808 ≤ n ∧ n < 9223372036854775808) : IntKind.u64.wrap (((BitVec.ofInt 64 (IntKind.u64.wrap n) ^^^ BitVec.ofInt 64 9223372036854775808).toNat : Nat) : Int) = (offN n : Int) := by
  have h1 : IntKind.u64.wrap n = n % 18446744073709551616 := u64_wrap n
  have h2 : (BitVec.ofInt 64 (IntKind.u64.wrap n)).toNat = (n % 18446744073709551616).toNat := by
    rw [h1, ofInt_nat (by omega) (by omega)]
  have h3 : (BitVec.ofInt 64 9223372036854775808).toNat = 9223372036854775808 := by decide
  rw [BitVec.toNat_xor, h2, h3, xor63 (by omega), u64_wrap]
  unfold offN
  omega
theorem off_xor {N : Nat} (h : N < 18446744073709551616) : IntKind.i64.wrap (IntKind.u64.wrap (((BitVec.ofInt 64 (N : Int) ^^^ BitVec.ofInt 64 9223372036854775808).toNat : Nat) : Int)) = (N : Int) - 9223372036854775808 := by
  have h2 : (BitVec.ofInt 64 (N : Int)).toNat = N := by rw [ofInt_nat (by omega) (by omega)]; omega
  have h3 : (BitVec.ofInt 64 9223372036854775808).toNat = 9223372036854775808 := by decide
  rw [BitVec.toNat_xor, h2, h3, xor63 h, u64_wrap]
  obtain ⟨q, e, h4, h5⟩ := wrap_mod ((((N + 9223372036854775808) % 18446744073709551616 : Nat) : Int) % 18446744073709551616)
  omega
theorem shr_byte {u k : Nat} (hk : k ≤ 56) : IntKind.u8.wrap (Int.fdiv (u : Int) (2 ^ (min k 64))) = ((UInt8.ofNat (u / 2 ^ k % 256)).toNat : Int) := by
  have e : min k 64 = k := by omega
  rw [e, u8_wrap, UInt8.toNat_ofNat']
  have h : (2 : Int) ^ k = ((2 ^ k : Nat) : Int) := by simp
  rw [h, Int.fdiv_eq_ediv_of_nonneg _ (Int.natCast_nonneg _)]
  have : ((u : Int) / ((2 ^ k : Nat) : Int)) = ((u / 2 ^ k : Nat) : Int) := by simp
  rw [this]
  omega
theorem be8 (u : Nat) : beL 8 u = [UInt8.ofNat (u / 2 ^ 56 % 256), UInt8.ofNat (u / 2 ^ 48 % 256), UInt8.ofNat (u / 2 ^ 40 % 256), UInt8.ofNat (u / 2 ^ 32 % 256), UInt8.ofNat (u / 2 ^ 24 % 256), UInt8.ofNat (u / 2 ^ 16 % 256), UInt8.ofNat (u / 2 ^ 8 % 256), UInt8.ofNat (u / 2 ^ 0 % 256)] := by
  simp only [beL, List.nil_append, List.cons_append, Nat.div_div_eq_div_mul]
  simp
theorem be8_step {u i : Nat} (h : i < 8) : (beL 8 u).take (i + 1) = (beL 8 u).take i ++ [UInt8.ofNat (u / 2 ^ (56 - 8 * i) % 256)] := by
  rw [be8]
  match i, h with
  | 0, _ => rfl
  | 1, _ => rfl
  | 2, _ => rfl
  | 3, _ => rfl
  | 4, _ => rfl
  | 5, _ => rfl
  | 6, _ => rfl
  | 7, _ => rfl
theorem xor255 (b : UInt8) : IntKind.u8.wrap (((BitVec.ofInt 8 ((b.toNat : Nat) : Int) ^^^ BitVec.ofInt 8 255).toNat : Nat) : Int) = ((255 - b : UInt8).toNat : Int) := by
  have key : ∀ n : _root_.Fin 256, IntKind.u8.wrap (((BitVec.ofInt 8 ((n.val : Nat) : Int) ^^^ BitVec.ofInt 8 255).toNat : Nat) : Int) = ((255 - n.val : Nat) : Int) := by decide +kernel
  have := key ⟨b.toNat, b.toNat_lt⟩
  rw [this]
  have h := b.toNat_lt
  rw [UInt8.toNat_sub_of_le _ _ (by rw [UInt8.le_iff_toNat_le]; show b.toNat ≤ 255; omega)]
  rfl
theorem xor0 (b : UInt8) : IntKind.u8.wrap (((BitVec.ofInt 8 ((b.toNat : Nat) : Int) ^^^ BitVec.ofInt 8 0).toNat : Nat) : Int) = (b.toNat : Int) := by
  have key : ∀ n : _root_.Fin 256, IntKind.u8.wrap (((BitVec.ofInt 8 ((n.val : Nat) : Int) ^^^ BitVec.ofInt 8 0).toNat : Nat) : Int) = ((n.val : Nat) : Int) := by decide +kernel
  exact key ⟨b.toNat, b.toNat_lt⟩
theorem sub_byte (b : UInt8) : IntKind.u8.wrap (255 - ((b.toNat : Nat) : Int)) = ((255 - b : UInt8).toNat : Int) := by
  have h := b.toNat_lt
  rw [u8_wrap, UInt8.toNat_sub_of_le _ _ (by rw [UInt8.le_iff_toNat_le]; show b.toNat ≤ 255; omega)]
  show _ = ((255 - b.toNat : Nat) : Int)
  omega
theorem or_byte {n c : Nat} (hn : n < 72057594037927936) (hc : c < 256) : IntKind.u64.wrap (((BitVec.ofInt 64 (IntKind.u64.wrap ((n : Int) * 2 ^ 8)) ||| BitVec.ofInt 64 ((c : Nat) : Int)).toNat : Nat) : Int) = ((n * 256 + c : Nat) : Int) := by
  have h1 : (BitVec.ofInt 64 (IntKind.u64.wrap ((n : Int) * 2 ^ 8))).toNat = n * 256 := by
    rw [u64_wrap, ofInt_nat (by omega) (by omega)]; omega
  have h2 : (BitVec.ofInt 64 ((c : Nat) : Int)).toNat = c := by rw [ofInt_nat (by omega) (by omega)]; omega
  rw [BitVec.toNat_or, h1, h2]
  have h3 := Nat.shiftLeft_add_eq_or_of_lt (i := 8) (b := c) (by simpa using hc) n
  rw [Nat.shiftLeft_eq] at h3
  have e : (2 : Nat) ^ 8 = 256 := by decide
  rw [e] at h3
  rw [← h3, u64_wrap]
  omega
end Go.Sx

namespace Go.Sx
set_option linter.unusedVariables false
theorem all_getD {s : List Col} (h : ∀ j, j < s.length → kindOk (s.getD j default) = true) : s.all kindOk = true := by
  rw [List.all_eq_true]
  intro c hc
  obtain ⟨j, hj, rfl⟩ := List.mem_iff_getElem.1 hc
  have := h j hj
  simpa [List.getD, hj] using this
theorem kind_getD {s : List Col} {j : Nat} (h : s.all kindOk = true) (hj : j < s.length) : kindOk (s.getD j default) = true := by
  rw [List.all_eq_true] at h
  have := h s[j] (List.getElem_mem hj)
  simpa [List.getD, hj] using this
theorem fitAt_get : ∀ {s : List Col} {l : List Fld}, l.length ≤ s.length → (fitAt s l = true ↔ ∀ j, j < l.length → fitsF (s.getD j default) (l.getD j default) = true)
  | [], [], _ => by simp [fitAt]
  | _ :: _, [], _ => by simp [fitAt]
  | [], _ :: _, h => absurd h (by simp)
  | c :: s, f :: l, h => by
    have ih := fitAt_get (s := s) (l := l) (by simpa using h)
    simp only [fitAt, Bool.and_eq_true, ih]
    constructor
    · rintro ⟨h1, h2⟩ j hj
      cases j with
      | zero => simpa using h1
      | succ j => simpa using h2 j (by simpa using hj)
    · intro h1
      refine ⟨by simpa using h1 0 (by simp), fun j hj => ?_⟩
      simpa using h1 (j + 1) (by simpa using hj)
theorem cmpL_at : ∀ {i : Nat} {s : List Col} {a b : List Fld}, (∀ j, j < i → cmpC (s.getD j default) (a.getD j default) (b.getD j default) = 0) → i ≤ s.length → i ≤ a.length → i ≤ b.length → cmpL s a b = cmpL (s.drop i) (a.drop i) (b.drop i)
  | 0, _, _, _, _, _, _, _ => by simp
  | i + 1, [], _, _, _, h, _, _ => absurd h (by simp)
  | i + 1, _ :: _, [], _, _, _, h, _ => absurd h (by simp)
  | i + 1, _ :: _, _ :: _, [], _, _, _, h => absurd h (by simp)
  | i + 1, c :: s, x :: a, y :: b, h0, h1, h2, h3 => by
    have hz : cmpC c x y = 0 := by simpa using h0 0 (by omega)
    have ih := cmpL_at (i := i) (s := s) (a := a) (b := b) (fun j hj => by simpa using h0 (j + 1) (by omega)) (by simpa using h1) (by simpa using h2) (by simpa using h3)
    simp only [cmpL, hz, ne_eq, not_true_eq_false, if_false, List.drop_succ_cons]
    exact ih
theorem drop_getD {α : Type} [Inhabited α] {l : List α} {i : Nat} (h : i < l.length) : l.drop i = l.getD i default :: l.drop (i + 1) := by
  rw [List.drop_eq_getElem_cons h]
  simp [List.getD, h]
theorem cmpL_here {i : Nat} {s : List Col} {a b : List Fld} (h : ∀ j, j < i → cmpC (s.getD j default) (a.getD j default) (b.getD j default) = 0) (h1 : i < s.length) (h2 : i < a.length) (h3 : i < b.length)
    (hn : cmpC (s.getD i default) (a.getD i default) (b.getD i default) ≠ 0) : cmpL s a b = cmpC (s.getD i default) (a.getD i default) (b.getD i default) := by
  rw [cmpL_at h (by omega) (by omega) (by omega), drop_getD h1, drop_getD h2, drop_getD h3]
  simp only [cmpL, ne_eq, hn, not_false_eq_true, if_true]
theorem cmpL_end {i : Nat} {s : List Col} {a b : List Fld} (h : ∀ j, j < i → cmpC (s.getD j default) (a.getD j default) (b.getD j default) = 0) (h1 : i ≤ s.length) (h2 : i ≤ a.length) (h3 : i ≤ b.length)
    (hn : i = a.length ∨ i = b.length) : cmpL s a b = cmpI a.length b.length := by
  rw [cmpL_at h h1 h2 h3]
  have e : ∀ (s : List Col) (x y : List Fld), x = [] ∨ y = [] → cmpL s x y = cmpI x.length y.length := by
    rintro (_ | ⟨c, s⟩) (_ | ⟨x, xs⟩) (_ | ⟨y, ys⟩) h <;> simp [cmpL] at *
  rw [e _ _ _ (by
    rcases hn with rfl | rfl
    · exact .inl (by simp)
    · exact .inr (by simp))]
  simp only [List.length_drop, cmpI]
  split <;> split <;> (try split) <;> (try split) <;> omega
end Go.Sx
namespace Go.Sx
def lessF (a b : Fld) : Bool := if a.1 ≠ b.1 then a.1 == 0 else decide (a.2.1 < b.2.1) || Op.bytesLess a.2.2 b.2.2
theorem ref_cmp {c : Col} {f g : Fld} (hc : kindOk c = true) (hf : fitsF c f = true) (hg : fitsF c g = true) (hn : f ≠ g) : cmpC c f g = if lessF f g != c.2 then -1 else 1 := by
  have key : cmpF f g = if lessF f g then -1 else 1 := by
    rcases fit_cases hc hf with rfl | ⟨h1, n, rfl⟩ | ⟨h1, t, rfl, _⟩ <;> rcases fit_cases hc hg with rfl | ⟨h2, m, rfl⟩ | ⟨h2, u, rfl, _⟩
    · exact absurd rfl hn
    · simp [cmpF, lessF, cmpI, nullF, show min (0 : Int) 1 = 0 by omega]
    · simp [cmpF, lessF, cmpI, nullF, show min (0 : Int) 1 = 0 by omega, show min (2 : Int) 1 = 1 by omega]
    · simp [cmpF, lessF, cmpI, nullF, show min (0 : Int) 1 = 0 by omega]
    · have e : n ≠ m := fun e => hn (by rw [e])
      by_cases h : n < m
      · simp [cmpF, lessF, cmpI, h]
      · have h2 : m < n := by omega
        simp [cmpF, lessF, cmpI, h, h2, bl_irrefl]
    · omega
    · simp [cmpF, lessF, cmpI, nullF, show min (0 : Int) 1 = 0 by omega, show min (2 : Int) 1 = 1 by omega]
    · omega
    · have e : t ≠ u := fun e => hn (by rw [e])
      have hz : cmpT t u ≠ 0 := fun h => e (cmpT_zero h)
      rcases h : Op.bytesLess t u with _ | _
      · have h3 : Op.bytesLess u t = true := by
          rcases h4 : Op.bytesLess u t with _ | _
          · exact absurd (by simp [cmpT, h, h4]) hz
          · rfl
        simp [cmpF, lessF, cmpI, cmpT, h, h3]
      · simp [cmpF, lessF, cmpI, cmpT, h]
  unfold cmpC
  rw [key]
  cases lessF f g <;> cases c.2 <;> simp
end Go.Sx

namespace Go.Sx
open Go
set_option linter.unusedVariables false
set_option linter.unusedSimpArgs false
/-! what a list of bytes is made of, step by step -/
theorem esc_app : ∀ {a b : List UInt8}, esc (a ++ b) = esc a ++ esc b
  | [], b => rfl
  | c :: a, b => by
    have ih := esc_app (a := a) (b := b)
    simp only [List.cons_append, esc, ih]
    split <;> simp
theorem take_snoc {t : List UInt8} {i : Nat} (h : i < t.length) : t.take (i + 1) = t.take i ++ [t.getD i default] := take_succ' h
theorem esc_keep {t : List UInt8} {i : Nat} (h : i < t.length) (hc : t.getD i default ≠ 0) : esc (t.take (i + 1)) = esc (t.take i) ++ [t.getD i default] := by
  rw [take_snoc h, esc_app]
  simp only [esc, hc, if_false]
theorem esc_zero {t : List UInt8} {i : Nat} (h : i < t.length) (hc : t.getD i default = 0) : esc (t.take (i + 1)) = esc (t.take i) ++ [0] ++ [255] := by
  rw [take_snoc h, esc_app]
  simp only [esc, hc, if_true, List.append_assoc, List.cons_append, List.nil_append]
theorem esc_keep3 {t : List UInt8} {i : Nat} (h : i < t.length) (hc : t.getD i default ≠ 0) : (3 :: esc (t.take (i + 1)) : List UInt8) = 3 :: esc (t.take i) ++ [t.getD i default] := by rw [esc_keep h hc]; rfl
theorem esc_zero3 {t : List UInt8} {i : Nat} (h : i < t.length) (hc : t.getD i default = 0) : (3 :: esc (t.take (i + 1)) : List UInt8) = 3 :: esc (t.take i) ++ [t.getD i default] ++ [255] := by rw [esc_zero h hc, hc]; rfl
theorem esc_len : ∀ {t : List UInt8}, (esc t).length ≤ 2 * t.length
  | [] => by simp [esc]
  | c :: t => by
    have ih := esc_len (t := t)
    simp only [esc]
    split <;> simp <;> omega
/-! turned bytes -/
def flipTo (n : Nat) (l : List UInt8) : List UInt8 := (l.take n).map (fun b => 255 - b) ++ l.drop n
theorem flipTo_len {n : Nat} {l : List UInt8} : (flipTo n l).length = l.length := by
  simp only [flipTo, List.length_append, List.length_map, List.length_take, List.length_drop]; omega
theorem flipTo_all {l : List UInt8} : flipTo l.length l = flipB true l := by simp [flipTo, flipB]
theorem flipTo_zero {l : List UInt8} : flipTo 0 l = l := by simp [flipTo]
theorem flipTo_at {n : Nat} {l : List UInt8} (h : n < l.length) : (flipTo n l).getD n default = l.getD n default := by
  unfold flipTo
  rw [getD_append_right (by simp only [List.length_map, List.length_take]; omega)]
  simp only [List.getD, List.length_map, List.length_take, List.getElem?_drop]
  congr 2; omega
theorem flipTo_succ {n : Nat} {l : List UInt8} (h : n < l.length) : flipTo (n + 1) l = (flipTo n l).set n (255 - l.getD n default) := by
  unfold flipTo
  rw [take_snoc h, drop_getD h, List.set_append]
  simp only [List.length_map, List.length_take, List.map_append, List.map_cons, List.map_nil, List.append_assoc, List.cons_append, List.nil_append]
  rw [if_neg (by omega), show n - min n l.length = 0 by omega]
  rfl
theorem byte_of (l : List UInt8) (i : Nat) (j : Nat) (h : j < 1) : cellOf encB l i j = .int .u8 (l.getD i default).toNat := by
  have : j = 0 := by omega
  subst this
  rfl
theorem be8_next {u i : Nat} (h : i < 8) : (2 :: (beL 8 u).take (i + 1) : List UInt8) = 2 :: (beL 8 u).take i ++ [UInt8.ofNat (u / 2 ^ (56 - 8 * i) % 256)] := by
  rw [be8_step h]; rfl
theorem beL_take {u : Nat} : (beL 8 u).take 8 = beL 8 u := by
  rw [List.take_of_length_le]
  rw [beL_len]; omega
theorem row_snoc2 {l : List UInt8} {x y : UInt8} {n : Nat} {g : Nat → Nat → D} (hn : n = l.length) (h1 : RowLe n 1 g (cellOf encB l)) {g2 g3 : Nat → Nat → D} (h2 : DLe (g2 0 0) (.int .u8 x.toNat)) (h3 : DLe (g3 0 0) (.int .u8 y.toNat)) :
    RowLe (n + 1 + 1) 1 (fun i j => if i < n + 1 then (fun i j => if i < n then g i j else g2 (i - n) j) i j else g3 (i - (n + 1)) j) (cellOf encB (l ++ [x] ++ [y])) :=
  row_snoc (xs := l ++ [x]) (by simp [hn]) (row_snoc hn h1 (jlt1 h2)) (jlt1 h3)
theorem encF_len {c : Col} {f : Fld} : (encF c f).length = (enc1 f).length := flip_len
theorem fit_len {c : Col} {f : Fld} (hc : kindOk c = true) (h : fitsF c f = true) : f.2.2.length ≤ 16 := by
  rcases fit_cases hc h with rfl | ⟨_, n, rfl⟩ | ⟨_, t, rfl, ht⟩
  · simp [nullF]
  · simp
  · exact ht
theorem enc1_len {f : Fld} (h : f.2.2.length ≤ 1000) : (enc1 f).length ≤ 2010 := by
  unfold enc1
  split
  · simp [beL_len]
  · split
    · have := esc_len (t := f.2.2)
      simp; omega
    · simp
theorem enc1_len16 {f : Fld} (h : f.2.2.length ≤ 16) : (enc1 f).length ≤ 40 := by
  unfold enc1
  split
  · simp [beL_len]
  · split
    · have := esc_len (t := f.2.2)
      simp; omega
    · simp
theorem encS_len : ∀ {s : List Col} {l : List Fld}, s.all kindOk = true → fitAt s l = true → (encS s l).length ≤ 40 * l.length
  | [], _, _, _ => by simp [encS]
  | _ :: _, [], _, _ => by simp [encS]
  | c :: s, f :: l, hk, h => by
    simp only [List.all_cons, Bool.and_eq_true] at hk
    simp only [fitAt, Bool.and_eq_true] at h
    have ih := encS_len hk.2 h.2
    have := enc1_len16 (fit_len hk.1 h.1)
    simp only [encS, List.length_append, encF_len, List.length_cons]
    omega
theorem encS_snoc : ∀ {s : List Col} {l : List Fld} {i : Nat}, i < l.length → l.length ≤ s.length → encS s (l.take (i + 1)) = encS s (l.take i) ++ encF (s.getD i default) (l.getD i default)
  | _, [], _, h, _ => absurd h (by simp)
  | [], _ :: _, _, _, h => absurd h (by simp)
  | c :: s, f :: l, 0, _, _ => by
    cases s <;> simp [encS]
  | c :: s, f :: l, i + 1, h, h2 => by
    have ih := encS_snoc (s := s) (l := l) (i := i) (by simpa using h) (by simpa using h2)
    simp only [List.take_succ_cons, encS, ih, List.append_assoc]
    rfl
theorem validS_six {s : List Col} (h : validS s = true) : 1 ≤ s.length ∧ s.length ≤ 6 ∧ s.all kindOk = true := by
  simp only [validS, Bool.and_eq_true, decide_eq_true_eq] at h
  exact h
theorem fitsL_six {s : List Col} {l : List Fld} (h : fitsL s l = true) : validS s = true ∧ l.length ≤ s.length ∧ s.length ≤ 6 ∧ s.all kindOk = true ∧ fitAt s l = true := by
  simp only [fitsL, Bool.and_eq_true, decide_eq_true_eq] at h
  have := validS_six h.1
  exact ⟨h.1, h.2.1, this.2.1, this.2.2, h.2.2⟩
theorem fits_get {s : List Col} {l : List Fld} {i : Nat} (h : fitsL s l = true) (hi : i < l.length) : kindOk (s.getD i default) = true ∧ fitsF (s.getD i default) (l.getD i default) = true ∧ (l.getD i default).2.2.length ≤ 16 := by
  obtain ⟨_, h1, _, h2, h3⟩ := fitsL_six h
  have hk := kind_getD h2 (j := i) (by omega)
  have hf := (fitAt_get h1).1 h3 i hi
  exact ⟨hk, hf, fit_len hk hf⟩
theorem fits_len {s : List Col} {l : List Fld} {i : Nat} (h : fitsL s l = true) : (encS s (l.take i)).length ≤ 240 := by
  obtain ⟨_, h1, h4, h2, h3⟩ := fitsL_six h
  have := encS_len h2 (fitAt_take (m := i) h3)
  have h5 : (l.take i).length ≤ l.length := by rw [List.length_take]; exact Nat.min_le_right _ _
  omega
end Go.Sx

namespace Go.Sx
open Go
set_option linter.unusedVariables false
set_option linter.unusedSimpArgs false
set_option linter.unusedVariables false
/-! a text is read step by step -/
theorem rdT_cons {c : UInt8} (hc : c ≠ 0) (l : List UInt8) : rdT (c :: l) = (rdT l).map fun x => (c :: x.1, x.2) := by
  cases l with
  | nil => simp [rdT]
  | cons e r => simp only [rdT, hc, if_false]
theorem rdT_keep {l : List UInt8} {i : Nat} (h : i < l.length) (hc : l.getD i default ≠ 0) : rdT (l.drop i) = (rdT (l.drop (i + 1))).map fun x => (l.getD i default :: x.1, x.2) := by
  rw [drop_getD h]; exact rdT_cons hc _
theorem rdT_two {l : List UInt8} {i : Nat} (h : i + 1 < l.length) : l.drop i = l.getD i default :: l.getD (i + 1) default :: l.drop (i + 2) := by
  rw [drop_getD (by omega), drop_getD h]
theorem rdT_zero {l : List UInt8} {i : Nat} (h : i + 1 < l.length) (h0 : l.getD i default = 0) (h1 : l.getD (i + 1) default = 255) : rdT (l.drop i) = (rdT (l.drop (i + 2))).map fun x => (0 :: x.1, x.2) := by
  rw [rdT_two h, h0, h1]; simp only [rdT, if_true]
theorem rdT_fin {l : List UInt8} {i : Nat} (h : i + 1 < l.length) (h0 : l.getD i default = 0) (h1 : l.getD (i + 1) default = 1) : rdT (l.drop i) = some ([], l.drop (i + 2)) := by
  rw [rdT_two h, h0, h1]; simp only [rdT, if_true]; rw [if_neg (by decide)]
theorem rdT_bad {l : List UInt8} {i : Nat} (h0 : l.getD i default = 0) (h1 : l.getD (i + 1) default ≠ 255 ∨ l.length ≤ i + 1) (h2 : l.getD (i + 1) default ≠ 1 ∨ l.length ≤ i + 1) : rdT (l.drop i) = none := by
  rcases Nat.lt_or_ge (i + 1) l.length with h | h
  · rw [rdT_two h, h0]; simp only [rdT, if_true]
    rw [if_neg (fun e => h1.elim (fun h => h e) (fun h => by omega)), if_neg (fun e => h2.elim (fun h => h e) (fun h => by omega))]
  · rcases Nat.lt_or_ge i l.length with h3 | h3
    · rw [drop_getD h3, List.drop_of_length_le h]; simp [rdT]
    · rw [List.drop_of_length_le h3]; rfl
theorem rdT_end {l : List UInt8} {i : Nat} (h : l.length ≤ i + 1) : rdT (l.drop i) = none := by
  rcases Nat.lt_or_ge i l.length with h3 | h3
  · rw [drop_getD h3, List.drop_of_length_le h]; simp [rdT]
  · rw [List.drop_of_length_le h3]; rfl
/-- what is read of a text so far -/
def RdI (l : List UInt8) (i : Nat) (t : List UInt8) : Prop := rdT (l.drop 1) = (rdT (l.drop i)).map fun x => (t ++ x.1, x.2)
theorem RdI.zero {l : List UInt8} : RdI l 1 [] := by
  unfold RdI
  cases h : rdT (l.drop 1) <;> simp
theorem RdI.keep {l : List UInt8} {i : Nat} {t : List UInt8} (hi : RdI l i t) (h : i < l.length) (hc : l.getD i default ≠ 0) : RdI l (i + 1) (t ++ [l.getD i default]) := by
  unfold RdI at *
  rw [hi, rdT_keep h hc]
  cases h : rdT (l.drop (i + 1)) <;> simp
theorem RdI.esc {l : List UInt8} {i : Nat} {t : List UInt8} (hi : RdI l i t) (h : i + 1 < l.length) (h0 : l.getD i default = 0) (h1 : l.getD (i + 1) default = 255) : RdI l (i + 2) (t ++ [0]) := by
  unfold RdI at *
  rw [hi, rdT_zero h h0 h1]
  cases h : rdT (l.drop (i + 2)) <;> simp
theorem RdI.fin {l : List UInt8} {i : Nat} {t : List UInt8} (hi : RdI l i t) (h : i + 1 < l.length) (h0 : l.getD i default = 0) (h1 : l.getD (i + 1) default = 1) : rdT (l.drop 1) = some (t, l.drop (i + 2)) := by
  unfold RdI at *
  rw [hi, rdT_fin h h0 h1]; simp
theorem RdI.bad {l : List UInt8} {i : Nat} {t : List UInt8} (hi : RdI l i t) (h0 : l.getD i default = 0) (h1 : l.getD (i + 1) default ≠ 255 ∨ l.length ≤ i + 1) (h2 : l.getD (i + 1) default ≠ 1 ∨ l.length ≤ i + 1) : rdT (l.drop 1) = none := by
  unfold RdI at *
  rw [hi, rdT_bad h0 h1 h2]; rfl
theorem RdI.stop {l : List UInt8} {i : Nat} {t : List UInt8} (hi : RdI l i t) (h : l.length ≤ i + 1) : rdT (l.drop 1) = none := by
  unfold RdI at *
  rw [hi, rdT_end h]; rfl
/-! a field by its first byte -/
theorem rdF_nil : rdF [] = none := rfl
theorem rdF_at {l : List UInt8} (h : 0 < l.length) : rdF l = if l.getD 0 default = 1 then some (nullF, l.drop 1) else if l.getD 0 default = 2 then (if l.length < 9 then none else some ((1, (valN ((l.drop 1).take 8) : Int) - 9223372036854775808, []), l.drop 9)) else if l.getD 0 default = 3 then (rdT (l.drop 1)).map (fun x => ((2, 0, x.1), x.2)) else none := by
  cases l with
  | nil => simp at h
  | cons m r =>
    simp only [rdF, List.getD_cons_zero, List.drop_succ_cons, List.drop_zero, List.length_cons]
    by_cases h1 : r.length < 8
    · rw [if_pos h1, if_pos (show r.length + 1 < 9 by omega)]
    · rw [if_neg h1, if_neg (show ¬ r.length + 1 < 9 by omega)]
theorem valN_snoc {l : List UInt8} {i : Nat} (h : i < l.length) : valN (l.take (i + 1)) = valN (l.take i) * 256 + (l.getD i default).toNat := by
  rw [take_snoc h, valN_app]
theorem valN_lt {l : List UInt8} : valN l < 256 ^ l.length := (be_valN rfl).2
/-! the reading of a list -/
def DcI (s : List Col) (key : List UInt8) (i : Nat) (out : List Fld) (rest : List UInt8) : Prop := decS s key = (decS (s.drop i) rest).map fun x => (out ++ x.1, x.2)
theorem DcI.zero {s : List Col} {key : List UInt8} : DcI s key 0 [] key := by
  unfold DcI
  cases h : decS s key <;> simp [h]
theorem DcI.next {s : List Col} {key rest r : List UInt8} {i : Nat} {out : List Fld} {f : Fld} (h : DcI s key i out rest) (hi : i < s.length) (hr : readF (s.getD i default) rest = some (f, r)) (hf : fitsF (s.getD i default) f = true) : DcI s key (i + 1) (out ++ [f]) r := by
  unfold DcI at *
  rw [h, drop_getD hi]
  simp only [decS, hr, hf, if_true]
  cases decS (s.drop (i + 1)) r <;> simp
theorem DcI.bad {s : List Col} {key rest : List UInt8} {i : Nat} {out : List Fld} (h : DcI s key i out rest) (hi : i < s.length) (hr : readF (s.getD i default) rest = none) : decS s key = none := by
  unfold DcI at *
  rw [h, drop_getD hi]
  simp only [decS, hr]; rfl
theorem DcI.odd {s : List Col} {key rest r : List UInt8} {i : Nat} {out : List Fld} {f : Fld} (h : DcI s key i out rest) (hi : i < s.length) (hr : readF (s.getD i default) rest = some (f, r)) (hf : fitsF (s.getD i default) f = false) : decS s key = none := by
  unfold DcI at *
  rw [h, drop_getD hi]
  simp only [decS, hr, hf, Bool.false_eq_true, if_false]; rfl
theorem DcI.done {s : List Col} {key rest : List UInt8} {out : List Fld} (h : DcI s key s.length out rest) : decS s key = some (out, rest) := by
  unfold DcI at *
  rw [h, List.drop_length]
  simp [decS]
theorem decode_bad {s : List Col} {key : List UInt8} (h : validS s = false) : decodeS s key = ([], 1) := by simp [decodeS, h]
theorem decode_none {s : List Col} {key : List UInt8} (h : validS s = true) (h2 : decS s key = none) : decodeS s key = ([], 4) := by simp [decodeS, h, h2]
theorem decode_rest {s : List Col} {key rest : List UInt8} {out : List Fld} (h : validS s = true) (h2 : decS s key = some (out, rest)) (h3 : rest.length > 0 ∨ key.length > 64) : decodeS s key = ([], 4) := by simp only [decodeS, h, h2, Bool.not_true, Bool.false_eq_true, if_false]; rw [if_pos h3]
theorem decode_ok {s : List Col} {key rest : List UInt8} {out : List Fld} (h : validS s = true) (h2 : decS s key = some (out, rest)) (h3 : ¬ (rest.length > 0 ∨ key.length > 64)) : decodeS s key = (out, 0) := by simp only [decodeS, h, h2, Bool.not_true, Bool.false_eq_true, if_false]; rw [if_neg h3]
theorem decode_long {s : List Col} {key : List UInt8} (h : validS s = true) (h3 : key.length > 64) : decodeS s key = ([], 4) := by
  cases h2 : decS s key with
  | none => exact decode_none h h2
  | some x => exact decode_rest h h2 (.inr h3)
/-- what is left is a part of what was there -/
theorem readF_rest {c : Col} {b r : List UInt8} {f : Fld} (h : readF c b = some (f, r)) : r = b.drop (b.length - r.length) ∧ r.length < b.length := by
  obtain ⟨h1, _⟩ := enc_readF h
  have h2 : encF c f ≠ [] := encF_ne
  have h3 : 0 < (encF c f).length := List.length_pos_iff.2 h2
  rw [h1, List.length_append]
  refine ⟨?_, by omega⟩
  rw [show (encF c f).length + r.length - r.length = (encF c f).length by omega, List.drop_left]
theorem fits_iff {c : Col} {f : Fld} (hc : kindOk c = true) {b r : List UInt8} (h : readF c b = some (f, r)) : fitsF c f = ((f.1 == 0 || f.1 == c.1) && decide (f.2.2.length ≤ 16)) := by
  obtain ⟨ck, cd⟩ := c
  unfold readF at h
  simp only [Option.map_eq_some_iff, Prod.mk.injEq] at h
  obtain ⟨⟨f', r'⟩, h1, rfl, _⟩ := h
  generalize flipB cd b = B at h1
  have hl : 0 < B.length := by
    cases B with
    | nil => cases h1
    | cons _ _ => simp
  rw [rdF_at hl] at h1
  have hk : ck = 1 ∨ ck = 2 := by simpa [kindOk] using hc
  split at h1
  · simp only [Option.some.injEq, Prod.mk.injEq] at h1
    obtain ⟨rfl, _⟩ := h1
    simp [fitsF, nullF]
  · split at h1
    · split at h1
      · cases h1
      · simp only [Option.some.injEq, Prod.mk.injEq] at h1
        obtain ⟨rfl, _⟩ := h1
        rcases hk with rfl | rfl <;> simp [fitsF]
    · split at h1
      · simp only [Option.map_eq_some_iff, Prod.mk.injEq] at h1
        obtain ⟨⟨t, r⟩, _, rfl, _⟩ := h1
        rcases hk with rfl | rfl <;> simp [fitsF]
      · cases h1
/-- what the reference reads of turned bytes: a field and how long it is, 0 if there is none -/
def refF (k : Int) (B : List UInt8) : Fld × Nat := match rdF B with
  | some (f, r) => if f.1 = 0 ∨ f.1 = k then (f, B.length - r.length) else (nullF, 0)
  | none => (nullF, 0)
theorem refF_none {c : Col} {b : List UInt8} {f : Fld} (hc : kindOk c = true) (h : refF c.1 (flipB c.2 b) = (f, 0)) : readF c b = none ∨ ∃ f r, readF c b = some (f, r) ∧ fitsF c f = false := by
  cases h1 : readF c b with
  | none => exact .inl rfl
  | some x =>
    obtain ⟨g, r⟩ := x
    refine .inr ⟨g, r, rfl, ?_⟩
    have h2 := fits_iff hc h1
    have h5 := h1
    unfold readF at h1
    simp only [Option.map_eq_some_iff, Prod.mk.injEq] at h1
    obtain ⟨⟨g', r'⟩, h3, rfl, h4⟩ := h1
    have h6 := (readF_rest h5).2
    rw [← h4, flip_len] at h6
    unfold refF at h
    rw [h3] at h
    simp only at h
    split at h
    · simp only [Prod.mk.injEq, flip_len] at h
      simp only at h6
      omega
    · rename_i hn
      rw [h2]
      simp only [not_or] at hn
      simp [hn]
theorem refF_some {c : Col} {b : List UInt8} {f : Fld} {n : Nat} (hc : kindOk c = true) (h : refF c.1 (flipB c.2 b) = (f, n)) (hn : n ≠ 0) : readF c b = some (f, b.drop n) ∧ n ≤ b.length ∧ fitsF c f = decide (f.2.2.length ≤ 16) := by
  unfold refF at h
  cases h1 : rdF (flipB c.2 b) with
  | none => rw [h1] at h; simp only [Prod.mk.injEq] at h; omega
  | some x =>
    obtain ⟨g, r⟩ := x
    rw [h1] at h
    simp only at h
    split at h
    · rename_i hk
      simp only [Prod.mk.injEq, flip_len] at h
      obtain ⟨rfl, rfl⟩ := h
      have h2 : readF c b = some (g, flipB c.2 r) := by unfold readF; rw [h1]; rfl
      have h3 := readF_rest h2
      rw [flip_len] at h3
      refine ⟨by rw [← h3.1]; exact h2, by omega, ?_⟩
      rw [fits_iff hc h2]
      have : (g.1 == 0 || g.1 == c.1) = true := by simpa using hk
      rw [this, Bool.true_and]
    · simp only [Prod.mk.injEq] at h; omega
theorem same_iff : ∀ {a b : List Fld}, a.length = b.length → ((∀ j, j < a.length → a.getD j default = b.getD j default) ↔ a = b) := by
  intro a b h
  constructor
  · intro h2
    refine List.ext_getElem h fun j h3 h4 => ?_
    have := h2 j h3
    simpa [List.getD, h3, h4] using this
  · rintro rfl j _
    rfl
/-! rows of bytes that are changed in one place -/
theorem row_setB {l : List UInt8} {n k : Nat} {v : Int} {b : UInt8} (hk : k < l.length) (hv : v = b.toNat) : RowLe n 1 (fun i' j' => if i' = 0 + k then if j' < 0 then cellOf encB l i' j' else if j' < 0 + (0 + 1) then [D.int IntKind.u8 v].getD (j' - 0) default else cellOf encB l i' j' else cellOf encB l i' j') (cellOf encB (l.set k b)) := .of_eq fun i j hi hj => by
  have hj : j = 0 := by omega
  subst hj
  by_cases e : i = k
  · subst e
    simp [hv, cellOf, encB, List.getD, hk]
  · have e2 : ¬ k = i := fun h => e h.symm
    simp [e, e2, cellOf, List.getD, List.getElem?_set]
theorem row_flip {l : List UInt8} {n k : Nat} {v : Int} (hk : k < l.length) (hv : v = ((255 - (flipTo k l).getD (0 + k) default : UInt8).toNat : Int)) : RowLe n 1 (fun i' j' => if i' = 0 + k then if j' < 0 then cellOf encB (flipTo k l) i' j' else if j' < 0 + (0 + 1) then [D.int IntKind.u8 v].getD (j' - 0) default else cellOf encB (flipTo k l) i' j' else cellOf encB (flipTo k l) i' j') (cellOf encB (flipTo (k + 1) l)) := by
  rw [flipTo_succ hk]
  refine row_setB (by rw [flipTo_len]; exact hk) ?_
  rw [hv, Nat.zero_add, flipTo_at hk]
theorem int_byte {n : Int} {i : Nat} (h : -9223372036854775808 ≤ n ∧ n < 9223372036854775808) (hi : i < 8) : IntKind.u8.wrap ((IntKind.u64.wrap ((BitVec.ofInt IntKind.u64.bits (IntKind.u64.wrap n) ^^^ BitVec.ofInt IntKind.u64.bits 9223372036854775808).toNat : Nat)).fdiv (2 ^ min (56 - 8 * (i:Int)).toNat IntKind.u64.bits)) = ((UInt8.ofNat (offN n / 2 ^ (56 - 8 * i) % 256)).toNat : Int) := by
  have h1 := xor_off h
  show IntKind.u8.wrap ((IntKind.u64.wrap ((BitVec.ofInt 64 (IntKind.u64.wrap n) ^^^ BitVec.ofInt 64 9223372036854775808).toNat : Nat)).fdiv (2 ^ min (56 - 8 * (i:Int)).toNat 64)) = _
  rw [h1, show (56 - 8 * (i:Int)).toNat = 56 - 8 * i by omega]
  exact shr_byte (by omega)
theorem row_two {n : Nat} {l : List UInt8} {g2 : Nat → Nat → D} (hn : n = l.length) {x y : UInt8} (h2 : DLe (g2 0 0) (.int .u8 x.toNat)) (h3 : DLe (g2 1 0) (.int .u8 y.toNat)) : RowLe (n + 2) 1 (fun i j => if i < n then cellOf encB l i j else g2 (i - n) j) (cellOf encB (l ++ [x, y])) :=
  row_append (ys := [x, y]) hn (RowLe.refl _ _ _) ⟨fun i j hi hj => by
    have hj : j = 0 := by omega
    subst hj
    rcases (show i = 0 ∨ i = 1 by simp at hi; omega) with rfl | rfl
    · exact h2
    · exact h3⟩
theorem encF_true {f : Fld} {k : Int} {l : List UInt8} (h : enc1 f = l) : encF (k, true) f = flipTo l.length l := by rw [flipTo_all]; unfold encF; rw [h]
theorem encF_false {f : Fld} {k : Int} {l : List UInt8} (h : enc1 f = l) : encF (k, false) f = l := by unfold encF; rw [h]; rfl
theorem enc1_int {n : Int} {t : List UInt8} : enc1 (1, n, t) = 2 :: (beL 8 (offN n)).take 8 := by rw [beL_take]; rfl
theorem enc1_text {n : Int} {t : List UInt8} : enc1 (2, n, t) = 3 :: esc (t.take t.length) ++ [0, 1] := by rw [List.take_length]; rfl
theorem enc1_null {k n : Int} {t : List UInt8} (h1 : ¬ k = 1) (h2 : ¬ k = 2) : enc1 (k, n, t) = [1] := by unfold enc1; rw [if_neg h1, if_neg h2]
theorem byte_zero {b : UInt8} (h : (((b.toNat : Nat) : Int) == 0) = true) : b = 0 := by
  rw [beq_iff_eq] at h
  exact UInt8.toNat_inj.1 (by show b.toNat = 0; omega)
theorem byte_pos {b : UInt8} (h : (((b.toNat : Nat) : Int) == 0) = false) : b ≠ 0 := by
  rintro rfl
  exact absurd h (by decide)
theorem row_sh0 {n k : Nat} {F G : Nat → Nat → D} (h : RowLe n k F G) : RowLe n k (fun i j => F (0 + i) j) G := ⟨fun i j hi hj => by rw [Nat.zero_add]; exact h.le i j hi hj⟩
theorem les_rowK {α : Type} [Inhabited α] {enc : α → List D} {K k n : Nat} {g : Nat → Nat → D} {ys : List α} (hk : K = k) (hn : n = ys.length) (h : RowLe n k g (cellOf enc ys)) : LeS (.d (.list n K fun i j => g (0 + i) j)) (.d (encL enc k ys)) := by
  subst hk
  exact les_row hn h
/-! fits, from what the loops find -/
theorem fitsL_true {s : List Col} {l : List Fld} (h1 : validS s = true) (h2 : l.length ≤ s.length) (h3 : ∀ j, j < l.length → fitsF (s.getD j default) (l.getD j default) = true) : fitsL s l = true := by
  have := (fitAt_get h2).2 h3
  simp [fitsL, h1, h2, this]
theorem fitsL_v {s : List Col} {l : List Fld} (h : validS s = false) : fitsL s l = false := by simp [fitsL, h]
theorem fitsL_n {s : List Col} {l : List Fld} (h : s.length < l.length) : fitsL s l = false := by
  have : ¬ l.length ≤ s.length := by omega
  simp [fitsL, this]
theorem fitsL_j {s : List Col} {l : List Fld} {j : Nat} (hj : j < l.length) (h2 : l.length ≤ s.length) (hf : fitsF (s.getD j default) (l.getD j default) = false) : fitsL s l = false := by
  cases h : fitsL s l with
  | false => rfl
  | true =>
    have := (fits_get h hj).2.1
    rw [hf] at this; cases this
theorem compareL_no {s : List Col} {a b : List Fld} (h : fitsL s a = false ∨ fitsL s b = false) : compareL s a b = 0 := by
  unfold compareL; rcases h with h | h <;> simp [h]
theorem compareL_go {s : List Col} {a b : List Fld} (h1 : fitsL s a = true) (h2 : fitsL s b = true) : compareL s a b = cmpL s a b := by
  unfold compareL; simp [h1, h2]
theorem encodeS_no {s : List Col} {l : List Fld} (h : fitsL s l = false) : encodeS s l = ([], 1) := by simp [encodeS, h]
theorem encodeS_long {s : List Col} {l : List Fld} (h : fitsL s l = true) (h2 : (encS s l).length > 64) : encodeS s l = ([], 3) := by simp [encodeS, h, h2]
theorem encodeS_ok {s : List Col} {l : List Fld} (h : fitsL s l = true) (h2 : (encS s l).length ≤ 64) : encodeS s l = (encS s l, 0) := by
  simp only [encodeS, h, Bool.not_true, Bool.false_eq_true, if_false]; rw [if_neg (by omega)]
theorem kind3 {c : Col} {f : Fld} (hc : kindOk c = true) (h : fitsF c f = true) : f.1 = 0 ∨ f.1 = 1 ∨ f.1 = 2 := by
  rcases fit_cases hc h with rfl | ⟨_, n, rfl⟩ | ⟨_, t, rfl, _⟩
  · exact .inl rfl
  · exact .inr (.inl rfl)
  · exact .inr (.inr rfl)
theorem fld_b {f g : Fld} (h : f = g) : cmpF f g = 0 := by rw [h, cmpF_self]
theorem fld_eq {f g : Fld} (h : (f.1 == g.1 && (f.2.1 == g.2.1 && f.2.2 == g.2.2)) = true) : f = g := by
  simp only [Bool.and_eq_true, beq_iff_eq] at h
  exact Prod.ext h.1 (Prod.ext h.2.1 h.2.2)
theorem fld_ne {f g : Fld} (h : (f.1 == g.1 && (f.2.1 == g.2.1 && f.2.2 == g.2.2)) = false) : f ≠ g := by
  rintro rfl
  simp at h
theorem cmpC_eq {c : Col} {f g : Fld} (h : (f.1 == g.1 && (f.2.1 == g.2.1 && f.2.2 == g.2.2)) = true) : cmpC c f g = 0 := by rw [fld_eq h, cmpC_self]
theorem ref_here {s : List Col} {a b : List Fld} {i : Nat} (ha : fitsL s a = true) (hb : fitsL s b = true) (hz : ∀ j, j < i → cmpC (s.getD j default) (a.getD j default) (b.getD j default) = 0) (h2 : i < a.length) (h3 : i < b.length)
    (h : ((a.getD i default).1 == (b.getD i default).1 && ((a.getD i default).2.1 == (b.getD i default).2.1 && (a.getD i default).2.2 == (b.getD i default).2.2)) = false) : cmpL s a b = if lessF (a.getD i default) (b.getD i default) != (s.getD i default).2 then -1 else 1 := by
  have hl := (fitsL_six ha).2.1
  obtain ⟨k1, k2, _⟩ := fits_get ha h2
  have k3 := (fits_get hb h3).2.1
  have e := ref_cmp k1 k2 k3 (fld_ne h)
  rw [cmpL_here hz (by omega) h2 h3 (by rw [e]; split <;> decide), e]
theorem ref_lt {s : List Col} {a b : List Fld} {i : Nat} (ha : fitsL s a = true) (hb : fitsL s b = true) (hz : ∀ j, j < i → cmpC (s.getD j default) (a.getD j default) (b.getD j default) = 0) (h2 : i < a.length) (h3 : i < b.length)
    (h : ((a.getD i default).1 == (b.getD i default).1 && ((a.getD i default).2.1 == (b.getD i default).2.1 && (a.getD i default).2.2 == (b.getD i default).2.2)) = false) (h4 : ¬ lessF (a.getD i default) (b.getD i default) = (s.getD i default).2) : cmpL s a b = -1 := by
  rw [ref_here ha hb hz h2 h3 h, if_pos (by simpa using h4)]
theorem ref_gt {s : List Col} {a b : List Fld} {i : Nat} (ha : fitsL s a = true) (hb : fitsL s b = true) (hz : ∀ j, j < i → cmpC (s.getD j default) (a.getD j default) (b.getD j default) = 0) (h2 : i < a.length) (h3 : i < b.length)
    (h : ((a.getD i default).1 == (b.getD i default).1 && ((a.getD i default).2.1 == (b.getD i default).2.1 && (a.getD i default).2.2 == (b.getD i default).2.2)) = false) (h4 : lessF (a.getD i default) (b.getD i default) = (s.getD i default).2) : cmpL s a b = 1 := by
  rw [ref_here ha hb hz h2 h3 h, if_neg (by simpa using h4)]
theorem cmpI_lt {a b : Int} (h : a < b) : cmpI a b = -1 := by unfold cmpI; rw [if_pos h]
theorem cmpI_gt {a b : Int} (h : b < a) : cmpI a b = 1 := by unfold cmpI; rw [if_neg (by omega), if_pos h]
theorem cmpI_same {a b : Int} (h : a = b) : cmpI a b = 0 := cmpI_zero.2 h
def flipK (d : Bool) (k : Nat) (l : List UInt8) : List UInt8 := if d then flipTo k l else l
theorem flipK_zero {d : Bool} {l : List UInt8} : flipK d 0 l = l := by by_cases h : d = true <;> simp [flipK, h, flipTo_zero]
theorem flipK_len {d : Bool} {k : Nat} {l : List UInt8} : (flipK d k l).length = l.length := by by_cases h : d = true <;> simp [flipK, h, flipTo_len]
theorem flipK_all {d : Bool} {l : List UInt8} : flipK d l.length l = flipB d l := by
  cases d
  · rfl
  · exact flipTo_all
theorem row_flipK {l : List UInt8} {n k : Nat} {v : Int} {d : Bool} (hd : d = true) (hk : k < l.length) (hv : v = ((255 - (flipK d k l).getD (0 + k) default : UInt8).toNat : Int)) : RowLe n 1 (fun i' j' => if i' = 0 + k then if j' < 0 then cellOf encB (flipK d k l) i' j' else if j' < 0 + (0 + 1) then [D.int IntKind.u8 v].getD (j' - 0) default else cellOf encB (flipK d k l) i' j' else cellOf encB (flipK d k l) i' j') (cellOf encB (flipK d (k + 1) l)) := by
  subst hd
  exact row_flip hk hv
theorem row_keepK {l : List UInt8} {n k : Nat} {d : Bool} (hd : d = false) : RowLe n 1 (cellOf encB (flipK d k l)) (cellOf encB (flipK d (k + 1) l)) := by
  subst hd
  exact RowLe.refl _ _ _
theorem flipK_true {k : Nat} {l : List UInt8} : flipK true k l = flipTo k l := rfl
theorem flipK_false {k : Nat} {l : List UInt8} : flipK false k l = l := rfl
/-! the range of the keys that begin with a key, from what the loops find -/
theorem prefR_long {p : List UInt8} (h : 64 < p.length) : prefR p = (([], false), ([], false)) := by unfold prefR; rw [if_pos h]
theorem bump_step {p : List UInt8} {n : Nat} (h : n < p.length) (hz : bump p = bump (p.take (n + 1))) (hc : p.getD n default = 255) : bump p = bump (p.take n) := by
  rw [hz, take_snoc h, hc, bump_255]
theorem prefR_none {p : List UInt8} (h : p.length ≤ 64) (hz : bump p = bump (p.take 0)) : prefR p = ((p, false), ([], true)) := by
  have : bump p = none := by rw [hz]; rfl
  unfold prefR; rw [if_neg (by omega), this]
theorem prefR_some {p : List UInt8} {n : Nat} (h : p.length ≤ 64) (hn : n < p.length) (hz : bump p = bump (p.take (n + 1))) (hc : p.getD n default ≠ 255) : prefR p = ((p, false), (p.take n ++ [p.getD n default + 1], false)) := by
  have : bump p = some (p.take n ++ [p.getD n default + 1]) := by rw [hz, take_snoc hn, bump_last hc]
  unfold prefR; rw [if_neg (by omega), this]
theorem byte_255 {b : UInt8} (h : (((b.toNat : Nat) : Int) == 255) = true) : b = 255 := by
  rw [beq_iff_eq] at h
  exact UInt8.toNat_inj.1 (by show b.toNat = 255; omega)
theorem byte_n255 {b : UInt8} (h : (((b.toNat : Nat) : Int) == 255) = false) : b ≠ 255 := by
  rintro rfl
  exact absurd h (by decide)
theorem add_byte (b : UInt8) : IntKind.u8.wrap (((b.toNat : Nat) : Int) + 1) = ((b + 1 : UInt8).toNat : Int) := by
  rw [u8_wrap, UInt8.toNat_add]
  show _ = (((b.toNat + 1) % 256 : Nat) : Int)
  omega
theorem take_set {p : List UInt8} {n : Nat} {c : UInt8} (h : n < p.length) : (p.set n c).take (n + 1) = p.take n ++ [c] := by
  rw [take_snoc (by simpa using h), List.take_set_of_le (Nat.le_refl _)]
  simp [List.getD, h]
theorem bump_row {p : List UInt8} {m : Nat} {v : Int} {c : UInt8} (hm : m < p.length) (hv : v = c.toNat) {g : Nat → Nat → D}
    (hg : g = fun i j => if 0 + i = 0 + m then if j < 0 then cellOf encB p (0 + i) j else if j < 0 + [D.int IntKind.u8 v].length then [D.int IntKind.u8 v].getD (j - 0) default else cellOf encB p (0 + i) j else cellOf encB p (0 + i) j) :
    bytesR g 0 (m + 1) = some (bytesL g (m + 1)) ∧ bytesL g (m + 1) = p.take m ++ [c] := by
  subst hg
  refine bytesR_enc (by simp; omega) fun i hi => ?_
  have hl : (p.take m).length = m := by simp; omega
  by_cases e : i = m
  · subst e
    simp only [if_true, hv]
    rw [if_neg (by omega), if_pos (by simp)]
    simp only [cellOf]
    rw [getD_append_right (by omega), hl]
    simp [encB]
  · have hi2 : i < m := by simp at hi; omega
    rw [if_neg (by omega), Nat.zero_add]
    simp only [cellOf]
    rw [getD_append_left (by omega)]
    simp [List.getD, List.getElem?_take, hi2]
theorem lit_byte {v : Int} {c : UInt8} (hv : v = c.toNat) {base : Nat → Nat → D} : bytesR (tabF base [(0, [D.int IntKind.u8 v])]) 0 1 = some (bytesL (tabF base [(0, [D.int IntKind.u8 v])]) 1) ∧ bytesL (tabF base [(0, [D.int IntKind.u8 v])]) 1 = [c] :=
  bytesR_enc rfl fun i hi => by
    have : i = 0 := by simp at hi; omega
    subst this
    rw [hv]; rfl
end Go.Sx

namespace Go.Sx
open Go
set_option linter.unusedVariables false
set_option linter.unusedSimpArgs false
set_option linter.unusedVariables false
/-! what the function that reads a field finds -/
def flN : Bool → Int
  | true => 255
  | false => 0
def atI (B : List UInt8) (n : Int) : Int := if n < B.length then ((B.getD n.toNat default).toNat : Int) else -1
theorem atI_lt {B : List UInt8} {i : Nat} (h : i < B.length) : atI B i = ((B.getD i default).toNat : Int) := by
  unfold atI; rw [if_pos (by omega), Int.toNat_natCast]
theorem atI_ge {B : List UInt8} {i : Nat} (h : B.length ≤ i) : atI B i = -1 := by
  unfold atI; rw [if_neg (by omega)]
theorem atI_pos {B : List UInt8} {i : Nat} (h : 0 ≤ atI B i) : i < B.length := by
  rcases Nat.lt_or_ge i B.length with h1 | h1
  · exact h1
  · rw [atI_ge h1] at h; omega
theorem atI_neg {B : List UInt8} {i : Nat} (h : ¬ 0 ≤ atI B i) : B.length ≤ i := by
  rcases Nat.lt_or_ge i B.length with h1 | h1
  · rw [atI_lt h1] at h; omega
  · exact h1
theorem atI_is {B : List UInt8} {i : Nat} {c : UInt8} (h : atI B i = (c.toNat : Int)) : i < B.length ∧ B.getD i default = c := by
  have h1 := atI_pos (B := B) (i := i) (by omega)
  rw [atI_lt h1] at h
  exact ⟨h1, UInt8.toNat_inj.1 (by omega)⟩
theorem atI_isnt {B : List UInt8} {i : Nat} {c : UInt8} (h : ¬ atI B i = (c.toNat : Int)) : B.getD i default ≠ c ∨ B.length ≤ i := by
  rcases Nat.lt_or_ge i B.length with h1 | h1
  · left; rintro rfl; exact h (atI_lt h1)
  · exact .inr h1
theorem flN_xor {b : UInt8} {d : Bool} : IntKind.u8.wrap (((BitVec.ofInt IntKind.u8.bits ((b.toNat : Nat) : Int) ^^^ BitVec.ofInt IntKind.u8.bits (flN d)).toNat : Nat) : Int) = (((if d then 255 - b else b) : UInt8).toNat : Int) := by
  cases d with
  | true => exact xor255 b
  | false => exact xor0 b
theorem flip_getD {d : Bool} {b : List UInt8} {i : Nat} (h : i < b.length) : (flipB d b).getD i default = (if d then 255 - b.getD i default else b.getD i default) := by
  cases d with
  | true => simp [flipB, List.getD, h]
  | false => rfl
theorem flip_drop {d : Bool} {b : List UInt8} {n : Nat} : flipB d ((flipB d b).drop n) = b.drop n := by
  cases d with
  | false => rfl
  | true =>
    have : (flipB true b).drop n = flipB true (b.drop n) := by simp [flipB, List.map_drop]
    rw [this, flip_flip]
theorem i64_byte (b : UInt8) : IntKind.i64.wrap ((b.toNat : Nat) : Int) = ((b.toNat : Nat) : Int) := by
  have := b.toNat_lt
  exact wrap_of (by omega) (by omega)
theorem u8_byte (b : UInt8) : IntKind.u8.wrap ((b.toNat : Nat) : Int) = ((b.toNat : Nat) : Int) := by
  have := b.toNat_lt
  rw [u8_wrap]; omega
theorem u64_byte (b : UInt8) : IntKind.u64.wrap ((b.toNat : Nat) : Int) = ((b.toNat : Nat) : Int) := by
  have := b.toNat_lt
  rw [u64_wrap]; omega
def rdP (c : Col) (b : List UInt8) : Fld × List UInt8 × Bool := match readF c b with
  | some (f, r) => (f, r, true)
  | none => (nullF, [], false)
theorem rdP_none {c : Col} {b : List UInt8} (h : rdF (flipB c.2 b) = none) : rdP c b = ((0, 0, []), [], false) := by unfold rdP readF; rw [h]; rfl
theorem rdP_some {c : Col} {b r : List UInt8} {f : Fld} (h : rdF (flipB c.2 b) = some (f, r)) : rdP c b = (f, flipB c.2 r, true) := by unfold rdP readF; rw [h]; rfl
theorem rdP_null {c : Col} {b : List UInt8} (h : atI (flipB c.2 b) (0 : Nat) = ((1 : UInt8).toNat : Int)) : rdP c b = ((0, 0, []), b.drop 1, true) := by
  obtain ⟨h1, h2⟩ := atI_is h
  rw [rdP_some (r := (flipB c.2 b).drop 1) (f := nullF) (by rw [rdF_at h1, if_pos h2]), flip_drop]; rfl
theorem rdP_short {c : Col} {b : List UInt8} (h : atI (flipB c.2 b) (0 : Nat) = ((2 : UInt8).toNat : Int)) (h9 : b.length < 9) : rdP c b = ((0, 0, []), [], false) := by
  obtain ⟨h1, h2⟩ := atI_is h
  exact rdP_none (by rw [rdF_at h1, if_neg (by rw [h2]; decide), if_pos h2, if_pos (by rw [flip_len]; exact h9)])
theorem rdP_int {c : Col} {b : List UInt8} (h : atI (flipB c.2 b) (0 : Nat) = ((2 : UInt8).toNat : Int)) (h9 : 9 ≤ b.length) : rdP c b = ((1, (valN (((flipB c.2 b).drop 1).take 8) : Int) - 9223372036854775808, []), b.drop 9, true) := by
  obtain ⟨h1, h2⟩ := atI_is h
  rw [rdP_some (r := (flipB c.2 b).drop 9) (f := (1, (valN (((flipB c.2 b).drop 1).take 8) : Int) - 9223372036854775808, [])) (by rw [rdF_at h1, if_neg (by rw [h2]; decide), if_pos h2, if_neg (by rw [flip_len]; omega)]), flip_drop]
theorem rdP_text {c : Col} {b t : List UInt8} {k : Nat} (h : atI (flipB c.2 b) (0 : Nat) = ((3 : UInt8).toNat : Int)) (ht : rdT ((flipB c.2 b).drop 1) = some (t, (flipB c.2 b).drop k)) : rdP c b = ((2, 0, t), b.drop k, true) := by
  obtain ⟨h1, h2⟩ := atI_is h
  rw [rdP_some (r := (flipB c.2 b).drop k) (f := (2, 0, t)) (by rw [rdF_at h1, if_neg (by rw [h2]; decide), if_neg (by rw [h2]; decide), if_pos h2, ht]; rfl), flip_drop]
theorem rdP_bad {c : Col} {b : List UInt8} (h : atI (flipB c.2 b) (0 : Nat) = ((3 : UInt8).toNat : Int)) (ht : rdT ((flipB c.2 b).drop 1) = none) : rdP c b = ((0, 0, []), [], false) := by
  obtain ⟨h1, h2⟩ := atI_is h
  exact rdP_none (by rw [rdF_at h1, if_neg (by rw [h2]; decide), if_neg (by rw [h2]; decide), if_pos h2, ht]; rfl)
theorem rdP_odd {c : Col} {b : List UInt8} (h1 : ¬ atI (flipB c.2 b) (0 : Nat) = ((1 : UInt8).toNat : Int)) (h2 : ¬ atI (flipB c.2 b) (0 : Nat) = ((2 : UInt8).toNat : Int)) (h3 : ¬ atI (flipB c.2 b) (0 : Nat) = ((3 : UInt8).toNat : Int)) : rdP c b = ((0, 0, []), [], false) := by
  refine rdP_none ?_
  rcases Nat.eq_zero_or_pos (flipB c.2 b).length with h | h
  · rw [List.length_eq_zero_iff.1 h]; rfl
  · have k1 := (atI_isnt h1).resolve_right (by omega)
    have k2 := (atI_isnt h2).resolve_right (by omega)
    have k3 := (atI_isnt h3).resolve_right (by omega)
    rw [rdF_at h, if_neg k1, if_neg k2, if_neg k3]
theorem rdP_true {c : Col} {b r : List UInt8} {f : Fld} (h : rdP c b = (f, r, true)) : readF c b = some (f, r) := by
  unfold rdP at h
  split at h
  · rename_i h1; simp only [Prod.mk.injEq, and_true] at h; obtain ⟨rfl, rfl⟩ := h; exact h1
  · simp at h
theorem rdP_false {c : Col} {b r : List UInt8} {f : Fld} (h : rdP c b = (f, r, false)) : readF c b = none := by
  unfold rdP at h
  split at h
  · simp at h
  · assumption
theorem valN_take {B : List UInt8} {k : Nat} (h : 9 ≤ B.length) (hk : k ≤ 8) : valN ((B.drop 1).take k) < 256 ^ k := by
  have := valN_lt (l := (B.drop 1).take k)
  rwa [show ((B.drop 1).take k).length = k by simp; omega] at this
theorem int_step {B : List UInt8} {k : Nat} (h : 9 ≤ B.length) (hk : k < 8) : IntKind.u64.wrap (((BitVec.ofInt IntKind.u64.bits (IntKind.u64.wrap (((valN ((B.drop 1).take k) : Nat) : Int) * 2 ^ min (Int.toNat 8) IntKind.u64.bits)) ||| BitVec.ofInt IntKind.u64.bits (IntKind.u64.wrap (atI B ((k + 1 : Nat) : Int)))).toNat : Nat) : Int) = ((valN ((B.drop 1).take (k + 1)) : Nat) : Int) := by
  have h1 := valN_take (k := k) h (by omega)
  have h2 : 256 ^ k ≤ 256 ^ 7 := Nat.pow_le_pow_right (by omega) (by omega)
  have h3 : (256 : Nat) ^ 7 = 72057594037927936 := by decide
  have hb := (B.getD (k + 1) default).toNat_lt
  rw [atI_lt (by omega), u64_byte, valN_snoc (by simp; omega)]
  have e : (B.drop 1).getD k default = B.getD (k + 1) default := by simp [List.getD, Nat.add_comm]
  rw [e]
  exact or_byte (by omega) (by omega)
theorem int_fin {B : List UInt8} (h : 9 ≤ B.length) : IntKind.i64.wrap (IntKind.u64.wrap (((BitVec.ofInt IntKind.u64.bits ((valN ((B.drop 1).take 8) : Nat) : Int) ^^^ BitVec.ofInt IntKind.u64.bits 9223372036854775808).toNat : Nat) : Int)) = ((valN ((B.drop 1).take 8) : Nat) : Int) - 9223372036854775808 := by
  have h1 := valN_take (k := 8) h (by omega)
  have h3 : (256 : Nat) ^ 8 = 18446744073709551616 := by decide
  exact off_xor (by omega)
/-! the loop over a text -/
theorem rd_stop {c : Col} {b t : List UInt8} {i : Nat} (h : atI (flipB c.2 b) (0 : Nat) = ((3 : UInt8).toNat : Int)) (hi : RdI (flipB c.2 b) i t) (h1 : ¬ atI (flipB c.2 b) i ≥ 0) : rdP c b = ((0, 0, []), [], false) :=
  rdP_bad h (hi.stop (by have := atI_neg h1; omega))
theorem rd_fin {c : Col} {b t : List UInt8} {i : Nat} (h : atI (flipB c.2 b) (0 : Nat) = ((3 : UInt8).toNat : Int)) (hi : RdI (flipB c.2 b) i t) (h1 : atI (flipB c.2 b) i = ((0 : UInt8).toNat : Int)) (h2 : atI (flipB c.2 b) ((i + 1 : Nat) : Int) = ((1 : UInt8).toNat : Int)) : rdP c b = ((2, 0, t), b.drop (i + 2), true) := by
  obtain ⟨k1, k2⟩ := atI_is h1
  obtain ⟨k3, k4⟩ := atI_is h2
  exact rdP_text h (hi.fin k3 k2 k4)
theorem rd_odd {c : Col} {b t : List UInt8} {i : Nat} (h : atI (flipB c.2 b) (0 : Nat) = ((3 : UInt8).toNat : Int)) (hi : RdI (flipB c.2 b) i t) (h1 : atI (flipB c.2 b) i = ((0 : UInt8).toNat : Int)) (h2 : ¬ atI (flipB c.2 b) ((i + 1 : Nat) : Int) = ((255 : UInt8).toNat : Int)) (h3 : ¬ atI (flipB c.2 b) ((i + 1 : Nat) : Int) = ((1 : UInt8).toNat : Int)) : rdP c b = ((0, 0, []), [], false) := by
  obtain ⟨k1, k2⟩ := atI_is h1
  exact rdP_bad h (hi.bad k2 (atI_isnt h2) (atI_isnt h3))
theorem rd_keep {B t : List UInt8} {i : Nat} (hi : RdI B i t) (h0 : atI B i ≥ 0) (h1 : ¬ atI B i = ((0 : UInt8).toNat : Int)) : RdI B (i + 1) (t ++ [B.getD i default]) := by
  have k1 := atI_pos h0
  exact hi.keep k1 ((atI_isnt h1).resolve_right (by omega))
theorem rd_esc {B t : List UInt8} {i : Nat} (hi : RdI B i t) (h1 : atI B i = ((0 : UInt8).toNat : Int)) (h2 : atI B ((i + 1 : Nat) : Int) = ((255 : UInt8).toNat : Int)) : RdI B (i + 1 + 1) (t ++ [0]) := by
  obtain ⟨k1, k2⟩ := atI_is h1
  obtain ⟨k3, k4⟩ := atI_is h2
  exact hi.esc k3 k2 k4
theorem u8_at {B : List UInt8} {i : Nat} (h0 : atI B i ≥ 0) : IntKind.u8.wrap (atI B i) = ((B.getD i default).toNat : Int) := by
  rw [atI_lt (atI_pos h0), u8_byte]
/-! the loop over the columns -/
theorem rdP_rest {c : Col} {b : List UInt8} : (rdP c b).2.1.length ≤ b.length := by
  unfold rdP
  split
  · rename_i h; exact Nat.le_of_lt (readF_rest h).2
  · simp
theorem rdP_ok {c : Col} {b : List UInt8} (h : (rdP c b).2.2 = true) : readF c b = some ((rdP c b).1, (rdP c b).2.1) := rdP_true (by rw [← h])
theorem rdP_no {c : Col} {b : List UInt8} (h : (rdP c b).2.2 = false) : readF c b = none := rdP_false (r := (rdP c b).2.1) (f := (rdP c b).1) (by rw [← h])
theorem dec_no {s : List Col} {key rest : List UInt8} {i : Nat} {out : List Fld} (hv : validS s = true) (h : DcI s key i out rest) (hi : i < s.length) (hr : (rdP (s.getD i default) rest).2.2 = false) : decodeS s key = ([], 4) := decode_none hv (h.bad hi (rdP_no hr))
theorem dec_odd {s : List Col} {key rest : List UInt8} {i : Nat} {out : List Fld} (hv : validS s = true) (h : DcI s key i out rest) (hi : i < s.length) (hr : (rdP (s.getD i default) rest).2.2 = true) (hf : fitsF (s.getD i default) (rdP (s.getD i default) rest).1 = false) : decodeS s key = ([], 4) := decode_none hv (h.odd hi (rdP_ok hr) hf)
theorem dec_next {s : List Col} {key rest : List UInt8} {i : Nat} {out : List Fld} (h : DcI s key i out rest) (hi : i < s.length) (hr : (rdP (s.getD i default) rest).2.2 = true) (hf : fitsF (s.getD i default) (rdP (s.getD i default) rest).1 = true) : DcI s key (i + 1) (out ++ [(rdP (s.getD i default) rest).1]) (rdP (s.getD i default) rest).2.1 := h.next hi (rdP_ok hr) hf
theorem jl3 {p : Nat → Prop} (h0 : p 0) (h1 : p 1) (h2 : p 2) : ∀ j, j < 3 → p j
  | 0, _ => h0
  | 1, _ => h1
  | 2, _ => h2
end Go.Sx

namespace Go.Sx
open Go
set_option linter.unusedVariables false
set_option linter.unusedSimpArgs false
set_option linter.unusedVariables false
/-! what the reference's function finds -/
theorem refF_of_none {k : Int} {B : List UInt8} (h : rdF B = none) : refF k B = ((0, 0, []), 0) := by unfold refF; rw [h]; rfl
theorem refF_nil {k : Int} {B : List UInt8} (h : B.length = 0) : refF k B = ((0, 0, []), 0) := by
  rw [List.length_eq_zero_iff.1 h]; rfl
theorem refF_null {k : Int} {B : List UInt8} (h : 0 < B.length) (h1 : B.getD 0 default = 1) : refF k B = ((0, 0, []), 1) := by
  have e : rdF B = some (nullF, B.drop 1) := by rw [rdF_at h, if_pos h1]
  unfold refF
  rw [e]
  simp only [nullF, true_or, if_true, List.length_drop, Prod.mk.injEq, true_and]
  omega
theorem refF_int {B : List UInt8} (h : 9 ≤ B.length) (h1 : B.getD 0 default = 2) : refF 1 B = ((1, (valN ((B.drop 1).take 8) : Int) - 9223372036854775808, []), 9) := by
  have e : rdF B = some ((1, (valN ((B.drop 1).take 8) : Int) - 9223372036854775808, []), B.drop 9) := by rw [rdF_at (by omega), if_neg (by rw [h1]; decide), if_pos h1, if_neg (by omega)]
  unfold refF
  rw [e]
  simp only [or_true, if_true, List.length_drop, Prod.mk.injEq, true_and]
  omega
theorem refF_text {B t : List UInt8} {m : Nat} (h : 0 < B.length) (hm : m ≤ B.length) (h1 : B.getD 0 default = 3) (ht : rdT (B.drop 1) = some (t, B.drop m)) : refF 2 B = ((2, 0, t), m) := by
  have e : rdF B = some ((2, 0, t), B.drop m) := by rw [rdF_at h, if_neg (by rw [h1]; decide), if_neg (by rw [h1]; decide), if_pos h1, ht]; rfl
  unfold refF
  rw [e]
  simp only [or_true, if_true, List.length_drop, Prod.mk.injEq, true_and]
  omega
theorem refF_bad {k : Int} {B : List UInt8} (h : 0 < B.length) (h1 : B.getD 0 default = 3) (ht : rdT (B.drop 1) = none) : refF k B = ((0, 0, []), 0) :=
  refF_of_none (by rw [rdF_at h, if_neg (by rw [h1]; decide), if_neg (by rw [h1]; decide), if_pos h1, ht]; rfl)
theorem refF_zero {k : Int} {B : List UInt8} (h : 0 < B.length) (h1 : B.getD 0 default ≠ 1) (h2 : B.getD 0 default = 2 → k = 1 → B.length < 9) (h3 : B.getD 0 default = 3 → k ≠ 2) : refF k B = ((0, 0, []), 0) := by
  have e := rdF_at h
  rw [if_neg h1] at e
  by_cases k2 : B.getD 0 default = 2
  · rw [if_pos k2] at e
    by_cases k1 : k = 1
    · rw [if_pos (h2 k2 k1)] at e; exact refF_of_none e
    · split at e
      · exact refF_of_none e
      · unfold refF
        rw [e]
        simp only
        rw [if_neg (by omega)]; rfl
  · rw [if_neg k2] at e
    by_cases k3 : B.getD 0 default = 3
    · rw [if_pos k3] at e
      cases ht : rdT (B.drop 1) with
      | none => rw [ht] at e; exact refF_of_none e
      | some x =>
        rw [ht] at e
        unfold refF
        rw [e]
        simp only [Option.map]
        rw [if_neg (by have := h3 k3; omega)]; rfl
    · rw [if_neg k3] at e; exact refF_of_none e
theorem refF_le {k : Int} {B : List UInt8} : (refF k B).2 ≤ B.length := by
  unfold refF
  split
  · split
    · exact Nat.sub_le _ _
    · simp
  · simp
theorem byte_is {b c : UInt8} (h : (((b.toNat : Nat) : Int) == (c.toNat : Int)) = true) : b = c := by
  rw [beq_iff_eq] at h
  exact UInt8.toNat_inj.1 (by omega)
theorem byte_isnt {b c : UInt8} (h : (((b.toNat : Nat) : Int) == (c.toNat : Int)) = false) : b ≠ c := by
  rintro rfl
  simp at h
theorem byte_bne {b c : UInt8} (h : (((b.toNat : Nat) : Int) != (c.toNat : Int)) = true) : b ≠ c := by
  rintro rfl
  simp at h
theorem byte_beq {b c : UInt8} (h : (((b.toNat : Nat) : Int) != (c.toNat : Int)) = false) : b = c := by
  simp only [bne_eq_false_iff_eq] at h
  exact UInt8.toNat_inj.1 (by omega)
theorem ref_step {B : List UInt8} {k : Nat} (h : 9 ≤ B.length) (hk : k < 8) : IntKind.u64.wrap (((BitVec.ofInt IntKind.u64.bits (IntKind.u64.wrap (((valN ((B.drop 1).take k) : Nat) : Int) * 2 ^ min (Int.toNat 8) IntKind.u64.bits)) ||| BitVec.ofInt IntKind.u64.bits (IntKind.u64.wrap ((B.getD (k + 1) default).toNat : Int))).toNat : Nat) : Int) = ((valN ((B.drop 1).take (k + 1)) : Nat) : Int) := by
  have := int_step h hk
  rwa [atI_lt (by omega)] at this
/-! the loop over the columns -/
theorem ref_no {s : List Col} {key rest : List UInt8} {i : Nat} {out : List Fld} (hv : validS s = true) (h : DcI s key i out rest) (hi : i < s.length) (hr : (refF (s.getD i default).1 (flipB (s.getD i default).2 rest)).2 = 0) : decodeS s key = ([], 4) := by
  have hc := kind_getD (validS_six hv).2.2 hi
  rcases refF_none (c := s.getD i default) (b := rest) (f := (refF (s.getD i default).1 (flipB (s.getD i default).2 rest)).1) hc (by rw [← hr]) with h1 | ⟨f, r, h1, h2⟩
  · exact decode_none hv (h.bad hi h1)
  · exact decode_none hv (h.odd hi h1 h2)
theorem ref_odd {s : List Col} {key rest : List UInt8} {i : Nat} {out : List Fld} (hv : validS s = true) (h : DcI s key i out rest) (hi : i < s.length) (hr : (refF (s.getD i default).1 (flipB (s.getD i default).2 rest)).2 ≠ 0) (ht : 16 < (refF (s.getD i default).1 (flipB (s.getD i default).2 rest)).1.2.2.length) : decodeS s key = ([], 4) := by
  have hc := kind_getD (validS_six hv).2.2 hi
  obtain ⟨h1, h2, h3⟩ := refF_some (c := s.getD i default) (b := rest) (f := (refF (s.getD i default).1 (flipB (s.getD i default).2 rest)).1) (n := (refF (s.getD i default).1 (flipB (s.getD i default).2 rest)).2) hc rfl hr
  exact decode_none hv (h.odd hi h1 (by rw [h3]; exact decide_eq_false (by omega)))
theorem ref_next {s : List Col} {key rest : List UInt8} {i : Nat} {out : List Fld} (hv : validS s = true) (h : DcI s key i out rest) (hi : i < s.length) (hr : (refF (s.getD i default).1 (flipB (s.getD i default).2 rest)).2 ≠ 0) (ht : (refF (s.getD i default).1 (flipB (s.getD i default).2 rest)).1.2.2.length ≤ 16) :
    DcI s key (i + 1) (out ++ [(refF (s.getD i default).1 (flipB (s.getD i default).2 rest)).1]) (rest.drop (refF (s.getD i default).1 (flipB (s.getD i default).2 rest)).2) := by
  have hc := kind_getD (validS_six hv).2.2 hi
  obtain ⟨h1, h2, h3⟩ := refF_some (c := s.getD i default) (b := rest) (f := (refF (s.getD i default).1 (flipB (s.getD i default).2 rest)).1) (n := (refF (s.getD i default).1 (flipB (s.getD i default).2 rest)).2) hc rfl hr
  exact h.next hi h1 (by rw [h3]; exact decide_eq_true ht)
/-! bytes that are copied, and turned -/
def copyB (d : Bool) (r : List UInt8) (k : Nat) : List UInt8 := (flipB d r).take k ++ List.replicate (r.length - k) 0
theorem copyB_zero {d : Bool} {r : List UInt8} : copyB d r 0 = List.replicate r.length 0 := by simp [copyB]
theorem copyB_all {d : Bool} {r : List UInt8} : copyB d r r.length = flipB d r := by
  have := flip_len (d := d) (l := r)
  simp [copyB, ← this]
theorem copyB_len {d : Bool} {r : List UInt8} {k : Nat} (h : k ≤ r.length) : (copyB d r k).length = r.length := by
  have := flip_len (d := d) (l := r)
  simp [copyB]; omega
theorem copyB_set {d : Bool} {r : List UInt8} {k : Nat} (h : k < r.length) : (copyB d r k).set k ((flipB d r).getD k default) = copyB d r (k + 1) := by
  have hl := flip_len (d := d) (l := r)
  unfold copyB
  rw [take_snoc (by omega), show r.length - k = (r.length - (k + 1)) + 1 by omega, List.replicate_succ, List.set_append]
  rw [if_neg (by simp; omega)]
  simp [show k - min k (flipB d r).length = 0 by omega]
theorem row_setG {l : List UInt8} {n k : Nat} {v : Int} {b : UInt8} {g : Nat → Nat → D} (hn : n = l.length) (hg : RowLe n 1 g (cellOf encB l)) (hk : k < l.length) (hv : v = b.toNat) : RowLe n 1 (fun i' j' => if i' = 0 + k then if j' < 0 then g i' j' else if j' < 0 + (0 + 1) then [D.int IntKind.u8 v].getD (j' - 0) default else g i' j' else g i' j') (cellOf encB (l.set k b)) := ⟨fun i j hi hj => by
  have hj0 : j = 0 := by omega
  subst hj0
  by_cases e : i = k
  · subst e
    simp [hv, cellOf, encB, List.getD, hk]
    exact DLe.refl _
  · have e2 : ¬ k = i := fun h => e h.symm
    have := hg.le i 0 hi hj
    simpa [e, e2, cellOf, List.getD, List.getElem?_set] using this⟩
theorem row_copy {d : Bool} {r : List UInt8} {n k : Nat} {v : Int} {g : Nat → Nat → D} (hd : d = false) (hn : n = r.length) (hk : k < r.length) (hg : RowLe n 1 g (cellOf encB (copyB d r k))) (hv : v = (r.getD k default).toNat) : RowLe n 1 (fun i' j' => if i' = 0 + k then if j' < 0 then g i' j' else if j' < 0 + (0 + 1) then [D.int IntKind.u8 v].getD (j' - 0) default else g i' j' else g i' j') (cellOf encB (copyB d r (k + 1))) := by
  rw [← copyB_set hk]
  refine row_setG (by rw [copyB_len (by omega)]; exact hn) hg (by rw [copyB_len (by omega)]; exact hk) ?_
  rw [hv, flip_getD hk, hd]; rfl
theorem row_turn {d : Bool} {r : List UInt8} {n k : Nat} {v w : Int} {g : Nat → Nat → D} (hd : d = true) (hn : n = r.length) (hk : k < r.length) (hg : RowLe n 1 g (cellOf encB (copyB d r k))) (hv : v = (r.getD k default).toNat) (hw : w = ((255 - r.getD k default : UInt8).toNat : Int)) :
    RowLe n 1 (fun i' j' => if i' = 0 + k then if j' < 0 then (if i' = 0 + k then if j' < 0 then g i' j' else if j' < 0 + (0 + 1) then [D.int IntKind.u8 v].getD (j' - 0) default else g i' j' else g i' j') else if j' < 0 + (0 + 1) then [D.int IntKind.u8 w].getD (j' - 0) default else (if i' = 0 + k then if j' < 0 then g i' j' else if j' < 0 + (0 + 1) then [D.int IntKind.u8 v].getD (j' - 0) default else g i' j' else g i' j') else (if i' = 0 + k then if j' < 0 then g i' j' else if j' < 0 + (0 + 1) then [D.int IntKind.u8 v].getD (j' - 0) default else g i' j' else g i' j')) (cellOf encB (copyB d r (k + 1))) := by
  have hl : (copyB d r k).length = r.length := copyB_len (by omega)
  have h1 := row_setG (b := r.getD k default) (by rw [hl]; exact hn) hg (by rw [hl]; exact hk) hv
  have h2 := row_setG (b := 255 - r.getD k default) (by rw [List.length_set, hl]; exact hn) h1 (by rw [List.length_set, hl]; exact hk) hw
  rw [List.set_set] at h2
  rw [← copyB_set hk, flip_getD hk, hd]
  rw [hd] at h2
  exact h2
theorem bt1 {b : UInt8} : (((b.toNat : Nat) : Int) == 1) = true ↔ b = 1 := ⟨fun h => byte_is (c := 1) h, fun h => by rw [h]; rfl⟩
theorem bf1 {b : UInt8} : (((b.toNat : Nat) : Int) == 1) = false ↔ ¬ b = 1 := ⟨fun h => byte_isnt (c := 1) h, fun h => by
  rw [← Bool.not_eq_true]; exact fun h2 => h (byte_is (c := 1) h2)⟩
theorem bt2 {b : UInt8} : (((b.toNat : Nat) : Int) == 2) = true ↔ b = 2 := ⟨fun h => byte_is (c := 2) h, fun h => by rw [h]; rfl⟩
theorem bf2 {b : UInt8} : (((b.toNat : Nat) : Int) == 2) = false ↔ ¬ b = 2 := ⟨fun h => byte_isnt (c := 2) h, fun h => by
  rw [← Bool.not_eq_true]; exact fun h2 => h (byte_is (c := 2) h2)⟩
theorem bt3 {b : UInt8} : (((b.toNat : Nat) : Int) == 3) = true ↔ b = 3 := ⟨fun h => byte_is (c := 3) h, fun h => by rw [h]; rfl⟩
theorem bf3 {b : UInt8} : (((b.toNat : Nat) : Int) == 3) = false ↔ ¬ b = 3 := ⟨fun h => byte_isnt (c := 3) h, fun h => by
  rw [← Bool.not_eq_true]; exact fun h2 => h (byte_is (c := 3) h2)⟩
theorem byte_i {b c : UInt8} (h : ((b.toNat : Nat) : Int) = (c.toNat : Int)) : b = c := UInt8.toNat_inj.1 (by omega)
theorem byte_n {b c : UInt8} (h : ¬ ((b.toNat : Nat) : Int) = (c.toNat : Int)) : b ≠ c := by
  rintro rfl
  exact h rfl
/-! any bytes -/
def isB (g : Nat → Nat → D) (n : Nat) : Prop := ∀ i, i < n → ∃ b : UInt8, g i 0 = .int .u8 b.toNat
theorem isB.str {g : Nat → Nat → D} {n : Nat} (h : isB g n) : bytesR g 0 n = some (bytesL g n) ∧ (bytesL g n).length = n := by
  let f : Nat → UInt8 := fun i => if hi : i < n then Classical.choose (h i hi) else 0
  have hf : ∀ i, i < n → g i 0 = .int .u8 (f i).toNat := fun i hi => by
    simp only [f, dif_pos hi]; exact Classical.choose_spec (h i hi)
  have := bytesR_enc (g := g) (l := (List.range n).map f) (n := n) (by simp) (fun i hi => by
    have hi2 : i < n := by simpa using hi
    rw [hf i hi2]
    simp [cellOf, encB, List.getD, hi2])
  exact ⟨this.1, by rw [this.2]; simp⟩
theorem u8_any (v : Int) : ∃ b : UInt8, IntKind.u8.wrap v = ((b.toNat : Nat) : Int) := ⟨UInt8.ofNat (v % 256).toNat, by
  rw [u8_wrap, UInt8.toNat_ofNat']
  omega⟩
theorem isB_row {key : List UInt8} {f : Nat → Nat} {n : Nat} : isB (fun i j => byteRow key (f i) j) n := fun i _ => ⟨_, rfl⟩
theorem isB_lit {base : Nat → Nat → D} {v : Int} : isB (tabF base [(0, [D.int IntKind.u8 (IntKind.u8.wrap v)])]) 1 := fun i hi => by
  have : i = 0 := by omega
  subst this
  obtain ⟨b, e⟩ := u8_any v
  exact ⟨b, by rw [e]; rfl⟩
theorem isB_app {key : List UInt8} {base : Nat → Nat → D} {v : Int} : isB (fun i j => if 0 + i < key.length then byteRow key (0 + i) j else tabF base [(0, [D.int IntKind.u8 (IntKind.u8.wrap v)])] (0 + i - key.length) j) (key.length + 1) := fun i hi => by
  by_cases h : 0 + i < key.length
  · simp only [if_pos h]; exact ⟨_, rfl⟩
  · simp only [if_neg h]
    rw [show 0 + i - key.length = 0 by omega]
    exact isB_lit 0 (by omega)
theorem isB_set {key : List UInt8} {k n : Nat} {v : Int} : isB (fun i j => if 0 + i = 0 + k then if j < 0 then byteRow key (0 + i) j else if j < 0 + [D.int IntKind.u8 (IntKind.u8.wrap v)].length then [D.int IntKind.u8 (IntKind.u8.wrap v)].getD (j - 0) default else byteRow key (0 + i) j else byteRow key (0 + i) j) n := fun i hi => by
  by_cases h : 0 + i = 0 + k
  · simp only [h, if_true]
    rw [if_neg (by omega), if_pos (by simp)]
    obtain ⟨b, e⟩ := u8_any v
    exact ⟨b, by rw [e]; rfl⟩
  · simp only [h, if_false]; exact ⟨_, rfl⟩
end Go.Sx
namespace Go.Sx
theorem encodeS_len {s : List Col} {l : List Fld} : (encodeS s l).1.length ≤ 64 := by
  unfold encodeS
  split
  · simp
  · split
    · simp
    · simp only; omega
end Go.Sx
namespace Go.Sx
theorem decodeS_len {s : List Col} {key : List UInt8} : (decodeS s key).1.length ≤ s.length := by
  rcases decode_inv (s := s) (key := key) (l := (decodeS s key).1) (e := (decodeS s key).2) rfl with ⟨_, _, h⟩ | ⟨h, _⟩
  · omega
  · rw [h]; simp
end Go.Sx

namespace Go.Sx
open Go
set_option linter.unusedVariables false
set_option linter.unusedSimpArgs false
set_option linter.unusedVariables false
/-! what the laws ask -/
theorem decodeS_num {s : List Col} {key : List UInt8} : ∀ f ∈ (decodeS s key).1, FldB f := by
  intro f hf
  unfold decodeS at hf
  split at hf
  · simp at hf
  · split at hf
    · rename_i l r h
      split at hf
      · simp at hf
      · exact (enc_decS h).2.2.2 f hf
    · simp at hf
theorem enc_cases {s : List Col} {l : List Fld} (h : fitsL s l = true) : (encodeS s l).2 = 0 ∨ (encodeS s l).2 = 3 := by
  rcases Nat.lt_or_ge 64 (encS s l).length with h2 | h2
  · rw [encodeS_long h (by omega)]; exact .inr rfl
  · rw [encodeS_ok h h2]; exact .inl rfl
theorem enc_zero {s : List Col} {l : List Fld} (h : fitsL s l = true) (h0 : (encodeS s l).2 = 0) : (encodeS s l).1 = encS s l ∧ (encS s l).length ≤ 64 := by
  rcases Nat.lt_or_ge 64 (encS s l).length with h2 | h2
  · rw [encodeS_long h (by omega)] at h0; simp at h0
  · rw [encodeS_ok h h2]; exact ⟨rfl, h2⟩
theorem enc_back {s : List Col} {l : List Fld} (hf : fitsL s l = true) (hl : l.length = s.length) (hb : ∀ f ∈ l, FldB f) (h0 : (encodeS s l).2 = 0) : decodeS s (encodeS s l).1 = (l, 0) := by
  obtain ⟨h1, h2⟩ := enc_zero hf h0
  rw [h1]; exact round_trip hf hl hb h2
theorem dec_fail {s : List Col} {y : List UInt8} (hv : validS s = true) (h : ¬ (decodeS s y).2 = 0) : (decodeS s y).2 = 4 ∧ (decodeS s y).1.length = 0 := by
  rcases decode_inv (s := s) (key := y) (l := (decodeS s y).1) (e := (decodeS s y).2) rfl with ⟨h1, _⟩ | ⟨h1, _, h2⟩
  · exact absurd h1 h
  · exact ⟨h2 hv, by rw [h1]; rfl⟩
theorem dec_back {s : List Col} {y : List UInt8} (h : (decodeS s y).2 = 0) : encodeS s (decodeS s y).1 = (y, 0) := by
  rcases decode_inv (s := s) (key := y) (l := (decodeS s y).1) (e := (decodeS s y).2) rfl with ⟨_, h1, _⟩ | ⟨_, h1, _⟩
  · exact h1
  · omega
/-! turned columns -/
theorem turnS_len {s : List Col} : (turnS s).length = s.length := by simp [turnS]
theorem turn_all {s : List Col} : (turnS s).all kindOk = s.all kindOk := by
  simp only [turnS, List.all_map]; rfl
theorem turn_compare {s : List Col} {a b : List Fld} (h : a.length = b.length) : compareL (turnS s) a b = compareL s b a := by
  unfold compareL
  rw [turn_fits, turn_fits, turn_cmpL h]
  cases fitsL s a <;> cases fitsL s b <;> rfl
theorem turn_encode {s : List Col} {a : List Fld} : (encodeS (turnS s) a).2 = (encodeS s a).2 ∧ (encodeS (turnS s) a).1.length = (encodeS s a).1.length := by
  unfold encodeS
  rw [turn_fits, turn_len]
  split
  · exact ⟨rfl, rfl⟩
  · split
    · exact ⟨rfl, rfl⟩
    · exact ⟨rfl, turn_len⟩
theorem compare_self {s : List Col} {a : List Fld} : compareL s a a = 0 := by
  unfold compareL
  split
  · rfl
  · exact cmpL_self
theorem compare_neg {s : List Col} {a b : List Fld} : compareL s b a = -(compareL s a b) := by
  unfold compareL
  rw [cmpL_neg s a b]
  cases fitsL s a <;> cases fitsL s b <;> simp
def turnTo (n : Nat) (s : List Col) : List Col := turnS (s.take n) ++ s.drop n
theorem turnTo_len {n : Nat} {s : List Col} : (turnTo n s).length = s.length := by
  simp only [turnTo, turnS, List.length_append, List.length_map, List.length_take, List.length_drop]; omega
theorem turnTo_zero {s : List Col} : turnTo 0 s = s := by simp [turnTo, turnS]
theorem turnTo_all {s : List Col} : turnTo s.length s = turnS s := by simp [turnTo]
theorem turnTo_at {n : Nat} {s : List Col} (h : n < s.length) : (turnTo n s).getD n default = s.getD n default := by
  unfold turnTo
  rw [getD_append_right (by simp only [turnS, List.length_map, List.length_take]; omega)]
  simp only [List.getD, turnS, List.length_map, List.length_take, List.getElem?_drop]
  congr 2; omega
theorem turnTo_succ {n : Nat} {s : List Col} (h : n < s.length) : turnTo (n + 1) s = (turnTo n s).set n ((s.getD n default).1, !(s.getD n default).2) := by
  unfold turnTo
  rw [show s.take (n + 1) = s.take n ++ [s.getD n default] from take_succ' h, drop_getD h, List.set_append]
  simp only [turnS, List.length_map, List.length_take, List.map_append, List.map_cons, List.map_nil, List.append_assoc, List.cons_append, List.nil_append]
  rw [if_neg (by omega), show n - min n s.length = 0 by omega]
  rfl
/-! the order -/
theorem order_eq {s : List Col} {a b : List Fld} (ha : fitsL s a = true) (hb : fitsL s b = true) (hi : ∀ f ∈ a, FldB f) (hj : ∀ f ∈ b, FldB f) (h1 : (encodeS s a).2 = 0) (h2 : (encodeS s b).2 = 0) : compareL s a b = cmpT (encodeS s a).1 (encodeS s b).1 := by
  obtain ⟨k1, _⟩ := enc_zero ha h1
  obtain ⟨k2, _⟩ := enc_zero hb h2
  rw [compareL_go ha hb, k1, k2]
  obtain ⟨_, _, _, m1, m2⟩ := fitsL_six ha
  obtain ⟨_, _, _, _, m3⟩ := fitsL_six hb
  exact encS_order m1 m2 m3 hi hj
/-! a list that begins as another one -/
theorem take_all {α : Type} {l : List α} {n : Nat} (h : l.length ≤ n) : l.take n = l := List.take_of_length_le h
end Go.Sx
namespace Go.Sx
theorem row_turnC {s : List Col} {n k : Nat} {b : Bool} (hk : k < s.length) (hb : b = !((turnTo k s).getD (0 + k) default).2) : RowLe n 2 (fun i' j' => if i' = 0 + k then if j' < 0 + 1 then cellOf encCol (turnTo k s) i' j' else if j' < 0 + 1 + [D.bool b].length then [D.bool b].getD (j' - (0 + 1)) default else cellOf encCol (turnTo k s) i' j' else cellOf encCol (turnTo k s) i' j') (cellOf encCol (turnTo (k + 1) s)) := .of_eq fun i j hi hj => by
  have hl : k < (turnTo k s).length := by rw [turnTo_len]; exact hk
  rw [turnTo_succ hk]
  by_cases e : i = k
  · subst e
    have ha := turnTo_at (n := i) hk
    rw [Nat.zero_add] at hb
    rcases (show j = 0 ∨ j = 1 by omega) with rfl | rfl
    · simp only [Nat.zero_add, if_true]
      rw [if_pos (by omega)]
      simp only [cellOf, ha]
      rw [show ((turnTo i s).set i ((s.getD i default).1, !(s.getD i default).2)).getD i default = ((s.getD i default).1, !(s.getD i default).2) by simp [List.getD, hl]]
      rfl
    · simp only [Nat.zero_add, if_true]
      rw [if_neg (by omega), if_pos (by simp)]
      simp only [cellOf]
      rw [show ((turnTo i s).set i ((s.getD i default).1, !(s.getD i default).2)).getD i default = ((s.getD i default).1, !(s.getD i default).2) by simp [List.getD, hl], hb, ha]
      rfl
  · have e2 : ¬ k = i := fun h => e h.symm
    rw [if_neg (by omega)]
    simp [cellOf, List.getD, List.getElem?_set, e2]
end Go.Sx
