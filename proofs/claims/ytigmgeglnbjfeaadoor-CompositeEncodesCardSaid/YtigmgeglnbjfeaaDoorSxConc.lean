/- Part of a symbolic executor over the model, proved sound, with plain laws: SxConc. Written for these claims. -/
import Derived.Test.YtigmgeglnbjfeaaDoorSxSem
namespace Go.Sx
open Go
set_option linter.unusedVariables false
set_option linter.unusedSimpArgs false

variable {G : Nat → Option (Nat × (Nat → D))} {nt : Nat} {C : Ctx} {I : Nat → Prop} {ρ : Nat → Loc} {F : Fs} {a : Act} {w : World}

def putS (F : Fs) (dst : Option Nat) (sv : SV) : Fs :=
  match dst with
  | none => F
  | some d => { F with s := fun k => if k = d then some sv else F.s k }

def dstOk (nt : Nat) : Option Nat → Prop
  | none => True
  | some d => d < nt

theorem Conc.put (h : Conc G nt C I ρ F a w) {dst : Option Nat} (hd : dstOk nt dst) {sv : SV} {v : Value} (hv : RepS I ρ w sv v) (hn : ∀ n, inS n sv → F.nm n) :
    Conc G nt C I ρ (putS F dst sv) (a.put dst v) w := by
  cases dst with
  | none => exact h
  | some d =>
    have hd' : d < a.tmps.size := by rw [h.size]; exact hd
    refine { defers := h.defers, size := by simp [Act.put, h.size], slots := ?_, snames := ?_, own := h.own, onames := h.onames, okeys := h.okeys, sep := h.sep,
             fresh := h.fresh, inj := h.inj, ilt := h.ilt, i0 := h.i0, i1 := h.i1, old := h.old, glob := h.glob, keep := h.keep }
    · intro k sv' hk
      simp only [putS] at hk
      split at hk
      · rename_i e; subst e
        cases hk
        exact ⟨v, by simp [Act.put, hd'], hv⟩
      · rename_i e
        obtain ⟨u, hu, hr⟩ := h.slots k sv' hk
        exact ⟨u, by simp only [Act.put]; rw [Array.getElem?_setIfInBounds_ne (by omega)]; exact hu, hr⟩
    · intro k sv' n hk hin
      simp only [putS] at hk
      split at hk
      · cases hk; exact hn n hin
      · exact h.snames k sv' n hk hin

theorem Conc.world (h : Conc G nt C I ρ F a w) {I' : Nat → Prop} {w' : World} (hI : ∀ b, I b → I' b) (hS : Same I w w')
    (hB : ∀ m b, F.o m = some b → live (ρ m) b → w'.heap[(ρ m).b]? = w.heap[(ρ m).b]?) (hsep : ∀ m b, F.o m = some b → live (ρ m) b → ¬ I' (ρ m).b)
    (hlt : ∀ b, I' b → b < w'.heap.size) (hi1 : ∀ b, I' b → C.I0 b ∨ C.w0.heap.size ≤ b) (hk : Keep C.S0 C.w0 w') :
    Conc G nt C I' ρ F a w' where
  defers := h.defers
  size := h.size
  slots k sv hk := by
    obtain ⟨v, hv, hr⟩ := h.slots k sv hk
    exact ⟨v, hv, hr.mono hI hS (fun _ _ => rfl)⟩
  snames := h.snames
  own n b hb := (h.own n b hb).mono hI hS (fun _ _ => rfl) (hB n b hb)
  onames := h.onames
  okeys := h.okeys
  sep n b hb hl := ⟨hsep n b hb hl, (h.sep n b hb hl).2⟩
  fresh := h.fresh
  inj := h.inj
  ilt := hlt
  i0 b hb := hI b (h.i0 b hb)
  i1 := hi1
  old := h.old
  glob := h.glob.mono hI hS
  keep := hk

/-- ρ may be turned at names that are not in use. -/
theorem Conc.rho (h : Conc G nt C I ρ F a w) {ρ' : Nat → Loc} (hρ : ∀ n, F.nm n → ρ' n = ρ n) : Conc G nt C I ρ' F a w where
  defers := h.defers
  size := h.size
  slots k sv hk := by
    obtain ⟨v, hv, hr⟩ := h.slots k sv hk
    exact ⟨v, hv, hr.mono (fun _ h => h) (fun _ _ _ => rfl) (fun n hn => hρ n (h.snames k sv n hk hn))⟩
  snames := h.snames
  own n b hb := by rw [hρ n (h.okeys n b hb)]; exact (h.own n b hb).mono (fun _ h => h) (fun _ _ _ => rfl) (fun m hm => hρ m (h.onames n b m hb hm)) (fun _ => rfl)
  onames := h.onames
  okeys := h.okeys
  sep n b hb := by rw [hρ n (h.okeys n b hb)]; exact h.sep n b hb
  fresh n b hb := by rw [hρ n (h.okeys n b hb)]; exact h.fresh n b hb
  inj n m b c hb hc := by rw [hρ n (h.okeys n b hb), hρ m (h.okeys m c hc)]; exact h.inj n m b c hb hc
  ilt := h.ilt
  i0 := h.i0
  i1 := h.i1
  old n hn := ⟨(h.old n hn).1, (h.old n hn).2.1, by rw [hρ n (h.old n hn).2.1]; exact (h.old n hn).2.2⟩
  glob := h.glob
  keep := h.keep

def newO (F : Fs) (n : Nat) (blk : Blk) : Fs := ⟨F.s, fun m => if m = n then some blk else F.o m, fun m => m = n ∨ F.nm m, F.n0⟩
def rhoSet (ρ : Nat → Loc) (n : Nat) (L : Loc) : Nat → Loc := fun m => if m = n then L else ρ m

theorem Conc.new (h : Conc G nt C I ρ F a w) {n : Nat} (hn : ¬ F.nm n) {L : Loc} {blk : Blk} {w' : World} (hS : Same I w w')
    (hB : ∀ m b, F.o m = some b → live (ρ m) b → w'.heap[(ρ m).b]? = w.heap[(ρ m).b]?) (hk : Keep C.S0 C.w0 w') (hlt : ∀ b, I b → b < w'.heap.size)
    (hblk : BlkOk I ρ w' L blk) (hnames : ∀ m, inB m blk → F.nm m)
    (hsep : live L blk → ¬ I L.b ∧ C.w0.heap.size ≤ L.b ∧ ∀ m b, F.o m = some b → live (ρ m) b → (ρ m).b ≠ L.b) :
    Conc G nt C I (rhoSet ρ n L) (newO F n blk) a w' := by
  have hne : ∀ m, F.nm m → rhoSet ρ n L m = ρ m := fun m hm => by simp only [rhoSet]; rw [if_neg]; rintro rfl; exact hn hm
  have h1 := (h.world (fun _ h => h) hS hB (fun m b hm hl => (h.sep m b hm hl).1) hlt h.i1 hk).rho (ρ' := rhoSet ρ n L) hne
  have hself : rhoSet ρ n L n = L := by simp [rhoSet]
  exact {
    defers := h1.defers, size := h1.size, slots := h1.slots, snames := fun k sv m hk hm => .inr (h1.snames k sv m hk hm)
    own := by
      intro m b hm
      simp only [newO] at hm
      split at hm
      · rename_i e; subst e; cases hm
        rw [hself]
        exact hblk.mono (fun _ h => h) (fun _ _ _ => rfl) (fun m hm => hne m (hnames m hm)) (fun _ => rfl)
      · exact h1.own m b hm
    onames := by
      intro m b k hm hk
      simp only [newO] at hm
      split at hm
      · cases hm; exact .inr (hnames k hk)
      · exact .inr (h1.onames m b k hm hk)
    okeys := by
      intro m b hm
      simp only [newO] at hm
      split at hm
      · exact .inl ‹_›
      · exact .inr (h1.okeys m b hm)
    sep := by
      intro m b hm hl
      simp only [newO] at hm
      split at hm
      · rename_i e; subst e; cases hm
        rw [hself] at hl ⊢
        exact ⟨(hsep hl).1, .inl (hsep hl).2.1⟩
      · exact h1.sep m b hm hl
    fresh := by
      intro m b hm hr hc
      simp only [newO] at hm
      split at hm
      · rename_i e; subst e; cases hm
        rw [hself] at hc ⊢
        refine .inl (hsep ?_).2.1
        cases blk <;> simp_all [rowLike, live]
      · exact h1.fresh m b hm hr hc
    inj := by
      intro m k b c hm hk hl hl' e
      simp only [newO] at hm hk
      split at hm
      · rename_i e1; subst e1; cases hm
        split at hk
        · rename_i e2; exact e2.symm
        · rw [hself] at hl e
          rw [hne k (h.okeys k c hk)] at hl' e
          exact absurd e.symm ((hsep hl).2.2 k c hk hl')
      · split at hk
        · rename_i e2; subst e2; cases hk
          rw [hself] at hl' e
          rw [hne m (h.okeys m b hm)] at hl e
          exact absurd e ((hsep hl').2.2 m b hm hl)
        · exact h1.inj m k b c hm hk hl hl' e
    ilt := h1.ilt, i0 := h1.i0, i1 := h1.i1, old := fun m hm => ⟨(h1.old m hm).1, .inr (h1.old m hm).2.1, (h1.old m hm).2.2⟩, glob := h1.glob, keep := h1.keep }

def setO (F : Fs) (n : Nat) (blk : Blk) : Fs := { F with o := fun m => if m = n then some blk else F.o m }

theorem Conc.store (h : Conc G nt C I ρ F a w) {n : Nat} {b0 blk : Blk} (h0 : F.o n = some b0) (hl0 : live (ρ n) blk → live (ρ n) b0) (hr0 : rowLike blk → rowLike b0) {w' : World}
    (hS : Same I w w') (hB : ∀ m b, F.o m = some b → m ≠ n → live (ρ m) b → w'.heap[(ρ m).b]? = w.heap[(ρ m).b]?) (hk : Keep C.S0 C.w0 w') (hlt : ∀ b, I b → b < w'.heap.size)
    (hblk : BlkOk I ρ w' (ρ n) blk) (hnames : ∀ m, inB m blk → F.nm m) :
    Conc G nt C I ρ (setO F n blk) a w' where
  defers := h.defers
  size := h.size
  slots k sv hk := by
    obtain ⟨v, hv, hr⟩ := h.slots k sv hk
    exact ⟨v, hv, hr.mono (fun _ h => h) hS (fun _ _ => rfl)⟩
  snames := h.snames
  own := by
    intro m b hm
    simp only [setO] at hm
    split at hm
    · rename_i e; subst e; cases hm; exact hblk
    · rename_i e; exact (h.own m b hm).mono (fun _ h => h) hS (fun _ _ => rfl) (hB m b hm e)
  onames := by
    intro m b k hm hk
    simp only [setO] at hm
    split at hm
    · cases hm; exact hnames k hk
    · exact h.onames m b k hm hk
  okeys := by
    intro m b hm
    simp only [setO] at hm
    split at hm
    · rename_i e; subst e; exact h.okeys _ _ h0
    · exact h.okeys m b hm
  sep := by
    intro m b hm hl
    simp only [setO] at hm
    split at hm
    · rename_i e; subst e; cases hm; exact h.sep _ _ h0 (hl0 hl)
    · exact h.sep m b hm hl
  fresh := by
    intro m b hm hr hc
    simp only [setO] at hm
    split at hm
    · rename_i e; subst e; cases hm; exact h.fresh _ _ h0 (hr0 hr) hc
    · exact h.fresh m b hm hr hc
  inj := by
    intro m k b c hm hk hl hl' e
    have key : ∀ m b, (setO F n blk).o m = some b → live (ρ m) b → ∃ b', F.o m = some b' ∧ live (ρ m) b' := by
      intro m b hm hl
      by_cases e : m = n
      · subst e
        simp only [setO, if_true, Option.some.injEq] at hm
        subst hm
        exact ⟨b0, h0, hl0 hl⟩
      · simp only [setO, e, if_false] at hm
        exact ⟨b, hm, hl⟩
    obtain ⟨b', h1, h2⟩ := key m b hm hl
    obtain ⟨c', h3, h4⟩ := key k c hk hl'
    exact h.inj m k b' c' h1 h3 h2 h4 e
  ilt := hlt
  i0 := h.i0
  i1 := h.i1
  old := h.old
  glob := h.glob.mono (fun _ h => h) hS
  keep := hk

def delF (F : Fs) (n : Nat) : Fs := { F with o := fun m => if m = n then none else F.o m }

theorem Conc.del (h : Conc G nt C I ρ F a w) (n : Nat) : Conc G nt C I ρ (delF F n) a w := by
  have key : ∀ m b, (delF F n).o m = some b → F.o m = some b := by
    intro m b hm; simp only [delF] at hm; split at hm
    · cases hm
    · exact hm
  exact { defers := h.defers, size := h.size, slots := h.slots, snames := h.snames, own := fun m b hm => h.own m b (key m b hm), onames := fun m b k hm => h.onames m b k (key m b hm),
          okeys := fun m b hm => h.okeys m b (key m b hm), sep := fun m b hm => h.sep m b (key m b hm), fresh := fun m b hm => h.fresh m b (key m b hm),
          inj := fun m k b c hm hk => h.inj m k b c (key m b hm) (key k c hk), ilt := h.ilt, i0 := h.i0, i1 := h.i1, old := h.old, glob := h.glob, keep := h.keep }

/-! ### a row becomes immutable -/
def pubC (n sz : Nat) (get : Nat → Nat → D) : List SV → List SV
  | [] => []
  | .osl m s off len :: l => (match Nat.beq m n with
    | true => .d (.list len sz fun i j => get (off + i) j)
    | false => .osl m s off len) :: pubC n sz get l
  | x :: l => x :: pubC n sz get l
def pubV (n sz : Nat) (get : Nat → Nat → D) : SV → SV
  | .osl m s off len => match Nat.beq m n with
    | true => .d (.list len sz fun i j => get (off + i) j)
    | false => .osl m s off len
  | .agg cs => .agg (pubC n sz get cs)
  | .tup cs => .tup (pubC n sz get cs)
  | x => x
def pubB (n sz : Nat) (get : Nat → Nat → D) : Blk → Blk
  | .box cs => .box (pubC n sz get cs)
  | .arr s cs => .arr s (pubC n sz get cs)
  | b => b
def pubF (F : Fs) (n sz : Nat) (get : Nat → Nat → D) : Fs :=
  ⟨fun k => (F.s k).map (pubV n sz get), fun m => if m = n then none else (F.o m).map (pubB n sz get), F.nm, F.n0⟩

theorem repS_list {sz : Nat} {get : Nat → Nat → D} {n E len : Nat} {I' : Nat → Prop} (hI' : 0 < (ρ n).cap → I' (ρ n).b)
    (hb : BlkOk I' ρ w (ρ n) (.row E sz len get)) {s off l : Nat} {v : Value} (h : RepS I' ρ w (.osl n s off l) v) :
    RepD I' w (.list l sz fun i j => get (off + i) j) v := by
  simp only [RepS] at h
  obtain ⟨rfl, h1, h2, a, rfl, h4⟩ := h
  obtain ⟨h5, h6, h7, h8⟩ := hb
  refine ⟨a, _, rfl, by omega, fun hl => ?_⟩
  have ha : a = some ⟨(ρ n).b, (ρ n).o + off * (ρ n).sz, none⟩ := h4.resolve_right (by omega)
  have hc : 0 < (ρ n).cap := by omega
  refine ⟨_, _, ha, hI' hc, fun i j hi hj => ?_⟩
  obtain ⟨arr, h9, h10, h11⟩ := h8 hc
  obtain ⟨u, hu, hr⟩ := h11 (off + i) j (by omega) hj
  refine ⟨u, ?_, hr⟩
  rw [h9.cell, h6]
  rw [Nat.add_mul] at hu
  rw [← hu]; congr 1; omega

theorem repL_pub {sz : Nat} {get : Nat → Nat → D} {n E len : Nat} {I' : Nat → Prop} (hI' : 0 < (ρ n).cap → I' (ρ n).b)
    (hb : BlkOk I' ρ w (ρ n) (.row E sz len get)) : ∀ {cs : List SV} {us : List Value}, RepL I' ρ w cs us → RepL I' ρ w (pubC n sz get cs) us
  | [], _, h => h
  | c :: cs, _, h => by
    simp only [RepL] at h
    obtain ⟨u, r, rfl, h1, h2⟩ := h
    have ih := repL_pub hI' hb h2
    cases c with
    | osl m s off l =>
      simp only [pubC, RepL]
      refine ⟨u, r, rfl, ?_, ih⟩
      cases hm : Nat.beq m n with
      | true =>
        have : m = n := Nat.eq_of_beq_eq_true hm
        subst this
        simp only [RepS]
        exact repS_list hI' hb h1
      | false => exact h1
    | _ => simp only [pubC, RepL]; exact ⟨u, r, rfl, h1, ih⟩

theorem repS_pub {sz : Nat} {get : Nat → Nat → D} {n E len : Nat} {I' : Nat → Prop} (hI' : 0 < (ρ n).cap → I' (ρ n).b)
    (hb : BlkOk I' ρ w (ρ n) (.row E sz len get)) {sv : SV} {v : Value} (h : RepS I' ρ w sv v) : RepS I' ρ w (pubV n sz get sv) v := by
  cases sv with
  | osl m s off l =>
    simp only [pubV]
    cases hm : Nat.beq m n with
    | true =>
      have : m = n := Nat.eq_of_beq_eq_true hm
      subst this
      simp only [RepS]
      exact repS_list hI' hb h
    | false => exact h
  | agg cs =>
    simp only [pubV, RepS] at h ⊢
    obtain ⟨us, hv, h1, h2⟩ := h
    exact ⟨us, hv, repL_pub hI' hb h1, h2⟩
  | tup cs =>
    simp only [pubV, RepS] at h ⊢
    obtain ⟨us, hv, h1⟩ := h
    exact ⟨us, hv, repL_pub hI' hb h1⟩
  | _ => exact h

theorem inL_pub {n sz m : Nat} {get : Nat → Nat → D} : ∀ {cs : List SV}, inL m (pubC n sz get cs) → inL m cs
  | [], h => h
  | c :: cs, h => by
    cases c with
    | osl k s off l =>
      simp only [pubC, inL] at h ⊢
      rcases h with h | h
      · left
        cases hk : Nat.beq k n with
        | true => rw [hk] at h; simp [inS] at h
        | false => rw [hk] at h; exact h
      · exact .inr (inL_pub h)
    | _ => simp only [pubC, inL] at h ⊢; exact or_map h id inL_pub
theorem inS_pub {n sz m : Nat} {get : Nat → Nat → D} {sv : SV} (h : inS m (pubV n sz get sv)) : inS m sv := by
  cases sv with
  | osl k s off l =>
    simp only [pubV] at h
    cases hk : Nat.beq k n with
    | true => rw [hk] at h; simp [inS] at h
    | false => rw [hk] at h; exact h
  | agg cs => simp only [pubV, inS] at h ⊢; exact inL_pub h
  | tup cs => simp only [pubV, inS] at h ⊢; exact inL_pub h
  | _ => exact h

def pubI (I : Nat → Prop) (L : Loc) : Nat → Prop := fun b => I b ∨ (0 < L.cap ∧ b = L.b)

theorem Conc.pub (h : Conc G nt C I ρ F a w) {n E sz len : Nat} {get : Nat → Nat → D} (hn : F.o n = some (.row E sz len get)) (hn0 : ¬ F.n0 n) :
    Conc G nt C (pubI I (ρ n)) ρ (pubF F n sz get) a w := by
  have hI : ∀ b, I b → pubI I (ρ n) b := fun b hb => .inl hb
  have hI' : 0 < (ρ n).cap → pubI I (ρ n) (ρ n).b := fun hc => .inr ⟨hc, rfl⟩
  have hS : Same I w w := fun _ _ _ => rfl
  have hb : BlkOk (pubI I (ρ n)) ρ w (ρ n) (.row E sz len get) := (h.own n _ hn).mono hI hS (fun _ _ => rfl) (fun _ => rfl)
  have key : ∀ m b, (pubF F n sz get).o m = some b → ∃ b', F.o m = some b' ∧ b = pubB n sz get b' ∧ m ≠ n ∧ (live (ρ m) b ↔ live (ρ m) b') ∧ (rowLike b ↔ rowLike b') := by
    intro m b hm
    simp only [pubF] at hm
    split at hm
    · cases hm
    · rename_i e
      cases hb' : F.o m with
      | none => rw [hb'] at hm; cases hm
      | some b' =>
        rw [hb'] at hm; cases hm
        exact ⟨b', rfl, rfl, e, by cases b' <;> rfl, by cases b' <;> rfl⟩
  exact {
    defers := h.defers, size := h.size
    slots := by
      intro k sv hk
      simp only [pubF, Option.map_eq_some_iff] at hk
      obtain ⟨sv', hk, rfl⟩ := hk
      obtain ⟨v, hv, hr⟩ := h.slots k sv' hk
      exact ⟨v, hv, repS_pub hI' hb (hr.mono hI hS (fun _ _ => rfl))⟩
    snames := by
      intro k sv m hk hm
      simp only [pubF, Option.map_eq_some_iff] at hk
      obtain ⟨sv', hk, rfl⟩ := hk
      exact h.snames k sv' m hk (inS_pub hm)
    own := by
      intro m b hm
      obtain ⟨b', h1, rfl, _⟩ := key m b hm
      have h2 := (h.own m b' h1).mono (ρ' := ρ) hI hS (fun _ _ => rfl) (fun _ => rfl)
      cases b' with
      | box cs =>
        obtain ⟨us, E', h3, h4⟩ := h2
        exact ⟨us, E', h3, repL_pub hI' hb h4.1, h4.2⟩
      | arr s cs =>
        obtain ⟨g1, g2, us, E', h3, h4⟩ := h2
        exact ⟨g1, g2, us, E', h3, repL_pub hI' hb h4.1, h4.2⟩
      | _ => exact h2
    onames := by
      intro m b k hm hk
      obtain ⟨b', h1, rfl, _⟩ := key m b hm
      refine h.onames m b' k h1 ?_
      cases b' with
      | box cs => exact inL_pub hk
      | arr s cs => exact inL_pub hk
      | _ => exact hk
    okeys := fun m b hm => by obtain ⟨b', h1, _⟩ := key m b hm; exact h.okeys m b' h1
    sep := by
      intro m b hm hl
      obtain ⟨b', h1, rfl, hne, hll, _⟩ := key m b hm
      have hs := h.sep m b' h1 (hll.1 hl)
      refine ⟨?_, hs.2⟩
      rintro (hi | ⟨hc, e⟩)
      · exact hs.1 hi
      · exact hne (h.inj m n b' _ h1 hn (hll.1 hl) hc e)
    fresh := fun m b hm hr hc => by obtain ⟨b', h1, _, _, _, hrr⟩ := key m b hm; exact h.fresh m b' h1 (hrr.1 hr) hc
    inj := by
      intro m k b c hm hk hl hl' e
      obtain ⟨b', h1, _, _, h2, _⟩ := key m b hm
      obtain ⟨c', h3, _, _, h4, _⟩ := key k c hk
      exact h.inj m k b' c' h1 h3 (h2.1 hl) (h4.1 hl') e
    ilt := by
      rintro b (hb' | ⟨hc, rfl⟩)
      · exact h.ilt b hb'
      · obtain ⟨_, _, _, h8⟩ := hb
        obtain ⟨arr, h9, _⟩ := h8 hc
        exact h9.lt
    i0 := fun b hb => .inl (h.i0 b hb)
    i1 := by
      rintro b (hb' | ⟨hc, rfl⟩)
      · exact h.i1 b hb'
      · exact .inr ((h.fresh n _ hn trivial hc).resolve_right (fun h0 => hn0 (h.old n h0).1))
    old := h.old
    glob := h.glob.mono hI hS
    keep := h.keep }

end Go.Sx
