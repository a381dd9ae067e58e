/- Part of a symbolic executor over the model, proved sound, with plain laws: SxRen. Written for these claims. -/
import Derived.Test.YtigmgeglnbjfeaaDoorSxFn
namespace Go.Sx
open Go
set_option linter.unusedVariables false
set_option linter.unusedSimpArgs false

variable {P : Program} {G : Nat → Option (Nat × (Nat → D))} {I : Nat → Prop} {ρ : Nat → Loc} {w : World}

mutual
def renS (π : Nat → Nat) : SV → SV
  | .ptr n off => .ptr (π n) off
  | .optr n sz i off => .optr (π n) sz i off
  | .osl n sz off len => .osl (π n) sz off len
  | .agg cs => .agg (renL π cs)
  | .tup cs => .tup (renL π cs)
  | .clo f cs => .clo f (renL π cs)
  | .d x => .d x
  | .cptr s g => .cptr s g
  | .mp n => .mp (π n)
  | .junk => .junk
def renL (π : Nat → Nat) : List SV → List SV
  | [] => []
  | c :: cs => renS π c :: renL π cs
end
def renB (π : Nat → Nat) : Blk → Blk
  | .box cs => .box (renL π cs)
  | .row E sz len get => .row E sz len get
  | .iter s p => .iter s p
  | .smap kd g => .smap kd g
  | .arr sz cs => .arr sz (renL π cs)
def renP (π : Nat → Nat) : List (Nat × Blk) → List (Nat × Blk)
  | [] => []
  | (n, b) :: l => (π n, renB π b) :: renP π l

mutual
theorem renS_rep {π : Nat → Nat} : ∀ {sv : SV} {v : Value}, RepS I ρ w (renS π sv) v ↔ RepS I (fun k => ρ (π k)) w sv v
  | .ptr n off, v => by simp only [renS, RepS]
  | .optr n sz i off, v => by simp only [renS, RepS]
  | .osl n sz off len, v => by simp only [renS, RepS]
  | .agg cs, v => by simp only [renS, RepS, renL_rep (cs := cs)]
  | .tup cs, v => by simp only [renS, RepS, renL_rep (cs := cs)]
  | .clo f cs, v => by simp only [renS, RepS, renL_rep (cs := cs)]
  | .d x, v => by simp only [renS, RepS]
  | .cptr s g, v => by simp only [renS, RepS]
  | .mp n, v => by simp only [renS, RepS]
  | .junk, v => by simp only [renS, RepS]
theorem renL_rep {π : Nat → Nat} : ∀ {cs : List SV} {us : List Value}, RepL I ρ w (renL π cs) us ↔ RepL I (fun k => ρ (π k)) w cs us
  | [], us => by simp only [renL, RepL]
  | c :: cs, us => by simp only [renL, RepL, renS_rep (sv := c), renL_rep (cs := cs)]
end

mutual
theorem renS_in {π : Nat → Nat} {m : Nat} : ∀ {sv : SV}, inS m (renS π sv) → ∃ n, inS n sv ∧ π n = m
  | .ptr n off, h => by simp only [renS, inS] at h; exact ⟨n, by simp [inS], h⟩
  | .optr n sz i off, h => by simp only [renS, inS] at h; exact ⟨n, by simp [inS], h⟩
  | .osl n sz off len, h => by simp only [renS, inS] at h; exact ⟨n, by simp [inS], h⟩
  | .agg cs, h => by simp only [renS, inS] at h; simp only [inS]; exact renL_in h
  | .tup cs, h => by simp only [renS, inS] at h; simp only [inS]; exact renL_in h
  | .clo f cs, h => by simp only [renS, inS] at h; simp only [inS]; exact renL_in h
  | .d x, h => by simp [renS, inS] at h
  | .cptr s g, h => by simp [renS, inS] at h
  | .mp n, h => by simp only [renS, inS] at h; exact ⟨n, by simp [inS], h⟩
  | .junk, h => by simp [renS, inS] at h
theorem renL_in {π : Nat → Nat} {m : Nat} : ∀ {cs : List SV}, inL m (renL π cs) → ∃ n, inL n cs ∧ π n = m
  | [], h => by simp [renL, inL] at h
  | c :: cs, h => by
    simp only [renL, inL] at h
    rcases h with h | h
    · obtain ⟨n, h1, h2⟩ := renS_in h; exact ⟨n, .inl h1, h2⟩
    · obtain ⟨n, h1, h2⟩ := renL_in h; exact ⟨n, .inr h1, h2⟩
end

theorem mem_renP {π : Nat → Nat} {m : Nat} {c : Blk} : ∀ {l : List (Nat × Blk)}, (m, c) ∈ renP π l ↔ ∃ n b, (n, b) ∈ l ∧ π n = m ∧ renB π b = c
  | [] => by simp [renP]
  | (n, b) :: l => by
    simp only [renP, List.mem_cons, Prod.mk.injEq, mem_renP (l := l)]
    constructor
    · rintro (⟨rfl, rfl⟩ | ⟨k, d, h1, h2, h3⟩)
      · exact ⟨n, b, .inl ⟨rfl, rfl⟩, rfl, rfl⟩
      · exact ⟨k, d, .inr h1, h2, h3⟩
    · rintro ⟨k, d, (⟨rfl, rfl⟩ | h1), h2, h3⟩
      · exact .inl ⟨h2.symm, h3.symm⟩
      · exact .inr ⟨k, d, h1, h2, h3⟩
theorem keys_renP {π : Nat → Nat} : ∀ {l : List (Nat × Blk)}, (renP π l).map (·.1) = (l.map (·.1)).map π
  | [] => rfl
  | (n, b) :: l => by simp [renP, keys_renP (l := l)]
theorem renB_ok {π : Nat → Nat} {L : Loc} {b : Blk} : BlkOk I ρ w L (renB π b) ↔ BlkOk I (fun k => ρ (π k)) w L b := by
  cases b <;> simp only [renB, BlkOk, Cells, renL_rep]

/-- A contract holds at other names as well. -/
theorem Spec.ren (π : Nat → Nat) {f : FuncId} {args : List SV} {pre : List (Nat × Blk)} {res : SV} {post : List (Nat × Blk)} (h : Spec P G f args pre res post)
    (hinj : ∀ n m, n ∈ keysP post → m ∈ keysP post → π n = π m → n = m) : Spec P G f (renL π args) (renP π pre) (renS π res) (renP π post) := by
  have hk : ∀ l : List (Nat × Blk), keysP (renP π l) = (keysP l).map π := fun l => keys_renP
  have hlen : (renP π pre).length = pre.length := by
    have := congrArg List.length (hk pre)
    simpa [keysP] using this
  have hnew : newP (renP π pre) (renP π post) = (newP pre post).map π := by
    unfold newP
    rw [hk, hlen, List.map_drop]
  have hpp : ∀ n, n ∈ keysP pre → n ∈ keysP post := fun n hn => by rw [h.keys]; exact List.mem_append.2 (.inl hn)
  have hnp : ∀ n, n ∈ newP pre post → n ∈ keysP post := fun n hn => by rw [h.keys]; exact List.mem_append.2 (.inr hn)
  exact {
  keys := by rw [hk, hk, hnew, h.keys, List.map_append]
  apart := by
    intro n hn hp
    rw [hnew] at hn
    rw [hk] at hp
    obtain ⟨a, ha, rfl⟩ := List.mem_map.1 hn
    obtain ⟨b, hb, e⟩ := List.mem_map.1 hp
    have := hinj b a (hpp b hb) (hnp a ha) e
    subst this
    exact h.apart b ha hb
  rnames := by
    intro n hn
    obtain ⟨k, h1, rfl⟩ := renS_in hn
    rw [hk]
    exact List.mem_map.2 ⟨k, h.rnames k h1, rfl⟩
  pnames := by
    intro n b m hn hm
    obtain ⟨k, c, h1, rfl, rfl⟩ := mem_renP.1 hn
    cases c with
    | box cs =>
      simp only [renB, inB] at hm
      obtain ⟨m', h2, rfl⟩ := renL_in hm
      rw [hk]
      exact List.mem_map.2 ⟨m', h.pnames k _ m' h1 h2, rfl⟩
    | row _ _ _ _ => exact hm.elim
    | iter _ _ => exact hm.elim
    | smap _ _ => exact hm.elim
    | arr s cs =>
      simp only [renB, inB] at hm
      obtain ⟨m', h2, rfl⟩ := renL_in hm
      rw [hk]
      exact List.mem_map.2 ⟨m', h.pnames k _ m' h1 h2, rfl⟩
  kind := by
    intro n b c hn hp
    obtain ⟨k, b', h1, rfl, rfl⟩ := mem_renP.1 hn
    obtain ⟨j, c', h2, e, rfl⟩ := mem_renP.1 hp
    have := hinj j k (hpp j (List.mem_map.2 ⟨_, h2, rfl⟩)) (List.mem_map.2 ⟨_, h1, rfl⟩) e
    subst this
    have := h.kind j b' c' h1 h2
    cases c' <;> cases b' <;> first | exact this.elim | trivial
  enter := h.enter
  calls := by
    intro w I ρ vs hargs hpre hdis hI hG
    have hc := h.calls w I (fun k => ρ (π k)) vs (renL_rep.1 hargs) (fun n b hn => by
        obtain ⟨h1, h2⟩ := hpre (π n) (renB π b) (mem_renP.2 ⟨n, b, hn, rfl, rfl⟩)
        exact ⟨renB_ok.1 h1, fun hl => h2 (by cases b <;> exact hl)⟩)
      (fun n b m c hn hm hl hl' e => hinj n m (hpp n (List.mem_map.2 ⟨_, hn, rfl⟩)) (hpp m (List.mem_map.2 ⟨_, hm, rfl⟩)) (hdis (π n) (renB π b) (π m) (renB π c) (mem_renP.2 ⟨n, b, hn, rfl, rfl⟩) (mem_renP.2 ⟨m, c, hm, rfl, rfl⟩) (by cases b <;> exact hl) (by cases c <;> exact hl') e)) hI hG
    refine Calls.mono hc ?_
    rintro e w' ⟨v, I', ρ', rfl, k⟩
    -- the new names' places, under their new names
    let ρ2 : Nat → Loc := fun m => if hm : ∃ n, n ∈ newP pre post ∧ π n = m then ρ' (Classical.choose hm) else ρ m
    have hρ2 : ∀ n, n ∈ keysP post → ρ2 (π n) = ρ' n := by
      intro n hn
      by_cases hm : ∃ a, a ∈ newP pre post ∧ π a = π n
      · simp only [ρ2]
        rw [dif_pos hm]
        have hs := Classical.choose_spec hm
        rw [hinj _ n (hnp _ hs.1) hn hs.2]
      · simp only [ρ2]
        rw [dif_neg hm]
        have hp : n ∈ keysP pre := by
          rw [h.keys] at hn
          exact (List.mem_append.1 hn).resolve_right (fun hnn => hm ⟨n, hnn, rfl⟩)
        exact (k.old n hp).symm
    refine ⟨v, I', ρ2, rfl, { old := ?_, res := ?_, own := ?_, i0 := k.i0, i1 := k.i1, ilt := k.ilt, keep := ?_, sep := ?_, inj := ?_ }⟩
    · intro m hm
      rw [hk] at hm
      obtain ⟨n, hn, rfl⟩ := List.mem_map.1 hm
      rw [hρ2 n (hpp n hn)]
      exact k.old n hn
    · rw [renS_rep]
      exact k.res.mono (fun _ h => h) (fun _ _ _ => rfl) (fun n hn => hρ2 n (h.rnames n hn))
    · intro m c hm
      obtain ⟨n, b, hn, rfl, rfl⟩ := mem_renP.1 hm
      rw [renB_ok, hρ2 n (List.mem_map.2 ⟨_, hn, rfl⟩)]
      exact (k.own n b hn).mono (fun _ h => h) (fun _ _ _ => rfl) (fun m hm => hρ2 m (h.pnames n b m hn hm)) (fun _ => rfl)
    · refine ⟨k.keep.os, k.keep.tape, k.keep.output, k.keep.size, fun i hi hs => k.keep.block i hi ?_⟩
      rintro ⟨n, b, hn, hl, e⟩
      exact hs ⟨π n, renB π b, mem_renP.2 ⟨n, b, hn, rfl, rfl⟩, by cases b <;> exact hl, e⟩
    · intro m c hm hn hl
      obtain ⟨n, b, hnb, rfl, rfl⟩ := mem_renP.1 hm
      have hkn : n ∈ keysP post := List.mem_map.2 ⟨_, hnb, rfl⟩
      rw [hnew] at hn
      obtain ⟨n', hn', e⟩ := List.mem_map.1 hn
      have := hinj n' n (hnp n' hn') hkn e
      subst this
      rw [hρ2 n' hkn] at hl ⊢
      exact k.sep n' b hnb hn' (by cases b <;> exact hl)
    · intro m1 m2 c1 c2 hm1 hm2 hn1 hn2 hl1 hl2 e
      obtain ⟨n1, b1, hnb1, rfl, rfl⟩ := mem_renP.1 hm1
      obtain ⟨n2, b2, hnb2, rfl, rfl⟩ := mem_renP.1 hm2
      have hk1 : n1 ∈ keysP post := List.mem_map.2 ⟨_, hnb1, rfl⟩
      have hk2 : n2 ∈ keysP post := List.mem_map.2 ⟨_, hnb2, rfl⟩
      rw [hnew] at hn1 hn2
      obtain ⟨n1', hn1', e1⟩ := List.mem_map.1 hn1
      obtain ⟨n2', hn2', e2⟩ := List.mem_map.1 hn2
      have := hinj n1' n1 (hnp n1' hn1') hk1 e1
      subst this
      have := hinj n2' n2 (hnp n2' hn2') hk2 e2
      subst this
      rw [hρ2 n1' hk1] at hl1 e
      rw [hρ2 n2' hk2] at hl2 e
      rw [k.inj n1' n2' b1 b2 hnb1 hnb2 hn1' hn2' (by cases b1 <;> exact hl1) (by cases b2 <;> exact hl2) e] }

theorem LeL.trans_rep {x y : List SV} (h : LeL x y) {I : Nat → Prop} {ρ : Nat → Loc} {w : World} {us : List Value} (hu : RepL I ρ w x us) : RepL I ρ w y us := h.le _ _ _ _ hu
/-- what is known more of the arguments does no harm -/
theorem Spec.arg {f : FuncId} {args args' : List SV} {pre : List (Nat × Blk)} {res : SV} {post : List (Nat × Blk)} (h : Spec P G f args' pre res post) (hle : LeL args args') : Spec P G f args pre res post where
  keys := h.keys
  apart := h.apart
  rnames := h.rnames
  pnames := h.pnames
  kind := h.kind
  enter := h.enter
  calls := fun w I ρ vs ha => h.calls w I ρ vs (hle.le _ _ _ _ ha)
/-- one receiver: any name -/
theorem Spec.at {f : FuncId} {args : List SV} {n : Nat} {b b' : Blk} {res : SV} (h : Spec P G f args [(n, b)] res [(n, b')]) (m : Nat) :
    Spec P G f (renL (fun _ => m) args) [(m, renB (fun _ => m) b)] (renS (fun _ => m) res) [(m, renB (fun _ => m) b')] :=
  h.ren (fun _ => m) (by intro n m hn hm _; simp [keysP] at hn hm; omega)
/-- one new name: any name -/
theorem Spec.new1 {f : FuncId} {args : List SV} {n : Nat} {b' : Blk} {res : SV} (h : Spec P G f args [] res [(n, b')]) (m : Nat) :
    Spec P G f (renL (fun _ => m) args) [] (renS (fun _ => m) res) [(m, renB (fun _ => m) b')] :=
  h.ren (fun _ => m) (by intro n m hn hm _; simp [keysP] at hn hm; omega)
/-- a receiver and one new name: any names -/
theorem Spec.at1 {f : FuncId} {args : List SV} {n k : Nat} {b b' c : Blk} {res : SV} (h : Spec P G f args [(n, b)] res [(n, b'), (k, c)]) (m j : Nat) (hne : n ≠ k) (hmj : m ≠ j) :
    Spec P G f (renL (fun i => if i = n then m else j) args) [(m, renB (fun i => if i = n then m else j) b)] (renS (fun i => if i = n then m else j) res) [(m, renB (fun i => if i = n then m else j) b'), (j, renB (fun i => if i = n then m else j) c)] := by
  have := h.ren (fun i => if i = n then m else j) (by
    intro x y hx hy e
    simp only [keysP, List.map_cons, List.map_nil, List.mem_cons, List.not_mem_nil, or_false] at hx hy
    rcases hx with rfl | rfl <;> rcases hy with rfl | rfl <;> simp_all [Ne.symm])
  simpa only [renP, if_true, if_neg (Ne.symm hne)] using this

end Go.Sx
