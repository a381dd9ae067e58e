/- Part of a symbolic executor over the model, proved sound: SxRen. Written for these claims. -/
import Derived.Test.YtnpemjhllmfedaaSxFn
namespace Go.Sx
open Go
set_option linter.unusedVariables false
set_option linter.unusedSimpArgs false

variable {P : Program} {G : Nat → Option (Nat × (Nat → D))} {I : Nat → Prop} {ρ : Nat → Loc} {w : World}

mutual
def renS (π : Nat → Nat) : SV → SV
  | .ptr n off => .ptr (π n) off
  | .optr n sz i off => .optr (π n) sz i off
  | .osl n sz off len => .osl (π n) sz off len
  | .agg cs => .agg (renL π cs)
  | .tup cs => .tup (renL π cs)
  | .clo f cs => .clo f (renL π cs)
  | .d x => .d x
  | .cptr s g => .cptr s g
  | .junk => .junk
def renL (π : Nat → Nat) : List SV → List SV
  | [] => []
  | c :: cs => renS π c :: renL π cs
end
def renB (π : Nat → Nat) : Blk → Blk
  | .box cs => .box (renL π cs)
  | .row E sz len get => .row E sz len get
  | .iter s p => .iter s p
def renP (π : Nat → Nat) : List (Nat × Blk) → List (Nat × Blk)
  | [] => []
  | (n, b) :: l => (π n, renB π b) :: renP π l

mutual
theorem renS_rep {π : Nat → Nat} : ∀ {sv : SV} {v : Value}, RepS I ρ w (renS π sv) v ↔ RepS I (fun k => ρ (π k)) w sv v
  | .ptr n off, v => by simp only [renS, RepS]
  | .optr n sz i off, v => by simp only [renS, RepS]
  | .osl n sz off len, v => by simp only [renS, RepS]
  | .agg cs, v => by simp only [renS, RepS, renL_rep (cs := cs)]
  | .tup cs, v => by simp only [renS, RepS, renL_rep (cs := cs)]
  | .clo f cs, v => by simp only [renS, RepS, renL_rep (cs := cs)]
  | .d x, v => by simp only [renS, RepS]
  | .cptr s g, v => by simp only [renS, RepS]
  | .junk, v => by simp only [renS, RepS]
theorem renL_rep {π : Nat → Nat} : ∀ {cs : List SV} {us : List Value}, RepL I ρ w (renL π cs) us ↔ RepL I (fun k => ρ (π k)) w cs us
  | [], us => by simp only [renL, RepL]
  | c :: cs, us => by simp only [renL, RepL, renS_rep (sv := c), renL_rep (cs := cs)]
end

mutual
theorem renS_in {π : Nat → Nat} {m : Nat} : ∀ {sv : SV}, inS m (renS π sv) → ∃ n, inS n sv ∧ π n = m
  | .ptr n off, h => by simp only [renS, inS] at h; exact ⟨n, by simp [inS], h⟩
  | .optr n sz i off, h => by simp only [renS, inS] at h; exact ⟨n, by simp [inS], h⟩
  | .osl n sz off len, h => by simp only [renS, inS] at h; exact ⟨n, by simp [inS], h⟩
  | .agg cs, h => by simp only [renS, inS] at h; simp only [inS]; exact renL_in h
  | .tup cs, h => by simp only [renS, inS] at h; simp only [inS]; exact renL_in h
  | .clo f cs, h => by simp only [renS, inS] at h; simp only [inS]; exact renL_in h
  | .d x, h => by simp [renS, inS] at h
  | .cptr s g, h => by simp [renS, inS] at h
  | .junk, h => by simp [renS, inS] at h
theorem renL_in {π : Nat → Nat} {m : Nat} : ∀ {cs : List SV}, inL m (renL π cs) → ∃ n, inL n cs ∧ π n = m
  | [], h => by simp [renL, inL] at h
  | c :: cs, h => by
    simp only [renL, inL] at h
    rcases h with h | h
    · obtain ⟨n, h1, h2⟩ := renS_in h; exact ⟨n, .inl h1, h2⟩
    · obtain ⟨n, h1, h2⟩ := renL_in h; exact ⟨n, .inr h1, h2⟩
end

theorem mem_renP {π : Nat → Nat} {m : Nat} {c : Blk} : ∀ {l : List (Nat × Blk)}, (m, c) ∈ renP π l ↔ ∃ n b, (n, b) ∈ l ∧ π n = m ∧ renB π b = c
  | [] => by simp [renP]
  | (n, b) :: l => by
    simp only [renP, List.mem_cons, Prod.mk.injEq, mem_renP (l := l)]
    constructor
    · rintro (⟨rfl, rfl⟩ | ⟨k, d, h1, h2, h3⟩)
      · exact ⟨n, b, .inl ⟨rfl, rfl⟩, rfl, rfl⟩
      · exact ⟨k, d, .inr h1, h2, h3⟩
    · rintro ⟨k, d, (⟨rfl, rfl⟩ | h1), h2, h3⟩
      · exact .inl ⟨h2.symm, h3.symm⟩
      · exact .inr ⟨k, d, h1, h2, h3⟩
theorem keys_renP {π : Nat → Nat} : ∀ {l : List (Nat × Blk)}, (renP π l).map (·.1) = (l.map (·.1)).map π
  | [] => rfl
  | (n, b) :: l => by simp [renP, keys_renP (l := l)]
theorem renB_ok {π : Nat → Nat} {L : Loc} {b : Blk} : BlkOk I ρ w L (renB π b) ↔ BlkOk I (fun k => ρ (π k)) w L b := by
  cases b <;> simp only [renB, BlkOk, Cells, renL_rep]

/-- A contract holds at other names as well. -/
theorem Spec.ren (π : Nat → Nat) {f : FuncId} {args : List SV} {pre : List (Nat × Blk)} {res : SV} {post : List (Nat × Blk)} (h : Spec P G f args pre res post)
    (hinj : ∀ n m, n ∈ pre.map (·.1) → m ∈ pre.map (·.1) → π n = π m → n = m) : Spec P G f (renL π args) (renP π pre) (renS π res) (renP π post) where
  keys := by rw [keys_renP, keys_renP, h.keys]
  rnames := by
    intro n hn
    obtain ⟨k, h1, rfl⟩ := renS_in hn
    rw [keys_renP]
    exact List.mem_map.2 ⟨k, h.rnames k h1, rfl⟩
  pnames := by
    intro n b m hn hm
    obtain ⟨k, c, h1, rfl, rfl⟩ := mem_renP.1 hn
    cases c with
    | box cs =>
      simp only [renB, inB] at hm
      obtain ⟨m', h2, rfl⟩ := renL_in hm
      rw [keys_renP]
      exact List.mem_map.2 ⟨m', h.pnames k _ m' h1 h2, rfl⟩
    | row _ _ _ _ => exact hm.elim
    | iter _ _ => exact hm.elim
  norow := by
    intro n b hn
    obtain ⟨k, c, h1, rfl, rfl⟩ := mem_renP.1 hn
    have := h.norow k c h1
    cases c <;> first | exact this.elim | trivial
  enter := h.enter
  calls := by
    intro w I ρ vs hargs hpre hdis hI hG
    have hc := h.calls w I (fun k => ρ (π k)) vs (renL_rep.1 hargs) (fun n b hn => by
        obtain ⟨h1, h2⟩ := hpre (π n) (renB π b) (mem_renP.2 ⟨n, b, hn, rfl, rfl⟩)
        exact ⟨renB_ok.1 h1, h2⟩)
      (fun n b m c hn hm e => hinj n m (List.mem_map.2 ⟨_, hn, rfl⟩) (List.mem_map.2 ⟨_, hm, rfl⟩) (hdis (π n) (renB π b) (π m) (renB π c) (mem_renP.2 ⟨n, b, hn, rfl, rfl⟩) (mem_renP.2 ⟨m, c, hm, rfl, rfl⟩) e)) hI hG
    refine Calls.mono hc ?_
    rintro e w' ⟨v, I', rfl, h1, h2, h3, h4, h5, h6⟩
    refine ⟨v, I', rfl, renS_rep.2 h1, ?_, h3, h4, h5, ?_⟩
    · intro m c hm
      obtain ⟨n, b, hn, rfl, rfl⟩ := mem_renP.1 hm
      exact renB_ok.2 (h2 n b hn)
    · refine ⟨h6.os, h6.tape, h6.output, h6.size, fun k hk hs => h6.block k hk ?_⟩
      rintro ⟨n, b, hn, e⟩
      exact hs ⟨π n, renB π b, mem_renP.2 ⟨n, b, hn, rfl, rfl⟩, e⟩

theorem LeL.trans_rep {x y : List SV} (h : LeL x y) {I : Nat → Prop} {ρ : Nat → Loc} {w : World} {us : List Value} (hu : RepL I ρ w x us) : RepL I ρ w y us := h.le _ _ _ _ hu
/-- what is known more of the arguments does no harm -/
theorem Spec.arg {f : FuncId} {args args' : List SV} {pre : List (Nat × Blk)} {res : SV} {post : List (Nat × Blk)} (h : Spec P G f args' pre res post) (hle : LeL args args') : Spec P G f args pre res post where
  keys := h.keys
  rnames := h.rnames
  pnames := h.pnames
  norow := h.norow
  enter := h.enter
  calls := fun w I ρ vs ha => h.calls w I ρ vs (hle.le _ _ _ _ ha)
/-- one receiver: any name -/
theorem Spec.at {f : FuncId} {args : List SV} {n : Nat} {b : Blk} {res : SV} {post : List (Nat × Blk)} (h : Spec P G f args [(n, b)] res post) (m : Nat) :
    Spec P G f (renL (fun _ => m) args) [(m, renB (fun _ => m) b)] (renS (fun _ => m) res) (renP (fun _ => m) post) :=
  h.ren (fun _ => m) (by intro n m hn hm _; simp at hn hm; omega)

end Go.Sx
