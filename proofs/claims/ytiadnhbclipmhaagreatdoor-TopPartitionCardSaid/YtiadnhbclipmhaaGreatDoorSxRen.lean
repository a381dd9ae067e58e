/- Part of a symbolic executor over the model, proved sound, with plain laws: SxRen. Written for these claims. -/
import Derived.Test.YtiadnhbclipmhaaGreatDoorSxEnt
set_option linter.unusedVariables false
set_option linter.unusedSimpArgs false
namespace Go.Sx
open Go
variable {P : Program} {G : Nat → Option (Nat × (Nat → D))} {I : Nat → Prop} {ρ : Nat → Loc} {w : World}
mutual
def renS (π : Nat → Nat) : SV → SV
  | .ptr n off => .ptr (π n) off
  | .optr n sz i off => .optr (π n) sz i off
  | .osl n sz off len => .osl (π n) sz off len
  | .fsl n k sz l => .fsl (π n) k sz l
  | .fptr n k sz i off => .fptr (π n) k sz i off
  | .agg cs => .agg (renL π cs)
  | .tup cs => .tup (renL π cs)
  | .clo f cs => .clo f (renL π cs)
  | .ifc T cs => .ifc T (renL π cs)
  | .d x => .d x
  | .cptr s g => .cptr s g
  | .mp n => .mp (π n)
  | .junk => .junk
def renL (π : Nat → Nat) : List SV → List SV
  | [] => []
  | c :: cs => renS π c :: renL π cs
end
def renB (π : Nat → Nat) : Blk → Blk
  | .box cs => .box (renL π cs)
  | .row E sz len get => .row E sz len get
  | .iter s p => .iter s p
  | .smap kd g => .smap kd g
  | .arr sz cs => .arr sz (renL π cs)
  | .fam nk rows => .fam nk rows
  | .frow fn E sz len get => .frow (π fn) E sz len get
  | .gmap fn ka kk va sz has get => .gmap (π fn) ka kk va sz has get
def renP (π : Nat → Nat) : List (Nat × Blk) → List (Nat × Blk)
  | [] => []
  | (n, b) :: l => (π n, renB π b) :: renP π l
mutual
theorem renS_rep {π : Nat → Nat} : ∀ {sv : SV} {v : Value}, RepS I ρ w (renS π sv) v ↔ RepS I (fun k => ρ (π k)) w sv v
  | .ptr n off, v => by simp only [renS, RepS]
  | .optr n sz i off, v => by simp only [renS, RepS]
  | .osl n sz off len, v => by simp only [renS, RepS]
  | .fsl n k sz l, v => by simp only [renS, RepS]
  | .fptr n k sz i off, v => by simp only [renS, RepS]
  | .agg cs, v => by simp only [renS, RepS, renL_rep (cs := cs)]
  | .tup cs, v => by simp only [renS, RepS, renL_rep (cs := cs)]
  | .clo f cs, v => by simp only [renS, RepS, renL_rep (cs := cs)]
  | .ifc T cs, v => by simp only [renS, RepS, renL_rep (cs := cs)]
  | .d x, v => by simp only [renS, RepS]
  | .cptr s g, v => by simp only [renS, RepS]
  | .mp n, v => by simp only [renS, RepS]
  | .junk, v => by simp only [renS, RepS]
theorem renL_rep {π : Nat → Nat} : ∀ {cs : List SV} {us : List Value}, RepL I ρ w (renL π cs) us ↔ RepL I (fun k => ρ (π k)) w cs us
  | [], us => by simp only [renL, RepL]
  | c :: cs, us => by simp only [renL, RepL, renS_rep (sv := c), renL_rep (cs := cs)]
end
mutual
theorem renS_in {π : Nat → Nat} {m : Nat} : ∀ {sv : SV}, inS m (renS π sv) → ∃ n, inS n sv ∧ π n = m
  | .ptr n off, h => by simp only [renS, inS] at h; exact ⟨n, by simp [inS], h⟩
  | .optr n sz i off, h => by simp only [renS, inS] at h; exact ⟨n, by simp [inS], h⟩
  | .osl n sz off len, h => by simp only [renS, inS] at h; exact ⟨n, by simp [inS], h⟩
  | .fsl n k sz l, h => by simp only [renS, inS] at h; exact ⟨n, by simp [inS], h⟩
  | .fptr n k sz i off, h => by simp only [renS, inS] at h; exact ⟨n, by simp [inS], h⟩
  | .agg cs, h => by simp only [renS, inS] at h; simp only [inS]; exact renL_in h
  | .tup cs, h => by simp only [renS, inS] at h; simp only [inS]; exact renL_in h
  | .clo f cs, h => by simp only [renS, inS] at h; simp only [inS]; exact renL_in h
  | .ifc T cs, h => by simp only [renS, inS] at h; simp only [inS]; exact renL_in h
  | .d x, h => by simp [renS, inS] at h
  | .cptr s g, h => by simp [renS, inS] at h
  | .mp n, h => by simp only [renS, inS] at h; exact ⟨n, by simp [inS], h⟩
  | .junk, h => by simp [renS, inS] at h
theorem renL_in {π : Nat → Nat} {m : Nat} : ∀ {cs : List SV}, inL m (renL π cs) → ∃ n, inL n cs ∧ π n = m
  | [], h => by simp [renL, inL] at h
  | c :: cs, h => by
    simp only [renL, inL] at h
    rcases h with h | h
    · obtain ⟨n, h1, h2⟩ := renS_in h; exact ⟨n, .inl h1, h2⟩
    · obtain ⟨n, h1, h2⟩ := renL_in h; exact ⟨n, .inr h1, h2⟩
end
theorem mem_renP {π : Nat → Nat} {m : Nat} {c : Blk} : ∀ {l : List (Nat × Blk)}, (m, c) ∈ renP π l ↔ ∃ n b, (n, b) ∈ l ∧ π n = m ∧ renB π b = c
  | [] => by simp [renP]
  | (n, b) :: l => by
    simp only [renP, List.mem_cons, Prod.mk.injEq, mem_renP (l := l)]
    constructor
    · rintro (⟨rfl, rfl⟩ | ⟨k, d, h1, h2, h3⟩)
      · exact ⟨n, b, .inl ⟨rfl, rfl⟩, rfl, rfl⟩
      · exact ⟨k, d, .inr h1, h2, h3⟩
    · rintro ⟨k, d, (⟨rfl, rfl⟩ | h1), h2, h3⟩
      · exact .inl ⟨h2.symm, h3.symm⟩
      · exact .inr ⟨k, d, h1, h2, h3⟩
theorem keys_renP {π : Nat → Nat} : ∀ {l : List (Nat × Blk)}, (renP π l).map (·.1) = (l.map (·.1)).map π
  | [] => rfl
  | (n, b) :: l => by simp [renP, keys_renP (l := l)]
theorem renF_rep {π : Nat → Nat} {fn : Nat} {x : FC} {v : Value} : RepF I ρ (π fn) w x v ↔ RepF I (fun k => ρ (π k)) fn w x v := by
  cases x with
  | d x => exact Iff.rfl
  | fs k sz l => simp only [RepF, RepS]
theorem renG {π : Nat → Nat} {fn : Nat} {es : Array MapEntry} {clock : Nat} {ka : Bool} {kk : List IntKind} {va : Bool} {sz : Nat} {has : List Int → Bool} {get : List Int → Nat → FC} :
    GMapIs I ρ (π fn) w es clock ka kk va sz has get ↔ GMapIs I (fun k => ρ (π k)) fn w es clock ka kk va sz has get := by
  constructor
  · intro h
    refine ⟨h.stamped, h.keys, fun e he k hk hek => ?_, h.all⟩
    obtain ⟨h0, us, h1, h2, h3, h4⟩ := h.ent e he k hk hek
    refine ⟨h0, us, h1, h2, fun j hj => ?_, h4⟩
    obtain ⟨u, hu, hr⟩ := h3 j hj
    exact ⟨u, hu, renF_rep.1 hr⟩
  · intro h
    refine ⟨h.stamped, h.keys, fun e he k hk hek => ?_, h.all⟩
    obtain ⟨h0, us, h1, h2, h3, h4⟩ := h.ent e he k hk hek
    refine ⟨h0, us, h1, h2, fun j hj => ?_, h4⟩
    obtain ⟨u, hu, hr⟩ := h3 j hj
    exact ⟨u, hu, renF_rep.2 hr⟩
theorem renB_ok {π : Nat → Nat} {L : Loc} {b : Blk} : BlkOk I ρ w L (renB π b) ↔ BlkOk I (fun k => ρ (π k)) w L b := by
  cases b with
  | fam nk rows => exact Iff.rfl
  | frow fn E sz len get => simp only [renB, BlkOk, renF_rep]
  | gmap fn ka kk va sz has get => simp only [renB, BlkOk, renG]
  | _ => simp only [renB, BlkOk, Cells, renL_rep]
theorem renB_foot {π : Nat → Nat} {L : Loc} {b : Blk} {k : Nat} : foot L (renB π b) k ↔ foot L b k := by
  cases b <;> exact Iff.rfl
theorem Spec.ren (π : Nat → Nat) {f : FuncId} {args : List SV} {pre : List (Nat × Blk)} {res : SV} {post : List (Nat × Blk)} (h : Spec P G f args pre res post)
    (hinj : ∀ n m, n ∈ keysP post → m ∈ keysP post → π n = π m → n = m) : Spec P G f (renL π args) (renP π pre) (renS π res) (renP π post) := by
  have hk : ∀ l : List (Nat × Blk), keysP (renP π l) = (keysP l).map π := fun l => keys_renP
  have hlen : (renP π pre).length = pre.length := by
    have := congrArg List.length (hk pre)
    simpa [keysP] using this
  have hnew : newP (renP π pre) (renP π post) = (newP pre post).map π := by
    unfold newP
    rw [hk, hlen, List.map_drop]
  have hpp : ∀ n, n ∈ keysP pre → n ∈ keysP post := fun n hn => by rw [h.keys]; exact List.mem_append.2 (.inl hn)
  have hnp : ∀ n, n ∈ newP pre post → n ∈ keysP post := fun n hn => by rw [h.keys]; exact List.mem_append.2 (.inr hn)
  exact {
  keys := by rw [hk, hk, hnew, h.keys, List.map_append]
  apart := by
    intro n hn hp
    rw [hnew] at hn
    rw [hk] at hp
    obtain ⟨a, ha, rfl⟩ := List.mem_map.1 hn
    obtain ⟨b, hb, e⟩ := List.mem_map.1 hp
    have := hinj b a (hpp b hb) (hnp a ha) e
    subst this
    exact h.apart b ha hb
  rnames := by
    intro n hn
    obtain ⟨k, h1, rfl⟩ := renS_in hn
    rw [hk]
    exact List.mem_map.2 ⟨k, h.rnames k h1, rfl⟩
  pnames := by
    intro n b m hn hm
    obtain ⟨k, c, h1, rfl, rfl⟩ := mem_renP.1 hn
    cases c with
    | box cs =>
      simp only [renB, inB] at hm
      obtain ⟨m', h2, rfl⟩ := renL_in hm
      rw [hk]
      exact List.mem_map.2 ⟨m', h.pnames k _ m' h1 h2, rfl⟩
    | row _ _ _ _ => exact hm.elim
    | fam _ _ => exact hm.elim
    | frow fn _ _ _ _ =>
      simp only [renB, inB] at hm
      subst hm
      rw [hk]
      exact List.mem_map.2 ⟨fn, h.pnames k _ fn h1 (by simp only [inB]), rfl⟩
    | gmap fn _ _ _ _ _ _ =>
      simp only [renB, inB] at hm
      subst hm
      rw [hk]
      exact List.mem_map.2 ⟨fn, h.pnames k _ fn h1 (by simp only [inB]), rfl⟩
    | iter _ _ => exact hm.elim
    | smap _ _ => exact hm.elim
    | arr s cs =>
      simp only [renB, inB] at hm
      obtain ⟨m', h2, rfl⟩ := renL_in hm
      rw [hk]
      exact List.mem_map.2 ⟨m', h.pnames k _ m' h1 h2, rfl⟩
  kind := by
    intro n b c hn hp
    obtain ⟨k, b', h1, rfl, rfl⟩ := mem_renP.1 hn
    obtain ⟨j, c', h2, e, rfl⟩ := mem_renP.1 hp
    have := hinj j k (hpp j (List.mem_map.2 ⟨_, h2, rfl⟩)) (List.mem_map.2 ⟨_, h1, rfl⟩) e
    subst this
    have := h.kind j b' c' h1 h2
    cases c' <;> cases b' <;> first | exact this.elim | trivial
  enter := h.enter
  calls := by
    intro w I ρ vs hargs hpre hdis hI hG
    have hc := h.calls w I (fun k => ρ (π k)) vs (renL_rep.1 hargs) (fun n b hn => by
        obtain ⟨h1, h2⟩ := hpre (π n) (renB π b) (mem_renP.2 ⟨n, b, hn, rfl, rfl⟩)
        exact ⟨renB_ok.1 h1, fun hl => h2 (by cases b <;> exact hl)⟩)
      (fun n b m c hn hm hl hl' e => hinj n m (hpp n (List.mem_map.2 ⟨_, hn, rfl⟩)) (hpp m (List.mem_map.2 ⟨_, hm, rfl⟩)) (hdis (π n) (renB π b) (π m) (renB π c) (mem_renP.2 ⟨n, b, hn, rfl, rfl⟩) (mem_renP.2 ⟨m, c, hm, rfl, rfl⟩) (by cases b <;> exact hl) (by cases c <;> exact hl') e)) hI hG
    refine Calls.mono hc ?_
    rintro e w' ⟨v, I', ρ', rfl, k⟩
    let ρ2 : Nat → Loc := fun m => if hm : ∃ n, n ∈ newP pre post ∧ π n = m then ρ' (Classical.choose hm) else ρ m
    have hρ2 : ∀ n, n ∈ keysP post → ρ2 (π n) = ρ' n := by
      intro n hn
      by_cases hm : ∃ a, a ∈ newP pre post ∧ π a = π n
      · simp only [ρ2]
        rw [dif_pos hm]
        have hs := Classical.choose_spec hm
        rw [hinj _ n (hnp _ hs.1) hn hs.2]
      · simp only [ρ2]
        rw [dif_neg hm]
        have hp : n ∈ keysP pre := by
          rw [h.keys] at hn
          exact (List.mem_append.1 hn).resolve_right (fun hnn => hm ⟨n, hnn, rfl⟩)
        exact (k.old n hp).symm
    refine ⟨v, I', ρ2, rfl, { old := ?_, res := ?_, own := ?_, i0 := k.i0, i1 := k.i1, ilt := k.ilt, keep := ?_, sep := ?_, inj := ?_ }⟩
    · intro m hm
      rw [hk] at hm
      obtain ⟨n, hn, rfl⟩ := List.mem_map.1 hm
      rw [hρ2 n (hpp n hn)]
      exact k.old n hn
    · rw [renS_rep]
      exact k.res.mono (fun _ h => h) (fun _ _ _ => rfl) (fun n hn => hρ2 n (h.rnames n hn))
    · intro m c hm
      obtain ⟨n, b, hn, rfl, rfl⟩ := mem_renP.1 hm
      rw [renB_ok, hρ2 n (List.mem_map.2 ⟨_, hn, rfl⟩)]
      exact (k.own n b hn).mono (fun _ h => h) (fun _ _ _ => rfl) (fun m hm => hρ2 m (h.pnames n b m hn hm)) (fun _ _ => rfl)
    · refine ⟨k.keep.os, k.keep.tape, k.keep.output, k.keep.size, fun i hi hs => k.keep.block i hi ?_, k.keep.drawn⟩
      rintro ⟨n, b, hn, hl, e⟩
      exact hs ⟨π n, renB π b, mem_renP.2 ⟨n, b, hn, rfl, rfl⟩, by cases b <;> exact hl, e⟩
    · intro m c kk hm hn hl
      obtain ⟨n, b, hnb, rfl, rfl⟩ := mem_renP.1 hm
      have hkn : n ∈ keysP post := List.mem_map.2 ⟨_, hnb, rfl⟩
      rw [hnew] at hn
      obtain ⟨n', hn', e⟩ := List.mem_map.1 hn
      have := hinj n' n (hnp n' hn') hkn e
      subst this
      rw [hρ2 n' hkn] at hl
      exact k.sep n' b kk hnb hn' (renB_foot.1 hl)
    · intro m1 m2 c1 c2 kk hm1 hm2 hn1 hn2 hl1 hl2
      obtain ⟨n1, b1, hnb1, rfl, rfl⟩ := mem_renP.1 hm1
      obtain ⟨n2, b2, hnb2, rfl, rfl⟩ := mem_renP.1 hm2
      have hk1 : n1 ∈ keysP post := List.mem_map.2 ⟨_, hnb1, rfl⟩
      have hk2 : n2 ∈ keysP post := List.mem_map.2 ⟨_, hnb2, rfl⟩
      rw [hnew] at hn1 hn2
      obtain ⟨n1', hn1', e1⟩ := List.mem_map.1 hn1
      obtain ⟨n2', hn2', e2⟩ := List.mem_map.1 hn2
      have := hinj n1' n1 (hnp n1' hn1') hk1 e1
      subst this
      have := hinj n2' n2 (hnp n2' hn2') hk2 e2
      subst this
      rw [hρ2 n1' hk1] at hl1
      rw [hρ2 n2' hk2] at hl2
      rw [k.inj n1' n2' b1 b2 kk hnb1 hnb2 hn1' hn2' (renB_foot.1 hl1) (renB_foot.1 hl2)] }
theorem Spec.arg {f : FuncId} {args args' : List SV} {pre : List (Nat × Blk)} {res : SV} {post : List (Nat × Blk)} (h : Spec P G f args' pre res post) (hle : LeL args args') : Spec P G f args pre res post where
  keys := h.keys
  apart := h.apart
  rnames := h.rnames
  pnames := h.pnames
  kind := h.kind
  enter := h.enter
  calls := fun w I ρ vs ha => h.calls w I ρ vs (hle.le _ _ _ _ ha)
theorem Spec.at {f : FuncId} {args : List SV} {n : Nat} {b b' : Blk} {res : SV} (h : Spec P G f args [(n, b)] res [(n, b')]) (m : Nat) :
    Spec P G f (renL (fun _ => m) args) [(m, renB (fun _ => m) b)] (renS (fun _ => m) res) [(m, renB (fun _ => m) b')] :=
  h.ren (fun _ => m) (by intro n m hn hm _; simp [keysP] at hn hm; omega)
theorem Spec.new1 {f : FuncId} {args : List SV} {n : Nat} {b' : Blk} {res : SV} (h : Spec P G f args [] res [(n, b')]) (m : Nat) :
    Spec P G f (renL (fun _ => m) args) [] (renS (fun _ => m) res) [(m, renB (fun _ => m) b')] :=
  h.ren (fun _ => m) (by intro n m hn hm _; simp [keysP] at hn hm; omega)
end Go.Sx

namespace Go.Sx
open Go
variable {P : Program} {G : Nat → Option (Nat × (Nat → D))} {nt : Nat} {E : List Nat}
def One {α : Type} (f : (α → Prop) → Prop) : Prop := ∀ K, f K → ∃ x, K x ∧ ∀ K' : α → Prop, K' x → f K'
theorem One.ret {α : Type} (x : α) : One fun K : α → Prop => K x := fun _ h => ⟨x, h, fun _ h => h⟩
theorem One.bind {α β : Type} {f : (α → Prop) → Prop} {g : α → (β → Prop) → Prop} (hf : One f) (hg : ∀ x, One (g x)) : One fun K => f fun x => g x K := by
  intro K h
  obtain ⟨x, h1, h2⟩ := hf _ h
  obtain ⟨y, h3, h4⟩ := hg x _ h1
  exact ⟨y, h3, fun K' hk => h2 (fun x => g x K') (h4 K' hk)⟩
theorem One.map {α β : Type} {f : (α → Prop) → Prop} (hf : One f) (g : α → β) : One fun K => f fun x => K (g x) := hf.bind (fun x => One.ret (g x))
theorem One.stuck {α : Type} (s : String) : One fun _ : α → Prop => Stuck s := fun _ h => h.out.elim
theorem One.need {α : Type} {p : Prop} {f : (α → Prop) → Prop} (hf : One f) : One fun K => Need p (f K) := by
  intro K h
  obtain ⟨x, h1, h2⟩ := hf _ h.k
  exact ⟨x, h1, fun K' hk => ⟨h.h, h2 K' hk⟩⟩
theorem One.bc {α : Type} {b : Bool} {f g : (α → Prop) → Prop} (hf : One f) (hg : One g) : One fun K => bc b (f K) (g K) := by
  cases b
  · exact hg
  · exact hf
theorem one_delS {n : Nat} : ∀ {l : List (Nat × SV)}, One (delS l n)
  | [] => One.ret _
  | (i, v) :: l => by
    cases h : Nat.beq i n with
    | true => simpa only [delS, h] using one_delS (l := l)
    | false => simpa only [delS, h] using (one_delS (l := l)).map fun r => (i, v) :: r
theorem one_delO {n : Nat} : ∀ {l : List (Nat × Blk)}, One (delO l n)
  | [] => One.ret _
  | (i, v) :: l => by
    cases h : Nat.beq i n with
    | true => simpa only [delO, h] using one_delO (l := l)
    | false => simpa only [delO, h] using (one_delO (l := l)).map fun r => (i, v) :: r
theorem one_delsO : ∀ {ns : List Nat} {l : List (Nat × Blk)}, One (delsO l ns)
  | [], l => One.ret _
  | n :: ns, l => by simpa only [delsO] using (one_delO (l := l)).bind fun r => one_delsO (ns := ns)
theorem one_setsO : ∀ {bs : List (Nat × Blk)} {l : List (Nat × Blk)}, One (setsO l bs)
  | [], l => One.ret _
  | (n, b) :: bs, l => by simpa only [setsO] using (one_delO (l := l)).bind fun r => one_setsO (bs := bs)
theorem one_fresh : ∀ {ns nm : List Nat}, One (freshK ns nm)
  | [], nm => One.ret _
  | n :: ns, nm => by
    cases h : memN n nm with
    | true => simpa only [freshK, h] using One.stuck _
    | false => simpa only [freshK, h] using one_fresh (ns := ns)
theorem one_pubCells {n sz : Nat} {get : Nat → Nat → D} : ∀ {cs : List SV}, One (pubCells n sz get cs)
  | [] => One.ret _
  | c :: cs => by
    cases c with
    | osl m s off len =>
      cases h : Nat.beq m n with
      | true => simpa only [pubCells, h] using (one_pubCells (cs := cs)).map _
      | false => simpa only [pubCells, h] using (one_pubCells (cs := cs)).map _
    | _ => exact (one_pubCells (cs := cs)).map _
theorem one_pubSV {n sz : Nat} {get : Nat → Nat → D} {v : SV} : One (pubSV n sz get v) := by
  cases v with
  | osl m s off len =>
    show One fun K => pubSV n sz get (.osl m s off len) K
    simp only [pubSV]
    split
    · exact One.ret _
    · exact One.ret _
  | agg cs => exact (one_pubCells (cs := cs)).map _
  | tup cs => exact (one_pubCells (cs := cs)).map _
  | _ => exact One.ret _
theorem one_pubS {n sz : Nat} {get : Nat → Nat → D} : ∀ {l : List (Nat × SV)}, One (pubS n sz get l)
  | [] => One.ret _
  | (i, v) :: l => one_pubSV.bind fun v => (one_pubS (l := l)).map _
theorem one_pubO {n sz : Nat} {get : Nat → Nat → D} : ∀ {l : List (Nat × Blk)}, One (pubO n sz get l)
  | [] => One.ret _
  | (i, b) :: l => by
    cases b with
    | box cs =>
      cases h : Nat.beq i n with
      | true => simpa only [pubO, h] using one_pubO (l := l)
      | false => simpa only [pubO, h] using one_pubCells.bind fun cs => (one_pubO (l := l)).map fun r => (i, Blk.box cs) :: r
    | arr s cs =>
      cases h : Nat.beq i n with
      | true => simpa only [pubO, h] using one_pubO (l := l)
      | false => simpa only [pubO, h] using one_pubCells.bind fun cs => (one_pubO (l := l)).map fun r => (i, Blk.arr s cs) :: r
    | _ =>
      cases h : Nat.beq i n with
      | true => simpa only [pubO, h] using one_pubO (l := l)
      | false => simpa only [pubO, h] using (one_pubO (l := l)).map fun r => (i, _) :: r
theorem one_pubs {n0 : List Nat} : ∀ {ns : List Nat} {s : List (Nat × SV)} {o : List (Nat × Blk)}, One fun K : List (Nat × SV) × List (Nat × Blk) → Prop => pubs n0 ns s o fun a b => K (a, b)
  | [], s, o => One.ret (s, o)
  | n :: ns, s, o => by
    cases h0 : memN n n0 with
    | true => simpa only [pubs, h0] using One.stuck _
    | false =>
      cases h : lookO o n with
      | none => simpa only [pubs, h, h0] using one_pubs (ns := ns)
      | some b => cases b with
        | row E sz len get => simpa only [pubs, h, h0] using (one_pubS (l := s)).bind fun s => (one_pubO (l := o)).bind fun o => one_pubs (ns := ns)
        | frow fn E sz len get =>
          cases h1 : memN fn n0 with
          | true => simpa only [pubs, h, h0, h1] using One.stuck _
          | false =>
            cases h2 : lookO o fn with
            | none => simpa only [pubs, h, h0, h1, h2] using One.stuck _
            | some c => cases c with
              | fam nk rows => simpa only [pubs, h, h0, h1, h2] using One.need ((one_pubS (l := s)).bind fun s => (one_pubO (l := o)).bind fun o => one_delO.bind fun o => one_pubs (ns := ns))
              | _ => simpa only [pubs, h, h0, h1, h2] using One.stuck _
        | _ => simpa only [pubs, h, h0] using One.stuck _
theorem one_stay {α : Type} {del n0 : List Nat} {f : (α → Prop) → Prop} (hf : One f) : One fun K => stayK del n0 (f K) := by
  cases h : disjN del n0 with
  | true => simpa only [stayK, h] using hf
  | false => simpa only [stayK, h] using One.stuck _
theorem one_applyK {u : Upd} {σ : St} : One (applyK u σ) := by
  obtain ⟨dst, v, own, del, new, pub⟩ := u
  obtain ⟨s, o, nm, n0⟩ := σ
  cases dst with
  | none => exact (one_pubs (ns := pub) (s := s) (o := o)).bind (g := fun x (K : St → Prop) => stayK del n0 (delsO x.2 del fun o => setsO o own fun o => freshK new nm fun nm => K ⟨x.1, o, nm, n0⟩)) fun x =>
      one_stay <| one_delsO.bind fun o => one_setsO.bind fun o => one_fresh.bind fun nm => One.ret _
  | some d => exact (one_pubs (ns := pub) (s := s) (o := o)).bind (g := fun x (K : St → Prop) => stayK del n0 (delsO x.2 del fun o => setsO o own fun o => freshK new nm fun nm => delS x.1 d fun s => K ⟨(d, v) :: s, o, nm, n0⟩)) fun x =>
      one_stay <| one_delsO.bind fun o => one_setsO.bind fun o => one_fresh.bind fun nm => one_delS.bind fun s => One.ret _
theorem one_getPre : ∀ {ns : List Nat} {o : List (Nat × Blk)}, One (getPre ns o)
  | [], o => One.ret _
  | n :: ns, o => by
    cases h : lookO o n with
    | none => simpa only [getPre, h] using One.stuck _
    | some b => cases b with
      | box cs => simpa only [getPre, h] using (one_getPre (ns := ns) (o := o)).map fun r => (n, Blk.box cs) :: r
      | row E sz len g => simpa only [getPre, h] using (one_getPre (ns := ns) (o := o)).map fun r => (n, Blk.row E sz len g) :: r
      | gmap fn ka kk va sz has g => simpa only [getPre, h] using (one_getPre (ns := ns) (o := o)).map fun r => (n, Blk.gmap fn ka kk va sz has g) :: r
      | _ => simpa only [getPre, h] using One.stuck _
theorem one_callVC {f : FuncId} {args : List SV} {pre : List (Nat × Blk)} {bor : List Nat} : One fun K : SV × List (Nat × Blk) → Prop => CallVC P G f args pre bor fun a b => K (a, b) := by
  intro K h
  obtain ⟨res, post, h, hb, k⟩ := h
  exact ⟨(res, post), k, fun K' hk => ⟨res, post, h, hb, hk⟩⟩
theorem one_run : ∀ {m : M Upd} {σ : St}, One (m.run P G σ) := by
  intro m
  induction m with
  | ret u => intro σ; exact one_applyK
  | slot k f ih =>
    intro ⟨s, o, nm, n0⟩
    show One fun K => M.run P G (.slot k f) ⟨s, o, nm, n0⟩ K
    simp only [M.run]
    split
    · exact ih _
    · exact One.stuck _
  | own k f ih =>
    intro ⟨s, o, nm, n0⟩
    show One fun K => M.run P G (.own k f) ⟨s, o, nm, n0⟩ K
    simp only [M.run]
    split
    · exact ih _
    · exact One.stuck _
  | need p m ih => intro σ; exact (ih (σ := σ)).need
  | split b x y ih1 ih2 => intro σ; exact (ih1 (σ := σ)).bc (ih2 (σ := σ))
  | call dst f args names bor pub =>
    intro ⟨s, o, nm, n0⟩
    exact (one_pubs (ns := pub) (s := s) (o := o)).bind (g := fun x K => getPre names x.2 fun pre => CallVC P G f args pre bor fun res post => applyK ⟨dst, res, post, [], newP pre post, []⟩ ⟨x.1, x.2, nm, n0⟩ K) fun x =>
      one_getPre.bind fun pre => (one_callVC (P := P) (G := G) (f := f) (args := args) (pre := pre) (bor := bor)).bind (g := fun y K => applyK ⟨dst, y.1, y.2, [], newP pre y.2, []⟩ ⟨x.1, x.2, nm, n0⟩ K) fun y => one_applyK
  | fail why => intro σ; exact One.stuck _
theorem one_runR : ∀ {m : M Upd} {σ : St} {rs ro : List Nat}, One fun K : Upd × List Nat × List Nat → Prop => m.runR P G σ rs ro fun u a b => K (u, a, b) := by
  intro m
  induction m with
  | ret u =>
    intro σ rs ro
    obtain ⟨dst, v, own, del, new, pub⟩ := u
    cases pub with
    | nil => exact One.ret (_, _, _)
    | cons _ _ => exact One.stuck _
  | slot k f ih =>
    intro ⟨s, o, nm, n0⟩ rs ro
    simp only [M.runR]
    split
    · exact ih _
    · exact One.stuck _
  | own k f ih =>
    intro ⟨s, o, nm, n0⟩ rs ro
    simp only [M.runR]
    split
    · exact ih _
    · exact One.stuck _
  | need p m ih => intro σ rs ro; exact (ih (σ := σ) (rs := rs) (ro := ro)).need
  | split b x y ih1 ih2 => intro σ rs ro; exact (ih1 (σ := σ) (rs := rs) (ro := ro)).bc (ih2 (σ := σ) (rs := rs) (ro := ro))
  | call dst f args names bor pub =>
    intro ⟨s, o, nm, n0⟩ rs ro
    cases pub with
    | nil => exact one_getPre.bind (g := fun pre (K : Upd × List Nat × List Nat → Prop) => CallVC P G f args pre bor fun res post => K (⟨dst, res, post, [], newP pre post, []⟩, rs, names ++ ro)) fun pre =>
        (one_callVC (P := P) (G := G) (f := f) (args := args) (pre := pre) (bor := bor)).bind (g := fun y (K : Upd × List Nat × List Nat → Prop) => K (⟨dst, y.1, y.2, [], newP pre y.2, []⟩, rs, names ++ ro)) fun y => One.ret (_, _, _)
    | cons _ _ => exact One.stuck _
  | fail why => intro σ rs ro; exact One.stuck _
theorem one_skip {dst : Option Nat} {σ : St} : One (skipOp dst σ) := by
  obtain ⟨s, o, nm, n0⟩ := σ
  cases dst with
  | none => exact One.ret _
  | some d => exact one_delS.bind fun s => One.ret _
theorem one_lit {d : Nat} {b : Bool} {σ : St} : One (litK d b σ) := by
  obtain ⟨s, o, nm, n0⟩ := σ
  exact one_delS.bind fun s => One.ret _
theorem one_ops {ops : List Oper} : ∀ {rest : List Oper} {σ : St}, One (execOps P G E nt ops rest σ)
  | [], σ => One.ret σ
  | ⟨dst, op, _, _, _, none⟩ :: rest, σ => by
    show One fun K => execOps P G E nt ops (⟨dst, op, _, _, _, none⟩ :: rest) σ K
    simp only [execOps]
    split
    · exact one_run.bind fun σ => one_ops (rest := rest)
    · exact One.stuck _
  | ⟨dst, op, _, _, _, some (j, want)⟩ :: rest, σ => by
    show One fun K => execOps P G E nt ops (⟨dst, op, _, _, _, some (j, want)⟩ :: rest) σ K
    simp only [execOps]
    split
    · split
      · exact (one_lit.bind fun σ => (one_run.bind fun σ => one_ops (rest := rest)).bc (one_skip.bind fun σ => one_ops (rest := rest))).bc
          (one_lit.bind fun σ => (one_skip.bind fun σ => one_ops (rest := rest)).bc (one_run.bind fun σ => one_ops (rest := rest)))
      · exact one_skip.bind fun σ => one_ops (rest := rest)
      · exact One.stuck _
    · exact One.stuck _
theorem one_draw {ops : List Oper} : ∀ {rest : List Oper} {i : Nat} {σ : St} {acc : List Foot}, One fun K : List Foot × St → Prop => drawOps P G E nt ops i rest σ acc fun a b => K (a, b)
  | [], i, σ, acc => One.ret (acc, σ)
  | ⟨dst, op, _, _, _, none⟩ :: rest, i, σ, acc => by
    simp only [drawOps]
    split
    · exact (one_runR (P := P) (G := G) (m := opX P G E dst op) (rs := []) (ro := [])).bind (g := fun x K => applyK x.1 σ fun σ => drawOps P G E nt ops (i + 1) rest σ (⟨i, x.2.1, x.2.2, wsU x.1, keysU x.1⟩ :: acc) fun a b => K (a, b)) fun x => one_applyK.bind fun σ => one_draw (rest := rest)
    · exact One.stuck _
  | ⟨dst, op, _, _, _, some (j, want)⟩ :: rest, i, σ, acc => by
    simp only [drawOps]
    split
    · split
      · exact (one_lit.bind fun σ => ((one_runR (P := P) (G := G) (m := opX P G E dst op) (rs := _) (ro := [])).bind (g := fun x K => applyK x.1 σ fun σ => drawOps P G E nt ops (i + 1) rest σ (⟨i, x.2.1, x.2.2, wsU x.1, keysU x.1⟩ :: acc) fun a b => K (a, b)) fun x => one_applyK.bind fun σ => one_draw (rest := rest)).bc (one_skip.bind fun σ => one_draw (rest := rest))).bc
          (one_lit.bind fun σ => (one_skip.bind fun σ => one_draw (rest := rest)).bc ((one_runR (P := P) (G := G) (m := opX P G E dst op) (rs := _) (ro := [])).bind (g := fun x K => applyK x.1 σ fun σ => drawOps P G E nt ops (i + 1) rest σ (⟨i, x.2.1, x.2.2, wsU x.1, keysU x.1⟩ :: acc) fun a b => K (a, b)) fun x => one_applyK.bind fun σ => one_draw (rest := rest)))
      · exact one_skip.bind fun σ => one_draw (rest := rest)
      · exact One.stuck _
    · exact One.stuck _
theorem one_loop {step : St → (Ex → St → Prop) → Prop} (hs : ∀ σ, One fun K : Ex × St → Prop => step σ fun a b => K (a, b)) : ∀ {n : Nat} {σ : St}, One fun K : Ex × St → Prop => loopN step n σ fun a b => K (a, b)
  | 0, σ => fun _ h => h.elim
  | n + 1, σ => by
    intro K h
    obtain ⟨⟨e, σ'⟩, h1, h2⟩ := hs σ (fun x => match x.1 with
      | .normal => ∃ σ'', EntC x.2 σ'' ∧ loopN step n σ'' fun a b => K (a, b)
      | .exit i => K (.exit i, x.2)
      | .ret => K (.ret, x.2)) h
    cases e with
    | normal =>
      obtain ⟨σ'', h3, h4⟩ := h1
      obtain ⟨y, h5, h6⟩ := one_loop hs (n := n) (σ := σ'') K h4
      exact ⟨y, h5, fun K' hk => h2 (fun x => match x.1 with
        | .normal => ∃ σ'', EntC x.2 σ'' ∧ loopN step n σ'' fun a b => K' (a, b)
        | .exit i => K' (.exit i, x.2)
        | .ret => K' (.ret, x.2)) ⟨σ'', h3, h6 K' hk⟩⟩
    | exit i => exact ⟨(.exit i, σ'), h1, fun K' hk => h2 (fun x => match x.1 with
        | .normal => ∃ σ'', EntC x.2 σ'' ∧ loopN step n σ'' fun a b => K' (a, b)
        | .exit i => K' (.exit i, x.2)
        | .ret => K' (.ret, x.2)) hk⟩
    | ret => exact ⟨(.ret, σ'), h1, fun K' hk => h2 (fun x => match x.1 with
        | .normal => ∃ σ'', EntC x.2 σ'' ∧ loopN step n σ'' fun a b => K' (a, b)
        | .exit i => K' (.exit i, x.2)
        | .ret => K' (.ret, x.2)) hk⟩
theorem one_wk {x : Ex × St} : One fun K : Ex × St → Prop => wkK (fun a b => K (a, b)) x.1 x.2 := by
  obtain ⟨e, σ⟩ := x
  cases e with
  | normal =>
    intro K h
    obtain ⟨σ', he, hk⟩ := h
    exact ⟨(.normal, σ'), hk, fun K' hk => ⟨σ', he, hk⟩⟩
  | exit i => exact One.ret (Ex.exit i, σ)
  | ret => exact One.ret (Ex.ret, σ)
theorem one_exec : ∀ {c : Code} {σ : St}, One fun K : Ex × St → Prop => exec P G E nt c σ fun a b => K (a, b) := by
  intro c
  induction c with
  | skip => intro σ; exact One.ret (Ex.normal, σ)
  | region i ops b =>
    intro σ
    obtain ⟨ops⟩ := ops
    cases b with
    | false => exact one_ops.bind (g := fun σ (K : Ex × St → Prop) => K (.normal, σ)) fun σ => One.ret (Ex.normal, σ)
    | true =>
      intro K h
      obtain ⟨h1, h2⟩ := h
      obtain ⟨x, ⟨h3, h4⟩, h5⟩ := one_draw (P := P) (G := G) (E := E) (nt := nt) (ops := ops) (rest := ops) (i := 0) (σ := σ) (acc := []) (fun x => OrdVC ops x.1 (K (.normal, x.2))) h2
      exact ⟨(.normal, x.2), h4, fun K' hk => ⟨h1, h5 (fun x => OrdVC ops x.1 (K' (.normal, x.2))) ⟨h3, hk⟩⟩⟩
  | seq a b iha ihb =>
    intro σ
    refine (iha (σ := σ)).bind (g := fun x (K : Ex × St → Prop) => match x.1 with
      | .normal => exec P G E nt b x.2 fun a b => K (a, b)
      | .exit i => K (.exit i, x.2)
      | .ret => K (.ret, x.2)) fun x => ?_
    obtain ⟨e, σ⟩ := x
    cases e with
    | normal => exact ihb (σ := σ)
    | exit i => exact One.ret (Ex.exit i, σ)
    | ret => exact One.ret (Ex.ret, σ)
  | cond x a b iha ihb =>
    intro σ
    cases x with
    | tmp t =>
      simp only [exec]
      split
      · exact ((iha (σ := σ)).bind (g := fun x (K : Ex × St → Prop) => wkK (fun a b => K (a, b)) x.1 x.2) fun x => one_wk).bc
          ((ihb (σ := σ)).bind (g := fun x (K : Ex × St → Prop) => wkK (fun a b => K (a, b)) x.1 x.2) fun x => one_wk)
      · exact One.stuck _
    | _ => exact One.stuck _
  | block id c ih =>
    intro σ
    refine (ih (σ := σ)).bind (g := fun x (K : Ex × St → Prop) => match x.1 with
      | .exit i => match Nat.beq i id with
        | true => K (.normal, x.2)
        | false => K (.exit i, x.2)
      | .normal => K (.normal, x.2)
      | .ret => K (.ret, x.2)) fun x => ?_
    obtain ⟨e, σ⟩ := x
    cases e with
    | normal => exact One.ret (Ex.normal, σ)
    | exit i =>
      cases h : Nat.beq i id with
      | true => simpa only [h] using One.ret (Ex.normal, σ)
      | false => simpa only [h] using One.ret (Ex.exit i, σ)
    | ret => exact One.ret (Ex.ret, σ)
  | loop c ih =>
    intro σ K h
    obtain ⟨σ0, n, he, hk⟩ := h
    obtain ⟨y, h1, h2⟩ := one_loop (fun σ => ih (σ := σ)) (n := n) (σ := σ0) K hk
    exact ⟨y, h1, fun K' hk => ⟨σ0, n, he, h2 K' hk⟩⟩
  | exit id => intro σ; exact One.ret (Ex.exit id, σ)
  | ret => intro σ; exact One.ret (Ex.ret, σ)
  | scope c ih => intro σ; exact ih (σ := σ)
  | label l => intro σ; exact One.ret (Ex.normal, σ)
  | _ => intro σ; exact One.stuck _
theorem exec_mono {c : Code} {σ : St} {K K' : Ex → St → Prop} (h : ∀ e σ, K e σ → K' e σ) (hk : exec P G E nt c σ K) : exec P G E nt c σ K' := by
  obtain ⟨⟨e, σ'⟩, h1, h2⟩ := one_exec (P := P) (G := G) (E := E) (nt := nt) (c := c) (σ := σ) (fun x => K x.1 x.2) hk
  exact h2 (fun x => K' x.1 x.2) (h e σ' h1)
theorem one_ev1 : ∀ {m : M Upd} {σ : St}, One fun K : SV × List (Nat × Blk) → Prop => m.ev1 σ fun a b => K (a, b) := by
  intro m
  induction m with
  | ret u =>
    intro ⟨s, o, nm, n0⟩
    obtain ⟨dst, v, own, del, new, pub⟩ := u
    exact one_pubs.bind fun x => One.ret (v, x.2)
  | slot k f ih =>
    intro ⟨s, o, nm, n0⟩
    simp only [M.ev1]
    split
    · exact ih _
    · exact One.stuck _
  | own k f ih =>
    intro ⟨s, o, nm, n0⟩
    simp only [M.ev1]
    split
    · exact ih _
    · exact One.stuck _
  | _ => intro σ; exact One.stuck _
def RetQ (P : Program) (results : List ResultVar) (n0 : List Nat) (own : Bool) {X : Type} (Q : X → Prop) (res : X → SV) (post : X → List (Nat × Blk)) : St → Prop
  | ⟨s, o, nm, m0⟩ => match own with
    | false => (retM P results n0).ev1 ⟨s, o, nm, m0⟩ fun v o => ∃ x, Q x ∧ Fin v o (res x) (post x)
    | true => (retN P results).ev1 ⟨s, o, nm, m0⟩ fun v o => ∃ x, Q x ∧ FinN m0 (res x) (post x) nm v o
def RetKQ (P : Program) (results : List ResultVar) (n0 : List Nat) (own : Bool) {X : Type} (Q : X → Prop) (res : X → SV) (post : X → List (Nat × Blk)) : Ex → St → Prop
  | .normal, σ => RetQ P results n0 own Q res post σ
  | .ret, σ => RetQ P results n0 own Q res post σ
  | .exit _, _ => Stuck "exit"
theorem spec_someX {X : Type} (Q : X → Prop) (res : X → SV) (post : X → List (Nat × Blk)) {f : FuncId} {fn : Func} {args : List SV} {pre : List (Nat × Blk)} (own : Bool) (hE : EOk P E) (hf : P.funcs[f]? = some fn) (hb : fn.body = some (bodyOf fn))
    (henter : ∀ (vs : Array Value) (w : World), (callFunc f vs).run P w = .ok (.enter f vs) w) (hn : Nat.ble args.length fn.ntmps = true) (hstat : ∀ x, (statB args pre (res x) (post x) && notTup1 (res x)) = true)
    (hown : ∀ x, plainP (post x) (keysP pre) = !own)
    (σ0 : St) (he : EntC ⟨numFrom 0 args, pre, keysP pre, keysP pre⟩ σ0) (h : exec P G E fn.ntmps (bodyOf fn) σ0 (RetKQ P fn.results.toList (keysP pre) own Q res post)) : ∃ x, Q x ∧ Spec P G f args pre (res x) (post x) := by
  obtain ⟨⟨e, σ'⟩, h1, h2⟩ := one_exec (P := P) (G := G) (E := E) (nt := fn.ntmps) (c := bodyOf fn) (fun x => RetKQ P fn.results.toList (keysP pre) own Q res post x.1 x.2) h
  have fin : RetQ P fn.results.toList (keysP pre) own Q res post σ' → ∃ x, Q x ∧ RetE P fn.results.toList (keysP pre) (res x) (post x) σ' := by
    intro h
    obtain ⟨s, o, nm, m0⟩ := σ'
    cases own with
    | false =>
      obtain ⟨⟨v, o'⟩, ⟨x, hq, hx⟩, h4⟩ := one_ev1 (fun y => ∃ x, Q x ∧ Fin y.1 y.2 (res x) (post x)) h
      refine ⟨x, hq, ?_⟩
      simp only [RetE, hown x, Bool.not_false]
      exact h4 (fun y => Fin y.1 y.2 (res x) (post x)) hx
    | true =>
      obtain ⟨⟨v, o'⟩, ⟨x, hq, hx⟩, h4⟩ := one_ev1 (fun y => ∃ x, Q x ∧ FinN m0 (res x) (post x) nm y.1 y.2) h
      refine ⟨x, hq, ?_⟩
      simp only [RetE, hown x, Bool.not_true]
      exact h4 (fun y => FinN m0 (res x) (post x) nm y.1 y.2) hx
  cases e with
  | normal =>
    obtain ⟨x, hq, hx⟩ := fin h1
    exact ⟨x, hq, spec_introX hE hf hb henter hn (hstat x) _ he (h2 (fun y => RetK P fn.results.toList (keysP pre) (res x) (post x) y.1 y.2) hx)⟩
  | ret =>
    obtain ⟨x, hq, hx⟩ := fin h1
    exact ⟨x, hq, spec_introX hE hf hb henter hn (hstat x) _ he (h2 (fun y => RetK P fn.results.toList (keysP pre) (res x) (post x) y.1 y.2) hx)⟩
  | exit i => exact h1.out.elim
theorem spec_some {X : Type} (Q : X → Prop) (res : X → SV) (post : X → List (Nat × Blk)) {f : FuncId} {fn : Func} {args : List SV} {pre : List (Nat × Blk)} (own : Bool) (hE : EOk P E) (hf : P.funcs[f]? = some fn) (hb : fn.body = some (bodyOf fn))
    (henter : ∀ (vs : Array Value) (w : World), (callFunc f vs).run P w = .ok (.enter f vs) w) (hn : Nat.ble args.length fn.ntmps = true) (hstat : ∀ x, (statB args pre (res x) (post x) && notTup1 (res x)) = true)
    (hown : ∀ x, plainP (post x) (keysP pre) = !own)
    (h : exec P G E fn.ntmps (bodyOf fn) ⟨numFrom 0 args, pre, keysP pre, keysP pre⟩ (RetKQ P fn.results.toList (keysP pre) own Q res post)) : ∃ x, Q x ∧ Spec P G f args pre (res x) (post x) :=
  spec_someX Q res post own hE hf hb henter hn hstat hown _ (EntC.refl _) h
theorem spec_someF {X : Type} (Q : X → Prop) (res : X → SV) (post : X → List (Nat × Blk)) {f : FuncId} {fn : Func} {args : List SV} {pre : List (Nat × Blk)} (own : Bool) (hE : EOk P E) (hf : P.funcs[f]? = some fn) (hb : fn.body = some (bodyOf fn))
    (henter : ∀ (vs : Array Value) (w : World), (callFunc f vs).run P w = .ok (.enter f vs) w) (hn : Nat.ble args.length fn.ntmps = true) (hstat : ∀ x, (statB args pre (res x) (post x) && notTup1 (res x)) = true)
    (hown : ∀ x, plainP (post x) (keysP pre) = !own)
    (hfam : memN famN (keysP pre) = false) (h : exec P G E fn.ntmps (bodyOf fn) ⟨numFrom 0 args, (famN, .fam 0 fun _ => none) :: pre, famN :: keysP pre, keysP pre⟩ (RetKQ P fn.results.toList (keysP pre) own Q res post)) : ∃ x, Q x ∧ Spec P G f args pre (res x) (post x) :=
  spec_someX Q res post own hE hf hb henter hn hstat hown _ (entC_fam hfam) h
end Go.Sx

namespace Go.Sx
open Go
variable {P : Program} {G : Nat → Option (Nat × (Nat → D))} {nt : Nat} {E : List Nat}
theorem lpos {α : Type} {l : List α} (h : ¬ l = []) : 0 < l.length := List.length_pos_iff.2 h
theorem wrap_of {n : Int} (h1 : -9223372036854775808 ≤ n) (h2 : n < 9223372036854775808) : IntKind.i64.wrap n = n := by
  simp [IntKind.wrap, IntKind.bits, IntKind.signed]
  split <;> omega
theorem wrap_succ {i n : Nat} (h : i < n) (hn : n ≤ 9223372036854775807) : IntKind.i64.wrap ((i : Int) + 1) = ((i + 1 : Nat) : Int) := by
  rw [wrap_of (by omega) (by omega)]; rfl
def filtS (keep : List Nat) (tail : List (Nat × SV)) : List (Nat × SV) → (List (Nat × SV) → Prop) → Prop
  | [], k => k tail
  | (i, v) :: l, k => match memN i keep with
    | true => filtS keep tail l fun r => k ((i, v) :: r)
    | false => filtS keep tail l k
def filtO (keep : List Nat) (tail : List (Nat × Blk)) : List (Nat × Blk) → (List (Nat × Blk) → Prop) → Prop
  | [], k => k tail
  | (i, v) :: l, k => match memN i keep with
    | true => filtO keep tail l fun r => k ((i, v) :: r)
    | false => filtO keep tail l k
def keysK (tail : List Nat) : List (Nat × Blk) → (List Nat → Prop) → Prop
  | [], k => k tail
  | (i, _) :: l, k => keysK tail l fun r => k (i :: r)
def invK (keep keepO : List Nat) (slots : List (Nat × SV)) (own : List (Nat × Blk)) : St → (St → Prop) → Prop
  | ⟨s, o, _, n0⟩, k => filtS keep slots s fun s => filtO keepO own o fun o => keysK n0 o fun nm => k ⟨s, o, nm, n0⟩
theorem filtS_eq {keep : List Nat} {tail : List (Nat × SV)} : ∀ {l : List (Nat × SV)}, ∃ r, ∀ k, filtS keep tail l k ↔ k r
  | [] => ⟨tail, fun _ => Iff.rfl⟩
  | (i, v) :: l => by
    obtain ⟨r, h⟩ := filtS_eq (keep := keep) (tail := tail) (l := l)
    cases hm : memN i keep with
    | true => exact ⟨(i, v) :: r, fun k => by simp only [filtS, hm, h]⟩
    | false => exact ⟨r, fun k => by simp only [filtS, hm, h]⟩
theorem filtO_eq {keep : List Nat} {tail : List (Nat × Blk)} : ∀ {l : List (Nat × Blk)}, ∃ r, ∀ k, filtO keep tail l k ↔ k r
  | [] => ⟨tail, fun _ => Iff.rfl⟩
  | (i, v) :: l => by
    obtain ⟨r, h⟩ := filtO_eq (keep := keep) (tail := tail) (l := l)
    cases hm : memN i keep with
    | true => exact ⟨(i, v) :: r, fun k => by simp only [filtO, hm, h]⟩
    | false => exact ⟨r, fun k => by simp only [filtO, hm, h]⟩
theorem keysK_eq {tail : List Nat} : ∀ {l : List (Nat × Blk)}, ∃ r, ∀ k, keysK tail l k ↔ k r
  | [] => ⟨tail, fun _ => Iff.rfl⟩
  | (i, v) :: l => by
    obtain ⟨r, h⟩ := keysK_eq (tail := tail) (l := l)
    exact ⟨i :: r, fun k => by simp only [keysK, h]⟩
theorem invK_eq {keep keepO : List Nat} {slots : List (Nat × SV)} {own : List (Nat × Blk)} {σ : St} : ∃ r, ∀ k, invK keep keepO slots own σ k ↔ k r := by
  obtain ⟨s, o, nm, n0⟩ := σ
  obtain ⟨s', h1⟩ := filtS_eq (keep := keep) (tail := slots) (l := s)
  obtain ⟨o', h2⟩ := filtO_eq (keep := keepO) (tail := own) (l := o)
  obtain ⟨nm', h3⟩ := keysK_eq (tail := n0) (l := o')
  exact ⟨⟨s', o', nm', n0⟩, fun k => by simp only [invK, h1, h2, h3]⟩
inductive NextVC {X : Type} (pre : X → Prop) (μ : X → Nat) (m : Nat) (ent : X → Prop) : Prop where
  | mk (x : X) (h : ent x) (hp : pre x) (hm : μ x < m)
theorem entC_of {σ σ' : St} (h : entK σ σ') : EntC σ σ' := ⟨fun hc => ⟨_, entK_sound h hc⟩⟩
theorem loop_auto {X : Type} {c : Code} {σ : St} {K : Ex → St → Prop} (keep keepO : List Nat) (slots : X → List (Nat × SV)) (own : X → List (Nat × Blk)) (pre : X → Prop) (μ : X → Nat) (x0 : X)
    (hent : invK keep keepO (slots x0) (own x0) σ fun σ' => entK σ σ')
    (step : ∀ x, pre x → invK keep keepO (slots x) (own x) σ fun σ1 => exec P G E nt c σ1 fun e σ' => match e with
      | .normal => NextVC pre μ (μ x) fun x' => invK keep keepO (slots x') (own x') σ fun σ2 => entK σ' σ2
      | .exit i => K (.exit i) σ'
      | .ret => K .ret σ')
    (h0 : pre x0) : LoopVC (fun σ K => exec P G E nt c σ K) σ K := by
  have hI : ∀ x, ∃ r, ∀ k, invK keep keepO (slots x) (own x) σ k ↔ k r := fun x => invK_eq
  have key : ∀ n x, μ x < n → pre x → loopN (fun σ K => exec P G E nt c σ K) n (Classical.choose (hI x)) K := by
    intro n
    induction n with
    | zero => intro x h; exact absurd h (Nat.not_lt_zero _)
    | succ n ih =>
      intro x hn hx
      refine exec_mono ?_ ((Classical.choose_spec (hI x) _).1 (step x hx))
      intro e σ' h
      cases e with
      | normal =>
        obtain ⟨x', h1, h2, h3⟩ := h
        exact ⟨_, entC_of ((Classical.choose_spec (hI x') _).1 h1), ih x' (by omega) h2⟩
      | exit i => exact h
      | ret => exact h
  exact ⟨_, μ x0 + 1, entC_of ((Classical.choose_spec (hI x0) _).1 hent), key _ x0 (Nat.lt_succ_self _) h0⟩
def AllLt (p : Nat → Prop) : Nat → Prop
  | 0 => True
  | n + 1 => AllLt p n ∧ p n
theorem AllLt.out {p : Nat → Prop} : ∀ {n : Nat}, AllLt p n → ∀ i, i < n → p i
  | 0, _, i, h => absurd h (by omega)
  | n + 1, h, i, hi => by
    by_cases e : i = n
    · subst e; exact h.2
    · exact AllLt.out h.1 i (by omega)
theorem RowLe.all {len sz : Nat} {get get' : Nat → Nat → D} (h : AllLt (fun i => AllLt (fun j => get i j = get' i j) sz) len) : RowLe len sz get get' :=
  .of_eq fun i j hi hj => (h.out i hi).out j hj
end Go.Sx
