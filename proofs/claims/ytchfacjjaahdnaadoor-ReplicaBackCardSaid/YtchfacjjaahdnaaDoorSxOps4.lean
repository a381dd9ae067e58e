/- Part of a symbolic executor over the model, proved sound, with plain laws: SxOps4. Written for these claims. -/
import Derived.Test.YtchfacjjaahdnaaDoorSxOps3
namespace Go.Sx
open Go
set_option linter.unusedVariables false
set_option linter.unusedSimpArgs false

variable {P : Program} {G : Nat → Option (Nat × (Nat → D))} {nt : Nat} {C : Ctx} {I : Nat → Prop} {ρ : Nat → Loc} {F : Fs} {a : Act} {w : World} {E : List Nat} {T : Nat}

theorem fold_splice (off : Nat) (new : List Value) : ∀ (k : Nat) (cs : List Value), off + k + new.length ≤ cs.length →
    (new.zipIdx k).foldl (fun (cs : Array Value) (x : Value × Nat) => cs.setIfInBounds (off + x.2) x.1) ⟨cs⟩ = ⟨cs.take (off + k) ++ new ++ cs.drop (off + k + new.length)⟩ := by
  induction new with
  | nil => intro k cs _; simp
  | cons x new ih =>
    intro k cs h
    simp only [List.length_cons] at h
    simp only [List.zipIdx_cons, List.foldl_cons]
    have e : (Array.mk cs).setIfInBounds (off + k) x = ⟨cs.set (off + k) x⟩ := by simp
    rw [e, ih (k + 1) _ (by simp; omega)]
    congr 1
    have := list_seg_step cs (off + k) x new (by omega)
    simp only [Nat.add_assoc, Nat.add_comm 1, List.length_cons] at this ⊢
    exact this

theorem fill_splice {place : Nat → Option (Nat × Nat)} {i off : Nat} {v : Value} {new cs : List Value} {rest : List (Nat × Value)} (hv : v.cells = ⟨new⟩) (hp : place i = some (off, new.length)) (hfit : off + new.length ≤ cs.length) :
    Instr.fill place ⟨cs⟩ ((i, v) :: rest) = Instr.fill place ⟨cs.take off ++ new ++ cs.drop (off + new.length)⟩ rest := by
  have h := fold_splice off new 0 cs (by simpa using hfit)
  simp only [Nat.add_zero] at h
  have hz : (Array.mk new).zipIdx = ⟨new.zipIdx⟩ := by simp
  simp only [Instr.fill, hp, hv]
  have hsz : (Array.mk new).size = new.length := rfl
  have hsz2 : (Array.mk cs).size = cs.length := rfl
  simp only [hsz, hsz2, ne_eq, not_true_eq_false, decide_false, Bool.false_or, decide_eq_true_eq]
  rw [if_neg (by omega)]
  congr 1
  rw [← h, hz]
  rw [List.foldl_toArray']
  rfl


theorem infos_mapM : ∀ {fs : List Field}, infos P fs = true → fs.mapM (fun f => (P.info? f.type).map fun i => (f.offset, i.size)) = some (fs.map fun f => (f.offset, P.cellsOf f.type))
  | [], _ => rfl
  | ⟨name, t, off, e1, e2, e3, e4⟩ :: fs, h => by
    simp only [infos] at h
    split at h
    · rename_i hs
      obtain ⟨i, hi, hsz⟩ := sizeIs_info hs
      simp [List.mapM_cons, infos_mapM h, hi, hsz]
    · cases h

/-- parts of a literal: their cells, named in the state -/
inductive PartsR (I : Nat → Prop) (ρ : Nat → Loc) (F : Fs) (w : World) : List (Nat × List SV) → List (Nat × Value) → Prop where
  | nil : PartsR I ρ F w [] []
  | cons {i : Nat} {cs : List SV} {v : Value} {us : List Value} {ps : List (Nat × List SV)} {vs : List (Nat × Value)} (h : v.cells = ⟨us⟩) (hc : Cells I ρ w cs us) (hn : ∀ n, inL n cs → F.nm n)
      (r : PartsR I ρ F w ps vs) : PartsR I ρ F w ((i, cs) :: ps) ((i, v) :: vs)

theorem To.parts_inv (hc : Conc G nt C I ρ F a w) {u : Upd} : ∀ {xs : List (Nat × Operand)} {k : List (Nat × List SV) → M Upd}, To P G F (mapK partEv xs k) u →
    ∃ ps, To P G F (k ps) u ∧ PartsR I ρ F w ps (xs.map fun p => (p.1, a.eval p.2))
  | [], k, h => ⟨[], h, .nil⟩
  | (i, x) :: xs, k, h => by
    simp only [mapK, partEv] at h
    obtain ⟨sv, h, hv⟩ := To.ev_inv hc h
    obtain ⟨cs, us, h, h1, h2, h3⟩ := To.cellsK_inv h hv.rep
    obtain ⟨ps, h, h4⟩ := To.parts_inv hc (xs := xs) h
    exact ⟨(i, cs) :: ps, h, .cons h2 h1 (fun n hn => hv.nm n (h3 n hn)) h4⟩

theorem Cells.splice {cs new : List SV} {us vs : List Value} {off : Nat} (h : Cells I ρ w cs us) (h' : Cells I ρ w new vs) :
    Cells I ρ w (cs.take off ++ new ++ cs.drop (off + new.length)) (us.take off ++ vs ++ us.drop (off + vs.length)) := by
  have hl := h'.1.length
  constructor
  · rw [← hl]
    exact ((h.1.take off).append h'.1).append (h.1.drop _)
  · intro z hz
    simp only [List.mem_append] at hz
    rcases hz with (hz | hz) | hz
    · exact h.2 z (List.mem_of_mem_take hz)
    · exact h'.2 z hz
    · exact h.2 z (List.mem_of_mem_drop hz)

theorem To.buildK_inv {fs : List Field} {u : Upd} {ps : List (Nat × List SV)} {vs : List (Nat × Value)} (hp : PartsR I ρ F w ps vs) :
    ∀ {cs : List SV} {us : List Value} {k : List SV → M Upd}, To P G F (buildK P fs ps cs k) u → Cells I ρ w cs us → (∀ n, inL n cs → F.nm n) →
    ∃ ds ws, To P G F (k ds) u ∧ Cells I ρ w ds ws ∧ (∀ n, inL n ds → F.nm n) ∧
      Instr.fill ((fs.map fun f => (f.offset, P.cellsOf f.type)).toArray[·]?) ⟨us⟩ vs = some ⟨ws⟩ := by
  induction hp with
  | nil => intro cs us k h hc hn; exact ⟨cs, us, h, hc, hn, by simp [Instr.fill]⟩
  | cons h1 h2 h3 _ ih =>
    intro cs us k h hc hn
    simp only [buildK] at h
    obtain ⟨f, hf, h⟩ := To.nthF_inv h
    split at h
    · rename_i hs
      obtain ⟨ti, hti, hsz⟩ := sizeIs_info hs
      obtain ⟨hfit, h⟩ := To.spliceK_inv h
      have hl := h2.1.length
      have hl' := hc.1.length
      obtain ⟨ds, ws, h, h4, h5, h6⟩ := ih h (hc.splice h2) (fun n hn' => (inL_splice hn').elim (hn n) (h3 n))
      refine ⟨ds, ws, h, h4, h5, ?_⟩
      rw [fill_splice h1 (off := f.offset) ?_ (by omega)]
      · exact h6
      · have : P.cellsOf f.type = ti.size := by simp [Program.cellsOf, hti]
        simp [List.getElem?_map, hf, this]
        omega
    · exact h.fail_inv.elim

theorem To.buildAK_inv {sz : Nat} {u : Upd} {ps : List (Nat × List SV)} {vs : List (Nat × Value)} (hp : PartsR I ρ F w ps vs) :
    ∀ {cs : List SV} {us : List Value} {k : List SV → M Upd}, To P G F (buildAK sz ps cs k) u → Cells I ρ w cs us → (∀ n, inL n cs → F.nm n) →
    ∃ ds ws, To P G F (k ds) u ∧ Cells I ρ w ds ws ∧ (∀ n, inL n ds → F.nm n) ∧
      Instr.fill (fun i => some (i * sz, sz)) ⟨us⟩ vs = some ⟨ws⟩ := by
  induction hp with
  | nil => intro cs us k h hc hn; exact ⟨cs, us, h, hc, hn, by simp [Instr.fill]⟩
  | @cons i _ _ _ _ _ h1 h2 h3 _ ih =>
    intro cs us k h hc hn
    simp only [buildAK] at h
    split at h
    · rename_i hs
      have hs := Nat.eq_of_beq_eq_true hs
      obtain ⟨hfit, h⟩ := To.spliceK_inv h
      have hl := h2.1.length
      have hl' := hc.1.length
      obtain ⟨ds, ws, h, h4, h5, h6⟩ := ih h (hc.splice h2) (fun n hn' => (inL_splice hn').elim (hn n) (h3 n))
      refine ⟨ds, ws, h, h4, h5, ?_⟩
      rw [fill_splice h1 (off := i * sz) ?_ (by omega)]
      · exact h6
      · simp; omega
    · exact h.fail_inv.elim

theorem op_build (hc : Conc G nt C I ρ F a w) {o : Oper} {T : Nat} {parts : Array (Nat × Operand)} (ho : o.op = .build T parts) (hd : dstOk nt o.dst) {u : Upd} (t : To P G F (opM P G E o.dst o.op) u)
    {F1 : Fs} (hp : Pubs F u.pub F1) : OpOk P G nt C I ρ a w o (finF F1 u) := by
  rw [ho] at t
  simp only [opM] at t
  split at t
  · rename_i fs hT
    split at t
    · rename_i hinf
      obtain ⟨i, z, cs, us, hi, hz, hzc, _, t, h1, h2⟩ := To.zeroK_inv (I := I) (ρ := ρ) (w := w) t
      obtain ⟨ps, t, h3⟩ := To.parts_inv hc t
      obtain ⟨ds, ws, t, h4, h5, h6⟩ := To.buildK_inv h3 t h1 (fun n hn => (h2 n hn).elim)
      have := upd_inv t; subst this
      cases hp
      have hb : P.built T (parts.map fun (i, x) => (i, a.eval x)).toList = some ⟨ws⟩ := by
        unfold Program.built
        simp only [hi, hT, hz]
        have := infos_mapM hinf
        simp only [this, hzc]
        simpa using h6
      refine opOk_val hc (v := .agg ⟨ws⟩) ⟨?_, fun m hm => h5 m (by simpa [inS] using hm)⟩ hd ?_
      · simp only [RepS]; exact ⟨ws, rfl, h4.1, h4.2⟩
      · simp only [execOp, ho, Sem.run_bind, run_build w T _ _ hb, Result.andThen_ok, Sem.run_pure]
    · exact t.fail_inv.elim
  · rename_i m e hT
    split at t
    · rename_i hsz
      obtain ⟨ie, hie, hse⟩ := sizeIs_info hsz
      obtain ⟨i, z, cs, us, hi, hz, hzc, _, t, h1, h2⟩ := To.zeroK_inv (I := I) (ρ := ρ) (w := w) t
      obtain ⟨ps, t, h3⟩ := To.parts_inv hc t
      obtain ⟨ds, ws, t, h4, h5, h6⟩ := To.buildAK_inv h3 t h1 (fun n hn => (h2 n hn).elim)
      have := upd_inv t; subst this
      cases hp
      have hb : P.built T (parts.map fun (i, x) => (i, a.eval x)).toList = some ⟨ws⟩ := by
        unfold Program.built
        simp only [hi, hT, hz, hie, hzc, ← hse]
        simpa using h6
      refine opOk_val hc (v := .agg ⟨ws⟩) ⟨?_, fun m hm => h5 m (by simpa [inS] using hm)⟩ hd ?_
      · simp only [RepS]; exact ⟨ws, rfl, h4.1, h4.2⟩
      · simp only [execOp, ho, Sem.run_bind, run_build w T _ _ hb, Result.andThen_ok, Sem.run_pure]
    · exact t.fail_inv.elim
  · exact t.fail_inv.elim

/-! ### own slices lent or published -/
def RowNames (F : Fs) (ns : List Nat) : Prop := ∀ n ∈ ns, ∃ E sz len get, F.o n = some (.row E sz len get)

/-- what is known of lent slices: read in a ghost in which the rows' blocks are immutable -/
def Lent (F : Fs) (ρ : Nat → Loc) (w : World) (cs ds : List SV) (ns : List Nat) : Prop :=
  RowNames F ns ∧ (∀ m, inL m ds → inL m cs) ∧
  ∀ (I' : Nat → Prop) (us : List Value), (∀ n ∈ ns, 0 < (ρ n).cap → I' (ρ n).b) → (∀ n b, F.o n = some b → BlkOk I' ρ w (ρ n) b) → RepL I' ρ w cs us → RepL I' ρ w ds us

theorem Lent.keep {c : SV} {cs ds : List SV} {ns : List Nat} (h : Lent F ρ w cs ds ns) : Lent F ρ w (c :: cs) (c :: ds) ns := by
  obtain ⟨h1, h2, h3⟩ := h
  refine ⟨h1, fun m hm => ?_, fun I' us hI hB hr => ?_⟩
  · simp only [inL] at hm ⊢
    exact or_map hm id (h2 m)
  · simp only [RepL] at hr ⊢
    obtain ⟨v, r, rfl, hv, hr⟩ := hr
    exact ⟨v, r, rfl, hv, h3 I' r hI hB hr⟩

theorem Lent.osl {n s off len Et sz l : Nat} {get : Nat → Nat → D} {cs ds : List SV} {ns : List Nat} (hb : F.o n = some (.row Et sz l get)) (h : Lent F ρ w cs ds ns) :
    Lent F ρ w (.osl n s off len :: cs) (.d (.list len sz fun i j => get (off + i) j) :: ds) (n :: ns) := by
  obtain ⟨h1, h2, h3⟩ := h
  refine ⟨?_, fun m hm => ?_, fun I' us hI hB hr => ?_⟩
  · intro m hm
    simp only [List.mem_cons] at hm
    rcases hm with rfl | hm
    · exact ⟨_, _, _, _, hb⟩
    · exact h1 m hm
  · simp only [inL] at hm ⊢
    rcases hm with hm | hm
    · simp [inS] at hm
    · exact .inr (h2 m hm)
  · simp only [RepL] at hr ⊢
    obtain ⟨v, r, rfl, hv, hr⟩ := hr
    exact ⟨v, r, rfl, by simp only [RepS]; exact repS_list (hI n (by simp)) (hB n _ hb) hv, h3 I' r (fun m hm => hI m (by simp [hm])) hB hr⟩

theorem Lent.nil : Lent F ρ w [] [] [] := ⟨by simp [RowNames], fun _ h => h, fun _ _ _ _ h => h⟩

theorem To.lendCells_inv {u : Upd} : ∀ {cs : List SV} {k : List SV → List Nat → M Upd}, To P G F (lendCells cs k) u → ∃ ds ns, To P G F (k ds ns) u ∧ Lent F ρ w cs ds ns
  | [], k, h => ⟨[], [], h, .nil⟩
  | c :: cs, k, h => by
    cases c with
    | osl n s off len =>
      simp only [lendCells] at h
      obtain ⟨b, hb, h⟩ := h.own_inv
      split at h
      · obtain ⟨ds, ns, h, h1⟩ := To.lendCells_inv h
        exact ⟨_, _, h, .osl hb h1⟩
      · exact h.fail_inv.elim
    | _ =>
      simp only [lendCells] at h
      obtain ⟨ds, ns, h, h1⟩ := To.lendCells_inv h
      exact ⟨_, ns, h, h1.keep⟩

theorem To.lendArgs_inv {u : Upd} : ∀ {cs : List SV} {k : List SV → List Nat → M Upd}, To P G F (lendArgs cs k) u → ∃ ds ns, To P G F (k ds ns) u ∧ Lent F ρ w cs ds ns
  | [], k, h => ⟨[], [], h, .nil⟩
  | c :: cs, k, h => by
    cases c with
    | osl n s off len =>
      simp only [lendArgs] at h
      obtain ⟨b, hb, h⟩ := h.own_inv
      split at h
      · obtain ⟨ds, ns, h, h1⟩ := To.lendArgs_inv h
        exact ⟨_, _, h, .osl hb h1⟩
      · exact h.fail_inv.elim
    | agg xs =>
      simp only [lendArgs] at h
      obtain ⟨ys, ms, h, g1, g2, g3⟩ := To.lendCells_inv (ρ := ρ) (w := w) h
      obtain ⟨ds, ns, h, h1, h2, h3⟩ := To.lendArgs_inv h
      refine ⟨_, _, h, ?_, fun m hm => ?_, fun I' us hI hB hr => ?_⟩
      · intro m hm
        simp only [List.mem_append] at hm
        exact hm.elim (g1 m) (h1 m)
      · simp only [inL, inS] at hm ⊢
        exact or_map hm (g2 m) (h2 m)
      · simp only [RepL, RepS] at hr ⊢
        obtain ⟨v, r, rfl, ⟨vs, rfl, hv, hv'⟩, hr⟩ := hr
        exact ⟨_, r, rfl, ⟨vs, rfl, g3 I' vs (fun m hm => hI m (by simp [hm])) hB hv, hv'⟩, h3 I' r (fun m hm => hI m (by simp [hm])) hB hr⟩
    | _ =>
      simp only [lendArgs] at h
      obtain ⟨ds, ns, h, h1⟩ := To.lendArgs_inv h
      exact ⟨_, ns, h, h1.keep⟩

/-- publishing: the rows' blocks are immutable behind it -/
theorem Pubs.conc {F' : Fs} {ns : List Nat} (p : Pubs F ns F') (h : Conc G nt C I ρ F a w) : ∃ I', Conc G nt C I' ρ F' a w ∧ (∀ b, I b → I' b) ∧
    (∀ n ∈ ns, (∃ E sz len get, F.o n = some (.row E sz len get)) → 0 < (ρ n).cap → I' (ρ n).b) ∧ (∀ n, F'.nm n ↔ F.nm n) ∧ ∀ b, I' b → I b ∨ ∃ n, ∃ E sz len get, F.o n = some (.row E sz len get) ∧ 0 < (ρ n).cap ∧ b = (ρ n).b := by
  induction p generalizing I with
  | nil => exact ⟨I, h, fun _ h => h, by simp, fun _ => Iff.rfl, fun _ h => .inl h⟩
  | @row F F' n Et sz len get ns hn t ih =>
    obtain ⟨I', h1, h2, h3, h4, h5⟩ := ih (h.pub hn)
    have hrow : ∀ m, (∃ E sz len get, F.o m = some (.row E sz len get)) → m ≠ n → ∃ E sz len get, (pubF F n sz get).o m = some (.row E sz len get) := by
      rintro m ⟨E1, s1, l1, g1, hm⟩ hne
      exact ⟨E1, s1, l1, g1, by simp [pubF, hne, hm, pubB]⟩
    have hrow' : ∀ m E1 s1 l1 g1, (pubF F n sz get).o m = some (.row E1 s1 l1 g1) → ∃ E sz len get, F.o m = some (.row E sz len get) := by
      intro m E1 s1 l1 g1 hm
      simp only [pubF] at hm
      split at hm
      · cases hm
      · cases hb : F.o m with
        | none => rw [hb] at hm; cases hm
        | some b =>
          rw [hb] at hm
          cases b with
          | row E2 s2 l2 g2 => exact ⟨_, _, _, _, rfl⟩
          | box cs => simp [pubB] at hm
          | iter s p => simp [pubB] at hm
    refine ⟨I', h1, fun b hb => h2 b (.inl hb), ?_, fun m => (h4 m).trans Iff.rfl, ?_⟩
    · intro m hm hr hc
      by_cases e : m = n
      · subst e; exact h2 _ (.inr ⟨hc, rfl⟩)
      · have : m ∈ ns := by simpa [e] using hm
        obtain ⟨E1, s1, l1, g1, hm'⟩ := hr
        exact h3 m this ⟨E1, s1, l1, g1, by simp [pubF, e, hm', pubB]⟩ hc
    · intro b hb
      rcases h5 b hb with (hb | ⟨hc, rfl⟩) | ⟨m, E1, s1, l1, g1, hm, hc, rfl⟩
      · exact .inl hb
      · exact .inr ⟨n, _, _, _, _, hn, hc, rfl⟩
      · obtain ⟨E2, s2, l2, g2, hm2⟩ := hrow' m E1 s1 l1 g1 hm
        exact .inr ⟨m, E2, s2, l2, g2, hm2, hc, rfl⟩
  | none hn t ih =>
    obtain ⟨I', h1, h2, h3, h4, h5⟩ := ih h
    refine ⟨I', h1, h2, ?_, h4, h5⟩
    intro m hm hr hc
    simp only [List.mem_cons] at hm
    rcases hm with rfl | hm
    · obtain ⟨_, _, _, _, hm'⟩ := hr
      rw [hn] at hm'; cases hm'
    · exact h3 m hm hr hc

end Go.Sx
