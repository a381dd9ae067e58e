/- Part of a symbolic executor over the model, proved sound, with plain laws: SxHan11. Written for these claims. -/
import Derived.Test.YtapddnfjngfloaaGreatDoorSxHan
set_option linter.unusedVariables false
set_option linter.unusedSimpArgs false
namespace Go.Sx
open Go
theorem emptyR_zero : emptyR' zeroR = true := by simp [emptyR', zeroR, emptyR, validR, validB, cmpB, bl_irrefl]
/-- a copy after some of its writes -/
def stepC (c : CopyT) (k : Nat) : CopyT := { c with rows := (goF c.rows (c.pend.take k)).1, pend := c.pend.drop k, sv := c.sv + k }
theorem stepC_zero {c : CopyT} : stepC c 0 = c := by simp [stepC, goF]
theorem step_valid {c : CopyT} (hv : validC c = true) : ∀ {k : Nat}, k ≤ c.pend.length → c.sv + k ≤ 1099511627776 → validC (stepC c k) = true ∧ (goF c.rows (c.pend.take k)).2 = 0
  | 0, _, _ => by rw [stepC_zero]; exact ⟨hv, rfl⟩
  | k + 1, hk, hs => by
    obtain ⟨h1, h2⟩ := step_valid hv (k := k) (by omega) (by omega)
    have hp : (stepC c k).pend.length ≠ 0 := by simp only [stepC, List.length_drop]; omega
    have hsv : (stepC c k).sv ≠ 1099511627776 := by simp only [stepC]; omega
    obtain ⟨h3, h4⟩ := commit_valid h1 hp hsv
    have e1 : (stepC c k).pend.getD 0 default = c.pend.getD k default := by simp [stepC, List.getD]
    rw [e1] at h3 h4
    have e2 : c.pend.take (k + 1) = c.pend.take k ++ [c.pend.getD k default] := take_succ' (by omega)
    have e3 : goF c.rows (c.pend.take (k + 1)) = ((doF (goF c.rows (c.pend.take k)).1 (c.pend.getD k default)).1, 0) := by
      rw [e2, goF_app, if_pos h2]
      have h3' : (doF (goF c.rows (c.pend.take k)).1 (c.pend.getD k default)).2 = 0 := h3
      simp only [goF, h3', if_true]
    refine ⟨?_, by rw [e3]⟩
    have : stepC c (k + 1) = { stepC c k with rows := (doF (stepC c k).rows (c.pend.getD k default)).1, pend := (stepC c k).pend.drop 1, sv := (stepC c k).sv + 1 } := by
      simp only [stepC, e3, List.drop_drop, CopyT.mk.injEq, true_and, and_true]
      omega
    rw [this]
    exact h4
theorem step_commit {c : CopyT} (hv : validC c = true) {k : Nat} (hk : k < c.pend.length) (hs : c.sv + k < 1099511627776) : commitC (stepC c k) = (stepC c (k + 1), 0) := by
  obtain ⟨h1, h2⟩ := step_valid hv (k := k) (by omega) (by omega)
  have hp : (stepC c k).pend.length ≠ 0 := by simp only [stepC, List.length_drop]; omega
  have hsv : (stepC c k).sv ≠ 1099511627776 := by simp only [stepC]; omega
  obtain ⟨h3, h4⟩ := commit_valid h1 hp hsv
  have e1 : (stepC c k).pend.getD 0 default = c.pend.getD k default := by simp [stepC, List.getD]
  have e2 : c.pend.take (k + 1) = c.pend.take k ++ [c.pend.getD k default] := take_succ' (by omega)
  rw [e1] at h3
  have h3' : (doF (goF c.rows (c.pend.take k)).1 (c.pend.getD k default)).2 = 0 := h3
  have e3 : goF c.rows (c.pend.take (k + 1)) = ((doF (goF c.rows (c.pend.take k)).1 (c.pend.getD k default)).1, 0) := by
    rw [e2, goF_app, if_pos h2]
    simp only [goF, h3', if_true]
  unfold commitC
  rw [if_neg (by simp [h1]), if_neg hp, if_neg hsv, e1]
  simp only [stepC, e3, List.drop_drop, Prod.mk.injEq, CopyT.mk.injEq, true_and, and_true]
  omega
/-- what is behind, written out -/
theorem behind_eq {c o : CopyT} (h : Behind c o) : ∃ (d : Nat) (t : List Wr), d ≤ c.pend.length ∧ (goF c.rows (c.pend.take d)).2 = 0 ∧ o = { c with sv := c.sv + d, rows := (goF c.rows (c.pend.take d)).1, pend := c.pend.drop d ++ t } := by
  obtain ⟨d, h1, h2, h3, t, h4⟩ := h.ex
  refine ⟨d, t, h1, by rw [h3], ?_⟩
  have hr := h.rng
  simp only [CopyT.rng, Prod.mk.injEq] at hr
  obtain ⟨r1, r2, r3, r4⟩ := hr
  obtain ⟨lk, lt, hk, ht, se, sv, rows, pend, out, inn, took, src⟩ := o
  simp only at *
  rw [h3]
  simp only [CopyT.mk.injEq]
  exact ⟨r1.symm, r2.symm, r3.symm, r4.symm, h.se.symm, h2, trivial, h4, h.out.symm, h.inn.symm, h.took.symm, h.src.symm⟩
theorem checks_at {g : GrpT} (h : SndG g) {i : Nat} (hi : i < g.mem.length) : indexG g.mem (g.mem.getD i default).id 0 = i := index_at h.uniq (by omega) hi
/-- stamps compared -/
def cmpS (ae av be bv : Int) : Int := if ae = be ∧ av = bv then 0 else if ae < be ∨ (ae = be ∧ av < bv) then -1 else 1
end Go.Sx
namespace Go.Sx
open Go
theorem sorted_tail {x : Row} {l : List Row} (h : Sorted (x :: l)) : Sorted l ∧ ∀ y ∈ l, Op.bytesLess x.1 y.1 = true := by
  have := List.pairwise_cons.1 h
  exact ⟨this.2, this.1⟩
theorem slice_split {a b c : Bnd} (h1 : validR' (mkR a b) = true) (h2 : validR' (mkR b c) = true) : ∀ {T : List Row}, Sorted T → sliceR T (mkR a b) ++ sliceR T (mkR b c) = sliceR T (mkR a c)
  | [], _ => rfl
  | x :: l, hs => by
    obtain ⟨hs1, hs2⟩ := sorted_tail hs
    have ih := slice_split h1 h2 hs1
    obtain ⟨s1, s2⟩ := has_split (k := x.1) h1 h2
    have hc : ∀ (r : Rng) (l : List Row), sliceR (x :: l) r = if hasR r x.1 = true then x :: sliceR l r else sliceR l r := fun r l => by
      unfold sliceR sliceF
      rw [List.filter_cons]
      rfl
    rw [hc, hc, hc]
    by_cases e1 : hasR (mkR a b) x.1 = true
    · rw [if_pos e1, if_neg (fun e => s2 ⟨e1, e⟩), if_pos (s1.2 (.inl e1)), List.cons_append, ih]
    · by_cases e2 : hasR (mkR b c) x.1 = true
      · have hn : sliceR l (mkR a b) = [] := by
          unfold sliceR sliceF
          rw [List.filter_eq_nil_iff]
          intro y hy hh
          obtain ⟨_, k1, _⟩ := (hasR_iff h2).1 e2
          obtain ⟨_, _, k2⟩ := (hasR_iff h1).1 hh
          exact k1 (cmp_mono (hs2 y hy) k2)
        rw [if_neg e1, if_pos e2, if_pos (s1.2 (.inr e2)), ← ih, hn]
        rfl
      · rw [if_neg e1, if_neg e2, if_neg (fun e => (s1.1 e).elim e1 e2), ih]
theorem slice_slice {T : List Row} {r s : Rng} (h : ∀ k, hasR s k = true → hasR r k = true) : sliceR (sliceR T r) s = sliceR T s := by
  show List.filter _ (List.filter _ T) = List.filter _ T
  rw [List.filter_filter]
  refine List.filter_congr fun x _ => ?_
  have := h x.1
  show (hasR s x.1 && hasR r x.1) = hasR s x.1
  cases e : hasR s x.1 with
  | false => rfl
  | true => rw [this e]; rfl
theorem slice_tab {T : List Row} {r : Rng} (h : TabOk T) : TabOk (sliceR T r) :=
  ⟨Nat.le_trans slice_len h.len, fun x hx => h.ok x (mem_slice.1 hx).1, h.sorted.filter _⟩
theorem slice_in {T : List Row} {r : Rng} : inAll r (sliceR T r) = true := inAll_iff.2 fun _ hx => (mem_slice.1 hx).2
/-- ranges that touch have nothing in common -/
theorem inter_adj {a b c : Bnd} (h1 : validR' (mkR a b) = true) (h2 : validR' (mkR b c) = true) : emptyR' (interR (mkR a b) (mkR b c)) = true := by
  obtain ⟨v1, v2, g1⟩ := validR_iff.1 h1
  obtain ⟨_, v3, g2⟩ := validR_iff.1 h2
  have hlo : cmpBB b (maxB a b) ≤ 0 := by
    unfold maxB
    split
    · show cmpB b.1 b.2 b.1 b.2 ≤ 0; rw [cmp_self]; omega
    · rename_i h
      have := cmp_neg b a
      have h' : ¬ cmpBB b a > 0 := h
      omega
  have hhi : cmpBB (minB b c) b ≤ 0 := by
    unfold minB
    split
    · rename_i h; show cmpBB c b ≤ 0; have h' : cmpBB c b < 0 := h; omega
    · show cmpB b.1 b.2 b.1 b.2 ≤ 0; rw [cmp_self]; omega
  have hm : emptyR' (meetR (mkR a b) (mkR b c)) = true := by
    cases he : emptyR' (meetR (mkR a b) (mkR b c)) with
    | true => rfl
    | false =>
      exfalso
      have h3 := (empty_false he).2.2
      have h4 : cmpBB (maxB a b) (minB b c) < 0 := h3
      have h5 := cmp_le_trans (a := minB b c) (b := b) (c := maxB a b) hhi hlo
      have h6 := cmp_neg (maxB a b) (minB b c)
      have h7 : cmpBB (minB b c) (maxB a b) ≤ 0 := h5
      omega
  unfold interR
  rw [hm, Bool.or_true]
  exact emptyR_zero
structure UfG (g : GrpT) (c : CopyT) : Prop where
  opn : g.opn = true
  n1 : 1 ≤ g.mem.length
  uniq : Uniq g.mem
  up : ∀ m ∈ g.mem, m.up = true
  same : ∀ m ∈ g.mem, m.copy = c
def putG (g : GrpT) (c : CopyT) : GrpT := { g with opn := true, mem := g.mem.map fun m => { m with copy := c } }
section
variable {g : GrpT} {c c0 : CopyT}
theorem put_get {i : Nat} (hi : i < g.mem.length) : (putG g c).mem.getD i default = { g.mem.getD i default with copy := c } := by simp [putG, List.getD, hi]
theorem put_len : (putG g c).mem.length = g.mem.length := by simp [putG]
theorem UfG.own (h : UfG g c) : ownerG g = (own0 g, true) := owner_up h.n1 (h.up _ (getD_mem (by have := h.n1; omega)))
theorem UfG.copy (h : UfG g c) : (ownerG g).1.copy = c := by rw [h.own]; exact h.same _ (getD_mem (by have := h.n1; omega))
theorem put_uf (h : UfG g c0) : UfG (putG g c) c := by
  refine ⟨rfl, by rw [put_len]; exact h.n1, fun i j hi hj e => ?_, fun m hm => ?_, fun m hm => ?_⟩
  · rw [put_len] at hi hj
    rw [put_get hi, put_get hj] at e
    exact h.uniq i j hi hj e
  · simp only [putG, List.mem_map] at hm
    obtain ⟨m', hm', rfl⟩ := hm
    show m'.up = true
    exact h.up m' hm'
  · simp only [putG, List.mem_map] at hm
    obtain ⟨m', hm', rfl⟩ := hm
    rfl
theorem put_put {c' : CopyT} : putG (putG g c) c' = putG g c' := by simp [putG]
/-- a phase of a group of one copy -/
theorem phase_uf {l : List (Int × Int)} {e : Int} (h : UfG g c0) (hv : validC c = true) (hp : c.pend = []) (hr : renewF ((c0.se, c0.sv) :: l) = (e, 0)) (he : 0 ≤ e ∧ e ≤ 1099511627776) :
    phaseG (changeG g c l) = (putG g { c with se := e, sv := 0 }, 0) := by
  have hn1 := h.n1
  have hc : (ownerG g).1.copy = c0 := h.copy
  have h1 : changeG g c l = (closeG g { c with se := e, sv := 0 }, 0) := by
    unfold changeG
    rw [hc, hr, h.own, if_neg (by simp), if_neg (by rw [h.opn]; simp), if_neg (by rw [hv]; simp), if_neg (by simp)]
  have hv2 := valid_stamp hv he.1 he.2
  have hG : ∀ G : GrpT, G = closeG g { c with se := e, sv := 0 } → recoverG G = ((putG g { c with se := e, sv := 0 }, []), 0) := by
    intro G hGe
    have hl : G.mem.length = g.mem.length := by rw [hGe]; show (List.set _ 0 _).length = _; rw [List.length_set]
    have ho0 : own0 G = { own0 g with copy := { c with se := e, sv := 0 } } := by rw [hGe]; exact getD_set_self (by omega)
    have hup : (own0 g).up = true := h.up _ (getD_mem (by omega))
    have ho : (own0 G).up = true := by rw [ho0]; exact hup
    have hop : G.opn = false := by rw [hGe]; rfl
    have hgn : ∀ j, j ≠ 0 → G.mem.getD j default = g.mem.getD j default := fun j hj => by rw [hGe]; exact getD_set_ne hj
    have hq : Uniq G.mem := by rw [hGe]; exact uniq_set h.uniq rfl
    have hn : 1 ≤ G.mem.length := by omega
    have hc1 := rec_all hq ho _ (k := 1) rfl (Nat.le_refl _) hn
    rw [all_one hn ho] at hc1
    have hla := all_len (G := G) (Nat.le_refl _)
    have ha := all_own (G := G) (Nat.le_refl _) hn ho
    have how := owner_up (g := allAt G G.mem.length) (by omega) (by rw [ha]; exact ho)
    rw [ha] at how
    have hcp : (own0 G).copy = { c with se := e, sv := 0 } := by rw [ho0]
    have hs : settleF (own0 G).copy = ({ c with se := e, sv := 0 }, 0) := by
      rw [hcp]
      unfold settleF
      rw [if_neg (by simp [hv2])]
      show settleC c.pend.length _ = _
      rw [hp]
      rfl
    have hall : ∀ j, j < g.mem.length → (allAt G G.mem.length).mem.getD j default = { g.mem.getD j default with copy := { c with se := e, sv := 0 } } := fun j hj => by
      rw [all_get (Nat.le_refl _) (by omega), if_pos (by omega), hcp]
      by_cases h0 : j = 0
      · subst h0
        show fillM _ (own0 G) = _
        unfold fillM
        rw [if_pos ho, ho0]
      · rw [hgn j h0]
        unfold fillM
        rw [if_pos (h.up _ (getD_mem hj))]
    have hrd : readyG (allAt G G.mem.length) = true := by
      unfold readyG
      rw [how]
      have h1 : (allAt G G.mem.length).opn = false := hop
      have h2 : ((allAt G G.mem.length).mem.drop 1).any (stale (own0 G).copy) = false := by
        rw [List.any_eq_false]
        intro m hm
        obtain ⟨j, hj, rfl⟩ := mem_getD (List.mem_of_mem_drop hm)
        rw [hla, hl] at hj
        rw [hall j hj]
        unfold stale
        rw [hcp]
        simp [sameC_refl]
      rw [h1]
      show (true && (!false && !(List.any _ (stale (own0 G).copy)))) = true
      rw [h2]; rfl
    have hk : openG (allAt G G.mem.length) { c with se := e, sv := 0 } = putG g { c with se := e, sv := 0 } := by
      have hm : (openG (allAt G G.mem.length) { c with se := e, sv := 0 }).mem = (putG g { c with se := e, sv := 0 }).mem := by
        refine ext_get (by rw [put_len]; show (List.set _ 0 _).length = _; rw [List.length_set, hla, hl]) fun j hj => ?_
        have hj' : j < g.mem.length := by
          have : (openG (allAt G G.mem.length) { c with se := e, sv := 0 }).mem.length = g.mem.length := by show (List.set _ 0 _).length = _; rw [List.length_set, hla, hl]
          omega
        rw [put_get hj']
        show (List.set (allAt G G.mem.length).mem 0 _).getD j default = _
        by_cases h0 : j = 0
        · subst h0
          rw [getD_set_self (by omega), hall 0 hj']
        · rw [getD_set_ne h0, hall j hj']
      have hnum : (openG (allAt G G.mem.length) { c with se := e, sv := 0 }).num = g.num := by show G.num = _; rw [hGe]; rfl
      have e2 : ∀ x y : GrpT, x.num = y.num → x.opn = y.opn → x.mem = y.mem → x = y := by
        rintro ⟨_, _, _⟩ ⟨_, _, _⟩ rfl rfl rfl; rfl
      exact e2 _ _ hnum rfl hm
    have hf : finishG (allAt G G.mem.length) = ((putG g { c with se := e, sv := 0 }, []), 0) := by
      unfold finishG
      rw [how, if_neg (by simp), if_neg (by show ¬ G.opn = true; rw [hop]; simp), if_neg (by rw [hrd]; simp)]
      show (if ¬ (settleF (own0 G).copy).2 = 0 then _ else ((openG (allAt G G.mem.length) (settleF (own0 G).copy).1, (own0 G).copy.pend), (0 : Int))) = _
      rw [hs, if_neg (by simp), hk, hcp]
      show ((_, c.pend), (0 : Int)) = _
      rw [hp]
    unfold recoverG
    rw [if_neg (by unfold downG; rw [ho]; simp), if_neg (by rw [hop]; simp), rec2, hc1, if_neg (by simp)]
    exact hf
  unfold phaseG
  rw [h1, if_pos rfl]
  show ((recoverG (closeG g { c with se := e, sv := 0 })).1.1, (recoverG (closeG g { c with se := e, sv := 0 })).2) = _
  rw [hG _ rfl]
end
theorem vc_of {c : CopyT} {T : List Row} (h1 : validR' c.rng = true) (h2 : stampOk c.se c.sv = true) (hT : TabOk T) (hr : c.rows = sliceR T c.rng) (hp : c.pend = [])
    (ho : c.out.serial = 0 ∨ validPart c.out = true ∧ emptyR' (interR c.rng c.out.rng) = true) (hi : c.inn.serial = 0 ∨ validPart c.inn = true ∧ emptyR' (interR c.rng c.inn.rng) = true)
    (hx : c.inn.serial = 0 ∨ c.out.serial = 0) (ht : c.took = 0 ∧ c.src = 0 ∨ serOk c.took = true ∧ numOk c.src = true) : validC c = true := by
  have hl := (slice_tab (r := c.rng) hT).len
  refine valid_of h1 h2 (by rw [hr]; exact slice_tab hT) (by rw [hr]; exact slice_in) (by rw [hp]; simp) (by rw [hr, hp]; exact hl) (by rw [hp]; simp) ?_ ?_
  · have q1 : outsideF c.rng c.out = true := by
      rcases ho with h | ⟨h, h3⟩ <;> simp [outsideF, *]
    have q2 : outsideF c.rng c.inn = true := by
      rcases hi with h | ⟨h, h3⟩ <;> simp [outsideF, *]
    unfold partsC
    rw [q1, q2]
    rcases hx with h | h <;> simp [h]
  · rcases ht with ⟨h, h3⟩ | ⟨h, h3⟩ <;> simp [tookC, h, h3]
theorem renew_two {e1 v1 e2 v2 : Int} (h1 : stampOk e1 v1 = true) (h2 : stampOk e2 v2 = true) (g1 : e1 < 1000) (g2 : e2 < 1000) : ∃ M, renewF [(e1, v1), (e2, v2)] = (M, 0) ∧ e1 < M ∧ e2 < M ∧ M ≤ 1001 := by
  have k1 := stamp_of.1 h1
  have k2 := stamp_of.1 h2
  simp only [renewF, renewAt, List.drop_zero, renewL, h1, h2, if_true]
  have hm : (if e1 > 0 then e1 else 0) = e1 := by split <;> omega
  rw [hm]
  by_cases h : e2 > e1
  · rw [if_pos h, if_neg (by omega)]
    exact ⟨_, rfl, by omega, by omega, by omega⟩
  · rw [if_neg h, if_neg (by omega)]
    exact ⟨_, rfl, by omega, by omega, by omega⟩
theorem FreshG.uf {T0 : List Row} {i : Nat} {g : GrpT} {a b : Bnd} (h : FreshG T0 i g a b) : UfG g (own0 g).copy := ⟨h.opn, h.n1, h.uniq, h.up, h.same⟩
/-- what is handed over -/
def movP (a : CopyT) (frm to_ : Int) (pl ph : Bnd) : PartT := ⟨7, frm, to_, a.se, a.sv, pl.1, pl.2, ph.1, ph.2, sliceR a.rows (mkR pl ph)⟩
structure EndR (T0 : List Row) (a b c d : CopyT) (rl rh ml mh : Bnd) : Prop where
  vc : validC c = true
  vd : validC d = true
  crng : c.rng = mkR rl rh
  drng : d.rng = mkR ml mh
  crows : c.rows = sliceR T0 (mkR rl rh)
  drows : d.rows = sliceR T0 (mkR ml mh)
  cp : c.pend = []
  dp : d.pend = []
  co : c.out = noPart
  ci : c.inn = noPart
  do_ : d.out = noPart
  di : d.inn = noPart
  dt : d.took = 0
  ac : a.se < c.se
  ad : a.se < d.se
  bd : b.se < d.se
theorem runs_gen {T0 : List Row} {i j : Nat} {f t : GrpT} {a0 a1 b0 b1 rl rh pl ph ml mh : Bnd} {bk : List UInt8} {bt : Bool} {side : Int} (hT : TabOk T0) (hf : FreshG T0 i f a0 a1) (ht : FreshG T0 j t b0 b1)
    (hij : i ≠ j) (hi : i < 100) (hj : j < 100)
    (hdet : detachC (own0 f).copy bk bt side 7 f.num t.num = ({ (own0 f).copy with out := movP (own0 f).copy f.num t.num pl ph, lk := rl.1, lt := rl.2, hk := rh.1, ht := rh.2, rows := sliceR (own0 f).copy.rows (mkR rl rh) }, 0))
    (vp : emptyR' (mkR pl ph) = false) (vr : validR' (mkR rl rh) = true) (vm : validR' (mkR ml mh) = true)
    (sp : ∀ k, hasR (mkR pl ph) k = true → hasR (mkR a0 a1) k = true) (sr : ∀ k, hasR (mkR rl rh) k = true → hasR (mkR a0 a1) k = true)
    (e1 : emptyR' (interR (mkR rl rh) (mkR pl ph)) = true) (e2 : emptyR' (interR (mkR b0 b1) (mkR pl ph)) = true)
    (hnext : (cmpB ph.1 ph.2 b0.1 b0.2 == 0 || cmpB pl.1 pl.2 b1.1 b1.2 == 0) = true)
    (hjoin : ∀ c : CopyT, validC c = true → c.inn = movP (own0 f).copy f.num t.num pl ph → c.pend = [] → c.lo = b0 → c.hi = b1 → c.rows = sliceR T0 (mkR b0 b1) → joinC c c.inn = ({ c with lk := ml.1, lt := ml.2, hk := mh.1, ht := mh.2, rows := sliceR T0 (mkR ml mh) }, 0)) :
    ∃ c d, runG f t bk bt side 7 = ((putG f c, putG t d), 0) ∧ EndR T0 (own0 f).copy (own0 t).copy c d rl rh ml mh := by
  have fa := hf.c
  have fb := ht.c
  have ua := hf.uf
  have ub := ht.uf
  have na : numOk f.num = true := by rw [hf.num]; simp only [numOk, Bool.and_eq_true, decide_eq_true_eq]; omega
  have nb : numOk t.num = true := by rw [ht.num]; simp only [numOk, Bool.and_eq_true, decide_eq_true_eq]; omega
  have nab : ¬ f.num = t.num := by rw [hf.num, ht.num]; omega
  generalize hap : (own0 f).copy = a at *
  generalize hbp : (own0 t).copy = b at *
  have sta : stampOk a.se a.sv = true := (valid_head fa.v).2.1
  have stb : stampOk b.se b.sv = true := (valid_head fb.v).2.1
  have ra : renewF [(a.se, a.sv)] = (a.se + 1, 0) := renew_one sta (by have := fa.se; omega)
  have rb : renewF [(b.se, b.sv)] = (b.se + 1, 0) := renew_one stb (by have := fb.se; omega)
  have stz : ∀ e : Int, 0 ≤ e → e ≤ 2000 → stampOk e 0 = true := fun e h0 h1 => stamp_of.2 ⟨⟨h0, by omega⟩, by omega, by omega⟩
  have ase := fa.se
  have bse := fb.se
  have vpp : validPart (movP a f.num t.num pl ph) = true := by
    have hin : withinF (mkR pl ph) (sliceR a.rows (mkR pl ph)) = true := by
      unfold withinF
      rw [validT_iff.2 (slice_tab (by rw [fa.rows]; exact slice_tab hT)), slice_in]; rfl
    simp only [validPart, Bool.and_eq_true, Bool.not_eq_true', beq_eq_false_iff_ne, ne_eq]
    exact ⟨rfl, na, nb, nab, sta, vp, hin⟩
  have prows : sliceR a.rows (mkR pl ph) = sliceR T0 (mkR pl ph) := by rw [fa.rows, slice_slice sp]
  have rrows : sliceR a.rows (mkR rl rh) = sliceR T0 (mkR rl rh) := by rw [fa.rows, slice_slice sr]
  have brng : b.rng = mkR b0 b1 := by rw [crng, fb.lo, fb.hi]
  -- freeze
  have v1 : validC { a with out := movP a f.num t.num pl ph, lk := rl.1, lt := rl.2, hk := rh.1, ht := rh.2, rows := sliceR a.rows (mkR rl rh) } = true :=
    vc_of (T := T0) vr sta hT rrows fa.pend (.inr ⟨vpp, e1⟩) (.inl (by show a.inn.serial = 0; rw [fa.inn]; rfl)) (.inl (by show a.inn.serial = 0; rw [fa.inn]; rfl)) (.inl ⟨fa.took, fa.src⟩)
  have p1 := phase_uf (l := []) (e := a.se + 1) ua v1 fa.pend ra (by omega)
  have f1 : freezeG f bk bt side 7 t.num = changeG f { a with out := movP a f.num t.num pl ph, lk := rl.1, lt := rl.2, hk := rh.1, ht := rh.2, rows := sliceR a.rows (mkR rl rh) } [] := by
    unfold freezeG
    rw [ua.copy, hdet, if_neg (by rw [ua.own]; simp), if_neg (by rw [ua.opn]; simp), if_neg (by simp)]
  generalize hC1 : ({ a with out := movP a f.num t.num pl ph, lk := rl.1, lt := rl.2, hk := rh.1, ht := rh.2, rows := sliceR a.rows (mkR rl rh) } : CopyT) = C1 at *
  have c1o : C1.out = movP a f.num t.num pl ph := by rw [← hC1]
  have c1i : C1.inn = noPart := by rw [← hC1]; exact fa.inn
  have c1p : C1.pend = [] := by rw [← hC1]; exact fa.pend
  have c1r : C1.rows = sliceR T0 (mkR rl rh) := by rw [← hC1]; exact rrows
  have c1g : C1.rng = mkR rl rh := by rw [← hC1]; rfl
  have c1t : C1.took = 0 := by rw [← hC1]; exact fa.took
  have c1s : C1.src = 0 := by rw [← hC1]; exact fa.src
  have uA := put_uf (c := { C1 with se := a.se + 1, sv := 0 }) ua
  -- deliver
  have v2 : validC { b with inn := movP a f.num t.num pl ph } = true :=
    vc_of (T := T0) (by show validR' b.rng = true; exact (valid_head fb.v).1) stb hT (by show b.rows = sliceR T0 b.rng; rw [brng]; exact fb.rows) fb.pend (.inl (by show b.out.serial = 0; rw [fb.out]; rfl)) (.inr ⟨vpp, by show emptyR' (interR b.rng (mkR pl ph)) = true; rw [brng]; exact e2⟩) (.inr (by show b.out.serial = 0; rw [fb.out]; rfl)) (.inl ⟨fb.took, fb.src⟩)
  have p2 := phase_uf (l := []) (e := b.se + 1) ub v2 fb.pend rb (by omega)
  have hbo : ∀ {x y : GrpT} {c d : CopyT}, UfG x c → UfG y d → bothG x y = true := fun h1 h2 => by unfold bothG; rw [h1.own, h2.own]; rfl
  have f2 : deliverG (putG f { C1 with se := a.se + 1, sv := 0 }) t = changeG t { b with inn := movP a f.num t.num pl ph } [] := by
    have := deliver_ok (f := putG f { C1 with se := a.se + 1, sv := 0 }) (t := t) (hbo uA ub) uA.opn (by rw [uA.copy]; show ¬ C1.out.serial = 0; rw [c1o]; simp [movP]) ub.opn
      (by rw [ub.copy]; unfold quietC; rw [fb.pend, fb.out, fb.inn, fb.took]; rfl) (by rw [uA.copy]; show t.num = C1.out.dst; rw [c1o]; rfl)
      (by rw [uA.copy, ub.copy]; show nextP b C1.out = true; rw [c1o]; show (cmpB ph.1 ph.2 b.lo.1 b.lo.2 == 0 || cmpB pl.1 pl.2 b.hi.1 b.hi.2 == 0) = true; rw [fb.lo, fb.hi]; exact hnext)
    rw [this, uA.copy, ub.copy]
    show changeG t { b with inn := C1.out } [] = _
    rw [c1o]
  have uB := put_uf (c := { b with inn := movP a f.num t.num pl ph, se := b.se + 1, sv := 0 }) ub
  -- install
  have v2s := valid_stamp v2 (e := b.se + 1) (by omega) (by omega)
  have hj := hjoin _ v2s rfl fb.pend fb.lo fb.hi fb.rows
  obtain ⟨M, hM, hM1, hM2, hM3⟩ := renew_two (stz (b.se + 1) (by omega) (by omega)) sta (by omega) (by omega)
  have v3 : validC { b with inn := noPart, se := b.se + 1, sv := 0, lk := ml.1, lt := ml.2, hk := mh.1, ht := mh.2, rows := sliceR T0 (mkR ml mh), took := 7, src := f.num } = true :=
    vc_of (T := T0) vm (stz (b.se + 1) (by omega) (by omega)) hT rfl fb.pend (.inl (by show b.out.serial = 0; rw [fb.out]; rfl)) (.inl rfl) (.inl rfl) (.inr ⟨rfl, na⟩)
  have ha : attachC { b with inn := movP a f.num t.num pl ph, se := b.se + 1, sv := 0 } = ({ b with inn := noPart, se := b.se + 1, sv := 0, lk := ml.1, lt := ml.2, hk := mh.1, ht := mh.2, rows := sliceR T0 (mkR ml mh), took := 7, src := f.num }, 0) := by
    unfold attachC
    rw [hj]
    rfl
  have p3 := phase_uf (l := [(a.se, a.sv)]) (e := M) uB v3 fb.pend hM (by omega)
  rw [put_put] at p3
  have f3 : installG (putG t { b with inn := movP a f.num t.num pl ph, se := b.se + 1, sv := 0 }) = changeG (putG t { b with inn := movP a f.num t.num pl ph, se := b.se + 1, sv := 0 }) { b with inn := noPart, se := b.se + 1, sv := 0, lk := ml.1, lt := ml.2, hk := mh.1, ht := mh.2, rows := sliceR T0 (mkR ml mh), took := 7, src := f.num } [(a.se, a.sv)] := by
    rw [install_ok (by rw [uB.own]) uB.opn (by rw [uB.copy, ha]), uB.copy, ha]
    rfl
  generalize hK : ({ b with inn := noPart, se := b.se + 1, sv := 0, lk := ml.1, lt := ml.2, hk := mh.1, ht := mh.2, rows := sliceR T0 (mkR ml mh), took := 7, src := f.num } : CopyT) = K at *
  have ko : K.out = noPart := by rw [← hK]; exact fb.out
  have ki : K.inn = noPart := by rw [← hK]
  have kp : K.pend = [] := by rw [← hK]; exact fb.pend
  have kr : K.rows = sliceR T0 (mkR ml mh) := by rw [← hK]
  have kg : K.rng = mkR ml mh := by rw [← hK]; rfl
  have kt : K.took = 7 := by rw [← hK]
  have ks : K.src = f.num := by rw [← hK]
  have uT := put_uf (c := { K with se := M, sv := 0 }) ub
  -- release
  have v4 : validC { C1 with se := a.se + 1, sv := 0, out := noPart } = true :=
    vc_of (T := T0) (by show validR' C1.rng = true; rw [c1g]; exact vr) (stz (a.se + 1) (by omega) (by omega)) hT (by show C1.rows = sliceR T0 C1.rng; rw [c1g]; exact c1r) c1p (.inl rfl) (.inl (by show C1.inn.serial = 0; rw [c1i]; rfl)) (.inr rfl) (.inl ⟨c1t, c1s⟩)
  have r4 : renewF [(a.se + 1, 0)] = (a.se + 1 + 1, 0) := renew_one (stz _ (by omega) (by omega)) (by omega)
  have p4 := phase_uf (l := []) (e := a.se + 1 + 1) uA v4 c1p r4 (by omega)
  rw [put_put] at p4
  have f4 : releaseG (putG f { C1 with se := a.se + 1, sv := 0 }) (putG t { K with se := M, sv := 0 }) = changeG (putG f { C1 with se := a.se + 1, sv := 0 }) { C1 with se := a.se + 1, sv := 0, out := noPart } [] := by
    rw [release_ok (hbo uA uT) uA.opn uT.opn (by rw [uA.copy]; show ¬ C1.out.serial = 0; rw [c1o]; simp [movP]) (by rw [uA.copy]; show t.num = C1.out.dst; rw [c1o]; rfl) (by rw [uA.copy, uT.copy]; show C1.out.serial = K.took; rw [c1o, kt]; rfl), uA.copy]
  have uE := put_uf (c := { C1 with se := a.se + 1 + 1, sv := 0, out := noPart }) ua
  -- forget
  have v5 : validC { K with se := M, sv := 0, took := 0, src := 0 } = true :=
    vc_of (T := T0) (by show validR' K.rng = true; rw [kg]; exact vm) (stz M (by omega) (by omega)) hT (by show K.rows = sliceR T0 K.rng; rw [kg]; exact kr) kp (.inl (by show K.out.serial = 0; rw [ko]; rfl)) (.inl (by show K.inn.serial = 0; rw [ki]; rfl)) (.inl (by show K.inn.serial = 0; rw [ki]; rfl)) (.inl ⟨rfl, rfl⟩)
  have r5 : renewF [(M, 0)] = (M + 1, 0) := renew_one (stz _ (by omega) (by omega)) (by omega)
  have p5 := phase_uf (l := []) (e := M + 1) uT v5 kp r5 (by omega)
  rw [put_put] at p5
  have f5 : forgetG (putG t { K with se := M, sv := 0 }) (putG f { C1 with se := a.se + 1 + 1, sv := 0, out := noPart }) = changeG (putG t { K with se := M, sv := 0 }) { K with se := M, sv := 0, took := 0, src := 0 } [] := by
    rw [forget_ok (hbo uT uE) uE.opn uT.opn (by rw [uT.copy]; show ¬ K.took = 0; rw [kt]; simp) (by rw [uT.copy]; show f.num = K.src; rw [ks]) (by rw [uE.copy, uT.copy]; show ¬ (noPart.serial = K.took); rw [kt]; simp [noPart]), uT.copy]
  refine ⟨{ C1 with se := a.se + 1 + 1, sv := 0, out := noPart }, { K with se := M + 1, sv := 0, took := 0, src := 0 }, ?_, ?_⟩
  · unfold runG
    simp only [f1, p1, f2, p2, f3, p3, f4, p4, f5, p5, not_true_eq_false, if_false]
  · exact ⟨valid_stamp v4 (e := a.se + 1 + 1) (by omega) (by omega), valid_stamp v5 (e := M + 1) (by omega) (by omega), c1g, kg, c1r, kr, c1p, kp, rfl, c1i, ko, ki, rfl, by show a.se < a.se + 1 + 1; omega, by show a.se < M + 1; omega, by show b.se < M + 1; omega⟩
end Go.Sx

namespace Go.Sx
open Go
theorem pick {a : Bnd} {k : List UInt8} {t : Bool} (h : ¬ cmpB k t a.1 a.2 < 0) : cmpB a.1 a.2 k t ≤ 0 := cmp_le_not.2 h
theorem empty_mk {a b : Bnd} (hv : validR' (mkR a b) = true) : emptyR' (mkR a b) = false ↔ ¬ cmpB a.1 a.2 b.1 b.2 = 0 := by
  have : validR a.1 a.2 b.1 b.2 = true := hv
  show emptyR a.1 a.2 b.1 b.2 = false ↔ _
  simp only [emptyR, this, Bool.not_true, Bool.false_or, beq_eq_false_iff_ne, ne_eq]
structure CutR (a0 a1 : Bnd) (k : List UInt8) : Prop where
  v1 : validR' (mkR a0 (k, false)) = true
  v2 : validR' (mkR (k, false) a1) = true
  e2 : emptyR' (mkR (k, false) a1) = false
  kb : validB k false = true
  lo : ¬ cmpB k false a0.1 a0.2 < 0
  hi : cmpB k false a1.1 a1.2 < 0
theorem cut_of {a0 a1 : Bnd} {k : List UInt8} (hv : validR' (mkR a0 a1) = true) (hk : hasR (mkR a0 a1) k = true) : CutR a0 a1 k := by
  obtain ⟨l, h1, h2⟩ := (hasR_iff hv).1 hk
  obtain ⟨g1, g2, _⟩ := validR_iff.1 hv
  have kb : validB k false = true := by simp [validB, l]
  have v2 : validR' (mkR (k, false) a1) = true := validR_iff.2 ⟨kb, g2, by show cmpB k false a1.1 a1.2 ≤ 0; omega⟩
  exact ⟨validR_iff.2 ⟨g1, kb, pick h1⟩, v2, (empty_mk v2).2 (by show ¬ cmpB k false a1.1 a1.2 = 0; omega), kb, h1, h2⟩
section
variable {T0 : List Row} {i j : Nat} {f t : GrpT} {a0 a1 b0 b1 : Bnd} {k : List UInt8}
theorem det_head (hf : FreshG T0 i f a0 a1) (ht : FreshG T0 j t b0 b1) (hij : i ≠ j) (hi : i < 100) (hj : j < 100) (hc : CutR a0 a1 k) {side : Int} (hs : side = 0 ∨ side = 1) :
    detachC (own0 f).copy k false side 7 f.num t.num = if detBad (own0 f).copy k false side = true then (noCopy, 2) else (detNew (own0 f).copy k false side 7 f.num t.num, 0) := by
  have fa := hf.c
  have na : numOk f.num = true := by rw [hf.num]; simp only [numOk, Bool.and_eq_true, decide_eq_true_eq]; omega
  have nb : numOk t.num = true := by rw [ht.num]; simp only [numOk, Bool.and_eq_true, decide_eq_true_eq]; omega
  have nab : (f.num == t.num) = false := by rw [hf.num, ht.num, beq_eq_false_iff_ne]; omega
  have h1 : detOk (own0 f).copy k false side 7 f.num t.num = true := by
    unfold detOk
    rw [fa.v, hc.kb, na, nb, nab]
    rcases hs with rfl | rfl <;> rfl
  have h2 : quietC (own0 f).copy = true := by unfold quietC; rw [fa.pend, fa.out, fa.inn, fa.took]; rfl
  unfold detachC
  rw [if_neg (by rw [h1]; simp), if_neg (by rw [h2]; simp)]
theorem FreshC.parts {c : CopyT} {a b : Bnd} (h : FreshC T0 c a b) : c.lk = a.1 ∧ c.lt = a.2 ∧ c.hk = b.1 ∧ c.ht = b.2 := by
  have h1 := h.lo
  have h2 := h.hi
  rw [← h1, ← h2]
  exact ⟨rfl, rfl, rfl, rfl⟩
theorem det_bad (hf : FreshG T0 i f a0 a1) (hc : CutR a0 a1 k) {side : Int} : detBad (own0 f).copy k false side = emptyR' (partR (own0 f).copy k false side) := by
  obtain ⟨q1, q2, q3, q4⟩ := hf.c.parts
  unfold detBad
  rw [q1, q2, q3, q4]
  have h1 : decide (cmpB k false a0.1 a0.2 < 0) = false := decide_eq_false hc.lo
  have h2 : decide (cmpB k false a1.1 a1.2 > 0) = false := decide_eq_false (by have := hc.hi; omega)
  rw [h1, h2]
  rfl
/-- to the right neighbour -/
theorem runs_right (hT : TabOk T0) (hf : FreshG T0 i f a0 a1) (ht : FreshG T0 j t a1 b1) (hij : i ≠ j) (hi : i < 100) (hj : j < 100) (hk : hasR (mkR a0 a1) k = true) :
    ∃ c d, runG f t k false 1 7 = ((putG f c, putG t d), 0) ∧ EndR T0 (own0 f).copy (own0 t).copy c d a0 (k, false) (k, false) b1 := by
  have va : validR' (mkR a0 a1) = true := by have := c_rng (valid_head hf.c.v).1; rw [hf.c.lo, hf.c.hi] at this; exact this
  have vb : validR' (mkR a1 b1) = true := by have := c_rng (valid_head ht.c.v).1; rw [ht.c.lo, ht.c.hi] at this; exact this
  have hc := cut_of va hk
  obtain ⟨q1, q2, q3, q4⟩ := hf.c.parts
  obtain ⟨w1, w2, w3⟩ := validR_iff.1 vb
  obtain ⟨_, _, z3⟩ := validR_iff.1 hc.v2
  have vm : validR' (mkR (k, false) b1) = true := validR_iff.2 ⟨hc.kb, w2, cmp_le_trans z3 w3⟩
  have hp : partR (own0 f).copy k false 1 = mkR (k, false) a1 := by unfold partR; rw [if_neg (by decide), q3, q4]; rfl
  have hr : restR (own0 f).copy k false 1 = mkR a0 (k, false) := by unfold restR; rw [if_neg (by decide), q1, q2]; rfl
  refine runs_gen hT hf ht hij hi hj (pl := (k, false)) (ph := a1) ?_ hc.e2 hc.v1 vm (fun x hx => (has_split hc.v1 hc.v2).1.2 (.inr hx)) (fun x hx => (has_split hc.v1 hc.v2).1.2 (.inl hx)) (inter_adj hc.v1 hc.v2) (by rw [interR_comm]; exact inter_adj hc.v2 vb) ?_ ?_
  · rw [det_head hf ht hij hi hj hc (.inr rfl), det_bad hf hc, hp, hc.e2, if_neg (by simp)]
    unfold detNew
    rw [hp, hr]
    rfl
  · rw [show cmpB a1.1 a1.2 a1.1 a1.2 = 0 from cmp_self]; rfl
  · intro c hv hin hcp hlo hhi hcr
    have hrow : sliceR (own0 f).copy.rows (mkR (k, false) a1) ++ sliceR T0 (mkR a1 b1) = sliceR T0 (mkR (k, false) b1) := by
      rw [hf.c.rows, slice_slice (fun x hx => (has_split hc.v1 hc.v2).1.2 (.inr hx)), slice_split hc.v2 vb hT.sorted]
    have hlen := (slice_tab (r := mkR (k, false) b1) hT).len
    rw [← hrow, List.length_append] at hlen
    obtain ⟨hk', ht'⟩ : c.hk = b1.1 ∧ c.ht = b1.2 := by rw [← hhi]; exact ⟨rfl, rfl⟩
    obtain ⟨lk', lt'⟩ : c.lk = a1.1 ∧ c.lt = a1.2 := by rw [← hlo]; exact ⟨rfl, rfl⟩
    unfold joinC
    rw [if_neg (by rw [hv]; simp), if_neg (by rw [hin, hcp]; simp [movP]), hin]
    show (if cmpB a1.1 a1.2 c.lk c.lt = 0 then _ else _) = _
    rw [lk', lt', if_pos cmp_self, if_neg (by rw [hcr]; show ¬ _ + (sliceR (own0 f).copy.rows (mkR (k, false) a1)).length > 1024; omega), hcr]
    rw [← hrow, ← hk', ← ht']
    rfl
/-- to the left neighbour -/
theorem runs_left (hT : TabOk T0) (hf : FreshG T0 i f a0 a1) (ht : FreshG T0 j t b0 a0) (hij : i ≠ j) (hi : i < 100) (hj : j < 100) (hk : hasR (mkR a0 a1) k = true) (hne : ¬ cmpB a0.1 a0.2 k false = 0) :
    ∃ c d, runG f t k false 0 7 = ((putG f c, putG t d), 0) ∧ EndR T0 (own0 f).copy (own0 t).copy c d (k, false) a1 b0 (k, false) := by
  have va : validR' (mkR a0 a1) = true := by have := c_rng (valid_head hf.c.v).1; rw [hf.c.lo, hf.c.hi] at this; exact this
  have vb : validR' (mkR b0 a0) = true := by have := c_rng (valid_head ht.c.v).1; rw [ht.c.lo, ht.c.hi] at this; exact this
  have hc := cut_of va hk
  obtain ⟨q1, q2, q3, q4⟩ := hf.c.parts
  obtain ⟨w1, w2, w3⟩ := validR_iff.1 vb
  obtain ⟨_, _, z3⟩ := validR_iff.1 hc.v1
  have vm : validR' (mkR b0 (k, false)) = true := validR_iff.2 ⟨w1, hc.kb, cmp_le_trans w3 z3⟩
  have he : emptyR' (mkR a0 (k, false)) = false := (empty_mk hc.v1).2 hne
  have hlt : cmpB b0.1 b0.2 k false < 0 := by
    have h1 := (validR_iff.1 vm).2.2
    rcases Int.lt_or_eq_of_le h1 with h | h
    · exact h
    · exfalso
      have e := cmp_eq (a := b0) (b := (k, false)) w1 hc.kb h
      subst e
      have h2 : cmpB a0.1 a0.2 k false ≤ 0 := z3
      have h3 : cmpB k false a0.1 a0.2 ≤ 0 := w3
      have h4 := cmp_neg a0 (k, false)
      simp only [cmpBB] at h4
      omega
  have hp : partR (own0 f).copy k false 0 = mkR a0 (k, false) := by unfold partR; rw [if_pos rfl, q1, q2]; rfl
  have hr : restR (own0 f).copy k false 0 = mkR (k, false) a1 := by unfold restR; rw [if_pos rfl, q3, q4]; rfl
  refine runs_gen hT hf ht hij hi hj (pl := a0) (ph := (k, false)) ?_ he hc.v2 vm (fun x hx => (has_split hc.v1 hc.v2).1.2 (.inl hx)) (fun x hx => (has_split hc.v1 hc.v2).1.2 (.inr hx)) (by rw [interR_comm]; exact inter_adj hc.v1 hc.v2) (inter_adj vb hc.v1) ?_ ?_
  · rw [det_head hf ht hij hi hj hc (.inl rfl), det_bad hf hc, hp, he, if_neg (by simp)]
    unfold detNew
    rw [hp, hr]
    rfl
  · rw [show cmpB a0.1 a0.2 a0.1 a0.2 = 0 from cmp_self]; simp
  · intro c hv hin hcp hlo hhi hcr
    have hrow : sliceR T0 (mkR b0 a0) ++ sliceR (own0 f).copy.rows (mkR a0 (k, false)) = sliceR T0 (mkR b0 (k, false)) := by
      rw [hf.c.rows, slice_slice (fun x hx => (has_split hc.v1 hc.v2).1.2 (.inl hx)), slice_split vb hc.v1 hT.sorted]
    have hlen := (slice_tab (r := mkR b0 (k, false)) hT).len
    rw [← hrow, List.length_append] at hlen
    obtain ⟨hk', ht'⟩ : c.hk = a0.1 ∧ c.ht = a0.2 := by rw [← hhi]; exact ⟨rfl, rfl⟩
    obtain ⟨lk', lt'⟩ : c.lk = b0.1 ∧ c.lt = b0.2 := by rw [← hlo]; exact ⟨rfl, rfl⟩
    have hne2 : ¬ cmpB k false b0.1 b0.2 = 0 := by
      have h4 := cmp_neg b0 (k, false)
      simp only [cmpBB] at h4
      omega
    unfold joinC
    rw [if_neg (by rw [hv]; simp), if_neg (by rw [hin, hcp]; simp [movP]), hin]
    show (if cmpB k false c.lk c.lt = 0 then _ else if cmpB a0.1 a0.2 c.hk c.ht = 0 then _ else _) = _
    rw [lk', lt', if_neg hne2, hk', ht', if_pos cmp_self, if_neg (by rw [hcr]; show ¬ _ + (sliceR (own0 f).copy.rows (mkR a0 (k, false))).length > 1024; omega), hcr]
    rw [← hrow]
    rfl
theorem runs_none (hf : FreshG T0 i f a0 a1) (ht : FreshG T0 j t b0 b1) (hij : i ≠ j) (hi : i < 100) (hj : j < 100) (hk : hasR (mkR a0 a1) k = true) (he : cmpB a0.1 a0.2 k false = 0) :
    runG f t k false 0 7 = ((noGrp, noGrp), 2) := by
  have va : validR' (mkR a0 a1) = true := by have := c_rng (valid_head hf.c.v).1; rw [hf.c.lo, hf.c.hi] at this; exact this
  have hc := cut_of va hk
  obtain ⟨q1, q2, q3, q4⟩ := hf.c.parts
  have hp : partR (own0 f).copy k false 0 = mkR a0 (k, false) := by unfold partR; rw [if_pos rfl, q1, q2]; rfl
  have hb : detBad (own0 f).copy k false 0 = true := by
    rw [det_bad hf hc, hp]
    cases h : emptyR' (mkR a0 (k, false)) with
    | true => rfl
    | false => exact absurd he ((empty_mk hc.v1).1 h)
  have ua := hf.uf
  have h1 : freezeG f k false 0 7 t.num = (noGrp, 2) := by
    unfold freezeG
    rw [ua.copy, det_head hf ht hij hi hj hc (.inl rfl), hb, if_neg (by rw [ua.own]; simp), if_neg (by rw [ua.opn]; simp), if_pos rfl, if_pos (by simp)]
  unfold runG
  simp only [h1, phaseG, if_neg (show ¬ (2 : Int) = 0 by decide), if_pos (show ¬ (2 : Int) = 0 by decide)]
end
end Go.Sx

namespace Go.Sx
open Go
section
variable {T0 : List Row} {i : Nat} {f : GrpT} {a0 a1 : Bnd} {c : CopyT}
theorem put_snd (hf : FreshG T0 i f a0 a1) (hi : i < 100) (hv : validC c = true) (hs : SmallC c) : SndG (putG f c) := by
  have hl : (putG f c).mem.length = f.mem.length := put_len
  have hn1 := hf.n1
  have hn3 := hf.n3
  have uf := put_uf (c := c) hf.uf
  refine ⟨by omega, by omega, ?_, rfl, uf.uniq, fun m hm => ?_, fun p _ hp _ => ?_⟩
  · show numOk f.num = true
    rw [hf.num]; simp only [numOk, Bool.and_eq_true, decide_eq_true_eq]; omega
  · have hc := uf.same m hm
    simp only [putG, List.mem_map] at hm
    obtain ⟨m', hm', rfl⟩ := hm
    exact ⟨hf.ids m' hm', by rw [hc]; exact hv, by rw [hc]; exact hs⟩
  · have h1 : ((putG f c).mem.getD p default).copy = c := uf.same _ (getD_mem hp)
    have h2 : (own0 (putG f c)).copy = c := uf.same _ (getD_mem (by omega))
    rw [h1, h2]
    exact Behind.refl c
theorem put_own (hf : FreshG T0 i f a0 a1) : ((putG f c).mem.getD 0 default).copy = c := (put_uf (c := c) hf.uf).same _ (getD_mem (by rw [put_len]; have := hf.n1; omega))
end
theorem EndR.small {T0 : List Row} {a b c d : CopyT} {rl rh ml mh : Bnd} (h : EndR T0 a b c d rl rh ml mh) : SmallC c ∧ SmallC d := by
  have h1 := (valid_head h.vc).2.2.2.2.2
  have h2 := (valid_head h.vd).2.2.2.2.2
  refine ⟨⟨by omega, by omega, by rw [h.co]; simp [noPart], by rw [h.ci]; simp [noPart]⟩, by omega, by omega, by rw [h.do_]; simp [noPart], by rw [h.di]; simp [noPart]⟩
structure EndX (T0 : List Row) (a b : CopyT) (x y : GrpT) : Prop where
  sx : SndG x
  sy : SndG y
  vc : validC (own0 x).copy = true
  vd : validC (own0 y).copy = true
  co : (own0 x).copy.out = noPart
  di : (own0 y).copy.inn = noPart
  dt : (own0 y).copy.took = 0
  ac : a.se < (own0 x).copy.se
  ad : a.se < (own0 y).copy.se
  bd : b.se < (own0 y).copy.se
  int : emptyR' (interR (own0 x).copy.rng (own0 y).copy.rng) = true
section
variable {T0 : List Row} {i j : Nat} {f t : GrpT} {a0 a1 b0 b1 : Bnd} {k : List UInt8}
theorem endx_of {c d : CopyT} {rl rh ml mh : Bnd} (hf : FreshG T0 i f a0 a1) (ht : FreshG T0 j t b0 b1) (hi : i < 100) (hj : j < 100) (h : EndR T0 (own0 f).copy (own0 t).copy c d rl rh ml mh)
    (hx : emptyR' (interR (mkR rl rh) (mkR ml mh)) = true) : EndX T0 (own0 f).copy (own0 t).copy (putG f c) (putG t d) := by
  have h1 : (own0 (putG f c)).copy = c := put_own hf
  have h2 : (own0 (putG t d)).copy = d := put_own ht
  refine ⟨put_snd hf hi h.vc h.small.1, put_snd ht hj h.vd h.small.2, ?_, ?_, ?_, ?_, ?_, ?_, ?_, ?_, ?_⟩ <;> (try rw [h1]) <;> (try rw [h2])
  · exact h.vc
  · exact h.vd
  · exact h.co
  · exact h.di
  · exact h.dt
  · exact h.ac
  · exact h.ad
  · exact h.bd
  · rw [h.crng, h.drng]; exact hx
theorem FreshC.vr {c : CopyT} {a b : Bnd} (h : FreshC T0 c a b) : validR' (mkR a b) = true := by
  have := c_rng (valid_head h.v).1
  rw [h.lo, h.hi] at this
  exact this
theorem ends_right (hT : TabOk T0) (hf : FreshG T0 i f a0 a1) (ht : FreshG T0 j t a1 b1) (hij : i ≠ j) (hi : i < 100) (hj : j < 100) (hk : hasR (mkR a0 a1) k = true) :
    ∃ x y, runG f t k false 1 7 = ((x, y), 0) ∧ EndX T0 (own0 f).copy (own0 t).copy x y ∧ (own0 x).copy.rows ++ (own0 y).copy.rows = (own0 f).copy.rows ++ (own0 t).copy.rows := by
  obtain ⟨c, d, hr, h⟩ := runs_right hT hf ht hij hi hj hk
  have hc := cut_of hf.c.vr hk
  have h1 : (own0 (putG f c)).copy = c := put_own hf
  have h2 : (own0 (putG t d)).copy = d := put_own ht
  refine ⟨_, _, hr, endx_of hf ht hi hj h (inter_adj hc.v1 ?_), ?_⟩
  · exact validR_iff.2 ⟨hc.kb, (validR_iff.1 ht.c.vr).2.1, cmp_le_trans (validR_iff.1 hc.v2).2.2 (validR_iff.1 ht.c.vr).2.2⟩
  · rw [h1, h2, h.crows, h.drows, hf.c.rows, ht.c.rows, ← slice_split hc.v1 hc.v2 hT.sorted, ← slice_split hc.v2 ht.c.vr hT.sorted, List.append_assoc]
theorem ends_left (hT : TabOk T0) (hf : FreshG T0 i f a0 a1) (ht : FreshG T0 j t b0 a0) (hij : i ≠ j) (hi : i < 100) (hj : j < 100) (hk : hasR (mkR a0 a1) k = true) (hne : ¬ cmpB k false a0.1 a0.2 = 0) :
    ∃ x y, runG f t k false 0 7 = ((x, y), 0) ∧ EndX T0 (own0 f).copy (own0 t).copy x y ∧ (own0 y).copy.rows ++ (own0 x).copy.rows = (own0 t).copy.rows ++ (own0 f).copy.rows := by
  have hn : ¬ cmpB a0.1 a0.2 k false = 0 := by
    have h4 := cmp_neg a0 (k, false)
    simp only [cmpBB] at h4
    omega
  obtain ⟨c, d, hr, h⟩ := runs_left hT hf ht hij hi hj hk hn
  have hc := cut_of hf.c.vr hk
  have h1 : (own0 (putG f c)).copy = c := put_own hf
  have h2 : (own0 (putG t d)).copy = d := put_own ht
  refine ⟨_, _, hr, endx_of hf ht hi hj h ?_, ?_⟩
  · rw [interR_comm]
    refine inter_adj ?_ hc.v2
    exact validR_iff.2 ⟨(validR_iff.1 ht.c.vr).1, hc.kb, cmp_le_trans (validR_iff.1 ht.c.vr).2.2 (validR_iff.1 hc.v1).2.2⟩
  · rw [h1, h2, h.crows, h.drows, hf.c.rows, ht.c.rows, ← slice_split ht.c.vr hc.v1 hT.sorted, ← slice_split hc.v1 hc.v2 hT.sorted, List.append_assoc]
theorem ends_none (hf : FreshG T0 i f a0 a1) (ht : FreshG T0 j t b0 b1) (hij : i ≠ j) (hi : i < 100) (hj : j < 100) (hk : hasR (mkR a0 a1) k = true) (he : cmpB k false a0.1 a0.2 = 0) :
    runG f t k false 0 7 = ((noGrp, noGrp), 2) := by
  refine runs_none hf ht hij hi hj hk ?_
  have h4 := cmp_neg a0 (k, false)
  simp only [cmpBB] at h4
  omega
end
end Go.Sx
