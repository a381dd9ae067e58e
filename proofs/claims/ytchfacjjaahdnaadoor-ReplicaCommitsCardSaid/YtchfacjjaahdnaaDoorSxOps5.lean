/- Part of a symbolic executor over the model, proved sound, with plain laws: SxOps5. Written for these claims. -/
import Derived.Test.YtchfacjjaahdnaaDoorSxOps4
namespace Go.Sx
open Go
set_option linter.unusedVariables false
set_option linter.unusedSimpArgs false

variable {P : Program} {G : Nat → Option (Nat × (Nat → D))} {nt : Nat} {C : Ctx} {I : Nat → Prop} {ρ : Nat → Loc} {F : Fs} {a : Act} {w : World} {E : List Nat} {T : Nat}

/-- the cells of a row of len elements of sz cells read as g -/
def RowIs (I : Nat → Prop) (w : World) (len sz : Nat) (us : List Value) (g : Nat → Nat → D) : Prop :=
  us.length = len * sz ∧ ∀ i j, i < len → j < sz → ∃ u, us[i * sz + j]? = some u ∧ RepD I w (g i j) u

theorem RowIs.splice {len sz n : Nat} {us new : List Value} {g : Nat → Nat → D} (h : RowIs I w len sz us g) (hn : n < len) (hl : new.length = sz) {ds : List D} (hds : ds.length = sz)
    (hnew : ∀ j, j < sz → ∃ u, new[j]? = some u ∧ RepD I w (ds.getD j default) u) :
    RowIs I w len sz (us.take (n * sz) ++ new ++ us.drop (n * sz + new.length)) (fun i j => if i = n then ds.getD j default else g i j) := by
  obtain ⟨h1, h2⟩ := h
  have hb : n * sz + sz ≤ len * sz := by rw [← Nat.succ_mul]; exact Nat.mul_le_mul_right _ (by omega)
  have hlow : (us.take (n * sz)).length = n * sz := by simp; omega
  refine ⟨by simp; omega, fun i j hi hj => ?_⟩
  by_cases e : i = n
  · subst e
    obtain ⟨u, hu, hr⟩ := hnew j hj
    refine ⟨u, ?_, by simpa using hr⟩
    rw [List.append_assoc, List.getElem?_append_right (by omega), List.getElem?_append_left (by omega), hlow, show i * sz + j - i * sz = j by omega]
    exact hu
  · obtain ⟨u, hu, hr⟩ := h2 i j hi hj
    refine ⟨u, ?_, by simpa [e] using hr⟩
    by_cases hlt : i < n
    · have : i * sz + sz ≤ n * sz := by rw [← Nat.succ_mul]; exact Nat.mul_le_mul_right _ (by omega)
      rw [List.append_assoc, List.getElem?_append_left (by omega), List.getElem?_take, if_pos (by omega)]
      exact hu
    · have : n * sz + sz ≤ i * sz := by rw [← Nat.succ_mul]; exact Nat.mul_le_mul_right _ (by omega)
      rw [List.append_assoc, List.getElem?_append_right (by omega), List.getElem?_append_right (by omega), List.getElem?_drop, hlow]
      rw [show n * sz + new.length + (i * sz + j - n * sz - new.length) = i * sz + j by omega]
      exact hu

theorem rowIs_zero {len sz : Nat} {us : List Value} {ds : List D} (hsz : 0 < sz) (hl : us.length = sz) (h : ∀ j, j < sz → ∃ u, us[j]? = some u ∧ RepD I w (ds.getD j default) u) :
    RowIs I w len sz ((Array.range (len * sz)).map ((Array.mk us)[· % (Array.mk us).size]!)).toList (fun _ j => ds.getD j default) := by
  refine ⟨by simp, fun i j hi hj => ?_⟩
  have hb : i * sz + sz ≤ len * sz := by rw [← Nat.succ_mul]; exact Nat.mul_le_mul_right _ (by omega)
  obtain ⟨u, hu, hr⟩ := h j hj
  refine ⟨u, ?_, hr⟩
  have hm : (i * sz + j) % sz = j := by rw [Nat.mul_comm, Nat.mul_add_mod, Nat.mod_eq_of_lt hj]
  have hs : (Array.mk us).size = sz := hl
  simp only [Array.toList_map, List.getElem?_map, Array.toList_range]
  rw [List.getElem?_range (by omega)]
  simp only [Option.map_some, hs, hm]
  have : (Array.mk us)[j]? = some u := by simpa using hu
  simp [getElem!_def, this]

theorem To.sliceParts_inv {sz : Nat} {u : Upd} {ps : List (Nat × List SV)} {vs : List (Nat × Value)} (hp : PartsR I ρ F w ps vs) :
    ∀ {k : List (Nat × List D) → List Nat → M Upd}, To P G F (sliceParts sz ps k) u → ∃ ds ns, To P G F (k ds ns) u ∧ RowNames F ns ∧
      ∀ (I' : Nat → Prop), (∀ b, I b → I' b) → (∀ n ∈ ns, 0 < (ρ n).cap → I' (ρ n).b) → (∀ n b, F.o n = some b → BlkOk I' ρ w (ρ n) b) →
      ∀ (len : Nat) (us : List Value) (g : Nat → Nat → D), (∀ p ∈ vs, p.1 < len) → RowIs I' w len sz us g →
        ∃ ws, Instr.fill (fun i => some (i * sz, sz)) ⟨us⟩ vs = some ⟨ws⟩ ∧ RowIs I' w len sz ws (tabF g ds) := by
  induction hp with
  | nil => intro k h; exact ⟨[], [], h, by simp [RowNames], fun I' _ _ _ len us g _ hr => ⟨us, by simp [Instr.fill], hr⟩⟩
  | @cons i cs v us0 ps vs h1 h2 h3 _ ih =>
    intro k h
    simp only [sliceParts] at h
    obtain ⟨cs', ms, h, g1, g2, g3⟩ := To.lendCells_inv (ρ := ρ) (w := w) h
    obtain ⟨ds, e, h'⟩ := To.dcells_inv h
    subst e
    clear h
    have h := h'
    clear h'
    split at h
    · rename_i hl
      have hl := Nat.eq_of_beq_eq_true hl
      obtain ⟨ds', ns, h, h4, h5⟩ := ih h
      refine ⟨(i, ds) :: ds', ms ++ ns, h, ?_, ?_⟩
      · intro m hm
        simp only [List.mem_append] at hm
        exact hm.elim (g1 m) (h4 m)
      · intro I' hI hc hB len us g hin hr
        have hcs : RepL I' ρ w (ds.map .d) us0 := g3 I' us0 (fun n hn => hc n (by simp [hn])) hB (h2.1.mono hI (fun _ _ _ => rfl) (fun _ _ => rfl))
        have hlen := hcs.length
        simp only [List.length_map] at hlen
        have hi : i < len := hin (i, v) (by simp)
        have hstep := hr.splice (n := i) hi (new := us0) (by omega) (ds := ds) hl (fun j hj => hcs.data j (by omega))
        obtain ⟨ws, h6, h7⟩ := h5 I' hI (fun n hn => hc n (by simp [hn])) hB len _ _ (fun p hp => hin p (by simp [hp])) hstep
        refine ⟨ws, ?_, h7⟩
        have hb : i * sz + sz ≤ len * sz := by rw [← Nat.succ_mul]; exact Nat.mul_le_mul_right _ (by omega)
        rw [fill_splice h1 (off := i * sz) (by simp; omega) (by have := hr.1; omega)]
        exact h6
    · exact h.fail_inv.elim

theorem partsIn_inv {len : Nat} : ∀ {ps : List (Nat × Operand)}, partsIn len ps = true → ∀ p ∈ ps, p.1 < len
  | [], _ => by simp
  | (i, x) :: ps, h => by
    simp only [partsIn] at h
    split at h
    · rename_i hi
      have hi : i < len := Nat.le_of_ble_eq_true hi
      intro p hp
      simp only [List.mem_cons] at hp
      rcases hp with rfl | hp
      · exact hi
      · exact partsIn_inv h p hp
    · cases h

theorem Conc.alloc_any (hc : Conc G nt C I ρ F a w) (o : Obj) : Conc G nt C I ρ F a (w.alloc o) :=
  hc.world (fun _ h => h) (hc.same_alloc o) (fun _ _ hm hl => heap_alloc_lt w o (hc.live_lt hm hl)) (fun _ _ hm hl => (hc.sep _ _ hm hl).1)
    (fun b hb => by have := hc.ilt b hb; simp; omega) hc.i1 (hc.keep.trans (keep_alloc (fun _ => False) w o) (fun _ h => h.elim))

/-- a new immutable block -/
theorem Conc.allocI (hc : Conc G nt C I ρ F a w) (o : Obj) : Conc G nt C (fun b => I b ∨ b = w.heap.size) ρ F a (w.alloc o) :=
  (hc.alloc_any o).world (fun _ h => .inl h) (fun _ _ _ => rfl) (fun _ _ _ _ => rfl)
    (fun m b hm hl => by
      rintro (h | h)
      · exact (hc.sep m b hm hl).1 h
      · have := hc.live_lt hm hl; omega)
    (fun b hb => by
      rcases hb with hb | rfl
      · have := hc.ilt b hb; simp; omega
      · simp)
    (fun b hb => by
      rcases hb with hb | rfl
      · exact hc.i1 b hb
      · exact .inr hc.keep.size)
    (hc.keep.trans (keep_alloc (fun _ => False) w o) (fun _ h => h.elim))

theorem op_buildSlice (hc : Conc G nt C I ρ F a w) {o : Oper} {T len : Nat} {parts : Array (Nat × Operand)} (ho : o.op = .buildSlice T len parts) (hd : dstOk nt o.dst) {u : Upd} (t : To P G F (opM P G E o.dst o.op) u)
    {F1 : Fs} (hp : Pubs F u.pub F1) : OpOk P G nt C I ρ a w o (finF F1 u) := by
  rw [ho] at t
  simp only [opM] at t
  obtain ⟨Et, hT, t⟩ := To.elemK_inv t
  obtain ⟨i, z, cs, us, hi, hz, hzc, hul, t, h1, h2⟩ := To.zeroK_inv (I := I) (ρ := ρ) (w := w) t
  obtain ⟨zd, e, t'⟩ := To.dcells_inv t
  subst e
  clear t
  have t := t'
  clear t'
  obtain ⟨ps, t, h3⟩ := To.parts_inv hc t
  have hcs : P.cellsOf Et = i.size := by simp [Program.cellsOf, hi]
  split at t
  · rename_i hin hble hpos
    have hin := partsIn_inv hin
    have hble : len * i.size ≤ 16777216 := by rw [← hcs]; exact Nat.le_of_ble_eq_true hble
    have hpos : 0 < P.cellsOf Et := Nat.le_of_ble_eq_true hpos
    obtain ⟨ds, ns, t, h4, h5⟩ := To.sliceParts_inv h3 t
    have := t.ret_inv; subst this
    obtain ⟨I1, hc1, hI, hpub, hnm, _⟩ := hp.conc hc
    have hB : ∀ n b, F.o n = some b → BlkOk I1 ρ w (ρ n) b := fun n b hb => (hc.own n b hb).mono hI (fun _ _ _ => rfl) (fun _ _ => rfl) (fun _ => rfl)
    have hz0 : RepL I ρ w (zd.map .d) us := h1.1
    have hzl := hz0.length
    simp only [List.length_map] at hzl
    have hrow := rowIs_zero (I := I1) (w := w) (len := len) (sz := P.cellsOf Et) (us := us) (ds := zd) hpos (by omega) (fun j hj => by
      obtain ⟨v, hv, hr⟩ := hz0.data j (by omega)
      exact ⟨v, hv, hr.mono hI (fun _ _ _ => rfl)⟩)
    obtain ⟨ws, h6, h7⟩ := h5 I1 hI (fun n hn hcap => hpub n hn (h4 n hn) hcap) hB len _ _ (by
      intro p hp
      simp only [List.mem_map] at hp
      obtain ⟨q, hq, rfl⟩ := hp
      exact hin q hq) hrow
    have hcv := hc1.allocI (.cells ⟨ws⟩ Et)
    intro next Q hn
    refine wp_value (v := .slice (some ⟨w.heap.size, 0, none⟩) len len) (w' := w.alloc (.cells ⟨ws⟩ Et)) ?_ (hn _ _ _ _ (hcv.put hd ?_ (by simp [inS])))
    · have h24 : ¬ (len * i.size > 2 ^ 24) := by omega
      by_cases hl0 : len * i.size = 0
      · have h6' : Instr.fill (fun j => some (j * i.size, i.size)) ((Array.range (len * i.size)).map ((#[] : Array Value)[· % (#[] : Array Value).size]!)) (parts.map fun (i, x) => (i, a.eval x)).toList = some ⟨ws⟩ := by
          rw [Array.toList_map]
          have e : ∀ f : Nat → Value, (Array.range (len * i.size)).map f = #[] := by intro f; rw [hl0]; simp
          rw [e]
          have h6 := h6
          simp only [hcs] at h6
          rw [e] at h6
          exact h6
        simp only [execOp, ho, Instr.buildSlice, Sem.run_bind, run_underlying hT, Result.andThen_ok, run_sizeOf' hi, Sem.run_ite, if_false, Sem.run_pure, hl0, if_true]
        rw [hl0] at h6'
        simp only [h6', Sem.run_bind, newRow, run_newObj, Sem.run_pure, Result.andThen_ok, World.alloc_eq]
        simp
      · have h6' : Instr.fill (fun j => some (j * i.size, i.size)) ((Array.range (len * i.size)).map ((Array.mk us)[· % (Array.mk us).size]!)) (parts.map fun (i, x) => (i, a.eval x)).toList = some ⟨ws⟩ := by
          rw [Array.toList_map, ← hcs]
          exact h6
        simp only [execOp, ho, Instr.buildSlice, Sem.run_bind, run_underlying hT, Result.andThen_ok, run_sizeOf' hi, Sem.run_ite, h24, if_false, Sem.run_pure, hl0, run_zeroValue' hi hz, hzc, h6', newRow, run_newObj, World.alloc_eq]
    · simp only [RepS, RepD]
      refine ⟨_, _, rfl, Nat.le_refl _, fun _ => ⟨_, _, rfl, .inr rfl, fun i' j' hi' hj' => ?_⟩⟩
      obtain ⟨y, hy, hr⟩ := h7.2 i' j' hi' hj'
      refine ⟨y, ?_, hr.mono (fun _ h => .inl h) (hc1.same_alloc _)⟩
      have : (w.alloc (.cells ⟨ws⟩ Et)).heap[w.heap.size]? = some (.cells ⟨ws⟩ Et) := heap_alloc_self w _
      simp only [World.cell?, this]
      simpa using hy
  · exact t.fail_inv.elim

end Go.Sx
