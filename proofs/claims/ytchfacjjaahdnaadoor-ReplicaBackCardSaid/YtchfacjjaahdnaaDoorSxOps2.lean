/- Part of a symbolic executor over the model, proved sound, with plain laws: SxOps2. Written for these claims. -/
import Derived.Test.YtchfacjjaahdnaaDoorSxOps
namespace Go.Sx
open Go
set_option linter.unusedVariables false
set_option linter.unusedSimpArgs false

variable {P : Program} {G : Nat → Option (Nat × (Nat → D))} {nt : Nat} {C : Ctx} {I : Nat → Prop} {ρ : Nat → Loc} {F : Fs} {a : Act} {w : World} {E : List Nat}

/-! ### store -/
theorem setRow_ne (w : World) (g : Nat) (cs : Array Value) (k : Nat) (h : k ≠ g) : (w.setRow g cs).heap[k]? = w.heap[k]? := setRow_other w g k cs h

theorem keep_setRow (S : Nat → Prop) (w : World) (g : Nat) (cs : Array Value) (h : S g) : Keep S w (w.setRow g cs) :=
  ⟨rfl, rfl, rfl, by simp [World.setRow], fun k _ hs => setRow_ne w g cs k (by rintro rfl; exact hs h)⟩

theorem same_setRow {g : Nat} {cs : Array Value} (h : ¬ I g) : Same I w (w.setRow g cs) :=
  fun b _ hb => World.cell?_of_block (setRow_ne w g cs b (by rintro rfl; exact h hb))

/-- the cells at a place of an own block are written -/
theorem Conc.storeRow (hc : Conc G nt C I ρ F a w) {n : Nat} {b0 blk : Blk} (h0 : F.o n = some b0) (hl : live (ρ n) b0) (hl0 : live (ρ n) blk → live (ρ n) b0) (hr0 : rowLike blk → rowLike b0)
    {cs : Array Value} (hblk : BlkOk I ρ (w.setRow (ρ n).b cs) (ρ n) blk) (hnames : ∀ m, inB m blk → F.nm m) :
    Conc G nt C I ρ (setO F n blk) a (w.setRow (ρ n).b cs) := by
  have hs := hc.sep n b0 h0 hl
  refine hc.store h0 hl0 hr0 (same_setRow hs.1) (fun m b hm hne hlm => setRow_ne _ _ _ _ (fun e => hne (hc.inj m n b b0 hm h0 hlm hl e))) ?_ ?_ hblk hnames
  · refine hc.keep.trans (keep_setRow (fun k => k = (ρ n).b) w _ cs rfl) ?_
    rintro i rfl
    exact hs.2.symm
  · intro b hb; have := hc.ilt b hb; simpa [World.setRow] using this

theorem run_storeVar' {T : Nat} {i : TypeInfo} (hi : P.info? T = some i) {g off E : Nat} {us : List Value} (hg : RowAt w g ⟨us⟩ E) {v : Value} {new : List Value} (hv : v.cells = ⟨new⟩)
    (hsz : new.length = i.size) (hfit : off + new.length ≤ us.length) (h1 : ∀ x ∈ new, x.oneCell' = true) :
    (storeVar T ⟨g, off, none⟩ v).run P w = .ok () (w.setRow g (us.take off ++ new ++ us.drop (off + new.length)).toArray) := by
  have hst := run_storeCells_row (P := P) g off E new 0 ⟨us⟩ w hg (by simpa using hfit) h1
  simp only [Nat.add_zero] at hst
  have hsz' : v.cells.size = i.size := by rw [hv]; exact hsz
  simp only [storeVar, Sem.run_bind, run_sizeOf' hi, Result.andThen_ok, hsz', ne_eq, not_true_eq_false, if_false, Sem.run_pure]
  rw [hv]
  exact hst

theorem inL_splice {m off : Nat} {new cs : List SV} (h : inL m (cs.take off ++ new ++ cs.drop (off + new.length))) : inL m cs ∨ inL m new := by
  rw [inL_mem] at h
  obtain ⟨c, hc, hn⟩ := h
  simp only [List.mem_append] at hc
  rcases hc with (hc | hc) | hc
  · exact .inl (inL_mem.2 ⟨c, List.mem_of_mem_take hc, hn⟩)
  · exact .inr (inL_mem.2 ⟨c, hc, hn⟩)
  · exact .inl (inL_mem.2 ⟨c, List.mem_of_mem_drop hc, hn⟩)

theorem To.dK_inv {sv : SV} {k : D → M Upd} {u : Upd} (h : To P G F (dK sv k) u) : ∃ x, sv = .d x ∧ To P G F (k x) u := by
  cases sv <;> first | exact ⟨_, rfl, h⟩ | exact h.fail_inv.elim
theorem To.dcells_inv {u : Upd} : ∀ {cs : List SV} {k : List D → M Upd}, To P G F (dcells cs k) u → ∃ ds, cs = ds.map .d ∧ To P G F (k ds) u
  | [], k, h => ⟨[], rfl, h⟩
  | c :: cs, k, h => by
    simp only [dcells, mapK] at h
    obtain ⟨x, e1, h1⟩ := To.dK_inv h
    obtain ⟨ds, e2, h2⟩ := To.dcells_inv (cs := cs) h1
    exact ⟨x :: ds, by rw [e1, e2]; rfl, h2⟩

theorem RepL.data {ds : List D} {us : List Value} (h : RepL I ρ w (ds.map .d) us) : ∀ j, j < ds.length → ∃ u, us[j]? = some u ∧ RepD I w (ds.getD j default) u := by
  intro j hj
  obtain ⟨v, hv, hr⟩ := h.get (n := j) (x := .d (ds.getD j default)) (by simp [List.getD, hj])
  exact ⟨v, hv, by simpa only [RepS] using hr⟩

theorem op_store (hc : Conc G nt C I ρ F a w) {o : Oper} {T : Nat} {x y : Operand} (ho : o.op = .store T x y) (hd : dstOk nt o.dst) {u : Upd} (t : To P G F (opM P G E o.dst o.op) u)
    {F1 : Fs} (hp : Pubs F u.pub F1) : OpOk P G nt C I ρ a w o (finF F1 u) := by
  rw [ho] at t
  obtain ⟨sv, t, hv⟩ := To.ev_inv hc t
  have hrun : ∀ ad w', a.eval x = .pointer (some ad) → (storeVar T ad (a.eval y)).run P w = .ok () w' → (execOp a.eval o).run P w = .ok .skip w' := by
    intro ad w' h1 h2
    simp [execOp, ho, h1, Instr.storeAt, Instr.sureAddr, h2]
  have hT : ∀ n, sizeIs P T n = true → ∃ i, P.info? T = some i ∧ n = i.size := by
    intro n hn
    unfold sizeIs at hn
    split at hn
    · exact ⟨_, by assumption, Nat.eq_of_beq_eq_true hn⟩
    · simp at hn
  split at t
  · rename_i n off
    have hx : a.eval x = .pointer (some ⟨(ρ n).b, off, none⟩) := by simpa only [RepS] using hv.rep
    obtain ⟨sv2, t, hv2⟩ := To.ev_inv hc t
    obtain ⟨new, us2, t, h1, h2, h3⟩ := To.cellsK_inv t hv2.rep
    split at t
    · rename_i hle
      obtain ⟨i, hi, hsz⟩ := hT _ hle
      obtain ⟨b, hb, t⟩ := t.own_inv
      split at t
      · rename_i cs
        obtain ⟨h4, t⟩ := To.spliceK_inv t
        have := t.ret_inv; subst this
        cases hp
        rw [finF_set]
        obtain ⟨us, Eb, h5, h6⟩ := hc.own n _ hb
        have hl2 := h1.1.length
        have hl6 := h6.1.length
        intro next Q hn
        have hst := run_storeVar' (P := P) hi (.of h5) (off := off) h2 (by omega) (by omega) h1.2
        refine wp_skip' (hrun _ _ hx hst) (hn I ρ _ _ (Conc.put (v := undef) ?_ hd (by simp [RepS]) (by simp [inS])))
        refine hc.storeRow (blk := .box (cs.take off ++ new ++ cs.drop (off + new.length))) (cs := (us.take off ++ us2 ++ us.drop (off + us2.length)).toArray) hb trivial (fun h => h) (fun h => h) ⟨_, Eb, setRow_heap w _ _ _ Eb _ h5, ?_, ?_⟩ ?_
        · refine RepL.mono (fun _ h => h) (same_setRow (hc.sep n _ hb trivial).1) (fun _ _ => rfl) ?_
          rw [← hl2]
          exact (((h6.1.take off).append h1.1).append (h6.1.drop _))
        · intro z hz
          simp only [List.mem_append] at hz
          rcases hz with (hz | hz) | hz
          · exact h6.2 z (List.mem_of_mem_take hz)
          · exact h1.2 z hz
          · exact h6.2 z (List.mem_of_mem_drop hz)
        · intro m hm
          rcases inL_splice hm with hm | hm
          · exact hc.onames n _ m hb hm
          · exact hv2.nm m (h3 m hm)
      · exact t.fail_inv.elim
    · exact t.fail_inv.elim
  · rename_i n sz i off
    have hx := hv.rep
    simp only [RepS] at hx
    obtain ⟨hxs, hx⟩ := hx
    obtain ⟨sv2, t, hv2⟩ := To.ev_inv hc t
    obtain ⟨new, us2, t, h1, h2, h3⟩ := To.cellsK_inv t hv2.rep
    obtain ⟨ds, e, t1⟩ := To.dcells_inv t
    subst e
    clear t
    have t := t1
    clear t1
    split at t
    · rename_i hle
      obtain ⟨ti, hi, hsz⟩ := hT _ hle
      obtain ⟨b, hb, t⟩ := t.own_inv
      split at t
      · rename_i E sz' len get
        split at t
        · rename_i hfit
          have hfit : off + ds.length ≤ sz' := Nat.le_of_ble_eq_true hfit
          obtain ⟨hil, t⟩ := t.need_inv
          have := t.ret_inv; subst this
          cases hp
          rw [finF_set]
          obtain ⟨h4, h5, h6, h7⟩ := hc.own n _ hb
          have hcap : 0 < (ρ n).cap := by omega
          obtain ⟨arr, h8, h9, h10⟩ := h7 hcap
          have hl2 := h1.1.length
          simp only [List.length_map] at hl2
          have hszz : sz' = sz := by rw [← h5, hxs]
          subst hszz
          have hbig : i * sz' + (off + ds.length) ≤ arr.size := by
            have h11 : i * sz' + sz' ≤ (ρ n).cap * sz' := by rw [← Nat.succ_mul]; exact Nat.mul_le_mul_right _ (by omega)
            omega
          obtain ⟨al⟩ := arr
          intro next Q hn
          have hst := run_storeVar' (P := P) hi h8 (off := i * sz' + off) h2 (by omega) (by simp at hbig ⊢; omega) h1.2
          refine wp_skip' (hrun _ _ hx hst) (hn I ρ _ _ (Conc.put (v := undef) ?_ hd (by simp [RepS]) (by simp [inS])))
          refine hc.storeRow (blk := .row E sz' len fun i' j' => if i' = i then (if j' < off then get i' j' else if j' < off + ds.length then ds.getD (j' - off) default else get i' j') else get i' j')
            (cs := (al.take (i * sz' + off) ++ us2 ++ al.drop (i * sz' + off + us2.length)).toArray) hb hcap (fun h => h) (fun h => h) ⟨h4, h5, h6, fun _ => ⟨_, h8.set (by simp at hbig ⊢; omega), ?_, ?_⟩⟩ (by simp [inB])
          · simp at h9 hbig ⊢; omega
          · intro i' j' hi' hj'
            have hmono : ∀ {x : D} {v : Value}, RepD I w x v → RepD I (w.setRow (ρ n).b (al.take (i * sz' + off) ++ us2 ++ al.drop (i * sz' + off + us2.length)).toArray) x v :=
              fun h => h.mono (fun _ h => h) (same_setRow (hc.sep n _ hb hcap).1)
            obtain ⟨y, hy, hr⟩ := h10 i' j' hi' hj'
            simp only [List.getElem?_toArray] at hy ⊢
            simp at h9 hbig
            have hlow : (al.take (i * sz' + off)).length = i * sz' + off := by simp; omega
            by_cases hii : i' = i
            · subst hii
              simp only [if_true]
              by_cases hj1 : j' < off
              · simp only [hj1, if_true]
                refine ⟨y, ?_, hmono hr⟩
                rw [List.append_assoc, List.getElem?_append_left (by omega), List.getElem?_take, if_pos (by omega)]
                exact hy
              · simp only [hj1, if_false]
                by_cases hj2 : j' < off + ds.length
                · simp only [hj2, if_true]
                  obtain ⟨z, hz, hrz⟩ := h1.1.data (j' - off) (by omega)
                  refine ⟨z, ?_, hmono hrz⟩
                  rw [List.append_assoc, List.getElem?_append_right (by omega), List.getElem?_append_left (by omega), hlow]
                  rw [show i' * sz' + j' - (i' * sz' + off) = j' - off by omega]
                  exact hz
                · simp only [hj2, if_false]
                  refine ⟨y, ?_, hmono hr⟩
                  rw [List.append_assoc, List.getElem?_append_right (by omega), List.getElem?_append_right (by omega), List.getElem?_drop, hlow]
                  rw [show i' * sz' + off + us2.length + (i' * sz' + j' - (i' * sz' + off) - us2.length) = i' * sz' + j' by omega]
                  exact hy
            · simp only [hii, if_false]
              refine ⟨y, ?_, hmono hr⟩
              by_cases hlt : i' < i
              · have : i' * sz' + sz' ≤ i * sz' := by rw [← Nat.succ_mul]; exact Nat.mul_le_mul_right _ (by omega)
                rw [List.append_assoc, List.getElem?_append_left (by omega), List.getElem?_take, if_pos (by omega)]
                exact hy
              · have : i * sz' + sz' ≤ i' * sz' := by rw [← Nat.succ_mul]; exact Nat.mul_le_mul_right _ (by omega)
                rw [List.append_assoc, List.getElem?_append_right (by omega), List.getElem?_append_right (by omega), List.getElem?_drop, hlow]
                rw [show i * sz' + off + us2.length + (i' * sz' + j' - (i * sz' + off) - us2.length) = i' * sz' + j' by omega]
                exact hy
        · exact t.fail_inv.elim
      · exact t.fail_inv.elim
    · exact t.fail_inv.elim
  · exact t.fail_inv.elim

end Go.Sx
