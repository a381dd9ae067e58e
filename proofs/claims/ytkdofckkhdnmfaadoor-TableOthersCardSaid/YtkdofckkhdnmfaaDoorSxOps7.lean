/- Part of a symbolic executor over the model, proved sound, with plain laws: SxOps7. Written for these claims. -/
import Derived.Test.YtkdofckkhdnmfaaDoorSxOps6
namespace Go.Sx
open Go
set_option linter.unusedVariables false
set_option linter.unusedSimpArgs false

variable {P : Program} {G : Nat → Option (Nat × (Nat → D))} {nt : Nat} {C : Ctx} {I : Nat → Prop} {ρ : Nat → Loc} {F : Fs} {a : Act} {w : World} {E : List Nat} {T : Nat}

theorem append_nil_run (hc : Conc G nt C I ρ F a w) {T ty Et sz : Nat} {ti : TypeInfo} {z : Value} (hT : P.underlying T = some (.slice Et)) (hti : P.info? Et = some ti) (hz : ti.zero = some z) (hzs : z.cells.size = sz) (hts : ti.size = sz)
    {d m : Nat} {g2 : Nat → Nat → D} (hd : ¬ F.nm d) {vx : Value} (hvx : SrcIs I w sz m g2 vx) (h47 : m * ti.bytes ≤ 140737488355328) (h63 : m ≤ 9223372036854775807) :
    ∃ v w' ρ', (Builtin.append_ #[T, T] ty #[.slice none 0 0, vx]).run P w = .ok v w' ∧ Conc G nt C I ρ' (newO F d (.row Et sz m g2)) a w' ∧ RepS I ρ' w' (.osl d sz 0 m) v := by
  obtain ⟨bx, c, rfl, hsrc⟩ := hvx
  rcases Nat.eq_zero_or_pos m with rfl | hm
  · refine ⟨_, w, rhoSet ρ d ⟨0, 0, 0, sz⟩, run_append_zero hT hti _ _ _ _ _ (Nat.le_refl _), ?_, ?_⟩
    · refine hc.new hd (fun _ _ _ => rfl) (fun _ _ _ _ => rfl) hc.keep hc.ilt ?_ (by simp [inB]) (fun h => ?_)
      · exact ⟨rfl, rfl, Nat.le_refl _, fun h => absurd h (by simp)⟩
      · simp [live] at h
    · simp only [RepS, rhoSet, if_true]
      exact ⟨trivial, by simp, by simp, none, rfl, .inr trivial⟩
  · obtain ⟨ax, news, rfl, hnl, hncell, hnone, hnrep⟩ := hsrc hm
    have hge := grownCap_ge w m 0 Et
    have hr := run_append_nil (P := P) w T ty Et ti z hT hti hz ax m c news (by rw [hts]; exact hnl) hncell hm (by omega) (by omega)
    refine ⟨_, _, _, hr, conc_row_new hc hd ?_ hge ?_, osl_new hge⟩
    · simp only [Array.size_append, List.size_toArray, size_zeroCells, hzs, hnl]
      rw [← Nat.add_mul]
      congr 1; omega
    · intro i j hi hj
      obtain ⟨u, hu, hr⟩ := hnrep i j hi hj
      have : i * sz + sz ≤ m * sz := by rw [← Nat.succ_mul]; exact Nat.mul_le_mul_right _ (by omega)
      exact ⟨u, by simp only [Array.toList_append]; rw [List.getElem?_append_left (by omega)]; exact hu, hr⟩

theorem op_append (hc : Conc G nt C I ρ F a w) {o : Oper} {T : Nat} {vs vx : Value} (hd : dstOk nt o.dst)
    (hrun : ∀ v w', (Builtin.append_ #[T, T] o.type #[vs, vx]).run P w = .ok v w' → (execOp a.eval o).run P w = .ok (.value v) w')
    {Et : Nat} (hT : P.underlying T = some (.slice Et)) {sx sy : SV} (hx : RepS I ρ w sx vs) (hy : RepS I ρ w sy vx)
    {u : Upd} (t : To P G F (appendK P o.dst Et (P.cellsOf Et) sx sy) u) {F1 : Fs} (hp : Pubs F u.pub F1) (hf : ∀ n ∈ u.new, ¬ F.nm n) : OpOk P G nt C I ρ a w o (finF F1 u) := by
  obtain ⟨d, hdst, t⟩ := dstK_inv t
  split at t
  · exact t.fail_inv.elim
  · rename_i hz
    obtain ⟨ti, z, hti, hz, hzs, hts, hpos⟩ := zeroOk_inv hz
    have hby : P.bytesOf Et = ti.bytes := by simp [Program.bytesOf, hti]
    split at t
    · obtain ⟨m, g, t2, hs⟩ := To.srcK_inv hc t hy
      obtain ⟨⟨h47, h63⟩, t3⟩ := t2.need_inv
      have := t3.ret_inv; subst this
      cases hp
      simp only [RepS, RepD] at hx
      obtain ⟨v, w', ρ', h1, h2, h3⟩ := append_nil_run (ty := o.type) hc hT hti hz hzs hts (hf d (by simp)) hs (by rw [← hby]; exact h47) h63
      intro next Q hn
      refine wp_value (hrun v w' (by rw [hx.1]; exact h1)) (hn I ρ' v w' ?_)
      exact h2.put (dst := o.dst) (by rw [hdst] at hd ⊢; exact hd) h3 (by intro m hm; simp only [inS] at hm; exact .inl hm.symm)
    · obtain ⟨b, hb, t1⟩ := t.own_inv
      split at t1
      · split at t1
        · rename_i h1 h2
          have h1 := Nat.eq_of_beq_eq_true h1
          have h2 := Nat.eq_of_beq_eq_true h2
          subst h1
          subst h2
          split at t1
          · obtain ⟨m, g, t2, hs⟩ := To.srcK_inv hc t1 hy
            obtain ⟨⟨hl, h47, h63⟩, t3⟩ := t2.need_inv
            have := t3.ret_inv; subst this
            cases hp
            obtain ⟨v, w', ρ', h1, h2, h3⟩ := append_run (ty := o.type) hc hT hti hz hzs hts hpos hb (hl) (hf d (by simp)) hx hs (by rw [← hby]; exact h47) h63
            intro next Q hn
            refine wp_value (hrun v w' h1) (hn I ρ' v w' ?_)
            exact h2.put (dst := o.dst) (by rw [hdst] at hd ⊢; exact hd) h3 (by intro m hm; simp only [inS] at hm; exact .inl hm.symm)
          · obtain ⟨m, g, t2, hs⟩ := To.srcK_inv hc t1 hy
            obtain ⟨⟨hl, h47, h63⟩, t3⟩ := t2.need_inv
            have := t3.ret_inv; subst this
            cases hp
            obtain ⟨v, w', ρ', h1, h2, h3⟩ := append_run (ty := o.type) hc hT hti hz hzs hts hpos hb (Nat.le_of_eq hl) (hf d (by simp)) hx hs (by rw [← hby]; exact h47) h63
            intro next Q hn
            refine wp_value (hrun v w' h1) (hn I ρ' v w' ?_)
            exact h2.put (dst := o.dst) (by rw [hdst] at hd ⊢; exact hd) h3 (by intro m hm; simp only [inS] at hm; exact .inl hm.symm)
        · exact t1.fail_inv.elim
      · exact t1.fail_inv.elim
    · exact t.fail_inv.elim

theorem sliceLen_inv {x : SV} {v : Value} {k : Nat → M Upd} {u : Upd} (h : To P G F (sliceLen x k) u) (hv : RepS I ρ w x v) : ∃ n, To P G F (k n) u ∧ ∃ ad c, v = .slice ad n c := by
  unfold sliceLen at h
  split at h
  · simp only [RepS, RepD] at hv
    obtain ⟨ad, c, rfl, _⟩ := hv
    exact ⟨_, h, _, _, rfl⟩
  · simp only [RepS, RepD] at hv
    obtain ⟨rfl, _⟩ := hv
    exact ⟨_, h, _, _, rfl⟩
  · simp only [RepS] at hv
    obtain ⟨_, _, _, ad, rfl, _⟩ := hv
    exact ⟨_, h, _, _, rfl⟩
  · exact h.fail_inv.elim

theorem repL_one {x : SV} {us : List Value} (h : RepL I ρ w [x] us) : ∃ v, us = [v] ∧ RepS I ρ w x v := by
  simp only [RepL] at h
  obtain ⟨v, r, rfl, hv, rfl⟩ := h
  exact ⟨v, rfl, hv⟩
theorem repL_two {x y : SV} {us : List Value} (h : RepL I ρ w [x, y] us) : ∃ v z, us = [v, z] ∧ RepS I ρ w x v ∧ RepS I ρ w y z := by
  simp only [RepL] at h
  obtain ⟨v, r, rfl, hv, z, r', rfl, hz, rfl⟩ := h
  exact ⟨v, z, rfl, hv, hz⟩

theorem op_builtin (hc : Conc G nt C I ρ F a w) {o : Oper} {b : Builtin} {args : List Operand} {ats : List Nat} (ho : o.op = .call ⟨.builtin b, ⟨args⟩, ⟨ats⟩⟩) (hd : dstOk nt o.dst)
    {u : Upd} (t : To P G F (opM P G E o.dst o.op) u) {F1 : Fs} (hp : Pubs F u.pub F1) (hf : ∀ n ∈ u.new, ¬ F.nm n) : OpOk P G nt C I ρ a w o (finF F1 u) := by
  rw [ho] at t
  simp only [opM] at t
  obtain ⟨cs, t1, hvs⟩ := To.evs_inv hc t
  have hrun : ∃ cst : Array Bool, (execOp a.eval o).run P w = (builtin b ⟨ats⟩ o.type cst ⟨args.map a.eval⟩).run P w := by
    refine ⟨(Array.mk args).map fun | .const _ => true | _ => false, ?_⟩
    simp only [execOp, ho, resolve, invoke, Sem.run_bind, Sem.run_pure, Result.andThen_ok, List.map_toArray]
    rfl
  obtain ⟨cst, hrun⟩ := hrun
  have hr := hvs.rep
  clear t
  unfold builtinK at t1
  split at t1
  · obtain ⟨v, hvr, hv⟩ := repL_one hr
    rw [hvr] at hrun
    split at t1
    · split at t1
      · rename_i hT
        split at t1
        · have := upd_inv t1; subst this
          cases hp
          have := rep_str hv; subst this
          refine opOk_val hc (val_d (rep_v (.int .i64 _) trivial)) hd ?_
          rw [hrun]
          simp [builtin, Builtin.len_, run_underlying hT, goInt, valD]
          rfl
        · exact t1.fail_inv.elim
      · rename_i hT
        obtain ⟨n, t2, ad, c, rfl⟩ := sliceLen_inv t1 hv
        have := upd_inv t2; subst this
        cases hp
        refine opOk_val hc (val_d (rep_v (.int .i64 _) trivial)) hd ?_
        rw [hrun]
        simp [builtin, Builtin.len_, run_underlying hT, goInt, valD]
      · exact t1.fail_inv.elim
    · exact t1.fail_inv.elim
  · obtain ⟨v, z, hvr, hv, hz⟩ := repL_two hr
    rw [hvr, rep_int hv, rep_int hz] at hrun
    have := upd_inv t1; subst this
    cases hp
    refine opOk_val hc (val_d (rep_v (.int _ _) trivial)) hd ?_
    rw [hrun]
    simp [builtin, Builtin.min_, Builtin.min2, valD]
  · obtain ⟨v, z, hvr, hv, hz⟩ := repL_two hr
    rw [hvr, rep_int hv, rep_int hz] at hrun
    have := upd_inv t1; subst this
    cases hp
    refine opOk_val hc (val_d (rep_v (.int _ _) trivial)) hd ?_
    rw [hrun]
    simp [builtin, Builtin.max_, Builtin.max2, valD]
  · obtain ⟨v, z, hvr, hv, hz⟩ := repL_two hr
    rw [hvr] at hrun
    split at t1
    · split at t1
      · rename_i hTT
        have hTT := Nat.eq_of_beq_eq_true hTT
        subst hTT
        obtain ⟨Et, hT, t2⟩ := To.elemK_inv t1
        refine op_append hc hd (fun v' w' h => ?_) hT hv hz t2 hp hf
        rw [hrun]
        simp only [builtin, Sem.run_bind, h, Result.andThen_ok, Sem.run_pure]
      · exact t1.fail_inv.elim
    · exact t1.fail_inv.elim
  · exact t1.fail_inv.elim

end Go.Sx
