/- Part of a symbolic executor over the model, proved sound, with plain laws: SxOps7. Written for these claims. -/
import Derived.Test.YtchfacjjaahdnaaDoorSxOps6
namespace Go.Sx
open Go
set_option linter.unusedVariables false
set_option linter.unusedSimpArgs false

variable {P : Program} {G : Nat → Option (Nat × (Nat → D))} {nt : Nat} {C : Ctx} {I : Nat → Prop} {ρ : Nat → Loc} {F : Fs} {a : Act} {w : World} {E : List Nat} {T : Nat}

theorem append_nil_run (hc : Conc G nt C I ρ F a w) {T ty Et sz : Nat} {ti : TypeInfo} {z : Value} (hT : P.underlying T = some (.slice Et)) (hti : P.info? Et = some ti) (hz : ti.zero = some z) (hzs : z.cells.size = sz) (hts : ti.size = sz)
    {d m : Nat} {g2 : Nat → Nat → D} (hd : ¬ F.nm d) {vx : Value} (hvx : SrcIs I w sz m g2 vx) (h47 : m * ti.bytes ≤ 140737488355328) (h63 : m ≤ 9223372036854775807) :
    ∃ v w' ρ', (Builtin.append_ #[T, T] ty #[.slice none 0 0, vx]).run P w = .ok v w' ∧ Conc G nt C I ρ' (newO F d (.row Et sz m g2)) a w' ∧ RepS I ρ' w' (.osl d sz 0 m) v := by
  obtain ⟨bx, c, rfl, hsrc⟩ := hvx
  rcases Nat.eq_zero_or_pos m with rfl | hm
  · refine ⟨_, w, rhoSet ρ d ⟨0, 0, 0, sz⟩, run_append_zero hT hti _ _ _ _ _ (Nat.le_refl _), ?_, ?_⟩
    · refine hc.new hd (fun _ _ _ => rfl) (fun _ _ _ _ => rfl) hc.keep hc.ilt ?_ (by simp [inB]) (fun h => ?_)
      · exact ⟨rfl, rfl, Nat.le_refl _, fun h => absurd h (by simp)⟩
      · simp [live] at h
    · simp only [RepS, rhoSet, if_true]
      exact ⟨trivial, by simp, by simp, none, rfl, .inr trivial⟩
  · obtain ⟨ax, news, rfl, hnl, hncell, hnone, hnrep⟩ := hsrc hm
    have hge := grownCap_ge w m 0 Et
    have hr := run_append_nil (P := P) w T ty Et ti z hT hti hz ax m c news (by rw [hts]; exact hnl) hncell hm (by omega) (by omega)
    refine ⟨_, _, _, hr, conc_row_new hc hd ?_ hge ?_, osl_new hge⟩
    · simp only [Array.size_append, List.size_toArray, size_zeroCells, hzs, hnl]
      rw [← Nat.add_mul]
      congr 1; omega
    · intro i j hi hj
      obtain ⟨u, hu, hr⟩ := hnrep i j hi hj
      have : i * sz + sz ≤ m * sz := by rw [← Nat.succ_mul]; exact Nat.mul_le_mul_right _ (by omega)
      exact ⟨u, by simp only [Array.toList_append]; rw [List.getElem?_append_left (by omega)]; exact hu, hr⟩

theorem op_append (hc : Conc G nt C I ρ F a w) {o : Oper} {T : Nat} {vs vx : Value} (hd : dstOk nt o.dst)
    (hrun : ∀ v w', (Builtin.append_ #[T, T] o.type #[vs, vx]).run P w = .ok v w' → (execOp a.eval o).run P w = .ok (.value v) w')
    {Et : Nat} (hT : P.underlying T = some (.slice Et)) {sx sy : SV} (hx : RepS I ρ w sx vs) (hy : RepS I ρ w sy vx)
    {u : Upd} (t : To P G F (appendK P o.dst Et (P.cellsOf Et) sx sy) u) {F1 : Fs} (hp : Pubs F u.pub F1) (hf : ∀ n ∈ u.new, ¬ F.nm n) : OpOk P G nt C I ρ a w o (finF F1 u) := by
  obtain ⟨d, hdst, t⟩ := dstK_inv t
  split at t
  · exact t.fail_inv.elim
  · rename_i hz
    obtain ⟨ti, z, hti, hz, hzs, hts, hpos⟩ := zeroOk_inv hz
    have hby : P.bytesOf Et = ti.bytes := by simp [Program.bytesOf, hti]
    split at t
    · obtain ⟨m, g, t2, hs⟩ := To.srcK_inv hc t hy
      obtain ⟨⟨h47, h63⟩, t3⟩ := t2.need_inv
      have := t3.ret_inv; subst this
      cases hp
      simp only [RepS, RepD] at hx
      obtain ⟨v, w', ρ', h1, h2, h3⟩ := append_nil_run (ty := o.type) hc hT hti hz hzs hts (hf d (by simp)) hs (by rw [← hby]; exact h47) h63
      intro next Q hn
      refine wp_value (hrun v w' (by rw [hx.1]; exact h1)) (hn I ρ' v w' ?_)
      exact h2.put (dst := o.dst) (by rw [hdst] at hd ⊢; exact hd) h3 (by intro m hm; simp only [inS] at hm; exact .inl hm.symm)
    · obtain ⟨b, hb, t1⟩ := t.own_inv
      split at t1
      · split at t1
        · rename_i h1 h2
          have h1 := Nat.eq_of_beq_eq_true h1
          have h2 := Nat.eq_of_beq_eq_true h2
          subst h1
          subst h2
          split at t1
          · obtain ⟨m, g, t2, hs⟩ := To.srcK_inv hc t1 hy
            obtain ⟨⟨hl, h47, h63⟩, t3⟩ := t2.need_inv
            have := t3.ret_inv; subst this
            cases hp
            obtain ⟨v, w', ρ', h1, h2, h3⟩ := append_run (ty := o.type) hc hT hti hz hzs hts hpos hb (hl) (hf d (by simp)) hx hs (by rw [← hby]; exact h47) h63
            intro next Q hn
            refine wp_value (hrun v w' h1) (hn I ρ' v w' ?_)
            exact h2.put (dst := o.dst) (by rw [hdst] at hd ⊢; exact hd) h3 (by intro m hm; simp only [inS] at hm; exact .inl hm.symm)
          · obtain ⟨m, g, t2, hs⟩ := To.srcK_inv hc t1 hy
            obtain ⟨⟨hl, h47, h63⟩, t3⟩ := t2.need_inv
            have := t3.ret_inv; subst this
            cases hp
            obtain ⟨v, w', ρ', h1, h2, h3⟩ := append_run (ty := o.type) hc hT hti hz hzs hts hpos hb (Nat.le_of_eq hl) (hf d (by simp)) hx hs (by rw [← hby]; exact h47) h63
            intro next Q hn
            refine wp_value (hrun v w' h1) (hn I ρ' v w' ?_)
            exact h2.put (dst := o.dst) (by rw [hdst] at hd ⊢; exact hd) h3 (by intro m hm; simp only [inS] at hm; exact .inl hm.symm)
        · exact t1.fail_inv.elim
      · exact t1.fail_inv.elim
    · exact t.fail_inv.elim

theorem run_copy_rows {T ty Et : Nat} {i : TypeInfo} (hT : P.underlying T = some (.slice Et)) (hi : P.info? Et = some i) {g off dLen dCap : Nat} {ad : Addr} {sLen sCap : Nat} {cur : Array Value} {t : TypeId} {cs : List Value}
    (hg : RowAt w g cur t) (hn : cs.length = (min sLen dLen) * i.size)
    (hsrc : ∀ j v, cs[j]? = some v → w.cell? (ad.add j) = some v) (hfit : off + cs.length ≤ cur.size) (h1 : ∀ v ∈ cs, v.oneCell' = true) :
    (Builtin.copy_ #[T, T] ty #[.slice (some ⟨g, off, none⟩) dLen dCap, .slice (some ad) sLen sCap]).run P w =
      .ok (goInt (min sLen dLen : Nat)) (w.setRow g (cur.toList.take off ++ cs ++ cur.toList.drop (off + cs.length)).toArray) := by
  have hl := run_loadCells_list (P := P) w ad cs hsrc
  have hst := run_storeCells_row (P := P) g off t cs 0 cur w hg (by simpa using hfit) h1
  simp [Builtin.copy_, run_underlying hT, Builtin.lenOf, Builtin.firstCells, sizeOf, typeInfo, hi]
  rw [hn] at hl
  simp [Nat.min_def] at hl hst ⊢
  simp [hl, hst]
theorem run_copy_zero {T ty Et : Nat} {i : TypeInfo} (hT : P.underlying T = some (.slice Et)) (hi : P.info? Et = some i) {d ad : Option Addr} {sLen sCap dLen dCap : Nat} (hn : min sLen dLen = 0) :
    (Builtin.copy_ #[T, T] ty #[.slice d dLen dCap, .slice ad sLen sCap]).run P w = .ok (goInt (min sLen dLen : Nat)) w := by
  have hl : ∀ (x : Addr), (loadCells x 0).run P w = .ok #[] w := fun x => by simpa using run_loadCells_list (P := P) w x [] (by simp)
  have hn' : Nat.min sLen dLen = 0 := hn
  cases d <;> cases ad <;> simp [Builtin.copy_, run_underlying hT, Builtin.lenOf, Builtin.firstCells, sizeOf, typeInfo, hi, hn, hn', storeCells, hl]
theorem op_copy (hc : Conc G nt C I ρ F a w) {o : Oper} {T : Nat} {vs vx : Value} (hd : dstOk nt o.dst)
    (hrun : ∀ v w', (Builtin.copy_ #[T, T] o.type #[vs, vx]).run P w = .ok v w' → (execOp a.eval o).run P w = .ok (.value v) w')
    {Et : Nat} (hT : P.underlying T = some (.slice Et)) {sx sy : SV} (hx : RepS I ρ w sx vs) (hy : RepS I ρ w sy vx)
    {u : Upd} (t : To P G F (copyK P o.dst Et (P.cellsOf Et) sx sy) u) {F1 : Fs} (hp : Pubs F u.pub F1) : OpOk P G nt C I ρ a w o (finF F1 u) := by
  unfold copyK at t
  split at t
  · exact t.fail_inv.elim
  · rename_i hz
    obtain ⟨ti, z, hti, hz, hzs, hts, hpos⟩ := zeroOk_inv hz
    split at t
    · rename_i n s0 off len
      obtain ⟨b, hb, t1⟩ := t.own_inv
      split at t1
      · rename_i E' s L g
        split at t1
        · rename_i h1
          have h1 := Nat.eq_of_beq_eq_true h1
          subst h1
          obtain ⟨m, g2, t2, hs⟩ := To.srcK_inv hc t1 hy
          have := t2.ret_inv; subst this
          cases hp
          obtain ⟨h1, h2, h3, h4⟩ := hc.own n _ hb
          simp only [RepS] at hx
          obtain ⟨h5, h6, h7, ad, rfl, h8⟩ := hx
          obtain ⟨bx, c, rfl, hsrc⟩ := hs
          have es : s0 = P.cellsOf Et := h5.symm.trans h2
          rw [es] at h8
          intro next Q hn
          have hv : ∀ w' : World, RepS I ρ w' (.d (.int .i64 (min m len : Nat))) (goInt (min m len : Nat)) := fun w' => by simp [RepS, RepD, goInt]
          rcases Nat.eq_zero_or_pos (min m len) with e | hp0
          · refine wp_value (hrun _ _ (run_copy_zero hT hti e)) (hn I ρ _ w ?_)
            have hg : (fun i j => if off ≤ i ∧ i < off + min m len then g2 (i - off) j else g i j) = g := by
              funext i j
              rw [if_neg (by omega)]
            have hF : setO F n (.row E' (P.cellsOf Et) L fun i j => if off ≤ i ∧ i < off + min m len then g2 (i - off) j else g i j) = F := by
              rw [hg]
              unfold setO
              congr 1
              funext k
              split
              · rename_i h; rw [h, hb]
              · rfl
            show Conc G nt C I ρ (putS (setO F n _) o.dst _) _ _
            rw [hF]
            exact hc.put hd (hv w) (by simp [inS])
          · have hcap : 0 < (ρ n).cap := by omega
            obtain ⟨ax, news, rfl, hnl, hncell, hnone, hnrep⟩ := hsrc (by omega)
            obtain ⟨arr, h9, h10, h11⟩ := h4 hcap
            have h8 := h8.resolve_right (by omega)
            subst h8
            have hsz : min m len * P.cellsOf Et ≤ m * P.cellsOf Et := Nat.mul_le_mul_right _ (by omega)
            have hcl : (news.take (min m len * P.cellsOf Et)).length = min m len * P.cellsOf Et := by rw [List.length_take]; omega
            have hbig : (off + min m len) * P.cellsOf Et ≤ (ρ n).cap * P.cellsOf Et := Nat.mul_le_mul_right _ (by omega)
            rw [Nat.add_mul] at hbig
            have hr := run_copy_rows (P := P) (w := w) (ty := o.type) (dLen := len) (dCap := (ρ n).cap - off) (sLen := m) (sCap := c) hT hti h9 (off := off * P.cellsOf Et) (cs := news.take (min m len * P.cellsOf Et)) (by rw [hcl, hts]) (fun j v hj => by
              rw [List.getElem?_take] at hj
              split at hj
              · exact hncell j v hj
              · cases hj) (by rw [hcl, h10]; exact hbig) (fun v hv => hnone v (List.mem_of_mem_take hv))
            refine wp_value (hrun _ _ hr) (hn I ρ _ _ ?_)
            have hS : Same I w (w.setRow (ρ n).b (arr.toList.take (off * P.cellsOf Et) ++ news.take (min m len * P.cellsOf Et) ++ arr.toList.drop (off * P.cellsOf Et + (news.take (min m len * P.cellsOf Et)).length)).toArray) := same_setRow (hc.sep n _ hb hcap).1
            rw [finF_set]
            refine (hc.storeRow (blk := .row E' (P.cellsOf Et) L fun i j => if off ≤ i ∧ i < off + min m len then g2 (i - off) j else g i j) hb hcap (fun h => h) (fun h => h) ?_ (by simp [inB])).put hd (hv _) (by simp [inS])
            refine ⟨h1, h2, h3, fun _ => ⟨_, h9.set (by simp only [List.size_toArray, List.length_append, List.length_take, List.length_drop, Array.length_toList]; omega), ?_, ?_⟩⟩
            · simp only [List.size_toArray, List.length_append, List.length_take, List.length_drop, Array.length_toList]
              omega
            · have hl1 : (arr.toList.take (off * P.cellsOf Et)).length = off * P.cellsOf Et := by rw [List.length_take, Array.length_toList, h10]; omega
              intro i j hi hj
              by_cases hc1 : off ≤ i ∧ i < off + min m len
              · simp only [hc1, and_self, if_true]
                obtain ⟨u, hu, hr⟩ := hnrep (i - off) j (by omega) hj
                refine ⟨u, ?_, hr.mono (fun _ h => h) hS⟩
                have hidx : i * P.cellsOf Et + j = off * P.cellsOf Et + ((i - off) * P.cellsOf Et + j) := by
                  rw [← Nat.add_assoc, ← Nat.add_mul, show off + (i - off) = i by omega]
                have hlt : (i - off) * P.cellsOf Et + P.cellsOf Et ≤ min m len * P.cellsOf Et := by rw [← Nat.succ_mul]; exact Nat.mul_le_mul_right _ (by omega)
                rw [hidx]
                simp only [List.getElem?_toArray]
                rw [List.getElem?_append_left (by rw [List.length_append, hl1, hcl]; omega), List.getElem?_append_right (by omega), hl1, Nat.add_sub_cancel_left, List.getElem?_take, if_pos (by omega)]
                exact hu
              · simp only [hc1, if_false]
                obtain ⟨u, hu, hr⟩ := h11 i j hi hj
                refine ⟨u, ?_, hr.mono (fun _ h => h) hS⟩
                simp only [List.getElem?_toArray]
                by_cases hlo : i < off
                · have hlt : i * P.cellsOf Et + P.cellsOf Et ≤ off * P.cellsOf Et := by rw [← Nat.succ_mul]; exact Nat.mul_le_mul_right _ (by omega)
                  rw [List.append_assoc, List.getElem?_append_left (by omega), List.getElem?_take, if_pos (by omega)]
                  simpa using hu
                · have hlt : (off + min m len) * P.cellsOf Et ≤ i * P.cellsOf Et := Nat.mul_le_mul_right _ (by omega)
                  rw [Nat.add_mul] at hlt
                  rw [List.getElem?_append_right (by rw [List.length_append, hl1, hcl]; omega), List.length_append, hl1, hcl, List.getElem?_drop]
                  rw [show off * P.cellsOf Et + min m len * P.cellsOf Et + (i * P.cellsOf Et + j - (off * P.cellsOf Et + min m len * P.cellsOf Et)) = i * P.cellsOf Et + j by omega]
                  simpa using hu
        · exact t1.fail_inv.elim
      · exact t1.fail_inv.elim
    · exact t.fail_inv.elim
theorem sliceLen_inv {x : SV} {v : Value} {k : Nat → M Upd} {u : Upd} (h : To P G F (sliceLen x k) u) (hv : RepS I ρ w x v) : ∃ n, To P G F (k n) u ∧ ∃ ad c, v = .slice ad n c := by
  unfold sliceLen at h
  split at h
  · simp only [RepS, RepD] at hv
    obtain ⟨ad, c, rfl, _⟩ := hv
    exact ⟨_, h, _, _, rfl⟩
  · simp only [RepS, RepD] at hv
    obtain ⟨rfl, _⟩ := hv
    exact ⟨_, h, _, _, rfl⟩
  · simp only [RepS] at hv
    obtain ⟨_, _, _, ad, rfl, _⟩ := hv
    exact ⟨_, h, _, _, rfl⟩
  · exact h.fail_inv.elim

theorem repL_one {x : SV} {us : List Value} (h : RepL I ρ w [x] us) : ∃ v, us = [v] ∧ RepS I ρ w x v := by
  simp only [RepL] at h
  obtain ⟨v, r, rfl, hv, rfl⟩ := h
  exact ⟨v, rfl, hv⟩
theorem repL_two {x y : SV} {us : List Value} (h : RepL I ρ w [x, y] us) : ∃ v z, us = [v, z] ∧ RepS I ρ w x v ∧ RepS I ρ w y z := by
  simp only [RepL] at h
  obtain ⟨v, r, rfl, hv, z, r', rfl, hz, rfl⟩ := h
  exact ⟨v, z, rfl, hv, hz⟩

theorem op_builtin (hc : Conc G nt C I ρ F a w) {o : Oper} {b : Builtin} {args : List Operand} {ats : List Nat} (ho : o.op = .call ⟨.builtin b, ⟨args⟩, ⟨ats⟩⟩) (hd : dstOk nt o.dst)
    {u : Upd} (t : To P G F (opM P G E o.dst o.op) u) {F1 : Fs} (hp : Pubs F u.pub F1) (hf : ∀ n ∈ u.new, ¬ F.nm n) : OpOk P G nt C I ρ a w o (finF F1 u) := by
  rw [ho] at t
  simp only [opM] at t
  obtain ⟨cs, t1, hvs⟩ := To.evs_inv hc t
  have hrun : ∃ cst : Array Bool, (execOp a.eval o).run P w = (builtin b ⟨ats⟩ o.type cst ⟨args.map a.eval⟩).run P w := by
    refine ⟨(Array.mk args).map fun | .const _ => true | _ => false, ?_⟩
    simp only [execOp, ho, resolve, invoke, Sem.run_bind, Sem.run_pure, Result.andThen_ok, List.map_toArray]
    rfl
  obtain ⟨cst, hrun⟩ := hrun
  have hr := hvs.rep
  clear t
  unfold builtinK at t1
  split at t1
  · obtain ⟨v, hvr, hv⟩ := repL_one hr
    rw [hvr] at hrun
    split at t1
    · split at t1
      · rename_i hT
        split at t1
        · have := upd_inv t1; subst this
          cases hp
          have := rep_str hv; subst this
          refine opOk_val hc (val_d (rep_v (.int .i64 _) trivial)) hd ?_
          rw [hrun]
          simp [builtin, Builtin.len_, run_underlying hT, goInt, valD]
          rfl
        · exact t1.fail_inv.elim
      · rename_i hT
        obtain ⟨n, t2, ad, c, rfl⟩ := sliceLen_inv t1 hv
        have := upd_inv t2; subst this
        cases hp
        refine opOk_val hc (val_d (rep_v (.int .i64 _) trivial)) hd ?_
        rw [hrun]
        simp [builtin, Builtin.len_, run_underlying hT, goInt, valD]
      · exact t1.fail_inv.elim
    · exact t1.fail_inv.elim
  · obtain ⟨v, z, hvr, hv, hz⟩ := repL_two hr
    rw [hvr, rep_int hv, rep_int hz] at hrun
    have := upd_inv t1; subst this
    cases hp
    refine opOk_val hc (val_d (rep_v (.int _ _) trivial)) hd ?_
    rw [hrun]
    simp [builtin, Builtin.min_, Builtin.min2, valD]
  · obtain ⟨v, z, hvr, hv, hz⟩ := repL_two hr
    rw [hvr, rep_int hv, rep_int hz] at hrun
    have := upd_inv t1; subst this
    cases hp
    refine opOk_val hc (val_d (rep_v (.int _ _) trivial)) hd ?_
    rw [hrun]
    simp [builtin, Builtin.max_, Builtin.max2, valD]
  · obtain ⟨v, z, hvr, hv, hz⟩ := repL_two hr
    rw [hvr] at hrun
    split at t1
    · split at t1
      · rename_i hTT
        have hTT := Nat.eq_of_beq_eq_true hTT
        subst hTT
        obtain ⟨Et, hT, t2⟩ := To.elemK_inv t1
        refine op_append hc hd (fun v' w' h => ?_) hT hv hz t2 hp hf
        rw [hrun]
        simp only [builtin, Sem.run_bind, h, Result.andThen_ok, Sem.run_pure]
      · exact t1.fail_inv.elim
    · exact t1.fail_inv.elim
  · obtain ⟨v, z, hvr, hv, hz⟩ := repL_two hr
    rw [hvr] at hrun
    split at t1
    · split at t1
      · rename_i hTT
        have hTT := Nat.eq_of_beq_eq_true hTT
        subst hTT
        obtain ⟨Et, hT, t2⟩ := To.elemK_inv t1
        refine op_copy hc hd (fun v' w' h => ?_) hT hv hz t2 hp
        rw [hrun]
        simp only [builtin, Sem.run_bind, h, Result.andThen_ok, Sem.run_pure]
      · exact t1.fail_inv.elim
    · exact t1.fail_inv.elim
  · exact t1.fail_inv.elim

end Go.Sx
