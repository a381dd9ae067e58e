/- Part of a symbolic executor over the model, proved sound, with plain laws: SxOps6. Written for these claims. -/
import Derived.Test.YtchfacjjaahdnaaDoorSxOps5
namespace Go.Sx
open Go
set_option linter.unusedVariables false
set_option linter.unusedSimpArgs false

variable {P : Program} {G : Nat → Option (Nat × (Nat → D))} {nt : Nat} {C : Ctx} {I : Nat → Prop} {ρ : Nat → Loc} {F : Fs} {a : Act} {w : World} {E : List Nat} {T : Nat}

/-- a slice value whose m elements read as g -/
def SrcIs (I : Nat → Prop) (w : World) (sz m : Nat) (g : Nat → Nat → D) (v : Value) : Prop :=
  ∃ ad c, v = .slice ad m c ∧ (0 < m → ∃ (b : Addr) (news : List Value), ad = some b ∧ news.length = m * sz ∧ (∀ j u, news[j]? = some u → w.cell? (b.add j) = some u) ∧ (∀ u ∈ news, u.oneCell' = true) ∧
    ∀ i j, i < m → j < sz → ∃ u, news[i * sz + j]? = some u ∧ RepD I w (g i j) u)

theorem srcIs_cells {sz m : Nat} {g : Nat → Nat → D} {b o c : Nat} (h : ∀ i j, i < m → j < sz → ∃ u, w.cell? ⟨b, o + i * sz + j, none⟩ = some u ∧ RepD I w (g i j) u) :
    SrcIs I w sz m g (.slice (some ⟨b, o, none⟩) m c) := by
  have key : ∀ k, k < m * sz → ∃ i j, i < m ∧ j < sz ∧ k = i * sz + j := by
    intro k hk
    have hsz : 0 < sz := Nat.pos_of_ne_zero (by rintro rfl; simp at hk)
    exact ⟨k / sz, k % sz, (Nat.div_lt_iff_lt_mul hsz).2 hk, Nat.mod_lt _ hsz, (Nat.div_add_mod' k sz).symm⟩
  refine ⟨_, _, rfl, fun hm => ⟨_, (List.range (m * sz)).map (fun k => (w.cell? ⟨b, o + k, none⟩).getD undef), rfl, by simp, ?_, ?_, ?_⟩⟩
  · intro k u hu
    rw [add_eq]
    simp only [List.getElem?_map, Option.map_eq_some_iff] at hu
    obtain ⟨k', hk', rfl⟩ := hu
    obtain ⟨hlt, he⟩ := List.getElem?_eq_some_iff.1 hk'
    simp at hlt he
    subst he
    obtain ⟨i, j, hi, hj, e⟩ := key k hlt
    obtain ⟨u, hu, _⟩ := h i j hi hj
    rw [e, ← Nat.add_assoc, hu]; rfl
  · intro u hu
    simp only [List.mem_map, List.mem_range] at hu
    obtain ⟨k, hk, rfl⟩ := hu
    obtain ⟨i, j, hi, hj, e⟩ := key k hk
    obtain ⟨u, hu, hr⟩ := h i j hi hj
    rw [e, ← Nat.add_assoc, hu]; exact hr.one
  · intro i j hi hj
    obtain ⟨u, hu, hr⟩ := h i j hi hj
    refine ⟨u, ?_, hr⟩
    have hlt : i * sz + j < m * sz := by
      have : i * sz + sz ≤ m * sz := by rw [← Nat.succ_mul]; exact Nat.mul_le_mul_right _ (by omega)
      omega
    rw [List.getElem?_map, List.getElem?_range hlt]
    simp [← Nat.add_assoc, hu]

theorem srcIs_list {sz m : Nat} {g : Nat → Nat → D} {v : Value} (hv : RepS I ρ w (.d (.list m sz g)) v) : SrcIs I w sz m g v := by
  simp only [RepS, RepD] at hv
  obtain ⟨ad, cap, rfl, _, hr⟩ := hv
  by_cases hm : 0 < m
  · obtain ⟨b, o, rfl, _, hcell⟩ := hr hm
    exact srcIs_cells hcell
  · exact ⟨_, _, rfl, fun h => absurd h hm⟩

theorem srcIs_osl (hc : Conc G nt C I ρ F a w) {n s off m Et sz l : Nat} {g : Nat → Nat → D} (hb : F.o n = some (.row Et sz l g)) {v : Value} (hv : RepS I ρ w (.osl n s off m) v) : SrcIs I w s m (fun i j => g (off + i) j) v := by
  simp only [RepS] at hv
  obtain ⟨h1, h2, h3, ad, rfl, h4⟩ := hv
  obtain ⟨h5, h6, h7, h8⟩ := hc.own n _ hb
  by_cases hm : 0 < m
  · have h4 := h4.resolve_right (by omega)
    subst h4
    obtain ⟨arr, h9, h10, h11⟩ := h8 (by omega)
    refine srcIs_cells (fun i j hi hj => ?_)
    obtain ⟨u, hu, hr⟩ := h11 (off + i) j (by omega) (by omega)
    refine ⟨u, ?_, hr⟩
    rw [h9.cell]
    rw [← h6, h1, Nat.add_mul] at hu
    simpa using hu
  · exact ⟨_, _, rfl, fun h => absurd h hm⟩

theorem To.srcK_inv (hc : Conc G nt C I ρ F a w) {sz : Nat} {x : SV} {v : Value} {k : Nat → (Nat → Nat → D) → M Upd} {u : Upd} (h : To P G F (srcK sz x k) u) (hv : RepS I ρ w x v) :
    ∃ m g, To P G F (k m g) u ∧ SrcIs I w sz m g v := by
  unfold srcK at h
  split at h
  · split at h
    · rename_i hs
      have hs := Nat.eq_of_beq_eq_true hs
      subst hs
      exact ⟨_, _, h, srcIs_list hv⟩
    · exact h.fail_inv.elim
  · refine ⟨_, _, h, ?_⟩
    simp only [RepS, RepD] at hv
    exact ⟨_, _, hv.1, fun h => absurd h (by simp)⟩
  · obtain ⟨b, hb, h'⟩ := h.own_inv
    clear h
    split at h'
    · split at h'
      · rename_i hs
        have hs := Nat.eq_of_beq_eq_true hs
        subst hs
        exact ⟨_, _, h', srcIs_osl hc hb hv⟩
      · exact h'.fail_inv.elim
    · exact h'.fail_inv.elim
  · exact h.fail_inv.elim

theorem zeroOk_inv {T sz : Nat} (h : zeroOk P T sz = true) : ∃ i z, P.info? T = some i ∧ i.zero = some z ∧ z.cells.size = sz ∧ i.size = sz ∧ 0 < sz := by
  unfold zeroOk at h
  split at h
  · rename_i i hi
    split at h
    · rename_i cs hz
      split at h
      · rename_i h1 h2
        have h1 := Nat.eq_of_beq_eq_true h1
        have h2 := Nat.eq_of_beq_eq_true h2
        exact ⟨i, _, hi, hz, by show cs.length = sz; omega, h2.symm, Nat.le_of_ble_eq_true h⟩
      · cases h
    all_goals first
      | (rename_i hz
         split at h
         · rename_i h1 h2
           have h1 := Nat.eq_of_beq_eq_true h1
           have h2 := Nat.eq_of_beq_eq_true h2
           exact ⟨i, _, hi, hz, by show 1 = sz; omega, h2.symm, by omega⟩
         · cases h)
      | cases h
  · cases h

theorem run_append_zero {t ty e : TypeId} {i : TypeInfo} (ht : P.underlying t = some (.slice e)) (hi : P.info? e = some i) (b ad : Option Addr) (n cap c : Nat) (h : n ≤ cap) :
    (Builtin.append_ #[t, t] ty #[.slice b n cap, .slice ad 0 c]).run P w = .ok (.slice b n cap) w := by
  cases b <;> cases ad <;> simp [Builtin.append_, run_underlying ht, sizeOf, typeInfo, hi, Builtin.lenOf, Builtin.firstCells, h, storeCells, loadCells, loadCellsFrom]

def RowPre (I : Nat → Prop) (w : World) (len sz : Nat) (us : List Value) (g : Nat → Nat → D) : Prop := ∀ i j, i < len → j < sz → ∃ u, us[i * sz + j]? = some u ∧ RepD I w (g i j) u

theorem rowPre_append {n m sz : Nat} {olds news pad : List Value} {g1 g2 : Nat → Nat → D} (h1 : RowPre I w n sz olds g1) (l1 : olds.length = n * sz) (h2 : RowPre I w m sz news g2) (l2 : news.length = m * sz) :
    RowPre I w (n + m) sz (olds ++ news ++ pad) (fun i j => if i < n then g1 i j else g2 (i - n) j) := by
  intro i j hi hj
  by_cases hlt : i < n
  · obtain ⟨u, hu, hr⟩ := h1 i j hlt hj
    have : i * sz + sz ≤ n * sz := by rw [← Nat.succ_mul]; exact Nat.mul_le_mul_right _ (by omega)
    refine ⟨u, ?_, by simpa [hlt] using hr⟩
    rw [List.append_assoc, List.getElem?_append_left (by omega)]
    exact hu
  · obtain ⟨u, hu, hr⟩ := h2 (i - n) j (by omega) hj
    have e : i * sz = n * sz + (i - n) * sz := by rw [← Nat.add_mul]; congr 1; omega
    have : (i - n) * sz + sz ≤ m * sz := by rw [← Nat.succ_mul]; exact Nat.mul_le_mul_right _ (by omega)
    refine ⟨u, ?_, by simpa [hlt] using hr⟩
    rw [List.append_assoc, List.getElem?_append_right (by omega), List.getElem?_append_left (by omega), l1, e]
    rw [show n * sz + (i - n) * sz + j - n * sz = (i - n) * sz + j by omega]
    exact hu

theorem conc_row_new (hc : Conc G nt C I ρ F a w) {d Et cap len sz : Nat} (hn : ¬ F.nm d) {arr : Array Value} {g : Nat → Nat → D} (hs : arr.size = cap * sz) (hl : len ≤ cap) (hr : RowPre I w len sz arr.toList g) :
    Conc G nt C I (rhoSet ρ d ⟨w.heap.size, cap, len, sz⟩) (newO F d (.row Et sz len g)) a (w.drew.alloc (.cells arr Et)) := by
  refine (hc.drew.newBlock (o := .cells arr Et) hn (cap := cap) (rl := len) (sz := sz) ?_ (by simp [inB]))
  refine ⟨rfl, rfl, hl, fun _ => ⟨arr, .of (heap_alloc_self w.drew _), hs, fun i j hi hj => ?_⟩⟩
  obtain ⟨u, hu, h⟩ := hr i j hi hj
  exact ⟨u, by simpa using hu, h.mono (fun _ h => h) (show Same I w _ from hc.drew.same_alloc _)⟩

theorem osl_new {d sz len cap : Nat} (hl : len ≤ cap) {w' : World} : RepS I (rhoSet ρ d ⟨w.heap.size, cap, len, sz⟩) w' (.osl d sz 0 len) (.slice (some ⟨w.heap.size, 0, none⟩) len cap) := by
  simp only [RepS, rhoSet, if_true]
  exact ⟨trivial, by omega, hl, _, rfl, .inl (by simp)⟩

theorem run_append_roomR {t ty e : TypeId} {i : TypeInfo} (ht : P.underlying t = some (.slice e)) (hi : P.info? e = some i)
    (g sLen sCap : Nat) (cur : Array Value) (hg : RowAt w g cur e)
    (a : Addr) (m c : Nat) (news : List Value) (hl : news.length = m * i.size) (hnews : ∀ j u, news[j]? = some u → w.cell? (a.add j) = some u) (h1 : ∀ u ∈ news, u.oneCell' = true)
    (hroom : sLen + m ≤ sCap) (hfit : sLen * i.size + news.length ≤ cur.size) :
    (Builtin.append_ #[t, t] ty #[.slice (some ⟨g, 0, none⟩) sLen sCap, .slice (some a) m c]).run P w =
      .ok (.slice (some ⟨g, 0, none⟩) (sLen + m) sCap) (w.setRow g (cur.toList.take (sLen * i.size) ++ news ++ cur.toList.drop (sLen * i.size + news.length)).toArray) := by
  have hf := run_firstCells_some (P := P) w i.size m a m c news hl hnews
  have hst := run_storeCells_row (P := P) g (sLen * i.size) e news 0 cur w hg (by simpa using hfit) h1
  simp only [Nat.add_zero] at hst
  simp [Builtin.append_, run_underlying ht, sizeOf, typeInfo, hi, Builtin.lenOf, hroom, hf, Addr.add_lit, hst]
/-- what an append comes to: a slice that owns the row -/
theorem append_run (hc : Conc G nt C I ρ F a w) {T ty Et sz : Nat} {ti : TypeInfo} {z : Value} (hT : P.underlying T = some (.slice Et)) (hti : P.info? Et = some ti) (hz : ti.zero = some z) (hzs : z.cells.size = sz) (hts : ti.size = sz)
    (hpos : 0 < sz) {d n len L m s0 : Nat} {g1 g2 : Nat → Nat → D} (hb : F.o n = some (.row Et sz L g1)) (hL : len ≤ L) (hd : ¬ F.nm d) {vs vx : Value} (hvs : RepS I ρ w (.osl n s0 0 len) vs) (hvx : SrcIs I w sz m g2 vx)
    (h47 : (len + m) * ti.bytes ≤ 140737488355328) (h63 : len + m ≤ 9223372036854775807) :
    ∃ v w' ρ', (Builtin.append_ #[T, T] ty #[vs, vx]).run P w = .ok v w' ∧
      Conc G nt C I ρ' (newO (delF F n) d (.row Et sz (len + m) fun i j => if i < len then g1 i j else g2 (i - len) j)) a w' ∧ RepS I ρ' w' (.osl d sz 0 (len + m)) v := by
  obtain ⟨h1, h2, h3, h4⟩ := hc.own n _ hb
  simp only [RepS] at hvs
  obtain ⟨h5, h6, h7, ad, rfl, h8⟩ := hvs
  obtain ⟨bx, c, rfl, hsrc⟩ := hvx
  have hc0 := hc.del n
  have hd0 : ¬ (delF F n).nm d := hd
  simp only [Nat.sub_zero, Nat.zero_mul] at h8 ⊢
  rcases Nat.eq_zero_or_pos m with rfl | hm
  · refine ⟨_, w, rhoSet ρ d ⟨(ρ n).b, (ρ n).cap, len, sz⟩, run_append_zero hT hti _ _ _ _ _ (by omega), ?_, ?_⟩
    · refine hc0.new hd0 (fun _ _ _ => rfl) (fun _ _ _ _ => rfl) hc.keep hc.ilt ?_ (by simp [inB]) ?_
      · refine ⟨rfl, rfl, by show len + 0 ≤ (ρ n).cap; omega, fun hcap => ?_⟩
        obtain ⟨arr, h9, h10, h11⟩ := h4 hcap
        refine ⟨arr, h9, h10, fun i j hi hj => ?_⟩
        obtain ⟨u, hu, hr⟩ := h11 i j (by omega) hj
        have hlt : i < len := by omega
        exact ⟨u, hu, by simpa [hlt] using hr⟩
      · intro hl
        refine ⟨(hc.sep n _ hb hl).1, hc.fresh n _ hb trivial hl, ?_⟩
        intro k b hk hlk e
        simp only [delF] at hk
        split at hk
        · cases hk
        · rename_i hne; exact hne (hc.inj k n _ _ hk hb hlk hl e)
    · simp only [RepS, rhoSet, if_true, Nat.add_zero, Nat.sub_zero]
      exact ⟨trivial, by omega, by omega, ad, rfl, by simpa using h8⟩
  · obtain ⟨ax, news, rfl, hnl, hncell, hnone, hnrep⟩ := hsrc hm
    by_cases hroom : len + m ≤ (ρ n).cap
    · have hcap : 0 < (ρ n).cap := by omega
      obtain ⟨arr, h9, h10, h11⟩ := h4 hcap
      have h8 := h8.resolve_right (by omega)
      subst h8
      have hfit : len * sz + news.length ≤ arr.size := by rw [hnl, h10, ← Nat.add_mul]; exact Nat.mul_le_mul_right _ hroom
      have hr := run_append_roomR (P := P) (ty := ty) hT hti (ρ n).b len (ρ n).cap arr h9 ax m c news (by rw [hts]; exact hnl) hncell hnone hroom (by rw [hts]; exact hfit)
      rw [hts] at hr
      have hnI := (hc.sep n _ hb hcap).1
      have hS : Same I w (w.setRow (ρ n).b (arr.toList.take (len * sz) ++ news ++ arr.toList.drop (len * sz + news.length)).toArray) := same_setRow hnI
      refine ⟨_, _, rhoSet ρ d ⟨(ρ n).b, (ρ n).cap, len + m, sz⟩, hr, ?_, ?_⟩
      · refine hc0.new hd0 hS ?_ ?_ ?_ ?_ (by simp [inB]) ?_
        · intro k b hk hlk
          simp only [delF] at hk
          split at hk
          · cases hk
          · rename_i hne; exact setRow_ne _ _ _ _ (fun e => hne (hc.inj k n _ _ hk hb hlk hcap e))
        · refine hc.keep.trans (keep_setRow (fun k => k = (ρ n).b) w _ _ rfl) ?_
          rintro i rfl; exact .inr (hc.fresh n _ hb trivial hcap)
        · intro b hb'; have := hc.ilt b hb'; simpa [World.setRow] using this
        · refine ⟨rfl, rfl, hroom, fun _ => ⟨_, h9.set (by simp only [List.size_toArray, List.length_append, List.length_take, List.length_drop, Array.length_toList]; omega), ?_, ?_⟩⟩
          · simp only [List.size_toArray, List.length_append, List.length_take, List.length_drop, Array.length_toList]
            omega
          · have h12 := rowPre_append (I := I) (w := w) (n := len) (m := m) (sz := sz) (olds := arr.toList.take (len * sz)) (news := news) (pad := arr.toList.drop (len * sz + news.length)) (g1 := g1) (g2 := g2) ?_ ?_ hnrep hnl
            · intro i j hi hj
              obtain ⟨u, hu, hr⟩ := h12 i j hi hj
              exact ⟨u, by simpa using hu, hr.mono (fun _ h => h) hS⟩
            · intro i j hi hj
              obtain ⟨u, hu, hr⟩ := h11 i j (by omega) hj
              have : i * sz + sz ≤ len * sz := by rw [← Nat.succ_mul]; exact Nat.mul_le_mul_right _ (by omega)
              exact ⟨u, by rw [List.getElem?_take, if_pos (by omega)]; simpa using hu, hr⟩
            · simp; omega
        · intro _
          refine ⟨hnI, hc.fresh n _ hb trivial hcap, ?_⟩
          intro k b hk hlk e
          simp only [delF] at hk
          split at hk
          · cases hk
          · rename_i hne; exact hne (hc.inj k n _ _ hk hb hlk hcap e)
      · simp only [RepS, rhoSet, if_true, Nat.sub_zero, Nat.zero_mul]
        exact ⟨trivial, by omega, hroom, _, rfl, .inl rfl⟩
    · have hlt : (ρ n).cap < len + m := by omega
      have hge := grownCap_ge w (len + m) (ρ n).cap Et
      by_cases hcap : 0 < (ρ n).cap
      · obtain ⟨arr, h9, h10, h11⟩ := h4 hcap
        have h8 := h8.resolve_right (by omega)
        subst h8
        have hle : len * sz ≤ arr.size := by rw [h10]; exact Nat.mul_le_mul_right _ (by omega)
        have hr := run_append_grow (P := P) w T ty Et ti z hT hti hz ⟨(ρ n).b, 0, none⟩ len (ρ n).cap (arr.toList.take (len * sz)) (by rw [hts]; simp; omega) (by
          intro j v hj
          rw [add_eq]
          rw [h9.cell]
          rw [List.getElem?_take] at hj
          split at hj
          · simpa using hj
          · cases hj) ax m c news (by rw [hts]; exact hnl) hncell hlt (by omega) (growslice_fits hlt h47)
        refine ⟨_, _, _, hr, conc_row_new hc0 hd0 ?_ hge ?_, osl_new hge⟩
        · simp only [Array.size_append, List.size_toArray, List.length_take, Array.length_toList, size_zeroCells, hzs, hnl]
          rw [Nat.min_eq_left hle, ← Nat.add_mul, ← Nat.add_mul]
          congr 1; omega
        · simp only [Array.toList_append]
          refine rowPre_append ?_ (by simp; omega) hnrep hnl
          intro i j hi hj
          obtain ⟨u, hu, hr⟩ := h11 i j (by omega) hj
          have : i * sz + sz ≤ len * sz := by rw [← Nat.succ_mul]; exact Nat.mul_le_mul_right _ (by omega)
          exact ⟨u, by rw [List.getElem?_take, if_pos (by omega)]; simpa using hu, hr⟩
      · have hcap0 : (ρ n).cap = 0 := by omega
        have hlen0 : len = 0 := by omega
        subst hlen0
        have hcont : RowPre I w m sz news (fun i j => if i < 0 then g1 i j else g2 (i - 0) j) := by
          intro i j hi hj
          simpa using hnrep i j hi hj
        cases ad with
        | none =>
          rw [hcap0] at *
          have hr := run_append_nil (P := P) w T ty Et ti z hT hti hz ax m c news (by rw [hts]; exact hnl) hncell hm (by omega) (by have := h47; simp only [Nat.zero_add] at this; omega)
          simp only [Nat.zero_add] at hge ⊢
          refine ⟨_, _, _, hr, conc_row_new hc0 hd0 ?_ hge ?_, osl_new hge⟩
          · simp only [Array.size_append, List.size_toArray, size_zeroCells, hzs, hnl]
            rw [← Nat.add_mul]
            congr 1; omega
          · intro i j hi hj
            obtain ⟨u, hu, hr⟩ := hcont i j hi hj
            have : i * sz + sz ≤ m * sz := by rw [← Nat.succ_mul]; exact Nat.mul_le_mul_right _ (by omega)
            exact ⟨u, by simp only [Array.toList_append]; rw [List.getElem?_append_left (by omega)]; exact hu, hr⟩
        | some b0 =>
          have hr := run_append_grow (P := P) w T ty Et ti z hT hti hz b0 0 (ρ n).cap [] (by simp) (by simp) ax m c news (by rw [hts]; exact hnl) hncell hlt (by omega) (growslice_fits hlt h47)
          refine ⟨_, _, _, hr, conc_row_new hc0 hd0 ?_ hge ?_, osl_new hge⟩
          · simp only [Array.size_append, List.size_toArray, size_zeroCells, hzs, hnl, List.length_nil]
            rw [Nat.zero_add, ← Nat.add_mul]
            congr 1; omega
          · intro i j hi hj
            obtain ⟨u, hu, hr⟩ := hcont i j (by omega) hj
            have : i * sz + sz ≤ m * sz := by rw [← Nat.succ_mul]; exact Nat.mul_le_mul_right _ (by omega)
            exact ⟨u, by simp only [Array.toList_append, List.nil_append]; rw [List.getElem?_append_left (by omega)]; exact hu, hr⟩

end Go.Sx
