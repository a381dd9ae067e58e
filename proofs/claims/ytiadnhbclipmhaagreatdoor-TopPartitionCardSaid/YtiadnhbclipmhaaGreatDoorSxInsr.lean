/- Part of a symbolic executor over the model, proved sound, with plain laws: SxInsr. Written for these claims. -/
import Derived.Test.YtiadnhbclipmhaaGreatDoorSxCall
import Derived.Shelf.Spec.SlicesInsertGrow
import Derived.Shelf.Spec.SlicesGrow
import Derived.Test.YtiadnhbclipmhaaGreatDoorSxRen
import Derived.Test.YtiadnhbclipmhaaGreatDoorSxPub2
set_option linter.unusedVariables false
set_option linter.unusedSimpArgs false
set_option linter.unusedVariables false
set_option linter.unusedSimpArgs false
namespace Go.Proofs
open Go.Shelf Go.RowKit Go.Lib
variable {P : Program} {ρ : Ren}
theorem setCells_row (g : Nat) : ∀ (vs : List Value) (o : Nat) (cur : Array Value) (t : TypeId) (fr : Nat × Nat) (w : World), w.heap[g]? = some (.cells cur t fr) → o + vs.length ≤ cur.size →
    ∃ arr : Array Value, w.setCells g o vs = w.setRow g arr ∧ arr.size = cur.size ∧ ∀ j : Nat, arr[j]? = if o ≤ j ∧ j < o + vs.length then vs[j - o]? else cur[j]?
  | [], o, cur, t, fr, w, hg, _ => ⟨cur, (setRow_self w g cur t fr hg).symm, rfl, fun j => by rw [if_neg (by simp)]⟩
  | v :: r, o, cur, t, fr, w, hg, hl => by
    have hlo : o < cur.size := by simp at hl; omega
    obtain ⟨arr, h1, h2, h3⟩ := setCells_row g r (o + 1) (cur.setIfInBounds o v) t fr (w.setRow g (cur.setIfInBounds o v)) (setRow_heap w g cur _ t fr hg) (by simp at hl ⊢; omega)
    refine ⟨arr, ?_, by rw [h2]; simp, fun j => ?_⟩
    · show (w.setCell ⟨g, o, none⟩ v).setCells g (o + 1) r = _
      rw [setCell_eq_setRow w g o cur t fr v hg, h1, setRow_setRow]
    · rw [h3]
      by_cases e : j = o
      · subst e
        rw [if_neg (by omega), if_pos (by simp), Array.getElem?_setIfInBounds_self_of_lt hlo, Nat.sub_self]; rfl
      · by_cases h : o + 1 ≤ j ∧ j < o + 1 + r.length
        · rw [if_pos h, if_pos (by simp; omega), show j - o = (j - (o + 1)) + 1 by omega, List.getElem?_cons_succ]
        · rw [if_neg h, if_neg (by simp; omega), Array.getElem?_setIfInBounds_ne (Ne.symm e)]
set_option maxHeartbeats 4000000 in
set_option maxRecDepth 100000 in
theorem Any2.slices_Insert_int_shift1 (L : Lays2.n21 P ρ) (b off n c i vb voff m vc : Nat) (cs vs : List Value) (w : World) (hi : i < n) (hm : 0 < m) (hroom : n + m ≤ c) (hc63 : n + m ≤ 9223372036854775807) (hvb : vb ≠ b)
    (hcl : cs.length = n) (hvl : vs.length = m)
    (hcs : ∀ j v, cs[j]? = some v → w.cell? ⟨b, off + j, none⟩ = some v) (hsp : ∀ j, j < n + m → (w.cell? ⟨b, off + j, none⟩).isSome = true) (hfz : ∀ j, j < n + m → w.frozen? ⟨b, off + j, none⟩ = false)
    (hvs : ∀ j v, vs[j]? = some v → w.cell? ⟨vb, voff + j, none⟩ = some v) (h1c : ∀ v ∈ cs, v.oneCell' = true) (h1v : ∀ v ∈ vs, v.oneCell' = true)
    (tA tB : TypeId) (kA kB : Nat) (hsa : w.shape? vb = some (tA, kA)) (hsb : w.shape? b = some (tB, kB)) (hkB : kB ≠ 0) (hfa : w.frozen? ⟨vb, voff, none⟩ = false) (hfe : w.frozen? ⟨vb, kA, none⟩ = false) :
    Calls P (ρ.f 21) #[.slice (some ⟨b, off, none⟩) n c, .int .i64 i, .slice (some ⟨vb, voff, none⟩) m vc] w fun e w' =>
      e = .returned (.slice (some ⟨b, off, none⟩) (n + m) c) ∧ w' = (w.drew.setCells b (off + (i + m)) (cs.drop i)).setCells b (off + i) vs := by
  have t0 := L.t0; have a0 := L.a0; have z0 := L.z0; have v0 := L.v0; have t3 := L.t3; have a3 := L.a3; have z3 := L.z3; have v3 := L.v3; have t4 := L.t4; have a4 := L.a4; have z4 := L.z4; have v4 := L.v4; have t22 := L.t22; have a22 := L.a22; have z22 := L.z22; have v22 := L.v22
  have u0 := run_underlying L.t0; have u3 := run_underlying L.t3; have u4 := run_underlying L.t4; have u22 := run_underlying L.t22
  have hz1 : ¬ ((m : Int) = 0) := by omega
  have hz2 : ¬ ((i : Int) = (n : Int)) := by omega
  have hsz : (P.info? (ρ.t 3)).map (·.size) = some 1 := by
    obtain ⟨i0, hi0, h0, h1, h2⟩ := info_parts L.i3
    rw [hi0]; simp [h1]
  have hov : ∀ lb cb, (callFunc (ρ.f 27) #[.slice (some ⟨vb, voff, none⟩) m vc, .slice (some ⟨b, off + (i + m), none⟩) lb cb]).run P w = .ok (.value (.bool false)) w := fun lb cb => by
    rw [run_callFunc_extern L.f27 (by kernel_rfl) (by kernel_rfl) (by kernel_rfl) (e := Extern.SlicesOverlaps.overlaps #[(ρ.t 22), (ρ.t 22)] #[(ρ.t 4)]) (by kernel_rfl),
      Lib.run_overlaps_apart w (ρ.t 22) (ρ.t 4) (ρ.t 3) L.t22 1 L.z3 ⟨vb, voff, none⟩ ⟨b, off + (i + m), none⟩ m vc lb cb hvb tA tB kA kB hsa hsb hkB hfa hfe]
    rfl
  have hdl : (cs.drop i).length = n - i := by rw [List.length_drop, hcl]
  have mixed := L.mixed
  have hw1 : IntKind.i64.wrap ((i : Int) + (m : Int)) = (i : Int) + (m : Int) := by rw [IntKind.wrap_i64]; omega
  have hw2 : IntKind.i64.wrap ((n : Int) + (m : Int)) = (n : Int) + (m : Int) := by rw [IntKind.wrap_i64]; omega
  have hb1 : (0 : Int) ≤ (i : Int) + (m : Int) := by omega
  have hin : i ≤ n := by omega
  have htn : ((i : Int) + (m : Int)).toNat = i + m := by omega
  have hb2 : ¬ (c = i + m) := by omega
  have hb3 : (i : Int) ≤ (n : Int) + (m : Int) := by omega
  have hb4 : ¬ (c = i) := by omega
  have hcp1 : ∀ ty dc sc, (Builtin.copy_ #[(ρ.t 22), (ρ.t 22)] ty #[.slice (some ⟨b, off + (i + m), none⟩) (n + m - (i + m)) dc, .slice (some ⟨b, off + i, none⟩) (n + m - i) sc]).run P w.drew = .ok (goInt (cs.drop i).length) (w.drew.setCells b (off + (i + m)) (cs.drop i)) := fun ty dc sc =>
    run_copy_cells w.drew _ _ ty (ρ.t 3) b (off + (i + m)) (n + m - (i + m)) dc ⟨b, off + i, none⟩ (n + m - i) sc (cs.drop i) L.t22 hsz (by rw [hdl]; simp only [Nat.min_def]; split <;> omega)
      (fun j v hj => by rw [Addr.add_lit, Nat.add_assoc]; exact hcs (i + j) v (by rwa [List.getElem?_drop] at hj))
      (fun j hj => by rw [Nat.add_assoc]; exact hsp _ (by omega)) (fun j hj => by rw [Nat.add_assoc]; exact hfz _ (by omega)) (fun v hv => h1c v (List.mem_of_mem_drop hv))
  obtain ⟨W1, hW1⟩ : ∃ W1, W1 = w.drew.setCells b (off + (i + m)) (cs.drop i) := ⟨_, rfl⟩
  have hsp1 : ∀ k, k < n + m → (W1.cell? ⟨b, off + k, none⟩).isSome = true := fun k hk => by
    rw [hW1]
    exact isSome_setCells b _ _ _ (fun j hj => by rw [Nat.add_assoc]; exact hsp _ (by omega)) _ (hsp k hk)
  have hcp2 : ∀ (W : World), (∀ x, W.cell? x = W1.cell? x) → (∀ x, W.frozen? x = W1.frozen? x) → ∀ ty dc, (Builtin.copy_ #[(ρ.t 22), (ρ.t 22)] ty #[.slice (some ⟨b, off + i, none⟩) (n + m - i) dc, .slice (some ⟨vb, voff, none⟩) m vc]).run P W = .ok (goInt vs.length) (W.setCells b (off + i) vs) := fun W hWc hWf ty dc =>
    run_copy_cells W _ _ ty (ρ.t 3) b (off + i) (n + m - i) dc ⟨vb, voff, none⟩ m vc vs L.t22 hsz (by rw [hvl]; simp only [Nat.min_def]; split <;> omega)
      (fun j v hj => by
        rw [Addr.add_lit, hWc, hW1, World.cell?_setCells_out b _ _ _ _ (fun h _ => absurd h hvb)]
        exact hvs j v hj)
      (fun j hj => by rw [hWc, Nat.add_assoc]; exact hsp1 _ (by omega)) (fun j hj => by rw [hWf, hW1, World.frozen?_setCells, Nat.add_assoc]; exact hfz _ (by omega)) h1v
  rw [← hW1] at hcp1
  go_enter L.f21, Body2.n21_ntmps ρ
  go_wp2_with (simp only [hov])
  go_region_law_o (refine step_copy_runI rfl _ _ (ρ.t 22) (ρ.t 22) rfl _ _ (by simp [Act.eval, Act.put]) (by simp [Act.eval, Act.put]) (hcp1 _ _ _) ?_)
  go_wp2_with (at_builtin; refine wpList_copy_runI _ rfl _ _ (ρ.t 22) (ρ.t 22) rfl _ _ rfl rfl (hcp2 _ (fun _ => rfl) (fun _ => rfl) _ _) ?_)
  go_ret
  first | exact ⟨rfl, rfl⟩ | exact ⟨rfl, by rw [hW1]⟩
set_option maxHeartbeats 4000000 in
set_option maxRecDepth 100000 in
theorem Any2.slices_Insert_int_end_room1 (L : Lays2.n21 P ρ) (b off n c vb voff m vc : Nat) (vs : List Value) (w : World) (hm : 0 < m) (hroom : n + m ≤ c) 
    (hvl : vs.length = m) (hsp : ∀ j, j < m → (w.cell? ⟨b, off + n + j, none⟩).isSome = true) (hfz : ∀ j, j < m → w.frozen? ⟨b, off + n + j, none⟩ = false)
    (hvs : ∀ j v, vs[j]? = some v → w.cell? ⟨vb, voff + j, none⟩ = some v) (h1v : ∀ v ∈ vs, v.oneCell' = true) :
    Calls P (ρ.f 21) #[.slice (some ⟨b, off, none⟩) n c, .int .i64 n, .slice (some ⟨vb, voff, none⟩) m vc] w fun e w' =>
      e = .returned (.slice (some ⟨b, off, none⟩) (n + m) c) ∧ w' = w.setCells b (off + n) vs := by
  have t0 := L.t0; have a0 := L.a0; have z0 := L.z0; have v0 := L.v0; have t3 := L.t3; have a3 := L.a3; have z3 := L.z3; have v3 := L.v3; have t4 := L.t4; have a4 := L.a4; have z4 := L.z4; have v4 := L.v4; have t22 := L.t22; have a22 := L.a22; have z22 := L.z22; have v22 := L.v22
  have u0 := run_underlying L.t0; have u3 := run_underlying L.t3; have u4 := run_underlying L.t4; have u22 := run_underlying L.t22
  have mixed := L.mixed
  have hz1 : ¬ ((m : Int) = 0) := by omega
  have hsrc : Src P 1 (ρ.t 22) (.slice (some ⟨vb, voff, none⟩) m vc) m vs w := Src.ofSlice w L.t22 ⟨vb, voff, none⟩ m vc vs (by omega) (fun j u hj => by rw [Addr.add_lit]; exact hvs j u hj) h1v
  go_enter L.f21, Body2.n21_ntmps ρ
  go_wp2_with (at_builtin; refine wpList_append_room1 _ rfl _ _ (ρ.t 22) (ρ.t 22) rfl (ρ.t 3) _ _ L.t22 L.i3 b off n c rfl _ rfl m vs hsrc hroom (by rw [hvl]; exact hsp) (by rw [hvl]; exact hfz) ?_)
  go_ret
  exact ⟨rfl, rfl⟩
theorem row_get {arr : Array Value} {cs : List Value} {o n i : Nat} {x : Value} {arr1 arr2 : Array Value} (hi : i ≤ n) (hl : cs.length = n) (hc : ∀ (j : Nat) (v : Value), cs[j]? = some v → arr[o + j]? = some v)
    (h1 : ∀ j : Nat, arr1[j]? = if o + (i + 1) ≤ j ∧ j < o + (i + 1) + (cs.drop i).length then (cs.drop i)[j - (o + (i + 1))]? else arr[j]?)
    (h2 : ∀ j : Nat, arr2[j]? = if o + i ≤ j ∧ j < o + i + [x].length then [x][j - (o + i)]? else arr1[j]?) : ∀ (j : Nat) (v : Value), (cs.take i ++ x :: cs.drop i)[j]? = some v → arr2[o + j]? = some v := by
  intro j v hj
  have ht : (cs.take i).length = i := by rw [List.length_take]; omega
  have hd : (cs.drop i).length = n - i := by rw [List.length_drop, hl]
  rw [h2]
  by_cases e : j < i
  · rw [List.getElem?_append_left (by omega), List.getElem?_take, if_pos e] at hj
    rw [if_neg (by omega), h1, if_neg (by omega)]
    exact hc j v hj
  · by_cases e2 : j = i
    · subst e2
      rw [List.getElem?_append_right (by omega), ht, Nat.sub_self] at hj
      rw [if_pos (by simp), Nat.sub_self]; exact hj
    · rw [List.getElem?_append_right (by omega), ht, show j - i = (j - i - 1) + 1 by omega, List.getElem?_cons_succ] at hj
      have hlt := (List.getElem?_eq_some_iff.1 hj).1
      rw [if_neg (by simp; omega), h1, if_pos (by omega), ← hj]
      congr 1; omega
theorem insOk_of (L : Lays2.n21 P ρ) : Go.Sx.InsOk P (ρ.f 21) (ρ.t 3) where
  enter := enters_of L.f21 (by kernel_rfl) rfl
  run := by
    intro w ad b o n c i vb vc Ev cs x hin hnc hcl hbig h1c h1x hrow hvb
    have hsa : w.shape? vb = some (Ev, 1) := by simp [World.shape?, hvb]
    have hfa : ∀ k, w.frozen? ⟨vb, k, none⟩ = false := fun k => by simp [World.frozen?, hvb]
    have hvs : ∀ j v, [x][j]? = some v → w.cell? ⟨vb, 0 + j, none⟩ = some v := by
      intro j v hj
      simp only [World.cell?, hvb, Option.isSome_none, Bool.false_eq_true, if_false, Nat.zero_add]
      simpa using hj
    by_cases hc0 : 0 < c
    · obtain ⟨rfl, hne, arr, fr, hb, hfr, hsz, hcont⟩ := hrow hc0
      have hR : Go.Sx.RowAt w b arr (ρ.t 3) := ⟨fr, hb, hfr⟩
      have hsb : w.shape? b = some (ρ.t 3, arr.size) := by simp [World.shape?, hb]
      have hcs : ∀ j v, cs[j]? = some v → w.cell? ⟨b, o + j, none⟩ = some v := fun j v hj => by rw [hR.cell]; exact hcont j v hj
      have hsp : ∀ j, j < c → (w.cell? ⟨b, o + j, none⟩).isSome = true := fun j hj => by
        rw [hR.cell, Array.getElem?_eq_getElem (by omega)]; rfl
      have hfz : ∀ j, j < c → w.frozen? ⟨b, o + j, none⟩ = false := fun j hj => hR.frozen (by omega)
      by_cases hroom : n + 1 ≤ c
      · by_cases hlt : i < n
        · refine (Any2.slices_Insert_int_shift1 L b o n c i vb 0 1 vc cs [x] w hlt (by omega) hroom (by omega) hne hcl rfl hcs (fun j hj => hsp j (by omega)) (fun j hj => hfz j (by omega)) hvs h1c (by simpa using h1x) Ev (ρ.t 3) 1 arr.size hsa hsb (by omega) (hfa 0) (hfa 1)).mono ?_
          rintro e w' ⟨rfl, rfl⟩
          have hdl : (cs.drop i).length = n - i := by rw [List.length_drop, hcl]
          obtain ⟨arr1, e1, s1, g1⟩ := setCells_row b (cs.drop i) (o + (i + 1)) arr (ρ.t 3) fr w.drew hb (by rw [hdl]; omega)
          have hb1 := setRow_heap w.drew b arr arr1 (ρ.t 3) fr hb
          obtain ⟨arr2, e2, s2, g2⟩ := setCells_row b [x] (o + i) arr1 (ρ.t 3) fr (w.drew.setRow b arr1) hb1 (by rw [s1]; simp; omega)
          refine .inl ⟨hroom, rfl, 1, arr2, ?_, by rw [s2, s1, hsz], row_get hin hcl hcont g1 g2⟩
          rw [e1, e2, setRow_setRow]; rfl
        · obtain rfl : i = n := by omega
          refine (Any2.slices_Insert_int_end_room1 L b o i c vb 0 1 vc [x] w (by omega) hroom rfl (fun j hj => by rw [Nat.add_assoc]; exact hsp _ (by omega)) (fun j hj => by rw [Nat.add_assoc]; exact hfz _ (by omega)) hvs (by simpa using h1x)).mono ?_
          rintro e w' ⟨rfl, rfl⟩
          obtain ⟨arr2, e2, s2, g2⟩ := setCells_row b [x] (o + i) arr (ρ.t 3) fr w hb (by simp; omega)
          refine .inl ⟨hroom, rfl, 0, arr2, e2, by rw [s2, hsz], row_get hin hcl hcont (fun j => by rw [if_neg]; rw [List.drop_eq_nil_of_le (by omega)]; simp) g2⟩
      · have hge := grownCap_ge w (n + 1) c (ρ.t 3)
        by_cases hlt : i < n
        · refine (Any2.slices_Insert_int_grow L b o n c i vb 0 1 vc cs [x] w hlt (by omega) hnc (by omega) hbig hcl rfl hcs hvs h1c (by simpa using h1x)).mono ?_
          rintro e w' ⟨rfl, rfl⟩
          have hdl : (cs.drop i).length = n - i := by rw [List.length_drop, hcl]
          have hzl : ∀ k, (Builtin.zeroCells (Value.int .i64 0).cells k).size = k := fun k => by rw [size_zeroCells]; simp [Value.cells]
          generalize hA : ((cs.take i).toArray ++ Builtin.zeroCells (Value.int .i64 0).cells (n + 1 - i) ++ Builtin.zeroCells (Value.int .i64 0).cells (grownCap w (n + 1) c (ρ.t 3) - (n + 1))) = A
          have hAs : A.size = grownCap w (n + 1) c (ρ.t 3) := by
            rw [← hA]; simp only [Array.size_append, hzl, List.size_toArray, List.length_take]; omega
          have hAt : ∀ j, j < i → A[j]? = cs[j]? := fun j hj => by
            rw [← hA, Array.append_assoc, Array.getElem?_append_left (by simp only [List.size_toArray, List.length_take]; omega)]
            simp only [List.getElem?_toArray, List.getElem?_take, if_pos hj]
          have hh : (w.alloc (.cells A (ρ.t 3))).drew.heap[w.heap.size]? = some (.cells A (ρ.t 3) (0, 0)) := by
            show (w.heap.push _)[_]? = _; simp
          obtain ⟨arr1, e1, s1, g1⟩ := setCells_row w.heap.size [x] i A (ρ.t 3) (0, 0) _ hh (by simp; omega)
          have hb1 := setRow_heap _ w.heap.size A arr1 (ρ.t 3) (0, 0) hh
          obtain ⟨arr2, e2, s2, g2⟩ := setCells_row w.heap.size (cs.drop i) (i + 1) arr1 (ρ.t 3) (0, 0) ((w.alloc (.cells A (ρ.t 3))).drew.setRow w.heap.size arr1).drew hb1 (by rw [s1, hAs, hdl]; omega)
          refine .inr ⟨2, _, arr2, hge, rfl, ?_, by rw [s2, s1, hAs], ?_⟩
          · rw [e1, e2]
            have : ∀ (B C : Array Value), (w.alloc (.cells A (ρ.t 3))).setRow w.heap.size C = w.alloc (.cells C (ρ.t 3)) := fun _ C => by
              unfold World.setRow World.alloc
              congr 1
              apply Array.ext
              · simp
              · intro k h1 h2
                rw [Array.getElem_modify]
                by_cases ek : w.heap.size = k
                · subst ek; simp
                · simp only [if_neg ek]
                  rw [Array.getElem_push, Array.getElem_push]
                  have : k < w.heap.size := by simp at h2; omega
                  simp [this]
            have h5 : ((w.alloc (.cells A (ρ.t 3))).drew.setRow w.heap.size arr1).drew.setRow w.heap.size arr2 = ((w.alloc (.cells A (ρ.t 3))).setRow w.heap.size arr2).drewN 2 := by
              have := setRow_setRow (w.alloc (.cells A (ρ.t 3))) w.heap.size arr1 arr2
              have h6 : ((w.alloc (.cells A (ρ.t 3))).drew.setRow w.heap.size arr1).drew.setRow w.heap.size arr2 = (((w.alloc (.cells A (ρ.t 3))).setRow w.heap.size arr1).setRow w.heap.size arr2).drewN 2 := rfl
              rw [h6, this]
            rw [h5, this A arr2]
            rfl
          · intro j v hj
            have ht : (cs.take i).length = i := by rw [List.length_take]; omega
            rw [g2]
            by_cases ej : j < i
            · rw [List.getElem?_append_left (by omega), List.getElem?_take, if_pos ej] at hj
              rw [if_neg (by omega), g1, if_neg (by omega), hAt j ej]; exact hj
            · by_cases e2 : j = i
              · subst e2
                rw [List.getElem?_append_right (by omega), ht, Nat.sub_self] at hj
                rw [if_neg (by omega), g1, if_pos (by simp), Nat.sub_self]; exact hj
              · rw [List.getElem?_append_right (by omega), ht, show j - i = (j - (i + 1)) + 1 by omega, List.getElem?_cons_succ] at hj
                have hlt := (List.getElem?_eq_some_iff.1 hj).1
                rw [if_pos (by omega)]; exact hj
        · obtain rfl : i = n := by omega
          refine (Any2.slices_Insert_int_end_grow L (some ⟨b, o, none⟩) i c vb 0 1 vc cs [x] w (by omega) hnc (by omega) hbig hcl rfl (by simp) (fun a ha j v hj => by cases ha; rw [Addr.add_lit]; exact hcs j v hj) hvs (by simpa using h1x)).mono ?_
          rintro e w' ⟨rfl, rfl⟩
          have hzl : ∀ k, (Builtin.zeroCells (Value.int .i64 0).cells k).size = k := fun k => by rw [size_zeroCells]; simp [Value.cells]
          refine .inr ⟨1, _, _, hge, rfl, rfl, by simp only [Array.size_append, hzl, List.size_toArray, List.length_append, List.length_singleton]; omega, ?_⟩
          intro j v hj
          rw [List.take_of_length_le (by omega), List.drop_eq_nil_of_le (by omega)] at hj
          have hlt := (List.getElem?_eq_some_iff.1 hj).1
          rw [Array.getElem?_append_left (by simpa using hlt)]
          simpa using hj
    · have hn0 : n = 0 := by omega
      subst hn0
      obtain rfl : i = 0 := by omega
      have hcs0 : cs = [] := List.length_eq_zero_iff.1 hcl
      subst hcs0
      have hge := grownCap_ge w (0 + 1) c (ρ.t 3)
      refine (Any2.slices_Insert_int_end_grow L ad 0 c vb 0 1 vc [] [x] w (by omega) hnc (by omega) hbig rfl rfl (fun _ => rfl) (by simp) hvs (by simpa using h1x)).mono ?_
      rintro e w' ⟨rfl, rfl⟩
      have hzl : ∀ k, (Builtin.zeroCells (Value.int .i64 0).cells k).size = k := fun k => by rw [size_zeroCells]; simp [Value.cells]
      refine .inr ⟨1, _, _, hge, rfl, rfl, by simp only [Array.size_append, hzl, List.size_toArray, List.length_append, List.length_singleton, List.length_nil]; omega, ?_⟩
      intro j v hj
      have hlt := (List.getElem?_eq_some_iff.1 hj).1
      rw [Array.getElem?_append_left (by simpa using hlt)]
      simpa using hj
end Go.Proofs

set_option linter.unusedVariables false
set_option linter.unusedSimpArgs false
namespace Go.Sx
open Go Go.Shelf Go.RowKit Go.Lib Go.Proofs
variable {P : Program} {ρ0 : Go.Shelf.Ren} {G : Nat → Option (Nat × (Nat → D))}
theorem growNil_spec (L : Lays8.n4 P ρ0) {sz bytes : Nat} {z : Value} (hi : (P.info? (ρ0.t 25)).map (fun i => (i.zero, i.size, i.bytes)) = some (some z, sz, bytes)) (hzc : z.cells.size = sz) (h0 : 0 < sz)
    (henter : ∀ (vs : Array Value) (w : World), (callFunc (ρ0.f 4) vs).run P w = .ok (.enter (ρ0.f 4) vs) w) {n : Nat} {g : Nat → Nat → D} (hbig : n * bytes ≤ 140737488355328) (h63 : n ≤ 4611686018427387904) :
    Sx.Spec P G (ρ0.f 4) [.d (.val (.slice none 0 0)), .d (.int .i64 n)] [] (.osl 2000 sz 0 0) [(2000, .row (ρ0.t 25) sz 0 g)] := by
  obtain ⟨i0, hi0, hz0, hs0, hb0⟩ := info_parts hi
  refine { keys := rfl, apart := ?_, rnames := ?_, pnames := ?_, kind := ?_, enter := henter, calls := ?_ }
  · intro n hn hm; cases hm
  · intro n hn; simp only [inS] at hn; subst hn; simp [keysP]
  · intro n c k hn hk
    simp only [List.mem_cons, Prod.mk.injEq, List.not_mem_nil, or_false] at hn
    obtain ⟨rfl, rfl⟩ := hn
    simp [inB] at hk
  · intro n c d hn hd; cases hd
  · intro w I ρ vs hargs hpre hinj hlt hg
    simp only [RepL, RepS, RepD] at hargs
    obtain ⟨_, _, rfl, ⟨rfl, _⟩, _, _, rfl, rfl, rfl⟩ := hargs
    have keys1 : ∀ (b : Blk) (m : Nat) (c : Blk), (m, c) ∈ [((2000 : Nat), b)] → m = 2000 ∧ c = b := fun b m c h => by simpa using h
    rcases Nat.eq_zero_or_pos n with hn | hn
    · subst hn
      refine (Any8.slices_Grow_room L none 0 0 0 w (Nat.le_refl _) (by omega) (by omega) (by omega)).mono ?_
      rintro e w' ⟨rfl, rfl⟩
      refine ⟨_, I, fun m => if m = 2000 then mkL 0 0 0 sz 0 else ρ m, rfl, ?_⟩
      exact {
        old := fun m hm => by cases hm
        res := by
          simp only [RepS, if_true]
          exact ⟨trivial, Nat.le_refl _, Nat.le_refl _, none, rfl, .inr trivial⟩
        own := by
          intro m c hm
          obtain ⟨rfl, rfl⟩ := keys1 _ _ _ hm
          simp only [if_true]
          exact ⟨rfl, rfl, Nat.le_refl _, fun h => absurd h (Nat.lt_irrefl 0)⟩
        i0 := fun _ h => h
        i1 := fun _ h => .inl h
        ilt := hlt
        keep := Keep.refl _ _
        sep := by
          intro m c k hm _ hf
          obtain ⟨rfl, rfl⟩ := keys1 _ _ _ hm
          simp only [if_true, foot] at hf
          exact absurd hf.1 (Nat.lt_irrefl 0)
        inj := by
          intro m q c d k hm hq _ _ _ _
          rw [(keys1 _ _ _ hm).1, (keys1 _ _ _ hq).1] }
    · refine (Any8.slices_Grow_grow L i0 z hi0 hz0 (by rw [hs0]; exact h0) none 0 0 n [] w (Nat.le_refl _) (by omega) (by rw [hb0, Nat.zero_add]; exact hbig) (by omega) (by simp) (fun _ => rfl) (fun a h => by cases h)).mono ?_
      rintro e w' ⟨rfl, rfl⟩
      have hge : n ≤ grownCap w (0 + n) 0 (ρ0.t 25) := by have := grownCap_ge w (0 + n) 0 (ρ0.t 25); omega
      obtain ⟨C, hC⟩ : ∃ C, C = grownCap w (0 + n) 0 (ρ0.t 25) := ⟨_, rfl⟩
      rw [← hC] at hge ⊢
      obtain ⟨A, hA⟩ : ∃ A, A = ([] : List Value).toArray ++ Builtin.zeroCells z.cells (0 + n - 0) ++ Builtin.zeroCells z.cells (C - (0 + n)) := ⟨_, rfl⟩
      have hAs : A.size = 0 + C * sz := by
        rw [hA]; simp only [Array.size_append, size_zeroCells, hzc, List.size_toArray, List.length_nil]
        rw [Nat.zero_add, Nat.zero_add, Nat.zero_add, Nat.sub_zero, ← Nat.add_mul]; congr 1; omega
      rw [← hA]
      refine ⟨_, I, fun m => if m = 2000 then mkL w.heap.size C 0 sz 0 else ρ m, rfl, ?_⟩
      have hk : Keep (fun k => ∃ n b, (n, b) ∈ ([] : List (Nat × Blk)) ∧ live (ρ n) b ∧ (ρ n).b = k) w (w.drew.alloc (.cells A (ρ0.t 25))) :=
        (keep_drew _ w).trans (keep_alloc (fun _ => False) _ _) (fun _ h => h.elim)
      exact {
        old := fun m hm => by cases hm
        res := by
          simp only [RepS, if_true]
          exact ⟨trivial, Nat.le_refl _, Nat.zero_le _, _, rfl, .inl (by simp)⟩
        own := by
          intro m c hm
          obtain ⟨rfl, rfl⟩ := keys1 _ _ _ hm
          simp only [if_true]
          refine ⟨rfl, rfl, Nat.zero_le _, fun _ => ⟨A, RowAt.of ?_, hAs, fun i j h => absurd h (Nat.not_lt_zero _)⟩⟩
          exact heap_alloc_self _ _
        i0 := fun _ h => h
        i1 := fun _ h => .inl h
        ilt := fun k hk' => Nat.lt_of_lt_of_le (hlt k hk') hk.size
        keep := hk
        sep := by
          intro m c k hm _ hf
          obtain ⟨rfl, rfl⟩ := keys1 _ _ _ hm
          simp only [if_true, foot] at hf
          obtain ⟨_, rfl⟩ := hf
          exact ⟨fun h => Nat.lt_irrefl _ (hlt _ h), Nat.le_refl _⟩
        inj := by
          intro m q c d k hm hq _ _ _ _
          rw [(keys1 _ _ _ hm).1, (keys1 _ _ _ hq).1] }
end Go.Sx

namespace Go.Sx
open Go
variable {P : Program} {G : Nat → Option (Nat × (Nat → D))} {nt : Nat} {E : List Nat}
def putB : List (Nat × Blk) → Nat → Blk → List (Nat × Blk)
  | [], _, _ => []
  | (i, c) :: l, d, b => match Nat.beq i d with
    | true => (i, b) :: putB l d b
    | false => (i, c) :: putB l d b
theorem lookO_putB {d q : Nat} {b : Blk} : ∀ {o : List (Nat × Blk)}, lookO (putB o d b) q = if q = d then (lookO o d).map (fun _ => b) else lookO o q
  | [] => by simp [putB, lookO]
  | (i, c) :: l => by
    have ih := lookO_putB (d := d) (q := q) (b := b) (o := l)
    simp only [putB]
    split
    · rename_i h
      have h := (beq_iff _ _).1 h
      subst h
      simp only [lookO_cons]
      by_cases e : i = q
      · subst e; simp
      · rw [if_neg e, ih, if_neg e, if_neg (Ne.symm e), if_neg (Ne.symm e)]
    · rename_i h
      have h : ¬ i = d := by
        intro e; rw [(beq_iff _ _).2 e] at h; cases h
      simp only [lookO_cons]
      by_cases e : i = q
      · subst e; rw [if_pos rfl, if_neg h, if_pos rfl]
      · rw [if_neg e, ih, if_neg h, if_neg e]
theorem entC_gmap {s : List (Nat × SV)} {o : List (Nat × Blk)} {nm n0 : List Nat} {d fn fn' sz : Nat} {ka va : Bool} {kk : List IntKind} {g : List Int → Nat → FC} (hd : lookO o d = some (.gmap fn ka kk va sz (fun _ => false) g)) (hf : memN fn' nm = true) :
    EntC ⟨s, o, nm, n0⟩ ⟨s, putB o d (.gmap fn' ka kk va sz (fun _ => false) g), nm, n0⟩ := ⟨fun {G nt C I ρ a w} hc => by
  have hl : ∀ n b, lookO (putB o d (.gmap fn' ka kk va sz (fun _ => false) g)) n = some b → (n ≠ d ∧ lookO o n = some b) ∨ (n = d ∧ b = .gmap fn' ka kk va sz (fun _ => false) g) := by
    intro n b h
    rw [lookO_putB] at h
    by_cases e : n = d
    · rw [if_pos e, hd] at h
      exact .inr ⟨e, by simpa using h.symm⟩
    · rw [if_neg e] at h
      exact .inl ⟨e, h⟩
  have hft : ∀ n b k, lookO (putB o d (.gmap fn' ka kk va sz (fun _ => false) g)) n = some b → foot (ρ n) b k → ∃ c, lookO o n = some c ∧ foot (ρ n) c k ∧ (rowLike b → rowLike c) := by
    intro n b k h hk
    rcases hl n b h with ⟨_, h⟩ | ⟨rfl, rfl⟩
    · exact ⟨b, h, hk, id⟩
    · exact ⟨_, hd, hk, fun h => h⟩
  refine ⟨I, ρ, {
    defers := hc.defers
    size := hc.size
    slots := hc.slots
    snames := hc.snames
    own := fun n b h => ?_
    onames := fun n b m h hm => ?_
    okeys := fun n b h => ?_
    sepF := fun n b k h hk => by obtain ⟨c, h1, h2, _⟩ := hft n b k h hk; exact hc.sepF n c k h1 h2
    freshF := fun n b k h hr hk => by obtain ⟨c, h1, h2, h3⟩ := hft n b k h hk; exact hc.freshF n c k h1 (h3 hr) h2
    injF := fun n m b c k h h' hk hk' => by
      obtain ⟨x, h1, h2, _⟩ := hft n b k h hk
      obtain ⟨y, h3, h4, _⟩ := hft m c k h' hk'
      exact hc.injF n m x y k h1 h3 h2 h4
    ilt := hc.ilt
    i0 := hc.i0
    i1 := hc.i1
    old := hc.old
    glob := hc.glob
    keep := hc.keep }⟩
  · rcases hl n b h with ⟨_, h⟩ | ⟨rfl, rfl⟩
    · exact hc.own n b h
    · obtain ⟨es, clock, h1, h2⟩ := hc.own n _ hd
      refine ⟨es, clock, h1, { stamped := h2.stamped, keys := h2.keys, ent := fun e he k hk hke => ?_, all := fun k _ h => by cases h }⟩
      exact absurd (h2.ent e he k hk hke).1 (by simp)
  · rcases hl n b h with ⟨_, h⟩ | ⟨rfl, rfl⟩
    · exact hc.onames n b m h hm
    · simp only [inB] at hm
      subst hm; exact hf
  · rcases hl n b h with ⟨_, h⟩ | ⟨rfl, rfl⟩
    · exact hc.okeys n b h
    · exact hc.okeys n _ hd⟩
theorem EntC.trans {a b c : St} (h : EntC a b) (k : EntC b c) : EntC a c := ⟨fun hc => by obtain ⟨I, ρ, hc⟩ := h.out hc; exact k.out hc⟩
theorem loop_gmap {step : St → (Ex → St → Prop) → Prop} {s : List (Nat × SV)} {o : List (Nat × Blk)} {nm n0 : List Nat} {K : Ex → St → Prop} {d fn fn' sz : Nat} {ka va : Bool} {kk : List IntKind} {g : List Int → Nat → FC}
    (hd : lookO o d = some (.gmap fn ka kk va sz (fun _ => false) g)) (hf : memN fn' nm = true) (k : LoopVC step ⟨s, putB o d (.gmap fn' ka kk va sz (fun _ => false) g), nm, n0⟩ K) : LoopVC step ⟨s, o, nm, n0⟩ K := by
  obtain ⟨σ0, n, h, k⟩ := k
  exact .mk σ0 n ((entC_gmap hd hf).trans h) k
theorem loop_pub {step : St → (Ex → St → Prop) → Prop} {s : List (Nat × SV)} {o : List (Nat × Blk)} {nm n0 : List Nat} {K : Ex → St → Prop} (ns : List Nat) (h : pubs n0 ns s o fun s o => LoopVC step ⟨s, o, nm, n0⟩ K) : LoopVC step ⟨s, o, nm, n0⟩ K := by
  obtain ⟨s', o', h1, h2⟩ := pubs_inv (nm := nm) h
  obtain ⟨σ0, n, he, hk⟩ := h1
  refine .mk σ0 n (EntC.trans ⟨fun hc => ?_⟩ he) hk
  obtain ⟨I', h3, _⟩ := hc.pubs h2
  exact ⟨I', _, h3⟩
end Go.Sx

namespace Go.Sx
open Go
variable {P : Program} {G : Nat → Option (Nat × (Nat → D))}
theorem gmap_self {I : Nat → Prop} {ρ : Nat → Loc} {w : World} {L : Loc} {fn fn' sz : Nat} {ka va : Bool} {kk : List IntKind} {has : List Int → Bool} {get : List Int → Nat → FC} (hd : ∀ k j, has k = true → j < sz → ∃ x, get k j = .d x) (h : BlkOk I ρ w L (.gmap fn ka kk va sz has get)) : BlkOk I ρ w L (.gmap fn' ka kk va sz has get) := by
  obtain ⟨es, clock, h1, h2⟩ := h
  refine ⟨es, clock, h1, { stamped := h2.stamped, keys := h2.keys, ent := fun e he k hk hke => ?_, all := h2.all }⟩
  obtain ⟨hh, us, e1, e2, e3, e4⟩ := h2.ent e he k hk hke
  refine ⟨hh, us, e1, e2, fun j hj => ?_, e4⟩
  obtain ⟨u, hu, hr⟩ := e3 j hj
  obtain ⟨x, hx⟩ := hd k j hh hj
  refine ⟨u, hu, ?_⟩
  rw [hx] at hr ⊢
  exact hr
theorem Spec.gself {f : FuncId} {args : List SV} {res : SV} {n1 n2 fn nk s1 s2 : Nat} {a1 a2 v1 v2 : Bool} {k1 k2 : List IntKind} {h1 h2 : List Int → Bool} {g1 g2 : List Int → Nat → FC} {rows : Nat → Option FRow}
    (h : Spec P G f args [] res [(n1, .gmap fn a1 k1 v1 s1 h1 g1), (n2, .gmap fn a2 k2 v2 s2 h2 g2), (fn, .fam nk rows)]) (hd1 : ∀ k j, h1 k = true → j < s1 → ∃ x, g1 k j = .d x) (hd2 : ∀ k j, h2 k = true → j < s2 → ∃ x, g2 k j = .d x)
    (hr : ∀ n, inS n res → n = n1 ∨ n = n2) : Spec P G f args [] res [(n1, .gmap n1 a1 k1 v1 s1 h1 g1), (n2, .gmap n2 a2 k2 v2 s2 h2 g2)] where
  keys := rfl
  apart := fun n _ hm => by cases hm
  rnames := fun n hn => by rcases hr n hn with rfl | rfl <;> simp [keysP]
  pnames := fun n b m hn hm => by
    simp only [List.mem_cons, Prod.mk.injEq, List.not_mem_nil, or_false] at hn
    rcases hn with ⟨rfl, rfl⟩ | ⟨rfl, rfl⟩ <;> (simp only [inB] at hm; subst hm; simp [keysP])
  kind := fun n b c _ hc => by cases hc
  enter := h.enter
  calls := fun w I ρ vs hargs hpre hinj hlt hg => by
    refine (h.calls w I ρ vs hargs hpre hinj hlt hg).mono ?_
    rintro e w' ⟨v, I', ρ', rfl, ha⟩
    have old : ∀ n b, (n, b) ∈ [(n1, Blk.gmap n1 a1 k1 v1 s1 h1 g1), (n2, .gmap n2 a2 k2 v2 s2 h2 g2)] → ∃ c, (n, c) ∈ [(n1, Blk.gmap fn a1 k1 v1 s1 h1 g1), (n2, .gmap fn a2 k2 v2 s2 h2 g2), (fn, .fam nk rows)] ∧ (∀ k, foot (ρ' n) b k → foot (ρ' n) c k) ∧ (BlkOk I' ρ' w' (ρ' n) c → BlkOk I' ρ' w' (ρ' n) b) := by
      intro n b hn
      simp only [List.mem_cons, Prod.mk.injEq, List.not_mem_nil, or_false] at hn
      rcases hn with ⟨rfl, rfl⟩ | ⟨rfl, rfl⟩
      · exact ⟨.gmap fn a1 k1 v1 s1 h1 g1, List.mem_cons_self, fun k hk => hk, gmap_self hd1⟩
      · exact ⟨.gmap fn a2 k2 v2 s2 h2 g2, List.mem_cons_of_mem _ List.mem_cons_self, fun k hk => hk, gmap_self hd2⟩
    have hnew : ∀ {n : Nat} {b : Blk}, (n, b) ∈ [(n1, Blk.gmap fn a1 k1 v1 s1 h1 g1), (n2, .gmap fn a2 k2 v2 s2 h2 g2), (fn, .fam nk rows)] → n ∈ newP [] [(n1, Blk.gmap fn a1 k1 v1 s1 h1 g1), (n2, .gmap fn a2 k2 v2 s2 h2 g2), (fn, .fam nk rows)] := by
      intro n b hn
      show n ∈ (keysP _).drop 0
      exact List.mem_map.2 ⟨_, hn, rfl⟩
    exact ⟨v, I', ρ', rfl, {
      old := fun n hn => by cases hn
      res := ha.res
      own := fun n b hn => by obtain ⟨c, hc, _, hb⟩ := old n b hn; exact hb (ha.own n c hc)
      i0 := ha.i0
      i1 := ha.i1
      ilt := ha.ilt
      keep := ha.keep
      sep := fun n b k hn _ hf => by obtain ⟨c, hc, hft, _⟩ := old n b hn; exact ha.sep n c k hc (hnew hc) (hft k hf)
      inj := fun n m b c k hn hm _ _ hf hf' => by
        obtain ⟨b', hb', hft, _⟩ := old n b hn
        obtain ⟨c', hc', hft', _⟩ := old m c hm
        exact ha.inj n m b' c' k hb' hc' (hnew hb') (hnew hc') (hft k hf) (hft' k hf') }⟩
end Go.Sx
