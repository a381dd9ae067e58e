/- Part of a symbolic executor over the model, proved sound, with plain laws: SxSlice. Written for these claims. -/
import Derived.Test.YtfjiffbacallhaaDoorSxTab
import Derived.Test.YtfjiffbacallhaaDoorSxRen
import Derived.Shelf.GgSortFunc.InsertionK
import Derived.Sort.AssemblyPlain
set_option linter.unusedVariables false
set_option linter.unusedSimpArgs false
namespace Go.Sx
open Go Go.Shelf Go.RowKit Go.Lib Go.Sort Go.Proofs
def enc2 (r : Row) : List Value := [.string ⟨⟨r.1⟩⟩, .string ⟨⟨r.2⟩⟩]
theorem enc2_len (r : Row) : (enc2 r).length = 2 := rfl
theorem enc2_one (r : Row) : ∀ v ∈ enc2 r, v.oneCell' = true := by
  intro v hv
  simp only [enc2, List.mem_cons, List.not_mem_nil, or_false] at hv
  rcases hv with rfl | rfl <;> rfl
theorem get!_list (l : List Row) (i : Nat) : (l.toArray)[i]! = l.getD i default := by
  simp [List.getD, getElem!_def]
  cases l[i]? <;> rfl
/-- what the sort gives -/
def sortF (rows : List Row) : List Row := if rows.length < 2 then rows else (pdq ltR rows.toArray 0 rows.toArray.size (Lib.bitLen rows.toArray.size) true true).toList
theorem sort_perm (rows : List Row) : (sortF rows).Perm rows ∧ ∀ i j, i < j → j < (sortF rows).length → ltR ((sortF rows).getD j default) ((sortF rows).getD i default) = false := by
  unfold sortF
  split
  · rename_i h
    refine ⟨List.Perm.refl _, fun i j hij hj => ?_⟩
    omega
  · have h := pdq_sorts ltR swo_ltR rows.toArray 0 rows.toArray.size (Lib.bitLen rows.toArray.size) true true (Nat.zero_le _) (Nat.le_refl _) (Or.inl rfl)
    generalize pdq ltR rows.toArray 0 rows.toArray.size (Lib.bitLen rows.toArray.size) true true = d at h
    obtain ⟨⟨h1, h2, h3⟩, h4⟩ := h
    refine ⟨?_, fun i j hij hj => ?_⟩
    · have e1 : d.extract 0 rows.toArray.size = d := by rw [← h1]; exact Array.extract_size
      have e2 : rows.toArray.extract 0 rows.toArray.size = rows.toArray := Array.extract_size
      rw [e1, e2] at h3
      exact h3
    · have hj' : j < d.size := by simpa using hj
      have := h4 i j (Nat.zero_le _) hij (by rw [← h1]; exact hj')
      have ed : d = d.toList.toArray := by simp
      rw [ed, get!_list, get!_list] at this
      exact this
theorem sort_len (rows : List Row) : (sortF rows).length = rows.length := (sort_perm rows).1.length_eq
/-- asked of the closure -/
def LessKey (P : Program) (g : Nat) : Prop := ∀ (blk off c B n : Nat) (W : World) (K : Nat → List UInt8), W.cell? ⟨B, 0, none⟩ = some (.slice (some ⟨blk, off, none⟩) n c) →
  (∀ t, t < n → W.cell? ⟨blk, off + t * 2, none⟩ = some (.string ⟨⟨K t⟩⟩)) → ∀ i j, i < n → j < n → n < 4611686018427387904 →
  Calls P g #[.int .i64 i, .int .i64 j, .pointer (some ⟨B, 0, none⟩)] W fun e w' => e = .returned (.bool (Op.bytesLess (K i) (K j))) ∧ ∃ q, w' = W.drewN q
theorem modify_other (h : Array Obj) (b : Nat) (f : Obj → Obj) (k : Nat) (hk : k ≠ b) : (h.modify b f)[k]? = h[k]? := by
  rw [Array.getElem?_modify]; simp [Ne.symm hk]
theorem modify_at (h : Array Obj) (b : Nat) (f : Obj → Obj) : (h.modify b f)[b]? = (h[b]?).map f := by
  rw [Array.getElem?_modify]; simp
variable {P : Program} {G : Nat → Option (Nat × (Nat → D))}
theorem flat_list (rows : List Row) {i j : Nat} (hi : i < rows.length) (hj : j < 2) : (flatK enc2 2 rows.toArray)[i * 2 + j]! = (enc2 (rows.getD i default))[j]! := by
  rw [get_flatK enc2 2 _ _ (by simp only [List.size_toArray]; omega), show (i * 2 + j) / 2 = i by omega, show (i * 2 + j) % 2 = j by omega, get!_list]
/-- what is asked of the seat -/
structure SliceAt (P : Program) (f t g : Nat) : Prop where
  enter : ∀ (vs : Array Value) (w : World), (callFunc f vs).run P w = .ok (.enter f vs) w
  tiny : ∀ (p : Option Addr) (n c : Nat), n ≤ 1 → ∀ (la lb : Array Value) (w : World), Calls P f #[.iface t (.slice p n c), .func (.func g) la lb] w fun e w' => e = .returned (.tuple #[]) ∧ ∃ os, w' = grow w os
  whole : ∀ (lb : Array Value) (blk off c : Nat) (d : Array Row), 2 ≤ d.size → d.size < 4611686018427387904 → ∀ w : World, LessReadsK P g lb enc2 2 ltR blk off d.size w → HoldsK enc2 2 w blk off d → blk < w.heap.size →
    Calls P f #[.iface t (.slice (some ⟨blk, off, none⟩) d.size c), .func (.func g) #[] lb] w fun e w' =>
      e = .returned (.tuple #[]) ∧ ∃ n os, w' = grow (putRowK enc2 2 (Sort.ahead w n) blk off (pdq ltR d 0 d.size (Lib.bitLen d.size) true true)) os
  less : LessKey P g
theorem sortSlice_spec {f t g : Nat} (hS : SliceAt P f t g) (rows : List Row) (m b E : Nat) (hmb : m ≠ b) {gg : Nat → Nat → D} (hgg : RowLe rows.length 2 gg (cellOf encRow rows)) (hsz : rows.length < 4611686018427387904) :
    Sx.Spec P G f [.ifc t [.osl m 2 0 rows.length], .clo g [.ptr b 0]] [(b, .box [.osl m 2 0 rows.length]), (m, .row E 2 rows.length gg)] (.tup [])
      [(b, .box [.osl m 2 0 rows.length]), (m, .row E 2 rows.length (cellOf encRow (sortF rows)))] := by
  have hnew : newP [(b, Blk.box [.osl m 2 0 rows.length]), (m, .row E 2 rows.length gg)] [(b, Blk.box [.osl m 2 0 rows.length]), (m, .row E 2 rows.length (cellOf encRow (sortF rows)))] = [] := rfl
  refine { keys := rfl, apart := ?_, rnames := ?_, pnames := ?_, kind := ?_, enter := hS.enter, calls := ?_ }
  · intro n hn; rw [hnew] at hn; cases hn
  · intro n hn; simp [inS, inL] at hn
  · intro n c k hn hk
    simp only [List.mem_cons, Prod.mk.injEq, List.not_mem_nil, or_false] at hn
    rcases hn with ⟨rfl, rfl⟩ | ⟨rfl, rfl⟩
    · simp only [inB, inL, inS, or_false] at hk
      subst hk
      simp [keysP]
    · simp [inB] at hk
  · intro n c d hn hd
    simp only [List.mem_cons, Prod.mk.injEq, List.not_mem_nil, or_false] at hn hd
    rcases hn with ⟨rfl, rfl⟩ | ⟨rfl, rfl⟩ <;> rcases hd with ⟨h, rfl⟩ | ⟨h, rfl⟩ <;> first | trivial | exact absurd h hmb | exact absurd h.symm hmb
  · intro w I ρ vs hargs hpre hinj hlt hg
    simp only [RepL, RepS] at hargs
    obtain ⟨_, _, rfl, ⟨v1, rfl, _, _, hv1, ⟨hs2, hle, hcl, a, ha, hao⟩, hnil⟩, _, _, rfl, ⟨us, rfl, _, _, hus, rfl, hnil2⟩, rfl⟩ := hargs
    simp only [List.cons.injEq] at hv1
    obtain ⟨rfl, rfl⟩ := hv1
    subst ha hnil2 hus
    clear hnil
    obtain ⟨hbx, hbI⟩ := hpre b (.box [.osl m 2 0 rows.length]) (by simp)
    obtain ⟨hrw, hrI⟩ := hpre m (.row E 2 rows.length gg) (by simp)
    have hbI := hbI trivial
    obtain ⟨bus, Eb, hb1, hb2, hb3⟩ := hbx
    obtain ⟨hrl, hrs, hrc, hra⟩ := hrw
    simp only [RepL, RepS] at hb2
    obtain ⟨bv, _, rfl, ⟨_, _, _, ba, rfl, hbao⟩, rfl⟩ := hb2
    have hblt : (ρ b).b < w.heap.size := (Array.getElem?_eq_some_iff.1 hb1).1
    have done : ∀ w', w'.os = w.os → w'.tape = w.tape → w'.output = w.output → w.heap.size ≤ w'.heap.size → (∀ k, k < w.heap.size → ¬ (0 < (ρ m).cap ∧ k = (ρ m).b) → w'.heap[k]? = w.heap[k]?) →
        (0 < (ρ m).cap → ∃ arr, RowAt w' (ρ m).b arr E ∧ arr.size = (ρ m).o + (ρ m).cap * 2 ∧ ∀ i j, i < rows.length → j < 2 → ∃ u, arr[(ρ m).o + (i * 2 + j)]? = some u ∧ ∀ I w, RepD I w (cellOf encRow (sortF rows) i j) u) →
        ∃ v I' ρ', Ending.returned (.tuple #[]) = .returned v ∧ After I ρ w [(b, .box [.osl m 2 0 rows.length]), (m, .row E 2 rows.length gg)] (.tup []) [(b, .box [.osl m 2 0 rows.length]), (m, .row E 2 rows.length (cellOf encRow (sortF rows)))] I' ρ' w' v := by
      intro w' e1 e2 e3 hsz hblk hrow
      have hbb : w'.heap[(ρ b).b]? = w.heap[(ρ b).b]? := by
        refine hblk _ hblt ?_
        rintro ⟨hc, e⟩
        exact hmb.symm (hinj b (.box [.osl m 2 0 rows.length]) m (.row E 2 rows.length gg) (by simp) (by simp) trivial hc e)
      refine ⟨.tuple #[], I, ρ, rfl, ?_⟩
      exact {
        old := fun _ _ => rfl
        res := by simp only [RepS]; exact ⟨[], rfl, by simp [RepL]⟩
        own := by
          intro n c hn
          simp only [List.mem_cons, Prod.mk.injEq, List.not_mem_nil, or_false] at hn
          rcases hn with ⟨rfl, rfl⟩ | ⟨rfl, rfl⟩
          · refine ⟨_, Eb, by rw [hbb]; exact hb1, ?_, hb3⟩
            simp only [RepL, RepS]
            exact ⟨_, _, rfl, ⟨hs2, hle, hcl, ba, rfl, hbao⟩, rfl⟩
          · refine ⟨hrl, hrs, hrc, fun hc => ?_⟩
            obtain ⟨arr, h1, h2, h3⟩ := hrow hc
            refine ⟨arr, h1, h2, fun i j hi hj => ?_⟩
            obtain ⟨u, hu, hr⟩ := h3 i j hi hj
            exact ⟨u, hu, hr _ _⟩
        i0 := fun _ h => h
        i1 := fun _ h => .inl h
        ilt := fun k hk => Nat.lt_of_lt_of_le (hlt k hk) hsz
        keep := ⟨e1, e2, e3, hsz, fun k hk hn => hblk k hk (by
          rintro ⟨hc, rfl⟩
          exact hn ⟨m, .row E 2 rows.length gg, by simp, hc, rfl⟩)⟩
        sep := fun n c _ hn => by rw [hnew] at hn; cases hn
        inj := fun n k c d _ _ hn => by rw [hnew] at hn; cases hn }
    by_cases h2 : rows.length < 2
    · refine (hS.tiny a rows.length _ (by omega) #[] _ w).mono ?_
      rintro e w' ⟨rfl, os, rfl⟩
      refine done _ rfl rfl rfl (by rw [size_grow]; omega) (fun k hk _ => heap_grow_old w os hk) (fun hc => ?_)
      obtain ⟨arr, h3, h4, h5⟩ := hra hc
      have e : sortF rows = rows := by simp [sortF, h2]
      refine ⟨arr, h3.congr (heap_grow_old w os h3.lt), h4, fun i j hi hj => ?_⟩
      obtain ⟨u, hu, hr⟩ := h5 i j hi hj
      have hr := (hgg.le i j hi hj).le _ _ _ hr
      refine ⟨u, hu, fun I' w' => ?_⟩
      rw [e]
      match j, hj with
      | 0, _ => exact hr
      | 1, _ => exact hr
    · have hcap : 0 < (ρ m).cap := by omega
      obtain ⟨arr, h3, h4, h5⟩ := hra hcap
      have hmlt := h3.lt
      have hne : (ρ b).b ≠ (ρ m).b := fun e => hmb.symm (hinj b (.box [.osl m 2 0 rows.length]) m (.row E 2 rows.length gg) (by simp) (by simp) trivial hcap e)
      simp only [Nat.zero_mul, Nat.add_zero, Nat.sub_zero] at hao hbao
      obtain rfl := hao.resolve_right (by omega)
      obtain rfl := hbao.resolve_right (by omega)
      have hcell : ∀ i j, i < rows.length → j < 2 → w.cell? ⟨(ρ m).b, (ρ m).o + (i * 2 + j), none⟩ = some (enc2 (rows.getD i default))[j]! := by
        intro i j hi hj
        obtain ⟨u, hu, hr⟩ := h5 i j hi hj
        have hr := (hgg.le i j hi hj).le _ _ _ hr
        rw [h3.cell, hu]
        match j, hj with
        | 0, _ => exact congrArg some hr
        | 1, _ => exact congrArg some hr
      have hH : HoldsK enc2 2 w (ρ m).b (ρ m).o rows.toArray := by
        intro k hk
        rw [size_flatK, List.size_toArray] at hk
        have hk2 : k = k / 2 * 2 + k % 2 := by omega
        have := hcell (k / 2) (k % 2) (by omega) (Nat.mod_lt _ (by decide))
        refine ⟨?_, h3.frozen (by rw [h4]; omega)⟩
        rw [hk2, this, flat_list rows (by omega) (Nat.mod_lt _ (by decide))]
        rfl
      have hreads : LessReadsK P g #[.pointer (some ⟨(ρ b).b, 0, none⟩)] enc2 2 ltR (ρ m).b (ρ m).o rows.toArray.size w := by
        intro q os dk hs i j hi hj
        have e : sortWorldK enc2 2 w (ρ m).b (ρ m).o q dk os = putRowK enc2 2 (grow (Sort.ahead w q) os) (ρ m).b (ρ m).o dk := by
          unfold sortWorldK; rw [putRowK_grow _ _ (Sort.ahead w q) _ (ρ m).b (ρ m).o _ hmlt]
        have hHg : HoldsK enc2 2 (grow (Sort.ahead w q) os) (ρ m).b (ρ m).o rows.toArray := holdsK_grow _ _ _ _ (ρ m).b (ρ m).o _ hmlt (holdsK_ahead _ _ _ _ _ _ _ hH)
        refine hS.less (ρ m).b (ρ m).o (ρ m).cap (ρ b).b rows.length _ (fun t => dk[t]!.1) ?_ (fun t ht => ?_) i j (by simpa using hi) (by simpa using hj) hsz
        · rw [e, cell?_putRowK_other _ _ _ (ρ m).b (ρ m).o dk _ (by exact hne), cell?_grow _ _ _ (by exact hblt)]
          show w.cell? _ = _
          simp only [World.cell?, hb1]
          rfl
        · rw [e]; exact ((holdsK_putRowK _ _ _ (ρ m).b (ρ m).o _ dk hHg hs).cell (i := t) (c := 0) (by rw [hs]; simpa using ht) (by omega)).1
      refine (hS.whole _ (ρ m).b (ρ m).o (ρ m).cap rows.toArray (by simp; omega) (by simpa using hsz) w hreads hH hmlt).mono ?_
      rintro e w' ⟨rfl, q, os, rfl⟩
      have es : (pdq ltR rows.toArray 0 rows.toArray.size (Lib.bitLen rows.toArray.size) true true) = (sortF rows).toArray := by simp [sortF, h2]
      rw [es]
      have hheap : ∀ k, k < w.heap.size → (grow (putRowK enc2 2 (Sort.ahead w q) (ρ m).b (ρ m).o (sortF rows).toArray) os).heap[k]? = (putRowK enc2 2 (Sort.ahead w q) (ρ m).b (ρ m).o (sortF rows).toArray).heap[k]? := by
        intro k hk
        refine heap_grow_old _ os ?_
        show k < (w.heap.modify _ _).size
        simpa using hk
      refine done _ rfl rfl rfl ?_ (fun k hk hn => ?_) (fun hc => ?_)
      · rw [size_grow]
        show w.heap.size ≤ (w.heap.modify _ _).size + _
        simp
      · rw [hheap k hk]
        exact modify_other w.heap (ρ m).b _ k (fun e => hn ⟨hcap, e⟩)
      · obtain ⟨fr, hf1, hf2⟩ := h3
        have hat : (grow (putRowK enc2 2 (Sort.ahead w q) (ρ m).b (ρ m).o (sortF rows).toArray) os).heap[(ρ m).b]? = some (.cells (putCells id (ρ m).o (flatK enc2 2 (sortF rows).toArray) arr) E fr) := by
          rw [hheap _ hmlt]
          show (w.heap.modify _ _)[_]? = _
          rw [modify_at, hf1]
          rfl
        refine ⟨_, ⟨fr, hat, by rw [show (putCells id (ρ m).o (flatK enc2 2 (sortF rows).toArray) arr).size = arr.size by simp [putCells]]; exact hf2⟩, by rw [← h4]; simp [putCells], fun i j hi hj => ?_⟩
        have hlt2 : (ρ m).o + (i * 2 + j) < arr.size := by rw [h4]; omega
        have hsl := sort_len rows
        refine ⟨(enc2 ((sortF rows).getD i default))[j]!, ?_, ?_⟩
        · rw [← flat_list (sortF rows) (by omega) hj]
          simp only [putCells, Array.getElem?_mapIdx, Array.getElem?_eq_getElem hlt2, Option.map_some, size_flatK, List.size_toArray]
          rw [if_pos ⟨by omega, by omega⟩, show (ρ m).o + (i * 2 + j) - (ρ m).o = i * 2 + j by omega]
          rfl
        · intro I' w'
          match j, hj with
          | 0, _ => exact rfl
          | 1, _ => exact rfl
theorem sortSlice_at {f t g : Nat} (hS : SliceAt P f t g) (rows : List Row) (m b E : Nat) (hmb : m ≠ b) {n : Nat} {gg : Nat → Nat → D} : (n = rows.length ∧ RowLe n 2 gg (cellOf encRow rows) ∧ n < 4611686018427387904) →
    Sx.Spec P G f [.ifc t [.osl m 2 0 n], .clo g [.ptr b 0]] [(b, .box [.osl m 2 0 n]), (m, .row E 2 n gg)] (.tup [])
      [(b, .box [.osl m 2 0 n]), (m, .row E 2 n (cellOf encRow (sortF rows)))] := by
  rintro ⟨rfl, hg, hl⟩
  exact sortSlice_spec hS rows m b E hmb hg hl
end Go.Sx
