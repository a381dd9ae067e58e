/- Part of a symbolic executor over the model, proved sound, with plain laws: SxArg. Written for these claims. -/
import Derived.Test.YtigmgeglnbjfeaaDoorSxLoop
import Derived.ProofKit
import Derived.OpenShut
import Derived.SizedLaws
namespace Go.Sx
open Go Go.RowKit
set_option linter.unusedVariables false
set_option linter.unusedSimpArgs false

variable {P : Program} {w : World} {H : Type} {enc : TypeId × Value → H} {sp : Nat → Bool} {held : Bool}

/-- the cells stand one behind the other -/
def offsB (P : Program) : Nat → List Field → Bool
  | _, [] => true
  | n, ⟨_, t, o, _, _, _, _⟩ :: fs => Nat.beq o n && offsB P (n + P.cellsOf t) fs
def sumF (P : Program) : List Field → Nat
  | [] => 0
  | f :: fs => P.cellsOf f.type + sumF P fs
/-- numbers, bools, strings, structs and slices of such -/
def plainT (P : Program) : Nat → Nat → Bool
  | 0, _ => false
  | f + 1, t => match P.underlying t with
    | some .bool => Nat.beq (P.cellsOf t) 1
    | some (.int _) => Nat.beq (P.cellsOf t) 1
    | some .string => Nat.beq (P.cellsOf t) 1
    | some (.slice e) => Nat.beq (P.cellsOf t) 1 && (plainT P f e && Nat.blt 0 (P.cellsOf e))
    | some (.struct ⟨fs⟩) => offsB P 0 fs && (Nat.beq (sumF P fs) (P.cellsOf t) && fs.all fun x => plainT P f x.type)
    | _ => false
def wfFs (rec : Nat → List D → Prop) (P : Program) : List Field → List D → Prop
  | [], ds => ds = []
  | f :: fs, ds => ∃ a b, ds = a ++ b ∧ rec f.type a ∧ wfFs rec P fs b
/-- what the cells of a type may hold -/
def wfT (P : Program) (R : Nat) : Nat → Nat → List D → Prop
  | 0, _, _ => False
  | f + 1, t, ds => match P.underlying t with
    | some .bool => ∃ b, ds = [.bool b]
    | some (.int k) => ∃ n, ds = [.int k n] ∧ (Lit.int k n).wf = true
    | some .string => ∃ l, ds = [.str l] ∧ l.length ≤ maxLen ∧ l.length ≤ R
    | some (.slice e) => ∃ len get, ds = [.list len (P.cellsOf e) get] ∧ len ≤ maxLen ∧ len * P.bytesOf e ≤ R ∧ ∀ i, i < len → wfT P R f e ((List.range (P.cellsOf e)).map (get i))
    | some (.struct ⟨fs⟩) => wfFs (wfT P R f) P fs ds
    | _ => False

def CellsD (I : Nat → Prop) (w : World) (ds : List D) (cs : List Value) : Prop := All2 (RepD I w) ds cs
theorem CellsD.length {I : Nat → Prop} {ds : List D} {cs : List Value} (h : CellsD I w ds cs) : ds.length = cs.length := by
  induction h with
  | nil => rfl
  | cons _ _ ih => simp [ih]
theorem CellsD.append {I : Nat → Prop} {ds es : List D} {cs us : List Value} (h : CellsD I w ds cs) (h' : CellsD I w es us) : CellsD I w (ds ++ es) (cs ++ us) := by
  induction h with
  | nil => exact h'
  | cons h _ ih => exact .cons h ih
theorem CellsD.get {I : Nat → Prop} {ds : List D} {cs : List Value} (h : CellsD I w ds cs) : ∀ (j : Nat) (hj : j < ds.length), ∃ u, cs[j]? = some u ∧ RepD I w (ds.getD j default) u := by
  induction h with
  | nil => intro j hj; simp at hj
  | cons h _ ih =>
    intro j hj
    cases j with
    | zero => exact ⟨_, rfl, by simpa using h⟩
    | succ j =>
      obtain ⟨u, h1, h2⟩ := ih j (by simpa using hj)
      exact ⟨u, by simpa using h1, by simpa using h2⟩
theorem CellsD.rep {I : Nat → Prop} {ρ : Nat → Loc} {ds : List D} {cs : List Value} (h : CellsD I w ds cs) : RepL I ρ w (ds.map .d) cs := by
  induction h with
  | nil => simp [RepL]
  | cons h _ ih => simp only [List.map_cons, RepL]; exact ⟨_, _, rfl, by simpa only [RepS] using h, ih⟩
theorem CellsD.one {I : Nat → Prop} {ds : List D} {cs : List Value} (h : CellsD I w ds cs) : ∀ u ∈ cs, u.oneCell' = true := by
  induction h with
  | nil => simp
  | cons h _ ih =>
    intro u hu
    rcases List.mem_cons.1 hu with rfl | hu
    · exact h.one
    · exact ih u hu

theorem offs_drop {fs : List Field} : ∀ {n : Nat}, offsB P n fs = true → ∀ f ∈ fs, n ≤ f.offset ∧ f.offset + P.cellsOf f.type ≤ n + sumF P fs := by
  induction fs with
  | nil => simp
  | cons f fs ih =>
    intro n h
    obtain ⟨a, t, o, b, c, d, e⟩ := f
    simp only [offsB, Bool.and_eq_true] at h
    have ho := Nat.eq_of_beq_eq_true h.1
    intro g hg
    rcases List.mem_cons.1 hg with rfl | hg
    · simp [sumF]; omega
    · have := ih h.2 g hg
      simp [sumF]; omega

theorem lt_of_cell? {a : Addr} {v : Value} (h : w.cell? a = some v) : a.block < w.heap.size := World.block_lt_of_cell? _ _ h

theorem weightsAll_mem {e : Nat} {d : DataW H} {n : Nat} : ∀ {l : List (DataW H)}, d ∈ l → n ∈ d.weights P e → n ∈ DataW.weightsAll P e l
  | [], h, _ => by simp at h
  | x :: l, h, hn => by
    simp only [DataW.weightsAll, List.mem_append]
    rcases List.mem_cons.1 h with rfl | h
    · exact .inl hn
    · exact .inr (weightsAll_mem h hn)
theorem trod_wf {R : Nat} : ∀ {fuel t : Nat} {cs : List Value} {x : DataW H × List MemPlace} {g : Nat}, plainT P fuel t = true → DataW.trod enc P w 0 sp held g t cs = some x → (∀ n ∈ x.1.weights P t, n ≤ R) →
    cs.length = P.cellsOf t ∧ ∃ ds, wfT P R fuel t ds ∧ CellsD (fun b => b < w.heap.size) w ds cs
  | 0, t, cs, x, g, hp, _, _ => by simp [plainT] at hp
  | f + 1, t, cs, x, g, hp, h, hR => by
    simp only [plainT] at hp
    cases hu : P.underlying t with
    | none => rw [hu] at hp; cases hp
    | some d =>
      rw [hu] at hp
      simp only [wfT, hu]
      cases d with
      | bool =>
        have hp := Nat.eq_of_beq_eq_true hp
        obtain ⟨b, rfl, _⟩ := DataW.trod_bool hu h
        exact ⟨by simp [hp], [.bool b], ⟨b, rfl⟩, .cons (by simp [RepD]) .nil⟩
      | int k =>
        have hp := Nat.eq_of_beq_eq_true hp
        obtain ⟨n, rfl, _, hw⟩ := DataW.trod_int hu h
        exact ⟨by simp [hp], [.int k n], ⟨n, rfl, hw⟩, .cons (by simp [RepD]) .nil⟩
      | string =>
        have hp := Nat.eq_of_beq_eq_true hp
        obtain ⟨s, rfl, rfl, hw⟩ := DataW.trod_string hu h
        obtain ⟨⟨l⟩⟩ := s
        exact ⟨by simp [hp], [.str l], ⟨l, rfl, hw, hR _ (by simp [DataW.weights])⟩, .cons (by simp [RepD]) .nil⟩
      | slice e =>
        simp only [Bool.and_eq_true] at hp
        have h1 := Nat.eq_of_beq_eq_true hp.1
        have h3 : 0 < P.cellsOf e := Nat.le_of_ble_eq_true hp.2.2
        rcases DataW.trod_slice hu h with ⟨rfl, _⟩ | ⟨a, len, cap, elems, rest, n, _, rfl, rfl, _, hle, hcap, hlen, hel, _⟩
        · refine ⟨by simp [h1], _, ⟨0, fun _ _ => default, rfl, by simp [maxLen], by simp, fun i hi => absurd hi (by simp)⟩, .cons ?_ .nil⟩
          simp only [RepD]
          exact ⟨none, 0, rfl, Nat.le_refl _, fun h => absurd h (by simp)⟩
        · have key : ∀ i, ∃ ds : List D, i < len → ∃ cs, w.cells? 0 (a.add (i * P.cellsOf e)) (P.cellsOf e) = some cs ∧ ds.length = P.cellsOf e ∧ wfT P R f e ds ∧ CellsD (fun b => b < w.heap.size) w ds cs := by
            intro i
            by_cases hi : i < len
            · have := hel i hi
              rw [List.getElem?_eq_getElem (by omega)] at this
              cases hc : w.cells? 0 (a.add (i * P.cellsOf e)) (P.cellsOf e) with
              | none => rw [hc] at this; cases this
              | some cs =>
                rw [hc] at this
                obtain ⟨k1, ds, k2, k3⟩ := trod_wf hp.2.1 (show DataW.trod enc P w 0 sp held n e cs = _ from this) (fun m hm => hR m (by
                  simp only [DataW.weights, hu, List.mem_cons, List.mem_append]
                  exact .inr (.inl (weightsAll_mem (List.mem_map.2 ⟨_, List.getElem_mem _, rfl⟩) hm))))
                exact ⟨ds, fun _ => ⟨cs, rfl, by rw [k3.length, k1], k2, k3⟩⟩
            · exact ⟨[], fun h => absurd h hi⟩
          refine ⟨by simp [h1], _, ⟨len, fun i j => (Classical.choose (key i)).getD j default, rfl, by omega, ?_, fun i hi => ?_⟩, .cons ?_ .nil⟩
          · have := hR ((elems.length + rest.length) * P.bytesOf e) (by simp [DataW.weights, hu])
            refine Nat.le_trans ?_ this
            exact Nat.mul_le_mul_right _ (by omega)
          · obtain ⟨cs, _, k1, k2, _⟩ := Classical.choose_spec (key i) hi
            have e : (List.range (P.cellsOf e)).map (fun j => (Classical.choose (key i)).getD j default) = Classical.choose (key i) := by
              apply List.ext_getElem?
              intro j
              by_cases hj : j < P.cellsOf e
              · rw [List.getElem?_map, List.getElem?_range hj]
                simp [List.getD, List.getElem?_eq_getElem (show j < (Classical.choose (key i)).length by omega)]
              · rw [List.getElem?_eq_none (by simp; omega), List.getElem?_eq_none (by omega)]
            rw [e]
            exact k2
          · simp only [RepD]
            refine ⟨some a, cap, rfl, hle, fun hpos => ?_⟩
            obtain ⟨cs0, hc0, _, _, k30⟩ := Classical.choose_spec (key 0) hpos
            have hcell : ∀ i j, i < len → j < P.cellsOf e → ∃ u, w.cell? ((a.add (i * P.cellsOf e)).add j) = some u ∧ RepD (fun b => b < w.heap.size) w ((Classical.choose (key i)).getD j default) u := by
              intro i j hi hj
              obtain ⟨cs, hc, k1, k2, k3⟩ := Classical.choose_spec (key i) hi
              obtain ⟨_, m2, m3⟩ := World.cells?_some hc
              obtain ⟨u, hu1, hu2⟩ := k3.get j (by omega)
              exact ⟨u, by rw [m3 j hj]; exact hu1, hu2⟩
            obtain ⟨u0, hu0, _⟩ := hcell 0 0 hpos h3
            obtain ⟨b, o, spot⟩ := a
            have hs : spot = none := by
              have := World.cell?_spot hu0
              cases spot <;> simp [Addr.add] at this ⊢
            subst hs
            have hb : b < w.heap.size := by have := lt_of_cell? hu0; simpa [add_eq] using this
            refine ⟨b, o, rfl, hb, fun i j hi hj => ?_⟩
            obtain ⟨u, hu1, hu2⟩ := hcell i j hi hj
            exact ⟨u, by simpa [add_eq, Nat.add_assoc] using hu1, hu2⟩
      | struct fs =>
        obtain ⟨fs⟩ := fs
        simp only [Bool.and_eq_true] at hp
        obtain ⟨h1, h2, h3⟩ := hp
        have h2 := Nat.eq_of_beq_eq_true h2
        obtain ⟨xs, n, _, rfl, hl, hlen, hf⟩ := DataW.trod_struct hu h
        refine ⟨hl, ?_⟩
        have go : ∀ (gs : List Field) (o : Nat), offsB P o gs = true → o + sumF P gs = cs.length → (∀ x ∈ gs, plainT P f x.type = true) → (∀ x ∈ gs, ∃ y, DataW.trod enc P w 0 sp held n x.type ((cs.drop x.offset).take (P.cellsOf x.type)) = some y ∧ ∀ m ∈ y.1.weights P x.type, m ≤ R) →
            ∃ ds, wfFs (wfT P R f) P gs ds ∧ CellsD (fun b => b < w.heap.size) w ds (cs.drop o) := by
          intro gs
          induction gs with
          | nil =>
            intro o _ ho _ _
            refine ⟨[], rfl, ?_⟩
            simp only [sumF] at ho
            rw [List.drop_eq_nil_of_le (by omega)]
            exact .nil
          | cons q gs ih =>
            intro o ho hs hpl htr
            obtain ⟨nm, ty, off, b4, b5, b6, b7⟩ := q
            simp only [offsB, Bool.and_eq_true] at ho
            have e := Nat.eq_of_beq_eq_true ho.1
            subst e
            simp only [sumF] at hs
            obtain ⟨y, hy, hyw⟩ := htr ⟨nm, ty, off, b4, b5, b6, b7⟩ List.mem_cons_self
            obtain ⟨k1, a, k2, k3⟩ := trod_wf (hpl ⟨nm, ty, off, b4, b5, b6, b7⟩ List.mem_cons_self) hy hyw
            obtain ⟨b, k4, k5⟩ := ih (off + P.cellsOf ty) ho.2 (by omega) (fun x hx => hpl x (by simp [hx])) (fun x hx => htr x (by simp [hx]))
            refine ⟨a ++ b, ⟨a, b, rfl, k2, k4⟩, ?_⟩
            have := k3.append k5
            rw [← List.drop_drop, List.take_append_drop] at this
            exact this
        have := go fs 0 h1 (by omega) (fun x hx => by simpa using List.all_eq_true.1 h3 x hx) (fun x hx => by
          obtain ⟨i, hi, rfl⟩ := List.getElem_of_mem hx
          have := hf i fs[i] (by simp [hi])
          rw [List.getElem?_eq_getElem (by simpa [hlen] using hi)] at this
          exact ⟨_, this, fun m hm => hR m (by
            simp only [DataW.weights, hu]
            exact DataW.weights_mem_each (j := i) (by simp [hi]) (by simp [hlen, hi]) m hm)⟩)
        simpa using this
      | _ => cases hp


def oneD : List D → SV
  | [x] => .d x
  | _ => .junk
def svOf (P : Program) (t : Nat) (ds : List D) : SV :=
  match P.underlying t with
  | some (.struct _) => .agg (ds.map .d)
  | _ => oneD ds

theorem arg_rep {f t : Nat} {v : Value} {d : DataW H} {p : List MemPlace} {r : Reach} {base : Nat} {ρ : Nat → Loc} (hp : plainT P f t = true) (hv : Value.okWide P w r base t v) (h : DataW.Trod enc P w 0 sp held t v d p) {R : Nat} (hR : ∀ n ∈ d.weights P t, n ≤ R) :
    ∃ ds, wfT P R f t ds ∧ RepS (fun b => b < w.heap.size) ρ w (svOf P t ds) v := by
  obtain ⟨g, h⟩ := h
  obtain ⟨hl, ds, h1, h2⟩ := trod_wf hp h hR
  refine ⟨ds, h1, ?_⟩
  cases f with
  | zero => simp [plainT] at hp
  | succ f =>
    simp only [plainT] at hp
    cases hu : P.underlying t with
    | none => rw [hu] at hp; cases hp
    | some e =>
      rw [hu] at hp
      simp only [svOf, hu]
      have single : ∀ {u : Value}, v = u → u.cells = #[u] → RepS (fun b => b < w.heap.size) ρ w (oneD ds) v := by
        intro u e1 e2
        subst e1
        rw [e2] at h2
        cases h2 with
        | cons h3 h4 =>
          cases h4
          simpa only [RepS, oneD] using h3
      cases e with
      | bool => obtain ⟨b, e⟩ := Go.WideShapes.okWide_bool hu hv; exact single e rfl
      | int k => obtain ⟨b, e⟩ := Go.WideShapes.okWide_int hu hv; exact single e rfl
      | string => obtain ⟨b, e⟩ := Go.WideShapes.okWide_string hu hv; exact single e rfl
      | slice e => obtain ⟨a, n, c, e⟩ := Go.WideShapes.okWide_slice hu hv; exact single e rfl
      | struct fs =>
        unfold Value.okWide at hv
        rw [hu] at hv
        obtain ⟨cs, rfl, _, _⟩ := hv
        simp only [RepS]
        obtain ⟨us⟩ := cs
        exact ⟨us, rfl, h2.rep, h2.one⟩
      | _ => cases hp

theorem wf_int {k : IntKind} {n : Int} (h : (Lit.int k n).wf = true) : k.min ≤ n ∧ n ≤ k.max := by
  simpa [Lit.wf] using h
theorem wf_i64 {n : Int} (h : (Lit.int .i64 n).wf = true) : -9223372036854775808 ≤ n ∧ n < 9223372036854775808 := by
  have h := wf_int h
  have h1 : IntKind.i64.min = -9223372036854775808 := rfl
  have h2 : IntKind.i64.max = 9223372036854775807 := rfl
  omega
theorem wf_u8 {n : Int} (h : (Lit.int .u8 n).wf = true) : 0 ≤ n ∧ n < 256 := by
  have h := wf_int h
  have h1 : IntKind.u8.min = 0 := rfl
  have h2 : IntKind.u8.max = 255 := rfl
  omega

/-- A contract as the frame wants it. -/
theorem Spec.law {G : Nat → Option (Nat × (Nat → D))} {f : FuncId} {args : List SV} (h : Spec P G f args [] (.d (.bool true)) []) {ρ : Nat → Loc} {vs : List Value} (hr : RepL (fun b => b < w.heap.size) ρ w args vs)
    (hG : GOk G (fun b => b < w.heap.size) w) : Calls P f ⟨vs⟩ w fun e w' => e = .returned (.bool true) ∧ Below w.heap.size w w' := by
  refine (h.calls w _ ρ vs hr (by simp) (by simp) (fun _ h => h) hG).mono ?_
  rintro e w' ⟨v, I', ρ', rfl, k⟩
  have h1 := k.res
  have h6 := k.keep
  simp only [RepS, RepD] at h1
  subst h1
  exact ⟨rfl, h6.os, h6.tape, h6.output, h6.size, fun k hk => h6.block k hk (by simp)⟩

end Go.Sx
