/- Part of a symbolic executor over the model, proved sound, with plain laws: SxArg. Written for these claims. -/
import Derived.Test.YtiadnhbclipmhaaGreatDoorSxRen
import Derived.ProofKit
import Derived.OpenShut
import Derived.SizedLaws
import Derived.ChangeShapes
import Derived.Carry
import Derived.Handed
set_option linter.unusedVariables false
set_option linter.unusedSimpArgs false
namespace Go.Sx
open Go Go.RowKit
variable {P : Program} {w : World} {H : Type} {enc : TypeId × Value → H} {sp : Nat → Bool} {held : Bool}
def offsB (P : Program) : Nat → List Field → Bool
  | _, [] => true
  | n, ⟨_, t, o, _, _, _, _⟩ :: fs => Nat.beq o n && offsB P (n + P.cellsOf t) fs
def sumF (P : Program) : List Field → Nat
  | [] => 0
  | f :: fs => P.cellsOf f.type + sumF P fs
def plainT (P : Program) : Nat → Nat → Bool
  | 0, _ => false
  | f + 1, t => match P.underlying t with
    | some .bool => Nat.beq (P.cellsOf t) 1
    | some (.int _) => Nat.beq (P.cellsOf t) 1
    | some .string => Nat.beq (P.cellsOf t) 1
    | some (.slice e) => Nat.beq (P.cellsOf t) 1 && (plainT P f e && Nat.blt 0 (P.cellsOf e))
    | some (.struct ⟨fs⟩) => offsB P 0 fs && (Nat.beq (sumF P fs) (P.cellsOf t) && fs.all fun x => plainT P f x.type)
    | _ => false
def wfFs (rec : Nat → List D → Prop) (P : Program) : List Field → List D → Prop
  | [], ds => ds = []
  | f :: fs, ds => ∃ a b, ds = a ++ b ∧ rec f.type a ∧ wfFs rec P fs b
def wfT (P : Program) (R : Nat) : Nat → Nat → List D → Prop
  | 0, _, _ => False
  | f + 1, t, ds => match P.underlying t with
    | some .bool => ∃ b, ds = [.bool b]
    | some (.int k) => ∃ n, ds = [.int k n] ∧ (Lit.int k n).wf = true
    | some .string => ∃ l, ds = [.str l] ∧ l.length ≤ maxLen ∧ l.length ≤ R
    | some (.slice e) => ∃ len get, ds = [.list len (P.cellsOf e) get] ∧ len ≤ maxLen ∧ len * P.bytesOf e ≤ R ∧ ∀ i, i < len → wfT P R f e ((List.range (P.cellsOf e)).map (get i))
    | some (.struct ⟨fs⟩) => wfFs (wfT P R f) P fs ds
    | _ => False
def CellsD (I : Nat → Prop) (w : World) (ds : List D) (cs : List Value) : Prop := All2 (RepD I w) ds cs
theorem CellsD.length {I : Nat → Prop} {ds : List D} {cs : List Value} (h : CellsD I w ds cs) : ds.length = cs.length := by
  induction h with
  | nil => rfl
  | cons _ _ ih => simp [ih]
theorem CellsD.append {I : Nat → Prop} {ds es : List D} {cs us : List Value} (h : CellsD I w ds cs) (h' : CellsD I w es us) : CellsD I w (ds ++ es) (cs ++ us) := by
  induction h with
  | nil => exact h'
  | cons h _ ih => exact .cons h ih
theorem CellsD.get {I : Nat → Prop} {ds : List D} {cs : List Value} (h : CellsD I w ds cs) : ∀ (j : Nat) (hj : j < ds.length), ∃ u, cs[j]? = some u ∧ RepD I w (ds.getD j default) u := by
  induction h with
  | nil => intro j hj; simp at hj
  | cons h _ ih =>
    intro j hj
    cases j with
    | zero => exact ⟨_, rfl, by simpa using h⟩
    | succ j =>
      obtain ⟨u, h1, h2⟩ := ih j (by simpa using hj)
      exact ⟨u, by simpa using h1, by simpa using h2⟩
theorem CellsD.rep {I : Nat → Prop} {ρ : Nat → Loc} {ds : List D} {cs : List Value} (h : CellsD I w ds cs) : RepL I ρ w (ds.map .d) cs := by
  induction h with
  | nil => simp [RepL]
  | cons h _ ih => simp only [List.map_cons, RepL]; exact ⟨_, _, rfl, by simpa only [RepS] using h, ih⟩
theorem CellsD.one {I : Nat → Prop} {ds : List D} {cs : List Value} (h : CellsD I w ds cs) : ∀ u ∈ cs, u.oneCell' = true := by
  induction h with
  | nil => simp
  | cons h _ ih =>
    intro u hu
    rcases List.mem_cons.1 hu with rfl | hu
    · exact h.one
    · exact ih u hu
theorem lt_of_cell? {a : Addr} {v : Value} (h : w.cell? a = some v) : a.block < w.heap.size := World.block_lt_of_cell? _ _ h
theorem weightsAll_mem {e : Nat} {d : DataW H} {n : Nat} : ∀ {l : List (DataW H)}, d ∈ l → n ∈ d.weights P e → n ∈ DataW.weightsAll P e l
  | [], h, _ => by simp at h
  | x :: l, h, hn => by
    simp only [DataW.weightsAll, List.mem_append]
    rcases List.mem_cons.1 h with rfl | h
    · exact .inl hn
    · exact .inr (weightsAll_mem h hn)
theorem trod_wf {R : Nat} : ∀ {fuel t : Nat} {cs : List Value} {x : DataW H × List MemPlace} {g : Nat}, plainT P fuel t = true → DataW.trod enc P w 0 sp held g t cs = some x → (∀ n ∈ x.1.weights P t, n ≤ R) →
    cs.length = P.cellsOf t ∧ ∃ ds, wfT P R fuel t ds ∧ CellsD (fun b => b < w.heap.size) w ds cs
  | 0, t, cs, x, g, hp, _, _ => by simp [plainT] at hp
  | f + 1, t, cs, x, g, hp, h, hR => by
    simp only [plainT] at hp
    cases hu : P.underlying t with
    | none => rw [hu] at hp; cases hp
    | some d =>
      rw [hu] at hp
      simp only [wfT, hu]
      cases d with
      | bool =>
        have hp := Nat.eq_of_beq_eq_true hp
        obtain ⟨b, rfl, _⟩ := DataW.trod_bool hu h
        exact ⟨by simp [hp], [.bool b], ⟨b, rfl⟩, .cons (by simp [RepD]) .nil⟩
      | int k =>
        have hp := Nat.eq_of_beq_eq_true hp
        obtain ⟨n, rfl, _, hw⟩ := DataW.trod_int hu h
        exact ⟨by simp [hp], [.int k n], ⟨n, rfl, hw⟩, .cons (by simp [RepD]) .nil⟩
      | string =>
        have hp := Nat.eq_of_beq_eq_true hp
        obtain ⟨s, rfl, rfl, hw⟩ := DataW.trod_string hu h
        obtain ⟨⟨l⟩⟩ := s
        exact ⟨by simp [hp], [.str l], ⟨l, rfl, hw, hR _ (by simp [DataW.weights])⟩, .cons (by simp [RepD]) .nil⟩
      | slice e =>
        simp only [Bool.and_eq_true] at hp
        have h1 := Nat.eq_of_beq_eq_true hp.1
        have h3 : 0 < P.cellsOf e := Nat.le_of_ble_eq_true hp.2.2
        rcases DataW.trod_slice hu h with ⟨rfl, _⟩ | ⟨a, len, cap, elems, rest, n, _, rfl, rfl, _, hle, hcap, hlen, hel, _⟩
        · refine ⟨by simp [h1], _, ⟨0, fun _ _ => default, rfl, by simp [maxLen], by simp, fun i hi => absurd hi (by simp)⟩, .cons ?_ .nil⟩
          simp only [RepD]
          exact ⟨none, 0, rfl, Nat.le_refl _, fun h => absurd h (by simp)⟩
        · have key : ∀ i, ∃ ds : List D, i < len → ∃ cs, w.cells? 0 (a.add (i * P.cellsOf e)) (P.cellsOf e) = some cs ∧ ds.length = P.cellsOf e ∧ wfT P R f e ds ∧ CellsD (fun b => b < w.heap.size) w ds cs := by
            intro i
            by_cases hi : i < len
            · have := hel i hi
              rw [List.getElem?_eq_getElem (by omega)] at this
              cases hc : w.cells? 0 (a.add (i * P.cellsOf e)) (P.cellsOf e) with
              | none => rw [hc] at this; cases this
              | some cs =>
                rw [hc] at this
                obtain ⟨k1, ds, k2, k3⟩ := trod_wf hp.2.1 (show DataW.trod enc P w 0 sp held n e cs = _ from this) (fun m hm => hR m (by
                  simp only [DataW.weights, hu, List.mem_cons, List.mem_append]
                  exact .inr (.inl (weightsAll_mem (List.mem_map.2 ⟨_, List.getElem_mem _, rfl⟩) hm))))
                exact ⟨ds, fun _ => ⟨cs, rfl, by rw [k3.length, k1], k2, k3⟩⟩
            · exact ⟨[], fun h => absurd h hi⟩
          refine ⟨by simp [h1], _, ⟨len, fun i j => (Classical.choose (key i)).getD j default, rfl, by omega, ?_, fun i hi => ?_⟩, .cons ?_ .nil⟩
          · have := hR ((elems.length + rest.length) * P.bytesOf e) (by simp [DataW.weights, hu])
            refine Nat.le_trans ?_ this
            exact Nat.mul_le_mul_right _ (by omega)
          · obtain ⟨cs, _, k1, k2, _⟩ := Classical.choose_spec (key i) hi
            have e : (List.range (P.cellsOf e)).map (fun j => (Classical.choose (key i)).getD j default) = Classical.choose (key i) := by
              apply List.ext_getElem?
              intro j
              by_cases hj : j < P.cellsOf e
              · rw [List.getElem?_map, List.getElem?_range hj]
                simp [List.getD, List.getElem?_eq_getElem (show j < (Classical.choose (key i)).length by omega)]
              · rw [List.getElem?_eq_none (by simp; omega), List.getElem?_eq_none (by omega)]
            rw [e]
            exact k2
          · simp only [RepD]
            refine ⟨some a, cap, rfl, hle, fun hpos => ?_⟩
            obtain ⟨cs0, hc0, _, _, k30⟩ := Classical.choose_spec (key 0) hpos
            have hcell : ∀ i j, i < len → j < P.cellsOf e → ∃ u, w.cell? ((a.add (i * P.cellsOf e)).add j) = some u ∧ RepD (fun b => b < w.heap.size) w ((Classical.choose (key i)).getD j default) u := by
              intro i j hi hj
              obtain ⟨cs, hc, k1, k2, k3⟩ := Classical.choose_spec (key i) hi
              obtain ⟨_, m2, m3⟩ := World.cells?_some hc
              obtain ⟨u, hu1, hu2⟩ := k3.get j (by omega)
              exact ⟨u, by rw [m3 j hj]; exact hu1, hu2⟩
            obtain ⟨u0, hu0, _⟩ := hcell 0 0 hpos h3
            obtain ⟨b, o, spot⟩ := a
            have hs : spot = none := by
              have := World.cell?_spot hu0
              cases spot <;> simp [Addr.add] at this ⊢
            subst hs
            have hb : b < w.heap.size := by have := lt_of_cell? hu0; simpa [add_eq] using this
            refine ⟨b, o, rfl, hb, fun i j hi hj => ?_⟩
            obtain ⟨u, hu1, hu2⟩ := hcell i j hi hj
            exact ⟨u, by simpa [add_eq, Nat.add_assoc] using hu1, hu2⟩
      | struct fs =>
        obtain ⟨fs⟩ := fs
        simp only [Bool.and_eq_true] at hp
        obtain ⟨h1, h2, h3⟩ := hp
        have h2 := Nat.eq_of_beq_eq_true h2
        obtain ⟨xs, n, _, rfl, hl, hlen, hf⟩ := DataW.trod_struct hu h
        refine ⟨hl, ?_⟩
        have go : ∀ (gs : List Field) (o : Nat), offsB P o gs = true → o + sumF P gs = cs.length → (∀ x ∈ gs, plainT P f x.type = true) → (∀ x ∈ gs, ∃ y, DataW.trod enc P w 0 sp held n x.type ((cs.drop x.offset).take (P.cellsOf x.type)) = some y ∧ ∀ m ∈ y.1.weights P x.type, m ≤ R) →
            ∃ ds, wfFs (wfT P R f) P gs ds ∧ CellsD (fun b => b < w.heap.size) w ds (cs.drop o) := by
          intro gs
          induction gs with
          | nil =>
            intro o _ ho _ _
            refine ⟨[], rfl, ?_⟩
            simp only [sumF] at ho
            rw [List.drop_eq_nil_of_le (by omega)]
            exact .nil
          | cons q gs ih =>
            intro o ho hs hpl htr
            obtain ⟨nm, ty, off, b4, b5, b6, b7⟩ := q
            simp only [offsB, Bool.and_eq_true] at ho
            have e := Nat.eq_of_beq_eq_true ho.1
            subst e
            simp only [sumF] at hs
            obtain ⟨y, hy, hyw⟩ := htr ⟨nm, ty, off, b4, b5, b6, b7⟩ List.mem_cons_self
            obtain ⟨k1, a, k2, k3⟩ := trod_wf (hpl ⟨nm, ty, off, b4, b5, b6, b7⟩ List.mem_cons_self) hy hyw
            obtain ⟨b, k4, k5⟩ := ih (off + P.cellsOf ty) ho.2 (by omega) (fun x hx => hpl x (by simp [hx])) (fun x hx => htr x (by simp [hx]))
            refine ⟨a ++ b, ⟨a, b, rfl, k2, k4⟩, ?_⟩
            have := k3.append k5
            rw [← List.drop_drop, List.take_append_drop] at this
            exact this
        have := go fs 0 h1 (by omega) (fun x hx => by simpa using List.all_eq_true.1 h3 x hx) (fun x hx => by
          obtain ⟨i, hi, rfl⟩ := List.getElem_of_mem hx
          have := hf i fs[i] (by simp [hi])
          rw [List.getElem?_eq_getElem (by simpa [hlen] using hi)] at this
          exact ⟨_, this, fun m hm => hR m (by
            simp only [DataW.weights, hu]
            exact DataW.weights_mem_each (j := i) (by simp [hi]) (by simp [hlen, hi]) m hm)⟩)
        simpa using this
      | _ => cases hp
def oneD : List D → SV
  | [x] => .d x
  | _ => .junk
def svOf (P : Program) (t : Nat) (ds : List D) : SV :=
  match P.underlying t with
  | some (.struct _) => .agg (ds.map .d)
  | _ => oneD ds
theorem arg_rep {f t : Nat} {v : Value} {d : DataW H} {p : List MemPlace} {r : Reach} {base : Nat} {ρ : Nat → Loc} (hp : plainT P f t = true) (hv : Value.okWide P w r base t v) (h : DataW.Trod enc P w 0 sp held t v d p) {R : Nat} (hR : ∀ n ∈ d.weights P t, n ≤ R) :
    ∃ ds, wfT P R f t ds ∧ RepS (fun b => b < w.heap.size) ρ w (svOf P t ds) v := by
  obtain ⟨g, h⟩ := h
  obtain ⟨hl, ds, h1, h2⟩ := trod_wf hp h hR
  refine ⟨ds, h1, ?_⟩
  cases f with
  | zero => simp [plainT] at hp
  | succ f =>
    simp only [plainT] at hp
    cases hu : P.underlying t with
    | none => rw [hu] at hp; cases hp
    | some e =>
      rw [hu] at hp
      simp only [svOf, hu]
      have single : ∀ {u : Value}, v = u → u.cells = #[u] → RepS (fun b => b < w.heap.size) ρ w (oneD ds) v := by
        intro u e1 e2
        subst e1
        rw [e2] at h2
        cases h2 with
        | cons h3 h4 =>
          cases h4
          simpa only [RepS, oneD] using h3
      cases e with
      | bool => obtain ⟨b, e⟩ := Go.WideShapes.okWide_bool hu hv; exact single e rfl
      | int k => obtain ⟨b, e⟩ := Go.WideShapes.okWide_int hu hv; exact single e rfl
      | string => obtain ⟨b, e⟩ := Go.WideShapes.okWide_string hu hv; exact single e rfl
      | slice e => obtain ⟨a, n, c, e⟩ := Go.WideShapes.okWide_slice hu hv; exact single e rfl
      | struct fs =>
        unfold Value.okWide at hv
        rw [hu] at hv
        obtain ⟨cs, rfl, _, _⟩ := hv
        simp only [RepS]
        obtain ⟨us⟩ := cs
        exact ⟨us, rfl, h2.rep, h2.one⟩
      | _ => cases hp
theorem wf_int {k : IntKind} {n : Int} (h : (Lit.int k n).wf = true) : k.min ≤ n ∧ n ≤ k.max := by
  simpa [Lit.wf] using h
theorem wf_i64 {n : Int} (h : (Lit.int .i64 n).wf = true) : -9223372036854775808 ≤ n ∧ n < 9223372036854775808 := by
  have h := wf_int h
  have h1 : IntKind.i64.min = -9223372036854775808 := rfl
  have h2 : IntKind.i64.max = 9223372036854775807 := rfl
  omega
theorem Spec.law {G : Nat → Option (Nat × (Nat → D))} {f : FuncId} {args : List SV} (h : Spec P G f args [] (.d (.bool true)) []) {ρ : Nat → Loc} {vs : List Value} (hr : RepL (fun b => b < w.heap.size) ρ w args vs)
    (hG : GOk G (fun b => b < w.heap.size) w) : Calls P f ⟨vs⟩ w fun e w' => e = .returned (.bool true) ∧ Below w.heap.size w w' := by
  refine (h.calls w _ ρ vs hr (by simp) (by simp) (fun _ h => h) hG).mono ?_
  rintro e w' ⟨v, I', ρ', rfl, k⟩
  have h1 := k.res
  have h6 := k.keep
  simp only [RepS, RepD] at h1
  subst h1
  exact ⟨rfl, h6.os, h6.tape, h6.output, h6.size, fun k hk => h6.block k hk (by simp)⟩
end Go.Sx

namespace Go.Sx
open Go Go.RowKit Go.ChangeShapes
variable {P : Program} {w : World} {H : Type} {enc : TypeId × Value → H}
def svs (P : Program) : List Nat → List (List D) → List SV
  | t :: ts, ds :: r => svOf P t ds :: svs P ts r
  | _, _ => []
theorem args_wf {sp : Nat → Bool} {held : Bool} {R base : Nat} {ρ : Nat → Loc} : ∀ {ts : List Nat} {vs : List Value} {ds : List (DataW H)} {p : List MemPlace}, (∀ t ∈ ts, plainT P 12 t = true) →
    DataW.TrodAll enc P w 0 sp held ts vs ds p → (∀ (j : Nat) t v, ts[j]? = some t → vs[j]? = some v → Value.okWide P w .any base t v) → (∀ n ∈ DataW.weightsEach P ts ds, n ≤ R) →
    ∃ dss, All2 (wfT P R 12) ts dss ∧ RepL (fun b => b < w.heap.size) ρ w (svs P ts dss) vs ∧ ds.length = ts.length ∧ ∀ x ∈ p, x.block < w.heap.size
  | [], vs, ds, p, _, h, _, _ => by
    obtain ⟨rfl, rfl, rfl⟩ := trodAll_nil h
    exact ⟨[], .nil, by simp [svs, RepL], rfl, by simp⟩
  | t :: ts, vs, ds, p, hp, h, hv, hR => by
    obtain ⟨v, vs, d, ds, p, q, rfl, rfl, rfl, h0, h1⟩ := trodAll_cons h
    obtain ⟨dss, k1, k2, k3, k4⟩ := args_wf (ρ := ρ) (fun t ht => hp t (by simp [ht])) h1 (fun j t v a b => hv (j + 1) t v (by simpa using a) (by simpa using b)) (fun n hn => hR n (by simp [DataW.weightsEach, hn]))
    obtain ⟨x, m1, m2⟩ := arg_rep (ρ := ρ) (hp t (by simp)) (hv 0 t v rfl rfl) h0 (fun n hn => hR n (by simp [DataW.weightsEach, hn]))
    refine ⟨x :: dss, .cons m1 k1, ?_, by simp [k3], fun y hy => ?_⟩
    · simp only [svs, RepL]
      exact ⟨_, _, rfl, m2, k2⟩
    · rcases List.mem_append.1 hy with hy | hy
      · obtain ⟨m, hm⟩ := h0
        exact DataW.trod_lt m _ _ _ hm y hy
      · exact k4 y hy
theorem below_all (hl : laidOutB P = true) {W W' : World} (hb : Below W.heap.size W W') : ∀ {ts : List Nat} {vs : List Value} {ds : List (DataW H)} {p : List MemPlace},
    (∀ t ∈ ts, P.readableRec t = true ∧ t < P.types.size) → DataW.TrodAll enc P W 0 (fun _ => true) true ts vs ds p → (∀ x ∈ p, x.block < W.heap.size) →
    DataW.TrodAll enc P W' 0 (fun b => decide (b < W.heap.size)) true ts vs ds p
  | [], vs, ds, p, _, h, _ => by
    obtain ⟨rfl, rfl, rfl⟩ := trodAll_nil h
    exact trodAll_mk0
  | t :: ts, vs, ds, p, hp, h, hlt => by
    obtain ⟨v, vs, d, ds, p, q, rfl, rfl, rfl, h0, h1⟩ := trodAll_cons h
    exact trodAll_cons_mk (Below.trod hl (hp t (by simp)).1 (hp t (by simp)).2 h0 hb (fun x hx => hlt x (by simp [hx])))
      (below_all hl hb (fun t ht => hp t (by simp [ht])) h1 (fun x hx => hlt x (by simp [hx])))
def typesB (P : Program) : List Nat → Bool
  | [] => true
  | t :: ts => plainT P 12 t && (P.readableRec t && (decide (t < P.types.size) && typesB P ts))
theorem typesB_inv : ∀ {ts : List Nat}, typesB P ts = true → ∀ t ∈ ts, plainT P 12 t = true ∧ P.readableRec t = true ∧ t < P.types.size
  | [], _, t, ht => by simp at ht
  | t :: ts, h, u, hu => by
    simp only [typesB, Bool.and_eq_true, decide_eq_true_eq] at h
    obtain ⟨h1, h2, h3, h4⟩ := h
    rcases List.mem_cons.1 hu with rfl | hu
    · exact ⟨h1, h2, h3⟩
    · exact typesB_inv h4 u hu
theorem law_contract {f : FuncId} {fn : Func} {s : ChangeSpec} {G : Nat → Option (Nat × (Nat → D))} {ts : List Nat} {bt : Nat} (laidOut : laidOutB P = true) (hts : fn.params.toList = ts) (hres : fn.resultTypes = #[bt])
    (hbt : P.underlying bt = some .bool) (htypes : typesB P ts = true) (hvars : s.vars = []) (hs : ∀ ds : List (DataW H), ds.length = ts.length → s.fn H ds = { results := [.lit (.bool true)], args := ds, vars := [] })
    (spec : ∀ dss, All2 (wfT P reachBytes 12) ts dss → Spec P G f (svs P ts dss) [] (.d (.bool true)) [])
    {W : World} {base : Nat} {args : Array Value} {ds gs : List (DataW H)} {before : List MemPlace}
    (hval : ∀ (j : Nat) t v, fn.params[j]? = some t → args[j]? = some v → Value.okWide P W .any base t v)
    (hW : DataW.Whole enc P fn.params.toList s.vars false W args.toList ds gs before)
    (hsz : (DataW.weightsEach P (fn.params.toList ++ s.plain.varTypes P) (ds ++ gs)).all (· ≤ reachBytes) = true) (hG : GOk G (fun b => b < W.heap.size) W) :
    Calls P f args W fun e W' => ∃ v, e = .returned v ∧ s.post enc P fn false true false false W args v W' := by
  have hW' := hW
  obtain ⟨p, q, hA, hV, rfl, hfz, hnd⟩ := hW
  rw [hts] at hA
  rw [hvars] at hV
  obtain ⟨rfl, rfl⟩ := trodVars_none hV
  have hty := typesB_inv htypes
  have hlen : ds.length = ts.length := by
    have : ∀ {ts : List Nat} {vs : List Value} {ds : List (DataW H)} {p : List MemPlace}, DataW.TrodAll enc P W 0 (fun _ => true) true ts vs ds p → ds.length = ts.length := by
      intro ts
      induction ts with
      | nil => intro vs ds p h; obtain ⟨rfl, rfl, rfl⟩ := trodAll_nil h; rfl
      | cons t ts ih => intro vs ds p h; obtain ⟨v, vs, d, ds, p, q, rfl, rfl, rfl, h0, h1⟩ := trodAll_cons h; simp [ih h1]
    exact this hA
  obtain ⟨dss, k1, k2, _, k4⟩ := args_wf (ρ := fun _ => mkL 0 0 0 0 0) (base := base) (R := reachBytes) (fun t ht => (hty t ht).1) hA
    (fun j t v a b => hval j t v (by rw [← hts] at a; simpa using a) (by simpa using b)) (fun n hn => by
      have := List.all_eq_true.1 hsz n (by
        rw [hts]
        have e : ∀ {ts us : List Nat} {ds es : List (DataW H)}, ds.length = ts.length → ∀ n ∈ DataW.weightsEach P ts ds, n ∈ DataW.weightsEach P (ts ++ us) (ds ++ es) := by
          intro ts us
          induction ts with
          | nil => intro ds es h n hn; cases ds <;> simp [DataW.weightsEach] at hn
          | cons t ts ih =>
            intro ds es h n hn
            cases ds with
            | nil => simp at h
            | cons d ds =>
              simp only [DataW.weightsEach, List.mem_append, List.cons_append] at hn ⊢
              exact hn.imp id (ih (by simpa using h) n)
        exact e hlen n hn)
      simpa using this)
  obtain ⟨args⟩ := args
  refine ((spec dss k1).law (w := W) (vs := args) k2 hG).mono fun e W' ⟨he, bel⟩ => ?_
  subst he
  have hs' := hs (ds ++ []) (by simpa using hlen)
  refine ⟨_, rfl, _, _, _, [], p, [], hW', ?_, ?_, ?_, bel.frame _, fun h => by cases h⟩
  · rw [hs', hres]; exact trodAll_mk1 (shut_bool hbt _)
  · rw [hs', hts, List.append_nil]; exact below_all laidOut bel (fun t ht => (hty t ht).2) hA k4
  · rw [hs', hvars]; rfl
end Go.Sx

namespace Go.Sx
open Go
variable {P : Program} {G : Nat → Option (Nat × (Nat → D))} {nt : Nat} {E : List Nat}
theorem call_some {X : Type} {Q : X → Prop} {res : X → SV} {post : X → List (Nat × Blk)} {f : FuncId} {args : List SV} {pre : List (Nat × Blk)} {bor : List Nat} {K : SV → List (Nat × Blk) → Prop}
    (h : ∃ x, Q x ∧ Spec P G f args pre (res x) (post x)) (hb : ∀ x, bor = [] ∨ (flatR (res x) = true ∧ FlatPost (post x))) (k : ∀ x, Q x → K (res x) (post x)) : CallVC P G f args pre bor K := by
  obtain ⟨x, hq, hs⟩ := h
  exact .mk (res x) (post x) hs (hb x) (k x hq)
theorem draw_intro {ops : List Oper} {σ : St} {K : St → Prop} (h : ordB 0 ops = true) (k : drawOps P G E nt ops 0 ops σ [] fun feet σ => OrdVC ops feet (K σ)) : DrawVC P G E nt ops σ K := ⟨h, k⟩
theorem ord_intro {ops : List Oper} {feet : List Foot} {X : Prop} (h : orderB ops feet = true) (k : X) : OrdVC ops feet X := ⟨h, k⟩
theorem call_if {p : Prop} {f : FuncId} {args : List SV} {pre : List (Nat × Blk)} {bor : List Nat} {K : SV → List (Nat × Blk) → Prop} {res : SV} {post : List (Nat × Blk)} (h : p → Spec P G f args pre res post)
    (hb : bor = [] ∨ (flatR res = true ∧ FlatPost post)) (k : Need p (K res post)) : CallVC P G f args pre bor K := call_intro (h k.h) k.k hb
theorem call_some_if {p : Prop} {X : Type} {Q : X → Prop} {res : X → SV} {post : X → List (Nat × Blk)} {f : FuncId} {args : List SV} {pre : List (Nat × Blk)} {bor : List Nat} {K : SV → List (Nat × Blk) → Prop}
    (h : p → ∃ x, Q x ∧ Spec P G f args pre (res x) (post x)) (hb : ∀ x, bor = [] ∨ (flatR (res x) = true ∧ FlatPost (post x))) (k : Need p (∀ x, Q x → K (res x) (post x))) : CallVC P G f args pre bor K :=
  call_some (h k.h) hb k.k
inductive JoinVC {X : Type} (pre : X → Prop) (ent : X → Prop) : Prop where
  | mk (x : X) (h : ent x) (hp : pre x)
theorem join_auto {X : Type} {b : Bool} {x y : Code} {σ : St} {K : Ex → St → Prop} (keep keepO : List Nat) (slots : X → List (Nat × SV)) (own : X → List (Nat × Blk)) (pre : X → Prop)
    (h1 : b = true → exec P G E nt x σ fun e σ' => match e with
      | .normal => JoinVC pre fun x => invK keep keepO (slots x) (own x) σ fun σ2 => entK σ' σ2
      | .exit i => K (.exit i) σ'
      | .ret => K .ret σ')
    (h2 : b = false → exec P G E nt y σ fun e σ' => match e with
      | .normal => JoinVC pre fun x => invK keep keepO (slots x) (own x) σ fun σ2 => entK σ' σ2
      | .exit i => K (.exit i) σ'
      | .ret => K .ret σ')
    (k : ∀ x, pre x → invK keep keepO (slots x) (own x) σ fun σ1 => K .normal σ1) : bc b (exec P G E nt x σ (wkK K)) (exec P G E nt y σ (wkK K)) := by
  have hI : ∀ x, ∃ r, ∀ k, invK keep keepO (slots x) (own x) σ k ↔ k r := fun x => invK_eq
  have fin : ∀ {c : Code}, (exec P G E nt c σ fun e σ' => match e with
      | .normal => JoinVC pre fun x => invK keep keepO (slots x) (own x) σ fun σ2 => entK σ' σ2
      | .exit i => K (.exit i) σ'
      | .ret => K .ret σ') → exec P G E nt c σ (wkK K) := by
    intro c h
    refine exec_mono ?_ h
    intro e σ' h
    cases e with
    | normal =>
      obtain ⟨x, h3, h4⟩ := h
      obtain ⟨r, hr⟩ := hI x
      exact ⟨r, entC_of ((hr _).1 h3), (hr _).1 (k x h4)⟩
    | exit i => exact h
    | ret => exact h
  exact bc_intro (fun h => fin (h1 h)) (fun h => fin (h2 h))
def cellOf {α : Type} [Inhabited α] (enc : α → List D) (xs : List α) (i j : Nat) : D := (enc (xs.getD i default)).getD j default
abbrev encL {α : Type} [Inhabited α] (enc : α → List D) (k : Nat) (xs : List α) : D := .list xs.length k (cellOf enc xs)
theorem getD_append_left {α : Type} {xs ys : List α} {i : Nat} {d : α} (h : i < xs.length) : (xs ++ ys).getD i d = xs.getD i d := by
  simp [List.getD, List.getElem?_append_left h]
theorem getD_append_right {α : Type} {xs ys : List α} {i : Nat} {d : α} (h : ¬ i < xs.length) : (xs ++ ys).getD i d = ys.getD (i - xs.length) d := by
  simp [List.getD, List.getElem?_append_right (Nat.le_of_not_lt h)]
theorem row_append {α : Type} [Inhabited α] {enc : α → List D} {k n : Nat} {xs ys : List α} {g1 g2 : Nat → Nat → D} (hn : n = xs.length) (h1 : RowLe n k g1 (cellOf enc xs)) (h2 : RowLe ys.length k g2 (cellOf enc ys)) :
    RowLe (n + ys.length) k (fun i j => if i < n then g1 i j else g2 (i - n) j) (cellOf enc (xs ++ ys)) := by
  subst hn
  refine ⟨fun i j hi hj => ?_⟩
  by_cases h : i < xs.length
  · simp only [h, if_true]
    have := h1.le i j h hj
    simpa only [cellOf, getD_append_left h] using this
  · simp only [h, if_false]
    have := h2.le (i - xs.length) j (by omega) hj
    simpa only [cellOf, getD_append_right h] using this
theorem row_one {α : Type} [Inhabited α] {enc : α → List D} {k : Nat} {x : α} {g : Nat → Nat → D} (h : ∀ j, j < k → DLe (g 0 j) ((enc x).getD j default)) : RowLe 1 k g (cellOf enc [x]) :=
  ⟨fun i j hi hj => by
    have : i = 0 := by omega
    subst this
    exact h j hj⟩
theorem row_snoc {α : Type} [Inhabited α] {enc : α → List D} {k n : Nat} {xs : List α} {x : α} {g1 g2 : Nat → Nat → D} (hn : n = xs.length) (h1 : RowLe n k g1 (cellOf enc xs)) (h : ∀ j, j < k → DLe (g2 0 j) ((enc x).getD j default)) :
    RowLe (n + 1) k (fun i j => if i < n then g1 i j else g2 (i - n) j) (cellOf enc (xs ++ [x])) :=
  row_append (ys := [x]) hn h1 (row_one h)
theorem row_nil {k : Nat} {g1 g2 : Nat → Nat → D} : RowLe 0 k g1 g2 := ⟨fun i j hi _ => absurd hi (by omega)⟩
theorem row_take {α : Type} [Inhabited α] {enc : α → List D} {k n : Nat} {xs : List α} (h : n ≤ xs.length) : RowLe n k (cellOf enc xs) (cellOf enc (xs.take n)) :=
  .of_eq fun i j hi _ => by simp [cellOf, List.getD, List.getElem?_take, hi]
theorem DLe.rows {len len' k : Nat} {g g' : Nat → Nat → D} (h : len = len') (hr : RowLe len' k g g') : DLe (.list len k g) (.list len' k g') := DLe.list h (fun _ => rfl) hr.le
theorem jlt2 {p : Nat → Prop} (h0 : p 0) (h1 : p 1) : ∀ j, j < 2 → p j
  | 0, _ => h0
  | 1, _ => h1
theorem jlt1 {p : Nat → Prop} (h0 : p 0) : ∀ j, j < 1 → p j
  | 0, _ => h0
theorem jlt4 {p : Nat → Prop} (h0 : p 0) (h1 : p 1) (h2 : p 2) (h3 : p 3) : ∀ j, j < 4 → p j
  | 0, _ => h0
  | 1, _ => h1
  | 2, _ => h2
  | 3, _ => h3
theorem jlt3 {p : Nat → Prop} (h0 : p 0) (h1 : p 1) (h2 : p 2) : ∀ j, j < 3 → p j
  | 0, _ => h0
  | 1, _ => h1
  | 2, _ => h2
theorem jlt5 {p : Nat → Prop} (h0 : p 0) (h1 : p 1) (h2 : p 2) (h3 : p 3) (h4 : p 4) : ∀ j, j < 5 → p j
  | 0, _ => h0
  | 1, _ => h1
  | 2, _ => h2
  | 3, _ => h3
  | 4, _ => h4
theorem list_of {α : Type} [Inhabited α] {enc : α → List D} {Q : α → Prop} {k : Nat} (hk : ∀ x, (enc x).length = k) : ∀ {len : Nat} {get : Nat → Nat → D}, (∀ i, i < len → ∃ x, Q x ∧ (List.range k).map (get i) = enc x) →
    ∃ xs : List α, xs.length = len ∧ (∀ x ∈ xs, Q x) ∧ DLe (.list len k get) (encL enc k xs)
  | len, get, h => by
    let f : Nat → α := fun i => if hi : i < len then Classical.choose (h i hi) else default
    refine ⟨(List.range len).map f, by simp, ?_, DLe.rows (by simp) ?_⟩
    · intro x hx
      obtain ⟨i, hi, rfl⟩ := List.mem_map.1 hx
      have hi : i < len := List.mem_range.1 hi
      simp only [f, dif_pos hi]
      exact (Classical.choose_spec (h i hi)).1
    · refine .of_eq fun i j hi hj => ?_
      have hi : i < len := by simpa using hi
      have e := (Classical.choose_spec (h i hi)).2
      have : ((List.range len).map f).getD i default = f i := by simp [List.getD, hi]
      simp only [cellOf, this, f, dif_pos hi]
      rw [← e]
      simp [List.getD, hj]
theorem row_zero {n k : Nat} {g : Nat → Nat → D} : RowLe n k (fun i j => g (0 + i) j) g := .of_eq fun i j _ _ => by rw [Nat.zero_add]
theorem bl_irrefl : ∀ x : List UInt8, Op.bytesLess x x = false
  | [] => rfl
  | a :: x => by simp [Op.bytesLess, bl_irrefl x]
theorem bl_trans : ∀ {x y z : List UInt8}, Op.bytesLess x y = true → Op.bytesLess y z = true → Op.bytesLess x z = true
  | [], [], z, h, _ => by simp [Op.bytesLess] at h
  | [], _ :: _, [], _, h => by simp [Op.bytesLess] at h
  | [], _ :: _, _ :: _, _, _ => by simp [Op.bytesLess]
  | _ :: _, [], _, h, _ => by simp [Op.bytesLess] at h
  | _ :: _, _ :: _, [], _, h => by simp [Op.bytesLess] at h
  | a :: x, b :: y, c :: z, h1, h2 => by
    simp only [Op.bytesLess, Bool.or_eq_true, Bool.and_eq_true, decide_eq_true_eq, beq_iff_eq] at h1 h2 ⊢
    rcases h1 with h1 | ⟨rfl, h1⟩
    · rcases h2 with h2 | ⟨rfl, h2⟩
      · exact .inl (UInt8.lt_trans h1 h2)
      · exact .inl h1
    · rcases h2 with h2 | ⟨rfl, h2⟩
      · exact .inl h2
      · exact .inr ⟨rfl, bl_trans h1 h2⟩
theorem bl_tri : ∀ {x y : List UInt8}, Op.bytesLess x y = false → Op.bytesLess y x = false → x = y
  | [], [], _, _ => rfl
  | [], _ :: _, h, _ => by simp [Op.bytesLess] at h
  | _ :: _, [], _, h => by simp [Op.bytesLess] at h
  | a :: x, b :: y, h1, h2 => by
    simp only [Op.bytesLess, Bool.or_eq_false_iff, Bool.and_eq_false_iff, decide_eq_false_iff_not, beq_eq_false_iff_ne] at h1 h2
    have hab : a = b := by
      have h3 := h1.1
      have h4 := h2.1
      exact UInt8.le_antisymm (UInt8.not_lt.1 h4) (UInt8.not_lt.1 h3)
    subst hab
    have h3 : Op.bytesLess x y = false := h1.2.resolve_left (fun h => h rfl)
    have h4 : Op.bytesLess y x = false := h2.2.resolve_left (fun h => h rfl)
    rw [bl_tri h3 h4]
end Go.Sx

namespace Go.Sx
open Go
variable {P : Program} {G : Nat → Option (Nat × (Nat → D))} {E : List Nat} {nt : Nat}
theorem Fl {p q r : Prop} (h : p ∨ (q ∧ r) := by first | exact .inl rfl | exact .inr ⟨rfl, trivial⟩ | exact .inr ⟨rfl, by (repeat' (first | exact trivial | exact rfl | assumption | refine And.intro ?_ ?_ | exact (fun i j hi hj => jlt1 (by exact rfl) j hj) | exact (fun i j hi hj => jlt2 (by exact rfl) (by exact rfl) j hj) | exact (fun i j hi hj => jlt3 (by exact rfl) (by exact rfl) (by exact rfl) j hj) | exact (fun i j hi hj => jlt4 (by exact rfl) (by exact rfl) (by exact rfl) (by exact rfl) j hj) | exact (fun i j hi hj => jlt5 (by exact rfl) (by exact rfl) (by exact rfl) (by exact rfl) (by exact rfl) j hj)))⟩) : p ∨ (q ∧ r) := h
theorem Bt {b : Bool} {X Y : Prop} (x : X) (h : b = true := by assumption) : bc b X Y := bc_true h x
theorem Bf {b : Bool} {X Y : Prop} (y : Y) (h : b = false := by assumption) : bc b X Y := bc_false h y
theorem Ni {p X : Prop} (k : X) (h : p) : Need p X := ⟨h, k⟩
theorem Wq {σ : St} {k : St → Prop} (h : k σ) : WkVC σ k := wk_refl h
theorem Di {ops : List Oper} {σ : St} {K : St → Prop} (k : drawOps P G E nt ops 0 ops σ [] fun feet σ => OrdVC ops feet (K σ)) (h : ordB 0 ops = true := by kernel_rfl) : DrawVC P G E nt ops σ K := draw_intro h k
theorem Oi {ops : List Oper} {feet : List Foot} {X : Prop} (k : X) (h : orderB ops feet = true := by kernel_rfl) : OrdVC ops feet X := ord_intro h k
theorem Lf {p : Prop} (h : p := by first | exact trivial | exact rfl | exact DLe.refl _ | exact FamLe.refl _ | exact FRowLe.refl _ _ _ | exact RowLe.refl _ _ _ | exact ⟨rfl, rfl⟩ | exact ⟨rfl, rfl, rfl⟩ | exact ⟨rfl, rfl, rfl, rfl⟩ | exact GMapLe.refl _ _ _ | exact ⟨trivial, trivial, trivial⟩ | exact ⟨trivial, trivial⟩ | exact ⟨trivial, trivial, trivial, trivial⟩ | omega) : p := h
theorem Lq {p : Prop} (h : p := by first | exact ⟨rfl, rfl⟩ | exact ⟨rfl, rfl, rfl⟩ | exact DLe.refl _ | exact RowLe.refl _ _ _ | exact FamLe.refl _ | exact FRowLe.refl _ _ _ | exact GMapLe.refl _ _ _ | exact ⟨rfl, rfl, rfl, rfl⟩ | exact rfl | exact trivial | omega) : p := h
theorem Ci {f : FuncId} {args : List SV} {pre : List (Nat × Blk)} {bor : List Nat} {K : SV → List (Nat × Blk) → Prop} {res : SV} {post : List (Nat × Blk)} (h : Spec P G f args pre res post) (k : K res post)
    (hb : bor = [] ∨ (flatR res = true ∧ FlatPost post) := by first | exact .inl rfl | exact .inr ⟨rfl, trivial⟩ | exact .inr ⟨rfl, by (repeat' (first | exact trivial | exact rfl | assumption | refine And.intro ?_ ?_ | exact (fun i j hi hj => jlt1 (by exact rfl) j hj) | exact (fun i j hi hj => jlt2 (by exact rfl) (by exact rfl) j hj) | exact (fun i j hi hj => jlt3 (by exact rfl) (by exact rfl) (by exact rfl) j hj) | exact (fun i j hi hj => jlt4 (by exact rfl) (by exact rfl) (by exact rfl) (by exact rfl) j hj) | exact (fun i j hi hj => jlt5 (by exact rfl) (by exact rfl) (by exact rfl) (by exact rfl) (by exact rfl) j hj)))⟩) : CallVC P G f args pre bor K := call_intro h k hb
theorem Cf {p : Prop} {f : FuncId} {args : List SV} {pre : List (Nat × Blk)} {bor : List Nat} {K : SV → List (Nat × Blk) → Prop} {res : SV} {post : List (Nat × Blk)} (h : p → Spec P G f args pre res post) (k : K res post) (q : p)
    (hb : bor = [] ∨ (flatR res = true ∧ FlatPost post) := by first | exact .inl rfl | exact .inr ⟨rfl, trivial⟩ | exact .inr ⟨rfl, by (repeat' (first | exact trivial | exact rfl | assumption | refine And.intro ?_ ?_ | exact (fun i j hi hj => jlt1 (by exact rfl) j hj) | exact (fun i j hi hj => jlt2 (by exact rfl) (by exact rfl) j hj) | exact (fun i j hi hj => jlt3 (by exact rfl) (by exact rfl) (by exact rfl) j hj) | exact (fun i j hi hj => jlt4 (by exact rfl) (by exact rfl) (by exact rfl) (by exact rfl) j hj) | exact (fun i j hi hj => jlt5 (by exact rfl) (by exact rfl) (by exact rfl) (by exact rfl) (by exact rfl) j hj)))⟩) : CallVC P G f args pre bor K := call_if h hb (need_intro k q)
end Go.Sx
