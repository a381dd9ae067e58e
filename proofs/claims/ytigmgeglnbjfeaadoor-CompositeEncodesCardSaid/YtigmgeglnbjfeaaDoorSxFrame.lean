/- Part of a symbolic executor over the model, proved sound, with plain laws: SxFrame. Written for these claims. -/
import Derived.Test.YtigmgeglnbjfeaaDoorSxArg
import Derived.ChangeShapes
import Derived.Carry
import Derived.Handed
namespace Go.Sx
open Go Go.RowKit Go.ChangeShapes
set_option linter.unusedVariables false
set_option linter.unusedSimpArgs false

variable {P : Program} {w : World} {H : Type} {enc : TypeId × Value → H}

def svs (P : Program) : List Nat → List (List D) → List SV
  | t :: ts, ds :: r => svOf P t ds :: svs P ts r
  | _, _ => []
/-- the arguments of a law as data -/
theorem args_wf {sp : Nat → Bool} {held : Bool} {R base : Nat} {ρ : Nat → Loc} : ∀ {ts : List Nat} {vs : List Value} {ds : List (DataW H)} {p : List MemPlace}, (∀ t ∈ ts, plainT P 12 t = true) →
    DataW.TrodAll enc P w 0 sp held ts vs ds p → (∀ (j : Nat) t v, ts[j]? = some t → vs[j]? = some v → Value.okWide P w .any base t v) → (∀ n ∈ DataW.weightsEach P ts ds, n ≤ R) →
    ∃ dss, All2 (wfT P R 12) ts dss ∧ RepL (fun b => b < w.heap.size) ρ w (svs P ts dss) vs ∧ ds.length = ts.length ∧ ∀ x ∈ p, x.block < w.heap.size
  | [], vs, ds, p, _, h, _, _ => by
    obtain ⟨rfl, rfl, rfl⟩ := trodAll_nil h
    exact ⟨[], .nil, by simp [svs, RepL], rfl, by simp⟩
  | t :: ts, vs, ds, p, hp, h, hv, hR => by
    obtain ⟨v, vs, d, ds, p, q, rfl, rfl, rfl, h0, h1⟩ := trodAll_cons h
    obtain ⟨dss, k1, k2, k3, k4⟩ := args_wf (ρ := ρ) (fun t ht => hp t (by simp [ht])) h1 (fun j t v a b => hv (j + 1) t v (by simpa using a) (by simpa using b)) (fun n hn => hR n (by simp [DataW.weightsEach, hn]))
    obtain ⟨x, m1, m2⟩ := arg_rep (ρ := ρ) (hp t (by simp)) (hv 0 t v rfl rfl) h0 (fun n hn => hR n (by simp [DataW.weightsEach, hn]))
    refine ⟨x :: dss, .cons m1 k1, ?_, by simp [k3], fun y hy => ?_⟩
    · simp only [svs, RepL]
      exact ⟨_, _, rfl, m2, k2⟩
    · rcases List.mem_append.1 hy with hy | hy
      · obtain ⟨m, hm⟩ := h0
        exact DataW.trod_lt m _ _ _ hm y hy
      · exact k4 y hy
theorem below_all (hl : laidOutB P = true) {W W' : World} (hb : Below W.heap.size W W') : ∀ {ts : List Nat} {vs : List Value} {ds : List (DataW H)} {p : List MemPlace},
    (∀ t ∈ ts, P.readableRec t = true ∧ t < P.types.size) → DataW.TrodAll enc P W 0 (fun _ => true) true ts vs ds p → (∀ x ∈ p, x.block < W.heap.size) →
    DataW.TrodAll enc P W' 0 (fun b => decide (b < W.heap.size)) true ts vs ds p
  | [], vs, ds, p, _, h, _ => by
    obtain ⟨rfl, rfl, rfl⟩ := trodAll_nil h
    exact trodAll_mk0
  | t :: ts, vs, ds, p, hp, h, hlt => by
    obtain ⟨v, vs, d, ds, p, q, rfl, rfl, rfl, h0, h1⟩ := trodAll_cons h
    exact trodAll_cons_mk (Below.trod hl (hp t (by simp)).1 (hp t (by simp)).2 h0 hb (fun x hx => hlt x (by simp [hx])))
      (below_all hl hb (fun t ht => hp t (by simp [ht])) h1 (fun x hx => hlt x (by simp [hx])))

def typesB (P : Program) : List Nat → Bool
  | [] => true
  | t :: ts => plainT P 12 t && (P.readableRec t && (decide (t < P.types.size) && typesB P ts))
theorem typesB_inv : ∀ {ts : List Nat}, typesB P ts = true → ∀ t ∈ ts, plainT P 12 t = true ∧ P.readableRec t = true ∧ t < P.types.size
  | [], _, t, ht => by simp at ht
  | t :: ts, h, u, hu => by
    simp only [typesB, Bool.and_eq_true, decide_eq_true_eq] at h
    obtain ⟨h1, h2, h3, h4⟩ := h
    rcases List.mem_cons.1 hu with rfl | hu
    · exact ⟨h1, h2, h3⟩
    · exact typesB_inv h4 u hu

/-- The frame's contract for a law: it answers true and changes nothing. -/
theorem law_contract {f : FuncId} {fn : Func} {s : ChangeSpec} {G : Nat → Option (Nat × (Nat → D))} {ts : List Nat} {bt : Nat} (laidOut : laidOutB P = true) (hts : fn.params.toList = ts) (hres : fn.resultTypes = #[bt])
    (hbt : P.underlying bt = some .bool) (htypes : typesB P ts = true) (hvars : s.vars = []) (hs : ∀ ds : List (DataW H), ds.length = ts.length → s.fn H ds = { results := [.lit (.bool true)], args := ds, vars := [] })
    (spec : ∀ dss, All2 (wfT P reachBytes 12) ts dss → Spec P G f (svs P ts dss) [] (.d (.bool true)) [])
    {W : World} {base : Nat} {args : Array Value} {ds gs : List (DataW H)} {before : List MemPlace}
    (hval : ∀ (j : Nat) t v, fn.params[j]? = some t → args[j]? = some v → Value.okWide P W .any base t v)
    (hW : DataW.Whole enc P fn.params.toList s.vars false W args.toList ds gs before)
    (hsz : (DataW.weightsEach P (fn.params.toList ++ s.plain.varTypes P) (ds ++ gs)).all (· ≤ reachBytes) = true) (hG : GOk G (fun b => b < W.heap.size) W) :
    Calls P f args W fun e W' => ∃ v, e = .returned v ∧ s.post enc P fn false true false false W args v W' := by
  have hW' := hW
  obtain ⟨p, q, hA, hV, rfl, hfz, hnd⟩ := hW
  rw [hts] at hA
  rw [hvars] at hV
  obtain ⟨rfl, rfl⟩ := trodVars_none hV
  have hty := typesB_inv htypes
  have hlen : ds.length = ts.length := by
    have : ∀ {ts : List Nat} {vs : List Value} {ds : List (DataW H)} {p : List MemPlace}, DataW.TrodAll enc P W 0 (fun _ => true) true ts vs ds p → ds.length = ts.length := by
      intro ts
      induction ts with
      | nil => intro vs ds p h; obtain ⟨rfl, rfl, rfl⟩ := trodAll_nil h; rfl
      | cons t ts ih => intro vs ds p h; obtain ⟨v, vs, d, ds, p, q, rfl, rfl, rfl, h0, h1⟩ := trodAll_cons h; simp [ih h1]
    exact this hA
  obtain ⟨dss, k1, k2, _, k4⟩ := args_wf (ρ := fun _ => ⟨0, 0, 0, 0, 0⟩) (base := base) (R := reachBytes) (fun t ht => (hty t ht).1) hA
    (fun j t v a b => hval j t v (by rw [← hts] at a; simpa using a) (by simpa using b)) (fun n hn => by
      have := List.all_eq_true.1 hsz n (by
        rw [hts]
        have e : ∀ {ts us : List Nat} {ds es : List (DataW H)}, ds.length = ts.length → ∀ n ∈ DataW.weightsEach P ts ds, n ∈ DataW.weightsEach P (ts ++ us) (ds ++ es) := by
          intro ts us
          induction ts with
          | nil => intro ds es h n hn; cases ds <;> simp [DataW.weightsEach] at hn
          | cons t ts ih =>
            intro ds es h n hn
            cases ds with
            | nil => simp at h
            | cons d ds =>
              simp only [DataW.weightsEach, List.mem_append, List.cons_append] at hn ⊢
              exact hn.imp id (ih (by simpa using h) n)
        exact e hlen n hn)
      simpa using this)
  obtain ⟨args⟩ := args
  refine ((spec dss k1).law (w := W) (vs := args) k2 hG).mono fun e W' ⟨he, bel⟩ => ?_
  subst he
  have hs' := hs (ds ++ []) (by simpa using hlen)
  refine ⟨_, rfl, _, _, _, [], p, [], hW', ?_, ?_, ?_, bel.frame _, fun h => by cases h⟩
  · rw [hs', hres]; exact trodAll_mk1 (shut_bool hbt _)
  · rw [hs', hts, List.append_nil]; exact below_all laidOut bel (fun t ht => (hty t ht).2) hA k4
  · rw [hs', hvars]; rfl

end Go.Sx
