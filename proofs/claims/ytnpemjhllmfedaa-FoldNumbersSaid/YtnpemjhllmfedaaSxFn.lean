/- Part of a symbolic executor over the model, proved sound: SxFn. Written for these claims. -/
import Derived.Test.YtnpemjhllmfedaaSxEnt2
namespace Go.Sx
open Go
set_option linter.unusedVariables false
set_option linter.unusedSimpArgs false

variable {P : Program} {G : Nat → Option (Nat × (Nat → D))} {nt : Nat} {C : Ctx} {I : Nat → Prop} {ρ : Nat → Loc} {F : Fs} {a : Act} {w : World} {E : List Nat} {T : Nat}

/-! ### a function's end -/
def resM (P : Program) : List ResultVar → (List SV → M Upd) → M Upd
  | [], k => k []
  | .tmp t :: l, k => .slot t fun v => resM P l fun r => k (v :: r)
  | .cell t T :: l, k => .slot t fun
    | .ptr n off => .own n fun
      | .box cs => dropK off cs fun cs => partK P T cs fun v => resM P l fun r => k (v :: r)
      | _ => .fail "result cell"
    | _ => .fail "result"
def lendBoxes : List Nat → (List Nat → M Upd) → M Upd
  | [], k => k []
  | n :: ns, k => .own n fun
    | .box cs => lendCells cs fun _ ms => lendBoxes ns fun r => k (ms ++ r)
    | _ => .fail "receiver"
def retM (P : Program) (results : List ResultVar) (n0 : List Nat) : M Upd :=
  resM P results fun vs => lendArgs vs fun vs ns => lendBoxes n0 fun ms => match vs with
    | [v] => .ret ⟨none, v, [], [], [], ns ++ ms⟩
    | vs => .ret ⟨none, .tup vs, [], [], [], ns ++ ms⟩

def M.ev1 : M Upd → St → (SV → List (Nat × Blk) → Prop) → Prop
  | .ret ⟨_, v, _, _, _, pub⟩, ⟨s, o, _, _⟩, K => pubs pub s o fun _ o => K v o
  | .slot k f, ⟨s, o, nm, n0⟩, K => match look s k with
    | some v => (f v).ev1 ⟨s, o, nm, n0⟩ K
    | none => Stuck "slot"
  | .own n f, ⟨s, o, nm, n0⟩, K => match lookO o n with
    | some v => (f v).ev1 ⟨s, o, nm, n0⟩ K
    | none => Stuck "own"
  | _, _, _ => Stuck "result"

structure LeS (x y : SV) : Prop where
  le : ∀ (I : Nat → Prop) (ρ : Nat → Loc) (w : World) (v : Value), RepS I ρ w x v → RepS I ρ w y v
theorem LeS.refl (x : SV) : LeS x x := ⟨fun _ _ _ _ h => h⟩
theorem LeS.of_eq {x y : SV} (h : x = y) : LeS x y := h ▸ LeS.refl x
structure LeL (x y : List SV) : Prop where
  le : ∀ (I : Nat → Prop) (ρ : Nat → Loc) (w : World) (v : List Value), RepL I ρ w x v → RepL I ρ w y v
theorem LeL.refl (x : List SV) : LeL x x := ⟨fun _ _ _ _ h => h⟩
theorem LeL.of_eq {x y : List SV} (h : x = y) : LeL x y := h ▸ LeL.refl x
theorem LeS.d {x y : D} (h : DLe x y) : LeS (.d x) (.d y) := ⟨fun _ _ _ _ hv => by simp only [RepS] at hv ⊢; exact h.le _ _ _ hv⟩
theorem LeL.nil : LeL [] [] := LeL.refl _
theorem LeL.cons {x y : SV} {l m : List SV} (h : LeS x y) (t : LeL l m) : LeL (x :: l) (y :: m) := ⟨fun I ρ w us hu => by
  simp only [RepL] at hu ⊢
  obtain ⟨u, r, rfl, h1, h2⟩ := hu
  exact ⟨u, r, rfl, h.le _ _ _ _ h1, t.le _ _ _ _ h2⟩⟩
theorem LeS.agg {l m : List SV} (t : LeL l m) : LeS (.agg l) (.agg m) := ⟨fun I ρ w v hv => by
  simp only [RepS] at hv ⊢
  obtain ⟨us, h1, h2, h3⟩ := hv
  exact ⟨us, h1, t.le _ _ _ _ h2, h3⟩⟩
theorem LeS.tup {l m : List SV} (t : LeL l m) : LeS (.tup l) (.tup m) := ⟨fun I ρ w v hv => by
  simp only [RepS] at hv ⊢
  obtain ⟨us, h1, h2⟩ := hv
  exact ⟨us, h1, t.le _ _ _ _ h2⟩⟩

def postK (o : List (Nat × Blk)) : List (Nat × Blk) → Prop
  | [] => True
  | (n, .box ds) :: l => match lookO o n with
    | some (.box cs) => LeL cs ds ∧ postK o l
    | _ => Stuck "post"
  | _ => Stuck "post block"

structure Fin (v : SV) (o : List (Nat × Blk)) (res : SV) (post : List (Nat × Blk)) : Prop where
  le : LeS v res
  post : postK o post
/-- the end of a function: what it returns, what its receivers hold -/
def RetK (P : Program) (results : List ResultVar) (n0 : List Nat) (res : SV) (post : List (Nat × Blk)) : Ex → St → Prop
  | .normal, σ => (retM P results n0).ev1 σ fun v o => Fin v o res post
  | .ret, σ => (retM P results n0).ev1 σ fun v o => Fin v o res post
  | .exit _, _ => Stuck "exit"

theorem ev1_inv {K : SV → List (Nat × Blk) → Prop} : ∀ {m : M Upd} {σ : St}, m.ev1 σ K → ∃ u σ', To P G (toF σ) m u ∧ K u.v σ'.o ∧ Pubs (toF σ) u.pub (toF σ') := by
  intro m
  induction m with
  | ret u =>
    intro ⟨s, o, nm, n0⟩ h
    obtain ⟨dst, v, own, del, new, pub⟩ := u
    simp only [M.ev1] at h
    obtain ⟨s1, o1, h, p⟩ := pubs_inv (nm := nm) (n0 := n0) h
    exact ⟨_, ⟨s1, o1, nm, n0⟩, .ret _, h, p⟩
  | slot k f ih =>
    intro ⟨s, o, nm, n0⟩ h
    simp only [M.ev1] at h
    split at h
    · rename_i v hv
      obtain ⟨u, σ', t, r⟩ := ih v h
      exact ⟨u, σ', .slot hv t, r⟩
    · exact h.out.elim
  | own k f ih =>
    intro ⟨s, o, nm, n0⟩ h
    simp only [M.ev1] at h
    split at h
    · rename_i v hv
      obtain ⟨u, σ', t, r⟩ := ih v h
      exact ⟨u, σ', .own hv t, r⟩
    · exact h.out.elim
  | _ => intro σ h; simp only [M.ev1] at h; exact h.out.elim

def resOne (tmps : Array Value) : ResultVar → Sem Value
  | .tmp t => pure (tmps.getD t undef)
  | .cell a t => do loadVar t (← asAddr (tmps.getD a undef))
theorem results_eq (fn : Func) (tmps : Array Value) : results fn tmps = (fn.results.mapM (resOne tmps) >>= fun vs => pure (if h : vs.size = 1 then vs[0] else .tuple vs)) := by
  unfold results
  congr 1
def oneV : List Value → Value
  | [v] => v
  | vs => .tuple ⟨vs⟩
def oneS : List SV → SV
  | [v] => v
  | vs => .tup vs
theorem oneS_rep {cs : List SV} {us : List Value} (h : RepL I ρ w cs us) : RepS I ρ w (oneS cs) (oneV us) := by
  match cs, us, h.length, h with
  | [], [], _, h => simp only [oneS, oneV, RepS]; exact ⟨[], rfl, h⟩
  | [x], [v], _, h =>
    simp only [RepL] at h
    obtain ⟨y, r, hy, hr, _⟩ := h
    simp only [List.cons.injEq] at hy
    simp only [oneS, oneV]
    rw [hy.1]; exact hr
  | x :: y :: r, v :: z :: q, _, h => simp only [oneS, oneV, RepS]; exact ⟨_, rfl, h⟩
theorem run_results {fn : Func} {tmps : Array Value} {vs : List Value} (h : (fn.results.toList.mapM (resOne tmps)).run P w = .ok vs w) :
    (results fn tmps).run P w = .ok (oneV vs) w := by
  rw [results_eq, Array.mapM_eq_mapM_toList]
  simp only [Sem.run_bind, Sem.run_map, h, Result.andThen_ok, Sem.run_pure]
  match vs with
  | [] => rfl
  | [v] => rfl
  | v :: u :: r => simp [oneV]

theorem To.resM_inv (hc : Conc G nt C I ρ F a w) {u : Upd} : ∀ {l : List ResultVar} {k : List SV → M Upd}, To P G F (resM P l k) u →
    ∃ cs vs, To P G F (k cs) u ∧ Vals I ρ F w cs vs ∧ (l.mapM (resOne a.tmps)).run P w = .ok vs w
  | [], k, h => ⟨[], [], h, ⟨by simp [RepL], by simp [inL]⟩, by simp⟩
  | .tmp t :: l, k, h => by
    simp only [resM] at h
    obtain ⟨sv, h1, h⟩ := h.slot_inv
    obtain ⟨v, hv, hr⟩ := hc.slots t sv h1
    obtain ⟨cs, vs, h, h2, h3⟩ := To.resM_inv hc h
    refine ⟨sv :: cs, v :: vs, h, ⟨by simp only [RepL]; exact ⟨v, vs, rfl, hr, h2.rep⟩, ?_⟩, ?_⟩
    · intro n hn
      simp only [inL] at hn
      exact hn.elim (hc.snames t sv n h1) (h2.nm n)
    · have : a.tmps.getD t undef = v := by simp [Array.getD_eq_getD_getElem?, hv]
      simp only [List.mapM_cons, resOne, Sem.run_bind, Sem.run_pure, this, Result.andThen_ok, h3]
  | .cell t T :: l, k, h => by
    simp only [resM] at h
    obtain ⟨sv, h1, h⟩ := h.slot_inv
    obtain ⟨v, hv, hr⟩ := hc.slots t sv h1
    split at h
    · rename_i n off
      simp only [RepS] at hr
      obtain ⟨b, hb, h'⟩ := h.own_inv
      clear h
      split at h'
      · rename_i cs
        obtain ⟨us, Et, h4, h5⟩ := hc.own n _ hb
        obtain ⟨_, h'⟩ := To.dropK_inv h'
        obtain ⟨d, sv', v', hd, h', hv', hpv⟩ := To.partK_inv (F := F) h' ⟨h5.1.drop off, fun x hx => h5.2 x (List.mem_of_mem_drop hx)⟩
          (fun m hm => hc.onames n _ m hb (inL_sub (fun c hc => List.mem_of_mem_drop hc) hm))
        obtain ⟨cs', vs, h', h2, h3⟩ := To.resM_inv hc h'
        refine ⟨sv' :: cs', v' :: vs, h', ⟨by simp only [RepL]; exact ⟨v', vs, rfl, hv'.rep, h2.rep⟩, ?_⟩, ?_⟩
        · intro m hm
          simp only [inL] at hm
          exact hm.elim (hv'.nm m) (h2.nm m)
        · have e : a.tmps.getD t undef = .pointer (some ⟨(ρ n).b, off, none⟩) := by simp [Array.getD_eq_getD_getElem?, hv, hr]
          have hl := run_loadVar_part (P := P) (w := w) hd (ad := ⟨(ρ n).b, off, none⟩) hpv (fun j x hx => by rw [cell_box h4]; simpa using hx)
          simp only [List.mapM_cons, resOne, Sem.run_bind, e, asAddr, Sem.run_pure, hl, Result.andThen_ok, h3]
      · exact h'.fail_inv.elim
    · exact h.fail_inv.elim

theorem To.lendBoxes_inv {ρ : Nat → Loc} {w : World} {u : Upd} : ∀ {ns : List Nat} {k : List Nat → M Upd}, To P G F (lendBoxes ns k) u → ∃ ms, To P G F (k ms) u ∧ RowNames F ms
  | [], k, h => ⟨[], h, by simp [RowNames]⟩
  | n :: ns, k, h => by
    simp only [lendBoxes] at h
    obtain ⟨b, hb, h'⟩ := h.own_inv
    clear h
    split at h'
    · obtain ⟨ds, ms, h1, h2, _, _⟩ := To.lendCells_inv (ρ := ρ) (w := w) h'
      obtain ⟨ms', h3, h4⟩ := To.lendBoxes_inv (ρ := ρ) (w := w) h1
      refine ⟨ms ++ ms', h3, ?_⟩
      intro m hm
      simp only [List.mem_append] at hm
      exact hm.elim (h2 m) (h4 m)
    · exact h'.fail_inv.elim

/-! ### names that are written out -/
mutual
def nmS : SV → List Nat
  | .ptr n _ => [n]
  | .optr n _ _ _ => [n]
  | .osl n _ _ _ => [n]
  | .agg cs => nmL cs
  | .tup cs => nmL cs
  | .clo _ cs => nmL cs
  | _ => []
def nmL : List SV → List Nat
  | [] => []
  | c :: cs => nmS c ++ nmL cs
end
mutual
theorem inS_nm {n : Nat} : ∀ {v : SV}, inS n v → n ∈ nmS v
  | .ptr _ _, h => by simp only [inS] at h; subst h; simp [nmS]
  | .optr _ _ _ _, h => by simp only [inS] at h; subst h; simp [nmS]
  | .osl _ _ _ _, h => by simp only [inS] at h; subst h; simp [nmS]
  | .agg cs, h => by simp only [inS] at h; simp only [nmS]; exact inL_nm h
  | .tup cs, h => by simp only [inS] at h; simp only [nmS]; exact inL_nm h
  | .clo _ cs, h => by simp only [inS] at h; simp only [nmS]; exact inL_nm h
  | .d _, h => by simp [inS] at h
  | .cptr _ _, h => by simp [inS] at h
  | .junk, h => by simp [inS] at h
theorem inL_nm {n : Nat} : ∀ {cs : List SV}, inL n cs → n ∈ nmL cs
  | [], h => by simp [inL] at h
  | c :: cs, h => by
    simp only [inL] at h
    simp only [nmL, List.mem_append]
    exact or_map h inS_nm inL_nm
end
/-- boxes whose names are among the keys -/
def boxesB (keys : List Nat) : List (Nat × Blk) → Bool
  | [] => true
  | (_, .box cs) :: l => subN keys (nmL cs) && boxesB keys l
  | _ => false
def statB (args : List SV) (pre : List (Nat × Blk)) (res : SV) (post : List (Nat × Blk)) : Bool :=
  subN (pre.map (·.1)) (nmL args) && (boxesB (pre.map (·.1)) pre && (boxesB (pre.map (·.1)) post && (subN (pre.map (·.1)) (nmS res) && (post.map (·.1) == pre.map (·.1)))))

theorem boxesB_inv {keys : List Nat} : ∀ {l : List (Nat × Blk)}, boxesB keys l = true → ∀ n b, (n, b) ∈ l → boxLike b ∧ ∀ m, inB m b → m ∈ keys
  | [], _ => by simp
  | (i, c) :: l, h => by
    cases c with
    | box cs =>
      simp only [boxesB, Bool.and_eq_true] at h
      intro n b hn
      simp only [List.mem_cons, Prod.mk.injEq] at hn
      rcases hn with ⟨rfl, rfl⟩ | hn
      · exact ⟨trivial, fun m hm => subN_iff h.1 m (inL_nm hm)⟩
      · exact boxesB_inv h.2 n b hn
    | _ => simp [boxesB] at h

def numFrom : Nat → List SV → List (Nat × SV)
  | _, [] => []
  | i, v :: l => (i, v) :: numFrom (i + 1) l
theorem look_numFrom {k : Nat} {sv : SV} : ∀ {i : Nat} {l : List SV}, look (numFrom i l) k = some sv → i ≤ k ∧ l[k - i]? = some sv
  | i, [], h => by simp [numFrom, look] at h
  | i, v :: l, h => by
    simp only [numFrom] at h
    rw [look_cons] at h
    split at h
    · rename_i e; subst e; cases h; exact ⟨Nat.le_refl _, by simp⟩
    · rename_i e
      obtain ⟨h1, h2⟩ := look_numFrom h
      refine ⟨by omega, ?_⟩
      rw [show k - i = (k - (i + 1)) + 1 by omega]
      simpa using h2

def bodyOf (fn : Func) : Code := fn.body.getD .skip

/-- The rule for functions. -/
theorem spec_intro {f : FuncId} {fn : Func} {args : List SV} {pre : List (Nat × Blk)} {res : SV} {post : List (Nat × Blk)} (hE : EOk P E) (hf : P.funcs[f]? = some fn) (hb : fn.body = some (bodyOf fn))
    (henter : ∀ (vs : Array Value) (w : World), (callFunc f vs).run P w = .ok (.enter f vs) w) (hn : Nat.ble args.length fn.ntmps = true) (hstat : statB args pre res post = true)
    (h : exec P G E fn.ntmps (bodyOf fn) ⟨numFrom 0 args, pre, pre.map (·.1), pre.map (·.1)⟩ (RetK P fn.results.toList (pre.map (·.1)) res post)) : Spec P G f args pre res post := by
  simp only [statB, Bool.and_eq_true] at hstat
  obtain ⟨s1, s2, s3, s4, s5⟩ := hstat
  have s1 := subN_iff s1
  have s2 := boxesB_inv s2
  have s3 := boxesB_inv s3
  have s4 := subN_iff s4
  have s5 : post.map (·.1) = pre.map (·.1) := by simpa using s5
  have hn : args.length ≤ fn.ntmps := Nat.le_of_ble_eq_true hn
  refine { keys := s5, rnames := fun n hn => s4 n (inS_nm hn), pnames := fun n b m hm hk => (s3 n b hm).2 m hk, norow := fun n b hm => (s3 n b hm).1, enter := henter, calls := ?_ }
  intro w I ρ vs hargs hpre hdis hI hG
  have hvl := hargs.length
  have hbl : ∀ {L : Loc} {b : Blk}, boxLike b → live L b := by intro L b h; cases b <;> first | trivial | exact h.elim
  let C : Ctx := { I0 := I, ρ0 := ρ, N0 := fun n => n ∈ pre.map (·.1), S0 := fun k => ∃ n b, (n, b) ∈ pre ∧ (ρ n).b = k, w0 := w }
  have hc : Conc G fn.ntmps C I ρ (toF ⟨numFrom 0 args, pre, pre.map (·.1), pre.map (·.1)⟩) { tmps := ⟨vs⟩ ++ Array.replicate (fn.ntmps - (Array.mk vs).size) undef, defers := [] } w := by
    have hmem : ∀ n b, lookO pre n = some b → (n, b) ∈ pre := fun n b h => lookO_mem h
    have hkey : ∀ n b, (n, b) ∈ pre → memN n (pre.map (·.1)) = true := fun n b h => memN_iff.2 (List.mem_map.2 ⟨_, h, rfl⟩)
    exact {
      defers := rfl
      size := by
        have : (Array.mk vs).size = args.length := hvl
        simp [this]
        omega
      slots := by
        intro k sv hk
        obtain ⟨_, h2⟩ := look_numFrom (show look (numFrom 0 args) k = some sv from hk)
        simp only [Nat.sub_zero] at h2
        obtain ⟨v, hv, hr⟩ := hargs.get h2
        refine ⟨v, ?_, hr⟩
        have hlt : k < vs.length := (List.getElem?_eq_some_iff.1 hv).1
        rw [Array.getElem?_append_left (by simpa using hlt)]
        simpa using hv
      snames := by
        intro k sv n hk hn
        obtain ⟨_, h2⟩ := look_numFrom (show look (numFrom 0 args) k = some sv from hk)
        simp only [Nat.sub_zero] at h2
        exact memN_iff.2 (s1 n (inL_nm (inL_mem.2 ⟨sv, List.mem_of_getElem? h2, hn⟩)))
      own := fun n b hn => (hpre n b (hmem n b hn)).1
      onames := fun n b m hn hm => memN_iff.2 ((s2 n b (hmem n b hn)).2 m hm)
      okeys := fun n b hn => hkey n b (hmem n b hn)
      sep := fun n b hn _ => ⟨(hpre n b (hmem n b hn)).2, .inr ⟨n, b, hmem n b hn, rfl⟩⟩
      fresh := by
        intro n b hn hr _
        have := (s2 n b (hmem n b hn)).1
        cases b <;> first | exact hr.elim | exact this.elim
      inj := fun n m b c hn hm _ _ e => hdis n b m c (hmem n b hn) (hmem m c hm) e
      ilt := hI
      i0 := fun _ h => h
      i1 := fun _ h => .inl h
      old := fun n hn => ⟨memN_iff.2 hn, memN_iff.2 hn, rfl⟩
      glob := hG
      keep := Keep.refl _ _ }
  refine calls_of_wp hf hb (wp_mono (exec_sound hE h hc) ?_)
  intro e a' w' hg
  have fin : ∀ {σ : St} {I' : Nat → Prop} {ρ' : Nat → Loc}, (retM P fn.results.toList (pre.map (·.1))).ev1 σ (fun v o => Fin v o res post) → Conc G fn.ntmps C I' ρ' (toF σ) a' w' →
      a'.defers = [] ∧ ∃ v, (results fn a'.tmps).run P w' = .ok v w' ∧ (∃ v' I', (Ending.returned v) = .returned v' ∧ RepS I' ρ w' res v' ∧ (∀ n b, (n, b) ∈ post → BlkOk I' ρ w' (ρ n) b) ∧
        (∀ b, I b → I' b) ∧ (∀ b, I' b → I b ∨ w.heap.size ≤ b) ∧ (∀ b, I' b → b < w'.heap.size) ∧ Keep (fun k => ∃ n b, (n, b) ∈ pre ∧ (ρ n).b = k) w w') := by
    intro σ I' ρ' h hc'
    obtain ⟨u, σ', t, hk, p⟩ := ev1_inv (P := P) (G := G) h
    obtain ⟨cs, vs', t, hvs, hres⟩ := To.resM_inv hc' t
    obtain ⟨ds, ns, t, l1, l2, l3⟩ := To.lendArgs_inv (ρ := ρ') (w := w') t
    obtain ⟨ms, t, m1⟩ := To.lendBoxes_inv (ρ := ρ') (w := w') t
    have hu : u.pub = ns ++ ms ∧ u.v = oneS ds := by
      match ds, t with
      | [], t => have := t.ret_inv; subst this; exact ⟨rfl, rfl⟩
      | [x], t => have := t.ret_inv; subst this; exact ⟨rfl, rfl⟩
      | x :: y :: r, t => have := t.ret_inv; subst this; exact ⟨rfl, rfl⟩
    obtain ⟨I2, hc2, hI2, hpub, hnm, _⟩ := p.conc hc'
    have hBk : ∀ n b, (toF σ).o n = some b → BlkOk I2 ρ' w' (ρ' n) b := fun n b hb => (hc'.own n b hb).mono hI2 (fun _ _ _ => rfl) (fun _ _ => rfl) (fun _ => rfl)
    have hds : RepL I2 ρ' w' ds vs' := l3 I2 vs' (fun n hn hcap => hpub n (by rw [hu.1]; simp [hn]) (l1 n hn) hcap) hBk (hvs.rep.mono hI2 (fun _ _ _ => rfl) (fun _ _ => rfl))
    have hval : RepS I2 ρ' w' u.v (oneV vs') := by
      rw [hu.2]
      exact oneS_rep hds
    have hres2 := hk.le.le _ _ _ _ hval
    have hold : ∀ n, n ∈ pre.map (·.1) → ρ n = ρ' n := fun n hn => ((hc2.old n hn).2.2).symm
    refine ⟨hc'.defers, _, run_results hres, _, I2, rfl, hres2.mono (fun _ h => h) (fun _ _ _ => rfl) (fun n hn => hold n (s4 n (inS_nm hn))), ?_, fun b hb => hI2 b (hc'.i0 b hb), hc2.i1, hc2.ilt, hc2.keep⟩
    have hpost : ∀ {l : List (Nat × Blk)}, postK σ'.o l → ∀ n b, (n, b) ∈ l → ∃ cs ds, lookO σ'.o n = some (.box cs) ∧ b = .box ds ∧ LeL cs ds := by
      intro l
      induction l with
      | nil => intro _ n b hn; simp at hn
      | cons x l ih =>
        obtain ⟨i, c⟩ := x
        intro h n b hn
        cases c with
        | box es =>
          simp only [postK] at h
          split at h
          · rename_i cs hcs
            simp only [List.mem_cons, Prod.mk.injEq] at hn
            rcases hn with ⟨rfl, rfl⟩ | hn
            · exact ⟨cs, es, hcs, rfl, h.1⟩
            · exact ih h.2 n b hn
          · exact h.out.elim
        | _ => simp only [postK] at h; exact h.out.elim
    intro n b hnb
    obtain ⟨cs', ds', h1, rfl, h2⟩ := hpost hk.post n b hnb
    have hkey : n ∈ pre.map (·.1) := by rw [← s5]; exact List.mem_map.2 ⟨_, hnb, rfl⟩
    have h3 := hc2.own n (.box cs') (by cases σ'; exact h1)
    obtain ⟨us, Et, h4, h5⟩ := h3
    rw [hold n hkey]
    refine ⟨us, Et, h4, (h2.le _ _ _ _ h5.1).mono (fun _ h => h) (fun _ _ _ => rfl) (fun m hm => hold m ((s3 n _ hnb).2 m hm)), h5.2⟩
  cases e with
  | normal =>
    obtain ⟨σ, I', ρ', hk, hc'⟩ := hg
    exact fin hk hc'
  | ret =>
    obtain ⟨σ, I', ρ', hk, hc'⟩ := hg
    exact fin hk hc'
  | exit id => obtain ⟨σ, I', ρ', hk, hc'⟩ := hg; exact hk.out.elim
  | _ => exact hg.elim

theorem call_intro {f : FuncId} {args : List SV} {pre : List (Nat × Blk)} {bor : List Nat} {K : SV → List (Nat × Blk) → Prop} {res : SV} {post : List (Nat × Blk)} (h : Spec P G f args pre res post) (k : K res post) (hb : bor = [] ∨ flatS res = true) :
    CallVC P G f args pre bor K := .mk res post h hb k
theorem bc_true {b : Bool} {X Y : Prop} (h : b = true) (x : X) : bc b X Y := by subst h; exact x
theorem bc_false {b : Bool} {X Y : Prop} (h : b = false) (y : Y) : bc b X Y := by subst h; exact y

end Go.Sx
