/- Part of a symbolic executor over the model, proved sound, with plain laws: SxCall. Written for these claims. -/
import Derived.Test.YtigmgeglnbjfeaaDoorSxOps
namespace Go.Sx
open Go
set_option linter.unusedVariables false
set_option linter.unusedSimpArgs false

variable {P : Program} {G : Nat → Option (Nat × (Nat → D))} {nt : Nat} {C : Ctx} {I : Nat → Prop} {ρ : Nat → Loc} {F : Fs} {a : Act} {w : World} {E : List Nat} {T : Nat}

theorem setsF_o : ∀ {post : List (Nat × Blk)} {F : Fs} {m : Nat} {b : Blk}, (setsF F post).o m = some b → (m, b) ∈ post ∨ (F.o m = some b ∧ m ∉ post.map (·.1))
  | [], _, _, _, h => .inr ⟨h, by simp⟩
  | (n, c) :: post, F, m, b, hh => by
    rcases setsF_o (post := post) hh with h | ⟨h, hn⟩
    · exact .inl (by simp [h])
    · simp only [setO] at h
      split at h
      · rename_i e
        simp only [Option.some.injEq] at h
        exact .inl (by rw [e, ← h]; simp)
      · rename_i e; exact .inr ⟨h, by simp at hn ⊢; exact ⟨e, hn⟩⟩
theorem setsF_s : ∀ {post : List (Nat × Blk)} {F : Fs}, (setsF F post).s = F.s ∧ (setsF F post).nm = F.nm ∧ (setsF F post).n0 = F.n0
  | [], _ => ⟨rfl, rfl, rfl⟩
  | (n, c) :: post, F => setsF_s (post := post) (F := setO F n c)

theorem keysP_mem {n : Nat} {l : List (Nat × Blk)} : n ∈ keysP l ↔ ∃ b, (n, b) ∈ l := by
  simp [keysP]
theorem lastB_keys {m : Nat} : ∀ {l : List (Nat × Blk)}, m ∈ keysP l → ∀ {F : Fs} {b : Blk}, (setsF F l).o m = some b → (m, b) ∈ l := by
  intro l hm F b h
  rcases setsF_o h with h | ⟨_, h⟩
  · exact h
  · exact (h hm).elim
def rhoNew (ρ ρ' : Nat → Loc) (new : List Nat) (n : Nat) : Loc := if n ∈ new then ρ' n else ρ n
theorem nmF_all : ∀ {ns : List Nat} {F : Fs}, (nmF F ns).s = F.s ∧ (nmF F ns).o = F.o ∧ (nmF F ns).n0 = F.n0 ∧ ∀ m, (nmF F ns).nm m ↔ (m ∈ ns ∨ F.nm m)
  | [], F => ⟨rfl, rfl, rfl, by simp [nmF]⟩
  | n :: ns, F => by
    obtain ⟨h1, h2, h3, h4⟩ := nmF_all (ns := ns) (F := { F with nm := fun m => m = n ∨ F.nm m })
    refine ⟨h1, h2, h3, fun m => ?_⟩
    simp only [nmF]
    rw [h4]
    simp only [List.mem_cons]
    constructor
    · rintro (h | h | h)
      · exact .inl (.inr h)
      · exact .inl (.inl h)
      · exact .inr h
    · rintro ((h | h) | h)
      · exact .inr (.inl h)
      · exact .inl h
      · exact .inr (.inr h)

/-- behind a call -/
theorem Conc.afterCall (hc : Conc G nt C I ρ F a w) {f : FuncId} {args : List SV} {names : List Nat} {pre post : List (Nat × Blk)} {res : SV} (hp : PreOk F names pre) (hs : Spec P G f args pre res post)
    (hf : ∀ n ∈ newP pre post, ¬ F.nm n) {I' : Nat → Prop} {ρ' : Nat → Loc} {w' : World} {v : Value} (h : After I ρ w pre res post I' ρ' w' v) :
    Conc G nt C I' (rhoNew ρ ρ' (newP pre post)) (nmF (setsF F post) (newP pre post)) a w' ∧ RepS I' (rhoNew ρ ρ' (newP pre post)) w' res v ∧ ∀ n, inS n res → (nmF (setsF F post) (newP pre post)).nm n := by
  have hmem : ∀ n, n ∈ keysP pre → ∃ b, (n, b) ∈ pre ∧ F.o n = some b ∧ goLike b := by
    intro n hn
    obtain ⟨b, hb⟩ := keysP_mem.1 hn
    exact ⟨b, hb, hp.2 n b hb⟩
  have hkey : ∀ n, n ∈ keysP post → n ∈ keysP pre ∨ n ∈ newP pre post := fun n hn => by rw [hs.keys] at hn; exact List.mem_append.1 hn
  have hnew : ∀ n, n ∈ newP pre post → n ∈ keysP post := fun n hn => by rw [hs.keys]; exact List.mem_append.2 (.inr hn)
  have hrho : ∀ n, n ∈ keysP post → rhoNew ρ ρ' (newP pre post) n = ρ' n := by
    intro n hn
    unfold rhoNew
    split
    · rfl
    · rename_i hnn
      exact (h.old n ((hkey n hn).resolve_right hnn)).symm
  have hrho0 : ∀ n, F.nm n → rhoNew ρ ρ' (newP pre post) n = ρ n := by
    intro n hn
    unfold rhoNew
    rw [if_neg (fun hnn => hf n hnn hn)]
  have hIS : ∀ b, I b → b < w.heap.size ∧ ¬ ∃ n c, (n, c) ∈ pre ∧ live (ρ n) c ∧ (ρ n).b = b := by
    intro b hb
    refine ⟨hc.ilt b hb, ?_⟩
    rintro ⟨n, c, hn, hl, rfl⟩
    have := hp.2 n c hn
    exact (hc.sep n c this.1 hl).1 hb
  have hS : Same I w w' := same_of_keep h.keep hIS
  have hnmF := nmF_all (ns := newP pre post) (F := setsF F post)
  -- the own blocks: of the receivers, new, the others
  have key : ∀ m b, (nmF (setsF F post) (newP pre post)).o m = some b →
      (m ∈ newP pre post ∧ (m, b) ∈ post) ∨ (m ∉ newP pre post ∧ F.nm m ∧ ∃ b0, F.o m = some b0 ∧ (live (ρ m) b → live (ρ m) b0) ∧ (rowLike b → rowLike b0) ∧ ((m, b) ∈ post ∨ (F.o m = some b ∧ m ∉ keysP pre))) := by
    intro m b hm
    rw [hnmF.2.1] at hm
    rcases setsF_o hm with hp1 | ⟨h1, hn⟩
    · rcases hkey m (keysP_mem.2 ⟨b, hp1⟩) with hk | hk
      · obtain ⟨b0, hb0, h0, _⟩ := hmem m hk
        have hk2 := hs.kind m b b0 hp1 hb0
        exact .inr ⟨fun hn => hs.apart m hn hk, hc.okeys m b0 h0, b0, h0, hk2.live.2, hk2.row.2, .inl hp1⟩
      · exact .inl ⟨hk, hp1⟩
    · refine .inr ⟨fun hk => hn (hnew m hk), hc.okeys m b h1, b, h1, fun h => h, fun h => h, .inr ⟨h1, fun hk => hn (by rw [show post.map (·.1) = keysP post from rfl, hs.keys]; exact List.mem_append.2 (.inl hk))⟩⟩
  have hlt' : ∀ n b, (n, b) ∈ post → live (ρ' n) b → (ρ' n).b < w'.heap.size := by
    intro n b hn hl
    have := h.own n b hn
    cases b with
    | box cs => obtain ⟨us, E, h1, _⟩ := this; exact (Array.getElem?_eq_some_iff.1 h1).1
    | row E sz len get => obtain ⟨_, _, _, h1⟩ := this; obtain ⟨arr, h2, _⟩ := h1 hl; exact h2.lt
    | iter s p => exact (Array.getElem?_eq_some_iff.1 this).1
    | smap kd g => obtain ⟨_, _, h1, _⟩ := this; exact (Array.getElem?_eq_some_iff.1 h1).1
    | arr s cs => obtain ⟨_, _, _, _, h1, _⟩ := this; exact (Array.getElem?_eq_some_iff.1 h1).1
  refine ⟨?_, h.res.mono (fun _ h => h) (fun _ _ _ => rfl) (fun n hn => hrho n (hs.rnames n hn)), ?_⟩
  · exact {
    defers := hc.defers, size := hc.size
    slots := by
      rw [hnmF.1, setsF_s.1]
      intro k sv hk
      obtain ⟨v, hv, hr⟩ := hc.slots k sv hk
      exact ⟨v, hv, hr.mono h.i0 hS (fun n hn => hrho0 n (hc.snames k sv n hk hn))⟩
    snames := by
      rw [hnmF.1, setsF_s.1]
      intro k sv n hk hn
      rw [hnmF.2.2.2, setsF_s.2.1]
      exact .inr (hc.snames k sv n hk hn)
    own := by
      intro m b hm
      have inpost : (m, b) ∈ post → BlkOk I' (rhoNew ρ ρ' (newP pre post)) w' (rhoNew ρ ρ' (newP pre post) m) b := by
        intro hb
        rw [hrho m (keysP_mem.2 ⟨b, hb⟩)]
        exact (h.own m b hb).mono (fun _ h => h) (fun _ _ _ => rfl) (fun k hk => hrho k (hs.pnames m b k hb hk)) (fun _ => rfl)
      rcases key m b hm with ⟨_, hb⟩ | ⟨_, hnm, b0, h0, hl, _, hb | ⟨hb, hn⟩⟩
      · exact inpost hb
      · exact inpost hb
      · rw [hrho0 m hnm]
        refine (hc.own m b hb).mono h.i0 hS (fun k hk => hrho0 k (hc.onames m b k hb hk)) (fun hlv => h.keep.block _ (hc.live_lt hb hlv) ?_)
        rintro ⟨n, c, hnc, hl2, e⟩
        have hpn := hp.2 n c hnc
        have := hc.inj n m c b hpn.1 hb hl2 hlv e
        subst this
        exact hn (keysP_mem.2 ⟨_, hnc⟩)
    onames := by
      intro m b k hm hk'
      rw [hnmF.2.2.2, setsF_s.2.1]
      have inpost : (m, b) ∈ post → k ∈ newP pre post ∨ F.nm k := by
        intro hb
        rcases hkey k (hs.pnames m b k hb hk') with h1 | h1
        · obtain ⟨b1, _, h2, _⟩ := hmem k h1
          exact .inr (hc.okeys k b1 h2)
        · exact .inl h1
      rcases key m b hm with ⟨_, hb⟩ | ⟨_, hnm, b0, h0, hl, _, hb | ⟨hb, hn⟩⟩
      · exact inpost hb
      · exact inpost hb
      · exact .inr (hc.onames m b k hb hk')
    okeys := by
      intro m b hm
      rw [hnmF.2.2.2, setsF_s.2.1]
      rcases key m b hm with ⟨hb, _⟩ | ⟨_, hnm, _⟩
      · exact .inl hb
      · exact .inr hnm
    sep := by
      intro m b hm hl
      rcases key m b hm with ⟨hn, hb⟩ | ⟨_, hnm, b0, h0, hl0, _, _⟩
      · rw [hrho m (hnew m hn)] at hl ⊢
        have := h.sep m b hb hn hl
        have hk := hc.keep.size
        exact ⟨this.1, .inl (by omega)⟩
      · rw [hrho0 m hnm] at hl ⊢
        have hsp := hc.sep m b0 h0 (hl0 hl)
        refine ⟨fun hi => ?_, hsp.2⟩
        rcases h.i1 _ hi with hi | hi
        · exact hsp.1 hi
        · have := hc.live_lt h0 (hl0 hl); omega
    fresh := by
      intro m b hm hr hcap
      rcases key m b hm with ⟨hn, hb⟩ | ⟨_, hnm, b0, h0, _, hr0, _⟩
      · rw [hrho m (hnew m hn)] at hcap ⊢
        have := h.sep m b hb hn (by cases b <;> first | exact hcap | exact hr.elim)
        have hk := hc.keep.size
        exact .inl (by omega)
      · rw [hrho0 m hnm] at hcap ⊢
        exact hc.fresh m b0 h0 (hr0 hr) hcap
    inj := by
      intro m k b c hm hk' hl hl' e
      rcases key m b hm with ⟨hn, hb⟩ | ⟨_, hnm, b0, h0, hl0, _, _⟩
      · rw [hrho m (hnew m hn)] at hl e
        rcases key k c hk' with ⟨hn', hb'⟩ | ⟨_, hnm', c0, h1, hl1, _, _⟩
        · rw [hrho k (hnew k hn')] at hl' e
          exact h.inj m k b c hb hb' hn hn' hl hl' e
        · rw [hrho0 k hnm'] at hl' e
          have h2 := (h.sep m b hb hn hl).2
          have h3 := hc.live_lt h1 (hl1 hl')
          omega
      · rw [hrho0 m hnm] at hl e
        rcases key k c hk' with ⟨hn', hb'⟩ | ⟨_, hnm', c0, h1, hl1, _, _⟩
        · rw [hrho k (hnew k hn')] at hl' e
          have h2 := (h.sep k c hb' hn' hl').2
          have h3 := hc.live_lt h0 (hl0 hl)
          omega
        · rw [hrho0 k hnm'] at hl' e
          exact hc.inj m k b0 c0 h0 h1 (hl0 hl) (hl1 hl') e
    ilt := h.ilt
    i0 := fun b hb => h.i0 b (hc.i0 b hb)
    i1 := by
      intro b hb
      rcases h.i1 b hb with h1 | h1
      · exact hc.i1 b h1
      · have := hc.keep.size; exact .inr (by omega)
    old := by
      intro n hn
      obtain ⟨h1, h2, h3⟩ := hc.old n hn
      refine ⟨by rw [hnmF.2.2.1, setsF_s.2.2]; exact h1, by rw [hnmF.2.2.2, setsF_s.2.1]; exact .inr h2, by rw [hrho0 n h2]; exact h3⟩
    glob := hc.glob.mono h.i0 hS
    keep := by
      refine hc.keep.trans h.keep ?_
      rintro i ⟨n, b, hn, hl, rfl⟩
      have := hp.2 n b hn
      exact (hc.sep n b this.1 hl).2.symm }
  · intro n hn
    rw [hnmF.2.2.2, setsF_s.2.1]
    rcases hkey n (hs.rnames n hn) with h1 | h1
    · obtain ⟨b1, _, h2, _⟩ := hmem n h1
      exact .inr (hc.okeys n b1 h2)
    · exact .inl h1

mutual
theorem flatS_rep {I' I : Nat → Prop} {ρ' : Nat → Loc} {w' : World} : ∀ {sv : SV} {v : Value}, flatS sv = true → RepS I' ρ' w' sv v → RepS I ρ' w' sv v
  | .d (.int _ _), _, _, h => by simpa only [RepS, RepD] using h
  | .d (.bool _), _, _, h => by simpa only [RepS, RepD] using h
  | .d (.str _), _, _, h => by simpa only [RepS, RepD] using h
  | .d (.val _), _, hf, _ => by simp [flatS] at hf
  | .d (.list _ _ _), _, hf, _ => by simp [flatS] at hf
  | .agg cs, _, hf, h => by
    simp only [flatS] at hf
    simp only [RepS] at h ⊢
    obtain ⟨us, hv, h1, h2⟩ := h
    exact ⟨us, hv, flatL_rep hf h1, h2⟩
  | .tup cs, _, hf, h => by
    simp only [flatS] at hf
    simp only [RepS] at h ⊢
    obtain ⟨us, hv, h1⟩ := h
    exact ⟨us, hv, flatL_rep hf h1⟩
  | .ptr _ _, _, hf, _ => by simp [flatS] at hf
  | .optr _ _ _ _, _, hf, _ => by simp [flatS] at hf
  | .osl _ _ _ _, _, hf, _ => by simp [flatS] at hf
  | .cptr _ _, _, hf, _ => by simp [flatS] at hf
  | .clo _ _, _, hf, _ => by simp [flatS] at hf
  | .mp _, _, hf, _ => by simp [flatS] at hf
  | .junk, _, hf, _ => by simp [flatS] at hf
theorem flatL_rep {I' I : Nat → Prop} {ρ' : Nat → Loc} {w' : World} : ∀ {cs : List SV} {us : List Value}, flatL cs = true → RepL I' ρ' w' cs us → RepL I ρ' w' cs us
  | [], _, _, h => h
  | c :: cs, _, hf, h => by
    simp only [flatL] at hf
    simp only [RepL] at h ⊢
    obtain ⟨u, r, rfl, h1, h2⟩ := h
    split at hf
    · rename_i hc
      exact ⟨u, r, rfl, flatS_rep hc h1, flatL_rep hf h2⟩
    · cases hf
end

theorem run_call {o : Oper} {f : FuncId} {args : List Operand} {ats : Array Nat} {x : Operand} {caps : List Value} (ho : o.op = .call ⟨.value x, ⟨args⟩, ats⟩) (hx : a.eval x = .func (.func f) #[] ⟨caps⟩)
    (henter : ∀ (vs : Array Value) (w : World), (callFunc f vs).run P w = .ok (.enter f vs) w) : (execOp a.eval o).run P w = .ok (.enter f ⟨args.map a.eval ++ caps⟩) w := by
  simp only [execOp, ho, resolve, hx, Deferred.ofValue, Sem.run_bind, Sem.run_pure, Result.andThen_ok, invoke, henter]
  simp

theorem wp_enter {o : Oper} {f : FuncId} {vs : Array Value} {w' : World} {next : Act → World → Prop} {Q : Exit → Act → World → Prop} (h : (execOp a.eval o).run P w = .ok (.enter f vs) w')
    (hc : Calls P f vs w' fun e w'' => ∃ v, e = .returned v ∧ next (a.put o.dst v) w'') : o.wp P a w next Q := by
  unfold Oper.wp
  rw [h, Oper.upon_enter]
  refine hc.mono ?_
  rintro e w'' ⟨v, rfl, hn⟩
  exact hn

theorem capNames_sub {n : Nat} : ∀ {cs : List SV}, n ∈ capNames cs → inL n cs
  | [], h => by simp [capNames] at h
  | c :: cs, h => by
    cases c <;> simp only [capNames, inL] at h ⊢ <;> first
      | (simp only [List.mem_cons] at h
         rcases h with rfl | h
         · exact .inl (by simp [inS])
         · exact .inr (capNames_sub h))
      | exact .inr (capNames_sub h)
theorem ptrNames_sub {n : Nat} : ∀ {cs : List SV}, n ∈ ptrNames cs → inL n cs
  | [], h => by simp [ptrNames] at h
  | c :: cs, h => by
    cases c <;> simp only [ptrNames, inL] at h ⊢ <;> first
      | (simp only [List.mem_cons] at h
         rcases h with rfl | h
         · exact .inl (by simp [inS])
         · exact .inr (ptrNames_sub h))
      | (simp only [List.mem_append] at h
         rcases h with h | h
         · exact .inl (by simp only [inS]; exact capNames_sub h)
         · exact .inr (ptrNames_sub h))
      | exact .inr (ptrNames_sub h)

theorem To.closeK_inv {u : Upd} : ∀ {l acc : List Nat} {k : List Nat → M Upd}, To P G F (closeK l acc k) u → ∃ names, To P G F (k names) u
  | [], acc, k, h => ⟨acc, h⟩
  | n :: l, acc, k, h => by
    simp only [closeK] at h
    obtain ⟨b, _, h'⟩ := h.own_inv
    split at h'
    · exact To.closeK_inv h'
    · exact To.closeK_inv h'

theorem op_callK (hc : Conc G nt C I ρ F a w) {o : Oper} {f : FuncId} {vs : List Value} {cs : List SV} (hd : dstOk nt o.dst)
    (hrun : (∀ (vs : Array Value) (w : World), (callFunc f vs).run P w = .ok (.enter f vs) w) → (execOp a.eval o).run P w = .ok (.enter f ⟨vs⟩) w)
    (hvs : Vals I ρ F w cs vs) {u : Upd} (t : To P G F (callK P E o.dst f cs) u) {F1 : Fs} (hp : Pubs F u.pub F1) (hf : Fresh F u) : OpOk P G nt C I ρ a w o (finF F1 u) := by
  -- the usual call
  have usual : ∀ (ds : List SV) (ns : List Nat), Lent F ρ w cs ds ns → ∀ names, To P G F (.call o.dst f ds names [] ns) u → OpOk P G nt C I ρ a w o (finF F1 u) := by
    rintro ds ns ⟨hrow, hin, hlent⟩ names t
    cases t with
    | @call _ _ _ _ _ _ F2 pre res post p hpre h hb =>
      obtain ⟨I2, hc2, hI2, hpub, hnm, _⟩ := p.conc hc
      have hB : ∀ n b, F.o n = some b → BlkOk I2 ρ w (ρ n) b := fun n b hb => (hc.own n b hb).mono hI2 (fun _ _ _ => rfl) (fun _ _ => rfl) (fun _ => rfl)
      have hargs : RepL I2 ρ w ds vs := hlent I2 vs (fun n hn hcap => hpub n hn (hrow n hn) hcap) hB (hvs.rep.mono hI2 (fun _ _ _ => rfl) (fun _ _ => rfl))
      have hcalls := h.calls w I2 ρ vs hargs (fun n b hnb => ⟨hc2.own n b (hpre.2 n b hnb).1, fun hl => (hc2.sep n b (hpre.2 n b hnb).1 hl).1⟩)
        (fun n b m c hn hm hl hl' e => hc2.inj n m b c (hpre.2 n b hn).1 (hpre.2 m c hm).1 hl hl' e) hc2.ilt hc2.glob
      intro next Q hn
      refine wp_enter (hrun h.enter) (hcalls.mono ?_)
      rintro e w' ⟨v, I', ρ', rfl, haf⟩
      have hnmP : ∀ {F : Fs} {ns : List Nat} {B : Fs}, Pubs F ns B → B.nm = F.nm := by
        intro F ns B h
        induction h with
        | nil => rfl
        | row h _ t ih => rw [ih]; rfl
        | none h t ih => exact ih
      obtain ⟨hc3, hres, hrn⟩ := hc2.afterCall hpre h (fun n hn => by rw [hnmP p]; exact hf.new n hn) haf
      refine ⟨v, rfl, hn I' (rhoNew ρ ρ' (newP pre post)) v w' ?_⟩
      have hF : F1 = F2 := by
        have det : ∀ {F : Fs} {ns : List Nat} {A B : Fs}, Pubs F ns A → Pubs F ns B → A = B := by
          intro F ns A B h
          induction h generalizing B with
          | nil => intro k; cases k; rfl
          | row h _ t ih =>
            intro k
            cases k with
            | row h' _ t' => rw [h] at h'; cases h'; exact ih t'
            | none h' t' => rw [h] at h'; cases h'
          | none h t ih =>
            intro k
            cases k with
            | row h' _ t' => rw [h] at h'; cases h'
            | none h' t' => exact ih t'
        exact det hp p
      subst hF
      exact hc3.put hd hres hrn
  have go : ∀ (ds : List SV) (ns l : List Nat), Lent F ρ w cs ds ns → To P G F (closeN l fun names => .call o.dst f ds names [] ns) u → OpOk P G nt C I ρ a w o (finF F1 u) := by
    intro ds ns l hL t
    obtain ⟨names, t⟩ := To.closeK_inv t
    exact usual ds ns hL names t
  unfold callK at t
  split at t
  · exact go cs [] _ ⟨by simp [RowNames], fun _ h => h, fun _ _ _ _ h => h⟩ t
  obtain ⟨ds, ns, t1, hL⟩ := To.lendArgs_inv (ρ := ρ) (w := w) t
  clear t
  have hL2 := hL
  obtain ⟨hrow, hin, hlent⟩ := hL2
  cases ns with
  | nil => exact go ds [] _ hL t1
  | cons n0 ns1 =>
    simp only at t1
    split at t1
    · cases t1 with
      | @call _ _ _ _ _ _ F2 pre res post p hpre h hb =>
        cases p
        cases hp
        obtain ⟨hflat, hpost0⟩ := hb.resolve_left (by simp)
        have hpre0 : pre = [] := by simpa using hpre.1
        subst hpre0
        subst hpost0
        -- the callee reads the lent rows as immutable
        have hrowlt : ∀ n ∈ n0 :: ns1, 0 < (ρ n).cap → (ρ n).b < w.heap.size := by
          intro n hn hcap
          obtain ⟨Et, sz, len, get, hb'⟩ := hrow n hn
          exact hc.live_lt hb' hcap
        have hI2 : ∀ b, I b → (I b ∨ ∃ n, n ∈ n0 :: ns1 ∧ 0 < (ρ n).cap ∧ b = (ρ n).b) := fun b hb => .inl hb
        have hargs := hlent (fun b => I b ∨ ∃ n, n ∈ n0 :: ns1 ∧ 0 < (ρ n).cap ∧ b = (ρ n).b) vs (fun n hn hcap => .inr ⟨n, hn, hcap, rfl⟩)
          (fun n b hb' => (hc.own n b hb').mono hI2 (fun _ _ _ => rfl) (fun _ _ => rfl) (fun _ => rfl)) (hvs.rep.mono hI2 (fun _ _ _ => rfl) (fun _ _ => rfl))
        have hcalls := h.calls w _ ρ vs hargs (by simp) (by simp)
          (by
            rintro b (hb' | ⟨n, hn, hcap, rfl⟩)
            · exact hc.ilt b hb'
            · exact hrowlt n hn hcap) (hc.glob.mono hI2 (fun _ _ _ => rfl))
        intro next Q hn
        refine wp_enter (hrun h.enter) (hcalls.mono ?_)
        rintro e w' ⟨v, I', ρ', rfl, haf⟩
        have hkeep := haf.keep
        refine ⟨v, rfl, hn I ρ v w' ?_⟩
        have hkeep' : Keep (fun _ => False) w w' := ⟨hkeep.os, hkeep.tape, hkeep.output, hkeep.size, fun k hk _ => hkeep.block k hk (by simp)⟩
        have hS : Same I w w' := same_of_keep hkeep' (fun b hb' => ⟨hc.ilt b hb', fun h => h⟩)
        have hc3 : Conc G nt C I ρ F a w' := hc.world (fun _ h => h) hS (fun m b hm hl => hkeep'.block _ (hc.live_lt hm hl) (fun h => h)) (fun m b hm hl => (hc.sep m b hm hl).1)
          (fun b hb' => by have := hc.ilt b hb'; have := hkeep.size; omega) hc.i1 (hc.keep.trans hkeep' (fun _ h => h.elim))
        have hres := haf.res.mono (ρ' := ρ) (fun _ h => h) (fun _ _ _ => rfl) (fun n hn' => by have := h.rnames n hn'; simp [keysP] at this)
        refine hc3.put hd (flatS_rep hflat hres) ?_
        intro n hn'
        have := h.rnames n hn'
        simp [keysP] at this
    · exact go ds _ _ hL t1

end Go.Sx
