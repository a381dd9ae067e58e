/- Part of a symbolic executor over the model, proved sound: SxCall. Written for these claims. -/
import Derived.Test.YtnpemjhllmfedaaSxOps8
namespace Go.Sx
open Go
set_option linter.unusedVariables false
set_option linter.unusedSimpArgs false

variable {P : Program} {G : Nat → Option (Nat × (Nat → D))} {nt : Nat} {C : Ctx} {I : Nat → Prop} {ρ : Nat → Loc} {F : Fs} {a : Act} {w : World} {E : List Nat} {T : Nat}

theorem setsF_o : ∀ {post : List (Nat × Blk)} {F : Fs} {m : Nat} {b : Blk}, (setsF F post).o m = some b → (m, b) ∈ post ∨ (F.o m = some b ∧ m ∉ post.map (·.1))
  | [], _, _, _, h => .inr ⟨h, by simp⟩
  | (n, c) :: post, F, m, b, hh => by
    rcases setsF_o (post := post) hh with h | ⟨h, hn⟩
    · exact .inl (by simp [h])
    · simp only [setO] at h
      split at h
      · rename_i e
        simp only [Option.some.injEq] at h
        exact .inl (by rw [e, ← h]; simp)
      · rename_i e; exact .inr ⟨h, by simp at hn ⊢; exact ⟨e, hn⟩⟩
theorem setsF_s : ∀ {post : List (Nat × Blk)} {F : Fs}, (setsF F post).s = F.s ∧ (setsF F post).nm = F.nm ∧ (setsF F post).n0 = F.n0
  | [], _ => ⟨rfl, rfl, rfl⟩
  | (n, c) :: post, F => setsF_s (post := post) (F := setO F n c)

/-- behind a call -/
theorem Conc.afterCall (hc : Conc G nt C I ρ F a w) {names : List Nat} {pre post : List (Nat × Blk)} (hp : PreOk F names pre) (hk : post.map (·.1) = pre.map (·.1))
    (hpn : ∀ n b m, (n, b) ∈ post → inB m b → m ∈ pre.map (·.1)) (hnr : ∀ n b, (n, b) ∈ post → boxLike b) {I' : Nat → Prop} {w' : World}
    (hpost : ∀ n b, (n, b) ∈ post → BlkOk I' ρ w' (ρ n) b) (hI : ∀ b, I b → I' b) (hI' : ∀ b, I' b → I b ∨ w.heap.size ≤ b) (hlt : ∀ b, I' b → b < w'.heap.size)
    (hkeep : Keep (fun k => ∃ n b, (n, b) ∈ pre ∧ (ρ n).b = k) w w') : Conc G nt C I' ρ (setsF F post) a w' := by
  have hmem : ∀ n, n ∈ pre.map (·.1) → ∃ b, (n, b) ∈ pre ∧ F.o n = some b ∧ boxLike b := by
    intro n hn
    simp only [List.mem_map] at hn
    obtain ⟨⟨m, b⟩, hb, rfl⟩ := hn
    exact ⟨b, hb, hp.2 m b hb⟩
  have hbl : ∀ {L : Loc} {b : Blk}, boxLike b → live L b := by intro L b h; cases b <;> first | trivial | exact h.elim
  have hIS : ∀ b, I b → b < w.heap.size ∧ ¬ ∃ n c, (n, c) ∈ pre ∧ (ρ n).b = b := by
    intro b hb
    refine ⟨hc.ilt b hb, ?_⟩
    rintro ⟨n, c, hn, rfl⟩
    have := hp.2 n c hn
    exact (hc.sep n c this.1 (hbl this.2)).1 hb
  have hS : Same I w w' := same_of_keep hkeep hIS
  have key : ∀ m b, (setsF F post).o m = some b → ∃ b0, F.o m = some b0 ∧ (live (ρ m) b → live (ρ m) b0) ∧ (rowLike b → rowLike b0) ∧ ((m, b) ∈ post ∨ (F.o m = some b ∧ m ∉ pre.map (·.1))) := by
    intro m b hm
    rcases setsF_o hm with h | ⟨h, hn⟩
    · have hmk : m ∈ pre.map (·.1) := by rw [← hk]; exact List.mem_map.2 ⟨_, h, rfl⟩
      obtain ⟨b0, _, h0, hbx⟩ := hmem m hmk
      refine ⟨b0, h0, fun _ => hbl hbx, fun hr => ?_, .inl h⟩
      have := hnr m b h
      cases b <;> first | exact hr.elim | exact this.elim
    · exact ⟨b, h, fun h => h, fun h => h, .inr ⟨h, by rw [hk] at hn; exact hn⟩⟩
  exact {
    defers := hc.defers, size := hc.size
    slots := by
      rw [setsF_s.1]
      intro k sv hk
      obtain ⟨v, hv, hr⟩ := hc.slots k sv hk
      exact ⟨v, hv, hr.mono hI hS (fun _ _ => rfl)⟩
    snames := by rw [setsF_s.1, setsF_s.2.1]; exact hc.snames
    own := by
      intro m b hm
      obtain ⟨b0, h0, hl, _, h | ⟨h, hn⟩⟩ := key m b hm
      · exact hpost m b h
      · refine (hc.own m b h).mono hI hS (fun _ _ => rfl) (fun hlv => hkeep.block _ (hc.live_lt h hlv) ?_)
        rintro ⟨n, c, hnc, e⟩
        have hpn := hp.2 n c hnc
        have := hc.inj n m c b hpn.1 h (hbl hpn.2) hlv e
        subst this
        exact hn (List.mem_map.2 ⟨_, hnc, rfl⟩)
    onames := by
      rw [setsF_s.2.1]
      intro m b k hm hk'
      obtain ⟨b0, h0, hl, _, h | ⟨h, hn⟩⟩ := key m b hm
      · have := hpn m b k h hk'
        obtain ⟨b1, _, h1, _⟩ := hmem k this
        exact hc.okeys k b1 h1
      · exact hc.onames m b k h hk'
    okeys := by
      rw [setsF_s.2.1]
      intro m b hm
      obtain ⟨b0, h0, _⟩ := key m b hm
      exact hc.okeys m b0 h0
    sep := by
      intro m b hm hl
      obtain ⟨b0, h0, hl0, _⟩ := key m b hm
      have hs := hc.sep m b0 h0 (hl0 hl)
      refine ⟨fun h => ?_, hs.2⟩
      rcases hI' _ h with h | h
      · exact hs.1 h
      · have := hc.live_lt h0 (hl0 hl); omega
    fresh := by
      intro m b hm hr hcap
      obtain ⟨b0, h0, _, hr0, _⟩ := key m b hm
      exact hc.fresh m b0 h0 (hr0 hr) hcap
    inj := by
      intro m k b c hm hk' hl hl' e
      obtain ⟨b0, h0, hl0, _⟩ := key m b hm
      obtain ⟨c0, h1, hl1, _⟩ := key k c hk'
      exact hc.inj m k b0 c0 h0 h1 (hl0 hl) (hl1 hl') e
    ilt := hlt
    i0 := fun b hb => hI b (hc.i0 b hb)
    i1 := by
      intro b hb
      rcases hI' b hb with h | h
      · exact hc.i1 b h
      · have := hc.keep.size; exact .inr (by omega)
    old := by rw [setsF_s.2.1, setsF_s.2.2]; exact hc.old
    glob := hc.glob.mono hI hS
    keep := by
      refine hc.keep.trans hkeep ?_
      rintro i ⟨n, b, hn, rfl⟩
      have := hp.2 n b hn
      exact (hc.sep n b this.1 (hbl this.2)).2.symm }

mutual
theorem flatS_rep {I' I : Nat → Prop} {ρ' : Nat → Loc} {w' : World} : ∀ {sv : SV} {v : Value}, flatS sv = true → RepS I' ρ' w' sv v → RepS I ρ' w' sv v
  | .d (.int _ _), _, _, h => by simpa only [RepS, RepD] using h
  | .d (.bool _), _, _, h => by simpa only [RepS, RepD] using h
  | .d (.str _), _, _, h => by simpa only [RepS, RepD] using h
  | .d (.val _), _, hf, _ => by simp [flatS] at hf
  | .d (.list _ _ _), _, hf, _ => by simp [flatS] at hf
  | .agg cs, _, hf, h => by
    simp only [flatS] at hf
    simp only [RepS] at h ⊢
    obtain ⟨us, hv, h1, h2⟩ := h
    exact ⟨us, hv, flatL_rep hf h1, h2⟩
  | .tup cs, _, hf, h => by
    simp only [flatS] at hf
    simp only [RepS] at h ⊢
    obtain ⟨us, hv, h1⟩ := h
    exact ⟨us, hv, flatL_rep hf h1⟩
  | .ptr _ _, _, hf, _ => by simp [flatS] at hf
  | .optr _ _ _ _, _, hf, _ => by simp [flatS] at hf
  | .osl _ _ _ _, _, hf, _ => by simp [flatS] at hf
  | .cptr _ _, _, hf, _ => by simp [flatS] at hf
  | .clo _ _, _, hf, _ => by simp [flatS] at hf
  | .junk, _, hf, _ => by simp [flatS] at hf
theorem flatL_rep {I' I : Nat → Prop} {ρ' : Nat → Loc} {w' : World} : ∀ {cs : List SV} {us : List Value}, flatL cs = true → RepL I' ρ' w' cs us → RepL I ρ' w' cs us
  | [], _, _, h => h
  | c :: cs, _, hf, h => by
    simp only [flatL] at hf
    simp only [RepL] at h ⊢
    obtain ⟨u, r, rfl, h1, h2⟩ := h
    split at hf
    · rename_i hc
      exact ⟨u, r, rfl, flatS_rep hc h1, flatL_rep hf h2⟩
    · cases hf
end

theorem run_call {o : Oper} {f : FuncId} {args : List Operand} {ats : Array Nat} {x : Operand} {caps : List Value} (ho : o.op = .call ⟨.value x, ⟨args⟩, ats⟩) (hx : a.eval x = .func (.func f) #[] ⟨caps⟩)
    (henter : ∀ (vs : Array Value) (w : World), (callFunc f vs).run P w = .ok (.enter f vs) w) : (execOp a.eval o).run P w = .ok (.enter f ⟨args.map a.eval ++ caps⟩) w := by
  simp only [execOp, ho, resolve, hx, Deferred.ofValue, Sem.run_bind, Sem.run_pure, Result.andThen_ok, invoke, henter]
  simp

theorem wp_enter {o : Oper} {f : FuncId} {vs : Array Value} {w' : World} {next : Act → World → Prop} {Q : Exit → Act → World → Prop} (h : (execOp a.eval o).run P w = .ok (.enter f vs) w')
    (hc : Calls P f vs w' fun e w'' => ∃ v, e = .returned v ∧ next (a.put o.dst v) w'') : o.wp P a w next Q := by
  unfold Oper.wp
  rw [h, Oper.upon_enter]
  refine hc.mono ?_
  rintro e w'' ⟨v, rfl, hn⟩
  exact hn

theorem ptrNames_sub {n : Nat} : ∀ {cs : List SV}, n ∈ ptrNames cs → inL n cs
  | [], h => by simp [ptrNames] at h
  | c :: cs, h => by
    cases c <;> simp only [ptrNames, inL] at h ⊢ <;> first
      | (simp only [List.mem_cons] at h
         rcases h with rfl | h
         · exact .inl (by simp [inS])
         · exact .inr (ptrNames_sub h))
      | exact .inr (ptrNames_sub h)

theorem op_callK (hc : Conc G nt C I ρ F a w) {o : Oper} {f : FuncId} {vs : List Value} {cs : List SV} (hd : dstOk nt o.dst)
    (hrun : (∀ (vs : Array Value) (w : World), (callFunc f vs).run P w = .ok (.enter f vs) w) → (execOp a.eval o).run P w = .ok (.enter f ⟨vs⟩) w)
    (hvs : Vals I ρ F w cs vs) {u : Upd} (t : To P G F (callK P o.dst f cs) u) {F1 : Fs} (hp : Pubs F u.pub F1) : OpOk P G nt C I ρ a w o (finF F1 u) := by
  obtain ⟨ds, ns, t1, hrow, hin, hlent⟩ := To.lendArgs_inv (ρ := ρ) (w := w) t
  clear t
  -- the usual call
  have usual : ∀ names, To P G F (.call o.dst f ds names [] ns) u → OpOk P G nt C I ρ a w o (finF F1 u) := by
    intro names t
    cases t with
    | @call _ _ _ _ _ _ F2 pre res post p hpre h hb =>
      obtain ⟨I2, hc2, hI2, hpub, hnm, _⟩ := p.conc hc
      have hB : ∀ n b, F.o n = some b → BlkOk I2 ρ w (ρ n) b := fun n b hb => (hc.own n b hb).mono hI2 (fun _ _ _ => rfl) (fun _ _ => rfl) (fun _ => rfl)
      have hargs : RepL I2 ρ w ds vs := hlent I2 vs (fun n hn hcap => hpub n hn (hrow n hn) hcap) hB (hvs.rep.mono hI2 (fun _ _ _ => rfl) (fun _ _ => rfl))
      have hbl : ∀ {L : Loc} {b : Blk}, boxLike b → live L b := by intro L b h; cases b <;> first | trivial | exact h.elim
      have hcalls := h.calls w I2 ρ vs hargs (fun n b hnb => ⟨hc2.own n b (hpre.2 n b hnb).1, (hc2.sep n b (hpre.2 n b hnb).1 (hbl (hpre.2 n b hnb).2)).1⟩)
        (fun n b m c hn hm e => hc2.inj n m b c (hpre.2 n b hn).1 (hpre.2 m c hm).1 (hbl (hpre.2 n b hn).2) (hbl (hpre.2 m c hm).2) e) hc2.ilt hc2.glob
      intro next Q hn
      refine wp_enter (hrun h.enter) (hcalls.mono ?_)
      rintro e w' ⟨v, I', rfl, hres, hpost, h1, h2, h3, hkeep⟩
      refine ⟨v, rfl, hn I' ρ v w' ?_⟩
      have hc3 := hc2.afterCall hpre h.keys h.pnames h.norow hpost h1 h2 h3 hkeep
      have hF : F1 = F2 := by
        have det : ∀ {F : Fs} {ns : List Nat} {A B : Fs}, Pubs F ns A → Pubs F ns B → A = B := by
          intro F ns A B h
          induction h generalizing B with
          | nil => intro k; cases k; rfl
          | row h t ih =>
            intro k
            cases k with
            | row h' t' => rw [h] at h'; cases h'; exact ih t'
            | none h' t' => rw [h] at h'; cases h'
          | none h t ih =>
            intro k
            cases k with
            | row h' t' => rw [h] at h'; cases h'
            | none h' t' => exact ih t'
        exact det hp p
      subst hF
      refine hc3.put hd hres ?_
      intro n hn'
      rw [setsF_s.2.1]
      have := h.rnames n hn'
      simp only [List.mem_map] at this
      obtain ⟨⟨m, b⟩, hb', rfl⟩ := this
      exact hc2.okeys m b (hpre.2 m b hb').1
  cases ns with
  | nil => exact usual _ t1
  | cons n0 ns1 =>
    simp only at t1
    split at t1
    · cases t1 with
      | @call _ _ _ _ _ _ F2 pre res post p hpre h hb =>
        cases p
        cases hp
        have hflat := hb.resolve_left (by simp)
        have hpre0 : pre = [] := by simpa using hpre.1
        subst hpre0
        have hpost0 : post = [] := by simpa using h.keys
        subst hpost0
        -- the callee reads the lent rows as immutable
        have hrowlt : ∀ n ∈ n0 :: ns1, 0 < (ρ n).cap → (ρ n).b < w.heap.size := by
          intro n hn hcap
          obtain ⟨Et, sz, len, get, hb'⟩ := hrow n hn
          exact hc.live_lt hb' hcap
        have hI2 : ∀ b, I b → (I b ∨ ∃ n, n ∈ n0 :: ns1 ∧ 0 < (ρ n).cap ∧ b = (ρ n).b) := fun b hb => .inl hb
        have hargs := hlent (fun b => I b ∨ ∃ n, n ∈ n0 :: ns1 ∧ 0 < (ρ n).cap ∧ b = (ρ n).b) vs (fun n hn hcap => .inr ⟨n, hn, hcap, rfl⟩)
          (fun n b hb' => (hc.own n b hb').mono hI2 (fun _ _ _ => rfl) (fun _ _ => rfl) (fun _ => rfl)) (hvs.rep.mono hI2 (fun _ _ _ => rfl) (fun _ _ => rfl))
        have hcalls := h.calls w _ ρ vs hargs (by simp) (by simp)
          (by
            rintro b (hb' | ⟨n, hn, hcap, rfl⟩)
            · exact hc.ilt b hb'
            · exact hrowlt n hn hcap) (hc.glob.mono hI2 (fun _ _ _ => rfl))
        intro next Q hn
        refine wp_enter (hrun h.enter) (hcalls.mono ?_)
        rintro e w' ⟨v, I', rfl, hres, _, h1, h2, h3, hkeep⟩
        refine ⟨v, rfl, hn I ρ v w' ?_⟩
        have hkeep' : Keep (fun _ => False) w w' := ⟨hkeep.os, hkeep.tape, hkeep.output, hkeep.size, fun k hk _ => hkeep.block k hk (by simp)⟩
        have hS : Same I w w' := same_of_keep hkeep' (fun b hb' => ⟨hc.ilt b hb', fun h => h⟩)
        have hc3 : Conc G nt C I ρ F a w' := hc.world (fun _ h => h) hS (fun m b hm hl => hkeep'.block _ (hc.live_lt hm hl) (fun h => h)) (fun m b hm hl => (hc.sep m b hm hl).1)
          (fun b hb' => by have := hc.ilt b hb'; have := hkeep.size; omega) hc.i1 (hc.keep.trans hkeep' (fun _ h => h.elim))
        refine hc3.put hd (flatS_rep hflat hres) ?_
        intro n hn'
        have := h.rnames n hn'
        simp at this
    · exact usual _ t1

end Go.Sx
