/- Part of a symbolic executor over the model, proved sound, with plain laws: SxSem. Written for these claims. -/
import Derived.Test.YtigmgeglnbjfeaaDoorSxCore
import Derived.MapKept
namespace Go.Sx
open Go
set_option linter.unusedVariables false
set_option linter.unusedSimpArgs false

/-- What is known of a name: its block; of a row: its capacity, its length, the cells of an element. -/
structure Loc where
  b : Nat
  cap : Nat
  rl : Nat
  sz : Nat
  o : Nat

structure Ghost where
  I : Nat → Prop
  ρ : Nat → Loc

def RepD (I : Nat → Prop) (w : World) : D → Value → Prop
  | .int k n, v => v = .int k n
  | .bool b, v => v = .bool b
  | .str l, v => v = .string ⟨⟨l⟩⟩
  | .val x, v => v = x ∧ x.oneCell' = true
  | .list len sz get, v => ∃ a cap, v = .slice a len cap ∧ len ≤ cap ∧ (0 < len → ∃ b o, a = some ⟨b, o, none⟩ ∧ I b ∧
      ∀ i j, i < len → j < sz → ∃ u, w.cell? ⟨b, o + i * sz + j, none⟩ = some u ∧ RepD I w (get i j) u)

mutual
def RepS (I : Nat → Prop) (ρ : Nat → Loc) (w : World) : SV → Value → Prop
  | .d x, v => RepD I w x v
  | .ptr n off, v => v = .pointer (some ⟨(ρ n).b, off, none⟩)
  | .optr n sz i off, v => (ρ n).sz = sz ∧ v = .pointer (some ⟨(ρ n).b, (ρ n).o + (i * sz + off), none⟩)
  | .osl n sz off len, v => (ρ n).sz = sz ∧ off + len ≤ (ρ n).rl ∧ (ρ n).rl ≤ (ρ n).cap ∧ ∃ a, v = .slice a len ((ρ n).cap - off) ∧ (a = some ⟨(ρ n).b, (ρ n).o + off * sz, none⟩ ∨ (ρ n).cap - off = 0)
  | .cptr sz get, v => ∃ b o, v = .pointer (some ⟨b, o, none⟩) ∧ I b ∧ ∀ j, j < sz → ∃ u, w.cell? ⟨b, o + j, none⟩ = some u ∧ RepD I w (get j) u
  | .agg cs, v => ∃ us, v = .agg ⟨us⟩ ∧ RepL I ρ w cs us ∧ ∀ u ∈ us, u.oneCell' = true
  | .tup cs, v => ∃ us, v = .tuple ⟨us⟩ ∧ RepL I ρ w cs us
  | .clo f cs, v => ∃ us, v = .func (.func f) #[] ⟨us⟩ ∧ RepL I ρ w cs us
  | .mp n, v => v = .map (some (ρ n).b)
  | .junk, _ => True
def RepL (I : Nat → Prop) (ρ : Nat → Loc) (w : World) : List SV → List Value → Prop
  | [], us => us = []
  | c :: cs, us => ∃ u r, us = u :: r ∧ RepS I ρ w c u ∧ RepL I ρ w cs r
end

mutual
def inS (n : Nat) : SV → Prop
  | .ptr m _ => m = n
  | .optr m _ _ _ => m = n
  | .osl m _ _ _ => m = n
  | .agg cs => inL n cs
  | .tup cs => inL n cs
  | .clo _ cs => inL n cs
  | .d _ => False
  | .cptr _ _ => False
  | .mp m => m = n
  | .junk => False
def inL (n : Nat) : List SV → Prop
  | [] => False
  | c :: cs => inS n c ∨ inL n cs
end

def inB (n : Nat) : Blk → Prop
  | .box cs => inL n cs
  | .arr _ cs => inL n cs
  | _ => False

def Cells (I : Nat → Prop) (ρ : Nat → Loc) (w : World) (cs : List SV) (us : List Value) : Prop := RepL I ρ w cs us ∧ ∀ u ∈ us, u.oneCell' = true

/-- a row of cells none of which is frozen -/
def RowAt (w : World) (b : Nat) (arr : Array Value) (E : Nat) : Prop := ∃ fr : Nat × Nat, w.heap[b]? = some (.cells arr E fr) ∧ (fr.1 = fr.2 ∨ arr.size ≤ fr.1)
theorem RowAt.of {w : World} {b : Nat} {arr : Array Value} {E : Nat} (h : w.heap[b]? = some (.cells arr E (0, 0))) : RowAt w b arr E := ⟨_, h, .inl rfl⟩
theorem RowAt.lt {w : World} {b : Nat} {arr : Array Value} {E : Nat} (h : RowAt w b arr E) : b < w.heap.size := by
  obtain ⟨fr, h, _⟩ := h; exact (Array.getElem?_eq_some_iff.1 h).1
theorem RowAt.cell {w : World} {b : Nat} {arr : Array Value} {E : Nat} (h : RowAt w b arr E) (o : Nat) : w.cell? ⟨b, o, none⟩ = arr[o]? := by
  obtain ⟨fr, h, _⟩ := h; simp [World.cell?, h]
theorem RowAt.congr {w w' : World} {b : Nat} {arr : Array Value} {E : Nat} (h : RowAt w b arr E) (e : w'.heap[b]? = w.heap[b]?) : RowAt w' b arr E := by
  obtain ⟨fr, h, k⟩ := h; exact ⟨fr, by rw [e]; exact h, k⟩
theorem RowAt.frozen {w : World} {b : Nat} {arr : Array Value} {E : Nat} (h : RowAt w b arr E) {o : Nat} (ho : o < arr.size) : w.frozen? ⟨b, o, none⟩ = false := by
  obtain ⟨⟨lo, hi⟩, h, k⟩ := h
  simp only [World.frozen?, h]
  simp only at k
  by_cases h1 : lo ≤ o
  · by_cases h2 : o < hi
    · omega
    · simp [h2]
  · simp [h1]
theorem RowAt.set {w : World} {b : Nat} {arr cs : Array Value} {E : Nat} (h : RowAt w b arr E) (hs : cs.size = arr.size) : RowAt (w.setRow b cs) b cs E := by
  obtain ⟨fr, h, k⟩ := h; exact ⟨fr, setRow_heap w b _ _ E _ h, by rw [hs]; exact k⟩
theorem run_storeCells_row {P : Program} (g o : Nat) (t : TypeId) : ∀ (vs : List Value) (i : Nat) (cur : Array Value) (w : World), RowAt w g cur t → o + i + vs.length ≤ cur.size → (∀ v ∈ vs, v.oneCell' = true) →
    (storeCells ⟨g, o, none⟩ vs i).run P w = .ok () (w.setRow g (cur.toList.take (o + i) ++ vs ++ cur.toList.drop (o + i + vs.length)).toArray)
  | [], i, cur, w, ⟨fr, hg, _⟩, _, _ => by
    simp only [storeCells, List.append_nil, List.length_nil, Nat.add_zero, List.take_append_drop, Array.toArray_toList]
    rw [setRow_self w g cur t fr hg]
    rfl
  | v :: rest, i, cur, w, hr, hl, h1 => by
    have hi : o + i < cur.size := by simp at hl; omega
    have hadd : (⟨g, o, none⟩ : Addr).add i = ⟨g, o + i, none⟩ := by unfold Addr.add; split <;> simp_all
    have hfro := hr.frozen hi
    have hr' := hr
    obtain ⟨fr, hg, hk⟩ := hr'
    have hcell : w.cell? ⟨g, o + i, none⟩ = some cur[o + i] := by simp [World.cell?, hg, hi]
    have hst : (store ((⟨g, o, none⟩ : Addr).add i) v).run P w = .ok () (w.setRow g (cur.setIfInBounds (o + i) v)) := by
      rw [hadd, run_store P w _ v _ (h1 v (by simp)), hcell]
      simp [hfro, setCell_eq_setRow w g (o + i) cur t fr v hg]
    have ih := run_storeCells_row (P := P) g o t rest (i + 1) (cur.setIfInBounds (o + i) v) (w.setRow g (cur.setIfInBounds (o + i) v)) (hr.set (by simp)) (by simp at hl ⊢; omega) (fun x hx => h1 x (by simp [hx]))
    simp only [storeCells, Sem.run_bind, hst, Result.andThen_ok, ih, setRow_setRow]
    congr 3
    have e := list_seg_step cur.toList (o + i) v rest (by simp at hl ⊢; omega)
    simpa [Array.toList_setIfInBounds, Nat.add_assoc] using e
/-- entries whose keys are strings: what is found under a key -/
structure MapIs (es : Array MapEntry) (clock : Nat) (kd : IntKind) (get : List UInt8 → Option Int) : Prop where
  stamped : MapKept.Stamped es clock
  keys : ∀ e ∈ es.toList, ∃ k : List UInt8, e.key = .string ⟨⟨k⟩⟩
  has : ∀ e ∈ es.toList, ∀ s : List UInt8, e.key = .string ⟨⟨s⟩⟩ → ∃ d, get s = some d ∧ e.val = .int kd d
  all : ∀ s d, get s = some d → ∃ e ∈ es.toList, e.key = .string ⟨⟨s⟩⟩
def BlkOk (I : Nat → Prop) (ρ : Nat → Loc) (w : World) (L : Loc) : Blk → Prop
  | .box cs => ∃ us E, w.heap[L.b]? = some (.cells ⟨us⟩ E (0, 0)) ∧ Cells I ρ w cs us
  | .row E sz len get => L.rl = len ∧ L.sz = sz ∧ len ≤ L.cap ∧ (0 < L.cap → ∃ arr, RowAt w L.b arr E ∧ arr.size = L.o + L.cap * sz ∧
      ∀ i j, i < len → j < sz → ∃ u, arr[L.o + (i * sz + j)]? = some u ∧ RepD I w (get i j) u)
  | .iter s pos => w.heap[L.b]? = some (.stringIter ⟨⟨s⟩⟩ pos)
  | .smap kd get => ∃ es clock, w.heap[L.b]? = some (.map es clock) ∧ MapIs es clock kd get
  | .arr sz cs => L.o = 0 ∧ L.sz = sz ∧ ∃ us E, w.heap[L.b]? = some (.cells ⟨us⟩ E (0, 0)) ∧ Cells I ρ w cs us

def live (L : Loc) : Blk → Prop
  | .row _ _ _ _ => 0 < L.cap
  | _ => True

structure Keep (S : Nat → Prop) (w w' : World) : Prop where
  os : w'.os = w.os
  tape : w'.tape = w.tape
  output : w'.output = w.output
  size : w.heap.size ≤ w'.heap.size
  block : ∀ k, k < w.heap.size → ¬ S k → w'.heap[k]? = w.heap[k]?

def GOk (G : Nat → Option (Nat × (Nat → D))) (I : Nat → Prop) (w : World) : Prop :=
  ∀ g sz get, G g = some (sz, get) → I g ∧ ∀ j, j < sz → ∃ u, w.cell? ⟨g, j, none⟩ = some u ∧ RepD I w (get j) u

structure Ctx where
  I0 : Nat → Prop
  ρ0 : Nat → Loc
  N0 : Nat → Prop
  S0 : Nat → Prop
  w0 : World

structure Fs where
  s : Nat → Option SV
  o : Nat → Option Blk
  nm : Nat → Prop
  n0 : Nat → Prop

def rowLike : Blk → Prop
  | .row _ _ _ _ => True
  | _ => False
def boxLike : Blk → Prop
  | .box _ => True
  | _ => False
/-- what may be handed to a call -/
def goLike : Blk → Prop
  | .box _ => True
  | .row _ _ _ _ => True
  | _ => False
def sameKind : Blk → Blk → Prop
  | .box _, .box _ => True
  | .row _ _ _ _, .row _ _ _ _ => True
  | _, _ => False
theorem sameKind.live {L : Loc} {b c : Blk} (h : sameKind b c) : live L b ↔ live L c := by
  cases b <;> cases c <;> first | exact h.elim | exact Iff.rfl
theorem sameKind.row {b c : Blk} (h : sameKind b c) : rowLike b ↔ rowLike c := by
  cases b <;> cases c <;> first | exact h.elim | exact Iff.rfl

structure Conc (G : Nat → Option (Nat × (Nat → D))) (nt : Nat) (C : Ctx) (I : Nat → Prop) (ρ : Nat → Loc) (F : Fs) (a : Act) (w : World) : Prop where
  defers : a.defers = []
  size : a.tmps.size = nt
  slots : ∀ k sv, F.s k = some sv → ∃ v, a.tmps[k]? = some v ∧ RepS I ρ w sv v
  snames : ∀ k sv n, F.s k = some sv → inS n sv → F.nm n
  own : ∀ n b, F.o n = some b → BlkOk I ρ w (ρ n) b
  onames : ∀ n b m, F.o n = some b → inB m b → F.nm m
  okeys : ∀ n b, F.o n = some b → F.nm n
  sep : ∀ n b, F.o n = some b → live (ρ n) b → ¬ I (ρ n).b ∧ (C.w0.heap.size ≤ (ρ n).b ∨ C.S0 (ρ n).b)
  fresh : ∀ n b, F.o n = some b → rowLike b → 0 < (ρ n).cap → C.w0.heap.size ≤ (ρ n).b ∨ C.N0 n
  inj : ∀ n m b c, F.o n = some b → F.o m = some c → live (ρ n) b → live (ρ m) c → (ρ n).b = (ρ m).b → n = m
  ilt : ∀ b, I b → b < w.heap.size
  i0 : ∀ b, C.I0 b → I b
  i1 : ∀ b, I b → C.I0 b ∨ C.w0.heap.size ≤ b
  old : ∀ n, C.N0 n → F.n0 n ∧ F.nm n ∧ ρ n = C.ρ0 n
  glob : GOk G I w
  keep : Keep C.S0 C.w0 w

/-! ### a call's contract -/
def keysP (l : List (Nat × Blk)) : List Nat := l.map (·.1)
/-- the names that are new behind the call -/
def newP (pre post : List (Nat × Blk)) : List Nat := (keysP post).drop pre.length

/-- behind a call -/
structure After (I : Nat → Prop) (ρ : Nat → Loc) (w : World) (pre : List (Nat × Blk)) (res : SV) (post : List (Nat × Blk)) (I' : Nat → Prop) (ρ' : Nat → Loc) (w' : World) (v : Value) : Prop where
  old : ∀ n, n ∈ keysP pre → ρ' n = ρ n
  res : RepS I' ρ' w' res v
  own : ∀ n b, (n, b) ∈ post → BlkOk I' ρ' w' (ρ' n) b
  i0 : ∀ b, I b → I' b
  i1 : ∀ b, I' b → I b ∨ w.heap.size ≤ b
  ilt : ∀ b, I' b → b < w'.heap.size
  keep : Keep (fun k => ∃ n b, (n, b) ∈ pre ∧ live (ρ n) b ∧ (ρ n).b = k) w w'
  sep : ∀ n b, (n, b) ∈ post → n ∈ newP pre post → live (ρ' n) b → ¬ I' (ρ' n).b ∧ w.heap.size ≤ (ρ' n).b
  inj : ∀ n m b c, (n, b) ∈ post → (m, c) ∈ post → n ∈ newP pre post → m ∈ newP pre post → live (ρ' n) b → live (ρ' m) c → (ρ' n).b = (ρ' m).b → n = m

structure Spec (P : Program) (G : Nat → Option (Nat × (Nat → D))) (f : FuncId) (args : List SV) (pre : List (Nat × Blk)) (res : SV) (post : List (Nat × Blk)) : Prop where
  keys : keysP post = keysP pre ++ newP pre post
  apart : ∀ n, n ∈ newP pre post → n ∉ keysP pre
  rnames : ∀ n, inS n res → n ∈ keysP post
  pnames : ∀ n b m, (n, b) ∈ post → inB m b → m ∈ keysP post
  kind : ∀ n b c, (n, b) ∈ post → (n, c) ∈ pre → sameKind c b
  enter : ∀ (vs : Array Value) (w : World), (callFunc f vs).run P w = .ok (.enter f vs) w
  calls : ∀ (w : World) (I : Nat → Prop) (ρ : Nat → Loc) (vs : List Value), RepL I ρ w args vs →
    (∀ n b, (n, b) ∈ pre → BlkOk I ρ w (ρ n) b ∧ (live (ρ n) b → ¬ I (ρ n).b)) →
    (∀ n b m c, (n, b) ∈ pre → (m, c) ∈ pre → live (ρ n) b → live (ρ m) c → (ρ n).b = (ρ m).b → n = m) →
    (∀ b, I b → b < w.heap.size) → GOk G I w →
    Calls P f ⟨vs⟩ w fun e w' => ∃ v I' ρ', e = .returned v ∧ After I ρ w pre res post I' ρ' w' v

/-! ### first lemmas -/
theorem add_eq (b o n : Nat) : (⟨b, o, none⟩ : Addr).add n = ⟨b, o + n, none⟩ := by
  unfold Addr.add; split <;> simp_all

/-- The cells of the immutable blocks are as they were. -/
def Same (I : Nat → Prop) (w w' : World) : Prop := ∀ b o, I b → w'.cell? ⟨b, o, none⟩ = w.cell? ⟨b, o, none⟩

theorem RepD.mono {I I' : Nat → Prop} {w w' : World} (hI : ∀ b, I b → I' b) (hw : Same I w w') : ∀ {x : D} {v : Value}, RepD I w x v → RepD I' w' x v
  | .int _ _, _, h => h
  | .bool _, _, h => h
  | .str _, _, h => h
  | .val _, _, h => h
  | .list len sz get, v, h => by
    obtain ⟨a, cap, hv, hc, h⟩ := h
    refine ⟨a, cap, hv, hc, fun hl => ?_⟩
    obtain ⟨b, o, ha, hb, h⟩ := h hl
    refine ⟨b, o, ha, hI b hb, fun i j hi hj => ?_⟩
    obtain ⟨u, hu, hr⟩ := h i j hi hj
    exact ⟨u, by rw [hw b _ hb]; exact hu, RepD.mono hI hw hr⟩

theorem RepD.one {I : Nat → Prop} {w : World} : ∀ {x : D} {v : Value}, RepD I w x v → v.oneCell' = true
  | .int _ _, _, h => by cases h; rfl
  | .bool _, _, h => by cases h; rfl
  | .str _, _, h => by cases h; rfl
  | .val _, _, h => by obtain ⟨rfl, h⟩ := h; exact h
  | .list _ _ _, _, h => by obtain ⟨a, cap, rfl, _⟩ := h; rfl

mutual
theorem RepS.mono {I I' : Nat → Prop} {ρ ρ' : Nat → Loc} {w w' : World} (hI : ∀ b, I b → I' b) (hw : Same I w w') :
    ∀ {x : SV} {v : Value}, (∀ n, inS n x → ρ' n = ρ n) → RepS I ρ w x v → RepS I' ρ' w' x v
  | .d _, _, _, h => by simp only [RepS] at h ⊢; exact RepD.mono hI hw h
  | .ptr n _, _, hn, h => by simp only [RepS] at h ⊢; rw [hn n (by simp [inS])]; exact h
  | .optr n _ _ _, _, hn, h => by simp only [RepS] at h ⊢; rw [hn n (by simp [inS])]; exact h
  | .osl n _ _ _, _, hn, h => by simp only [RepS] at h ⊢; rw [hn n (by simp [inS])]; exact h
  | .cptr sz get, _, _, h => by
    simp only [RepS] at h ⊢
    obtain ⟨b, o, hv, hb, h⟩ := h
    refine ⟨b, o, hv, hI b hb, fun j hj => ?_⟩
    obtain ⟨u, hu, hr⟩ := h j hj
    exact ⟨u, by rw [hw b _ hb]; exact hu, RepD.mono hI hw hr⟩
  | .agg cs, _, hn, h => by
    simp only [RepS] at h ⊢
    obtain ⟨us, hv, h, h1⟩ := h
    exact ⟨us, hv, RepL.mono hI hw (fun n h => hn n (by simpa [inS] using h)) h, h1⟩
  | .tup cs, _, hn, h => by
    simp only [RepS] at h ⊢
    obtain ⟨us, hv, h⟩ := h
    exact ⟨us, hv, RepL.mono hI hw (fun n h => hn n (by simpa [inS] using h)) h⟩
  | .clo _ cs, _, hn, h => by
    simp only [RepS] at h ⊢
    obtain ⟨us, hv, h⟩ := h
    exact ⟨us, hv, RepL.mono hI hw (fun n h => hn n (by simpa [inS] using h)) h⟩
  | .mp n, _, hn, h => by simp only [RepS] at h ⊢; rw [hn n (by simp [inS])]; exact h
  | .junk, _, _, _ => by simp only [RepS]
theorem RepL.mono {I I' : Nat → Prop} {ρ ρ' : Nat → Loc} {w w' : World} (hI : ∀ b, I b → I' b) (hw : Same I w w') :
    ∀ {cs : List SV} {us : List Value}, (∀ n, inL n cs → ρ' n = ρ n) → RepL I ρ w cs us → RepL I' ρ' w' cs us
  | [], _, _, h => by simp only [RepL] at h ⊢; exact h
  | c :: cs, _, hn, h => by
    simp only [RepL] at h ⊢
    obtain ⟨u, r, rfl, h1, h2⟩ := h
    exact ⟨u, r, rfl, RepS.mono hI hw (fun n h => hn n (by simp [inL, h])) h1, RepL.mono hI hw (fun n h => hn n (by simp [inL, h])) h2⟩
end

theorem Cells.mono {I I' : Nat → Prop} {ρ ρ' : Nat → Loc} {w w' : World} (hI : ∀ b, I b → I' b) (hw : Same I w w') {cs : List SV} {us : List Value}
    (hn : ∀ n, inL n cs → ρ' n = ρ n) (h : Cells I ρ w cs us) : Cells I' ρ' w' cs us := ⟨RepL.mono hI hw hn h.1, h.2⟩

theorem RepL.length {I : Nat → Prop} {ρ : Nat → Loc} {w : World} : ∀ {cs : List SV} {us : List Value}, RepL I ρ w cs us → us.length = cs.length
  | [], _, h => by simp only [RepL] at h; subst h; rfl
  | c :: cs, _, h => by
    simp only [RepL] at h
    obtain ⟨u, r, rfl, _, h⟩ := h
    simp [RepL.length h]

/-- A block that keeps its object and whose content is data or names that stand. -/
theorem BlkOk.mono {I I' : Nat → Prop} {ρ ρ' : Nat → Loc} {w w' : World} (hI : ∀ b, I b → I' b) (hw : Same I w w') {L : Loc} {b : Blk}
    (hn : ∀ n, inB n b → ρ' n = ρ n) (hb : live L b → w'.heap[L.b]? = w.heap[L.b]?) (h : BlkOk I ρ w L b) : BlkOk I' ρ' w' L b := by
  cases b with
  | box cs =>
    obtain ⟨us, E, h1, h2⟩ := h
    exact ⟨us, E, by rw [hb trivial]; exact h1, h2.mono hI hw hn⟩
  | row E sz len get =>
    obtain ⟨h0, h0', h1, h2⟩ := h
    refine ⟨h0, h0', h1, fun hc => ?_⟩
    obtain ⟨arr, h3, h4, h5⟩ := h2 hc
    refine ⟨arr, h3.congr (hb hc), h4, fun i j hi hj => ?_⟩
    obtain ⟨u, hu, hr⟩ := h5 i j hi hj
    exact ⟨u, hu, RepD.mono hI hw hr⟩
  | iter s pos => show w'.heap[L.b]? = _; rw [hb trivial]; exact h
  | smap kd get =>
    obtain ⟨es, clock, h1, h2⟩ := h
    exact ⟨es, clock, by rw [hb trivial]; exact h1, h2⟩
  | arr sz cs =>
    obtain ⟨h0, h1, us, E, h2, h3⟩ := h
    exact ⟨h0, h1, us, E, by rw [hb trivial]; exact h2, h3.mono hI hw hn⟩

theorem Keep.refl (S : Nat → Prop) (w : World) : Keep S w w := ⟨rfl, rfl, rfl, Nat.le_refl _, fun _ _ _ => rfl⟩
theorem Keep.trans {S T : Nat → Prop} {a b c : World} (h : Keep S a b) (k : Keep T b c) (hT : ∀ i, T i → S i ∨ a.heap.size ≤ i) : Keep S a c :=
  ⟨k.os.trans h.os, k.tape.trans h.tape, k.output.trans h.output, Nat.le_trans h.size k.size,
   fun i hi hs => (k.block i (Nat.lt_of_lt_of_le hi h.size) (fun ht => (hT i ht).elim hs (fun h => by omega))).trans (h.block i hi hs)⟩

theorem same_of_keep {I S : Nat → Prop} {w w' : World} (h : Keep S w w') (hI : ∀ b, I b → b < w.heap.size ∧ ¬ S b) : Same I w w' :=
  fun b o hb => World.cell?_of_block (h.block b (hI b hb).1 (hI b hb).2)

theorem GOk.mono {G : Nat → Option (Nat × (Nat → D))} {I I' : Nat → Prop} {w w' : World} (hI : ∀ b, I b → I' b) (hw : Same I w w') (h : GOk G I w) : GOk G I' w' := by
  intro g sz get hg
  obtain ⟨h1, h2⟩ := h g sz get hg
  refine ⟨hI g h1, fun j hj => ?_⟩
  obtain ⟨u, hu, hr⟩ := h2 j hj
  exact ⟨u, by rw [hw g _ h1]; exact hu, RepD.mono hI hw hr⟩

end Go.Sx
