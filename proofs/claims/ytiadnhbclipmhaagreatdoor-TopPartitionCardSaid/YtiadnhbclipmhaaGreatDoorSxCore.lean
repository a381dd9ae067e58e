/- Part of a symbolic executor over the model, proved sound, with plain laws: SxCore. Written for these claims. -/
import Derived.Deep.Draws
import Derived.WalkKit
set_option linter.unusedVariables false
set_option linter.unusedSimpArgs false
namespace Go.Sx
open Go
structure InsOk (P : Program) (f : FuncId) (Et : Nat) : Prop where
  enter : ∀ (vs : Array Value) (w : World), (callFunc f vs).run P w = .ok (.enter f vs) w
  run : ∀ (w : World) (ad : Option Addr) (b o n c i vb vc Ev : Nat) (cs : List Value) (x : Value), i ≤ n → n ≤ c → cs.length = n → (n + 1) * 8 ≤ 140737488355328 → (∀ v ∈ cs, v.oneCell' = true) → x.oneCell' = true →
    (0 < c → ad = some ⟨b, o, none⟩ ∧ vb ≠ b ∧ ∃ (arr : Array Value) (fr : Nat × Nat), w.heap[b]? = some (.cells arr Et fr) ∧ (fr.1 = fr.2 ∨ arr.size ≤ fr.1) ∧ arr.size = o + c ∧ ∀ (j : Nat) (v : Value), cs[j]? = some v → arr[o + j]? = some v) →
    w.heap[vb]? = some (.cells ⟨[x]⟩ Ev (0, 0)) →
    Calls P f #[.slice ad n c, .int .i64 i, .slice (some ⟨vb, 0, none⟩) 1 vc] w fun e w' =>
      (n + 1 ≤ c ∧ e = .returned (.slice ad (n + 1) c) ∧ ∃ (q : Nat) (arr' : Array Value), w' = (w.drewN q).setRow b arr' ∧ arr'.size = o + c ∧ ∀ (j : Nat) (v : Value), (cs.take i ++ x :: cs.drop i)[j]? = some v → arr'[o + j]? = some v) ∨
      (∃ (q cap : Nat) (arr' : Array Value), n + 1 ≤ cap ∧ e = .returned (.slice (some ⟨w.heap.size, 0, none⟩) (n + 1) cap) ∧ w' = (w.drewN q).alloc (.cells arr' Et) ∧ arr'.size = cap ∧ ∀ (j : Nat) (v : Value), (cs.take i ++ x :: cs.drop i)[j]? = some v → arr'[j]? = some v)
theorem or_map {a b c d : Prop} (h : a ∨ b) (f : a → c) (g : b → d) : c ∨ d := h.elim (fun x => .inl (f x)) (fun x => .inr (g x))
inductive D where
  | int (k : IntKind) (n : Int)
  | bool (b : Bool)
  | str (l : List UInt8)
  | val (x : Value)
  | list (len sz : Nat) (get : Nat → Nat → D)
  /-- a list that is not nil -/
  | nl (len sz : Nat) (get : Nat → Nat → D)
instance : Inhabited D := ⟨.bool false⟩
inductive SV where
  | d (x : D)
  | ptr (n off : Nat)
  | optr (n sz i off : Nat)
  | osl (n sz off len : Nat)
  | cptr (sz : Nat) (get : Nat → D)
  | agg (cs : List SV)
  | tup (vs : List SV)
  | clo (f : FuncId) (caps : List SV)
  | ifc (T : Nat) (cs : List SV)
  | fsl (n k sz l : Nat)
  | fptr (n k sz i off : Nat)
  | mp (n : Nat)
  | junk
instance : Inhabited SV := ⟨.junk⟩
inductive FC where
  | d (x : D)
  | fs (k sz l : Nat)
instance : Inhabited FC := ⟨.d default⟩
structure FRow where
  E : Nat
  sz : Nat
  len : Nat
  get : Nat → Nat → D
instance : Inhabited FRow := ⟨⟨0, 0, 0, fun _ _ => default⟩⟩
inductive Blk where
  | box (cs : List SV)
  | row (E sz len : Nat) (get : Nat → Nat → D)
  | iter (s : List UInt8) (pos : Nat)
  | smap (kd : IntKind) (get : List UInt8 → Option Int)
  | arr (sz : Nat) (cs : List SV)
  | fam (nk : Nat) (rows : Nat → Option FRow)
  | frow (fn E sz len : Nat) (get : Nat → Nat → FC)
  | gmap (fn : Nat) (ka : Bool) (kk : List IntKind) (va : Bool) (sz : Nat) (has : List Int → Bool) (get : List Int → Nat → FC)
structure St where
  s : List (Nat × SV)
  o : List (Nat × Blk)
  nm : List Nat
  n0 : List Nat
structure Upd where
  dst : Option Nat
  v : SV
  own : List (Nat × Blk)
  del : List Nat
  new : List Nat
  pub : List Nat
inductive M (α : Type) where
  | ret (a : α)
  | slot (k : Nat) (f : SV → M α)
  | own (n : Nat) (f : Blk → M α)
  | need (p : Prop) (m : M α)
  | split (b : Bool) (x y : M α)
  | call (dst : Option Nat) (f : FuncId) (args : List SV) (names bor pub : List Nat)
  | fail (why : String)
section pieces
variable {α : Type}
def nthK : List SV → Nat → (SV → M α) → M α
  | [], _, _ => .fail "nth"
  | x :: _, 0, k => k x
  | _ :: xs, n + 1, k => nthK xs n k
def dropK : Nat → List SV → (List SV → M α) → M α
  | 0, l, k => k l
  | _ + 1, [], _ => .fail "drop"
  | n + 1, _ :: l, k => dropK n l k
def takeK : Nat → List SV → (List SV → M α) → M α
  | 0, _, k => k []
  | _ + 1, [], _ => .fail "take"
  | n + 1, x :: l, k => takeK n l fun r => k (x :: r)
def overK : List SV → List SV → (List SV → M α) → M α
  | [], l, k => k l
  | _ :: _, [], _ => .fail "over"
  | y :: new, _ :: l, k => overK new l fun r => k (y :: r)
def spliceK : Nat → List SV → List SV → (List SV → M α) → M α
  | 0, new, l, k => overK new l k
  | _ + 1, _, [], _ => .fail "splice"
  | n + 1, new, x :: l, k => spliceK n new l fun r => k (x :: r)
def mapK {γ δ : Type} (f : γ → (δ → M α) → M α) : List γ → (List δ → M α) → M α
  | [], k => k []
  | x :: l, k => f x fun y => mapK f l fun r => k (y :: r)
def sv1K : Value → (SV → M α) → M α
  | .int i n, k => k (.d (.int i n))
  | .bool b, k => k (.d (.bool b))
  | .string ⟨⟨l⟩⟩, k => k (.d (.str l))
  | .pointer none, k => k (.d (.val (.pointer none)))
  | .slice none 0 0, k => k (.d (.val (.slice none 0 0)))
  | .nilFunc, k => k (.d (.val .nilFunc))
  | .map none, k => k (.d (.val (.map none)))
  | _, _ => .fail "constant"
def svK : Value → (SV → M α) → M α
  | .agg ⟨cs⟩, k => mapK sv1K cs fun l => k (.agg l)
  | v, k => sv1K v k
def cellsK : SV → (List SV → M α) → M α
  | .agg cs, k => k cs
  | .d x, k => k [.d x]
  | .ptr n o, k => k [.ptr n o]
  | .optr n s i o, k => k [.optr n s i o]
  | .osl n s o l, k => k [.osl n s o l]
  | .cptr s g, k => k [.cptr s g]
  | .clo f cs, k => k [.clo f cs]
  | .fsl n m s l, k => k [.fsl n m s l]
  | .mp n, k => k [.mp n]
  | _, _ => .fail "cells"
def ev (x : Operand) (k : SV → M α) : M α :=
  match x with
  | .tmp t => .slot t k
  | .const v => svK v k
  | .global _ => .fail "global"
  | .func f => k (.clo f [])
def evs : List Operand → (List SV → M α) → M α := mapK ev
def kEq : IntKind → IntKind → Bool
  | .i8, .i8 | .i16, .i16 | .i32, .i32 | .i64, .i64 | .u8, .u8 | .u16, .u16 | .u32, .u32 | .u64, .u64 => true
  | _, _ => false
def memN : Nat → List Nat → Bool
  | _, [] => false
  | n, m :: l => match Nat.beq n m with
    | true => true
    | false => memN n l
def isAggD : TypeDesc → Bool
  | .struct _ | .array _ _ => true
  | _ => false
def partK (P : Program) (T : Nat) (cs : List SV) (k : SV → M α) : M α :=
  match P.underlying T with
  | none => .fail "type"
  | some d => match isAggD d with
    | true => takeK (P.cellsOf T) cs fun l => k (.agg l)
    | false => nthK cs 0 k
def getiK (get : Nat → D) : Nat → Nat → (List SV → M α) → M α
  | _, 0, k => k []
  | j, n + 1, k => getiK get (j + 1) n fun r => k (.d (get j) :: r)
def partD (P : Program) (T sz : Nat) (get : Nat → D) (k : SV → M α) : M α :=
  match P.underlying T with
  | none => .fail "type"
  | some d => match isAggD d with
    | true => match Nat.ble (P.cellsOf T) sz with
      | true => getiK get 0 (P.cellsOf T) fun l => k (.agg l)
      | false => .fail "size"
    | false => match Nat.ble 1 sz with
      | true => k (.d (get 0))
      | false => .fail "size"
def zeroK (P : Program) (T : Nat) (k : List SV → M α) : M α :=
  match P.info? T with
  | some i => match i.zero with
    | some (.agg ⟨cs⟩) => match Nat.beq cs.length i.size with
      | true => mapK sv1K cs k
      | false => .fail "zero"
    | some v => match Nat.beq 1 i.size with
      | true => sv1K v fun x => k [x]
      | false => .fail "zero"
    | none => .fail "zero"
  | none => .fail "zero"
def nthF : List Field → Nat → (Nat → Nat → M α) → M α
  | [], _, _ => .fail "field"
  | ⟨_, t, o, _, _, _, _⟩ :: _, 0, k => k o t
  | _ :: l, n + 1, k => nthF l n k
def sizeIs (P : Program) (T n : Nat) : Bool :=
  match P.info? T with
  | some i => Nat.beq n i.size
  | none => false
def posSize (P : Program) (T : Nat) : Bool :=
  match P.info? T with
  | some i => match i.size with
    | 0 => false
    | _ + 1 => true
  | none => false
def fieldK (P : Program) (T f : Nat) (k : Nat → Nat → M α) : M α :=
  match P.underlying T with
  | some (.struct ⟨fs⟩) => nthF fs f k
  | _ => .fail "no struct"
def elemK (P : Program) (T : Nat) (k : Nat → Nat → M α) : M α :=
  match P.underlying T with
  | some (.slice E) => k E (P.cellsOf E)
  | _ => .fail "no slice type"
def shiftK (op : BinOp) (k : IntKind) (a b : Int) (r : D → M α) : M α :=
  match op with
  | .shl => .need (0 ≤ b) (r (.int k (k.wrap (a * 2 ^ (min b.toNat k.bits)))))
  | .shr => .need (0 ≤ b) (r (.int k (a.fdiv (2 ^ (min b.toNat k.bits)))))
  | _ => .fail "int op"
def intOp (op : BinOp) (k : IntKind) (a b : Int) (r : D → M α) : M α :=
  match op with
  | .add => r (.int k (k.wrap (a + b)))
  | .sub => r (.int k (k.wrap (a - b)))
  | .mul => r (.int k (k.wrap (a * b)))
  | .quo => .need (b ≠ 0) (r (.int k (k.wrap (a.tdiv b))))
  | .rem => .need (b ≠ 0) (r (.int k (a.tmod b)))
  | .eql => r (.bool (a == b))
  | .neq => r (.bool (a != b))
  | .lss => r (.bool (a < b))
  | .leq => r (.bool (a ≤ b))
  | .gtr => r (.bool (a > b))
  | .geq => r (.bool (a ≥ b))
  | .and => r (.int k (k.wrap ((BitVec.ofInt k.bits a &&& BitVec.ofInt k.bits b).toNat)))
  | .or => r (.int k (k.wrap ((BitVec.ofInt k.bits a ||| BitVec.ofInt k.bits b).toNat)))
  | .xor => r (.int k (k.wrap ((BitVec.ofInt k.bits a ^^^ BitVec.ofInt k.bits b).toNat)))
  | .shl => shiftK .shl k a b r
  | .shr => shiftK .shr k a b r
  | _ => .fail "int op"
def strOp (op : BinOp) (a b : List UInt8) (r : D → M α) : M α :=
  match op with
  | .add => .need (a.length + b.length ≤ 9223372036854775807) (r (.str (a ++ b)))
  | .eql => r (.bool (a == b))
  | .neq => r (.bool (!(a == b)))
  | .lss => r (.bool (Op.bytesLess a b))
  | .leq => r (.bool (Op.bytesLess a b || a == b))
  | .gtr => r (.bool (!(Op.bytesLess a b || a == b)))
  | .geq => r (.bool (!(Op.bytesLess a b)))
  | _ => .fail "string op"
def eqFieldsK (P : Program) (rec : Nat → SV → SV → (Bool → M α) → M α) : List Field → List SV → List SV → (Bool → M α) → M α
  | [], _, _, k => k true
  | ⟨name, t, o, _, _, _, _⟩ :: fs, cs, ds, k => match name == "_" with
    | true => .fail "eq blank"
    | false => dropK o cs fun xs => partK P t xs fun x => dropK o ds fun ys => partK P t ys fun y => rec t x y fun b => match fs with
      | [] => k b
      | _ :: _ => eqFieldsK P rec fs cs ds fun c => k (b && c)
def eqK (P : Program) (E : List Nat) : Nat → Nat → SV → SV → (Bool → M α) → M α
  | 0, _, _, _, _ => .fail "eq depth"
  | n + 1, T, x, y, k => match P.underlying T with
    | some (.int i) => match x, y with
      | .d (.int j a), .d (.int l b) => match kEq i j, kEq i l with
        | true, true => k (a == b)
        | _, _ => .fail "eq kinds"
      | _, _ => .fail "eq int"
    | some .bool => match x, y with
      | .d (.bool a), .d (.bool b) => k (a == b)
      | _, _ => .fail "eq bool"
    | some .string => match x, y with
      | .d (.str a), .d (.str b) => k (a == b)
      | _, _ => .fail "eq string"
    | some (.struct ⟨fs⟩) => match x, y, memN T E with
      | .agg cs, .agg ds, true => eqFieldsK P (eqK P E n) fs cs ds k
      | _, _, _ => .fail "eq struct"
    | _ => .fail "eq type"
def binK (P : Program) (E : List Nat) (op : BinOp) (T : Nat) (x y : SV) (r : SV → M α) : M α :=
  match x, y with
  | .d (.int i a), .d (.int j b) => match kEq i j with
    | true => intOp op i a b fun v => r (.d v)
    | false => shiftK op i a b fun v => r (.d v)
  | .d (.str a), .d (.str b) => strOp op a b fun v => r (.d v)
  | .d (.bool a), .d (.bool b) => match P.underlying T, op with
    | some .bool, .eql => r (.d (.bool (a == b)))
    | some .bool, .neq => r (.d (.bool (!(a == b))))
    | _, _ => .fail "bool op"
  | .agg cs, .agg ds => match op, memN T E with
    | .eql, true => eqK P E 4 T (.agg cs) (.agg ds) fun b => r (.d (.bool b))
    | .neq, true => eqK P E 4 T (.agg cs) (.agg ds) fun b => r (.d (.bool (!b)))
    | _, _ => .fail "agg op"
  | _, _ => .fail "binop"
def unK (op : UnOp) (x : SV) (r : SV → M α) : M α :=
  match op, x with
  | .neg, .d (.int k n) => r (.d (.int k (k.wrap (0 - n))))
  | .not, .d (.bool b) => r (.d (.bool (!b)))
  | _, _ => .fail "unop"
def buildK (P : Program) : List Field → List (Nat × List SV) → List SV → (List SV → M α) → M α
  | _, [], cs, k => k cs
  | fs, (i, new) :: rest, cs, k => nthF fs i fun o t => match sizeIs P t new.length with
    | true => spliceK o new cs fun cs => buildK P fs rest cs k
    | false => .fail "build size"
def buildAK (sz : Nat) : List (Nat × List SV) → List SV → (List SV → M α) → M α
  | [], cs, k => k cs
  | (i, new) :: rest, cs, k => match Nat.beq sz new.length with
    | true => spliceK (i * sz) new cs fun cs => buildAK sz rest cs k
    | false => .fail "array literal size"
def infos (P : Program) : List Field → Bool
  | [] => true
  | ⟨_, t, _, _, _, _, _⟩ :: fs => match sizeIs P t (P.cellsOf t) with
    | true => infos P fs
    | false => false
def dK : SV → (D → M α) → M α
  | .d x, k => k x
  | _, _ => .fail "no plain data"
def dcells : List SV → (List D → M α) → M α := mapK dK
def tabF : (Nat → Nat → D) → List (Nat × List D) → Nat → Nat → D
  | base, [] => base
  | base, (n, cs) :: rest => tabF (fun i j => if i = n then cs.getD j default else base i j) rest
def idxK (P : Program) (T : Nat) (x : SV) (i : Int) (r : SV → M α) : M α :=
  match P.underlying T with
  | some (.slice E) => match x with
    | .d (.list len sz get) => match sizeIs P E sz with
      | true => .need (0 ≤ i ∧ i < len) (r (.cptr sz fun j => get i.toNat j))
      | false => .fail "index size"
    | .osl n sz off len => match sizeIs P E sz with
      | true => .need (0 ≤ i ∧ i < len) (r (.optr n sz (off + i.toNat) 0))
      | false => .fail "index size"
    | _ => .fail "index of what slice"
  | some (.array len E) => match sizeIs P E (P.cellsOf E) with
    | true => match x with
      | .cptr s get => match Nat.ble (len * P.cellsOf E) s with
        | true => .need (0 ≤ i ∧ i < len) (r (.cptr (P.cellsOf E) fun j => get (i.toNat * P.cellsOf E + j)))
        | false => .fail "array size"
      | .ptr n off => .need (0 ≤ i ∧ i < len) (r (.ptr n (off + i.toNat * P.cellsOf E)))
      | _ => .fail "index of what array"
    | false => .fail "array element"
  | _ => .fail "indexAddr"
def capNames : List SV → List Nat
  | [] => []
  | .ptr n _ :: l => n :: capNames l
  | _ :: l => capNames l
def mpNames : List SV → List Nat
  | [] => []
  | .mp n :: l => n :: mpNames l
  | _ :: l => mpNames l
def ptrNames : List SV → List Nat
  | [] => []
  | .clo _ cs :: l => capNames cs ++ ptrNames l
  | .ptr n _ :: l => n :: ptrNames l
  | .optr n _ _ _ :: l => n :: ptrNames l
  | .agg cs :: l => mpNames cs ++ ptrNames l
  | _ :: l => ptrNames l
def sliceLen : SV → (Nat → M α) → M α
  | .d (.list len _ _), k => k len
  | .d (.nl len _ _), k => k len
  | .d (.val (.slice none 0 0)), k => k 0
  | .osl _ _ _ len, k => k len
  | _, _ => .fail "len of what"
def lendCells : List SV → (List SV → List Nat → M α) → M α
  | [], k => k [] []
  | .osl n _ off len :: l, k => .own n fun
    | .row _ sz _ get => lendCells l fun r ns => k (.d (.list len sz fun i j => get (off + i) j) :: r) (n :: ns)
    | _ => .fail "lend"
  | x :: l, k => lendCells l fun r ns => k (x :: r) ns
def lendArgs : List SV → (List SV → List Nat → M α) → M α
  | [], k => k [] []
  | .osl n _ off len :: l, k => .own n fun
    | .row _ sz _ get => lendArgs l fun r ns => k (.d (.list len sz fun i j => get (off + i) j) :: r) (n :: ns)
    | _ => .fail "lend"
  | .agg cs :: l, k => lendCells cs fun ds ms => lendArgs l fun r ns => k (.agg ds :: r) (ms ++ ns)
  | x :: l, k => lendArgs l fun r ns => k (x :: r) ns
def byteD : D → Option UInt8
  | .int .u8 n => some (UInt8.ofNat n.toNat)
  | _ => none
def bytesR (get : Nat → Nat → D) : Nat → Nat → Option (List UInt8)
  | _, 0 => some []
  | i, n + 1 => match byteD (get i 0), bytesR get (i + 1) n with
    | some b, some l => some (b :: l)
    | _, _ => none
def bytesL (get : Nat → Nat → D) (n : Nat) : List UInt8 := (bytesR get 0 n).getD []
def bytesK (x : SV) (k : List UInt8 → M α) : M α :=
  match x with
  | .d (.val (.slice none 0 0)) => k []
  | .d (.list len 1 get) => .need (bytesR get 0 len = some (bytesL get len)) (k (bytesL get len))
  | .osl n 1 off len => .own n fun
    | .row _ 1 _ get => .need (bytesR (fun i j => get (off + i) j) 0 len = some (bytesL (fun i j => get (off + i) j) len)) (k (bytesL (fun i j => get (off + i) j) len))
    | _ => .fail "bytes of what row"
  | _ => .fail "bytes of what"
def convK (P : Program) (src T : Nat) (x : SV) (r : SV → M α) : M α :=
  match P.underlying src, P.underlying T with
  | some _, some (.int k) => match x with
    | .d (.int _ n) => r (.d (.int k (k.wrap n)))
    | _ => .fail "convert to int"
  | some (.slice e), some .string => match P.underlying e with
    | some (.int .u8) => bytesK x fun l => r (.d (.str l))
    | _ => .fail "convert to string"
  | some .string, some .string => match x with
    | .d (.str l) => r (.d (.str l))
    | _ => .fail "convert of what string"
  | _, _ => .fail "convert"
def boundK (x : Option Operand) (k : Option Int → M α) : M α :=
  match x with
  | none => k none
  | some x => ev x fun
    | .d (.int _ n) => k (some n)
    | _ => .fail "slice bound"
def cutStr (l : List UInt8) (lo hi : Option Int) (r : SV → M α) : M α :=
  match lo, hi with
  | none, none => r (.d (.str l))
  | some i, none => .need (0 ≤ i ∧ i ≤ l.length) (r (.d (.str (l.drop i.toNat))))
  | none, some j => .need (0 ≤ j ∧ j ≤ l.length) (r (.d (.str (l.take j.toNat))))
  | some i, some j => .need (0 ≤ i ∧ i ≤ j ∧ j ≤ l.length) (r (.d (.str ((l.take j.toNat).drop i.toNat))))
def cutSl (P : Program) (E : Nat) (x : SV) (lo hi : Option Int) (r : SV → M α) : M α :=
  match x with
  | .d (.list len sz get) => match sizeIs P E sz with
    | true => .need (0 ≤ lo.getD 0 ∧ lo.getD 0 ≤ hi.getD len ∧ hi.getD len ≤ len) (r (.d (.list ((hi.getD len) - (lo.getD 0)).toNat sz fun i j => get ((lo.getD 0).toNat + i) j)))
    | false => .fail "slice size"
  | .osl n sz off len => match sizeIs P E sz with
    | true => .need (0 ≤ lo.getD 0 ∧ lo.getD 0 ≤ hi.getD len ∧ hi.getD len ≤ len) (r (.osl n sz (off + (lo.getD 0).toNat) ((hi.getD len) - (lo.getD 0)).toNat))
    | false => .fail "slice size"
  | .d (.val (.slice none 0 0)) => match sizeIs P E (P.cellsOf E) with
    | true => .need (lo.getD 0 = 0 ∧ hi.getD 0 = 0) (r (.d (.val (.slice none 0 0))))
    | false => .fail "slice size"
  | _ => .fail "slice of what"
def runeAt (s : List UInt8) (pos : Nat) : Nat × Nat := Utf8.decode ⟨⟨s⟩⟩ pos
end pieces
def upd (dst : Option Nat) (v : SV) : M Upd := .ret { dst, v, own := [], del := [], new := [], pub := [] }
def dstK (dst : Option Nat) (k : Nat → M Upd) : M Upd :=
  match dst with
  | some d => k d
  | none => .fail "no dst"
def flatFs (rec : Nat → Bool) : List Field → Bool
  | [] => true
  | ⟨_, t, _, _, _, _, _⟩ :: fs => match rec t with
    | true => flatFs rec fs
    | false => false
def flatT (P : Program) : Nat → Nat → Bool
  | 0, _ => false
  | n + 1, T => match P.underlying T with
    | some (.int _) | some .bool | some .string => true
    | some (.struct ⟨fs⟩) => flatFs (flatT P n) fs
    | _ => false
def flatTs (P : Program) : List Nat → Bool
  | [] => true
  | t :: l => match flatT P 6 t with
    | true => flatTs P l
    | false => false
def flatResult (P : Program) (f : FuncId) : Bool :=
  match P.funcs[f]? with
  | some fn => flatTs P fn.resultTypes.toList
  | none => false
def zeroOk (P : Program) (T sz : Nat) : Bool :=
  match P.info? T with
  | some i => match i.zero with
    | some (.agg ⟨cs⟩) => match Nat.beq cs.length i.size, Nat.beq sz i.size with
      | true, true => Nat.blt 0 sz
      | _, _ => false
    | some (.int _ _) | some (.bool _) | some (.string _) | some (.slice _ _ _) | some (.pointer _) => match Nat.beq 1 i.size, Nat.beq sz i.size with
      | true, true => true
      | _, _ => false
    | _ => false
  | none => false
def srcK (sz : Nat) (x : SV) (k : Nat → (Nat → Nat → D) → M Upd) : M Upd :=
  match x with
  | .d (.list m s get) => match Nat.beq s sz with
    | true => k m get
    | false => .fail "append size"
  | .d (.nl m s get) => match Nat.beq s sz with
    | true => k m get
    | false => .fail "append size"
  | .d (.val (.slice none 0 0)) => k 0 (fun _ _ => default)
  | .osl n s off m => .own n fun
    | .row _ _ _ get => match Nat.beq s sz with
      | true => k m (fun i j => get (off + i) j)
      | false => .fail "append size"
    | _ => .fail "append of what row"
  | _ => .fail "append of what"
def sameRow (n : Nat) : SV → Bool
  | .osl k _ _ _ => Nat.beq n k
  | _ => false
def appendK (P : Program) (dst : Option Nat) (E sz : Nat) (s x : SV) : M Upd :=
  dstK dst fun d => match zeroOk P E sz with
  | false => .fail "append element"
  | true => match s with
    | .d (.val (.slice none 0 0)) => srcK sz x fun m get =>
        .need (m * P.bytesOf E ≤ 140737488355328 ∧ m ≤ 9223372036854775807) (.ret { dst, v := .osl d sz 0 m, own := [(d, .row E sz m get)], del := [], new := [d], pub := [] })
    | .osl n _ 0 len => .own n fun
      | .row E' s len' get => match Nat.beq s sz, Nat.beq E E' with
        | true, true => match sameRow n x with
          | true => srcK sz x fun m g2 =>
            .need (len ≤ len' ∧ (len + m) * P.bytesOf E ≤ 140737488355328 ∧ len + m ≤ 9223372036854775807)
              (.ret { dst, v := .osl d sz 0 (len + m), own := [(d, .row E sz (len + m) fun i j => if i < len then get i j else g2 (i - len) j)], del := [n], new := [d], pub := [] })
          | false => srcK sz x fun m g2 =>
            .need (len = len' ∧ (len + m) * P.bytesOf E ≤ 140737488355328 ∧ len + m ≤ 9223372036854775807)
              (.ret { dst, v := .osl d sz 0 (len + m), own := [(d, .row E sz (len + m) fun i j => if i < len then get i j else g2 (i - len) j)], del := [n], new := [d], pub := [] })
        | _, _ => .fail "append type"
      | _ => .fail "append to what row"
    | .osl n _ off len => .own n fun
      | .row E' s len' get => match Nat.beq s sz, Nat.beq E E', sameRow n x with
        | true, true, false => srcK sz x fun m g2 =>
            .need (off + len ≤ len' ∧ (len + m) * P.bytesOf E ≤ 140737488355328 ∧ len + m ≤ 9223372036854775807)
              (.ret { dst, v := .osl d sz 0 (len + m), own := [(d, .row E sz (len + m) fun i j => if i < len then get (off + i) j else g2 (i - len) j)], del := [n], new := [d], pub := [] })
        | _, _, _ => .fail "append type"
      | _ => .fail "append to what row"
    | _ => .fail "append to what"
def copyK (P : Program) (dst : Option Nat) (E sz : Nat) (x y : SV) : M Upd :=
  match zeroOk P E sz with
  | false => .fail "copy element"
  | true => match x with
    | .osl n _ off len => .own n fun
      | .row E s L g => match Nat.beq s sz with
        | true => srcK sz y fun m g2 =>
          .ret { dst, v := .d (.int .i64 (min m len : Nat)), own := [(n, .row E s L fun i j => if off ≤ i ∧ i < off + min m len then g2 (i - off) j else g i j)], del := [], new := [], pub := [] }
        | false => .fail "copy size"
      | _ => .fail "copy into what row"
    | _ => .fail "copy into what"
def appendImm (P : Program) (dst : Option Nat) (E sz : Nat) (x : SV) : M Upd :=
  match zeroOk P E sz with
  | false => .fail "append element"
  | true => srcK sz x fun m get => .need (m * P.bytesOf E ≤ 140737488355328 ∧ m ≤ 9223372036854775807) (upd dst (.d (.list m sz get)))
def appendE (P : Program) (E0 : List Nat) (dst : Option Nat) (E sz : Nat) (s x : SV) : M Upd :=
  match memN (E + 4000000) E0, s with
  | true, .d (.val (.slice none 0 0)) => appendImm P dst E sz x
  | _, _ => appendK P dst E sz s x
def builtinK (P : Program) (E0 : List Nat) (dst : Option Nat) (b : Builtin) (argTypes : List Nat) (args : List SV) : M Upd :=
  match b, args with
  | .len, [x] => match argTypes with
    | T :: _ => match P.underlying T with
      | some .string => match x with
        | .d (.str l) => upd dst (.d (.int .i64 l.length))
        | _ => .fail "len of what string"
      | some (.slice _) => sliceLen x fun n => upd dst (.d (.int .i64 n))
      | _ => .fail "len type"
    | [] => .fail "len"
  | .min, [.d (.int k a), .d (.int _ b)] => upd dst (.d (.int k (if b < a then b else a)))
  | .max, [.d (.int k a), .d (.int _ b)] => upd dst (.d (.int k (if b > a then b else a)))
  | .append, [s, x] => match argTypes with
    | [T, T'] => match Nat.beq T T' with
      | true => elemK P T fun E sz => appendE P E0 dst E sz s x
      | false => .fail "append types"
    | _ => .fail "append"
  | .copy, [x, y] => match argTypes with
    | [T, T'] => match Nat.beq T T' with
      | true => elemK P T fun E sz => copyK P dst E sz x y
      | false => .fail "copy types"
    | _ => .fail "copy"
  | _, _ => .fail "builtin"
def cellNames : List SV → List Nat
  | [] => []
  | .osl n _ _ _ :: l => n :: cellNames l
  | _ :: l => cellNames l
def oslNames : List SV → List Nat
  | [] => []
  | .osl n _ _ _ :: l => n :: oslNames l
  | .agg cs :: l => cellNames cs ++ oslNames l
  | .clo _ cs :: l => cellNames cs ++ oslNames l
  | .ifc _ cs :: l => cellNames cs ++ oslNames l
  | _ :: l => oslNames l
def addNs : List Nat → List Nat → List Nat
  | [], acc => acc
  | n :: l, acc => match memN n acc with
    | true => addNs l acc
    | false => addNs l (acc ++ [n])
def closeK : List Nat → List Nat → (List Nat → M Upd) → M Upd
  | [], acc, k => k acc
  | n :: l, acc, k => .own n fun
    | .box cs => closeK l (addNs (cellNames cs) acc) k
    | _ => closeK l acc k
def closeN (ns : List Nat) (k : List Nat → M Upd) : M Upd := closeK ns ns k
def callK (P : Program) (E : List Nat) (dst : Option Nat) (f : FuncId) (args : List SV) : M Upd :=
  match memN (f + 2000000) E with
  | true => closeN (addNs (oslNames args) (addNs (ptrNames args) [])) fun names => .call dst f args names [] []
  | false => lendArgs args fun args ns => match ns with
    | [] => closeN (addNs (ptrNames args) []) fun names => .call dst f args names [] []
    | _ :: _ => match ptrNames args, flatResult P f with
      | [], true => .call dst f args [] ns []
      | names, _ => closeN (addNs names []) fun names => .call dst f args names [] ns
def strBytes (P : Program) (src T : Nat) : Option Nat :=
  match P.underlying src, P.underlying T with
  | some .string, some (.slice e) => match P.underlying e with
    | some (.int .u8) => some e
    | _ => none
  | _, _ => none
def byteRow (l : List UInt8) (i _ : Nat) : D := .int .u8 (l.getD i 0).toNat
def cut3 (P : Program) (dst : Option Nat) (E : Nat) (vs : List SV) (ns : List Nat) (lo hi : Option Int) (mx : SV) : M Upd :=
  match vs, hi, mx with
  | [.d (.list len sz get)], some hi, .d (.int _ m) => match sizeIs P E sz with
    | true => .need (0 ≤ lo.getD 0 ∧ lo.getD 0 ≤ hi ∧ hi ≤ m ∧ m ≤ len) (.ret { dst, v := .d (.list (hi - lo.getD 0).toNat sz fun i j => get ((lo.getD 0).toNat + i) j), own := [], del := [], new := [], pub := ns })
    | false => .fail "slice size"
  | _, _, _ => .fail "full slice of what"
def mapStr (P : Program) (T : Nat) (k : Nat → IntKind → M Upd) : M Upd :=
  match P.underlying T with
  | some (.map K V) => match P.underlying K, P.underlying V with
    | some .string, some (.int i) => k V i
    | _, _ => .fail "map key"
  | _ => .fail "no map"
def zero1 (P : Program) (V : Nat) (k : D → M Upd) : M Upd :=
  match P.info? V with
  | some i => match i.zero with
    | some v => sv1K v fun x => dK x k
    | none => .fail "zero"
  | none => .fail "zero"
def lkV (ok : Bool) (d : D) (b : Bool) : SV :=
  match ok with
  | true => .tup [.d d, .d (.bool b)]
  | false => .d d
def repK (z : List SV) : Nat → (List SV → M Upd) → M Upd
  | 0, k => k []
  | n + 1, k => repK z n fun r => k (z ++ r)
def partEv (p : Nat × Operand) (k : Nat × List SV → M Upd) : M Upd :=
  match p with
  | (i, x) => ev x fun v => cellsK v fun cs => k (i, cs)
def sliceParts (sz : Nat) : List (Nat × List SV) → (List (Nat × List D) → List Nat → M Upd) → M Upd
  | [], k => k [] []
  | (i, cs) :: l, k => lendCells cs fun cs ms => dcells cs fun ds => match Nat.beq ds.length sz with
    | true => sliceParts sz l fun r ns => k ((i, ds) :: r) (ms ++ ns)
    | false => .fail "buildSlice size"
def partsIn (len : Nat) : List (Nat × Operand) → Bool
  | [] => true
  | (i, _) :: l => match Nat.blt i len with
    | true => partsIn len l
    | false => false
def ownLit (dst : Option Nat) (E sz len : Nat) (get : Nat → Nat → D) (ns : List Nat) : M Upd :=
  dstK dst fun d => .ret { dst, v := .osl d sz 0 len, own := [(d, .row E sz len get)], del := [], new := [d], pub := ns }
def opM (P : Program) (G : Nat → Option (Nat × (Nat → D))) (E : List Nat) (dst : Option Nat) (op : Op) : M Upd :=
  match op with
  | .move x | .assign x => ev x (upd dst)
  | .pick c a b => ev c fun
    | .d (.bool t) => .split t (ev a (upd dst)) (ev b (upd dst))
    | _ => .fail "pick"
  | .alloc T => dstK dst fun d => zeroK P T fun z => .ret { dst, v := .ptr d 0, own := [(d, .box z)], del := [], new := [d], pub := [] }
  | .box _ x => dstK dst fun d => ev x fun v => cellsK v fun cs => .ret { dst, v := .ptr d 0, own := [(d, .box cs)], del := [], new := [d], pub := [] }
  | .build T parts => match P.underlying T with
    | some (.struct ⟨fs⟩) => match infos P fs with
      | true => zeroK P T fun z => mapK partEv parts.toList fun ps => buildK P fs ps z fun cs => upd dst (.agg cs)
      | false => .fail "build infos"
    | some (.array _ e) => match sizeIs P e (P.cellsOf e) with
      | true => zeroK P T fun z => mapK partEv parts.toList fun ps => buildAK (P.cellsOf e) ps z fun cs => upd dst (.agg cs)
      | false => .fail "build array"
    | _ => .fail "build"
  | .buildSlice T len parts => elemK P T fun E' sz => zeroK P E' fun z => dcells z fun zd => mapK partEv parts.toList fun ps =>
      match partsIn len parts.toList, Nat.ble (len * sz) 16777216, Nat.blt 0 sz with
      | true, true, true => match memN (T + 3000000) E with
        | true => dstK dst fun d => repK z len fun z0 => buildAK sz ps z0 fun cs => .ret { dst, v := .osl d sz 0 len, own := [(d, .arr sz cs)], del := [], new := [d], pub := [] }
        | false => sliceParts sz ps fun ds ns => match memN (T + 1000000) E with
          | true => ownLit dst E' sz len (tabF (fun _ j => zd.getD j default) ds) ns
          | false => .ret { dst, v := .d (.list len sz (tabF (fun _ j => zd.getD j default) ds)), own := [], del := [], new := [], pub := ns }
      | _, _, _ => .fail "buildSlice"
  | .load T a => ev a fun
    | .ptr n off => .own n fun
      | .box cs => dropK off cs fun cs => partK P T cs (upd dst)
      | _ => .fail "load box"
    | .optr n _ i off => .own n fun
      | .row _ sz len get => .need (i < len) (partD P T (sz - off) (fun j => get i (off + j)) (upd dst))
      | .arr sz cs => dropK (i * sz + off) cs fun cs => partK P T cs (upd dst)
      | _ => .fail "load row"
    | .cptr sz get => partD P T sz get (upd dst)
    | _ => .fail "load"
  | .store T a x => ev a fun
    | .ptr n off => ev x fun v => cellsK v fun new => match sizeIs P T new.length with
      | true => .own n fun
        | .box cs => spliceK off new cs fun cs => .ret { dst, v := .junk, own := [(n, .box cs)], del := [], new := [], pub := [] }
        | _ => .fail "store box"
      | false => .fail "store size"
    | .optr n _ i off => ev x fun v => cellsK v fun new => lendCells new fun new ns => dcells new fun ds => match sizeIs P T ds.length, memN n ns with
      | true, false => .own n fun
        | .row E sz len get => match Nat.ble (off + ds.length) sz with
          | true => .need (i < len) (.ret { dst, v := .junk, own := [(n, .row E sz len fun i' j' => if i' = i then (if j' < off then get i' j' else if j' < off + ds.length then ds.getD (j' - off) default else get i' j') else get i' j')], del := [], new := [], pub := ns })
          | false => .fail "store over the end"
        | _ => .fail "store row"
      | _, _ => .fail "store size"
    | _ => .fail "store"
  | .nilCheck x => ev x fun
    | .ptr n off => upd dst (.ptr n off)
    | .optr n s i off => upd dst (.optr n s i off)
    | .cptr s g => upd dst (.cptr s g)
    | _ => .fail "nilCheck"
  | .binOp op T x y _ => ev x fun a => ev y fun b => binK P E op T a b (upd dst)
  | .unOp op _ x => ev x fun a => unK op a (upd dst)
  | .fieldAddr T x f => ev x fun v => fieldK P T f fun off t => match posSize P t, v with
    | true, .ptr n a => upd dst (.ptr n (a + off))
    | true, .optr n s i a => upd dst (.optr n s i (a + off))
    | true, .cptr s g => upd dst (.cptr (s - off) fun j => g (off + j))
    | _, _ => .fail "fieldAddr"
  | .field T x f => ev x fun v => fieldK P T f fun off t => match v with
    | .agg cs => dropK off cs fun cs => partK P t cs (upd dst)
    | _ => .fail "field"
  | .indexAddr T (.global g) ix => ev ix fun
    | .d (.int _ i) => match G g with
      | some (sz, get) => idxK P T (.cptr sz get) i (upd dst)
      | none => .fail "global"
    | _ => .fail "indexAddr"
  | .indexAddr T x ix => ev x fun v => ev ix fun
    | .d (.int _ i) => idxK P T v i (upd dst)
    | _ => .fail "indexAddr"
  | .index T x ix => ev x fun v => ev ix fun w => match P.underlying T, v, w with
    | some .string, .d (.str l), .d (.int _ i) => .need (0 ≤ i ∧ i < l.length) (upd dst (.d (.int .u8 (l.getD i.toNat 0).toNat)))
    | some (.array n e), .agg cs, .d (.int _ i) => dcells cs fun ds => match Nat.ble (n * P.cellsOf e) ds.length with
      | true => .need (0 ≤ i ∧ i < n) (partD P e (P.cellsOf e) (fun j => ds.getD (i.toNat * P.cellsOf e + j) default) (upd dst))
      | false => .fail "index of what array value"
    | _, _, _ => .fail "index"
  | .extract x i => ev x fun
    | .tup vs => nthK vs i (upd dst)
    | _ => .fail "extract"
  | .convert src T x => match strBytes P src T with
    | some e => dstK dst fun d => ev x fun
      | .d (.str l) => .ret { dst, v := .osl d 1 0 l.length, own := [(d, .row e 1 l.length (byteRow l))], del := [], new := [d], pub := [] }
      | _ => .fail "bytes of what string"
    | none => ev x fun v => convK P src T v (upd dst)
  | .makeSlice T l c => dstK dst fun d => elemK P T fun E sz => match zeroOk P E sz with
    | true => zeroK P E fun z => dcells z fun zd => ev l fun
      | .d (.int _ n) => ev c fun
        | .d (.int _ m) => .need (0 ≤ n ∧ n ≤ m ∧ (P.bytesOf E : Int) * m ≤ 281474976710656 ∧ m ≤ 9223372036854775807)
            (.ret { dst, v := .osl d sz 0 n.toNat, own := [(d, .row E sz n.toNat fun _ j => zd.getD j default)], del := [], new := [d], pub := [] })
        | _ => .fail "make"
      | _ => .fail "make"
    | false => .fail "make element"
  | .slice T x lo hi none => match P.underlying T with
    | some .string => ev x fun
      | .d (.str l) => boundK lo fun lo => boundK hi fun hi => cutStr l lo hi (upd dst)
      | _ => .fail "slice of what string"
    | some (.slice E) => ev x fun v => boundK lo fun lo => boundK hi fun hi => cutSl P E v lo hi (upd dst)
    | _ => .fail "slice"
  | .slice T x lo hi (some mx) => match P.underlying T with
    | some (.slice E) => ev x fun v => lendArgs [v] fun vs ns => boundK lo fun lo => boundK hi fun hi => ev mx fun m => cut3 P dst E vs ns lo hi m
    | _ => .fail "full slice"
  | .makeMap T none => dstK dst fun d => mapStr P T fun _ kd => .ret { dst, v := .mp d, own := [(d, .smap kd fun _ => none)], del := [], new := [d], pub := [] }
  | .mapUpdate T m k x => mapStr P T fun _ _ => ev m fun
    | .mp n => ev k fun
      | .d (.str s) => ev x fun
        | .d (.int i y) => .own n fun
          | .smap kd get => match kEq i kd with
            | true => .ret { dst, v := .junk, own := [(n, .smap kd fun s' => if s' = s then some y else get s')], del := [], new := [], pub := [] }
            | false => .fail "map value"
          | _ => .fail "update of what map"
        | _ => .fail "map value"
      | _ => .fail "map key"
    | _ => .fail "update of what"
  | .lookup T m k ok => mapStr P T fun V _ => ev m fun
    | .mp n => ev k fun
      | .d (.str s) => .own n fun
        | .smap kd get => .split (get s).isSome (upd dst (lkV ok (.int kd ((get s).getD 0)) true)) (zero1 P V fun z => upd dst (lkV ok z false))
        | _ => .fail "lookup in what map"
      | _ => .fail "map key"
    | _ => .fail "lookup in what"
  | .range T x => dstK dst fun d => match P.underlying T with
    | some .string => ev x fun
      | .d (.str l) => .ret { dst, v := .ptr d 0, own := [(d, .iter l 0)], del := [], new := [d], pub := [] }
      | _ => .fail "range of what"
    | _ => .fail "range"
  | .next it true => ev it fun
    | .ptr n 0 => .own n fun
      | .iter s pos => .split (Nat.blt pos s.length)
          (.ret { dst, v := .tup [.d (.bool true), .d (.int .i64 pos), .d (.int .i32 (runeAt s pos).1)], own := [(n, .iter s (pos + (runeAt s pos).2))], del := [], new := [], pub := [] })
          (upd dst (.tup [.d (.bool false)]))
      | _ => .fail "next of what"
    | _ => .fail "next"
  | .makeFunc (.func f) ⟨[]⟩ ⟨caps⟩ => evs caps fun cs => upd dst (.clo f cs)
  | .makeInterface T x => match P.concrete T with
    | true => ev x fun v => upd dst (.ifc T [v])
    | false => .fail "interface"
  | .call c => match c with
    | ⟨.builtin b, ⟨args⟩, ⟨argTypes⟩⟩ => evs args fun args => builtinK P E dst b argTypes args
    | ⟨.value (.func f), ⟨args⟩, _⟩ => evs args fun args => callK P E dst f args
    | ⟨.value x, ⟨args⟩, _⟩ => evs args fun args => ev x fun
      | .clo f caps => callK P E dst f (args ++ caps)
      | _ => .fail "call of what"
    | _ => .fail "invoke"
  | _ => .fail "operation"
def disjN : List Nat → List Nat → Bool
  | [], _ => true
  | n :: l, m => match memN n m with
    | true => false
    | false => disjN l m
def famN : Nat := 900000
def fcS (fn : Nat) : FC → SV
  | .d x => .d x
  | .fs k sz l => .fsl fn k sz l
def getiF (fn : Nat) (get : Nat → FC) : Nat → Nat → (List SV → M Upd) → M Upd
  | _, 0, k => k []
  | j, n + 1, k => getiF fn get (j + 1) n fun r => k (fcS fn (get j) :: r)
def partF (P : Program) (T sz fn : Nat) (get : Nat → FC) (k : SV → M Upd) : M Upd :=
  match P.underlying T with
  | none => .fail "type"
  | some d => match isAggD d with
    | true => match Nat.ble (P.cellsOf T) sz with
      | true => getiF fn get 0 (P.cellsOf T) fun l => k (.agg l)
      | false => .fail "size"
    | false => match Nat.ble 1 sz with
      | true => k (fcS fn (get 0))
      | false => .fail "size"
def rowGet (rows : Nat → Option FRow) (k i j : Nat) : D :=
  match rows k with
  | some r => r.get i j
  | none => default
def putR (rows : Nat → Option FRow) (k : Nat) (r : Option FRow) : Nat → Option FRow := fun i => if i = k then r else rows i
def fcD (rows : Nat → Option FRow) : FC → D
  | .d x => x
  | .fs k sz l => .list l sz (rowGet rows k)
def FOk (rows : Nat → Option FRow) : FC → Prop
  | .d _ => True
  | .fs k sz l => ∃ r, rows k = some r ∧ r.sz = sz ∧ l ≤ r.len
def absK (fn : Nat) : List SV → Nat → (Nat → Option FRow) → (List FC → Nat → (Nat → Option FRow) → List Nat → M Upd) → M Upd
  | [], nk, rows, k => k [] nk rows []
  | .d x :: l, nk, rows, k => absK fn l nk rows fun r nk rows ns => k (.d x :: r) nk rows ns
  | .fsl m i sz len :: l, nk, rows, k => match Nat.beq m fn with
    | true => absK fn l nk rows fun r nk rows ns => k (.fs i sz len :: r) nk rows ns
    | false => .fail "a cell of another family"
  | .osl m sz 0 len :: l, nk, rows, k => .own m fun
    | .row E s L get => match Nat.beq s sz with
      | true => absK fn l (nk + 1) (putR rows nk (some ⟨E, s, L, get⟩)) fun r nk' rows' ns => match memN m ns with
        | true => .fail "a slice twice"
        | false => k (.fs nk sz len :: r) nk' rows' (m :: ns)
      | false => .fail "size of a slice"
    | _ => .fail "a cell of what row"
  | _, _, _, _ => .fail "a cell of what"
def famK (fn : Nat) (k : Nat → (Nat → Option FRow) → M Upd) : M Upd :=
  .own fn fun
    | .fam nk rows => k nk rows
    | _ => .fail "no family"
def lend1 (x : SV) (k : SV → List Nat → M Upd) : M Upd :=
  match x with
  | .osl n _ off len => .own n fun
    | .row _ sz _ get => k (.d (.list len sz fun i j => get (off + i) j)) [n]
    | .frow fn _ sz _ get => famK fn fun _ rows => .need (∀ i j, i < len → j < sz → FOk rows (get (off + i) j)) (k (.d (.list len sz fun i j => fcD rows (get (off + i) j))) [n, fn])
    | _ => .fail "lend"
  | .fsl fn i sz l => famK fn fun _ rows => .need (FOk rows (.fs i sz l)) (k (.d (.list l sz (rowGet rows i))) [fn])
  | x => k x []
def lendFC : List SV → (List SV → List Nat → M Upd) → M Upd
  | [], k => k [] []
  | x :: l, k => lend1 x fun y ns => lendFC l fun r ms => k (y :: r) (ns ++ ms)
def lendFA : List SV → (List SV → List Nat → M Upd) → M Upd
  | [], k => k [] []
  | .agg cs :: l, k => lendFC cs fun ds ns => lendFA l fun r ms => k (.agg ds :: r) (ns ++ ms)
  | x :: l, k => lend1 x fun y ns => lendFA l fun r ms => k (y :: r) (ns ++ ms)
def callF (P : Program) (E : List Nat) (dst : Option Nat) (f : FuncId) (args : List SV) : M Upd :=
  match memN (f + 2000000) E, memN (f + 8000000) E with
  | false, false => lendFA args fun ds ns => match ns with
    | [] => callK P E dst f args
    | _ :: _ => closeN (addNs (ptrNames args) []) fun names => match disjN names ns with
      | true => .call dst f ds names ns []
      | false => .fail "lent and handed on"
  | false, true => lendFA args fun ds ns => match ns with
    | [] => callK P E dst f args
    | _ :: _ => closeN (addNs (ptrNames args) []) fun names => .call dst f ds names [] ns
  | _, _ => callK P E dst f args
def insGet (get : Nat → Nat → D) (i : Nat) (x : D) : Nat → Nat → D := fun a j => if a < i then get a j else if a = i then x else get (a - 1) j
def insK (P : Program) (dst : Option Nat) (f : FuncId) (args : List SV) : M Upd :=
  match args with
  | [.osl n s 0 len, .d (.int .i64 i), .osl m t 0 l] => match Nat.beq s 1, Nat.beq t 1, Nat.beq l 1, Nat.beq n m with
    | true, true, true, false => dstK dst fun d => .own n fun
      | .row E' s' len' get => .own m fun
        | .arr 1 [.d x] => match Nat.beq s' 1 with
          | true => .need (InsOk P f E' ∧ 0 ≤ i ∧ i ≤ len ∧ len = len' ∧ (len + 1) * 8 ≤ 140737488355328)
            (.ret { dst, v := .osl d 1 0 (len + 1), own := [(d, .row E' 1 (len + 1) (insGet get i.toNat x))], del := [n], new := [d], pub := [] })
          | false => .fail "insert size"
        | _ => .fail "insert of what"
      | _ => .fail "insert into what row"
    | _, _, _, _ => .fail "insert"
  | _ => .fail "insert"
def insOr (P : Program) (E : List Nat) (dst : Option Nat) (f : FuncId) (args : List SV) : M Upd :=
  match memN (f + 9000000) E with
  | true => insK P dst f args
  | false => callF P E dst f args
def litF (P : Program) (dst : Option Nat) (T : Nat) (parts : List (Nat × Operand)) : M Upd :=
  match parts with
  | [(0, x)] => dstK dst fun d => elemK P T fun E sz => zeroK P E fun z => dcells z fun _ => ev x fun v => cellsK v fun cs => match Nat.beq cs.length sz, Nat.blt 0 sz, Nat.ble sz 16777216 with
    | true, true, true => famK famN fun nk rows => absK famN cs nk rows fun fcs nk rows ns =>
      .ret { dst, v := .osl d sz 0 1, own := [(famN, .fam nk rows), (d, .frow famN E sz 1 fun _ j => fcs.getD j default)], del := famN :: ns, new := [d], pub := [] }
    | _, _, _ => .fail "literal size"
  | _ => .fail "literal of what"
def isNilV : SV → Bool
  | .d (.val (.slice none 0 0)) => true
  | _ => false
def srcF (fn sz : Nat) (n : Nat) (x : SV) (k : Nat → (Nat → Nat → FC) → M Upd) : M Upd :=
  match x with
  | .d (.list m s get) => match Nat.beq s sz with
    | true => k m fun i j => .d (get i j)
    | false => .fail "append size"
  | .osl m s off l => .own m fun
    | .frow fn' _ _ _ get => match Nat.beq fn' fn, Nat.beq s sz, Nat.beq m n with
      | true, true, false => k l fun i j => get (off + i) j
      | _, _, _ => .fail "append size"
    | .row _ _ _ get => match Nat.beq s sz, Nat.beq m n with
      | true, false => k l fun i j => .d (get (off + i) j)
      | _, _ => .fail "append size"
    | _ => .fail "append of what row"
  | _ => .fail "append of what"
def appendFr (P : Program) (dst : Option Nat) (E sz : Nat) (n len : Nat) (fn E' s L : Nat) (get : Nat → Nat → FC) (x : SV) : M Upd :=
  dstK dst fun d => match zeroOk P E sz, Nat.beq s sz, Nat.beq E E' with
  | true, true, true => srcF fn sz n x fun m g2 =>
    .need (len = L ∧ (len + m) * P.bytesOf E ≤ 140737488355328 ∧ len + m ≤ 9223372036854775807)
      (.ret { dst, v := .osl d sz 0 (len + m), own := [(d, .frow fn E sz (len + m) fun i j => if i < len then get i j else g2 (i - len) j)], del := [n], new := [d], pub := [] })
  | _, _, _ => .fail "append type"
def appendFs (P : Program) (dst : Option Nat) (E sz : Nat) (fn i len : Nat) (x : SV) : M Upd :=
  dstK dst fun d => match zeroOk P E sz with
  | true => famK fn fun nk rows => srcK sz x fun m g2 =>
    .need ((∃ r, rows i = some r ∧ r.E = E ∧ r.sz = sz ∧ r.len = len) ∧ (len + m) * P.bytesOf E ≤ 140737488355328 ∧ len + m ≤ 9223372036854775807)
      (.ret { dst, v := .osl d sz 0 (len + m), own := [(fn, .fam nk (putR rows i none)), (d, .row E sz (len + m) fun a j => if a < len then rowGet rows i a j else g2 (a - len) j)], del := [fn, d + 500000], new := [d + 500000, d], pub := [] })
  | false => .fail "append type"
def appendX (P : Program) (G : Nat → Option (Nat × (Nat → D))) (E0 : List Nat) (dst : Option Nat) (op : Op) (s x : Operand) (T T' : Nat) : M Upd :=
  ev s fun sv => match sv with
  | .fsl fn i _ len => match Nat.beq T T' with
    | true => ev x fun xv => elemK P T fun E sz => appendFs P dst E sz fn i len xv
    | false => .fail "append types"
  | .osl n _ 0 len => .own n fun
    | .frow fn E' s L get => match Nat.beq T T' with
      | true => ev x fun xv => elemK P T fun E sz => appendFr P dst E sz n len fn E' s L get xv
      | false => .fail "append types"
    | _ => opM P G E0 dst op
  | _ => match isNilV sv with
    | true => ev x fun
      | .osl m s 0 l => .own m fun
        | .frow fn E' s' L get => match Nat.beq T T' with
          | true => elemK P T fun E sz => dstK dst fun d => match zeroOk P E sz, Nat.beq s sz, Nat.beq s' sz with
            | true, true, true => .need (l * P.bytesOf E ≤ 140737488355328 ∧ l ≤ 9223372036854775807)
              (.ret { dst, v := .osl d sz 0 l, own := [(d, .frow fn E sz l get)], del := [], new := [d], pub := [] })
            | _, _, _ => .fail "append type"
          | false => .fail "append types"
        | _ => opM P G E0 dst op
      | _ => opM P G E0 dst op
    | false => opM P G E0 dst op
def kindsF (P : Program) : List Field → Nat → (List IntKind → M Upd) → M Upd
  | [], _, k => k []
  | ⟨name, t, o, _, _, _, _⟩ :: fs, off, k => match P.underlying t, name == "_", Nat.beq o off with
    | some (.int i), false, true => kindsF P fs (off + 1) fun r => k (i :: r)
    | _, _, _ => .fail "map key"
def mapG (P : Program) (E : List Nat) (T : Nat) (k : Bool → List IntKind → Nat → Bool → Nat → M Upd) : M Upd :=
  match P.underlying T with
  | some (.map K V) => match P.underlying V with
    | some dv => match P.underlying K with
      | some (.int i) => k false [i] V (isAggD dv) (P.cellsOf V)
      | some (.struct ⟨fs⟩) => match memN K E with
        | true => kindsF P fs 0 fun kk => k true kk V (isAggD dv) (P.cellsOf V)
        | false => .fail "map key type"
      | _ => .fail "map key"
    | none => .fail "map value"
  | _ => .fail "no map"
def intsK : List IntKind → List SV → (List Int → M Upd) → M Upd
  | [], [], k => k []
  | i :: kk, .d (.int j n) :: l, k => match kEq i j with
    | true => intsK kk l fun r => k (n :: r)
    | false => .fail "map key"
  | _, _, _ => .fail "map key"
def keyK (ka : Bool) (kk : List IntKind) (x : SV) (k : List Int → M Upd) : M Upd :=
  match ka, x with
  | true, .agg cs => intsK kk cs k
  | false, .d (.int i n) => intsK kk [.d (.int i n)] k
  | _, _ => .fail "map key"
def mapVal (va : Bool) (cs : List SV) (k : SV → M Upd) : M Upd :=
  match va, cs with
  | true, cs => k (.agg cs)
  | false, [x] => k x
  | _, _ => .fail "map value"
def zeroG (P : Program) (V : Nat) (va : Bool) (k : SV → M Upd) : M Upd :=
  match P.info? V with
  | some i => match va, i.zero with
    | true, some (.agg ⟨cs⟩) => mapK sv1K cs fun l => k (.agg l)
    | false, some v => sv1K v k
    | _, _ => .fail "zero"
  | none => .fail "zero"
def aggOk : Bool → SV → Bool
  | true, .agg _ => true
  | true, _ => false
  | false, .agg _ => false
  | false, _ => true
def okV (ok : Bool) (v : SV) (b : Bool) : SV :=
  match ok with
  | true => .tup [v, .d (.bool b)]
  | false => v
def isSlT (P : Program) (T : Nat) : Bool :=
  match P.underlying T with
  | some (.slice _) => true
  | _ => false
def eqNil : SV → SV → Option Bool
  | .d (.val (.slice none _ _)), .d (.val (.slice none 0 0)) => some true
  | .d (.nl _ _ _), .d (.val (.slice none 0 0)) => some false
  | _, _ => none
def useF (E : List Nat) : Bool := memN 7000000 E
def opX (P : Program) (G : Nat → Option (Nat × (Nat → D))) (E : List Nat) (dst : Option Nat) (op : Op) : M Upd :=
  match useF E with
  | false => opM P G E dst op
  | true => match op with
    | .buildSlice T len ⟨parts⟩ => match memN (T + 6000000) E, Nat.beq len 1 with
      | true, true => litF P dst T parts
      | _, _ => match parts with
        | [] => opM P G ((T + 1000000) :: E) dst (.buildSlice T len ⟨[]⟩)
        | p :: ps => opM P G E dst (.buildSlice T len ⟨p :: ps⟩)
    | .load T a => ev a fun
      | .optr n _ i off => .own n fun
        | .frow fn _ sz len get => .need (i < len) (partF P T (sz - off) fn (fun j => get i (off + j)) (upd dst))
        | _ => opM P G E dst (.load T a)
      | _ => opM P G E dst (.load T a)
    | .store T a x => ev a fun
      | .fptr n kk sz i off => ev x fun v => cellsK v fun new => dcells new fun ds => match sizeIs P T ds.length, Nat.ble (off + ds.length) sz with
        | true, true => famK n fun nk rows => .need (∃ r, rows kk = some r ∧ r.sz = sz ∧ i < r.len) (.ret { dst, v := .junk, own := [(n, .fam nk fun k => if k = kk then (rows kk).map fun r => { r with get := fun i' j' => if i' = i then (if j' < off then r.get i' j' else if j' < off + ds.length then ds.getD (j' - off) default else r.get i' j') else r.get i' j' } else rows k)], del := [], new := [], pub := [] })
        | _, _ => .fail "store size"
      | .optr n _ i off => .own n fun
        | .frow fn E' sz len get => ev x fun v => cellsK v fun new => famK fn fun nk rows => absK fn new nk rows fun fcs nk rows ns => match sizeIs P T fcs.length, Nat.ble (off + fcs.length) sz with
          | true, true => .need (i < len) (.ret { dst, v := .junk, own := [(fn, .fam nk rows), (n, .frow fn E' sz len fun i' j' => if i' = i then (if j' < off then get i' j' else if j' < off + fcs.length then fcs.getD (j' - off) default else get i' j') else get i' j')], del := fn :: ns, new := [], pub := [] })
          | _, _ => .fail "store size"
        | _ => opM P G E dst (.store T a x)
      | _ => opM P G E dst (.store T a x)
    | .nilCheck x => ev x fun
      | .fptr n k s i o => upd dst (.fptr n k s i o)
      | _ => opM P G E dst (.nilCheck x)
    | .fieldAddr T x f => ev x fun
      | .fptr n k s i o => fieldK P T f fun off t => match posSize P t with
        | true => upd dst (.fptr n k s i (o + off))
        | false => .fail "fieldAddr"
      | _ => opM P G E dst (.fieldAddr T x f)
    | .indexAddr T (.tmp x) ix => ev (.tmp x) fun
      | .fsl n k sz l => ev ix fun
        | .d (.int _ i) => match P.underlying T with
          | some (.slice E') => match sizeIs P E' sz with
            | true => .need (0 ≤ i ∧ i < l) (upd dst (.fptr n k sz i.toNat 0))
            | false => .fail "index size"
          | _ => .fail "index type"
        | _ => .fail "indexAddr"
      | _ => opM P G E dst (.indexAddr T (.tmp x) ix)
    | .binOp .eql T x y t => ev x fun a => ev y fun b => match isSlT P T, eqNil a b with
      | true, some r => upd dst (.d (.bool r))
      | _, _ => opM P G E dst (.binOp .eql T x y t)
    | .makeMap T none => match memN (T + 6000000) E with
      | true => dstK dst fun d => famK famN fun _ _ => mapG P E T fun ka kk _ va sz => .ret { dst, v := .mp d, own := [(d, .gmap famN ka kk va sz (fun _ => false) fun _ _ => default)], del := [], new := [d], pub := [] }
      | false => opM P G E dst (.makeMap T none)
    | .mapUpdate T m k x => ev m fun
      | .mp n => .own n fun
        | .gmap fn ka kk va sz has get => ev k fun kv => keyK ka kk kv fun ks => ev x fun v => cellsK v fun new => famK fn fun nk rows => absK fn new nk rows fun fcs nk rows ns => match Nat.beq fcs.length sz, aggOk va v with
          | true, true => mapG P E T fun ka' kk' _ va' sz' => .need (ka = ka' ∧ kk = kk' ∧ va = va' ∧ sz = sz') (.ret { dst, v := .junk, own := [(fn, .fam nk rows), (n, .gmap fn ka kk va sz (fun q => q == ks || has q) fun q j => if q = ks then fcs.getD j default else get q j)], del := fn :: ns, new := [], pub := [] })
          | _, _ => .fail "map value"
        | _ => opM P G E dst (.mapUpdate T m k x)
      | _ => opM P G E dst (.mapUpdate T m k x)
    | .lookup T m k ok => ev m fun
      | .mp n => .own n fun
        | .gmap fn ka kk va sz has get => ev k fun kv => keyK ka kk kv fun ks => mapG P E T fun ka' kk' V va' sz' => .need (ka = ka' ∧ kk = kk' ∧ va = va' ∧ sz = sz') (.split (has ks)
            (getiF fn (get ks) 0 sz fun cs => mapVal va cs fun v => upd dst (okV ok v true))
            (zeroG P V va fun v => upd dst (okV ok v false)))
        | _ => opM P G E dst (.lookup T m k ok)
      | _ => opM P G E dst (.lookup T m k ok)
    | .call c => match c with
      | ⟨.builtin .len, ⟨[x]⟩, ⟨[T]⟩⟩ => ev x fun
        | .fsl _ _ _ l => match P.underlying T with
          | some (.slice _) => upd dst (.d (.int .i64 l))
          | _ => .fail "len type"
        | _ => opM P G E dst (.call ⟨.builtin .len, ⟨[x]⟩, ⟨[T]⟩⟩)
      | ⟨.builtin .append, ⟨[s, x]⟩, ⟨[T, T']⟩⟩ => appendX P G E dst (.call ⟨.builtin .append, ⟨[s, x]⟩, ⟨[T, T']⟩⟩) s x T T'
      | ⟨.value (.func f), ⟨args⟩, _⟩ => evs args fun args => insOr P E dst f args
      | ⟨.value (.tmp x), ⟨args⟩, _⟩ => evs args fun args => ev (.tmp x) fun
        | .clo f caps => callF P E dst f (args ++ caps)
        | _ => .fail "call of what"
      | c => opM P G E dst (.call c)
    | op => opM P G E dst op
structure Stuck (why : String) : Prop where
  out : False
def look : List (Nat × SV) → Nat → Option SV
  | [], _ => none
  | (i, v) :: l, k => match Nat.beq i k with
    | true => some v
    | false => look l k
def lookO : List (Nat × Blk) → Nat → Option Blk
  | [], _ => none
  | (i, v) :: l, k => match Nat.beq i k with
    | true => some v
    | false => lookO l k
def delO : List (Nat × Blk) → Nat → (List (Nat × Blk) → Prop) → Prop
  | [], _, k => k []
  | (i, v) :: l, n, k => match Nat.beq i n with
    | true => delO l n k
    | false => delO l n fun r => k ((i, v) :: r)
def delsO (l : List (Nat × Blk)) : List Nat → (List (Nat × Blk) → Prop) → Prop
  | [], k => k l
  | n :: ns, k => delO l n fun l => delsO l ns k
def setsO (l : List (Nat × Blk)) : List (Nat × Blk) → (List (Nat × Blk) → Prop) → Prop
  | [], k => k l
  | (n, b) :: ns, k => delO l n fun l => setsO ((n, b) :: l) ns k
def delS : List (Nat × SV) → Nat → (List (Nat × SV) → Prop) → Prop
  | [], _, k => k []
  | (i, v) :: l, n, k => match Nat.beq i n with
    | true => delS l n k
    | false => delS l n fun r => k ((i, v) :: r)
structure Need (p X : Prop) : Prop where
  h : p
  k : X
theorem need_intro {p X : Prop} (k : X) (h : p) : Need p X := ⟨h, k⟩
def pubCells (n : Nat) (sz : Nat) (get : Nat → Nat → D) : List SV → (List SV → Prop) → Prop
  | [], k => k []
  | .osl m s off len :: l, k => match Nat.beq m n with
    | true => pubCells n sz get l fun r => k (.d (.list len sz fun i j => get (off + i) j) :: r)
    | false => pubCells n sz get l fun r => k (.osl m s off len :: r)
  | x :: l, k => pubCells n sz get l fun r => k (x :: r)
def pubSV (n : Nat) (sz : Nat) (get : Nat → Nat → D) : SV → (SV → Prop) → Prop
  | .osl m s off len, k => match Nat.beq m n with
    | true => k (.d (.list len sz fun i j => get (off + i) j))
    | false => k (.osl m s off len)
  | .agg cs, k => pubCells n sz get cs fun r => k (.agg r)
  | .tup cs, k => pubCells n sz get cs fun r => k (.tup r)
  | x, k => k x
def pubS (n : Nat) (sz : Nat) (get : Nat → Nat → D) : List (Nat × SV) → (List (Nat × SV) → Prop) → Prop
  | [], k => k []
  | (i, v) :: l, k => pubSV n sz get v fun v => pubS n sz get l fun r => k ((i, v) :: r)
def pubO (n : Nat) (sz : Nat) (get : Nat → Nat → D) : List (Nat × Blk) → (List (Nat × Blk) → Prop) → Prop
  | [], k => k []
  | (i, .box cs) :: l, k => match Nat.beq i n with
    | true => pubO n sz get l k
    | false => pubCells n sz get cs fun cs => pubO n sz get l fun r => k ((i, .box cs) :: r)
  | (i, .arr s cs) :: l, k => match Nat.beq i n with
    | true => pubO n sz get l k
    | false => pubCells n sz get cs fun cs => pubO n sz get l fun r => k ((i, .arr s cs) :: r)
  | (i, b) :: l, k => match Nat.beq i n with
    | true => pubO n sz get l k
    | false => pubO n sz get l fun r => k ((i, b) :: r)
def pubs (n0 : List Nat) : List Nat → List (Nat × SV) → List (Nat × Blk) → (List (Nat × SV) → List (Nat × Blk) → Prop) → Prop
  | [], s, o, k => k s o
  | n :: ns, s, o, k => match memN n n0 with
    | true => Stuck "a caller's row published"
    | false => match lookO o n with
      | some (.row _ sz _ get) => pubS n sz get s fun s => pubO n sz get o fun o => pubs n0 ns s o k
      | some (.frow fn _ sz len get) => match memN fn n0 with
        | true => Stuck "a caller's family published"
        | false => match lookO o fn with
          | some (.fam _ rows) => Need (∀ i j, i < len → j < sz → FOk rows (get i j)) (pubS n sz (fun i j => fcD rows (get i j)) s fun s => pubO n sz (fun i j => fcD rows (get i j)) o fun o => delO o fn fun o => pubs n0 ns s o k)
          | _ => Stuck "publish"
      | some _ => Stuck "publish"
      | none => pubs n0 ns s o k
def freshK : List Nat → List Nat → (List Nat → Prop) → Prop
  | [], nm, k => k nm
  | n :: ns, nm, k => match memN n nm with
    | true => Stuck "name"
    | false => freshK ns (n :: nm) k
def stayK (del n0 : List Nat) (X : Prop) : Prop :=
  match disjN del n0 with
  | true => X
  | false => Stuck "a caller's row goes"
def applyK : Upd → St → (St → Prop) → Prop
  | ⟨dst, v, own, del, new, pub⟩, ⟨s, o, nm, n0⟩, K => pubs n0 pub s o fun s o => stayK del n0 (delsO o del fun o => setsO o own fun o => freshK new nm fun nm =>
    match dst with
    | some d => delS s d fun s => K ⟨(d, v) :: s, o, nm, n0⟩
    | none => K ⟨s, o, nm, n0⟩)
def bc (b : Bool) (X Y : Prop) : Prop := match b with | true => X | false => Y
theorem bc_intro {b : Bool} {X Y : Prop} (h1 : b = true → X) (h2 : b = false → Y) : bc b X Y := by
  cases b
  · exact h2 rfl
  · exact h1 rfl
def flatD : D → Bool
  | .list _ _ _ => false
  | .nl _ _ _ => false
  | _ => true
def flatF : FC → Bool
  | .d x => flatD x
  | .fs _ _ _ => true
mutual
def flatR : SV → Bool
  | .d x => flatD x
  | .cptr _ _ => false
  | .agg cs => flatRL cs
  | .tup cs => flatRL cs
  | .clo _ cs => flatRL cs
  | .ifc _ cs => flatRL cs
  | _ => true
def flatRL : List SV → Bool
  | [] => true
  | c :: cs => match flatR c with
    | true => flatRL cs
    | false => false
end
def FlatB : Blk → Prop
  | .box cs => flatRL cs = true
  | .row _ sz len get => ∀ i j, i < len → j < sz → flatD (get i j) = true
  | .iter _ _ => True
  | .smap _ _ => True
  | .arr _ cs => flatRL cs = true
  | .fam _ rows => ∀ k r, rows k = some r → ∀ i j, i < r.len → j < r.sz → flatD (r.get i j) = true
  | .frow _ _ sz len get => ∀ i j, i < len → j < sz → flatF (get i j) = true
  | .gmap _ _ _ _ sz has get => ∀ k j, has k = true → j < sz → flatF (get k j) = true
def FlatPost : List (Nat × Blk) → Prop
  | [] => True
  | (_, b) :: l => FlatB b ∧ FlatPost l
end Go.Sx
