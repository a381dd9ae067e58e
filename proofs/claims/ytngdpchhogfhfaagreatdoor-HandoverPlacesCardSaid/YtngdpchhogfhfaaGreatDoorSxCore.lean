/- Part of a symbolic executor over the model, proved sound, with plain laws: SxCore. Written for these claims. -/
import Derived.WalkKit
set_option linter.unusedVariables false
set_option linter.unusedSimpArgs false
namespace Go.Sx
open Go
theorem or_map {a b c d : Prop} (h : a ∨ b) (f : a → c) (g : b → d) : c ∨ d := h.elim (fun x => .inl (f x)) (fun x => .inr (g x))
/-- Immutable data: the content of a cell. -/
inductive D where
  | int (k : IntKind) (n : Int)
  | bool (b : Bool)
  | str (l : List UInt8)
  | val (x : Value)
  | list (len sz : Nat) (get : Nat → Nat → D)
instance : Inhabited D := ⟨.bool false⟩
/-- Symbolic values: plain data; pointers to own blocks (by name) and to rows of own blocks; slices of own rows; pointers to immutable cells; structs; tuples; closures; own maps. -/
inductive SV where
  | d (x : D)
  | ptr (n off : Nat)
  | optr (n sz i off : Nat)
  | osl (n sz off len : Nat)
  | cptr (sz : Nat) (get : Nat → D)
  | agg (cs : List SV)
  | tup (vs : List SV)
  | clo (f : FuncId) (caps : List SV)
  | mp (n : Nat)
  | junk
instance : Inhabited SV := ⟨.junk⟩
inductive Blk where
  | box (cs : List SV)
  | row (E sz len : Nat) (get : Nat → Nat → D)
  | iter (s : List UInt8) (pos : Nat)
  | smap (kd : IntKind) (get : List UInt8 → Option Int)
  | arr (sz : Nat) (cs : List SV)
structure St where
  s : List (Nat × SV)
  o : List (Nat × Blk)
  nm : List Nat
  n0 : List Nat
structure Upd where
  dst : Option Nat
  v : SV
  own : List (Nat × Blk)
  del : List Nat
  new : List Nat
  pub : List Nat
inductive M (α : Type) where
  | ret (a : α)
  | slot (k : Nat) (f : SV → M α)
  | own (n : Nat) (f : Blk → M α)
  | need (p : Prop) (m : M α)
  | split (b : Bool) (x y : M α)
  | call (dst : Option Nat) (f : FuncId) (args : List SV) (names bor pub : List Nat)
  | fail (why : String)
section pieces
variable {α : Type}
def nthK : List SV → Nat → (SV → M α) → M α
  | [], _, _ => .fail "nth"
  | x :: _, 0, k => k x
  | _ :: xs, n + 1, k => nthK xs n k
def dropK : Nat → List SV → (List SV → M α) → M α
  | 0, l, k => k l
  | _ + 1, [], _ => .fail "drop"
  | n + 1, _ :: l, k => dropK n l k
def takeK : Nat → List SV → (List SV → M α) → M α
  | 0, _, k => k []
  | _ + 1, [], _ => .fail "take"
  | n + 1, x :: l, k => takeK n l fun r => k (x :: r)
/-- put 'new' over the head of the list -/
def overK : List SV → List SV → (List SV → M α) → M α
  | [], l, k => k l
  | _ :: _, [], _ => .fail "over"
  | y :: new, _ :: l, k => overK new l fun r => k (y :: r)
def spliceK : Nat → List SV → List SV → (List SV → M α) → M α
  | 0, new, l, k => overK new l k
  | _ + 1, _, [], _ => .fail "splice"
  | n + 1, new, x :: l, k => spliceK n new l fun r => k (x :: r)
def mapK {γ δ : Type} (f : γ → (δ → M α) → M α) : List γ → (List δ → M α) → M α
  | [], k => k []
  | x :: l, k => f x fun y => mapK f l fun r => k (y :: r)
def sv1K : Value → (SV → M α) → M α
  | .int i n, k => k (.d (.int i n))
  | .bool b, k => k (.d (.bool b))
  | .string ⟨⟨l⟩⟩, k => k (.d (.str l))
  | .pointer none, k => k (.d (.val (.pointer none)))
  | .slice none 0 0, k => k (.d (.val (.slice none 0 0)))
  | .nilFunc, k => k (.d (.val .nilFunc))
  | _, _ => .fail "constant"
def svK : Value → (SV → M α) → M α
  | .agg ⟨cs⟩, k => mapK sv1K cs fun l => k (.agg l)
  | v, k => sv1K v k
def cellsK : SV → (List SV → M α) → M α
  | .agg cs, k => k cs
  | .d x, k => k [.d x]
  | .ptr n o, k => k [.ptr n o]
  | .optr n s i o, k => k [.optr n s i o]
  | .osl n s o l, k => k [.osl n s o l]
  | .cptr s g, k => k [.cptr s g]
  | .clo f cs, k => k [.clo f cs]
  | _, _ => .fail "cells"
def ev (x : Operand) (k : SV → M α) : M α :=
  match x with
  | .tmp t => .slot t k
  | .const v => svK v k
  | .global _ => .fail "global"
  | .func f => k (.clo f [])
def evs : List Operand → (List SV → M α) → M α := mapK ev
def kEq : IntKind → IntKind → Bool
  | .i8, .i8 | .i16, .i16 | .i32, .i32 | .i64, .i64 | .u8, .u8 | .u16, .u16 | .u32, .u32 | .u64, .u64 => true
  | _, _ => false
def memN : Nat → List Nat → Bool
  | _, [] => false
  | n, m :: l => match Nat.beq n m with
    | true => true
    | false => memN n l
def isAggD : TypeDesc → Bool
  | .struct _ | .array _ _ => true
  | _ => false
/-- the value of type T whose cells open the list -/
def partK (P : Program) (T : Nat) (cs : List SV) (k : SV → M α) : M α :=
  match P.underlying T with
  | none => .fail "type"
  | some d => match isAggD d with
    | true => takeK (P.cellsOf T) cs fun l => k (.agg l)
    | false => nthK cs 0 k
def getiK (get : Nat → D) : Nat → Nat → (List SV → M α) → M α
  | _, 0, k => k []
  | j, n + 1, k => getiK get (j + 1) n fun r => k (.d (get j) :: r)
def partD (P : Program) (T sz : Nat) (get : Nat → D) (k : SV → M α) : M α :=
  match P.underlying T with
  | none => .fail "type"
  | some d => match isAggD d with
    | true => match Nat.ble (P.cellsOf T) sz with
      | true => getiK get 0 (P.cellsOf T) fun l => k (.agg l)
      | false => .fail "size"
    | false => match Nat.ble 1 sz with
      | true => k (.d (get 0))
      | false => .fail "size"
def zeroK (P : Program) (T : Nat) (k : List SV → M α) : M α :=
  match P.info? T with
  | some i => match i.zero with
    | some (.agg ⟨cs⟩) => match Nat.beq cs.length i.size with
      | true => mapK sv1K cs k
      | false => .fail "zero"
    | some v => match Nat.beq 1 i.size with
      | true => sv1K v fun x => k [x]
      | false => .fail "zero"
    | none => .fail "zero"
  | none => .fail "zero"
def nthF : List Field → Nat → (Nat → Nat → M α) → M α
  | [], _, _ => .fail "field"
  | ⟨_, t, o, _, _, _, _⟩ :: _, 0, k => k o t
  | _ :: l, n + 1, k => nthF l n k
def sizeIs (P : Program) (T n : Nat) : Bool :=
  match P.info? T with
  | some i => Nat.beq n i.size
  | none => false
def posSize (P : Program) (T : Nat) : Bool :=
  match P.info? T with
  | some i => match i.size with
    | 0 => false
    | _ + 1 => true
  | none => false
def fieldK (P : Program) (T f : Nat) (k : Nat → Nat → M α) : M α :=
  match P.underlying T with
  | some (.struct ⟨fs⟩) => nthF fs f k
  | _ => .fail "no struct"
def elemK (P : Program) (T : Nat) (k : Nat → Nat → M α) : M α :=
  match P.underlying T with
  | some (.slice E) => k E (P.cellsOf E)
  | _ => .fail "no slice type"
def shiftK (op : BinOp) (k : IntKind) (a b : Int) (r : D → M α) : M α :=
  match op with
  | .shl => .need (0 ≤ b) (r (.int k (k.wrap (a * 2 ^ (min b.toNat k.bits)))))
  | .shr => .need (0 ≤ b) (r (.int k (a.fdiv (2 ^ (min b.toNat k.bits)))))
  | _ => .fail "int op"
def intOp (op : BinOp) (k : IntKind) (a b : Int) (r : D → M α) : M α :=
  match op with
  | .add => r (.int k (k.wrap (a + b)))
  | .sub => r (.int k (k.wrap (a - b)))
  | .mul => r (.int k (k.wrap (a * b)))
  | .quo => .need (b ≠ 0) (r (.int k (k.wrap (a.tdiv b))))
  | .rem => .need (b ≠ 0) (r (.int k (a.tmod b)))
  | .eql => r (.bool (a == b))
  | .neq => r (.bool (a != b))
  | .lss => r (.bool (a < b))
  | .leq => r (.bool (a ≤ b))
  | .gtr => r (.bool (a > b))
  | .geq => r (.bool (a ≥ b))
  | .and => r (.int k (k.wrap ((BitVec.ofInt k.bits a &&& BitVec.ofInt k.bits b).toNat)))
  | .or => r (.int k (k.wrap ((BitVec.ofInt k.bits a ||| BitVec.ofInt k.bits b).toNat)))
  | .xor => r (.int k (k.wrap ((BitVec.ofInt k.bits a ^^^ BitVec.ofInt k.bits b).toNat)))
  | .shl => shiftK .shl k a b r
  | .shr => shiftK .shr k a b r
  | _ => .fail "int op"
def strOp (op : BinOp) (a b : List UInt8) (r : D → M α) : M α :=
  match op with
  | .add => .need (a.length + b.length ≤ 9223372036854775807) (r (.str (a ++ b)))
  | .eql => r (.bool (a == b))
  | .neq => r (.bool (!(a == b)))
  | .lss => r (.bool (Op.bytesLess a b))
  | .leq => r (.bool (Op.bytesLess a b || a == b))
  | .gtr => r (.bool (!(Op.bytesLess a b || a == b)))
  | .geq => r (.bool (!(Op.bytesLess a b)))
  | _ => .fail "string op"
def eqFieldsK (P : Program) (rec : Nat → SV → SV → (Bool → M α) → M α) : List Field → List SV → List SV → (Bool → M α) → M α
  | [], _, _, k => k true
  | ⟨name, t, o, _, _, _, _⟩ :: fs, cs, ds, k => match name == "_" with
    | true => .fail "eq blank"
    | false => dropK o cs fun xs => partK P t xs fun x => dropK o ds fun ys => partK P t ys fun y => rec t x y fun b => match fs with
      | [] => k b
      | _ :: _ => eqFieldsK P rec fs cs ds fun c => k (b && c)
/-- '==' of two values of a type of numbers, bools, strings and structs of such -/
def eqK (P : Program) (E : List Nat) : Nat → Nat → SV → SV → (Bool → M α) → M α
  | 0, _, _, _, _ => .fail "eq depth"
  | n + 1, T, x, y, k => match P.underlying T with
    | some (.int i) => match x, y with
      | .d (.int j a), .d (.int l b) => match kEq i j, kEq i l with
        | true, true => k (a == b)
        | _, _ => .fail "eq kinds"
      | _, _ => .fail "eq int"
    | some .bool => match x, y with
      | .d (.bool a), .d (.bool b) => k (a == b)
      | _, _ => .fail "eq bool"
    | some .string => match x, y with
      | .d (.str a), .d (.str b) => k (a == b)
      | _, _ => .fail "eq string"
    | some (.struct ⟨fs⟩) => match x, y, memN T E with
      | .agg cs, .agg ds, true => eqFieldsK P (eqK P E n) fs cs ds k
      | _, _, _ => .fail "eq struct"
    | _ => .fail "eq type"
def binK (P : Program) (E : List Nat) (op : BinOp) (T : Nat) (x y : SV) (r : SV → M α) : M α :=
  match x, y with
  | .d (.int i a), .d (.int j b) => match kEq i j with
    | true => intOp op i a b fun v => r (.d v)
    | false => shiftK op i a b fun v => r (.d v)
  | .d (.str a), .d (.str b) => strOp op a b fun v => r (.d v)
  | .d (.bool a), .d (.bool b) => match P.underlying T, op with
    | some .bool, .eql => r (.d (.bool (a == b)))
    | some .bool, .neq => r (.d (.bool (!(a == b))))
    | _, _ => .fail "bool op"
  | .agg cs, .agg ds => match op, memN T E with
    | .eql, true => eqK P E 4 T (.agg cs) (.agg ds) fun b => r (.d (.bool b))
    | .neq, true => eqK P E 4 T (.agg cs) (.agg ds) fun b => r (.d (.bool (!b)))
    | _, _ => .fail "agg op"
  | _, _ => .fail "binop"
def unK (op : UnOp) (x : SV) (r : SV → M α) : M α :=
  match op, x with
  | .neg, .d (.int k n) => r (.d (.int k (k.wrap (0 - n))))
  | .not, .d (.bool b) => r (.d (.bool (!b)))
  | _, _ => .fail "unop"
/-- the parts laid over the zero cells -/
def buildK (P : Program) : List Field → List (Nat × List SV) → List SV → (List SV → M α) → M α
  | _, [], cs, k => k cs
  | fs, (i, new) :: rest, cs, k => nthF fs i fun o t => match sizeIs P t new.length with
    | true => spliceK o new cs fun cs => buildK P fs rest cs k
    | false => .fail "build size"
/-- the parts of an array literal laid over the zero cells -/
def buildAK (sz : Nat) : List (Nat × List SV) → List SV → (List SV → M α) → M α
  | [], cs, k => k cs
  | (i, new) :: rest, cs, k => match Nat.beq sz new.length with
    | true => spliceK (i * sz) new cs fun cs => buildAK sz rest cs k
    | false => .fail "array literal size"
def infos (P : Program) : List Field → Bool
  | [] => true
  | ⟨_, t, _, _, _, _, _⟩ :: fs => match sizeIs P t (P.cellsOf t) with
    | true => infos P fs
    | false => false
def dK : SV → (D → M α) → M α
  | .d x, k => k x
  | _, _ => .fail "no plain data"
def dcells : List SV → (List D → M α) → M α := mapK dK
def tabF : (Nat → Nat → D) → List (Nat × List D) → Nat → Nat → D
  | base, [] => base
  | base, (n, cs) :: rest => tabF (fun i j => if i = n then cs.getD j default else base i j) rest
def idxK (P : Program) (T : Nat) (x : SV) (i : Int) (r : SV → M α) : M α :=
  match P.underlying T with
  | some (.slice E) => match x with
    | .d (.list len sz get) => match sizeIs P E sz with
      | true => .need (0 ≤ i ∧ i < len) (r (.cptr sz fun j => get i.toNat j))
      | false => .fail "index size"
    | .osl n sz off len => match sizeIs P E sz with
      | true => .need (0 ≤ i ∧ i < len) (r (.optr n sz (off + i.toNat) 0))
      | false => .fail "index size"
    | _ => .fail "index of what slice"
  | some (.array len E) => match sizeIs P E (P.cellsOf E) with
    | true => match x with
      | .cptr s get => match Nat.ble (len * P.cellsOf E) s with
        | true => .need (0 ≤ i ∧ i < len) (r (.cptr (P.cellsOf E) fun j => get (i.toNat * P.cellsOf E + j)))
        | false => .fail "array size"
      | .ptr n off => .need (0 ≤ i ∧ i < len) (r (.ptr n (off + i.toNat * P.cellsOf E)))
      | _ => .fail "index of what array"
    | false => .fail "array element"
  | _ => .fail "indexAddr"
def capNames : List SV → List Nat
  | [] => []
  | .ptr n _ :: l => n :: capNames l
  | _ :: l => capNames l
def ptrNames : List SV → List Nat
  | [] => []
  | .clo _ cs :: l => capNames cs ++ ptrNames l
  | .ptr n _ :: l => n :: ptrNames l
  | .optr n _ _ _ :: l => n :: ptrNames l
  | _ :: l => ptrNames l
def sliceLen : SV → (Nat → M α) → M α
  | .d (.list len _ _), k => k len
  | .d (.val (.slice none 0 0)), k => k 0
  | .osl _ _ _ len, k => k len
  | _, _ => .fail "len of what"
/-- own slices among the cells, turned into data (to be published or lent), with their names -/
def lendCells : List SV → (List SV → List Nat → M α) → M α
  | [], k => k [] []
  | .osl n _ off len :: l, k => .own n fun
    | .row _ sz _ get => lendCells l fun r ns => k (.d (.list len sz fun i j => get (off + i) j) :: r) (n :: ns)
    | _ => .fail "lend"
  | x :: l, k => lendCells l fun r ns => k (x :: r) ns
def lendArgs : List SV → (List SV → List Nat → M α) → M α
  | [], k => k [] []
  | .osl n _ off len :: l, k => .own n fun
    | .row _ sz _ get => lendArgs l fun r ns => k (.d (.list len sz fun i j => get (off + i) j) :: r) (n :: ns)
    | _ => .fail "lend"
  | .agg cs :: l, k => lendCells cs fun ds ms => lendArgs l fun r ns => k (.agg ds :: r) (ms ++ ns)
  | x :: l, k => lendArgs l fun r ns => k (x :: r) ns
def byteD : D → Option UInt8
  | .int .u8 n => some (UInt8.ofNat n.toNat)
  | _ => none
/-- the bytes of the first cells of the rows -/
def bytesR (get : Nat → Nat → D) : Nat → Nat → Option (List UInt8)
  | _, 0 => some []
  | i, n + 1 => match byteD (get i 0), bytesR get (i + 1) n with
    | some b, some l => some (b :: l)
    | _, _ => none
def bytesL (get : Nat → Nat → D) (n : Nat) : List UInt8 := (bytesR get 0 n).getD []
/-- a slice of bytes as a string -/
def bytesK (x : SV) (k : List UInt8 → M α) : M α :=
  match x with
  | .d (.val (.slice none 0 0)) => k []
  | .d (.list len 1 get) => .need (bytesR get 0 len = some (bytesL get len)) (k (bytesL get len))
  | .osl n 1 off len => .own n fun
    | .row _ 1 _ get => .need (bytesR (fun i j => get (off + i) j) 0 len = some (bytesL (fun i j => get (off + i) j) len)) (k (bytesL (fun i j => get (off + i) j) len))
    | _ => .fail "bytes of what row"
  | _ => .fail "bytes of what"
def convK (P : Program) (src T : Nat) (x : SV) (r : SV → M α) : M α :=
  match P.underlying src, P.underlying T with
  | some _, some (.int k) => match x with
    | .d (.int _ n) => r (.d (.int k (k.wrap n)))
    | _ => .fail "convert to int"
  | some (.slice e), some .string => match P.underlying e with
    | some (.int .u8) => bytesK x fun l => r (.d (.str l))
    | _ => .fail "convert to string"
  | some .string, some .string => match x with
    | .d (.str l) => r (.d (.str l))
    | _ => .fail "convert of what string"
  | _, _ => .fail "convert"
/-- a bound of a slice that may be missing -/
def boundK (x : Option Operand) (k : Option Int → M α) : M α :=
  match x with
  | none => k none
  | some x => ev x fun
    | .d (.int _ n) => k (some n)
    | _ => .fail "slice bound"
def cutStr (l : List UInt8) (lo hi : Option Int) (r : SV → M α) : M α :=
  match lo, hi with
  | none, none => r (.d (.str l))
  | some i, none => .need (0 ≤ i ∧ i ≤ l.length) (r (.d (.str (l.drop i.toNat))))
  | none, some j => .need (0 ≤ j ∧ j ≤ l.length) (r (.d (.str (l.take j.toNat))))
  | some i, some j => .need (0 ≤ i ∧ i ≤ j ∧ j ≤ l.length) (r (.d (.str ((l.take j.toNat).drop i.toNat))))
def cutSl (P : Program) (E : Nat) (x : SV) (lo hi : Option Int) (r : SV → M α) : M α :=
  match x with
  | .d (.list len sz get) => match sizeIs P E sz with
    | true => .need (0 ≤ lo.getD 0 ∧ lo.getD 0 ≤ hi.getD len ∧ hi.getD len ≤ len) (r (.d (.list ((hi.getD len) - (lo.getD 0)).toNat sz fun i j => get ((lo.getD 0).toNat + i) j)))
    | false => .fail "slice size"
  | .osl n sz off len => match sizeIs P E sz with
    | true => .need (0 ≤ lo.getD 0 ∧ lo.getD 0 ≤ hi.getD len ∧ hi.getD len ≤ len) (r (.osl n sz (off + (lo.getD 0).toNat) ((hi.getD len) - (lo.getD 0)).toNat))
    | false => .fail "slice size"
  | .d (.val (.slice none 0 0)) => match sizeIs P E (P.cellsOf E) with
    | true => .need (lo.getD 0 = 0 ∧ hi.getD 0 = 0) (r (.d (.val (.slice none 0 0))))
    | false => .fail "slice size"
  | _ => .fail "slice of what"
def runeAt (s : List UInt8) (pos : Nat) : Nat × Nat := Utf8.decode ⟨⟨s⟩⟩ pos
end pieces
def upd (dst : Option Nat) (v : SV) : M Upd := .ret { dst, v, own := [], del := [], new := [], pub := [] }
def dstK (dst : Option Nat) (k : Nat → M Upd) : M Upd :=
  match dst with
  | some d => k d
  | none => .fail "no dst"
def flatFs (rec : Nat → Bool) : List Field → Bool
  | [] => true
  | ⟨_, t, _, _, _, _, _⟩ :: fs => match rec t with
    | true => flatFs rec fs
    | false => false
def flatT (P : Program) : Nat → Nat → Bool
  | 0, _ => false
  | n + 1, T => match P.underlying T with
    | some (.int _) | some .bool | some .string => true
    | some (.struct ⟨fs⟩) => flatFs (flatT P n) fs
    | _ => false
def flatTs (P : Program) : List Nat → Bool
  | [] => true
  | t :: l => match flatT P 6 t with
    | true => flatTs P l
    | false => false
def flatResult (P : Program) (f : FuncId) : Bool :=
  match P.funcs[f]? with
  | some fn => flatTs P fn.resultTypes.toList
  | none => false
def zeroOk (P : Program) (T sz : Nat) : Bool :=
  match P.info? T with
  | some i => match i.zero with
    | some (.agg ⟨cs⟩) => match Nat.beq cs.length i.size, Nat.beq sz i.size with
      | true, true => Nat.blt 0 sz
      | _, _ => false
    | some (.int _ _) | some (.bool _) | some (.string _) | some (.slice _ _ _) | some (.pointer _) => match Nat.beq 1 i.size, Nat.beq sz i.size with
      | true, true => true
      | _, _ => false
    | _ => false
  | none => false
/-- what is appended: its length, its cells -/
def srcK (sz : Nat) (x : SV) (k : Nat → (Nat → Nat → D) → M Upd) : M Upd :=
  match x with
  | .d (.list m s get) => match Nat.beq s sz with
    | true => k m get
    | false => .fail "append size"
  | .d (.val (.slice none 0 0)) => k 0 (fun _ _ => default)
  | .osl n s off m => .own n fun
    | .row _ _ _ get => match Nat.beq s sz with
      | true => k m (fun i j => get (off + i) j)
      | false => .fail "append size"
    | _ => .fail "append of what row"
  | _ => .fail "append of what"
/-- a source in the row itself -/
def sameRow (n : Nat) : SV → Bool
  | .osl k _ _ _ => Nat.beq n k
  | _ => false
def appendK (P : Program) (dst : Option Nat) (E sz : Nat) (s x : SV) : M Upd :=
  dstK dst fun d => match zeroOk P E sz with
  | false => .fail "append element"
  | true => match s with
    | .d (.val (.slice none 0 0)) => srcK sz x fun m get =>
        .need (m * P.bytesOf E ≤ 140737488355328 ∧ m ≤ 9223372036854775807) (.ret { dst, v := .osl d sz 0 m, own := [(d, .row E sz m get)], del := [], new := [d], pub := [] })
    | .osl n _ 0 len => .own n fun
      | .row E' s len' get => match Nat.beq s sz, Nat.beq E E' with
        | true, true => match sameRow n x with
          | true => srcK sz x fun m g2 =>
            .need (len ≤ len' ∧ (len + m) * P.bytesOf E ≤ 140737488355328 ∧ len + m ≤ 9223372036854775807)
              (.ret { dst, v := .osl d sz 0 (len + m), own := [(d, .row E sz (len + m) fun i j => if i < len then get i j else g2 (i - len) j)], del := [n], new := [d], pub := [] })
          | false => srcK sz x fun m g2 =>
            .need (len = len' ∧ (len + m) * P.bytesOf E ≤ 140737488355328 ∧ len + m ≤ 9223372036854775807)
              (.ret { dst, v := .osl d sz 0 (len + m), own := [(d, .row E sz (len + m) fun i j => if i < len then get i j else g2 (i - len) j)], del := [n], new := [d], pub := [] })
        | _, _ => .fail "append type"
      | _ => .fail "append to what row"
    | .osl n _ off len => .own n fun
      | .row E' s len' get => match Nat.beq s sz, Nat.beq E E', sameRow n x with
        | true, true, false => srcK sz x fun m g2 =>
            .need (off + len ≤ len' ∧ (len + m) * P.bytesOf E ≤ 140737488355328 ∧ len + m ≤ 9223372036854775807)
              (.ret { dst, v := .osl d sz 0 (len + m), own := [(d, .row E sz (len + m) fun i j => if i < len then get (off + i) j else g2 (i - len) j)], del := [n], new := [d], pub := [] })
        | _, _, _ => .fail "append type"
      | _ => .fail "append to what row"
    | _ => .fail "append to what"
/-- copy into an own slice -/
def copyK (P : Program) (dst : Option Nat) (E sz : Nat) (x y : SV) : M Upd :=
  match zeroOk P E sz with
  | false => .fail "copy element"
  | true => match x with
    | .osl n _ off len => .own n fun
      | .row E s L g => match Nat.beq s sz with
        | true => srcK sz y fun m g2 =>
          .ret { dst, v := .d (.int .i64 (min m len : Nat)), own := [(n, .row E s L fun i j => if off ≤ i ∧ i < off + min m len then g2 (i - off) j else g i j)], del := [], new := [], pub := [] }
        | false => .fail "copy size"
      | _ => .fail "copy into what row"
    | _ => .fail "copy into what"
/-- what is appended to nothing, as data at once -/
def appendImm (P : Program) (dst : Option Nat) (E sz : Nat) (x : SV) : M Upd :=
  match zeroOk P E sz with
  | false => .fail "append element"
  | true => srcK sz x fun m get => .need (m * P.bytesOf E ≤ 140737488355328 ∧ m ≤ 9223372036854775807) (upd dst (.d (.list m sz get)))
def appendE (P : Program) (E0 : List Nat) (dst : Option Nat) (E sz : Nat) (s x : SV) : M Upd :=
  match memN (E + 4000000) E0, s with
  | true, .d (.val (.slice none 0 0)) => appendImm P dst E sz x
  | _, _ => appendK P dst E sz s x
def builtinK (P : Program) (E0 : List Nat) (dst : Option Nat) (b : Builtin) (argTypes : List Nat) (args : List SV) : M Upd :=
  match b, args with
  | .len, [x] => match argTypes with
    | T :: _ => match P.underlying T with
      | some .string => match x with
        | .d (.str l) => upd dst (.d (.int .i64 l.length))
        | _ => .fail "len of what string"
      | some (.slice _) => sliceLen x fun n => upd dst (.d (.int .i64 n))
      | _ => .fail "len type"
    | [] => .fail "len"
  | .min, [.d (.int k a), .d (.int _ b)] => upd dst (.d (.int k (if b < a then b else a)))
  | .max, [.d (.int k a), .d (.int _ b)] => upd dst (.d (.int k (if b > a then b else a)))
  | .append, [s, x] => match argTypes with
    | [T, T'] => match Nat.beq T T' with
      | true => elemK P T fun E sz => appendE P E0 dst E sz s x
      | false => .fail "append types"
    | _ => .fail "append"
  | .copy, [x, y] => match argTypes with
    | [T, T'] => match Nat.beq T T' with
      | true => elemK P T fun E sz => copyK P dst E sz x y
      | false => .fail "copy types"
    | _ => .fail "copy"
  | _, _ => .fail "builtin"
/-- own slices among the cells -/
def cellNames : List SV → List Nat
  | [] => []
  | .osl n _ _ _ :: l => n :: cellNames l
  | _ :: l => cellNames l
def oslNames : List SV → List Nat
  | [] => []
  | .osl n _ _ _ :: l => n :: oslNames l
  | .agg cs :: l => cellNames cs ++ oslNames l
  | .clo _ cs :: l => cellNames cs ++ oslNames l
  | _ :: l => oslNames l
/-- each name once -/
def addNs : List Nat → List Nat → List Nat
  | [], acc => acc
  | n :: l, acc => match memN n acc with
    | true => addNs l acc
    | false => addNs l (acc ++ [n])
/-- with the rows that the boxes hold -/
def closeK : List Nat → List Nat → (List Nat → M Upd) → M Upd
  | [], acc, k => k acc
  | n :: l, acc, k => .own n fun
    | .box cs => closeK l (addNs (cellNames cs) acc) k
    | _ => closeK l acc k
def closeN (ns : List Nat) (k : List Nat → M Upd) : M Upd := closeK ns ns k
def callK (P : Program) (E : List Nat) (dst : Option Nat) (f : FuncId) (args : List SV) : M Upd :=
  match memN (f + 2000000) E with
  | true => closeN (addNs (oslNames args) (addNs (ptrNames args) [])) fun names => .call dst f args names [] []
  | false => lendArgs args fun args ns => match ns with
    | [] => closeN (addNs (ptrNames args) []) fun names => .call dst f args names [] []
    | _ :: _ => match ptrNames args, flatResult P f with
      | [], true => .call dst f args [] ns []
      | names, _ => closeN (addNs names []) fun names => .call dst f args names [] ns
/-- a string turned to bytes: the type of the elements -/
def strBytes (P : Program) (src T : Nat) : Option Nat :=
  match P.underlying src, P.underlying T with
  | some .string, some (.slice e) => match P.underlying e with
    | some (.int .u8) => some e
    | _ => none
  | _, _ => none
def byteRow (l : List UInt8) (i _ : Nat) : D := .int .u8 (l.getD i 0).toNat
/-- x[lo:hi:max] of data -/
def cut3 (P : Program) (dst : Option Nat) (E : Nat) (vs : List SV) (ns : List Nat) (lo hi : Option Int) (mx : SV) : M Upd :=
  match vs, hi, mx with
  | [.d (.list len sz get)], some hi, .d (.int _ m) => match sizeIs P E sz with
    | true => .need (0 ≤ lo.getD 0 ∧ lo.getD 0 ≤ hi ∧ hi ≤ m ∧ m ≤ len) (.ret { dst, v := .d (.list (hi - lo.getD 0).toNat sz fun i j => get ((lo.getD 0).toNat + i) j), own := [], del := [], new := [], pub := ns })
    | false => .fail "slice size"
  | _, _, _ => .fail "full slice of what"
/-- a map from strings to numbers -/
def mapStr (P : Program) (T : Nat) (k : Nat → IntKind → M Upd) : M Upd :=
  match P.underlying T with
  | some (.map K V) => match P.underlying K, P.underlying V with
    | some .string, some (.int i) => k V i
    | _, _ => .fail "map key"
  | _ => .fail "no map"
def zero1 (P : Program) (V : Nat) (k : D → M Upd) : M Upd :=
  match P.info? V with
  | some i => match i.zero with
    | some v => sv1K v fun x => dK x k
    | none => .fail "zero"
  | none => .fail "zero"
def lkV (ok : Bool) (d : D) (b : Bool) : SV :=
  match ok with
  | true => .tup [.d d, .d (.bool b)]
  | false => .d d
def repK (z : List SV) : Nat → (List SV → M Upd) → M Upd
  | 0, k => k []
  | n + 1, k => repK z n fun r => k (z ++ r)
def partEv (p : Nat × Operand) (k : Nat × List SV → M Upd) : M Upd :=
  match p with
  | (i, x) => ev x fun v => cellsK v fun cs => k (i, cs)
def sliceParts (sz : Nat) : List (Nat × List SV) → (List (Nat × List D) → List Nat → M Upd) → M Upd
  | [], k => k [] []
  | (i, cs) :: l, k => lendCells cs fun cs ms => dcells cs fun ds => match Nat.beq ds.length sz with
    | true => sliceParts sz l fun r ns => k ((i, ds) :: r) (ms ++ ns)
    | false => .fail "buildSlice size"
def partsIn (len : Nat) : List (Nat × Operand) → Bool
  | [] => true
  | (i, _) :: l => match Nat.blt i len with
    | true => partsIn len l
    | false => false
/-- a literal that is the function's own -/
def ownLit (dst : Option Nat) (E sz len : Nat) (get : Nat → Nat → D) (ns : List Nat) : M Upd :=
  dstK dst fun d => .ret { dst, v := .osl d sz 0 len, own := [(d, .row E sz len get)], del := [], new := [d], pub := ns }
def opM (P : Program) (G : Nat → Option (Nat × (Nat → D))) (E : List Nat) (dst : Option Nat) (op : Op) : M Upd :=
  match op with
  | .move x | .assign x => ev x (upd dst)
  | .pick c a b => ev c fun
    | .d (.bool t) => .split t (ev a (upd dst)) (ev b (upd dst))
    | _ => .fail "pick"
  | .alloc T => dstK dst fun d => zeroK P T fun z => .ret { dst, v := .ptr d 0, own := [(d, .box z)], del := [], new := [d], pub := [] }
  | .box _ x => dstK dst fun d => ev x fun v => cellsK v fun cs => .ret { dst, v := .ptr d 0, own := [(d, .box cs)], del := [], new := [d], pub := [] }
  | .build T parts => match P.underlying T with
    | some (.struct ⟨fs⟩) => match infos P fs with
      | true => zeroK P T fun z => mapK partEv parts.toList fun ps => buildK P fs ps z fun cs => upd dst (.agg cs)
      | false => .fail "build infos"
    | some (.array _ e) => match sizeIs P e (P.cellsOf e) with
      | true => zeroK P T fun z => mapK partEv parts.toList fun ps => buildAK (P.cellsOf e) ps z fun cs => upd dst (.agg cs)
      | false => .fail "build array"
    | _ => .fail "build"
  | .buildSlice T len parts => elemK P T fun E' sz => zeroK P E' fun z => dcells z fun zd => mapK partEv parts.toList fun ps =>
      match partsIn len parts.toList, Nat.ble (len * sz) 16777216, Nat.blt 0 sz with
      | true, true, true => match memN (T + 3000000) E with
        | true => dstK dst fun d => repK z len fun z0 => buildAK sz ps z0 fun cs => .ret { dst, v := .osl d sz 0 len, own := [(d, .arr sz cs)], del := [], new := [d], pub := [] }
        | false => sliceParts sz ps fun ds ns => match memN (T + 1000000) E with
          | true => ownLit dst E' sz len (tabF (fun _ j => zd.getD j default) ds) ns
          | false => .ret { dst, v := .d (.list len sz (tabF (fun _ j => zd.getD j default) ds)), own := [], del := [], new := [], pub := ns }
      | _, _, _ => .fail "buildSlice"
  | .load T a => ev a fun
    | .ptr n off => .own n fun
      | .box cs => dropK off cs fun cs => partK P T cs (upd dst)
      | _ => .fail "load box"
    | .optr n _ i off => .own n fun
      | .row _ sz len get => .need (i < len) (partD P T (sz - off) (fun j => get i (off + j)) (upd dst))
      | .arr sz cs => dropK (i * sz + off) cs fun cs => partK P T cs (upd dst)
      | _ => .fail "load row"
    | .cptr sz get => partD P T sz get (upd dst)
    | _ => .fail "load"
  | .store T a x => ev a fun
    | .ptr n off => ev x fun v => cellsK v fun new => match sizeIs P T new.length with
      | true => .own n fun
        | .box cs => spliceK off new cs fun cs => .ret { dst, v := .junk, own := [(n, .box cs)], del := [], new := [], pub := [] }
        | _ => .fail "store box"
      | false => .fail "store size"
    | .optr n _ i off => ev x fun v => cellsK v fun new => lendCells new fun new ns => dcells new fun ds => match sizeIs P T ds.length, memN n ns with
      | true, false => .own n fun
        | .row E sz len get => match Nat.ble (off + ds.length) sz with
          | true => .need (i < len) (.ret { dst, v := .junk, own := [(n, .row E sz len fun i' j' => if i' = i then (if j' < off then get i' j' else if j' < off + ds.length then ds.getD (j' - off) default else get i' j') else get i' j')], del := [], new := [], pub := ns })
          | false => .fail "store over the end"
        | _ => .fail "store row"
      | _, _ => .fail "store size"
    | _ => .fail "store"
  | .nilCheck x => ev x fun
    | .ptr n off => upd dst (.ptr n off)
    | .optr n s i off => upd dst (.optr n s i off)
    | .cptr s g => upd dst (.cptr s g)
    | _ => .fail "nilCheck"
  | .binOp op T x y _ => ev x fun a => ev y fun b => binK P E op T a b (upd dst)
  | .unOp op _ x => ev x fun a => unK op a (upd dst)
  | .fieldAddr T x f => ev x fun v => fieldK P T f fun off t => match posSize P t, v with
    | true, .ptr n a => upd dst (.ptr n (a + off))
    | true, .optr n s i a => upd dst (.optr n s i (a + off))
    | true, .cptr s g => upd dst (.cptr (s - off) fun j => g (off + j))
    | _, _ => .fail "fieldAddr"
  | .field T x f => ev x fun v => fieldK P T f fun off t => match v with
    | .agg cs => dropK off cs fun cs => partK P t cs (upd dst)
    | _ => .fail "field"
  | .indexAddr T (.global g) ix => ev ix fun
    | .d (.int _ i) => match G g with
      | some (sz, get) => idxK P T (.cptr sz get) i (upd dst)
      | none => .fail "global"
    | _ => .fail "indexAddr"
  | .indexAddr T x ix => ev x fun v => ev ix fun
    | .d (.int _ i) => idxK P T v i (upd dst)
    | _ => .fail "indexAddr"
  | .index T x ix => ev x fun v => ev ix fun w => match P.underlying T, v, w with
    | some .string, .d (.str l), .d (.int _ i) => .need (0 ≤ i ∧ i < l.length) (upd dst (.d (.int .u8 (l.getD i.toNat 0).toNat)))
    | some (.array n e), .agg cs, .d (.int _ i) => dcells cs fun ds => match Nat.ble (n * P.cellsOf e) ds.length with
      | true => .need (0 ≤ i ∧ i < n) (partD P e (P.cellsOf e) (fun j => ds.getD (i.toNat * P.cellsOf e + j) default) (upd dst))
      | false => .fail "index of what array value"
    | _, _, _ => .fail "index"
  | .extract x i => ev x fun
    | .tup vs => nthK vs i (upd dst)
    | _ => .fail "extract"
  | .convert src T x => match strBytes P src T with
    | some e => dstK dst fun d => ev x fun
      | .d (.str l) => .ret { dst, v := .osl d 1 0 l.length, own := [(d, .row e 1 l.length (byteRow l))], del := [], new := [d], pub := [] }
      | _ => .fail "bytes of what string"
    | none => ev x fun v => convK P src T v (upd dst)
  | .makeSlice T l c => dstK dst fun d => elemK P T fun E sz => match zeroOk P E sz with
    | true => zeroK P E fun z => dcells z fun zd => ev l fun
      | .d (.int _ n) => ev c fun
        | .d (.int _ m) => .need (0 ≤ n ∧ n ≤ m ∧ (P.bytesOf E : Int) * m ≤ 281474976710656 ∧ m ≤ 9223372036854775807)
            (.ret { dst, v := .osl d sz 0 n.toNat, own := [(d, .row E sz n.toNat fun _ j => zd.getD j default)], del := [], new := [d], pub := [] })
        | _ => .fail "make"
      | _ => .fail "make"
    | false => .fail "make element"
  | .slice T x lo hi none => match P.underlying T with
    | some .string => ev x fun
      | .d (.str l) => boundK lo fun lo => boundK hi fun hi => cutStr l lo hi (upd dst)
      | _ => .fail "slice of what string"
    | some (.slice E) => ev x fun v => boundK lo fun lo => boundK hi fun hi => cutSl P E v lo hi (upd dst)
    | _ => .fail "slice"
  | .slice T x lo hi (some mx) => match P.underlying T with
    | some (.slice E) => ev x fun v => lendArgs [v] fun vs ns => boundK lo fun lo => boundK hi fun hi => ev mx fun m => cut3 P dst E vs ns lo hi m
    | _ => .fail "full slice"
  | .makeMap T none => dstK dst fun d => mapStr P T fun _ kd => .ret { dst, v := .mp d, own := [(d, .smap kd fun _ => none)], del := [], new := [d], pub := [] }
  | .mapUpdate T m k x => mapStr P T fun _ _ => ev m fun
    | .mp n => ev k fun
      | .d (.str s) => ev x fun
        | .d (.int i y) => .own n fun
          | .smap kd get => match kEq i kd with
            | true => .ret { dst, v := .junk, own := [(n, .smap kd fun s' => if s' = s then some y else get s')], del := [], new := [], pub := [] }
            | false => .fail "map value"
          | _ => .fail "update of what map"
        | _ => .fail "map value"
      | _ => .fail "map key"
    | _ => .fail "update of what"
  | .lookup T m k ok => mapStr P T fun V _ => ev m fun
    | .mp n => ev k fun
      | .d (.str s) => .own n fun
        | .smap kd get => .split (get s).isSome (upd dst (lkV ok (.int kd ((get s).getD 0)) true)) (zero1 P V fun z => upd dst (lkV ok z false))
        | _ => .fail "lookup in what map"
      | _ => .fail "map key"
    | _ => .fail "lookup in what"
  | .range T x => dstK dst fun d => match P.underlying T with
    | some .string => ev x fun
      | .d (.str l) => .ret { dst, v := .ptr d 0, own := [(d, .iter l 0)], del := [], new := [d], pub := [] }
      | _ => .fail "range of what"
    | _ => .fail "range"
  | .next it true => ev it fun
    | .ptr n 0 => .own n fun
      | .iter s pos => .split (Nat.blt pos s.length)
          (.ret { dst, v := .tup [.d (.bool true), .d (.int .i64 pos), .d (.int .i32 (runeAt s pos).1)], own := [(n, .iter s (pos + (runeAt s pos).2))], del := [], new := [], pub := [] })
          (upd dst (.tup [.d (.bool false)]))
      | _ => .fail "next of what"
    | _ => .fail "next"
  | .makeFunc (.func f) ⟨[]⟩ ⟨caps⟩ => evs caps fun cs => upd dst (.clo f cs)
  | .call c => match c with
    | ⟨.builtin b, ⟨args⟩, ⟨argTypes⟩⟩ => evs args fun args => builtinK P E dst b argTypes args
    | ⟨.value (.func f), ⟨args⟩, _⟩ => evs args fun args => callK P E dst f args
    | ⟨.value x, ⟨args⟩, _⟩ => evs args fun args => ev x fun
      | .clo f caps => callK P E dst f (args ++ caps)
      | _ => .fail "call of what"
    | _ => .fail "invoke"
  | _ => .fail "operation"
structure Stuck (why : String) : Prop where
  out : False
def look : List (Nat × SV) → Nat → Option SV
  | [], _ => none
  | (i, v) :: l, k => match Nat.beq i k with
    | true => some v
    | false => look l k
def lookO : List (Nat × Blk) → Nat → Option Blk
  | [], _ => none
  | (i, v) :: l, k => match Nat.beq i k with
    | true => some v
    | false => lookO l k
def delO : List (Nat × Blk) → Nat → (List (Nat × Blk) → Prop) → Prop
  | [], _, k => k []
  | (i, v) :: l, n, k => match Nat.beq i n with
    | true => delO l n k
    | false => delO l n fun r => k ((i, v) :: r)
def delsO (l : List (Nat × Blk)) : List Nat → (List (Nat × Blk) → Prop) → Prop
  | [], k => k l
  | n :: ns, k => delO l n fun l => delsO l ns k
def setsO (l : List (Nat × Blk)) : List (Nat × Blk) → (List (Nat × Blk) → Prop) → Prop
  | [], k => k l
  | (n, b) :: ns, k => delO l n fun l => setsO ((n, b) :: l) ns k
def delS : List (Nat × SV) → Nat → (List (Nat × SV) → Prop) → Prop
  | [], _, k => k []
  | (i, v) :: l, n, k => match Nat.beq i n with
    | true => delS l n k
    | false => delS l n fun r => k ((i, v) :: r)
/-- own slices of the published row become data -/
def pubCells (n : Nat) (sz : Nat) (get : Nat → Nat → D) : List SV → (List SV → Prop) → Prop
  | [], k => k []
  | .osl m s off len :: l, k => match Nat.beq m n with
    | true => pubCells n sz get l fun r => k (.d (.list len sz fun i j => get (off + i) j) :: r)
    | false => pubCells n sz get l fun r => k (.osl m s off len :: r)
  | x :: l, k => pubCells n sz get l fun r => k (x :: r)
def pubSV (n : Nat) (sz : Nat) (get : Nat → Nat → D) : SV → (SV → Prop) → Prop
  | .osl m s off len, k => match Nat.beq m n with
    | true => k (.d (.list len sz fun i j => get (off + i) j))
    | false => k (.osl m s off len)
  | .agg cs, k => pubCells n sz get cs fun r => k (.agg r)
  | .tup cs, k => pubCells n sz get cs fun r => k (.tup r)
  | x, k => k x
def pubS (n : Nat) (sz : Nat) (get : Nat → Nat → D) : List (Nat × SV) → (List (Nat × SV) → Prop) → Prop
  | [], k => k []
  | (i, v) :: l, k => pubSV n sz get v fun v => pubS n sz get l fun r => k ((i, v) :: r)
def pubO (n : Nat) (sz : Nat) (get : Nat → Nat → D) : List (Nat × Blk) → (List (Nat × Blk) → Prop) → Prop
  | [], k => k []
  | (i, .box cs) :: l, k => match Nat.beq i n with
    | true => pubO n sz get l k
    | false => pubCells n sz get cs fun cs => pubO n sz get l fun r => k ((i, .box cs) :: r)
  | (i, .arr s cs) :: l, k => match Nat.beq i n with
    | true => pubO n sz get l k
    | false => pubCells n sz get cs fun cs => pubO n sz get l fun r => k ((i, .arr s cs) :: r)
  | (i, b) :: l, k => match Nat.beq i n with
    | true => pubO n sz get l k
    | false => pubO n sz get l fun r => k ((i, b) :: r)
def pubs (n0 : List Nat) : List Nat → List (Nat × SV) → List (Nat × Blk) → (List (Nat × SV) → List (Nat × Blk) → Prop) → Prop
  | [], s, o, k => k s o
  | n :: ns, s, o, k => match memN n n0 with
    | true => Stuck "a caller's row published"
    | false => match lookO o n with
      | some (.row _ sz _ get) => pubS n sz get s fun s => pubO n sz get o fun o => pubs n0 ns s o k
      | some _ => Stuck "publish"
      | none => pubs n0 ns s o k
def freshK : List Nat → List Nat → (List Nat → Prop) → Prop
  | [], nm, k => k nm
  | n :: ns, nm, k => match memN n nm with
    | true => Stuck "name"
    | false => freshK ns (n :: nm) k
def disjN : List Nat → List Nat → Bool
  | [], _ => true
  | n :: l, m => match memN n m with
    | true => false
    | false => disjN l m
/-- none of the caller's names goes -/
def stayK (del n0 : List Nat) (X : Prop) : Prop :=
  match disjN del n0 with
  | true => X
  | false => Stuck "a caller's row goes"
def applyK : Upd → St → (St → Prop) → Prop
  | ⟨dst, v, own, del, new, pub⟩, ⟨s, o, nm, n0⟩, K => pubs n0 pub s o fun s o => stayK del n0 (delsO o del fun o => setsO o own fun o => freshK new nm fun nm =>
    match dst with
    | some d => delS s d fun s => K ⟨(d, v) :: s, o, nm, n0⟩
    | none => K ⟨s, o, nm, n0⟩)
/-- A condition that the code needs, then what follows. -/
structure Need (p X : Prop) : Prop where
  h : p
  k : X
theorem need_intro {p X : Prop} (k : X) (h : p) : Need p X := ⟨h, k⟩
def bc (b : Bool) (X Y : Prop) : Prop := match b with | true => X | false => Y
theorem bc_intro {b : Bool} {X Y : Prop} (h1 : b = true → X) (h2 : b = false → Y) : bc b X Y := by
  cases b
  · exact h2 rfl
  · exact h1 rfl
mutual
def flatS : SV → Bool
  | .d (.int _ _) => true
  | .d (.bool _) => true
  | .d (.str _) => true
  | .agg cs => flatL cs
  | .tup cs => flatL cs
  | _ => false
def flatL : List SV → Bool
  | [] => true
  | c :: cs => match flatS c with
    | true => flatL cs
    | false => false
end
end Go.Sx
