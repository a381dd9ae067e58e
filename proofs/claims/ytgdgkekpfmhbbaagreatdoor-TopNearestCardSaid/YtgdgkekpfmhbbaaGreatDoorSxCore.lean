/- Part of a symbolic executor over the model, proved sound, with plain laws: SxCore. Written for this claim. -/
import Derived.Deep.Draws
import Derived.WalkKit
set_option linter.unusedVariables false
set_option linter.unusedSimpArgs false
namespace Go.Sx
open Go
theorem Om{p:Prop}(h:p:=by omega):p:=h
theorem As{p:Prop}(h:p:=by assumption):p:=h
structure afC (P:Program) (f:FuncId) (Et:Nat):Prop where
 enter: ∀(vs:Array Value)(w:World),(callFunc f vs).run P w= .ok (.enter f vs) w
 run: ∀(w:World)(ad:Option Addr)(b o n c i vb vc Ev:Nat)(cs:List Value)(x:Value),i<=n->n<=c->cs.length=n->(n+1)*8<=140737488355328->(∀v∈cs,v.oneCell'=true)->x.oneCell'=true->
  (0<c->ad=some ⟨b,o,none⟩∧vb≠b∧∃(arr:Array Value)(fr:Nat×Nat),w.heap[b]? =some (.cells arr Et fr)∧(fr.1=fr.2∨arr.size<=fr.1)∧arr.size=o+c∧∀(j:Nat)(v:Value),cs[j]? =some v->arr[o+j]? =some v)->
  w.heap[vb]? =some (.cells ⟨[x]⟩ Ev (0,0))->
  Calls P f #[.slice ad n c,.int .i64 i,.slice (some ⟨vb,0,none⟩) 1 vc] w fun e w'=>
   (n+1<=c∧e= .returned (.slice ad (n+1) c)∧∃(q:Nat)(arr':Array Value),w'=(w.drewN q).setRow b arr'∧arr'.size=o+c∧∀(j:Nat)(v:Value),(cs.take i++x::cs.drop i)[j]? =some v->arr'[o+j]? =some v)∨
   (∃(q cap:Nat)(arr':Array Value),n+1<=cap∧e= .returned (.slice (some ⟨w.heap.size,0,none⟩) (n+1) cap)∧w'=(w.drewN q).alloc (.cells arr' Et)∧arr'.size=cap∧∀(j:Nat)(v:Value),(cs.take i++x::cs.drop i)[j]? =some v->arr'[j]? =some v)
theorem Kt{a b c d:Prop}(h:a∨b)(f:a->c)(g:b->d):c∨d:=h.elim (fun x=> .inl (f x)) (fun x=> .inr (g x))
inductive D where
 |int (k:IntKind) (n:Int)
 |bool (b:Bool)
 |str (l:List UInt8)
 |val (x:Value)
 |list (len sz:Nat) (get:Nat->Nat->D)
 /-- a list that is not nil -/
 |nl (len sz:Nat) (get:Nat->Nat->D)
instance:Inhabited D:=⟨.bool false⟩
inductive SV where
 |d (x:D)
 |ptr (n off:Nat)
 |qJ (n sz i off:Nat)
 |bW (n sz off len:Nat)
 |qN (sz:Nat) (get:Nat->D)
 |agg (cs:List SV)
 |cO (vs:List SV)
 |clo (f:FuncId) (caps:List SV)
 |VY (T:Nat) (cs:List SV)
 |zG (n k sz l:Nat)
 |uZ (n k sz i off:Nat)
 |mp (n:Nat)
 |junk
instance:Inhabited SV:=⟨.junk⟩
inductive FC where
 |d (x:D)
 |fs (k sz l:Nat)
instance:Inhabited FC:=⟨.d default⟩
structure fM where
 E:Nat
 sz:Nat
 len:Nat
 get:Nat->Nat->D
instance:Inhabited fM:=⟨⟨0,0,0,fun _ _=>default⟩⟩
inductive bG where
 |box (cs:List SV)
 |row (E sz len:Nat) (get:Nat->Nat->D)
 |iter (s:List UInt8) (pos:Nat)
 |smap (kd:IntKind) (get:List UInt8->Option Int)
 |arr (sz:Nat) (cs:List SV)
 |fam (nk:Nat) (rows:Nat->Option fM)
 |dP (fn E sz len:Nat) (get:Nat->Nat->FC)
 |dW (fn:Nat) (ka:Bool) (kk:List IntKind) (va:Bool) (sz:Nat) (has:List Int->Bool) (get:List Int->Nat->FC)
 |gone
structure St where
 s:List (Nat×SV)
 o:List (Nat×bG)
 nm:List Nat
 n0:List Nat
structure bf where
 dst:Option Nat
 v:SV
 own:List (Nat×bG)
 del:List Nat
 new:List Nat
 pub:List Nat
inductive M (α:Type)where
 |ret (a:α)
 |slot (k:Nat) (f:SV->M α)
 |own (n:Nat) (f:bG->M α)
 |need (p:Prop) (m:M α)
 |split (b:Bool) (x y:M α)
 |call (dst:Option Nat) (f:FuncId) (args:List SV) (names xg pub:List Nat)
 |fail (why:String)
section pieces
variable {α:Type}
def adH:List SV->Nat->(SV->M α)->M α
 |[],_,_=> .fail "nth"
 |x::_,0,k=>k x
 |_::xs,n+1,k=>adH xs n k
def FB:Nat->List SV->(List SV->M α)->M α
 |0,l,k=>k l
 |_+1,[],_=> .fail "drop"
 |n+1,_::l,k=>FB n l k
def YI:Nat->List SV->(List SV->M α)->M α
 |0,_,k=>k []
 |_+1,[],_=> .fail "take"
 |n+1,x::l,k=>YI n l fun r=>k (x::r)
def Y1:List SV->List SV->(List SV->M α)->M α
 |[],l,k=>k l
 |_::_,[],_=> .fail "over"
 |y::new,_::l,k=>Y1 new l fun r=>k (y::r)
def BA:Nat->List SV->List SV->(List SV->M α)->M α
 |0,new,l,k=>Y1 new l k
 |_+1,_,[],_=> .fail "splice"
 |n+1,new,x::l,k=>BA n new l fun r=>k (x::r)
def DC{γ δ:Type}(f:γ->(δ->M α)->M α):List γ->(List δ->M α)->M α
 |[],k=>k []
 |x::l,k=>f x fun y=>DC f l fun r=>k (y::r)
def Nh:Value->(SV->M α)->M α
 | .int i n,k=>k (.d (.int i n))
 | .bool b,k=>k (.d (.bool b))
 | .string ⟨⟨l⟩⟩,k=>k (.d (.str l))
 | .pointer none,k=>k (.d (.val (.pointer none)))
 | .slice none 0 0,k=>k (.d (.val (.slice none 0 0)))
 | .nilFunc,k=>k (.d (.val .nilFunc))
 | .map none,k=>k (.d (.val (.map none)))
 |_,_=> .fail "constant"
def svK:Value->(SV->M α)->M α
 | .agg ⟨cs⟩,k=>DC Nh cs fun l=>k (.agg l)
 |v,k=>Nh v k
def qB:SV->(List SV->M α)->M α
 | .agg cs,k=>k cs
 | .d x,k=>k [.d x]
 | .ptr n o,k=>k [.ptr n o]
 | .qJ n s i o,k=>k [.qJ n s i o]
 | .bW n s o l,k=>k [.bW n s o l]
 | .qN s g,k=>k [.qN s g]
 | .clo f cs,k=>k [.clo f cs]
 | .zG n m s l,k=>k [.zG n m s l]
 | .mp n,k=>k [.mp n]
 |_,_=> .fail "cells"
def ev(x:Operand)(k:SV->M α):M α:=
 match x with
 | .tmp t=> .slot t k
 | .const v=>svK v k
 | .global _=> .fail "global"
 | .func f=>k (.clo f [])
def evs:List Operand->(List SV->M α)->M α:=DC ev
def kEq:IntKind->IntKind->Bool
 | .i8,.i8| .i16,.i16| .i32,.i32| .i64,.i64| .u8,.u8| .u16,.u16| .u32,.u32| .u64,.u64=>true
 |_,_=>false
def g_:Nat->List Nat->Bool
 |_,[]=>false
 |n,m::l=>match Nat.beq n m with
  |true=>true
  |false=>g_ n l
def qg:TypeDesc->Bool
 | .struct _| .array _ _=>true
 |_=>false
def Ii(P:Program)(T:Nat)(cs:List SV)(k:SV->M α):M α:=
 match P.underlying T with
 |none=> .fail "type"
 |some d=>match qg d with
  |true=>YI (P.cellsOf T) cs fun l=>k (.agg l)
  |false=>adH cs 0 k
def aez(get:Nat->D):Nat->Nat->(List SV->M α)->M α
 |_,0,k=>k []
 |j,n+1,k=>aez get (j+1) n fun r=>k (.d (get j)::r)
def Kr(P:Program)(T sz:Nat)(get:Nat->D)(k:SV->M α):M α:=
 match P.underlying T with
 |none=> .fail "type"
 |some d=>match qg d with
  |true=>match Nat.ble (P.cellsOf T) sz with
   |true=>aez get 0 (P.cellsOf T) fun l=>k (.agg l)
   |false=> .fail "size"
  |false=>match Nat.ble 1 sz with
   |true=>k (.d (get 0))
   |false=> .fail "size"
def pG(P:Program)(T:Nat)(k:List SV->M α):M α:=
 match P.info? T with
 |some i=>match i.zero with
  |some (.agg ⟨cs⟩)=>match Nat.beq cs.length i.size with
   |true=>DC Nh cs k
   |false=> .fail "zero"
  |some v=>match Nat.beq 1 i.size with
   |true=>Nh v fun x=>k [x]
   |false=> .fail "zero"
  |none=> .fail "zero"
 |none=> .fail "zero"
def adI:List Field->Nat->(Nat->Nat->M α)->M α
 |[],_,_=> .fail "field"
 |⟨_,t,o,_,_,_,_⟩::_,0,k=>k o t
 |_::l,n+1,k=>adI l n k
def jT(P:Program)(T n:Nat):Bool:=
 match P.info? T with
 |some i=>Nat.beq n i.size
 |none=>false
def BH(P:Program)(T:Nat):Bool:=
 match P.info? T with
 |some i=>match i.size with
  |0=>false
  |_+1=>true
 |none=>false
def G7(P:Program)(T f:Nat)(k:Nat->Nat->M α):M α:=
 match P.underlying T with
 |some (.struct ⟨fs⟩)=>adI fs f k
 |_=> .fail "no struct"
def A8(P:Program)(T:Nat)(k:Nat->Nat->M α):M α:=
 match P.underlying T with
 |some (.slice E)=>k E (P.cellsOf E)
 |_=> .fail "no slice type"
def JG(op:BinOp)(k:IntKind)(a b:Int)(r:D->M α):M α:=
 match op with
 | .shl=> .need (0<=b) (r (.int k (k.wrap (a*2^(min b.toNat k.bits)))))
 | .shr=> .need (0<=b) (r (.int k (a.fdiv (2^(min b.toNat k.bits)))))
 |_=> .fail "int op"
def ael(op:BinOp)(k:IntKind)(a b:Int)(r:D->M α):M α:=
 match op with
 | .add=>r (.int k (k.wrap (a+b)))
 | .sub=>r (.int k (k.wrap (a-b)))
 | .mul=>r (.int k (k.wrap (a*b)))
 | .quo=> .need (b≠0) (r (.int k (k.wrap (a.tdiv b))))
 | .rem=> .need (b≠0) (r (.int k (a.tmod b)))
 | .eql=>r (.bool (a==b))
 | .neq=>r (.bool (a !=b))
 | .lss=>r (.bool (a<b))
 | .leq=>r (.bool (a<=b))
 | .gtr=>r (.bool (a>b))
 | .geq=>r (.bool (a>=b))
 | .and=>r (.int k (k.wrap ((BitVec.ofInt k.bits a&&&BitVec.ofInt k.bits b).toNat)))
 | .or=>r (.int k (k.wrap ((BitVec.ofInt k.bits a|||BitVec.ofInt k.bits b).toNat)))
 | .xor=>r (.int k (k.wrap ((BitVec.ofInt k.bits a^^^BitVec.ofInt k.bits b).toNat)))
 | .shl=>JG .shl k a b r
 | .shr=>JG .shr k a b r
 |_=> .fail "int op"
def acM(op:BinOp)(a b:List UInt8)(r:D->M α):M α:=
 match op with
 | .add=> .need (a.length+b.length<=9223372036854775807) (r (.str (a++b)))
 | .eql=>r (.bool (a==b))
 | .neq=>r (.bool (!(a==b)))
 | .lss=>r (.bool (Op.bytesLess a b))
 | .leq=>r (.bool (Op.bytesLess a b||a==b))
 | .gtr=>r (.bool (!(Op.bytesLess a b||a==b)))
 | .geq=>r (.bool (!(Op.bytesLess a b)))
 |_=> .fail "string op"
def BR(P:Program)(rec:Nat->SV->SV->(Bool->M α)->M α):List Field->List SV->List SV->(Bool->M α)->M α
 |[],_,_,k=>k true
 |⟨name,t,o,_,_,_,_⟩::fs,cs,ds,k=>match name== "_" with
  |true=> .fail "eq blank"
  |false=>FB o cs fun xs=>Ii P t xs fun x=>FB o ds fun ys=>Ii P t ys fun y=>rec t x y fun b=>match fs with
   |[]=>k b
   |_::_=>BR P rec fs cs ds fun c=>k (b&&c)
def eqK(P:Program)(E:List Nat):Nat->Nat->SV->SV->(Bool->M α)->M α
 |0,_,_,_,_=> .fail "eq depth"
 |n+1,T,x,y,k=>match P.underlying T with
  |some (.int i)=>match x,y with
   | .d (.int j a),.d (.int l b)=>match kEq i j,kEq i l with
     |true,true=>k (a==b)
     |_,_=> .fail "eq kinds"
   |_,_=> .fail "eq int"
  |some .bool=>match x,y with
   | .d (.bool a),.d (.bool b)=>k (a==b)
   |_,_=> .fail "eq bool"
  |some .string=>match x,y with
   | .d (.str a),.d (.str b)=>k (a==b)
   |_,_=> .fail "eq string"
  |some (.struct ⟨fs⟩)=>match x,y,g_ T E with
   | .agg cs,.agg ds,true=>BR P (eqK P E n) fs cs ds k
   |_,_,_=> .fail "eq struct"
  |_=> .fail "eq type"
def ak0(P:Program)(E:List Nat)(op:BinOp)(T:Nat)(x y:SV)(r:SV->M α):M α:=
 match x,y with
 | .d (.int i a),.d (.int j b)=>match kEq i j with
   |true=>ael op i a b fun v=>r (.d v)
   |false=>JG op i a b fun v=>r (.d v)
 | .d (.str a),.d (.str b)=>acM op a b fun v=>r (.d v)
 | .d (.bool a),.d (.bool b)=>match P.underlying T,op with
   |some .bool,.eql=>r (.d (.bool (a==b)))
   |some .bool,.neq=>r (.d (.bool (!(a==b))))
   |_,_=> .fail "bool op"
 | .agg cs,.agg ds=>match op,g_ T E with
   | .eql,true=>eqK P E 4 T (.agg cs) (.agg ds) fun b=>r (.d (.bool b))
   | .neq,true=>eqK P E 4 T (.agg cs) (.agg ds) fun b=>r (.d (.bool (!b)))
   |_,_=> .fail "agg op"
 |_,_=> .fail "binop"
def unK(op:UnOp)(x:SV)(r:SV->M α):M α:=
 match op,x with
 | .neg,.d (.int k n)=>r (.d (.int k (k.wrap (0-n))))
 | .not,.d (.bool b)=>r (.d (.bool (!b)))
 |_,_=> .fail "unop"
def Rq(P:Program):List Field->List (Nat×List SV)->List SV->(List SV->M α)->M α
 |_,[],cs,k=>k cs
 |fs,(i,new)::rest,cs,k=>adI fs i fun o t=>match jT P t new.length with
  |true=>BA o new cs fun cs=>Rq P fs rest cs k
  |false=> .fail "build size"
def FU(sz:Nat):List (Nat×List SV)->List SV->(List SV->M α)->M α
 |[],cs,k=>k cs
 |(i,new)::rest,cs,k=>match Nat.beq sz new.length with
  |true=>BA (i*sz) new cs fun cs=>FU sz rest cs k
  |false=> .fail "array literal size"
def infos(P:Program):List Field->Bool
 |[]=>true
 |⟨_,t,_,_,_,_,_⟩::fs=>match jT P t (P.cellsOf t)with
  |true=>infos P fs
  |false=>false
def dK:SV->(D->M α)->M α
 | .d x,k=>k x
 |_,_=> .fail "no plain data"
def vk:List SV->(List D->M α)->M α:=DC dK
def PZ:(Nat->Nat->D)->List (Nat×List D)->Nat->Nat->D
 |base,[]=>base
 |base,(n,cs)::rest=>PZ (fun i j=>if i=n then cs.getD j default else base i j) rest
def abx(P:Program)(T:Nat)(x:SV)(i:Int)(r:SV->M α):M α:=
 match P.underlying T with
 |some (.slice E)=>match x with
  | .d (.list len sz get)=>match jT P E sz with
    |true=> .need (0<=i∧i<len) (r (.qN sz fun j=>get i.toNat j))
    |false=> .fail "index size"
  | .bW n sz off len=>match jT P E sz with
    |true=> .need (0<=i∧i<len) (r (.qJ n sz (off+i.toNat) 0))
    |false=> .fail "index size"
  |_=> .fail "index of what slice"
 |some (.array len E)=>match jT P E (P.cellsOf E)with
  |true=>match x with
   | .qN s get=>match Nat.ble (len*P.cellsOf E) s with
     |true=> .need (0<=i∧i<len) (r (.qN (P.cellsOf E) fun j=>get (i.toNat*P.cellsOf E+j)))
     |false=> .fail "array size"
   | .ptr n off=> .need (0<=i∧i<len) (r (.ptr n (off+i.toNat*P.cellsOf E)))
   |_=> .fail "index of what array"
  |false=> .fail "array element"
 |_=> .fail "indexAddr"
def LY:List SV->List Nat
 |[]=>[]
 | .ptr n _::l=>n::LY l
 |_::l=>LY l
def QA:List SV->List Nat
 |[]=>[]
 | .mp n::l=>n::QA l
 |_::l=>QA l
def mQ:List SV->List Nat
 |[]=>[]
 | .clo _ cs::l=>LY cs++mQ l
 | .ptr n _::l=>n::mQ l
 | .qJ n _ _ _::l=>n::mQ l
 | .agg cs::l=>QA cs++mQ l
 | .mp n::l=>n::mQ l
 |_::l=>mQ l
def sliceLen:SV->(Nat->M α)->M α
 | .d (.list len _ _),k=>k len
 | .d (.nl len _ _),k=>k len
 | .d (.val (.slice none 0 0)),k=>k 0
 | .bW _ _ _ len,k=>k len
 |_,_=> .fail "len of what"
def nH:List SV->(List SV->List Nat->M α)->M α
 |[],k=>k [] []
 | .bW n _ off len::l,k=> .own n fun
   | .row _ sz _ get=>nH l fun r ns=>k (.d (.list len sz fun i j=>get (off+i) j)::r) (n::ns)
   |_=> .fail "lend"
 |x::l,k=>nH l fun r ns=>k (x::r) ns
def og:List SV->(List SV->List Nat->M α)->M α
 |[],k=>k [] []
 | .bW n _ off len::l,k=> .own n fun
   | .row _ sz _ get=>og l fun r ns=>k (.d (.list len sz fun i j=>get (off+i) j)::r) (n::ns)
   |_=> .fail "lend"
 | .agg cs::l,k=>nH cs fun ds ms=>og l fun r ns=>k (.agg ds::r) (ms++ns)
 |x::l,k=>og l fun r ns=>k (x::r) ns
def afe:D->Option UInt8
 | .int .u8 n=>some (UInt8.ofNat n.toNat)
 |_=>none
def Bg(get:Nat->Nat->D):Nat->Nat->Option (List UInt8)
 |_,0=>some []
 |i,n+1=>match afe (get i 0),Bg get (i+1) n with
  |some b,some l=>some (b::l)
  |_,_=>none
def Ro(get:Nat->Nat->D)(n:Nat):List UInt8:=(Bg get 0 n).getD []
def Yl(x:SV)(k:List UInt8->M α):M α:=
 match x with
 | .d (.val (.slice none 0 0))=>k []
 | .d (.list len 1 get)=> .need (Bg get 0 len=some (Ro get len)) (k (Ro get len))
 | .bW n 1 off len=> .own n fun
   | .row _ 1 _ get=> .need (Bg (fun i j=>get (off+i) j) 0 len=some (Ro (fun i j=>get (off+i) j) len)) (k (Ro (fun i j=>get (off+i) j) len))
   |_=> .fail "bytes of what row"
 |_=> .fail "bytes of what"
def ah1(P:Program)(src T:Nat)(x:SV)(r:SV->M α):M α:=
 match P.underlying src,P.underlying T with
 |some _,some (.int k)=>match x with
  | .d (.int _ n)=>r (.d (.int k (k.wrap n)))
  |_=> .fail "convert to int"
 |some (.slice e),some .string=>match P.underlying e with
  |some (.int .u8)=>Yl x fun l=>r (.d (.str l))
  |_=> .fail "convert to string"
 |some .string,some .string=>match x with
  | .d (.str l)=>r (.d (.str l))
  |_=> .fail "convert of what string"
 |_,_=> .fail "convert"
def DX(x:Option Operand)(k:Option Int->M α):M α:=
 match x with
 |none=>k none
 |some x=>ev x fun
  | .d (.int _ n)=>k (some n)
  |_=> .fail "slice bound"
def aeY(l:List UInt8)(lo hi:Option Int)(r:SV->M α):M α:=
 match lo,hi with
 |none,none=>r (.d (.str l))
 |some i,none=> .need (0<=i∧i<=l.length) (r (.d (.str (l.drop i.toNat))))
 |none,some j=> .need (0<=j∧j<=l.length) (r (.d (.str (l.take j.toNat))))
 |some i,some j=> .need (0<=i∧i<=j∧j<=l.length) (r (.d (.str ((l.take j.toNat).drop i.toNat))))
def ah0(P:Program)(E:Nat)(x:SV)(lo hi:Option Int)(r:SV->M α):M α:=
 match x with
 | .d (.list len sz get)=>match jT P E sz with
   |true=> .need (0<=lo.getD 0∧lo.getD 0<=hi.getD len∧hi.getD len<=len) (r (.d (.list ((hi.getD len)-(lo.getD 0)).toNat sz fun i j=>get ((lo.getD 0).toNat+i) j)))
   |false=> .fail "slice size"
 | .bW n sz off len=>match jT P E sz with
   |true=> .need (0<=lo.getD 0∧lo.getD 0<=hi.getD len∧hi.getD len<=len) (r (.bW n sz (off+(lo.getD 0).toNat) ((hi.getD len)-(lo.getD 0)).toNat))
   |false=> .fail "slice size"
 | .d (.val (.slice none 0 0))=>match jT P E (P.cellsOf E)with
   |true=> .need (lo.getD 0=0∧hi.getD 0=0) (r (.d (.val (.slice none 0 0))))
   |false=> .fail "slice size"
 |_=> .fail "slice of what"
def gW(s:List UInt8)(pos:Nat):Nat×Nat:=Utf8.decode ⟨⟨s⟩⟩ pos
end pieces
def upd(dst:Option Nat)(v:SV):M bf:= .ret {dst,v,own:=[],del:=[],new:=[],pub:=[]}
def zl(dst:Option Nat)(k:Nat->M bf):M bf:=
 match dst with
 |some d=>k d
 |none=> .fail "no dst"
def aeE(rec:Nat->Bool):List Field->Bool
 |[]=>true
 |⟨_,t,_,_,_,_,_⟩::fs=>match rec t with
  |true=>aeE rec fs
  |false=>false
def ahY(P:Program):Nat->Nat->Bool
 |0,_=>false
 |n+1,T=>match P.underlying T with
  |some (.int _)|some .bool|some .string=>true
  |some (.struct ⟨fs⟩)=>aeE (ahY P n) fs
  |_=>false
def aeD(P:Program):List Nat->Bool
 |[]=>true
 |t::l=>match ahY P 6 t with
  |true=>aeD P l
  |false=>false
def XR(P:Program)(f:FuncId):Bool:=
 match P.funcs[f]? with
 |some fn=>aeD P fn.resultTypes.toList
 |none=>false
def tq(P:Program)(T sz:Nat):Bool:=
 match P.info? T with
 |some i=>match i.zero with
  |some (.agg ⟨cs⟩)=>match Nat.beq cs.length i.size,Nat.beq sz i.size with
   |true,true=>Nat.blt 0 sz
   |_,_=>false
  |some (.int _ _)|some (.bool _)|some (.string _)|some (.slice _ _ _)|some (.pointer _)=>match Nat.beq 1 i.size,Nat.beq sz i.size with
   |true,true=>true
   |_,_=>false
  |_=>false
 |none=>false
def Nk(sz:Nat)(x:SV)(k:Nat->(Nat->Nat->D)->M bf):M bf:=
 match x with
 | .d (.list m s get)=>match Nat.beq s sz with
   |true=>k m get
   |false=> .fail "append size"
 | .d (.nl m s get)=>match Nat.beq s sz with
   |true=>k m get
   |false=> .fail "append size"
 | .d (.val (.slice none 0 0))=>k 0 (fun _ _=>default)
 | .bW n s off m=> .own n fun
   | .row _ _ _ get=>match Nat.beq s sz with
     |true=>k m (fun i j=>get (off+i) j)
     |false=> .fail "append size"
   |_=> .fail "append of what row"
 |_=> .fail "append of what"
def sameRow(n:Nat):SV->Bool
 | .bW k _ _ _=>Nat.beq n k
 |_=>false
def Ry(P:Program)(dst:Option Nat)(E sz:Nat)(s x:SV):M bf:=
 zl dst fun d=>match tq P E sz with
 |false=> .fail "append element"
 |true=>match s with
  | .d (.val (.slice none 0 0))=>Nk sz x fun m get=>
     .need (m*P.bytesOf E<=140737488355328∧m<=9223372036854775807) (.ret {dst,v:= .bW d sz 0 m,own:=[(d,.row E sz m get)],del:=[],new:=[d],pub:=[]})
  | .bW n _ 0 len=> .own n fun
    | .row E' s len' get=>match Nat.beq s sz,Nat.beq E E' with
      |true,true=>match sameRow n x with
       |true=>Nk sz x fun m g2=>
        .need (len<=len'∧(len+m)*P.bytesOf E<=140737488355328∧len+m<=9223372036854775807)
         (.ret {dst,v:= .bW d sz 0 (len+m),own:=[(d,.row E sz (len+m) fun i j=>if i<len then get i j else g2 (i-len) j)],del:=[n],new:=[d],pub:=[]})
       |false=>Nk sz x fun m g2=>
        .need (len=len'∧(len+m)*P.bytesOf E<=140737488355328∧len+m<=9223372036854775807)
         (.ret {dst,v:= .bW d sz 0 (len+m),own:=[(d,.row E sz (len+m) fun i j=>if i<len then get i j else g2 (i-len) j)],del:=[n],new:=[d],pub:=[]})
      |_,_=> .fail "append type"
    |_=> .fail "append to what row"
  | .bW n _ off len=> .own n fun
    | .row E' s len' get=>match Nat.beq s sz,Nat.beq E E',sameRow n x with
      |true,true,false=>Nk sz x fun m g2=>
        .need (off+len<=len'∧(len+m)*P.bytesOf E<=140737488355328∧len+m<=9223372036854775807)
         (.ret {dst,v:= .bW d sz 0 (len+m),own:=[(d,.row E sz (len+m) fun i j=>if i<len then get (off+i) j else g2 (i-len) j)],del:=[n],new:=[d],pub:=[]})
      |_,_,_=> .fail "append type"
    |_=> .fail "append to what row"
  |_=> .fail "append to what"
def aeZ(P:Program)(dst:Option Nat)(E sz:Nat)(x y:SV):M bf:=
 match tq P E sz with
 |false=> .fail "copy element"
 |true=>match x with
  | .bW n _ off len=> .own n fun
    | .row E s L g=>match Nat.beq s sz with
      |true=>Nk sz y fun m g2=>
       .ret {dst,v:= .d (.int .i64 (min m len:Nat)),own:=[(n,.row E s L fun i j=>if off<=i∧i<off+min m len then g2 (i-off) j else g i j)],del:=[],new:=[],pub:=[]}
      |false=> .fail "copy size"
    |_=> .fail "copy into what row"
  |_=> .fail "copy into what"
def Yf(P:Program)(dst:Option Nat)(E sz:Nat)(x:SV):M bf:=
 match tq P E sz with
 |false=> .fail "clear element"
 |true=>match x with
  | .bW n _ off len=> .own n fun
    | .row E' s L g=>match Nat.beq s sz with
      |true=>pG P E fun z=>vk z fun zd=>
       .ret {dst,v:= .cO [],own:=[(n,.row E' s L fun i j=>if off<=i∧i<off+len then zd.getD j default else g i j)],del:=[],new:=[],pub:=[]}
      |false=> .fail "clear size"
    |_=> .fail "clear what row"
  |_=> .fail "clear what"
def Hr(P:Program)(dst:Option Nat)(E sz:Nat)(x:SV):M bf:=
 match tq P E sz with
 |false=> .fail "append element"
 |true=>Nk sz x fun m get=> .need (m*P.bytesOf E<=140737488355328∧m<=9223372036854775807) (upd dst (.d (.list m sz get)))
def Rz(P:Program)(dst:Option Nat)(E sz:Nat)(s x:SV):M bf:=
 match s with
 | .bW n _ off len=>zl dst fun d=>match tq P E sz with
   |false=> .fail "append element"
   |true=> .own n fun
    | .row E' s len' get=>match Nat.beq s sz,Nat.beq E E',sameRow n x with
      |true,true,false=>Nk sz x fun m g2=>
        .need (off+len<=len'∧(len+m)*P.bytesOf E<=140737488355328∧len+m<=9223372036854775807)
         (.ret {dst,v:= .bW d sz 0 (len+m),own:=[(d,.row E sz (len+m) fun i j=>if i<len then get (off+i) j else g2 (i-len) j),(n,.gone)],del:=[],new:=[d],pub:=[]})
      |_,_,_=> .fail "append type"
    |_=> .fail "append to what row"
 |s=>Ry P dst E sz s x
def ZO(P:Program)(E0:List Nat)(dst:Option Nat)(E sz:Nat)(s x:SV):M bf:=
 match g_ (E+12000000) E0 with
 |true=>Rz P dst E sz s x
 |false=>match g_ (E+4000000) E0,s with
  |true,.d (.val (.slice none 0 0))=>Hr P dst E sz x
  |_,_=>Ry P dst E sz s x
def VA(P:Program)(E0:List Nat)(dst:Option Nat)(b:Builtin)(argTypes:List Nat)(args:List SV):M bf:=
 match b,args with
 | .len,[x]=>match argTypes with
   |T::_=>match P.underlying T with
    |some .string=>match x with
     | .d (.str l)=>upd dst (.d (.int .i64 l.length))
     |_=> .fail "len of what string"
    |some (.slice _)=>sliceLen x fun n=>upd dst (.d (.int .i64 n))
    |_=> .fail "len type"
   |[]=> .fail "len"
 | .min,[.d (.int k a),.d (.int _ b)]=>upd dst (.d (.int k (if b<a then b else a)))
 | .max,[.d (.int k a),.d (.int _ b)]=>upd dst (.d (.int k (if b>a then b else a)))
 | .append,[s,x]=>match argTypes with
   |[T,T']=>match Nat.beq T T' with
    |true=>A8 P T fun E sz=>ZO P E0 dst E sz s x
    |false=> .fail "append types"
   |_=> .fail "append"
 | .copy,[x,y]=>match argTypes with
   |[T,T']=>match Nat.beq T T' with
    |true=>A8 P T fun E sz=>aeZ P dst E sz x y
    |false=> .fail "copy types"
   |_=> .fail "copy"
 | .clear,[x]=>match argTypes with
   |[T]=>A8 P T fun E sz=>Yf P dst E sz x
   |_=> .fail "clear"
 |_,_=> .fail "builtin"
def uD:List SV->List Nat
 |[]=>[]
 | .bW n _ _ _::l=>n::uD l
 |_::l=>uD l
def xI:List SV->List Nat
 |[]=>[]
 | .bW n _ _ _::l=>n::xI l
 | .agg cs::l=>uD cs++xI l
 | .clo _ cs::l=>uD cs++xI l
 | .VY _ cs::l=>uD cs++xI l
 |_::l=>xI l
def FW:List Nat->List Nat->List Nat
 |[],acc=>acc
 |n::l,acc=>match g_ n acc with
  |true=>FW l acc
  |false=>FW l (acc++[n])
def LM:List Nat->List Nat->(List Nat->M bf)->M bf
 |[],acc,k=>k acc
 |n::l,acc,k=> .own n fun
  | .box cs=>LM l (FW (uD cs) acc) k
  |_=>LM l acc k
def Hl(ns:List Nat)(k:List Nat->M bf):M bf:=LM ns ns k
def FQ(P:Program)(E:List Nat)(dst:Option Nat)(f:FuncId)(args:List SV):M bf:=
 match g_ (f+2000000) E with
 |true=>Hl (FW (xI args) (FW (mQ args) [])) fun names=> .call dst f args names [] []
 |false=>og args fun args ns=>match ns with
  |[]=>Hl (FW (mQ args) []) fun names=> .call dst f args names [] []
  |_::_=>match mQ args,XR P f with
   |[],true=> .call dst f args [] ns []
   |names,_=>Hl (FW names []) fun names=> .call dst f args names [] ns
def Sv(P:Program)(src T:Nat):Option Nat:=
 match P.underlying src,P.underlying T with
 |some .string,some (.slice e)=>match P.underlying e with
  |some (.int .u8)=>some e
  |_=>none
 |_,_=>none
def byteRow(l:List UInt8)(i _:Nat):D:= .int .u8 (l.getD i 0).toNat
def akR(P:Program)(dst:Option Nat)(E:Nat)(vs:List SV)(ns:List Nat)(lo hi:Option Int)(mx:SV):M bf:=
 match vs,hi,mx with
 |[.d (.list len sz get)],some hi,.d (.int _ m)=>match jT P E sz with
  |true=> .need (0<=lo.getD 0∧lo.getD 0<=hi∧hi<=m∧m<=len) (.ret {dst,v:= .d (.list (hi-lo.getD 0).toNat sz fun i j=>get ((lo.getD 0).toNat+i) j),own:=[],del:=[],new:=[],pub:=ns})
  |false=> .fail "slice size"
 |_,_,_=> .fail "full slice of what"
def KO(P:Program)(T:Nat)(k:Nat->IntKind->M bf):M bf:=
 match P.underlying T with
 |some (.map K V)=>match P.underlying K,P.underlying V with
  |some .string,some (.int i)=>k V i
  |_,_=> .fail "map key"
 |_=> .fail "no map"
def acj(P:Program)(V:Nat)(k:D->M bf):M bf:=
 match P.info? V with
 |some i=>match i.zero with
  |some v=>Nh v fun x=>dK x k
  |none=> .fail "zero"
 |none=> .fail "zero"
def lkV(ok:Bool)(d:D)(b:Bool):SV:=
 match ok with
 |true=> .cO [.d d,.d (.bool b)]
 |false=> .d d
def aiz(z:List SV):Nat->(List SV->M bf)->M bf
 |0,k=>k []
 |n+1,k=>aiz z n fun r=>k (z++r)
def Ko(p:Nat×Operand)(k:Nat×List SV->M bf):M bf:=
 match p with
 |(i,x)=>ev x fun v=>qB v fun cs=>k (i,cs)
def yI(sz:Nat):List (Nat×List SV)->(List (Nat×List D)->List Nat->M bf)->M bf
 |[],k=>k [] []
 |(i,cs)::l,k=>nH cs fun cs ms=>vk cs fun ds=>match Nat.beq ds.length sz with
  |true=>yI sz l fun r ns=>k ((i,ds)::r) (ms++ns)
  |false=> .fail "buildSlice size"
def Je(len:Nat):List (Nat×Operand)->Bool
 |[]=>true
 |(i,_)::l=>match Nat.blt i len with
  |true=>Je len l
  |false=>false
def aiF(dst:Option Nat)(E sz len:Nat)(get:Nat->Nat->D)(ns:List Nat):M bf:=
 zl dst fun d=> .ret {dst,v:= .bW d sz 0 len,own:=[(d,.row E sz len get)],del:=[],new:=[d],pub:=ns}
def n_(P:Program)(G:Nat->Option (Nat×(Nat->D)))(E:List Nat)(dst:Option Nat)(op:Op):M bf:=
 match op with
 | .move x| .assign x=>ev x (upd dst)
 | .pick c a b=>ev c fun
   | .d (.bool t)=> .split t (ev a (upd dst)) (ev b (upd dst))
   |_=> .fail "pick"
 | .alloc T=>zl dst fun d=>pG P T fun z=> .ret {dst,v:= .ptr d 0,own:=[(d,.box z)],del:=[],new:=[d],pub:=[]}
 | .box _ x=>zl dst fun d=>ev x fun v=>qB v fun cs=> .ret {dst,v:= .ptr d 0,own:=[(d,.box cs)],del:=[],new:=[d],pub:=[]}
 | .build T parts=>match P.underlying T with
   |some (.struct ⟨fs⟩)=>match infos P fs with
    |true=>pG P T fun z=>DC Ko parts.toList fun ps=>Rq P fs ps z fun cs=>upd dst (.agg cs)
    |false=> .fail "build infos"
   |some (.array _ e)=>match jT P e (P.cellsOf e)with
    |true=>pG P T fun z=>DC Ko parts.toList fun ps=>FU (P.cellsOf e) ps z fun cs=>upd dst (.agg cs)
    |false=> .fail "build array"
   |_=> .fail "build"
 | .buildSlice T len parts=>A8 P T fun E' sz=>pG P E' fun z=>vk z fun zd=>DC Ko parts.toList fun ps=>
    match Je len parts.toList,Nat.ble (len*sz) 16777216,Nat.blt 0 sz with
    |true,true,true=>match g_ (T+3000000) E with
     |true=>zl dst fun d=>aiz z len fun z0=>FU sz ps z0 fun cs=> .ret {dst,v:= .bW d sz 0 len,own:=[(d,.arr sz cs)],del:=[],new:=[d],pub:=[]}
     |false=>yI sz ps fun ds ns=>match g_ (T+1000000) E with
      |true=>aiF dst E' sz len (PZ (fun _ j=>zd.getD j default) ds) ns
      |false=> .ret {dst,v:= .d (.list len sz (PZ (fun _ j=>zd.getD j default) ds)),own:=[],del:=[],new:=[],pub:=ns}
    |_,_,_=> .fail "buildSlice"
 | .load T a=>ev a fun
   | .ptr n off=> .own n fun
     | .box cs=>FB off cs fun cs=>Ii P T cs (upd dst)
     |_=> .fail "load box"
   | .qJ n _ i off=> .own n fun
     | .row _ sz len get=> .need (i<len) (Kr P T (sz-off) (fun j=>get i (off+j)) (upd dst))
     | .arr sz cs=>FB (i*sz+off) cs fun cs=>Ii P T cs (upd dst)
     |_=> .fail "load row"
   | .qN sz get=>Kr P T sz get (upd dst)
   |_=> .fail "load"
 | .store T a x=>ev a fun
   | .ptr n off=>ev x fun v=>qB v fun new=>match jT P T new.length with
     |true=> .own n fun
      | .box cs=>BA off new cs fun cs=> .ret {dst,v:= .junk,own:=[(n,.box cs)],del:=[],new:=[],pub:=[]}
      |_=> .fail "store box"
     |false=> .fail "store size"
   | .qJ n _ i off=>ev x fun v=>qB v fun new=>nH new fun new ns=>vk new fun ds=>match jT P T ds.length,g_ n ns with
     |true,false=> .own n fun
      | .row E sz len get=>match Nat.ble (off+ds.length) sz with
        |true=> .need (i<len) (.ret {dst,v:= .junk,own:=[(n,.row E sz len fun i' j'=>if i'=i then(if j'<off then get i' j' else if j'<off+ds.length then ds.getD (j'-off) default else get i' j')else get i' j')],del:=[],new:=[],pub:=ns})
        |false=> .fail "store over the end"
      |_=> .fail "store row"
     |_,_=> .fail "store size"
   |_=> .fail "store"
 | .nilCheck x=>ev x fun
   | .ptr n off=>upd dst (.ptr n off)
   | .qJ n s i off=>upd dst (.qJ n s i off)
   | .qN s g=>upd dst (.qN s g)
   |_=> .fail "nilCheck"
 | .binOp op T x y _=>ev x fun a=>ev y fun b=>ak0 P E op T a b (upd dst)
 | .unOp op _ x=>ev x fun a=>unK op a (upd dst)
 | .fieldAddr T x f=>ev x fun v=>G7 P T f fun off t=>match BH P t,v with
   |true,.ptr n a=>upd dst (.ptr n (a+off))
   |true,.qJ n s i a=>upd dst (.qJ n s i (a+off))
   |true,.qN s g=>upd dst (.qN (s-off) fun j=>g (off+j))
   |_,_=> .fail "fieldAddr"
 | .field T x f=>ev x fun v=>G7 P T f fun off t=>match v with
   | .agg cs=>FB off cs fun cs=>Ii P t cs (upd dst)
   |_=> .fail "field"
 | .indexAddr T (.global g) ix=>ev ix fun
   | .d (.int _ i)=>match G g with
     |some (sz,get)=>abx P T (.qN sz get) i (upd dst)
     |none=> .fail "global"
   |_=> .fail "indexAddr"
 | .indexAddr T x ix=>ev x fun v=>ev ix fun
   | .d (.int _ i)=>abx P T v i (upd dst)
   |_=> .fail "indexAddr"
 | .index T x ix=>ev x fun v=>ev ix fun w=>match P.underlying T,v,w with
   |some .string,.d (.str l),.d (.int _ i)=> .need (0<=i∧i<l.length) (upd dst (.d (.int .u8 (l.getD i.toNat 0).toNat)))
   |some (.array n e),.agg cs,.d (.int _ i)=>vk cs fun ds=>match Nat.ble (n*P.cellsOf e) ds.length with
    |true=> .need (0<=i∧i<n) (Kr P e (P.cellsOf e) (fun j=>ds.getD (i.toNat*P.cellsOf e+j) default) (upd dst))
    |false=> .fail "index of what array value"
   |_,_,_=> .fail "index"
 | .extract x i=>ev x fun
   | .cO vs=>adH vs i (upd dst)
   |_=> .fail "extract"
 | .convert src T x=>match Sv P src T with
   |some e=>zl dst fun d=>ev x fun
    | .d (.str l)=> .ret {dst,v:= .bW d 1 0 l.length,own:=[(d,.row e 1 l.length (byteRow l))],del:=[],new:=[d],pub:=[]}
    |_=> .fail "bytes of what string"
   |none=>ev x fun v=>ah1 P src T v (upd dst)
 | .makeSlice T l c=>zl dst fun d=>A8 P T fun E sz=>match tq P E sz with
   |true=>pG P E fun z=>vk z fun zd=>ev l fun
    | .d (.int _ n)=>ev c fun
      | .d (.int _ m)=> .need (0<=n∧n<=m∧(P.bytesOf E:Int)*m<=281474976710656∧m<=9223372036854775807)
         (.ret {dst,v:= .bW d sz 0 n.toNat,own:=[(d,.row E sz n.toNat fun _ j=>zd.getD j default)],del:=[],new:=[d],pub:=[]})
      |_=> .fail "make"
    |_=> .fail "make"
   |false=> .fail "make element"
 | .slice T x lo hi none=>match P.underlying T with
   |some .string=>ev x fun
    | .d (.str l)=>DX lo fun lo=>DX hi fun hi=>aeY l lo hi (upd dst)
    |_=> .fail "slice of what string"
   |some (.slice E)=>ev x fun v=>DX lo fun lo=>DX hi fun hi=>ah0 P E v lo hi (upd dst)
   |_=> .fail "slice"
 | .slice T x lo hi (some mx)=>match P.underlying T with
   |some (.slice E)=>ev x fun v=>og [v] fun vs ns=>DX lo fun lo=>DX hi fun hi=>ev mx fun m=>akR P dst E vs ns lo hi m
   |_=> .fail "full slice"
 | .makeMap T none=>zl dst fun d=>KO P T fun _ kd=> .ret {dst,v:= .mp d,own:=[(d,.smap kd fun _=>none)],del:=[],new:=[d],pub:=[]}
 | .mapUpdate T m k x=>KO P T fun _ _=>ev m fun
   | .mp n=>ev k fun
     | .d (.str s)=>ev x fun
       | .d (.int i y)=> .own n fun
         | .smap kd get=>match kEq i kd with
           |true=> .ret {dst,v:= .junk,own:=[(n,.smap kd fun s'=>if s'=s then some y else get s')],del:=[],new:=[],pub:=[]}
           |false=> .fail "map value"
         |_=> .fail "update of what map"
       |_=> .fail "map value"
     |_=> .fail "map key"
   |_=> .fail "update of what"
 | .lookup T m k ok=>KO P T fun V _=>ev m fun
   | .mp n=>ev k fun
     | .d (.str s)=> .own n fun
       | .smap kd get=> .split (get s).isSome (upd dst (lkV ok (.int kd ((get s).getD 0)) true)) (acj P V fun z=>upd dst (lkV ok z false))
       |_=> .fail "lookup in what map"
     |_=> .fail "map key"
   |_=> .fail "lookup in what"
 | .range T x=>zl dst fun d=>match P.underlying T with
   |some .string=>ev x fun
    | .d (.str l)=> .ret {dst,v:= .ptr d 0,own:=[(d,.iter l 0)],del:=[],new:=[d],pub:=[]}
    |_=> .fail "range of what"
   |_=> .fail "range"
 | .next it true=>ev it fun
   | .ptr n 0=> .own n fun
     | .iter s pos=> .split (Nat.blt pos s.length)
        (.ret {dst,v:= .cO [.d (.bool true),.d (.int .i64 pos),.d (.int .i32 (gW s pos).1)],own:=[(n,.iter s (pos+(gW s pos).2))],del:=[],new:=[],pub:=[]})
        (upd dst (.cO [.d (.bool false)]))
     |_=> .fail "next of what"
   |_=> .fail "next"
 | .makeFunc (.func f) ⟨[]⟩ ⟨caps⟩=>evs caps fun cs=>upd dst (.clo f cs)
 | .makeInterface T x=>match P.concrete T with
   |true=>ev x fun v=>upd dst (.VY T [v])
   |false=> .fail "interface"
 | .call c=>match c with
   |⟨.builtin b,⟨args⟩,⟨argTypes⟩⟩=>evs args fun args=>VA P E dst b argTypes args
   |⟨.value (.func f),⟨args⟩,_⟩=>evs args fun args=>FQ P E dst f args
   |⟨.value x,⟨args⟩,_⟩=>evs args fun args=>ev x fun
    | .clo f caps=>FQ P E dst f (args++caps)
    |_=> .fail "call of what"
   |_=> .fail "invoke"
 |_=> .fail "operation"
def vg:List Nat->List Nat->Bool
 |[],_=>true
 |n::l,m=>match g_ n m with
  |true=>false
  |false=>vg l m
def qM:Nat:=900000
def ZA(fn:Nat):FC->SV
 | .d x=> .d x
 | .fs k sz l=> .zG fn k sz l
def UO(fn:Nat)(get:Nat->FC):Nat->Nat->(List SV->M bf)->M bf
 |_,0,k=>k []
 |j,n+1,k=>UO fn get (j+1) n fun r=>k (ZA fn (get j)::r)
def YZ(P:Program)(T sz fn:Nat)(get:Nat->FC)(k:SV->M bf):M bf:=
 match P.underlying T with
 |none=> .fail "type"
 |some d=>match qg d with
  |true=>match Nat.ble (P.cellsOf T) sz with
   |true=>UO fn get 0 (P.cellsOf T) fun l=>k (.agg l)
   |false=> .fail "size"
  |false=>match Nat.ble 1 sz with
   |true=>k (ZA fn (get 0))
   |false=> .fail "size"
def mO(rows:Nat->Option fM)(k i j:Nat):D:=
 match rows k with
 |some r=>r.get i j
 |none=>default
def jc(rows:Nat->Option fM)(k:Nat)(r:Option fM):Nat->Option fM:=fun i=>if i=k then r else rows i
def Lh(rows:Nat->Option fM):FC->D
 | .d x=>x
 | .fs k sz l=> .list l sz (mO rows k)
def Z9(rows:Nat->Option fM):FC->Prop
 | .d _=>True
 | .fs k sz l=> ∃r,rows k=some r∧r.sz=sz∧l<=r.len
def D6(fn:Nat):List SV->Nat->(Nat->Option fM)->(List FC->Nat->(Nat->Option fM)->List Nat->M bf)->M bf
 |[],nk,rows,k=>k [] nk rows []
 | .d x::l,nk,rows,k=>D6 fn l nk rows fun r nk rows ns=>k (.d x::r) nk rows ns
 | .zG m i sz len::l,nk,rows,k=>match Nat.beq m fn with
   |true=>D6 fn l nk rows fun r nk rows ns=>k (.fs i sz len::r) nk rows ns
   |false=> .fail "a cell of another family"
 | .bW m sz 0 len::l,nk,rows,k=> .own m fun
   | .row E s L get=>match Nat.beq s sz with
     |true=>D6 fn l (nk+1) (jc rows nk (some ⟨E,s,L,get⟩)) fun r yw rows' ns=>match g_ m ns with
      |true=> .fail "a slice twice"
      |false=>k (.fs nk sz len::r) yw rows' (m::ns)
     |false=> .fail "size of a slice"
   |_=> .fail "a cell of what row"
 |_,_,_,_=> .fail "a cell of what"
def Fj(fn:Nat)(k:Nat->(Nat->Option fM)->M bf):M bf:=
 .own fn fun
  | .fam nk rows=>k nk rows
  |_=> .fail "no family"
def OD(x:SV)(k:SV->List Nat->M bf):M bf:=
 match x with
 | .bW n _ off len=> .own n fun
   | .row _ sz _ get=>k (.d (.list len sz fun i j=>get (off+i) j)) [n]
   | .dP fn _ sz _ get=>Fj fn fun _ rows=> .need (∀i j,i<len->j<sz->Z9 rows (get (off+i) j)) (k (.d (.list len sz fun i j=>Lh rows (get (off+i) j))) [n,fn])
   |_=> .fail "lend"
 | .zG fn i sz l=>Fj fn fun _ rows=> .need (Z9 rows (.fs i sz l)) (k (.d (.list l sz (mO rows i))) [fn])
 |x=>k x []
def QK:List SV->(List SV->List Nat->M bf)->M bf
 |[],k=>k [] []
 |x::l,k=>OD x fun y ns=>QK l fun r ms=>k (y::r) (ns++ms)
def DF:List SV->(List SV->List Nat->M bf)->M bf
 |[],k=>k [] []
 | .agg cs::l,k=>QK cs fun ds ns=>DF l fun r ms=>k (.agg ds::r) (ns++ms)
 |x::l,k=>OD x fun y ns=>DF l fun r ms=>k (y::r) (ns++ms)
def Pn(P:Program)(E:List Nat)(dst:Option Nat)(f:FuncId)(args:List SV):M bf:=
 match g_ (f+2000000) E,g_ (f+8000000) E with
 |false,false=>DF args fun ds ns=>match ns with
  |[]=>FQ P E dst f args
  |_::_=>Hl (FW (mQ args) []) fun names=>match vg names ns with
   |true=> .call dst f ds names ns []
   |false=> .fail "lent and handed on"
 |false,true=>DF args fun ds ns=>match ns with
  |[]=>FQ P E dst f args
  |_::_=>Hl (FW (mQ args) []) fun names=> .call dst f ds names [] ns
 |_,_=>FQ P E dst f args
def wS(get:Nat->Nat->D)(i:Nat)(x:D):Nat->Nat->D:=fun a j=>if a<i then get a j else if a=i then x else get (a-1) j
def aiU(P:Program)(dst:Option Nat)(f:FuncId)(args:List SV):M bf:=
 match args with
 |[.bW n s 0 len,.d (.int .i64 i),.bW m t 0 l]=>match Nat.beq s 1,Nat.beq t 1,Nat.beq l 1,Nat.beq n m with
  |true,true,true,false=>zl dst fun d=> .own n fun
   | .row E' s' len' get=> .own m fun
     | .arr 1 [.d x]=>match Nat.beq s' 1 with
       |true=> .need (afC P f E'∧0<=i∧i<=len∧len=len'∧(len+1)*8<=140737488355328)
        (.ret {dst,v:= .bW d 1 0 (len+1),own:=[(d,.row E' 1 (len+1) (wS get i.toNat x))],del:=[n],new:=[d],pub:=[]})
       |false=> .fail "insert size"
     |_=> .fail "insert of what"
   |_=> .fail "insert into what row"
  |_,_,_,_=> .fail "insert"
 |_=> .fail "insert"
def aeo(P:Program)(E:List Nat)(dst:Option Nat)(f:FuncId)(args:List SV):M bf:=
 match g_ (f+9000000) E with
 |true=>aiU P dst f args
 |false=>Pn P E dst f args
def aiO(P:Program)(dst:Option Nat)(T:Nat)(parts:List (Nat×Operand)):M bf:=
 match parts with
 |[(0,x)]=>zl dst fun d=>A8 P T fun E sz=>pG P E fun z=>vk z fun _=>ev x fun v=>qB v fun cs=>match Nat.beq cs.length sz,Nat.blt 0 sz,Nat.ble sz 16777216 with
  |true,true,true=>Fj qM fun nk rows=>D6 qM cs nk rows fun o_ nk rows ns=>
   .ret {dst,v:= .bW d sz 0 1,own:=[(qM,.fam nk rows),(d,.dP qM E sz 1 fun _ j=>o_.getD j default)],del:=qM::ns,new:=[d],pub:=[]}
  |_,_,_=> .fail "literal size"
 |_=> .fail "literal of what"
def Xw:SV->Bool
 | .d (.val (.slice none 0 0))=>true
 |_=>false
def ain(fn sz:Nat)(n:Nat)(x:SV)(k:Nat->(Nat->Nat->FC)->M bf):M bf:=
 match x with
 | .d (.list m s get)=>match Nat.beq s sz with
   |true=>k m fun i j=> .d (get i j)
   |false=> .fail "append size"
 | .bW m s off l=> .own m fun
   | .dP fn' _ _ _ get=>match Nat.beq fn' fn,Nat.beq s sz,Nat.beq m n with
     |true,true,false=>k l fun i j=>get (off+i) j
     |_,_,_=> .fail "append size"
   | .row _ _ _ get=>match Nat.beq s sz,Nat.beq m n with
     |true,false=>k l fun i j=> .d (get (off+i) j)
     |_,_=> .fail "append size"
   |_=> .fail "append of what row"
 |_=> .fail "append of what"
def VJ(P:Program)(dst:Option Nat)(E sz:Nat)(n len:Nat)(fn E' s L:Nat)(get:Nat->Nat->FC)(x:SV):M bf:=
 zl dst fun d=>match tq P E sz,Nat.beq s sz,Nat.beq E E' with
 |true,true,true=>ain fn sz n x fun m g2=>
  .need (len=L∧(len+m)*P.bytesOf E<=140737488355328∧len+m<=9223372036854775807)
   (.ret {dst,v:= .bW d sz 0 (len+m),own:=[(d,.dP fn E sz (len+m) fun i j=>if i<len then get i j else g2 (i-len) j)],del:=[n],new:=[d],pub:=[]})
 |_,_,_=> .fail "append type"
def VI(P:Program)(dst:Option Nat)(E sz:Nat)(fn i len:Nat)(x:SV):M bf:=
 zl dst fun d=>match tq P E sz with
 |true=>Fj fn fun nk rows=>Nk sz x fun m g2=>
  .need ((∃r,rows i=some r∧r.E=E∧r.sz=sz∧r.len=len)∧(len+m)*P.bytesOf E<=140737488355328∧len+m<=9223372036854775807)
   (.ret {dst,v:= .bW d sz 0 (len+m),own:=[(fn,.fam nk (jc rows i none)),(d,.row E sz (len+m) fun a j=>if a<len then mO rows i a j else g2 (a-len) j)],del:=[fn,d+500000],new:=[d+500000,d],pub:=[]})
 |false=> .fail "append type"
def Rx(P:Program)(G:Nat->Option (Nat×(Nat->D)))(E0:List Nat)(dst:Option Nat)(op:Op)(s x:Operand)(T T':Nat):M bf:=
 ev s fun sv=>match sv with
 | .zG fn i _ len=>match Nat.beq T T' with
   |true=>ev x fun xv=>A8 P T fun E sz=>VI P dst E sz fn i len xv
   |false=> .fail "append types"
 | .bW n _ 0 len=> .own n fun
   | .dP fn E' s L get=>match Nat.beq T T' with
     |true=>ev x fun xv=>A8 P T fun E sz=>VJ P dst E sz n len fn E' s L get xv
     |false=> .fail "append types"
   |_=>n_ P G E0 dst op
 |_=>match Xw sv with
  |true=>ev x fun
   | .bW m s 0 l=> .own m fun
     | .dP fn E' s' L get=>match Nat.beq T T' with
       |true=>A8 P T fun E sz=>zl dst fun d=>match tq P E sz,Nat.beq s sz,Nat.beq s' sz with
        |true,true,true=> .need (l*P.bytesOf E<=140737488355328∧l<=9223372036854775807)
         (.ret {dst,v:= .bW d sz 0 l,own:=[(d,.dP fn E sz l get)],del:=[],new:=[d],pub:=[]})
        |_,_,_=> .fail "append type"
       |false=> .fail "append types"
     |_=>n_ P G E0 dst op
   |_=>n_ P G E0 dst op
  |false=>n_ P G E0 dst op
def QN(P:Program):List Field->Nat->(List IntKind->M bf)->M bf
 |[],_,k=>k []
 |⟨name,t,o,_,_,_,_⟩::fs,off,k=>match P.underlying t,name== "_",Nat.beq o off with
  |some (.int i),false,true=>QN P fs (off+1) fun r=>k (i::r)
  |_,_,_=> .fail "map key"
def QF(P:Program)(E:List Nat)(T:Nat)(k:Bool->List IntKind->Nat->Bool->Nat->M bf):M bf:=
 match P.underlying T with
 |some (.map K V)=>match P.underlying V with
  |some dv=>match P.underlying K with
   |some (.int i)=>k false [i] V (qg dv) (P.cellsOf V)
   |some (.struct ⟨fs⟩)=>match g_ K E with
    |true=>QN P fs 0 fun kk=>k true kk V (qg dv) (P.cellsOf V)
    |false=> .fail "map key type"
   |_=> .fail "map key"
  |none=> .fail "map value"
 |_=> .fail "no map"
def KW:List IntKind->List SV->(List Int->M bf)->M bf
 |[],[],k=>k []
 |i::kk,.d (.int j n)::l,k=>match kEq i j with
  |true=>KW kk l fun r=>k (n::r)
  |false=> .fail "map key"
 |_,_,_=> .fail "map key"
def Xt(ka:Bool)(kk:List IntKind)(x:SV)(k:List Int->M bf):M bf:=
 match ka,x with
 |true,.agg cs=>KW kk cs k
 |false,.d (.int i n)=>KW kk [.d (.int i n)] k
 |_,_=> .fail "map key"
def mapVal(va:Bool)(cs:List SV)(k:SV->M bf):M bf:=
 match va,cs with
 |true,cs=>k (.agg cs)
 |false,[x]=>k x
 |_,_=> .fail "map value"
def YC(P:Program)(V:Nat)(va:Bool)(k:SV->M bf):M bf:=
 match P.info? V with
 |some i=>match va,i.zero with
  |true,some (.agg ⟨cs⟩)=>DC Nh cs fun l=>k (.agg l)
  |false,some v=>Nh v k
  |_,_=> .fail "zero"
 |none=> .fail "zero"
def Pv:Bool->SV->Bool
 |true,.agg _=>true
 |true,_=>false
 |false,.agg _=>false
 |false,_=>true
def okV(ok:Bool)(v:SV)(b:Bool):SV:=
 match ok with
 |true=> .cO [v,.d (.bool b)]
 |false=>v
def aeh(P:Program)(T:Nat):Bool:=
 match P.underlying T with
 |some (.slice _)=>true
 |_=>false
def eqNil:SV->SV->Option Bool
 | .d (.val (.slice none _ _)),.d (.val (.slice none 0 0))=>some true
 | .d (.nl _ _ _),.d (.val (.slice none 0 0))=>some false
 |_,_=>none
def aei(P:Program)(T:Nat):Bool:=
 match P.underlying T with
 |some (.func _ _ _)=>true
 |_=>false
def XY:SV->SV->Option Bool
 | .d (.val (.func _ _ _)),.d (.val .nilFunc)=>some false
 | .d (.val .nilFunc),.d (.val .nilFunc)=>some true
 |_,_=>none
def Rf:SV->SV
 | .clo f []=> .d (.val (.func (.func f) ⟨[]⟩ ⟨[]⟩))
 |x=>x
def useF(E:List Nat):Bool:=g_ 7000000 E
def T_(P:Program)(G:Nat->Option (Nat×(Nat->D)))(E:List Nat)(dst:Option Nat)(op:Op):M bf:=
 match useF E with
 |false=>n_ P G E dst op
 |true=>match op with
  | .buildSlice T len ⟨parts⟩=>match g_ (T+6000000) E,Nat.beq len 1 with
    |true,true=>aiO P dst T parts
    |_,_=>match parts with
     |[]=>n_ P G ((T+1000000)::E) dst (.buildSlice T len ⟨[]⟩)
     |p::ps=>n_ P G E dst (.buildSlice T len ⟨p::ps⟩)
  | .load T a=>ev a fun
    | .qJ n _ i off=> .own n fun
      | .dP fn _ sz len get=> .need (i<len) (YZ P T (sz-off) fn (fun j=>get i (off+j)) (upd dst))
      |_=>n_ P G E dst (.load T a)
    |_=>n_ P G E dst (.load T a)
  | .store T a x=>ev a fun
    | .uZ n kk sz i off=>ev x fun v=>qB v fun new=>vk new fun ds=>match jT P T ds.length,Nat.ble (off+ds.length) sz with
      |true,true=>Fj n fun nk rows=> .need (∃r,rows kk=some r∧r.sz=sz∧i<r.len) (.ret {dst,v:= .junk,own:=[(n,.fam nk fun k=>if k=kk then(rows kk).map fun r=>{r with get:=fun i' j'=>if i'=i then(if j'<off then r.get i' j' else if j'<off+ds.length then ds.getD (j'-off) default else r.get i' j')else r.get i' j'}else rows k)],del:=[],new:=[],pub:=[]})
      |_,_=> .fail "store size"
    | .qJ n _ i off=> .own n fun
      | .dP fn E' sz len get=>ev x fun v=>qB v fun new=>Fj fn fun nk rows=>D6 fn new nk rows fun o_ nk rows ns=>match jT P T o_.length,Nat.ble (off+o_.length) sz with
        |true,true=> .need (i<len) (.ret {dst,v:= .junk,own:=[(fn,.fam nk rows),(n,.dP fn E' sz len fun i' j'=>if i'=i then(if j'<off then get i' j' else if j'<off+o_.length then o_.getD (j'-off) default else get i' j')else get i' j')],del:=fn::ns,new:=[],pub:=[]})
        |_,_=> .fail "store size"
      |_=>n_ P G E dst (.store T a x)
    |_=>n_ P G E dst (.store T a x)
  | .nilCheck x=>ev x fun
    | .uZ n k s i o=>upd dst (.uZ n k s i o)
    |_=>n_ P G E dst (.nilCheck x)
  | .fieldAddr T x f=>ev x fun
    | .uZ n k s i o=>G7 P T f fun off t=>match BH P t with
      |true=>upd dst (.uZ n k s i (o+off))
      |false=> .fail "fieldAddr"
    |_=>n_ P G E dst (.fieldAddr T x f)
  | .indexAddr T (.tmp x) ix=>ev (.tmp x) fun
    | .zG n k sz l=>ev ix fun
      | .d (.int _ i)=>match P.underlying T with
        |some (.slice E')=>match jT P E' sz with
         |true=> .need (0<=i∧i<l) (upd dst (.uZ n k sz i.toNat 0))
         |false=> .fail "index size"
        |_=> .fail "index type"
      |_=> .fail "indexAddr"
    |_=>n_ P G E dst (.indexAddr T (.tmp x) ix)
  | .binOp .eql T x y t=>ev x fun a=>ev y fun b=>match aeh P T,eqNil a b with
    |true,some r=>upd dst (.d (.bool r))
    |_,_=>match aei P T,XY a b with
     |true,some r=>upd dst (.d (.bool r))
     |_,_=>n_ P G E dst (.binOp .eql T x y t)
  | .makeMap T none=>match g_ (T+6000000) E with
    |true=>zl dst fun d=>Fj qM fun _ _=>QF P E T fun ka kk _ va sz=> .ret {dst,v:= .mp d,own:=[(d,.dW qM ka kk va sz (fun _=>false) fun _ _=>default)],del:=[],new:=[d],pub:=[]}
    |false=>n_ P G E dst (.makeMap T none)
  | .mapUpdate T m k x=>ev m fun
    | .mp n=> .own n fun
      | .dW fn ka kk va sz has get=>ev k fun kv=>Xt ka kk kv fun ks=>ev x fun v=>qB (Rf v) fun new=>Fj fn fun nk rows=>D6 fn new nk rows fun o_ nk rows ns=>match Nat.beq o_.length sz,Pv va (Rf v)with
        |true,true=>QF P E T fun Xu Xp _ va' sz'=> .need (ka=Xu∧kk=Xp∧va=va'∧sz=sz') (.ret {dst,v:= .junk,own:=[(fn,.fam nk rows),(n,.dW fn ka kk va sz (fun q=>q==ks||has q) fun q j=>if q=ks then o_.getD j default else get q j)],del:=fn::ns,new:=[],pub:=[]})
        |_,_=> .fail "map value"
      |_=>n_ P G E dst (.mapUpdate T m k x)
    |_=>n_ P G E dst (.mapUpdate T m k x)
  | .insert T m k x=>ev m fun
    | .mp n=> .own n fun
      | .dW fn ka kk va sz has get=>ev k fun kv=>Xt ka kk kv fun ks=>ev x fun v=>qB (Rf v) fun new=>Fj fn fun nk rows=>D6 fn new nk rows fun o_ nk rows ns=>match Nat.beq o_.length sz,Pv va (Rf v)with
        |true,true=>QF P E T fun Xu Xp _ va' sz'=> .need (ka=Xu∧kk=Xp∧va=va'∧sz=sz') (.ret {dst,v:= .junk,own:=[(fn,.fam nk rows),(n,.dW fn ka kk va sz (fun q=>q==ks||has q) fun q j=>if q=ks then o_.getD j default else get q j)],del:=fn::ns,new:=[],pub:=[]})
        |_,_=> .fail "map value"
      |_=>n_ P G E dst (.insert T m k x)
    |_=>n_ P G E dst (.insert T m k x)
  | .lookup T m k ok=>ev m fun
    | .mp n=> .own n fun
      | .dW fn ka kk va sz has get=>ev k fun kv=>Xt ka kk kv fun ks=>QF P E T fun Xu Xp V va' sz'=> .need (ka=Xu∧kk=Xp∧va=va'∧sz=sz') (.split (has ks)
         (UO fn (get ks) 0 sz fun cs=>mapVal va cs fun v=>upd dst (okV ok v true))
         (YC P V va fun v=>upd dst (okV ok v false)))
      |_=>n_ P G E dst (.lookup T m k ok)
    |_=>n_ P G E dst (.lookup T m k ok)
  | .call c=>match c with
    |⟨.builtin .len,⟨[x]⟩,⟨[T]⟩⟩=>ev x fun
     | .zG _ _ _ l=>match P.underlying T with
       |some (.slice _)=>upd dst (.d (.int .i64 l))
       |_=> .fail "len type"
     |_=>n_ P G E dst (.call ⟨.builtin .len,⟨[x]⟩,⟨[T]⟩⟩)
    |⟨.builtin .append,⟨[s,x]⟩,⟨[T,T']⟩⟩=>Rx P G E dst (.call ⟨.builtin .append,⟨[s,x]⟩,⟨[T,T']⟩⟩) s x T T'
    |⟨.value (.func f),⟨args⟩,_⟩=>evs args fun args=>aeo P E dst f args
    |⟨.value (.tmp x),⟨args⟩,_⟩=>evs args fun args=>ev (.tmp x) fun
     | .clo f caps=>Pn P E dst f (args++caps)
     | .d (.val (.func (.func f) ⟨[]⟩ ⟨[]⟩))=>Pn P E dst f (args++[])
     |_=> .fail "call of what"
    |c=>n_ P G E dst (.call c)
  |op=>n_ P G E dst op
structure Stuck (why:String):Prop where
 out:False
def look:List (Nat×SV)->Nat->Option SV
 |[],_=>none
 |(i,v)::l,k=>match Nat.beq i k with
  |true=>some v
  |false=>look l k
def lookO:List (Nat×bG)->Nat->Option bG
 |[],_=>none
 |(i,v)::l,k=>match Nat.beq i k with
  |true=>some v
  |false=>lookO l k
def NJ:List (Nat×bG)->Nat->(List (Nat×bG)->Prop)->Prop
 |[],_,k=>k []
 |(i,v)::l,n,k=>match Nat.beq i n with
  |true=>NJ l n k
  |false=>NJ l n fun r=>k ((i,v)::r)
def LD(l:List (Nat×bG)):List Nat->(List (Nat×bG)->Prop)->Prop
 |[],k=>k l
 |n::ns,k=>NJ l n fun l=>LD l ns k
def JH(l:List (Nat×bG)):List (Nat×bG)->(List (Nat×bG)->Prop)->Prop
 |[],k=>k l
 |(n,b)::ns,k=>NJ l n fun l=>JH ((n,b)::l) ns k
def delS:List (Nat×SV)->Nat->(List (Nat×SV)->Prop)->Prop
 |[],_,k=>k []
 |(i,v)::l,n,k=>match Nat.beq i n with
  |true=>delS l n k
  |false=>delS l n fun r=>k ((i,v)::r)
structure Need (p X:Prop):Prop where
 h:p
 k:X
theorem Xg{p X:Prop}(k:X)(h:p):Need p X:=⟨h,k⟩
def lN(n:Nat)(sz:Nat)(get:Nat->Nat->D):List SV->(List SV->Prop)->Prop
 |[],k=>k []
 | .bW m s off len::l,k=>match Nat.beq m n with
   |true=>lN n sz get l fun r=>k (.d (.list len sz fun i j=>get (off+i) j)::r)
   |false=>lN n sz get l fun r=>k (.bW m s off len::r)
 |x::l,k=>lN n sz get l fun r=>k (x::r)
def Oe(n:Nat)(sz:Nat)(get:Nat->Nat->D):SV->(SV->Prop)->Prop
 | .bW m s off len,k=>match Nat.beq m n with
   |true=>k (.d (.list len sz fun i j=>get (off+i) j))
   |false=>k (.bW m s off len)
 | .agg cs,k=>lN n sz get cs fun r=>k (.agg r)
 | .cO cs,k=>lN n sz get cs fun r=>k (.cO r)
 |x,k=>k x
def adg(n:Nat)(sz:Nat)(get:Nat->Nat->D):List (Nat×SV)->(List (Nat×SV)->Prop)->Prop
 |[],k=>k []
 |(i,v)::l,k=>Oe n sz get v fun v=>adg n sz get l fun r=>k ((i,v)::r)
def xG(n:Nat)(sz:Nat)(get:Nat->Nat->D):List (Nat×bG)->(List (Nat×bG)->Prop)->Prop
 |[],k=>k []
 |(i,.box cs)::l,k=>match Nat.beq i n with
  |true=>xG n sz get l k
  |false=>lN n sz get cs fun cs=>xG n sz get l fun r=>k ((i,.box cs)::r)
 |(i,.arr s cs)::l,k=>match Nat.beq i n with
  |true=>xG n sz get l k
  |false=>lN n sz get cs fun cs=>xG n sz get l fun r=>k ((i,.arr s cs)::r)
 |(i,b)::l,k=>match Nat.beq i n with
  |true=>xG n sz get l k
  |false=>xG n sz get l fun r=>k ((i,b)::r)
def pubs(n0:List Nat):List Nat->List (Nat×SV)->List (Nat×bG)->(List (Nat×SV)->List (Nat×bG)->Prop)->Prop
 |[],s,o,k=>k s o
 |n::ns,s,o,k=>match g_ n n0 with
  |true=>Stuck "a caller's row published"
  |false=>match lookO o n with
   |some (.row _ sz _ get)=>adg n sz get s fun s=>xG n sz get o fun o=>pubs n0 ns s o k
   |some (.dP fn _ sz len get)=>match g_ fn n0 with
    |true=>Stuck "a caller's family published"
    |false=>match lookO o fn with
     |some (.fam _ rows)=>Need (∀i j,i<len->j<sz->Z9 rows (get i j)) (adg n sz (fun i j=>Lh rows (get i j)) s fun s=>xG n sz (fun i j=>Lh rows (get i j)) o fun o=>NJ o fn fun o=>pubs n0 ns s o k)
     |_=>Stuck "publish"
   |some _=>Stuck "publish"
   |none=>pubs n0 ns s o k
def y7:List Nat->List Nat->(List Nat->Prop)->Prop
 |[],nm,k=>k nm
 |n::ns,nm,k=>match g_ n nm with
  |true=>Stuck "name"
  |false=>y7 ns (n::nm) k
def Jy(del n0:List Nat)(X:Prop):Prop:=
 match vg del n0 with
 |true=>X
 |false=>Stuck "a caller's row goes"
def qC:bf->St->(St->Prop)->Prop
 |⟨dst,v,own,del,new,pub⟩,⟨s,o,nm,n0⟩,K=>pubs n0 pub s o fun s o=>Jy del n0 (LD o del fun o=>JH o own fun o=>y7 new nm fun nm=>
  match dst with
  |some d=>delS s d fun s=>K ⟨(d,v)::s,o,nm,n0⟩
  |none=>K ⟨s,o,nm,n0⟩)
def bc(b:Bool)(X Y:Prop):Prop:=match b with|true=>X|false=>Y
theorem ah{b:Bool}{X Y:Prop}(h1:b=true->X)(h2:b=false->Y):bc b X Y:=by
 cases b
 ·exact h2 rfl
 ·exact h1 rfl
def Ir:D->Bool
 | .list _ _ _=>false
 | .nl _ _ _=>false
 |_=>true
def aeF:FC->Bool
 | .d x=>Ir x
 | .fs _ _ _=>true
mutual
def qR:SV->Bool
 | .d x=>Ir x
 | .qN _ _=>false
 | .agg cs=>y8 cs
 | .cO cs=>y8 cs
 | .clo _ cs=>y8 cs
 | .VY _ cs=>y8 cs
 |_=>true
def y8:List SV->Bool
 |[]=>true
 |c::cs=>match qR c with
  |true=>y8 cs
  |false=>false
end
def Z8:bG->Prop
 | .box cs=>y8 cs=true
 | .row _ sz len get=> ∀i j,i<len->j<sz->Ir (get i j)=true
 | .iter _ _=>True
 | .smap _ _=>True
 | .arr _ cs=>y8 cs=true
 | .fam _ rows=> ∀k r,rows k=some r-> ∀i j,i<r.len->j<r.sz->Ir (r.get i j)=true
 | .dP _ _ sz len get=> ∀i j,i<len->j<sz->aeF (get i j)=true
 | .dW _ _ _ _ sz has get=> ∀k j,has k=true->j<sz->aeF (get k j)=true
 | .gone=>True
def lT:List (Nat×bG)->Prop
 |[]=>True
 |(_,b)::l=>Z8 b∧lT l
end Go.Sx
