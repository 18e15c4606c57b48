/-
  The engine, part 1: the operations, what they ask, and that this is enough. Conditions: none.
-/
import Derived.Test.YtgibicifflfpfaaDoorX0
set_option autoImplicit false
namespace Go.Proofs.YtgibicifflfpfaaDoor
namespace X

inductive S where
  | mov (d : Nat) (x : Operand)
  | pick (d : Nat) (c x y : Operand)
  | ari (d : Nat) (op : BinOp) (k : IntKind) (x y : Operand)
  | shf (d : Nat) (op : BinOp) (k : IntKind) (x y : Operand)
  | sop (d : Nat) (op : BinOp) (x y : Operand)
  | nilq (d : Nat) (neg : Bool) (x : Operand)
  | not (d : Nat) (x : Operand)
  | neg (d : Nat) (k : IntKind) (x : Operand)
  | conv (d : Nat) (k : IntKind) (x : Operand)
  | alloc (d : Nat) (t : TypeId)
  | box (d : Nat) (t : TypeId) (x : Operand)
  | load (d : Nat) (x : Operand)
  | loadN (d : Nat) (n : Nat) (x : Operand)
  | store (x v : Operand)
  | storeN (n : Nat) (x v : Operand)
  | nilCheck (d : Nat) (x : Operand)
  | faddr (d : Nat) (off : Nat) (x : Operand)
  | field (d : Nat) (off : Nat) (n : Option Nat) (x : Operand)
  | iaddrL (d : Nat) (c : Nat) (x i : Operand)
  | iaddrA (d : Nat) (len c : Nat) (x i : Operand)
  | idxA (d : Nat) (len c : Nat) (agg : Bool) (x i : Operand)
  | idxS (d : Nat) (x i : Operand)
  | ext (d : Nat) (i : Nat) (x : Operand)
  | call (d : Option Nat) (f : FuncId) (args : List Operand)
  | build (d : Nat) (t : TypeId) (parts : List (Nat × Nat × Operand))
  | bslice (d : Nat) (el n c : Nat) (parts : List (Nat × Nat × Operand))
  | sliceS (d : Nat) (x : Operand) (lo hi : Option Operand)
  | sliceL (d : Nat) (c : Nat) (x : Operand) (lo hi mx : Option Operand)
  | sliceA (d : Nat) (n c : Nat) (x : Operand) (lo hi : Option Operand)
  | lenS (d : Nat) (x : Operand)
  | lenL (d : Nat) (x : Operand)
  | lenA (d : Nat) (n : Nat)
  | append (d : Nat) (el c bytes : Nat) (s x : Operand)
  | conBS (d : Nat) (x : Operand)
  | conSB (d : Nat) (el : Nat) (x : Operand)
  | conIS (d : Nat) (x : Operand)
  | mm (d : Nat) (mx : Bool) (x y : Operand)
  | copy (d : Option Nat) (c : Nat) (x y : Operand)
  | mkFn (d : Nat) (f : FuncId) (caps : List Operand)
  | callV (d : Option Nat) (fv : Operand) (args : List Operand)
  | mkSl (d : Nat) (el c bytes : Nat) (len cap : Operand)
  | iface (d : Nat) (t : TypeId) (x : Operand)
  | mkMap (d : Nat) (t : TypeId)
  | uSD (d : Nat) (x : Operand)
  | uStr (d : Nat) (pt : TypeId) (x n : Operand)
  | beq (d : Nat) (neg : Bool) (x y : Operand)
  | aeq (d : Nat) (neg : Bool) (t : TypeId) (x y : Operand)
  | panic (x : Operand)
  | nili (d : Nat) (neg : Bool) (x : Operand)
  | tas (d : Nat) (t : TypeId) (ok : Bool) (x : Operand)
  | inv (d : Option Nat) (m : String) (x : Operand) (args : List Operand)
  | rng (d : Nat) (x : Operand)
  | nxt (d : Nat) (x : Operand)
  | bad

def arith (op : BinOp) (k : IntKind) (a b : Int) (K : Value → Prop) : Prop :=
  match op with
  | .add => K (.int k (k.wrap (a + b)))
  | .sub => K (.int k (k.wrap (a - b)))
  | .mul => K (.int k (k.wrap (a * b)))
  | .quo => b ≠ 0 ∧ K (.int k (k.wrap (a.tdiv b)))
  | .rem => b ≠ 0 ∧ K (.int k (a.tmod b))
  | .and => K (.int k (k.wrap (BitVec.ofInt k.bits a &&& BitVec.ofInt k.bits b).toNat))
  | .or => K (.int k (k.wrap (BitVec.ofInt k.bits a ||| BitVec.ofInt k.bits b).toNat))
  | .xor => K (.int k (k.wrap (BitVec.ofInt k.bits a ^^^ BitVec.ofInt k.bits b).toNat))
  | .andNot => K (.int k (k.wrap (BitVec.ofInt k.bits a &&& ~~~BitVec.ofInt k.bits b).toNat))
  | .eql => K (.bool (decide (a = b)))
  | .neq => K (.bool (decide (a ≠ b)))
  | .lss => K (.bool (decide (a < b)))
  | .leq => K (.bool (decide (a ≤ b)))
  | .gtr => K (.bool (decide (b < a)))
  | .geq => K (.bool (decide (b ≤ a)))
  | _ => False

def shift (op : BinOp) (k : IntKind) (x y : Value) (K : Value → Prop) : Prop :=
  match x, y with
  | .int k1 a, .int _ b => k1 = k ∧ 0 ≤ b ∧ (match op with
    | .shl => K (.int k (k.wrap (a * 2 ^ (min b.toNat k.bits))))
    | .shr => K (.int k (a.fdiv (2 ^ (min b.toNat k.bits))))
    | _ => False)
  | _, _ => False

def strop (op : BinOp) (a b : ByteArray) (K : Value → Prop) : Prop :=
  match op with
  | .add => a.size + b.size ≤ 9223372036854775807 ∧ K (.string (a ++ b))
  | .eql => K (.bool (a.toList == b.toList))
  | .neq => K (.bool (!(a.toList == b.toList)))
  | .lss => K (.bool (Op.bytesLess a.toList b.toList))
  | .leq => K (.bool (Op.bytesLess a.toList b.toList || a.toList == b.toList))
  | .gtr => K (.bool (!(Op.bytesLess a.toList b.toList || a.toList == b.toList)))
  | .geq => K (.bool (!Op.bytesLess a.toList b.toList))
  | _ => False

def Nil1 (x : Value) (K : Bool → Prop) : Prop := match x with | .pointer a => K a.isNone | _ => False
@[simp] theorem Nil1_mk (a : Option Addr) (K : Bool → Prop) : Nil1 (.pointer a) K = K a.isNone := rfl

def At (cs : Array Value) (i : Nat) (K : Value → Prop) : Prop := match cs[i]? with | some v => K v | none => False
def Sl1 (u : Value) (K : Addr → Nat → Prop) : Prop := match u with | .slice (some a) len _ => K a len | _ => False
def zcells (P : Program) (t : TypeId) : Array Value := match (P.info? t).bind (·.zero) with | some v => v.cells | none => #[]

def putO (d : Option Nat) (v : Value) (e : Env) : Env := match d with | some d => (d, v) :: e | none => e

def bound (i : Int) (len : Nat) (K : Nat → Prop) : Prop := 0 ≤ i ∧ i < len ∧ K i.toNat

/-! the longer primitives -/
/-- c laid over cs from off on. -/
def putc (cs : Array Value) (off : Nat) (v : Array Value) : Array Value := v.zipIdx.foldl (fun cs (c, j) => cs.setIfInBounds (off + j) c) cs
def fillC (cs : Array Value) (ps : List (Nat × Nat × Operand)) (vs : List Value) (K : Array Value → Prop) : Prop :=
  match ps, vs with
  | [], [] => K cs
  | (off, sz, _) :: ps, v :: vs => v.cells.size = sz ∧ off + sz ≤ cs.size ∧ fillC (putc cs off v.cells) ps vs K
  | _, _ => False
def zrep (z : Array Value) (n : Nat) : Array Value := (Array.range n).map (z[· % z.size]!)
def bnd (e : Env) (o : Option Operand) (dflt : Int) (K : Int → Prop) : Prop :=
  match o with
  | none => K dflt
  | some x => ev e x fun v => Int1 v fun _ n => K n
def Lims (l h m : Int) (K : Nat → Nat → Prop) : Prop := 0 ≤ l ∧ l ≤ h ∧ h ≤ m ∧ K l.toNat h.toNat
def Strg1 (x : Value) (K : ByteArray → Prop) : Prop := match x with | .string s => K s | _ => False
def Slc1 (x : Value) (K : Option Addr → Nat → Nat → Prop) : Prop := match x with | .slice a n c => K a n c | _ => False
@[simp] theorem Strg1_mk (s : ByteArray) (K : ByteArray → Prop) : Strg1 (.string s) K = K s := rfl
@[simp] theorem Slc1_mk (a : Option Addr) (n c : Nat) (K : Option Addr → Nat → Nat → Prop) : Slc1 (.slice a n c) K = K a n c := rfl
def Len1 (x : Value) (K : Nat → Prop) : Prop := match x with | .string s => K s.size | .slice _ n _ => K n | _ => False
/-- The first n elements of what is appended or copied, c cells each. -/
def Take (w : World) (c n : Nat) (x : Value) (K : List Value → Prop) : Prop :=
  match x with
  | .slice (some a) _ _ => LdN w a (n * c) fun cs => K cs.toList
  | .slice none _ _ => n = 0 ∧ K []
  | .string s => c = 1 ∧ n ≤ s.size ∧ K ((s.data.toList.take n).map fun b => .int .u8 b.toNat)
  | _ => False
def StO (w : World) (a : Option Addr) (i : Nat) (vs : List Value) (K : World → Prop) : Prop :=
  match a with
  | some a => StN w (a.add i) vs K
  | none => vs = [] ∧ K w
def AppVC (P : Program) (el c bytes : Nat) (w : World) (s x : Value) (K : Value → World → Prop) : Prop :=
  Slc1 s fun base len cap => Len1 x fun n => Take w c n x fun new =>
    (∀ v ∈ new, one v = true) ∧
    (len + n ≤ cap → StO w base (len * c) new fun w' => K (.slice base (len + n) cap) w') ∧
    (cap < len + n → len + n ≤ 4611686018427387904 ∧ (len + n) * bytes ≤ 140737488355328 ∧ Take w c len s fun old =>
      ∀ m, len + n ≤ m → K (.slice (some ⟨w.heap.size, 0, none⟩) (len + n) m) (w.drew.alloc (.cells ((old ++ new).toArray ++ Builtin.zeroCells (zcells P el) (m - (len + n))) el)))
def u8s : List Value → Option (List UInt8)
  | [] => some []
  | .int .u8 n :: r => (u8s r).map fun l => UInt8.ofNat n.toNat :: l
  | _ :: _ => none
def Bytes1 (cs : List Value) (K : ByteArray → Prop) : Prop := match u8s cs with | some l => K ⟨l.toArray⟩ | none => False
def Fn1 (x : Value) (K : FuncId → List Value → Prop) : Prop := match x with | .func (.func f) first caps => first = #[] ∧ K f caps.toList | _ => False

/-- Two aggregates of a type are compared. -/
def Agg2W (P : Program) (t : TypeId) (u v : Value) (K : Bool → Prop) : Prop :=
  match u, v with
  | .agg xs, .agg ys => ∃ la lb b, (Value.agg xs).formed P t = true ∧ (Value.agg ys).formed P t = true ∧ P.keyLits 64 t xs.toList = some la ∧ P.keyLits 64 t ys.toList = some lb ∧ (b = true ↔ la = lb) ∧ K b
  | _, _ => False
def deepOk (P : Program) (t : TypeId) : Bool := P.keyTypeAt 64 t && !(P.eqGuardType P.depth t)

/-- unsafe.String at the head of a block of bytes. -/
def UStrVC (P : Program) (pt : TypeId) (w : World) (p : Value) (m : Int) (K : ByteArray → World → Prop) : Prop :=
  match p with
  | .pointer a => (m = 0 ∧ K .empty w) ∨ ∃ g C el l, 0 < m ∧ m ≤ 9223372036854775807 ∧ a = some ⟨g, 0, none⟩ ∧ w.heap[g]? = some (.cells C el) ∧ P.underlying pt = some (.pointer el) ∧ P.cellsOf el = 1 ∧
      m.toNat ≤ C.size ∧ C.toList.take m.toNat = (l : List UInt8).map (fun b => Value.int .u8 b.toNat) ∧ K ⟨l.toArray⟩ (w.freeze ⟨g, 0, none⟩ m.toNat)
  | _ => False

def NilI (x : Value) (K : Bool → Prop) : Prop := match x with | .iface _ _ => K false | .nilIface => K true | _ => False
def zval (P : Program) (t : TypeId) : Value := match (P.info? t).bind (·.zero) with | some v => v | none => undef
/-- An interface value is asked for its type. -/
def TasVC (P : Program) (t : TypeId) (ok : Bool) (x : Value) (K : Value → Prop) : Prop :=
  match x with
  | .iface t' v => if t' = t then K (if ok = true then .tuple #[v, .bool true] else v) else ok = true ∧ K (.tuple #[zval P t, .bool false])
  | .nilIface => ok = true ∧ K (.tuple #[zval P t, .bool false])
  | _ => False
/-- The method m of the struct type t, by value and not promoted, is f. -/
def methOk (P : Program) (t : TypeId) (m : String) (f : FuncId) : Bool :=
  (match P.underlying t with | some (.struct _) => true | _ => false) && match (P.info? t).bind (fun i => i.methods.find? (·.name == m)) with
  | some r => r.path.isEmpty && (match r.func with | some (g, false) => g == f | _ => false)
  | none => false
def fnBody (P : Program) (f : FuncId) : Bool := match P.funcs[f]? with | some fn => fn.body.isSome && fn.name != "runtime.NumGoroutine" | none => false
def IfV (x : Value) (K : TypeId → Value → Prop) : Prop := match x with | .iface t v => K t v | _ => False
/-- The next rune of a string that is ranged over. -/
def NxtVC (w : World) (a : Addr) (K : Value → World → Prop) : Prop :=
  ∃ k s pos, a = ⟨k, 0, none⟩ ∧ w.heap[k]? = some (.stringIter s pos) ∧
    (pos < s.size → K (.tuple #[.bool true, .int .i64 pos, .int .i32 (Utf8.decode s pos).1]) { w with heap := w.heap.setIfInBounds k (.stringIter s (pos + (Utf8.decode s pos).2)) }) ∧ (s.size ≤ pos → K (.tuple #[.bool false]) w)

/-- What an operation asks of the frame and the world, and what it leaves. -/
def opVC (P : Program) (s : S) (K : Env → World → Prop) (pan : List PanicEntry → World → Prop) (e : Env) (w : World) : Prop :=
  match s with
  | .mov d x => ev e x fun v => K ((d, v) :: e) w
  | .pick d c x y => ev e c fun vc => Bool1 vc fun b => if b = true then ev e x fun v => K ((d, v) :: e) w else ev e y fun v => K ((d, v) :: e) w
  | .ari d op k x y => ev e x fun u => ev e y fun v => Int2 k u v fun a b => arith op k a b fun r => K ((d, r) :: e) w
  | .shf d op k x y => ev e x fun u => ev e y fun v => shift op k u v fun r => K ((d, r) :: e) w
  | .sop d op x y => ev e x fun u => ev e y fun v => Str2 u v fun a b => strop op a b fun r => K ((d, r) :: e) w
  | .nilq d neg x => ev e x fun u => Nil1 u fun b => K ((d, .bool (if neg then !b else b)) :: e) w
  | .not d x => ev e x fun u => Bool1 u fun b => K ((d, .bool (!b)) :: e) w
  | .neg d k x => ev e x fun u => Int1 u fun k1 n => k1 = k ∧ K ((d, .int k (k.wrap (0 - n))) :: e) w
  | .conv d k x => ev e x fun u => Int1 u fun _ n => K ((d, .int k (k.wrap n)) :: e) w
  | .alloc d t => K ((d, .pointer (some ⟨w.heap.size, 0, none⟩)) :: e) (w.alloc (.cells (zcells P t) t))
  | .box d t x => ev e x fun u => K ((d, .pointer (some ⟨w.heap.size, 0, none⟩)) :: e) (w.alloc (.cells u.cells t))
  | .load d x => ev e x fun u => Ptr1 u fun a => Ld w a fun v => K ((d, v) :: e) w
  | .loadN d n x => ev e x fun u => Ptr1 u fun a => LdN w a n fun cs => K ((d, .agg cs) :: e) w
  | .store x v => ev e x fun u => ev e v fun r => Ptr1 u fun a => St w a r fun w' => K e w'
  | .storeN n x v => ev e x fun u => ev e v fun r => Ptr1 u fun a => Agg1 r fun cs => cs.size = n ∧ StN w a cs.toList fun w' => K e w'
  | .nilCheck d x => ev e x fun u => Ptr1 u fun a => K ((d, .pointer (some a)) :: e) w
  | .faddr d off x => ev e x fun u => Ptr1 u fun a => K ((d, .pointer (some (a.add off))) :: e) w
  | .field d off n x => ev e x fun u => Agg1 u fun cs => match n with
    | some n => K ((d, .agg (cs.extract off (off + n))) :: e) w
    | none => At cs off fun v => K ((d, v) :: e) w
  | .iaddrL d c x i => ev e x fun u => ev e i fun j => Int1 j fun _ n => Sl1 u fun a len => bound n len fun m => K ((d, .pointer (some (a.add (m * c)))) :: e) w
  | .iaddrA d len c x i => ev e x fun u => ev e i fun j => Int1 j fun _ n => Ptr1 u fun a => bound n len fun m => K ((d, .pointer (some (a.add (m * c)))) :: e) w
  | .idxA d len c agg x i => ev e x fun u => ev e i fun j => Int1 j fun _ n => Agg1 u fun cs => bound n len fun m =>
    if agg then K ((d, .agg (cs.extract (m * c) (m * c + c))) :: e) w else At cs (m * c) fun v => K ((d, v) :: e) w
  | .idxS d x i => ev e x fun u => ev e i fun j => Int1 j fun _ n => match u with
    | .string s => bound n s.size fun m => K ((d, .int .u8 (s.data.toList.getD m 0).toNat) :: e) w
    | _ => False
  | .ext d i x => ev e x fun u => Tup1 u i fun v => K ((d, v) :: e) w
  | .call d f args => evs e args fun vs => Calls P f vs.toArray w fun en w' => match en with
    | .returned v => K (putO d v e) w'
    | .panicked ch => pan ch w'
    | .outgrown => False
  | .build d t ps => evs e (ps.map (·.2.2)) fun vs => fillC (zcells P t) ps vs fun cs => K ((d, .agg cs) :: e) w
  | .bslice d el n c ps => evs e (ps.map (·.2.2)) fun vs => fillC (zrep (zcells P el) (n * c)) ps vs fun cs => K ((d, .slice (some ⟨w.heap.size, 0, none⟩) n n) :: e) (w.alloc (.cells cs el))
  | .sliceS d x lo hi => ev e x fun u => Strg1 u fun s => bnd e hi s.size fun h => bnd e lo 0 fun l => Lims l h s.size fun l h => K ((d, .string (s.extract l h)) :: e) w
  | .sliceL d c x lo hi mx => ev e x fun u => Slc1 u fun a n cap => bnd e mx cap fun m => bnd e hi n fun h => bnd e lo 0 fun l => 0 ≤ m ∧ m ≤ cap ∧ Lims l h m fun l h => K ((d, .slice (if m.toNat = l then a else a.map (·.add (l * c))) (h - l) (m.toNat - l)) :: e) w
  | .sliceA d n c x lo hi => ev e x fun u => Ptr1 u fun a => bnd e hi n fun h => bnd e lo 0 fun l => Lims l h n fun l h => K ((d, .slice (some (if n = l then a else a.add (l * c))) (h - l) (n - l)) :: e) w
  | .lenS d x => ev e x fun u => Strg1 u fun s => K ((d, .int .i64 s.size) :: e) w
  | .lenL d x => ev e x fun u => Slc1 u fun _ n _ => K ((d, .int .i64 n) :: e) w
  | .lenA d n => K ((d, .int .i64 n) :: e) w
  | .append d el c bytes s x => ev e s fun u => ev e x fun v => AppVC P el c bytes w u v fun r w' => K ((d, r) :: e) w'
  | .conBS d x => ev e x fun u => Slc1 u fun _ n _ => Take w 1 n u fun cs => Bytes1 cs fun s => K ((d, .string s) :: e) w
  | .conSB d el x => ev e x fun u => Strg1 u fun s => ∀ m, s.size ≤ m → K ((d, .slice (some ⟨w.heap.size, 0, none⟩) s.size m) :: e)
      (w.drew.alloc (.cells (bytesRow s m) el ((bytesRow s m).size, (bytesRow s m).size + 1)))
  | .conIS d x => ev e x fun u => Int1 u fun _ n => K ((d, .string (Utf8.encode n)) :: e) w
  | .mm d mx x y => ev e x fun u => ev e y fun v => Int1 u fun k a => Int1 v fun _ b => K ((d, .int k (if mx then (if b > a then b else a) else (if b < a then b else a))) :: e) w
  | .copy d c x y => ev e x fun u => ev e y fun v => Slc1 u fun base dl _ => Len1 v fun sl => Take w c (min sl dl) v fun cs => (∀ v ∈ cs, one v = true) ∧ StO w base 0 cs fun w' => K (putO d (.int .i64 (min sl dl : Nat)) e) w'
  | .mkFn d f caps => evs e caps fun vs => K ((d, .func (.func f) #[] vs.toArray) :: e) w
  | .callV d fv args => ev e fv fun u => Fn1 u fun f caps => (match P.funcs[f]? with | some fn => fn.body.isSome && fn.name != "runtime.NumGoroutine" | none => false) = true ∧ evs e args fun vs => Calls P f (vs ++ caps).toArray w fun en w' => match en with
    | .returned v => K (putO d v e) w'
    | .panicked ch => pan ch w'
    | .outgrown => False
  | .mkSl d el c bytes len cap => ev e len fun u => ev e cap fun v => Int1 u fun k1 n => Int1 v fun k2 m => 0 ≤ n ∧ n ≤ m ∧ m ≤ 4611686018427387904 ∧ m * bytes ≤ 281474976710656 ∧
      K ((d, .slice (some ⟨w.heap.size, 0, none⟩) n.toNat m.toNat) :: e) (w.alloc (.cells (zrep (zcells P el) (m.toNat * c)) el))
  | .iface d t x => ev e x fun u => K ((d, .iface t u) :: e) w
  | .uSD d x => ev e x fun u => Slc1 u fun a _ c => (a = none ∨ c ≠ 0) ∧ K ((d, .pointer a) :: e) w
  | .uStr d pt x n => ev e x fun u => ev e n fun v => Int1 v fun k m => k = .i64 ∧ UStrVC P pt w u m fun s w' => K ((d, .string s) :: e) w'
  | .mkMap d t => K ((d, .map (some w.heap.size)) :: e) (w.alloc (.map #[] 0))
  | .aeq d neg t x y => ev e x fun u => ev e y fun v => Agg2W P t u v fun b => K ((d, .bool (if neg then !b else b)) :: e) w
  | .beq d neg x y => ev e x fun u => ev e y fun v => Bool1 u fun a => Bool1 v fun b => K ((d, .bool (if neg then !(a == b) else a == b)) :: e) w
  | .panic x => ev e x fun u => match u with | .iface t v => pan [{ v := .iface t v, recovered := false }] w | _ => False
  | .nili d neg x => ev e x fun u => NilI u fun b => K ((d, .bool (if neg then !b else b)) :: e) w
  | .tas d t ok x => ev e x fun u => TasVC P t ok u fun v => K ((d, v) :: e) w
  | .inv d m x args => ev e x fun u => IfV u fun t v => ∃ f, methOk P t m f = true ∧ fnBody P f = true ∧ evs e args fun vs => Calls P f (v :: vs).toArray w fun en w' => match en with
    | .returned v => K (putO d v e) w'
    | .panicked ch => pan ch w'
    | .outgrown => False
  | .rng d x => ev e x fun u => Strg1 u fun s => K ((d, .pointer (some ⟨w.heap.size, 0, none⟩)) :: e) (w.alloc (.stringIter s 0))
  | .nxt d x => ev e x fun u => Ptr1 u fun a => NxtVC w a fun v w' => K ((d, v) :: e) w'
  | .bad => False

def isAggT (P : Program) (t : TypeId) : Bool := match P.underlying t with | some (.struct _) | some (.array _ _) => true | _ => false
def hasInfo (P : Program) (t : TypeId) : Bool := (P.info? t).isSome

def partsS (P : Program) (fs : Array Field) : List (Nat × Operand) → Option (List (Nat × Nat × Operand))
  | [] => some []
  | (i, x) :: r =>
    match fs[i]?, partsS P fs r with
    | some f, some l => if hasInfo P f.type then some ((f.offset, P.cellsOf f.type, x) :: l) else none
    | _, _ => none
def partsA (c : Nat) (ps : List (Nat × Operand)) : List (Nat × Nat × Operand) := ps.map fun p => (p.1 * c, c, p.2)
/-- An operation of the code, read. -/
def lower (P : Program) (o : Oper) : Option S :=
  match o.op, o.dst with
  | .move x, some d | .assign x, some d => some (.mov d x)
  | .pick c x y, some d => some (.pick d c x y)
  | .binOp op t x y _, some d =>
    match P.underlying t, op with
    | some (.int k), .shl | some (.int k), .shr => some (.shf d op k x y)
    | some (.int k), _ => some (.ari d op k x y)
    | some .string, _ => some (.sop d op x y)
    | some .bool, .eql => some (.beq d false x y)
    | some .bool, .neq => some (.beq d true x y)
    | some (.pointer _), .eql => (match y with | .const (.pointer none) => some (.nilq d false x) | _ => none)
    | some (.pointer _), .neq => (match y with | .const (.pointer none) => some (.nilq d true x) | _ => none)
    | some (.array _ _), .eql | some (.struct _), .eql => if deepOk P t then some (.aeq d false t x y) else none
    | some (.array _ _), .neq | some (.struct _), .neq => if deepOk P t then some (.aeq d true t x y) else none
    | some (.interface _), .eql => (match y with | .const .nilIface => some (.nili d false x) | _ => none)
    | some (.interface _), .neq => (match y with | .const .nilIface => some (.nili d true x) | _ => none)
    | _, _ => none
  | .unOp .not _ x, some d => some (.not d x)
  | .unOp .neg t x, some d => (match P.underlying t with | some (.int k) => some (.neg d k x) | _ => none)
  | .convert s t x, some d =>
    match P.underlying s, P.underlying t with
    | some (.int _), some (.int k) => some (.conv d k x)
    | some (.int _), some .string => some (.conIS d x)
    | some (.slice el), some .string => (match P.underlying el with | some (.int .u8) => some (.conBS d x) | _ => none)
    | some .string, some (.slice el) => (match P.underlying el with | some (.int .u8) => some (.conSB d el x) | _ => none)
    | _, _ => none
  | .alloc t, some d => if ((P.info? t).bind (·.zero)).isSome then some (.alloc d t) else none
  | .box t x, some d => some (.box d t x)
  | .load t x, some d =>
    if (P.underlying t).isSome && hasInfo P t then (if isAggT P t then some (.loadN d (P.cellsOf t) x) else some (.load d x)) else none
  | .store t x v, none => if hasInfo P t then (if isAggT P t then some (.storeN (P.cellsOf t) x v) else if P.cellsOf t == 1 then some (.store x v) else none) else none
  | .nilCheck x, some d => some (.nilCheck d x)
  | .fieldAddr t x f, some d =>
    match P.underlying t with
    | some (.struct fs) => match fs[f]? with
      | some g => if hasInfo P g.type && P.cellsOf g.type != 0 then some (.faddr d g.offset x) else none
      | none => none
    | _ => none
  | .field t x f, some d =>
    match P.underlying t with
    | some (.struct fs) => match fs[f]? with
      | some g => if (P.underlying g.type).isSome && hasInfo P g.type then (if isAggT P g.type then some (.field d g.offset (some (P.cellsOf g.type)) x) else some (.field d g.offset none x)) else none
      | none => none
    | _ => none
  | .indexAddr t x i, some d =>
    match P.underlying t with
    | some (.slice el) => if hasInfo P el then some (.iaddrL d (P.cellsOf el) x i) else none
    | some (.array n el) => if hasInfo P el then some (.iaddrA d n (P.cellsOf el) x i) else none
    | _ => none
  | .index t x i, some d =>
    match P.underlying t with
    | some .string => some (.idxS d x i)
    | some (.array n el) => if (P.underlying el).isSome && hasInfo P el then some (.idxA d n (P.cellsOf el) (isAggT P el) x i) else none
    | _ => none
  | .extract x i, some d => some (.ext d i x)
  | .call { callee := .value (.func f), args, .. }, d =>
    match P.funcs[f]? with
    | some fn => if fn.body.isSome && fn.name != "runtime.NumGoroutine" then some (.call d f args.toList) else none
    | none => none
  | .build t ps, some d =>
    match P.underlying t with
    | some (.struct fs) => if ((P.info? t).bind (·.zero)).isSome && fs.toList.all (fun f => hasInfo P f.type) then (partsS P fs ps.toList).map (S.build d t) else none
    | some (.array _ el) => if ((P.info? t).bind (·.zero)).isSome && hasInfo P el then some (.build d t (partsA (P.cellsOf el) ps.toList)) else none
    | _ => none
  | .buildSlice t n ps, some d =>
    match P.underlying t with
    | some (.slice el) => if ((P.info? el).bind (·.zero)).isSome && hasInfo P el && n * P.cellsOf el ≤ 16777216 && P.cellsOf el != 0 && n != 0 then some (.bslice d el n (P.cellsOf el) (partsA (P.cellsOf el) ps.toList)) else none
    | _ => none
  | .slice t x lo hi mx, some d =>
    match P.underlying t with
    | some .string => if mx.isNone then some (.sliceS d x lo hi) else none
    | some (.slice el) => if hasInfo P el && (mx.isNone || hi.isSome) then some (.sliceL d (P.cellsOf el) x lo hi mx) else none
    | some (.array n el) => if hasInfo P el && mx.isNone then some (.sliceA d n (P.cellsOf el) x lo hi) else none
    | _ => none
  | .call { callee := .builtin .len, args, argTypes }, some d =>
    match argTypes[0]?, args[0]? with
    | some t, some x => (match P.underlying t with
      | some .string => some (.lenS d x)
      | some (.slice _) => some (.lenL d x)
      | some (.array n _) => some (.lenA d n)
      | _ => none)
    | _, _ => none
  | .call { callee := .builtin .append, args, argTypes }, some d =>
    match argTypes.toList, args.toList with
    | [t, u], [s, x] => (match P.underlying t, P.underlying u with
      | some (.slice el), some (.slice _) => if ((P.info? el).bind (·.zero)).isSome then some (.append d el (P.cellsOf el) (P.bytesOf el) s x) else none
      | some (.slice el), some .string => if ((P.info? el).bind (·.zero)).isSome then some (.append d el (P.cellsOf el) (P.bytesOf el) s x) else none
      | _, _ => none)
    | _, _ => none
  | .call { callee := .builtin .copy, args, argTypes }, d =>
    match argTypes.toList, args.toList with
    | [t, _], [x, y] => (match P.underlying t with
      | some (.slice el) => if hasInfo P el then some (.copy d (P.cellsOf el) x y) else none
      | _ => none)
    | _, _ => none
  | .call { callee := .builtin .max, args, argTypes }, some d =>
    match argTypes.toList, args.toList with
    | [t, _], [x, y] => (match P.underlying t with | some (.int _) => some (.mm d true x y) | _ => none)
    | _, _ => none
  | .call { callee := .builtin .min, args, argTypes }, some d =>
    match argTypes.toList, args.toList with
    | [t, _], [x, y] => (match P.underlying t with | some (.int _) => some (.mm d false x y) | _ => none)
    | _, _ => none
  | .call { callee := .value (.tmp f), args, .. }, d => some (.callV d (.tmp f) args.toList)
  | .makeFunc (.func f) first caps, some d => if first.size == 0 then some (.mkFn d f caps.toList) else none
  | .makeSlice t n m, some d =>
    match P.underlying t with
    | some (.slice el) => if ((P.info? el).bind (·.zero)).isSome && P.cellsOf el != 0 then some (.mkSl d el (P.cellsOf el) (P.bytesOf el) n m) else none
    | _ => none
  | .makeInterface t x, some d => (match P.underlying t with | some (.interface _) => none | some _ => some (.iface d t x) | none => none)
  | .panic x, none => some (.panic x)
  | .makeMap t none, some d => some (.mkMap d t)
  | .call { callee := .builtin .unsafeSliceData, args, .. }, some d =>
    match args.toList with
    | [x] => some (.uSD d x)
    | _ => none
  | .call { callee := .builtin .unsafeString, args, argTypes }, some d =>
    match argTypes.toList, args.toList with
    | [pt, _], [x, n] => some (.uStr d pt x n)
    | _, _ => none
  | .typeAssert x _ t ok, some d => (match P.underlying t with
    | some (.interface _) => none
    | some _ => if ((P.info? t).bind (·.zero)).isSome then some (.tas d t ok x) else none
    | none => none)
  | .call { callee := .invoke x m, args, .. }, d => some (.inv d m x args.toList)
  | .range t x, some d => (match P.underlying t with | some .string => some (.rng d x) | _ => none)
  | .next x true, some d => some (.nxt d x)
  | _, _ => none

def S.dst : S → Option Nat
  | .store _ _ | .storeN _ _ _ | .bad | .panic _ => none
  | .mov d _ | .pick d _ _ _ | .ari d _ _ _ _ | .shf d _ _ _ _ | .sop d _ _ _ | .nilq d _ _ | .not d _ | .neg d _ _ | .conv d _ _ | .alloc d _ | .box d _ _ | .load d _ | .loadN d _ _
  | .nilCheck d _ | .faddr d _ _ | .field d _ _ _ | .iaddrL d _ _ _ | .iaddrA d _ _ _ _ | .idxA d _ _ _ _ _ | .idxS d _ _ | .ext d _ _
  | .build d _ _ | .bslice d _ _ _ _ | .sliceS d _ _ _ | .sliceL d _ _ _ _ _ | .sliceA d _ _ _ _ _ | .lenS d _ | .lenL d _ | .lenA d _ | .append d _ _ _ _ _ | .conBS d _ | .conSB d _ _ | .conIS d _ | .mm d _ _ _ | .mkFn d _ _ | .mkSl d _ _ _ _ _ | .iface d _ _ | .mkMap d _ | .uSD d _ | .uStr d _ _ _ | .beq d _ _ _ | .aeq d _ _ _ _ | .nili d _ _ | .tas d _ _ _ | .rng d _ | .nxt d _ => some d
  | .call d _ _ | .copy d _ _ _ | .callV d _ _ | .inv d _ _ _ => d
/-- 0: it hangs on the frame alone; 1: it reads memory; 2: it may change the world. -/
def S.cls : S → Nat
  | .load _ _ | .loadN _ _ _ | .conBS _ _ => 1
  | .store _ _ | .storeN _ _ _ | .alloc _ _ | .box _ _ _ | .call _ _ _ | .bad | .bslice _ _ _ _ _ | .append _ _ _ _ _ _ | .conSB _ _ _ | .copy _ _ _ _ | .callV _ _ _ | .mkSl _ _ _ _ _ _ | .mkMap _ _ | .uStr _ _ _ _ | .panic _ | .inv _ _ _ _ | .rng _ _ | .nxt _ _ => 2
  | _ => 0
def S.fits (n : Nat) (s : S) : Bool := match s.dst with | some d => decide (d < n) | none => true

end X
end Go.Proofs.YtgibicifflfpfaaDoor
