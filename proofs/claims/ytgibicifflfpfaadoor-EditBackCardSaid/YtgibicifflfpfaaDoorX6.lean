/-
  The engine, part 6: the rules by which a condition is worked out, one for each form. Conditions: none.
-/
import Derived.Test.YtgibicifflfpfaaDoorX5
set_option autoImplicit false
namespace Go.Proofs.YtgibicifflfpfaaDoor
namespace X
/-- A number of kind k, turned to fit. -/
def Wr (k : IntKind) (n : Int) (K : Value → Prop) : Prop := K (.int k (k.wrap n))
section
variable (P : Program) (Q : Post) (K : Env → World → Prop) (pan : List PanicEntry → World → Prop) (e : Env) (w : World)
theorem v_skip : vc P .skip Q e w = Q.nor e w := (rfl)
theorem v_region (l : List G) : vc P (.region l) Q e w = vcOps P l Q.nor Q.pan e w := (rfl)
theorem v_regionD (l : List G) : vc P (.regionD l) Q e w = vcOps P l Q.nor Q.pan e w.drew := (rfl)
theorem v_regionW (l : List (Nat × G)) : vc P (.regionW l) Q e w = vcW P (fun _ => True) l (fun _ => Q.nor) Q.pan e w.drew := (rfl)
theorem v_regionT (t : GT) : vc P (.regionT t) Q e w = vcT P (fun _ => True) t Q.nor Q.pan e w.drew := (rfl)
theorem t_fin (W : World → Prop) (l : List (Nat × G)) : vcT P W (.fin l) K pan e w = vcW P W l (fun _ => K) pan e w := (rfl)
theorem t_fork (W : World → Prop) (l : List (Nat × G)) (a b : GT) : vcT P W (.fork l a b) K pan e w = vcW P W l (fun W' e w => vcT P W' a K pan e w ∧ vcT P W' b K pan e w) pan e w := (rfl)
theorem v_seq (a b : C) : vc P (.seq a b) Q e w = vc P a (Q.then (vc P b Q)) e w := (rfl)
theorem v_cond (x : Operand) (a b : C) : vc P (.cond x a b) Q e w = ev e x fun v => Bool1 v fun t => if t = true then vc P a Q e w else vc P b Q e w := (rfl)
theorem v_block (id : Nat) (b : C) : vc P (.block id b) Q e w = vc P b (Q.inBlock id) e w := (rfl)
theorem v_loop (b : C) : vc P (.loop b) Q e w = LoopVC (vc P b) Q e w := (rfl)
theorem v_exit (id : Nat) : vc P (.exit id) Q e w = Q.ext id e w := (rfl)
theorem v_ret : vc P .ret Q e w = Q.ret e w := (rfl)
theorem p_then_nor (K : Env → World → Prop) : (Q.then K).nor e w = K e w := (rfl)
theorem p_then_ext (K : Env → World → Prop) (i : Nat) : (Q.then K).ext i e w = Q.ext i e w := (rfl)
theorem p_then_ret (K : Env → World → Prop) : (Q.then K).ret e w = Q.ret e w := (rfl)
theorem p_then_pan (K : Env → World → Prop) (ch : List PanicEntry) : (Q.then K).pan ch w = Q.pan ch w := (rfl)
theorem p_block_nor (i : Nat) : (Q.inBlock i).nor e w = Q.nor e w := (rfl)
theorem p_block_ext (i j : Nat) : (Q.inBlock i).ext j e w = if j = i then Q.nor e w else Q.ext j e w := (rfl)
theorem p_block_ret (i : Nat) : (Q.inBlock i).ret e w = Q.ret e w := (rfl)
theorem p_block_pan (i : Nat) (ch : List PanicEntry) : (Q.inBlock i).pan ch w = Q.pan ch w := (rfl)
theorem p_end_nor (rs : List RV) (R : Ending → World → Prop) : (endPost rs R).nor e w = rets rs e w fun vs => R (.returned (tup vs)) w := (rfl)
theorem p_end_ret (rs : List RV) (R : Ending → World → Prop) : (endPost rs R).ret e w = rets rs e w fun vs => R (.returned (tup vs)) w := (rfl)
theorem p_end_pan (rs : List RV) (R : Ending → World → Prop) (ch : List PanicEntry) : (endPost rs R).pan ch w = R (.panicked ch) w := (rfl)
theorem o_nil : vcOps P [] K pan e w = K e w := (rfl)
theorem o_keep (ks : List Nat) (r : List G) : vcOps P (.keep ks :: r) K pan e w = vcOps P r K pan (X.keep e ks) w := (rfl)
theorem o_op (s : S) (r : List G) : vcOps P (.op s none :: r) K pan e w = opVC P s (vcOps P r K pan) pan e w := (rfl)
def GuardVC (P : Program) (b : Bool) (t : Nat) (s : S) (r : List G) (K : Env → World → Prop) (pan : List PanicEntry → World → Prop) (e : Env) (w : World) (v : Value) : Prop :=
  match v with
    | .bool c => if c = b then opVC P s (vcOps P r K pan) pan ((t, .bool b) :: e) w else vcOps P r K pan (putO s.dst undef ((t, .bool (!b)) :: e)) w
    | .tuple _ => vcOps P r K pan (putO s.dst undef e) w
    | _ => False
theorem o_guard (s : S) (t : Nat) (b : Bool) (r : List G) : vcOps P (.op s (some (t, b)) :: r) K pan e w = lk e t (GuardVC P b t s r K pan e w) := (rfl)
theorem g_bool (b : Bool) (t : Nat) (s : S) (r : List G) (c : Bool) : GuardVC P b t s r K pan e w (.bool c) = if c = b then opVC P s (vcOps P r K pan) pan ((t, .bool b) :: e) w else vcOps P r K pan (putO s.dst undef ((t, .bool (!b)) :: e)) w := (rfl)
theorem g_undef (b : Bool) (t : Nat) (s : S) (r : List G) : GuardVC P b t s r K pan e w undef = vcOps P r K pan (putO s.dst undef e) w := (rfl)
theorem w_nil (W : World → Prop) (J : (World → Prop) → Env → World → Prop) : vcW P W [] J pan e w = J W e w := (rfl)
theorem w_keep (W : World → Prop) (J : (World → Prop) → Env → World → Prop) (f : Nat) (ks : List Nat) (r : List (Nat × G)) : vcW P W ((f, .keep ks) :: r) J pan e w = vcW P W r J pan (X.keep e ks) w := (rfl)
theorem w_op0 (W : World → Prop) (J : (World → Prop) → Env → World → Prop) (s : S) (r : List (Nat × G)) : vcW P W ((0, .op s none) :: r) J pan e w = opVC P s (vcW P W r J pan) pan e w := (rfl)
theorem w_op1 (W : World → Prop) (J : (World → Prop) → Env → World → Prop) (s : S) (r : List (Nat × G)) : vcW P W ((1, .op s none) :: r) J pan e w = opVC P s (fun e' w' => vcW P (fun w'' => W w'' ∧ OldR s e w w'') r J pan e' w') pan e w := (rfl)
theorem rd_load (d : Nat) (x : Operand) (w' : World) : OldR (.load d x) e w w' = ev e x fun u => Ptr1 u fun a => SameB a.block w w' := (rfl)
theorem rd_loadN (d n : Nat) (x : Operand) (w' : World) : OldR (.loadN d n x) e w w' = ev e x fun u => Ptr1 u fun a => SameB a.block w w' := (rfl)
theorem rd_conBS (d : Nat) (x : Operand) (w' : World) : OldR (.conBS d x) e w w' = ev e x fun u => Slc1 u fun a _ _ => SameO a w w' := (rfl)
theorem io_some (a : Addr) (w' : World) : SameO (some a) w w' = SameB a.block w w' := (rfl)
theorem io_none (w' : World) : SameO none w w' = True := (rfl)
theorem w_op2 (W : World → Prop) (J : (World → Prop) → Env → World → Prop) (s : S) (r : List (Nat × G)) : vcW P W ((2, .op s none) :: r) J pan e w = opVC P s (fun e' w' => W w' ∧ vcW P W r J pan e' w') pan e w := (rfl)
def GuardW (P : Program) (W : World → Prop) (f : Nat) (b : Bool) (t : Nat) (s : S) (r : List (Nat × G)) (J : (World → Prop) → Env → World → Prop) (pan : List PanicEntry → World → Prop) (e : Env) (w : World) (v : Value) : Prop :=
  match v with
    | .bool c => if c = b then vcW P W ((f, .op s none) :: r) J pan ((t, .bool b) :: e) w else (f < 2 ∨ W w) ∧ vcW P W r J pan (putO s.dst undef ((t, .bool (!b)) :: e)) w
    | .tuple _ => (f < 2 ∨ W w) ∧ vcW P W r J pan (putO s.dst undef e) w
    | _ => False
theorem w_guard (W : World → Prop) (J : (World → Prop) → Env → World → Prop) (f : Nat) (s : S) (t : Nat) (b : Bool) (r : List (Nat × G)) : vcW P W ((f, .op s (some (t, b))) :: r) J pan e w = lk e t (GuardW P W f b t s r J pan e w) := (rfl)
theorem gw_bool (W : World → Prop) (J : (World → Prop) → Env → World → Prop) (f : Nat) (b : Bool) (t : Nat) (s : S) (r : List (Nat × G)) (c : Bool) : GuardW P W f b t s r J pan e w (.bool c) = if c = b then vcW P W ((f, .op s none) :: r) J pan ((t, .bool b) :: e) w else (f < 2 ∨ W w) ∧ vcW P W r J pan (putO s.dst undef ((t, .bool (!b)) :: e)) w := (rfl)
theorem gw_undef (W : World → Prop) (J : (World → Prop) → Env → World → Prop) (f : Nat) (b : Bool) (t : Nat) (s : S) (r : List (Nat × G)) : GuardW P W f b t s r J pan e w undef = ((f < 2 ∨ W w) ∧ vcW P W r J pan (putO s.dst undef e) w) := (rfl)
theorem s_mov (d : Nat) (x : Operand) : opVC P (.mov d x) K pan e w = ev e x fun v => K ((d, v) :: e) w := (rfl)
theorem s_pick (d : Nat) (c x y : Operand) : opVC P (.pick d c x y) K pan e w = ev e c fun vc => Bool1 vc fun b => if b = true then ev e x fun v => K ((d, v) :: e) w else ev e y fun v => K ((d, v) :: e) w := (rfl)
theorem s_ari (d : Nat) (op : BinOp) (k : IntKind) (x y : Operand) : opVC P (.ari d op k x y) K pan e w = ev e x fun u => ev e y fun v => Int2 k u v fun a b => arith op k a b fun r => K ((d, r) :: e) w := (rfl)
theorem s_shf (d : Nat) (op : BinOp) (k : IntKind) (x y : Operand) : opVC P (.shf d op k x y) K pan e w = ev e x fun u => ev e y fun v => shift op k u v fun r => K ((d, r) :: e) w := (rfl)
theorem s_sop (d : Nat) (op : BinOp) (x y : Operand) : opVC P (.sop d op x y) K pan e w = ev e x fun u => ev e y fun v => Str2 u v fun a b => strop op a b fun r => K ((d, r) :: e) w := (rfl)
theorem s_nilq (d : Nat) (neg : Bool) (x : Operand) : opVC P (.nilq d neg x) K pan e w = ev e x fun u => Nil1 u fun b => K ((d, .bool (if neg then !b else b)) :: e) w := (rfl)
theorem s_not (d : Nat) (x : Operand) : opVC P (.not d x) K pan e w = ev e x fun u => Bool1 u fun b => K ((d, .bool (!b)) :: e) w := (rfl)
theorem s_neg (d : Nat) (k : IntKind) (x : Operand) : opVC P (.neg d k x) K pan e w = ev e x fun u => Int1 u fun k1 n => k1 = k ∧ Wr k (0 - n) fun v => K ((d, v) :: e) w := (rfl)
theorem s_conv (d : Nat) (k : IntKind) (x : Operand) : opVC P (.conv d k x) K pan e w = ev e x fun u => Int1 u fun _ n => Wr k n fun v => K ((d, v) :: e) w := (rfl)
theorem s_alloc (d : Nat) (t : TypeId) : opVC P (.alloc d t) K pan e w = K ((d, .pointer (some ⟨w.heap.size, 0, none⟩)) :: e) (w.alloc (.cells (zcells P t) t)) := (rfl)
theorem s_box (d : Nat) (t : TypeId) (x : Operand) : opVC P (.box d t x) K pan e w = ev e x fun u => K ((d, .pointer (some ⟨w.heap.size, 0, none⟩)) :: e) (w.alloc (.cells u.cells t)) := (rfl)
theorem s_load (d : Nat) (x : Operand) : opVC P (.load d x) K pan e w = ev e x fun u => Ptr1 u fun a => Ld w a fun v => K ((d, v) :: e) w := (rfl)
theorem s_loadN (d n : Nat) (x : Operand) : opVC P (.loadN d n x) K pan e w = ev e x fun u => Ptr1 u fun a => LdN w a n fun cs => K ((d, .agg cs) :: e) w := (rfl)
theorem s_store (x v : Operand) : opVC P (.store x v) K pan e w = ev e x fun u => ev e v fun r => Ptr1 u fun a => St w a r fun w' => K e w' := (rfl)
theorem s_storeN (n : Nat) (x v : Operand) : opVC P (.storeN n x v) K pan e w = ev e x fun u => ev e v fun r => Ptr1 u fun a => Agg1 r fun cs => cs.size = n ∧ StN w a cs.toList fun w' => K e w' := (rfl)
theorem s_nilCheck (d : Nat) (x : Operand) : opVC P (.nilCheck d x) K pan e w = ev e x fun u => Ptr1 u fun a => K ((d, .pointer (some a)) :: e) w := (rfl)
theorem s_faddr (d off : Nat) (x : Operand) : opVC P (.faddr d off x) K pan e w = ev e x fun u => Ptr1 u fun a => K ((d, .pointer (some (a.add off))) :: e) w := (rfl)
theorem s_fieldN (d off n : Nat) (x : Operand) : opVC P (.field d off (some n) x) K pan e w = ev e x fun u => Agg1 u fun cs => K ((d, .agg (cs.extract off (off + n))) :: e) w := (rfl)
theorem s_field (d off : Nat) (x : Operand) : opVC P (.field d off none x) K pan e w = ev e x fun u => Agg1 u fun cs => At cs off fun v => K ((d, v) :: e) w := (rfl)
theorem Sl1_mk (a : Addr) (len cap : Nat) (K : Addr → Nat → Prop) : Sl1 (.slice (some a) len cap) K = K a len := (rfl)
theorem s_iaddrL (d c : Nat) (x i : Operand) : opVC P (.iaddrL d c x i) K pan e w = ev e x fun u => ev e i fun j => Int1 j fun _ n => Sl1 u fun a len => bound n len fun m => K ((d, .pointer (some (a.add (m * c)))) :: e) w := (rfl)
theorem s_iaddrA (d len c : Nat) (x i : Operand) : opVC P (.iaddrA d len c x i) K pan e w = ev e x fun u => ev e i fun j => Int1 j fun _ n => Ptr1 u fun a => bound n len fun m => K ((d, .pointer (some (a.add (m * c)))) :: e) w := (rfl)
theorem s_idxAN (d len c : Nat) (x i : Operand) : opVC P (.idxA d len c true x i) K pan e w = ev e x fun u => ev e i fun j => Int1 j fun _ n => Agg1 u fun cs => bound n len fun m => K ((d, .agg (cs.extract (m * c) (m * c + c))) :: e) w := (rfl)
theorem s_idxA (d len c : Nat) (x i : Operand) : opVC P (.idxA d len c false x i) K pan e w = ev e x fun u => ev e i fun j => Int1 j fun _ n => Agg1 u fun cs => bound n len fun m => At cs (m * c) fun v => K ((d, v) :: e) w := (rfl)
theorem s_idxS (d : Nat) (x i : Operand) : opVC P (.idxS d x i) K pan e w = ev e x fun u => ev e i fun j => Int1 j fun _ n => (match u with
    | .string s => bound n s.size fun m => K ((d, .int .u8 (s.data.toList.getD m 0).toNat) :: e) w
    | _ => False) := (rfl)
theorem s_ext (d i : Nat) (x : Operand) : opVC P (.ext d i x) K pan e w = ev e x fun u => Tup1 u i fun v => K ((d, v) :: e) w := (rfl)
def CallPost (d : Option Nat) (K : Env → World → Prop) (pan : List PanicEntry → World → Prop) (e : Env) : Ending → World → Prop := fun en w' => match en with
    | .returned v => K (putO d v e) w'
    | .panicked ch => pan ch w'
    | .outgrown => False
theorem s_call (d : Option Nat) (f : FuncId) (args : List Operand) : opVC P (.call d f args) K pan e w = evs e args fun vs => Calls P f vs.toArray w (CallPost d K pan e) := (rfl)
theorem call_ret (d : Option Nat) (v : Value) : CallPost d K pan e (.returned v) w = K (putO d v e) w := (rfl)
theorem call_pan (d : Option Nat) (ch : List PanicEntry) : CallPost d K pan e (.panicked ch) w = pan ch w := (rfl)
theorem s_build (d : Nat) (t : TypeId) (ps : List (Nat × Nat × Operand)) : opVC P (.build d t ps) K pan e w = evs e (ps.map (·.2.2)) fun vs => fillC (zcells P t) ps vs fun cs => K ((d, .agg cs) :: e) w := (rfl)
theorem s_bslice (d el n c : Nat) (ps : List (Nat × Nat × Operand)) : opVC P (.bslice d el n c ps) K pan e w = evs e (ps.map (·.2.2)) fun vs => fillC (zrep (zcells P el) (n * c)) ps vs fun cs => K ((d, .slice (some ⟨w.heap.size, 0, none⟩) n n) :: e) (w.alloc (.cells cs el)) := (rfl)
theorem s_sliceS (d : Nat) (x : Operand) (lo hi : Option Operand) : opVC P (.sliceS d x lo hi) K pan e w = ev e x fun u => Strg1 u fun s => bnd e hi s.size fun h => bnd e lo 0 fun l => Lims l h s.size fun l h => K ((d, .string (s.extract l h)) :: e) w := (rfl)
theorem s_sliceL (d c : Nat) (x : Operand) (lo hi mx : Option Operand) : opVC P (.sliceL d c x lo hi mx) K pan e w = ev e x fun u => Slc1 u fun a n cap => bnd e mx cap fun m => bnd e hi n fun h => bnd e lo 0 fun l => 0 ≤ m ∧ m ≤ cap ∧ Lims l h m fun l h => K ((d, .slice (if m.toNat = l then a else a.map (·.add (l * c))) (h - l) (m.toNat - l)) :: e) w := (rfl)
theorem s_sliceA (d n c : Nat) (x : Operand) (lo hi : Option Operand) : opVC P (.sliceA d n c x lo hi) K pan e w = ev e x fun u => Ptr1 u fun a => bnd e hi n fun h => bnd e lo 0 fun l => Lims l h n fun l h => K ((d, .slice (some (if n = l then a else a.add (l * c))) (h - l) (n - l)) :: e) w := (rfl)
theorem s_lenS (d : Nat) (x : Operand) : opVC P (.lenS d x) K pan e w = ev e x fun u => Strg1 u fun s => K ((d, .int .i64 s.size) :: e) w := (rfl)
theorem s_lenL (d : Nat) (x : Operand) : opVC P (.lenL d x) K pan e w = ev e x fun u => Slc1 u fun _ n _ => K ((d, .int .i64 n) :: e) w := (rfl)
theorem s_lenA (d n : Nat) : opVC P (.lenA d n) K pan e w = K ((d, .int .i64 n) :: e) w := (rfl)
theorem s_append (d el c bytes : Nat) (s x : Operand) : opVC P (.append d el c bytes s x) K pan e w = ev e s fun u => ev e x fun v => AppVC P el c bytes w u v fun r w' => K ((d, r) :: e) w' := (rfl)
theorem s_conBS (d : Nat) (x : Operand) : opVC P (.conBS d x) K pan e w = ev e x fun u => Slc1 u fun _ n _ => Take w 1 n u fun cs => Bytes1 cs fun s => K ((d, .string s) :: e) w := (rfl)
theorem s_conSB (d el : Nat) (x : Operand) : opVC P (.conSB d el x) K pan e w = ev e x fun u => Strg1 u fun s => ∀ m, s.size ≤ m → K ((d, .slice (some ⟨w.heap.size, 0, none⟩) s.size m) :: e) (w.drew.alloc (.cells (bytesRow s m) el ((bytesRow s m).size, (bytesRow s m).size + 1))) := (rfl)
theorem s_conIS (d : Nat) (x : Operand) : opVC P (.conIS d x) K pan e w = ev e x fun u => Int1 u fun _ n => K ((d, .string (Utf8.encode n)) :: e) w := (rfl)
theorem s_max (d : Nat) (x y : Operand) : opVC P (.mm d true x y) K pan e w = ev e x fun u => ev e y fun v => Int1 u fun k a => Int1 v fun _ b => K ((d, .int k (if b > a then b else a)) :: e) w := (rfl)
theorem s_min (d : Nat) (x y : Operand) : opVC P (.mm d false x y) K pan e w = ev e x fun u => ev e y fun v => Int1 u fun k a => Int1 v fun _ b => K ((d, .int k (if b < a then b else a)) :: e) w := (rfl)
theorem s_copy (d : Option Nat) (c : Nat) (x y : Operand) : opVC P (.copy d c x y) K pan e w = ev e x fun u => ev e y fun v => Slc1 u fun base dl _ => Len1 v fun sl => Take w c (min sl dl) v fun cs => (∀ v ∈ cs, one v = true) ∧ StO w base 0 cs fun w' => K (putO d (.int .i64 (min sl dl : Nat)) e) w' := (rfl)
theorem s_mkMap (d : Nat) (t : TypeId) : opVC P (.mkMap d t) K pan e w = K ((d, .map (some w.heap.size)) :: e) (w.alloc (.map #[] 0)) := (rfl)
theorem s_uSD (d : Nat) (x : Operand) : opVC P (.uSD d x) K pan e w = ev e x fun u => Slc1 u fun a _ c => (a = none ∨ c ≠ 0) ∧ K ((d, .pointer a) :: e) w := (rfl)
theorem s_uStr (d : Nat) (pt : TypeId) (x n : Operand) : opVC P (.uStr d pt x n) K pan e w = ev e x fun u => ev e n fun v => Int1 v fun k m => k = .i64 ∧ UStrVC P pt w u m fun s w' => K ((d, .string s) :: e) w' := (rfl)
theorem s_mkFn (d : Nat) (f : FuncId) (caps : List Operand) : opVC P (.mkFn d f caps) K pan e w = evs e caps fun vs => K ((d, .func (.func f) #[] vs.toArray) :: e) w := (rfl)
def FnOk (P : Program) (f : FuncId) : Prop := (match P.funcs[f]? with | some fn => fn.body.isSome && fn.name != "runtime.NumGoroutine" | none => false) = true
theorem s_callV (d : Option Nat) (fv : Operand) (args : List Operand) : opVC P (.callV d fv args) K pan e w = ev e fv fun u => Fn1 u fun f caps => FnOk P f ∧ evs e args fun vs => Calls P f (vs ++ caps).toArray w (CallPost d K pan e) := (rfl)
theorem s_mkSl (d el c bytes : Nat) (len cap : Operand) : opVC P (.mkSl d el c bytes len cap) K pan e w = ev e len fun u => ev e cap fun v => Int1 u fun k1 n => Int1 v fun k2 m => 0 ≤ n ∧ n ≤ m ∧ m ≤ 4611686018427387904 ∧ m * bytes ≤ 281474976710656 ∧
      K ((d, .slice (some ⟨w.heap.size, 0, none⟩) n.toNat m.toNat) :: e) (w.alloc (.cells (zrep (zcells P el) (m.toNat * c)) el)) := (rfl)
theorem s_iface (d : Nat) (t : TypeId) (x : Operand) : opVC P (.iface d t x) K pan e w = ev e x fun u => K ((d, .iface t u) :: e) w := (rfl)
theorem s_aeq (d : Nat) (neg : Bool) (t : TypeId) (x y : Operand) : opVC P (.aeq d neg t x y) K pan e w = ev e x fun u => ev e y fun v => Agg2W P t u v fun b => K ((d, .bool (if neg then !b else b)) :: e) w := (rfl)
theorem s_beq (d : Nat) (neg : Bool) (x y : Operand) : opVC P (.beq d neg x y) K pan e w = ev e x fun u => ev e y fun v => Bool1 u fun a => Bool1 v fun b => K ((d, .bool (if neg then !(a == b) else a == b)) :: e) w := (rfl)
def Iface1 (x : Value) (K : TypeId → Value → Prop) : Prop := match x with | .iface t v => K t v | _ => False
theorem if_mk (t : TypeId) (v : Value) (K : TypeId → Value → Prop) : Iface1 (.iface t v) K = K t v := (rfl)
theorem s_panic (x : Operand) : opVC P (.panic x) K pan e w = ev e x fun u => Iface1 u fun t v => pan [{ v := .iface t v, recovered := false }] w := (rfl)
theorem s_nili (d : Nat) (neg : Bool) (x : Operand) : opVC P (.nili d neg x) K pan e w = ev e x fun u => NilI u fun b => K ((d, .bool (if neg then !b else b)) :: e) w := (rfl)
theorem ni_if (t : TypeId) (v : Value) (K : Bool → Prop) : NilI (.iface t v) K = K false := (rfl)
theorem ni_nil (K : Bool → Prop) : NilI .nilIface K = K true := (rfl)
theorem s_tas (d : Nat) (t : TypeId) (ok : Bool) (x : Operand) : opVC P (.tas d t ok x) K pan e w = ev e x fun u => TasVC P t ok u fun v => K ((d, v) :: e) w := (rfl)
theorem ts_if (t t' : TypeId) (v : Value) (K : Value → Prop) : TasVC P t true (.iface t' v) K = if t' = t then K (.tuple #[v, .bool true]) else K (.tuple #[zval P t, .bool false]) := by unfold TasVC; simp only [↓reduceIte, true_and]
theorem ts_nil (t : TypeId) (K : Value → Prop) : TasVC P t true .nilIface K = K (.tuple #[zval P t, .bool false]) := by unfold TasVC; simp only [true_and]
theorem ts_must (t t' : TypeId) (v : Value) (K : Value → Prop) : TasVC P t false (.iface t' v) K = (t' = t ∧ K v) := by unfold TasVC; by_cases h : t' = t <;> simp [h]
theorem s_inv (d : Option Nat) (m : String) (x : Operand) (args : List Operand) : opVC P (.inv d m x args) K pan e w = ev e x fun u => IfV u fun t v => ∃ f, methOk P t m f = true ∧ fnBody P f = true ∧ evs e args fun vs => Calls P f (v :: vs).toArray w (CallPost d K pan e) := (rfl)
theorem iv_if (t : TypeId) (v : Value) (K : TypeId → Value → Prop) : IfV (.iface t v) K = K t v := (rfl)
theorem s_rng (d : Nat) (x : Operand) : opVC P (.rng d x) K pan e w = ev e x fun u => Strg1 u fun s => K ((d, .pointer (some ⟨w.heap.size, 0, none⟩)) :: e) (w.alloc (.stringIter s 0)) := (rfl)
theorem s_nxt (d : Nat) (x : Operand) : opVC P (.nxt d x) K pan e w = ev e x fun u => Ptr1 u fun a => NxtVC w a fun v w' => K ((d, v) :: e) w' := (rfl)
theorem fc_nil (cs : Array Value) (K : Array Value → Prop) : fillC cs [] [] K = K cs := (rfl)
theorem fc_cons (cs : Array Value) (off sz : Nat) (x : Operand) (ps : List (Nat × Nat × Operand)) (v : Value) (vs : List Value) (K : Array Value → Prop) : fillC cs ((off, sz, x) :: ps) (v :: vs) K = (v.cells.size = sz ∧ off + sz ≤ cs.size ∧ fillC (putc cs off v.cells) ps vs K) := (rfl)
theorem bd_none (dflt : Int) (K : Int → Prop) : bnd e none dflt K = K dflt := (rfl)
theorem bd_some (x : Operand) (dflt : Int) (K : Int → Prop) : bnd e (some x) dflt K = ev e x fun v => Int1 v fun _ n => K n := (rfl)
theorem fn_mk (f : FuncId) (caps : Array Value) (K : FuncId → List Value → Prop) : Fn1 (.func (.func f) #[] caps) K = K f caps.toList := by simp [Fn1]
theorem lm_mk (l h m : Int) (K : Nat → Nat → Prop) : Lims l h m K = (0 ≤ l ∧ l ≤ h ∧ h ≤ m ∧ K l.toNat h.toNat) := (rfl)
theorem ln_str (s : ByteArray) (K : Nat → Prop) : Len1 (.string s) K = K s.size := (rfl)
theorem ln_sl (a : Option Addr) (n c : Nat) (K : Nat → Prop) : Len1 (.slice a n c) K = K n := (rfl)
theorem tk_some (c n : Nat) (a : Addr) (l cap : Nat) (K : List Value → Prop) : Take w c n (.slice (some a) l cap) K = LdN w a (n * c) fun cs => K cs.toList := (rfl)
theorem tk_none (c n : Nat) (l cap : Nat) (K : List Value → Prop) : Take w c n (.slice none l cap) K = (n = 0 ∧ K []) := (rfl)
theorem tk_str (c n : Nat) (s : ByteArray) (K : List Value → Prop) : Take w c n (.string s) K = (c = 1 ∧ n ≤ s.size ∧ K ((s.data.toList.take n).map fun b => .int .u8 b.toNat)) := (rfl)
theorem so_some (a : Addr) (i : Nat) (vs : List Value) (K : World → Prop) : StO w (some a) i vs K = StN w (a.add i) vs K := (rfl)
theorem so_none (i : Nat) (vs : List Value) (K : World → Prop) : StO w none i vs K = (vs = [] ∧ K w) := (rfl)
theorem cl_int (k : IntKind) (n : Int) : (Value.int k n).cells = #[.int k n] := (rfl)
theorem cl_bool (b : Bool) : (Value.bool b).cells = #[.bool b] := (rfl)
theorem cl_str (s : ByteArray) : (Value.string s).cells = #[.string s] := (rfl)
theorem cl_ptr (a : Option Addr) : (Value.pointer a).cells = #[.pointer a] := (rfl)
theorem cl_sl (a : Option Addr) (n c : Nat) : (Value.slice a n c).cells = #[.slice a n c] := (rfl)
theorem cl_if (t : TypeId) (v : Value) : (Value.iface t v).cells = #[.iface t v] := (rfl)
theorem cl_nif : (Value.nilIface).cells = #[.nilIface] := (rfl)
theorem cl_agg (cs : Array Value) : (Value.agg cs).cells = cs := (rfl)
end
theorem e_tmp (e : Env) (t : Nat) (K : Value → Prop) : ev e (.tmp t) K = lk e t K := (rfl)
theorem e_const (e : Env) (v : Value) (K : Value → Prop) : ev e (.const v) K = K v := (rfl)
theorem e_global (e : Env) (g : Nat) (K : Value → Prop) : ev e (.global g) K = K (.pointer (some ⟨g, 0, none⟩)) := (rfl)
theorem e_func (e : Env) (f : FuncId) (K : Value → Prop) : ev e (.func f) K = K (.func (.func f) #[] #[]) := (rfl)
theorem es_nil (e : Env) (K : List Value → Prop) : evs e [] K = K [] := (rfl)
theorem es_cons (e : Env) (x : Operand) (r : List Operand) (K : List Value → Prop) : evs e (x :: r) K = ev e x fun v => evs e r fun vs => K (v :: vs) := (rfl)
theorem l_cons (k : Nat) (v : Value) (r : Env) (t : Nat) (K : Value → Prop) : lk ((k, v) :: r) t K = if k = t then K v else lk r t K := (rfl)
theorem f_nil (t : Nat) : find? [] t = none := (rfl)
theorem f_cons (k : Nat) (v : Value) (r : Env) (t : Nat) : find? ((k, v) :: r) t = if k = t then some v else find? r t := (rfl)
theorem k_nil (e : Env) : keep e [] = [] := (rfl)
theorem k_cons (e : Env) (k : Nat) (ks : List Nat) : keep e (k :: ks) = match find? e k with | some v => (k, v) :: keep e ks | none => keep e ks := (rfl)
theorem a_nil (i : Nat) : argEnv i [] = [] := (rfl)
theorem a_cons (i : Nat) (v : Value) (vs : List Value) : argEnv i (v :: vs) = (i, v) :: argEnv (i + 1) vs := (rfl)
theorem rv_nil (e : Env) (w : World) (K : List Value → Prop) : rets [] e w K = K [] := (rfl)
theorem rv_t (t : Nat) (r : List RV) (e : Env) (w : World) (K : List Value → Prop) : rets (.t t :: r) e w K = lk e t fun v => rets r e w fun vs => K (v :: vs) := (rfl)
theorem rv_c1 (t : Nat) (r : List RV) (e : Env) (w : World) (K : List Value → Prop) : rets (.c1 t :: r) e w K = lk e t fun u => Ptr1 u fun a => Ld w a fun v => rets r e w fun vs => K (v :: vs) := (rfl)
theorem rv_cN (t n : Nat) (r : List RV) (e : Env) (w : World) (K : List Value → Prop) : rets (.cN t n :: r) e w K = lk e t fun u => Ptr1 u fun a => LdN w a n fun cs => rets r e w fun vs => K (.agg cs :: vs) := (rfl)
theorem tup_0 : tup [] = .tuple #[] := (rfl)
theorem tup_1 (v : Value) : tup [v] = v := (rfl)
theorem tup_2 (u v : Value) : tup [u, v] = .tuple #[u, v] := (rfl)
theorem tup_3 (u v x : Value) : tup [u, v, x] = .tuple #[u, v, x] := (rfl)
theorem tup_4 (u v x y : Value) : tup [u, v, x, y] = .tuple #[u, v, x, y] := (rfl)
theorem po_some (d : Nat) (v : Value) (e : Env) : putO (some d) v e = (d, v) :: e := (rfl)
theorem po_none (v : Value) (e : Env) : putO none v e = e := (rfl)
section
variable (k : IntKind) (a b : Int) (K : Value → Prop)
theorem ar_add : arith .add k a b K = Wr k (a + b) K := (rfl)
theorem ar_sub : arith .sub k a b K = Wr k (a - b) K := (rfl)
theorem ar_mul : arith .mul k a b K = Wr k (a * b) K := (rfl)
theorem ar_quo : arith .quo k a b K = (b ≠ 0 ∧ Wr k (a.tdiv b) K) := (rfl)
theorem ar_rem : arith .rem k a b K = (b ≠ 0 ∧ K (.int k (a.tmod b))) := (rfl)
theorem ar_eql : arith .eql k a b K = K (.bool (decide (a = b))) := (rfl)
theorem ar_neq : arith .neq k a b K = K (.bool (decide (a ≠ b))) := (rfl)
theorem ar_lss : arith .lss k a b K = K (.bool (decide (a < b))) := (rfl)
theorem ar_leq : arith .leq k a b K = K (.bool (decide (a ≤ b))) := (rfl)
theorem ar_gtr : arith .gtr k a b K = K (.bool (decide (b < a))) := (rfl)
theorem ar_geq : arith .geq k a b K = K (.bool (decide (b ≤ a))) := (rfl)
theorem sh_shl (k' : IntKind) : shift .shl k (.int k a) (.int k' b) K = (0 ≤ b ∧ Wr k (a * 2 ^ (min b.toNat k.bits)) K) := by simp [shift, Wr]
theorem sh_shr (k' : IntKind) : shift .shr k (.int k a) (.int k' b) K = (0 ≤ b ∧ K (.int k (a.fdiv (2 ^ (min b.toNat k.bits))))) := by simp [shift]
end

theorem str_add (a b : ByteArray) (K : Value → Prop) : strop .add a b K = (a.size + b.size ≤ 9223372036854775807 ∧ K (.string (a ++ b))) := (rfl)
theorem str_eql (a b : ByteArray) (K : Value → Prop) : strop .eql a b K = K (.bool (a.toList == b.toList)) := (rfl)
theorem str_neq (a b : ByteArray) (K : Value → Prop) : strop .neq a b K = K (.bool (!(a.toList == b.toList))) := (rfl)
theorem ay_1 (a : Value) : (#[a] : Array Value).size = 1 := (rfl)
theorem ay_2 (a b : Value) : (#[a, b] : Array Value).size = 2 := (rfl)
theorem ay_3 (a b c : Value) : (#[a, b, c] : Array Value).size = 3 := (rfl)
theorem ay_4 (a b c d : Value) : (#[a, b, c, d] : Array Value).size = 4 := (rfl)
theorem ay_at10 (a : Value) (K : Value → Prop) : At #[a] 0 K = K a := (rfl)
theorem ay_at20 (a b : Value) (K : Value → Prop) : At #[a, b] 0 K = K a := (rfl)
theorem ay_at21 (a b : Value) (K : Value → Prop) : At #[a, b] 1 K = K b := (rfl)
theorem ay_at30 (a b c : Value) (K : Value → Prop) : At #[a, b, c] 0 K = K a := (rfl)
theorem ay_at31 (a b c : Value) (K : Value → Prop) : At #[a, b, c] 1 K = K b := (rfl)
theorem ay_at32 (a b c : Value) (K : Value → Prop) : At #[a, b, c] 2 K = K c := (rfl)
theorem ay_at40 (a b c d : Value) (K : Value → Prop) : At #[a, b, c, d] 0 K = K a := (rfl)
theorem ay_at41 (a b c d : Value) (K : Value → Prop) : At #[a, b, c, d] 1 K = K b := (rfl)
theorem ay_at42 (a b c d : Value) (K : Value → Prop) : At #[a, b, c, d] 2 K = K c := (rfl)
theorem ay_at43 (a b c d : Value) (K : Value → Prop) : At #[a, b, c, d] 3 K = K d := (rfl)
theorem tp_20 (a b : Value) (K : Value → Prop) : Tup1 (.tuple #[a, b]) 0 K = K a := (rfl)
theorem tp_21 (a b : Value) (K : Value → Prop) : Tup1 (.tuple #[a, b]) 1 K = K b := (rfl)
theorem tp_30 (a b c : Value) (K : Value → Prop) : Tup1 (.tuple #[a, b, c]) 0 K = K a := (rfl)
theorem tp_31 (a b c : Value) (K : Value → Prop) : Tup1 (.tuple #[a, b, c]) 1 K = K b := (rfl)
theorem tp_32 (a b c : Value) (K : Value → Prop) : Tup1 (.tuple #[a, b, c]) 2 K = K c := (rfl)
theorem tp_40 (a b c d : Value) (K : Value → Prop) : Tup1 (.tuple #[a, b, c, d]) 0 K = K a := (rfl)
theorem tp_41 (a b c d : Value) (K : Value → Prop) : Tup1 (.tuple #[a, b, c, d]) 1 K = K b := (rfl)
theorem tp_42 (a b c d : Value) (K : Value → Prop) : Tup1 (.tuple #[a, b, c, d]) 2 K = K c := (rfl)
theorem tp_43 (a b c d : Value) (K : Value → Prop) : Tup1 (.tuple #[a, b, c, d]) 3 K = K d := (rfl)
theorem tp_50 (a b c d f : Value) (K : Value → Prop) : Tup1 (.tuple #[a, b, c, d, f]) 0 K = K a := (rfl)
theorem tp_51 (a b c d f : Value) (K : Value → Prop) : Tup1 (.tuple #[a, b, c, d, f]) 1 K = K b := (rfl)
theorem tp_52 (a b c d f : Value) (K : Value → Prop) : Tup1 (.tuple #[a, b, c, d, f]) 2 K = K c := (rfl)
theorem tp_53 (a b c d f : Value) (K : Value → Prop) : Tup1 (.tuple #[a, b, c, d, f]) 3 K = K d := (rfl)
theorem tp_54 (a b c d f : Value) (K : Value → Prop) : Tup1 (.tuple #[a, b, c, d, f]) 4 K = K f := (rfl)
theorem tp_60 (a b c d f h : Value) (K : Value → Prop) : Tup1 (.tuple #[a, b, c, d, f, h]) 0 K = K a := (rfl)
theorem tp_61 (a b c d f h : Value) (K : Value → Prop) : Tup1 (.tuple #[a, b, c, d, f, h]) 1 K = K b := (rfl)
theorem tp_62 (a b c d f h : Value) (K : Value → Prop) : Tup1 (.tuple #[a, b, c, d, f, h]) 2 K = K c := (rfl)
theorem tp_63 (a b c d f h : Value) (K : Value → Prop) : Tup1 (.tuple #[a, b, c, d, f, h]) 3 K = K d := (rfl)
theorem tp_64 (a b c d f h : Value) (K : Value → Prop) : Tup1 (.tuple #[a, b, c, d, f, h]) 4 K = K f := (rfl)
theorem tp_65 (a b c d f h : Value) (K : Value → Prop) : Tup1 (.tuple #[a, b, c, d, f, h]) 5 K = K h := (rfl)
theorem tp_70 (a b c d f h i : Value) (K : Value → Prop) : Tup1 (.tuple #[a, b, c, d, f, h, i]) 0 K = K a := (rfl)
theorem tp_71 (a b c d f h i : Value) (K : Value → Prop) : Tup1 (.tuple #[a, b, c, d, f, h, i]) 1 K = K b := (rfl)
theorem tp_72 (a b c d f h i : Value) (K : Value → Prop) : Tup1 (.tuple #[a, b, c, d, f, h, i]) 2 K = K c := (rfl)
theorem tp_73 (a b c d f h i : Value) (K : Value → Prop) : Tup1 (.tuple #[a, b, c, d, f, h, i]) 3 K = K d := (rfl)
theorem tp_74 (a b c d f h i : Value) (K : Value → Prop) : Tup1 (.tuple #[a, b, c, d, f, h, i]) 4 K = K f := (rfl)
theorem tp_75 (a b c d f h i : Value) (K : Value → Prop) : Tup1 (.tuple #[a, b, c, d, f, h, i]) 5 K = K h := (rfl)
theorem tp_76 (a b c d f h i : Value) (K : Value → Prop) : Tup1 (.tuple #[a, b, c, d, f, h, i]) 6 K = K i := (rfl)
theorem ay_l0 : (#[] : Array Value).toList = [] := (rfl)
theorem ay_l1 (a : Value) : (#[a] : Array Value).toList = [a] := (rfl)
theorem ay_l2 (a b : Value) : (#[a, b] : Array Value).toList = [a, b] := (rfl)
theorem ay_l3 (a b c : Value) : (#[a, b, c] : Array Value).toList = [a, b, c] := (rfl)
theorem ay_l4 (a b c d : Value) : (#[a, b, c, d] : Array Value).toList = [a, b, c, d] := (rfl)
theorem ad_add (b o j : Nat) : (⟨b, o, none⟩ : Addr).add j = ⟨b, o + j, none⟩ := by unfold Addr.add; split <;> simp_all
theorem ld_at {w : World} {b o : Nat} {C : Array Value} {T : TypeId} {fz : Nat × Nat} {K : Value → Prop} (hb : w.heap[b]? = some (.cells C T fz)) (h : At C o K) : Ld w ⟨b, o, none⟩ K := by
  unfold Ld; simp only [hb]; exact ⟨trivial, h⟩
theorem ldN_at {w : World} {b o n : Nat} {C : Array Value} {T : TypeId} {fz : Nat × Nat} {K : Array Value → Prop} (hb : w.heap[b]? = some (.cells C T fz)) (hl : o + n ≤ C.size) (h : K (C.extract o (o + n))) : LdN w ⟨b, o, none⟩ n K := by
  unfold LdN; simp only [hb]; exact ⟨trivial, hl, h⟩
theorem st_at {w : World} {b o : Nat} {C : Array Value} {T : TypeId} {fz : Nat × Nat} {v : Value} {K : World → Prop} (hb : w.heap[b]? = some (.cells C T fz)) (hl : o < C.size) (hf : fz.2 ≤ o ∨ o < fz.1) (h1 : one v = true)
    (h : K (w.setRow b (C.setIfInBounds o v))) : St w ⟨b, o, none⟩ v K := by
  unfold St; simp only [hb]; exact ⟨trivial, hl, hf, h1, h⟩
theorem stN_at {w : World} {b o : Nat} {C : Array Value} {T : TypeId} {fz : Nat × Nat} {vs : List Value} {K : World → Prop} (hb : w.heap[b]? = some (.cells C T fz)) (hl : o + vs.length ≤ C.size) (hf : fz.2 ≤ o ∨ o + vs.length ≤ fz.1)
    (h1 : ∀ v ∈ vs, one v = true) (h : K (w.setRow b (over C o vs))) : StN w ⟨b, o, none⟩ vs K := by
  unfold StN; simp only [hb]; exact ⟨trivial, hl, hf, h1, h⟩
theorem at_of {C : Array Value} {i : Nat} {v : Value} {K : Value → Prop} (hv : C[i]? = some v) (h : K v) : At C i K := by
  unfold At; rw [hv]; exact h

theorem wrap_i64 {n : Int} (h1 : -9223372036854775808 ≤ n) (h2 : n ≤ 9223372036854775807) : IntKind.i64.wrap n = n := by
  simp only [IntKind.wrap, IntKind.bits, IntKind.signed]
  simp
  omega
theorem wrap_u8 {n : Int} (h1 : 0 ≤ n) (h2 : n ≤ 255) : IntKind.u8.wrap n = n := by
  simp only [IntKind.wrap, IntKind.bits, IntKind.signed]
  simp
  omega

theorem wr_i64 {n : Int} {K : Value → Prop} (h1 : -9223372036854775808 ≤ n) (h2 : n ≤ 9223372036854775807) (h : K (.int .i64 n)) : Wr .i64 n K := by unfold Wr; rw [wrap_i64 h1 h2]; exact h
theorem wr_u8 {n : Int} {K : Value → Prop} (h1 : 0 ≤ n) (h2 : n ≤ 255) (h : K (.int .u8 n)) : Wr .u8 n K := by unfold Wr; rw [wrap_u8 h1 h2]; exact h
theorem wr_u8m {n : Int} {K : Value → Prop} (h : K (.int .u8 (n % 256))) : Wr .u8 n K := by
  have : IntKind.u8.wrap n = n % 256 := by simp [IntKind.wrap, IntKind.bits, IntKind.signed]
  unfold Wr; rw [this]; exact h
theorem wr_i32 {n : Int} {K : Value → Prop} (h1 : -2147483648 ≤ n) (h2 : n ≤ 2147483647) (h : K (.int .i32 n)) : Wr .i32 n K := by
  have e : IntKind.i32.wrap n = n := by simp [IntKind.wrap, IntKind.signed, IntKind.bits]; omega
  unfold Wr; rw [e]; exact h
theorem wr_i16 {n : Int} {K : Value → Prop} (h1 : -32768 ≤ n) (h2 : n ≤ 32767) (h : K (.int .i16 n)) : Wr .i16 n K := by
  have e : IntKind.i16.wrap n = n := by simp [IntKind.wrap, IntKind.signed, IntKind.bits]; omega
  unfold Wr; rw [e]; exact h
theorem wr_u32 {n : Int} {K : Value → Prop} (h1 : 0 ≤ n) (h2 : n ≤ 4294967295) (h : K (.int .u32 n)) : Wr .u32 n K := by
  have e : IntKind.u32.wrap n = n := by simp [IntKind.wrap, IntKind.signed, IntKind.bits]; omega
  unfold Wr; rw [e]; exact h
theorem wr_u16 {n : Int} {K : Value → Prop} (h1 : 0 ≤ n) (h2 : n ≤ 65535) (h : K (.int .u16 n)) : Wr .u16 n K := by
  have e : IntKind.u16.wrap n = n := by simp [IntKind.wrap, IntKind.signed, IntKind.bits]; omega
  unfold Wr; rw [e]; exact h
theorem wr_u64 {n : Int} {K : Value → Prop} (h1 : 0 ≤ n) (h2 : n ≤ 18446744073709551615) (h : K (.int .u64 n)) : Wr .u64 n K := by
  have : IntKind.u64.wrap n = n := by
    simp only [IntKind.wrap, IntKind.bits, IntKind.signed]
    simp
    omega
  unfold Wr; rw [this]; exact h
/-- A loop over states s : σ: E s is what the frame holds, W s is what is known. -/
theorem loop_of {σ : Type} {body : Post → Env → World → Prop} {Q : Post} {e : Env} {w : World} (E : σ → Env) (I : σ → World → Prop) (μ : σ → Nat) (s : σ) (he : e = E s) (h0 : I s w)
    (hr : ∀ s w, I s w → body (Q.then fun e' w' => ∃ s', e' = E s' ∧ I s' w' ∧ μ s' < μ s) (E s) w) : LoopVC body Q e w :=
  ⟨fun m e w => ∃ s, e = E s ∧ I s w ∧ μ s = m, μ s, ⟨s, he, h0, rfl⟩, fun m e w ⟨s, he, hI, hm⟩ => by
    subst he; subst hm
    have := hr s w hI
    refine cast ?_ this
    congr 1
    unfold Post.then
    congr 1
    funext e' w'
    apply propext
    constructor
    · rintro ⟨s', h1, h2, h3⟩; exact ⟨μ s', h3, s', h1, h2, rfl⟩
    · rintro ⟨m', h3, s', h1, h2, rfl⟩; exact ⟨s', h1, h2, h3⟩⟩

/-- A loop whose first head holds more than the later ones: x is the rest. -/
theorem loop_ofx {σ : Type} {body : Post → Env → World → Prop} {Q : Post} {e : Env} {w : World} (E : σ → Env) (I : σ → World → Prop) (μ : σ → Nat) (s : σ) (x : Env) (he : e = E s ++ x) (h0 : I s w)
    (hr : ∀ s x w, I s w → body (Q.then fun e' w' => ∃ s', (∃ x', e' = E s' ++ x') ∧ I s' w' ∧ μ s' < μ s) (E s ++ x) w) : LoopVC body Q e w :=
  ⟨fun m e w => ∃ s, (∃ x, e = E s ++ x) ∧ I s w ∧ μ s = m, μ s, ⟨s, ⟨x, he⟩, h0, rfl⟩, fun m e w ⟨s, ⟨x, he⟩, hI, hm⟩ => by
    subst he; subst hm
    have := hr s x w hI
    refine cast ?_ this
    congr 1
    unfold Post.then
    congr 1
    funext e' w'
    apply propext
    constructor
    · rintro ⟨s', h1, h2, h3⟩; exact ⟨μ s', h3, s', h1, h2, rfl⟩
    · rintro ⟨m', h3, s', h1, h2, rfl⟩; exact ⟨s', h1, h2, h3⟩⟩

end X
end Go.Proofs.YtgibicifflfpfaaDoor
