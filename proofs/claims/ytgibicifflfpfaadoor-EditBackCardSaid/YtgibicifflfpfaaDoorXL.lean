/-
  The engine: the rules, in one conjunction (RA); small facts (MI). Conditions: none.
-/
import Derived.Test.YtgibicifflfpfaaDoorX6
set_option autoImplicit false
set_option linter.unusedVariables false
namespace Go.Proofs.YtgibicifflfpfaaDoor
namespace X
theorem MI : ((0 : Nat) ≠ 1) ∧ ((1 : Nat) ≠ 0) ∧ ((false = true) = False) ∧ ((true = false) = False) ∧ ((!true) = false) ∧ ((!false) = true) ∧ (∀ (p : Prop) [Decidable p], (decide p = true) = p) ∧ (∀ (p : Prop) [Decidable p], (decide p = false) = ¬p) ∧ (∀ {α β : Type} (f : α → β) (a : α) (l : List α), List.map f (a :: l) = f a :: List.map f l) ∧ (∀ {α β : Type} (f : α → β), List.map f [] = []) ∧ (∀ {α : Type} (l : List α), List.drop 0 l = l) ∧ (∀ {α : Type} (a : α) (l m : List α), (a :: l) ++ m = a :: (l ++ m)) ∧ (∀ {α : Type} (l : List α), [] ++ l = l) ∧ (∀ n : Nat, 0 + n = n) ∧ (∀ n : Nat, n + 0 = n) ∧ (∀ n : Nat, n * 1 = n) ∧ (∀ n : Nat, Int.toNat (n : Int) = n) ∧ ((¬ False) = True) ∧ (∀ n : Nat, n - 0 = n) ∧ (Int.toNat 0 = 0) ∧ (∀ b : Bool, ((!b) = true) = (b = false)) :=
  ⟨Nat.zero_ne_one, Nat.one_ne_zero, Bool.false_eq_true, Bool.true_eq_false, Bool.not_true, Bool.not_false, fun p _ => decide_eq_true_eq, fun p _ => propext decide_eq_false_iff_not, fun _ _ _ => List.map_cons, fun _ => List.map_nil, fun _ => List.drop_zero, fun _ _ _ => List.cons_append, fun _ => List.nil_append _, Nat.zero_add, Nat.add_zero, Nat.mul_one, Int.toNat_natCast, not_false_eq_true, Nat.sub_zero, Int.toNat_zero, fun b => Bool.not_eq_true' b⟩
theorem RA :
    (∀ (k : IntKind) (a b : Int) (K : Int → Int → Prop), Int2 k (.int k a) (.int k b) K = K a b) ∧
    (∀ (a b : ByteArray) (K : ByteArray → ByteArray → Prop), Str2 (.string a) (.string b) K = K a b) ∧
    (∀ (b : Bool) (K : Bool → Prop), Bool1 (.bool b) K = K b) ∧
    (∀ (k : IntKind) (n : Int) (K : IntKind → Int → Prop), Int1 (.int k n) K = K k n) ∧
    (∀ (a : Addr) (K : Addr → Prop), Ptr1 (.pointer (some a)) K = K a) ∧
    (∀ (cs : Array Value) (K : Array Value → Prop), Agg1 (.agg cs) K = K cs) ∧
    (∀ (a : Option Addr) (K : Bool → Prop), Nil1 (.pointer a) K = K a.isNone) ∧
    (∀ (s : ByteArray) (K : ByteArray → Prop), Strg1 (.string s) K = K s) ∧
    (∀ (a : Option Addr) (n c : Nat) (K : Option Addr → Nat → Nat → Prop), Slc1 (.slice a n c) K = K a n c) ∧
    (∀ (P : Program) (Q : Post) (e : Env) (w : World), vc P .skip Q e w = Q.nor e w) ∧
    (∀ (P : Program) (Q : Post) (e : Env) (w : World) (l : List G), vc P (.region l) Q e w = vcOps P l Q.nor Q.pan e w) ∧
    (∀ (P : Program) (Q : Post) (e : Env) (w : World) (l : List G), vc P (.regionD l) Q e w = vcOps P l Q.nor Q.pan e w.drew) ∧
    (∀ (P : Program) (Q : Post) (e : Env) (w : World) (l : List (Nat × G)), vc P (.regionW l) Q e w = vcW P (fun _ => True) l (fun _ => Q.nor) Q.pan e w.drew) ∧
    (∀ (P : Program) (Q : Post) (e : Env) (w : World) (t : GT), vc P (.regionT t) Q e w = vcT P (fun _ => True) t Q.nor Q.pan e w.drew) ∧
    (∀ (P : Program) (K : Env → World → Prop) (pan : List PanicEntry → World → Prop) (e : Env) (w : World) (W : World → Prop) (l : List (Nat × G)), vcT P W (.fin l) K pan e w = vcW P W l (fun _ => K) pan e w) ∧
    (∀ (P : Program) (K : Env → World → Prop) (pan : List PanicEntry → World → Prop) (e : Env) (w : World) (W : World → Prop) (l : List (Nat × G)) (a b : GT), vcT P W (.fork l a b) K pan e w = vcW P W l (fun W' e w => vcT P W' a K pan e w ∧ vcT P W' b K pan e w) pan e w) ∧
    (∀ (P : Program) (Q : Post) (e : Env) (w : World) (a b : C), vc P (.seq a b) Q e w = vc P a (Q.then (vc P b Q)) e w) ∧
    (∀ (P : Program) (Q : Post) (e : Env) (w : World) (x : Operand) (a b : C), vc P (.cond x a b) Q e w = ev e x fun v => Bool1 v fun t => if t = true then vc P a Q e w else vc P b Q e w) ∧
    (∀ (P : Program) (Q : Post) (e : Env) (w : World) (id : Nat) (b : C), vc P (.block id b) Q e w = vc P b (Q.inBlock id) e w) ∧
    (∀ (P : Program) (Q : Post) (e : Env) (w : World) (b : C), vc P (.loop b) Q e w = LoopVC (vc P b) Q e w) ∧
    (∀ (P : Program) (Q : Post) (e : Env) (w : World) (id : Nat), vc P (.exit id) Q e w = Q.ext id e w) ∧
    (∀ (P : Program) (Q : Post) (e : Env) (w : World), vc P .ret Q e w = Q.ret e w) ∧
    (∀ (Q : Post) (e : Env) (w : World) (K : Env → World → Prop), (Q.then K).nor e w = K e w) ∧
    (∀ (Q : Post) (e : Env) (w : World) (K : Env → World → Prop) (i : Nat), (Q.then K).ext i e w = Q.ext i e w) ∧
    (∀ (Q : Post) (e : Env) (w : World) (K : Env → World → Prop), (Q.then K).ret e w = Q.ret e w) ∧
    (∀ (Q : Post) (w : World) (K : Env → World → Prop) (ch : List PanicEntry), (Q.then K).pan ch w = Q.pan ch w) ∧
    (∀ (Q : Post) (e : Env) (w : World) (i : Nat), (Q.inBlock i).nor e w = Q.nor e w) ∧
    (∀ (Q : Post) (e : Env) (w : World) (i j : Nat), (Q.inBlock i).ext j e w = if j = i then Q.nor e w else Q.ext j e w) ∧
    (∀ (Q : Post) (e : Env) (w : World) (i : Nat), (Q.inBlock i).ret e w = Q.ret e w) ∧
    (∀ (Q : Post) (w : World) (i : Nat) (ch : List PanicEntry), (Q.inBlock i).pan ch w = Q.pan ch w) ∧
    (∀ (e : Env) (w : World) (rs : List RV) (R : Ending → World → Prop), (endPost rs R).nor e w = rets rs e w fun vs => R (.returned (tup vs)) w) ∧
    (∀ (e : Env) (w : World) (rs : List RV) (R : Ending → World → Prop), (endPost rs R).ret e w = rets rs e w fun vs => R (.returned (tup vs)) w) ∧
    (∀ (w : World) (rs : List RV) (R : Ending → World → Prop) (ch : List PanicEntry), (endPost rs R).pan ch w = R (.panicked ch) w) ∧
    (∀ (P : Program) (K : Env → World → Prop) (pan : List PanicEntry → World → Prop) (e : Env) (w : World), vcOps P [] K pan e w = K e w) ∧
    (∀ (P : Program) (K : Env → World → Prop) (pan : List PanicEntry → World → Prop) (e : Env) (w : World) (ks : List Nat) (r : List G), vcOps P (.keep ks :: r) K pan e w = vcOps P r K pan (X.keep e ks) w) ∧
    (∀ (P : Program) (K : Env → World → Prop) (pan : List PanicEntry → World → Prop) (e : Env) (w : World) (s : S) (r : List G), vcOps P (.op s none :: r) K pan e w = opVC P s (vcOps P r K pan) pan e w) ∧
    (∀ (P : Program) (K : Env → World → Prop) (pan : List PanicEntry → World → Prop) (e : Env) (w : World) (s : S) (t : Nat) (b : Bool) (r : List G), vcOps P (.op s (some (t, b)) :: r) K pan e w = lk e t (GuardVC P b t s r K pan e w)) ∧
    (∀ (P : Program) (K : Env → World → Prop) (pan : List PanicEntry → World → Prop) (e : Env) (w : World) (b : Bool) (t : Nat) (s : S) (r : List G) (c : Bool), GuardVC P b t s r K pan e w (.bool c) = if c = b then opVC P s (vcOps P r K pan) pan ((t, .bool b) :: e) w else vcOps P r K pan (putO s.dst undef ((t, .bool (!b)) :: e)) w) ∧
    (∀ (P : Program) (K : Env → World → Prop) (pan : List PanicEntry → World → Prop) (e : Env) (w : World) (b : Bool) (t : Nat) (s : S) (r : List G), GuardVC P b t s r K pan e w undef = vcOps P r K pan (putO s.dst undef e) w) ∧
    (∀ (P : Program) (pan : List PanicEntry → World → Prop) (e : Env) (w : World) (W : World → Prop) (J : (World → Prop) → Env → World → Prop), vcW P W [] J pan e w = J W e w) ∧
    (∀ (P : Program) (pan : List PanicEntry → World → Prop) (e : Env) (w : World) (W : World → Prop) (J : (World → Prop) → Env → World → Prop) (f : Nat) (ks : List Nat) (r : List (Nat × G)), vcW P W ((f, .keep ks) :: r) J pan e w = vcW P W r J pan (X.keep e ks) w) ∧
    (∀ (P : Program) (pan : List PanicEntry → World → Prop) (e : Env) (w : World) (W : World → Prop) (J : (World → Prop) → Env → World → Prop) (s : S) (r : List (Nat × G)), vcW P W ((0, .op s none) :: r) J pan e w = opVC P s (vcW P W r J pan) pan e w) ∧
    (∀ (P : Program) (pan : List PanicEntry → World → Prop) (e : Env) (w : World) (W : World → Prop) (J : (World → Prop) → Env → World → Prop) (s : S) (r : List (Nat × G)), vcW P W ((1, .op s none) :: r) J pan e w = opVC P s (fun e' w' => vcW P (fun w'' => W w'' ∧ OldR s e w w'') r J pan e' w') pan e w) ∧
    (∀ (e : Env) (w : World) (d : Nat) (x : Operand) (w' : World), OldR (.load d x) e w w' = ev e x fun u => Ptr1 u fun a => SameB a.block w w') ∧
    (∀ (e : Env) (w : World) (d n : Nat) (x : Operand) (w' : World), OldR (.loadN d n x) e w w' = ev e x fun u => Ptr1 u fun a => SameB a.block w w') ∧
    (∀ (e : Env) (w : World) (d : Nat) (x : Operand) (w' : World), OldR (.conBS d x) e w w' = ev e x fun u => Slc1 u fun a _ _ => SameO a w w') ∧
    (∀ (w : World) (a : Addr) (w' : World), SameO (some a) w w' = SameB a.block w w') ∧
    (∀ (w : World) (w' : World), SameO none w w' = True) ∧
    (∀ (P : Program) (pan : List PanicEntry → World → Prop) (e : Env) (w : World) (W : World → Prop) (J : (World → Prop) → Env → World → Prop) (s : S) (r : List (Nat × G)), vcW P W ((2, .op s none) :: r) J pan e w = opVC P s (fun e' w' => W w' ∧ vcW P W r J pan e' w') pan e w) ∧
    (∀ (P : Program) (pan : List PanicEntry → World → Prop) (e : Env) (w : World) (W : World → Prop) (J : (World → Prop) → Env → World → Prop) (f : Nat) (s : S) (t : Nat) (b : Bool) (r : List (Nat × G)), vcW P W ((f, .op s (some (t, b))) :: r) J pan e w = lk e t (GuardW P W f b t s r J pan e w)) ∧
    (∀ (P : Program) (pan : List PanicEntry → World → Prop) (e : Env) (w : World) (W : World → Prop) (J : (World → Prop) → Env → World → Prop) (f : Nat) (b : Bool) (t : Nat) (s : S) (r : List (Nat × G)) (c : Bool), GuardW P W f b t s r J pan e w (.bool c) = if c = b then vcW P W ((f, .op s none) :: r) J pan ((t, .bool b) :: e) w else (f < 2 ∨ W w) ∧ vcW P W r J pan (putO s.dst undef ((t, .bool (!b)) :: e)) w) ∧
    (∀ (P : Program) (pan : List PanicEntry → World → Prop) (e : Env) (w : World) (W : World → Prop) (J : (World → Prop) → Env → World → Prop) (f : Nat) (b : Bool) (t : Nat) (s : S) (r : List (Nat × G)), GuardW P W f b t s r J pan e w undef = ((f < 2 ∨ W w) ∧ vcW P W r J pan (putO s.dst undef e) w)) ∧
    (∀ (P : Program) (K : Env → World → Prop) (pan : List PanicEntry → World → Prop) (e : Env) (w : World) (d : Nat) (x : Operand), opVC P (.mov d x) K pan e w = ev e x fun v => K ((d, v) :: e) w) ∧
    (∀ (P : Program) (K : Env → World → Prop) (pan : List PanicEntry → World → Prop) (e : Env) (w : World) (d : Nat) (c x y : Operand), opVC P (.pick d c x y) K pan e w = ev e c fun vc => Bool1 vc fun b => if b = true then ev e x fun v => K ((d, v) :: e) w else ev e y fun v => K ((d, v) :: e) w) ∧
    (∀ (P : Program) (K : Env → World → Prop) (pan : List PanicEntry → World → Prop) (e : Env) (w : World) (d : Nat) (op : BinOp) (k : IntKind) (x y : Operand), opVC P (.ari d op k x y) K pan e w = ev e x fun u => ev e y fun v => Int2 k u v fun a b => arith op k a b fun r => K ((d, r) :: e) w) ∧
    (∀ (P : Program) (K : Env → World → Prop) (pan : List PanicEntry → World → Prop) (e : Env) (w : World) (d : Nat) (op : BinOp) (k : IntKind) (x y : Operand), opVC P (.shf d op k x y) K pan e w = ev e x fun u => ev e y fun v => shift op k u v fun r => K ((d, r) :: e) w) ∧
    (∀ (P : Program) (K : Env → World → Prop) (pan : List PanicEntry → World → Prop) (e : Env) (w : World) (d : Nat) (op : BinOp) (x y : Operand), opVC P (.sop d op x y) K pan e w = ev e x fun u => ev e y fun v => Str2 u v fun a b => strop op a b fun r => K ((d, r) :: e) w) ∧
    (∀ (P : Program) (K : Env → World → Prop) (pan : List PanicEntry → World → Prop) (e : Env) (w : World) (d : Nat) (neg : Bool) (x : Operand), opVC P (.nilq d neg x) K pan e w = ev e x fun u => Nil1 u fun b => K ((d, .bool (if neg then !b else b)) :: e) w) ∧
    (∀ (P : Program) (K : Env → World → Prop) (pan : List PanicEntry → World → Prop) (e : Env) (w : World) (d : Nat) (x : Operand), opVC P (.not d x) K pan e w = ev e x fun u => Bool1 u fun b => K ((d, .bool (!b)) :: e) w) ∧
    (∀ (P : Program) (K : Env → World → Prop) (pan : List PanicEntry → World → Prop) (e : Env) (w : World) (d : Nat) (k : IntKind) (x : Operand), opVC P (.neg d k x) K pan e w = ev e x fun u => Int1 u fun k1 n => k1 = k ∧ Wr k (0 - n) fun v => K ((d, v) :: e) w) ∧
    (∀ (P : Program) (K : Env → World → Prop) (pan : List PanicEntry → World → Prop) (e : Env) (w : World) (d : Nat) (k : IntKind) (x : Operand), opVC P (.conv d k x) K pan e w = ev e x fun u => Int1 u fun _ n => Wr k n fun v => K ((d, v) :: e) w) ∧
    (∀ (P : Program) (K : Env → World → Prop) (pan : List PanicEntry → World → Prop) (e : Env) (w : World) (d : Nat) (t : TypeId), opVC P (.alloc d t) K pan e w = K ((d, .pointer (some ⟨w.heap.size, 0, none⟩)) :: e) (w.alloc (.cells (zcells P t) t))) ∧
    (∀ (P : Program) (K : Env → World → Prop) (pan : List PanicEntry → World → Prop) (e : Env) (w : World) (d : Nat) (t : TypeId) (x : Operand), opVC P (.box d t x) K pan e w = ev e x fun u => K ((d, .pointer (some ⟨w.heap.size, 0, none⟩)) :: e) (w.alloc (.cells u.cells t))) ∧
    (∀ (P : Program) (K : Env → World → Prop) (pan : List PanicEntry → World → Prop) (e : Env) (w : World) (d : Nat) (x : Operand), opVC P (.load d x) K pan e w = ev e x fun u => Ptr1 u fun a => Ld w a fun v => K ((d, v) :: e) w) ∧
    (∀ (P : Program) (K : Env → World → Prop) (pan : List PanicEntry → World → Prop) (e : Env) (w : World) (d n : Nat) (x : Operand), opVC P (.loadN d n x) K pan e w = ev e x fun u => Ptr1 u fun a => LdN w a n fun cs => K ((d, .agg cs) :: e) w) ∧
    (∀ (P : Program) (K : Env → World → Prop) (pan : List PanicEntry → World → Prop) (e : Env) (w : World) (x v : Operand), opVC P (.store x v) K pan e w = ev e x fun u => ev e v fun r => Ptr1 u fun a => St w a r fun w' => K e w') ∧
    (∀ (P : Program) (K : Env → World → Prop) (pan : List PanicEntry → World → Prop) (e : Env) (w : World) (n : Nat) (x v : Operand), opVC P (.storeN n x v) K pan e w = ev e x fun u => ev e v fun r => Ptr1 u fun a => Agg1 r fun cs => cs.size = n ∧ StN w a cs.toList fun w' => K e w') ∧
    (∀ (P : Program) (K : Env → World → Prop) (pan : List PanicEntry → World → Prop) (e : Env) (w : World) (d : Nat) (x : Operand), opVC P (.nilCheck d x) K pan e w = ev e x fun u => Ptr1 u fun a => K ((d, .pointer (some a)) :: e) w) ∧
    (∀ (P : Program) (K : Env → World → Prop) (pan : List PanicEntry → World → Prop) (e : Env) (w : World) (d off : Nat) (x : Operand), opVC P (.faddr d off x) K pan e w = ev e x fun u => Ptr1 u fun a => K ((d, .pointer (some (a.add off))) :: e) w) ∧
    (∀ (P : Program) (K : Env → World → Prop) (pan : List PanicEntry → World → Prop) (e : Env) (w : World) (d off n : Nat) (x : Operand), opVC P (.field d off (some n) x) K pan e w = ev e x fun u => Agg1 u fun cs => K ((d, .agg (cs.extract off (off + n))) :: e) w) ∧
    (∀ (P : Program) (K : Env → World → Prop) (pan : List PanicEntry → World → Prop) (e : Env) (w : World) (d off : Nat) (x : Operand), opVC P (.field d off none x) K pan e w = ev e x fun u => Agg1 u fun cs => At cs off fun v => K ((d, v) :: e) w) ∧
    (∀ (a : Addr) (len cap : Nat) (K : Addr → Nat → Prop), Sl1 (.slice (some a) len cap) K = K a len) ∧
    (∀ (P : Program) (K : Env → World → Prop) (pan : List PanicEntry → World → Prop) (e : Env) (w : World) (d c : Nat) (x i : Operand), opVC P (.iaddrL d c x i) K pan e w = ev e x fun u => ev e i fun j => Int1 j fun _ n => Sl1 u fun a len => bound n len fun m => K ((d, .pointer (some (a.add (m * c)))) :: e) w) ∧
    (∀ (P : Program) (K : Env → World → Prop) (pan : List PanicEntry → World → Prop) (e : Env) (w : World) (d len c : Nat) (x i : Operand), opVC P (.iaddrA d len c x i) K pan e w = ev e x fun u => ev e i fun j => Int1 j fun _ n => Ptr1 u fun a => bound n len fun m => K ((d, .pointer (some (a.add (m * c)))) :: e) w) ∧
    (∀ (P : Program) (K : Env → World → Prop) (pan : List PanicEntry → World → Prop) (e : Env) (w : World) (d len c : Nat) (x i : Operand), opVC P (.idxA d len c true x i) K pan e w = ev e x fun u => ev e i fun j => Int1 j fun _ n => Agg1 u fun cs => bound n len fun m => K ((d, .agg (cs.extract (m * c) (m * c + c))) :: e) w) ∧
    (∀ (P : Program) (K : Env → World → Prop) (pan : List PanicEntry → World → Prop) (e : Env) (w : World) (d len c : Nat) (x i : Operand), opVC P (.idxA d len c false x i) K pan e w = ev e x fun u => ev e i fun j => Int1 j fun _ n => Agg1 u fun cs => bound n len fun m => At cs (m * c) fun v => K ((d, v) :: e) w) ∧
    (∀ (P : Program) (K : Env → World → Prop) (pan : List PanicEntry → World → Prop) (e : Env) (w : World) (d : Nat) (x i : Operand), opVC P (.idxS d x i) K pan e w = ev e x fun u => ev e i fun j => Int1 j fun _ n => (match u with
    | .string s => bound n s.size fun m => K ((d, .int .u8 (s.data.toList.getD m 0).toNat) :: e) w
    | _ => False)) ∧
    (∀ (P : Program) (K : Env → World → Prop) (pan : List PanicEntry → World → Prop) (e : Env) (w : World) (d i : Nat) (x : Operand), opVC P (.ext d i x) K pan e w = ev e x fun u => Tup1 u i fun v => K ((d, v) :: e) w) ∧
    (∀ (P : Program) (K : Env → World → Prop) (pan : List PanicEntry → World → Prop) (e : Env) (w : World) (d : Option Nat) (f : FuncId) (args : List Operand), opVC P (.call d f args) K pan e w = evs e args fun vs => Calls P f vs.toArray w (CallPost d K pan e)) ∧
    (∀ (K : Env → World → Prop) (pan : List PanicEntry → World → Prop) (e : Env) (w : World) (d : Option Nat) (v : Value), CallPost d K pan e (.returned v) w = K (putO d v e) w) ∧
    (∀ (K : Env → World → Prop) (pan : List PanicEntry → World → Prop) (e : Env) (w : World) (d : Option Nat) (ch : List PanicEntry), CallPost d K pan e (.panicked ch) w = pan ch w) ∧
    (∀ (P : Program) (K : Env → World → Prop) (pan : List PanicEntry → World → Prop) (e : Env) (w : World) (d : Nat) (t : TypeId) (ps : List (Nat × Nat × Operand)), opVC P (.build d t ps) K pan e w = evs e (ps.map (·.2.2)) fun vs => fillC (zcells P t) ps vs fun cs => K ((d, .agg cs) :: e) w) ∧
    (∀ (P : Program) (K : Env → World → Prop) (pan : List PanicEntry → World → Prop) (e : Env) (w : World) (d el n c : Nat) (ps : List (Nat × Nat × Operand)), opVC P (.bslice d el n c ps) K pan e w = evs e (ps.map (·.2.2)) fun vs => fillC (zrep (zcells P el) (n * c)) ps vs fun cs => K ((d, .slice (some ⟨w.heap.size, 0, none⟩) n n) :: e) (w.alloc (.cells cs el))) ∧
    (∀ (P : Program) (K : Env → World → Prop) (pan : List PanicEntry → World → Prop) (e : Env) (w : World) (d : Nat) (x : Operand) (lo hi : Option Operand), opVC P (.sliceS d x lo hi) K pan e w = ev e x fun u => Strg1 u fun s => bnd e hi s.size fun h => bnd e lo 0 fun l => Lims l h s.size fun l h => K ((d, .string (s.extract l h)) :: e) w) ∧
    (∀ (P : Program) (K : Env → World → Prop) (pan : List PanicEntry → World → Prop) (e : Env) (w : World) (d c : Nat) (x : Operand) (lo hi mx : Option Operand), opVC P (.sliceL d c x lo hi mx) K pan e w = ev e x fun u => Slc1 u fun a n cap => bnd e mx cap fun m => bnd e hi n fun h => bnd e lo 0 fun l => 0 ≤ m ∧ m ≤ cap ∧ Lims l h m fun l h => K ((d, .slice (if m.toNat = l then a else a.map (·.add (l * c))) (h - l) (m.toNat - l)) :: e) w) ∧
    (∀ (P : Program) (K : Env → World → Prop) (pan : List PanicEntry → World → Prop) (e : Env) (w : World) (d n c : Nat) (x : Operand) (lo hi : Option Operand), opVC P (.sliceA d n c x lo hi) K pan e w = ev e x fun u => Ptr1 u fun a => bnd e hi n fun h => bnd e lo 0 fun l => Lims l h n fun l h => K ((d, .slice (some (if n = l then a else a.add (l * c))) (h - l) (n - l)) :: e) w) ∧
    (∀ (P : Program) (K : Env → World → Prop) (pan : List PanicEntry → World → Prop) (e : Env) (w : World) (d : Nat) (x : Operand), opVC P (.lenS d x) K pan e w = ev e x fun u => Strg1 u fun s => K ((d, .int .i64 s.size) :: e) w) ∧
    (∀ (P : Program) (K : Env → World → Prop) (pan : List PanicEntry → World → Prop) (e : Env) (w : World) (d : Nat) (x : Operand), opVC P (.lenL d x) K pan e w = ev e x fun u => Slc1 u fun _ n _ => K ((d, .int .i64 n) :: e) w) ∧
    (∀ (P : Program) (K : Env → World → Prop) (pan : List PanicEntry → World → Prop) (e : Env) (w : World) (d n : Nat), opVC P (.lenA d n) K pan e w = K ((d, .int .i64 n) :: e) w) ∧
    (∀ (P : Program) (K : Env → World → Prop) (pan : List PanicEntry → World → Prop) (e : Env) (w : World) (d el c bytes : Nat) (s x : Operand), opVC P (.append d el c bytes s x) K pan e w = ev e s fun u => ev e x fun v => AppVC P el c bytes w u v fun r w' => K ((d, r) :: e) w') ∧
    (∀ (P : Program) (K : Env → World → Prop) (pan : List PanicEntry → World → Prop) (e : Env) (w : World) (d : Nat) (x : Operand), opVC P (.conBS d x) K pan e w = ev e x fun u => Slc1 u fun _ n _ => Take w 1 n u fun cs => Bytes1 cs fun s => K ((d, .string s) :: e) w) ∧
    (∀ (P : Program) (K : Env → World → Prop) (pan : List PanicEntry → World → Prop) (e : Env) (w : World) (d el : Nat) (x : Operand), opVC P (.conSB d el x) K pan e w = ev e x fun u => Strg1 u fun s => ∀ m, s.size ≤ m → K ((d, .slice (some ⟨w.heap.size, 0, none⟩) s.size m) :: e) (w.drew.alloc (.cells (bytesRow s m) el ((bytesRow s m).size, (bytesRow s m).size + 1)))) ∧
    (∀ (P : Program) (K : Env → World → Prop) (pan : List PanicEntry → World → Prop) (e : Env) (w : World) (d : Nat) (x : Operand), opVC P (.conIS d x) K pan e w = ev e x fun u => Int1 u fun _ n => K ((d, .string (Utf8.encode n)) :: e) w) ∧
    (∀ (P : Program) (K : Env → World → Prop) (pan : List PanicEntry → World → Prop) (e : Env) (w : World) (d : Nat) (x y : Operand), opVC P (.mm d true x y) K pan e w = ev e x fun u => ev e y fun v => Int1 u fun k a => Int1 v fun _ b => K ((d, .int k (if b > a then b else a)) :: e) w) ∧
    (∀ (P : Program) (K : Env → World → Prop) (pan : List PanicEntry → World → Prop) (e : Env) (w : World) (d : Nat) (x y : Operand), opVC P (.mm d false x y) K pan e w = ev e x fun u => ev e y fun v => Int1 u fun k a => Int1 v fun _ b => K ((d, .int k (if b < a then b else a)) :: e) w) ∧
    (∀ (P : Program) (K : Env → World → Prop) (pan : List PanicEntry → World → Prop) (e : Env) (w : World) (d : Option Nat) (c : Nat) (x y : Operand), opVC P (.copy d c x y) K pan e w = ev e x fun u => ev e y fun v => Slc1 u fun base dl _ => Len1 v fun sl => Take w c (min sl dl) v fun cs => (∀ v ∈ cs, one v = true) ∧ StO w base 0 cs fun w' => K (putO d (.int .i64 (min sl dl : Nat)) e) w') ∧
    (∀ (P : Program) (K : Env → World → Prop) (pan : List PanicEntry → World → Prop) (e : Env) (w : World) (d : Nat) (t : TypeId), opVC P (.mkMap d t) K pan e w = K ((d, .map (some w.heap.size)) :: e) (w.alloc (.map #[] 0))) ∧
    (∀ (P : Program) (K : Env → World → Prop) (pan : List PanicEntry → World → Prop) (e : Env) (w : World) (d : Nat) (x : Operand), opVC P (.uSD d x) K pan e w = ev e x fun u => Slc1 u fun a _ c => (a = none ∨ c ≠ 0) ∧ K ((d, .pointer a) :: e) w) ∧
    (∀ (P : Program) (K : Env → World → Prop) (pan : List PanicEntry → World → Prop) (e : Env) (w : World) (d : Nat) (pt : TypeId) (x n : Operand), opVC P (.uStr d pt x n) K pan e w = ev e x fun u => ev e n fun v => Int1 v fun k m => k = .i64 ∧ UStrVC P pt w u m fun s w' => K ((d, .string s) :: e) w') ∧
    (∀ (P : Program) (K : Env → World → Prop) (pan : List PanicEntry → World → Prop) (e : Env) (w : World) (d : Nat) (f : FuncId) (caps : List Operand), opVC P (.mkFn d f caps) K pan e w = evs e caps fun vs => K ((d, .func (.func f) #[] vs.toArray) :: e) w) ∧
    (∀ (P : Program) (K : Env → World → Prop) (pan : List PanicEntry → World → Prop) (e : Env) (w : World) (d : Option Nat) (fv : Operand) (args : List Operand), opVC P (.callV d fv args) K pan e w = ev e fv fun u => Fn1 u fun f caps => FnOk P f ∧ evs e args fun vs => Calls P f (vs ++ caps).toArray w (CallPost d K pan e)) ∧
    (∀ (P : Program) (K : Env → World → Prop) (pan : List PanicEntry → World → Prop) (e : Env) (w : World) (d el c bytes : Nat) (len cap : Operand), opVC P (.mkSl d el c bytes len cap) K pan e w = ev e len fun u => ev e cap fun v => Int1 u fun k1 n => Int1 v fun k2 m => 0 ≤ n ∧ n ≤ m ∧ m ≤ 4611686018427387904 ∧ m * bytes ≤ 281474976710656 ∧
      K ((d, .slice (some ⟨w.heap.size, 0, none⟩) n.toNat m.toNat) :: e) (w.alloc (.cells (zrep (zcells P el) (m.toNat * c)) el))) ∧
    (∀ (P : Program) (K : Env → World → Prop) (pan : List PanicEntry → World → Prop) (e : Env) (w : World) (d : Nat) (t : TypeId) (x : Operand), opVC P (.iface d t x) K pan e w = ev e x fun u => K ((d, .iface t u) :: e) w) ∧
    (∀ (P : Program) (K : Env → World → Prop) (pan : List PanicEntry → World → Prop) (e : Env) (w : World) (d : Nat) (neg : Bool) (t : TypeId) (x y : Operand), opVC P (.aeq d neg t x y) K pan e w = ev e x fun u => ev e y fun v => Agg2W P t u v fun b => K ((d, .bool (if neg then !b else b)) :: e) w) ∧
    (∀ (P : Program) (K : Env → World → Prop) (pan : List PanicEntry → World → Prop) (e : Env) (w : World) (d : Nat) (neg : Bool) (x y : Operand), opVC P (.beq d neg x y) K pan e w = ev e x fun u => ev e y fun v => Bool1 u fun a => Bool1 v fun b => K ((d, .bool (if neg then !(a == b) else a == b)) :: e) w) ∧
    (∀ (t : TypeId) (v : Value) (K : TypeId → Value → Prop), Iface1 (.iface t v) K = K t v) ∧
    (∀ (P : Program) (K : Env → World → Prop) (pan : List PanicEntry → World → Prop) (e : Env) (w : World) (x : Operand), opVC P (.panic x) K pan e w = ev e x fun u => Iface1 u fun t v => pan [{ v := .iface t v, recovered := false }] w) ∧
    (∀ (P : Program) (K : Env → World → Prop) (pan : List PanicEntry → World → Prop) (e : Env) (w : World) (d : Nat) (neg : Bool) (x : Operand), opVC P (.nili d neg x) K pan e w = ev e x fun u => NilI u fun b => K ((d, .bool (if neg then !b else b)) :: e) w) ∧
    (∀ (t : TypeId) (v : Value) (K : Bool → Prop), NilI (.iface t v) K = K false) ∧
    (∀ (K : Bool → Prop), NilI .nilIface K = K true) ∧
    (∀ (P : Program) (K : Env → World → Prop) (pan : List PanicEntry → World → Prop) (e : Env) (w : World) (d : Nat) (t : TypeId) (ok : Bool) (x : Operand), opVC P (.tas d t ok x) K pan e w = ev e x fun u => TasVC P t ok u fun v => K ((d, v) :: e) w) ∧
    (∀ (P : Program) (t t' : TypeId) (v : Value) (K : Value → Prop), TasVC P t true (.iface t' v) K = if t' = t then K (.tuple #[v, .bool true]) else K (.tuple #[zval P t, .bool false])) ∧
    (∀ (P : Program) (t : TypeId) (K : Value → Prop), TasVC P t true .nilIface K = K (.tuple #[zval P t, .bool false])) ∧
    (∀ (P : Program) (t t' : TypeId) (v : Value) (K : Value → Prop), TasVC P t false (.iface t' v) K = (t' = t ∧ K v)) ∧
    (∀ (P : Program) (K : Env → World → Prop) (pan : List PanicEntry → World → Prop) (e : Env) (w : World) (d : Option Nat) (m : String) (x : Operand) (args : List Operand), opVC P (.inv d m x args) K pan e w = ev e x fun u => IfV u fun t v => ∃ f, methOk P t m f = true ∧ fnBody P f = true ∧ evs e args fun vs => Calls P f (v :: vs).toArray w (CallPost d K pan e)) ∧
    (∀ (t : TypeId) (v : Value) (K : TypeId → Value → Prop), IfV (.iface t v) K = K t v) ∧
    (∀ (P : Program) (K : Env → World → Prop) (pan : List PanicEntry → World → Prop) (e : Env) (w : World) (d : Nat) (x : Operand), opVC P (.rng d x) K pan e w = ev e x fun u => Strg1 u fun s => K ((d, .pointer (some ⟨w.heap.size, 0, none⟩)) :: e) (w.alloc (.stringIter s 0))) ∧
    (∀ (P : Program) (K : Env → World → Prop) (pan : List PanicEntry → World → Prop) (e : Env) (w : World) (d : Nat) (x : Operand), opVC P (.nxt d x) K pan e w = ev e x fun u => Ptr1 u fun a => NxtVC w a fun v w' => K ((d, v) :: e) w') ∧
    (∀ (cs : Array Value) (K : Array Value → Prop), fillC cs [] [] K = K cs) ∧
    (∀ (cs : Array Value) (off sz : Nat) (x : Operand) (ps : List (Nat × Nat × Operand)) (v : Value) (vs : List Value) (K : Array Value → Prop), fillC cs ((off, sz, x) :: ps) (v :: vs) K = (v.cells.size = sz ∧ off + sz ≤ cs.size ∧ fillC (putc cs off v.cells) ps vs K)) ∧
    (∀ (e : Env) (dflt : Int) (K : Int → Prop), bnd e none dflt K = K dflt) ∧
    (∀ (e : Env) (x : Operand) (dflt : Int) (K : Int → Prop), bnd e (some x) dflt K = ev e x fun v => Int1 v fun _ n => K n) ∧
    (∀ (f : FuncId) (caps : Array Value) (K : FuncId → List Value → Prop), Fn1 (.func (.func f) #[] caps) K = K f caps.toList) ∧
    (∀ (l h m : Int) (K : Nat → Nat → Prop), Lims l h m K = (0 ≤ l ∧ l ≤ h ∧ h ≤ m ∧ K l.toNat h.toNat)) ∧
    (∀ (s : ByteArray) (K : Nat → Prop), Len1 (.string s) K = K s.size) ∧
    (∀ (a : Option Addr) (n c : Nat) (K : Nat → Prop), Len1 (.slice a n c) K = K n) ∧
    (∀ (w : World) (c n : Nat) (a : Addr) (l cap : Nat) (K : List Value → Prop), Take w c n (.slice (some a) l cap) K = LdN w a (n * c) fun cs => K cs.toList) ∧
    (∀ (w : World) (c n : Nat) (l cap : Nat) (K : List Value → Prop), Take w c n (.slice none l cap) K = (n = 0 ∧ K [])) ∧
    (∀ (w : World) (c n : Nat) (s : ByteArray) (K : List Value → Prop), Take w c n (.string s) K = (c = 1 ∧ n ≤ s.size ∧ K ((s.data.toList.take n).map fun b => .int .u8 b.toNat))) ∧
    (∀ (w : World) (a : Addr) (i : Nat) (vs : List Value) (K : World → Prop), StO w (some a) i vs K = StN w (a.add i) vs K) ∧
    (∀ (w : World) (i : Nat) (vs : List Value) (K : World → Prop), StO w none i vs K = (vs = [] ∧ K w)) ∧
    (∀ (k : IntKind) (n : Int), (Value.int k n).cells = #[.int k n]) ∧
    (∀ (b : Bool), (Value.bool b).cells = #[.bool b]) ∧
    (∀ (s : ByteArray), (Value.string s).cells = #[.string s]) ∧
    (∀ (a : Option Addr), (Value.pointer a).cells = #[.pointer a]) ∧
    (∀ (a : Option Addr) (n c : Nat), (Value.slice a n c).cells = #[.slice a n c]) ∧
    (∀ (t : TypeId) (v : Value), (Value.iface t v).cells = #[.iface t v]) ∧
    ((Value.nilIface).cells = #[.nilIface]) ∧
    (∀ (cs : Array Value), (Value.agg cs).cells = cs) ∧
    (∀ (e : Env) (t : Nat) (K : Value → Prop), ev e (.tmp t) K = lk e t K) ∧
    (∀ (e : Env) (v : Value) (K : Value → Prop), ev e (.const v) K = K v) ∧
    (∀ (e : Env) (g : Nat) (K : Value → Prop), ev e (.global g) K = K (.pointer (some ⟨g, 0, none⟩))) ∧
    (∀ (e : Env) (f : FuncId) (K : Value → Prop), ev e (.func f) K = K (.func (.func f) #[] #[])) ∧
    (∀ (e : Env) (K : List Value → Prop), evs e [] K = K []) ∧
    (∀ (e : Env) (x : Operand) (r : List Operand) (K : List Value → Prop), evs e (x :: r) K = ev e x fun v => evs e r fun vs => K (v :: vs)) ∧
    (∀ (k : Nat) (v : Value) (r : Env) (t : Nat) (K : Value → Prop), lk ((k, v) :: r) t K = if k = t then K v else lk r t K) ∧
    (∀ (t : Nat), find? [] t = none) ∧
    (∀ (k : Nat) (v : Value) (r : Env) (t : Nat), find? ((k, v) :: r) t = if k = t then some v else find? r t) ∧
    (∀ (e : Env), keep e [] = []) ∧
    (∀ (e : Env) (k : Nat) (ks : List Nat), keep e (k :: ks) = match find? e k with | some v => (k, v) :: keep e ks | none => keep e ks) ∧
    (∀ (i : Nat), argEnv i [] = []) ∧
    (∀ (i : Nat) (v : Value) (vs : List Value), argEnv i (v :: vs) = (i, v) :: argEnv (i + 1) vs) ∧
    (∀ (e : Env) (w : World) (K : List Value → Prop), rets [] e w K = K []) ∧
    (∀ (t : Nat) (r : List RV) (e : Env) (w : World) (K : List Value → Prop), rets (.t t :: r) e w K = lk e t fun v => rets r e w fun vs => K (v :: vs)) ∧
    (∀ (t : Nat) (r : List RV) (e : Env) (w : World) (K : List Value → Prop), rets (.c1 t :: r) e w K = lk e t fun u => Ptr1 u fun a => Ld w a fun v => rets r e w fun vs => K (v :: vs)) ∧
    (∀ (t n : Nat) (r : List RV) (e : Env) (w : World) (K : List Value → Prop), rets (.cN t n :: r) e w K = lk e t fun u => Ptr1 u fun a => LdN w a n fun cs => rets r e w fun vs => K (.agg cs :: vs)) ∧
    (tup [] = .tuple #[]) ∧
    (∀ (v : Value), tup [v] = v) ∧
    (∀ (u v : Value), tup [u, v] = .tuple #[u, v]) ∧
    (∀ (u v x : Value), tup [u, v, x] = .tuple #[u, v, x]) ∧
    (∀ (u v x y : Value), tup [u, v, x, y] = .tuple #[u, v, x, y]) ∧
    (∀ (d : Nat) (v : Value) (e : Env), putO (some d) v e = (d, v) :: e) ∧
    (∀ (v : Value) (e : Env), putO none v e = e) ∧
    (∀ (k : IntKind) (a : Int) (b : Int) (K : Value → Prop), arith .add k a b K = Wr k (a + b) K) ∧
    (∀ (k : IntKind) (a : Int) (b : Int) (K : Value → Prop), arith .sub k a b K = Wr k (a - b) K) ∧
    (∀ (k : IntKind) (a : Int) (b : Int) (K : Value → Prop), arith .mul k a b K = Wr k (a * b) K) ∧
    (∀ (k : IntKind) (a : Int) (b : Int) (K : Value → Prop), arith .quo k a b K = (b ≠ 0 ∧ Wr k (a.tdiv b) K)) ∧
    (∀ (k : IntKind) (a : Int) (b : Int) (K : Value → Prop), arith .rem k a b K = (b ≠ 0 ∧ K (.int k (a.tmod b)))) ∧
    (∀ (k : IntKind) (a : Int) (b : Int) (K : Value → Prop), arith .eql k a b K = K (.bool (decide (a = b)))) ∧
    (∀ (k : IntKind) (a : Int) (b : Int) (K : Value → Prop), arith .neq k a b K = K (.bool (decide (a ≠ b)))) ∧
    (∀ (k : IntKind) (a : Int) (b : Int) (K : Value → Prop), arith .lss k a b K = K (.bool (decide (a < b)))) ∧
    (∀ (k : IntKind) (a : Int) (b : Int) (K : Value → Prop), arith .leq k a b K = K (.bool (decide (a ≤ b)))) ∧
    (∀ (k : IntKind) (a : Int) (b : Int) (K : Value → Prop), arith .gtr k a b K = K (.bool (decide (b < a)))) ∧
    (∀ (k : IntKind) (a : Int) (b : Int) (K : Value → Prop), arith .geq k a b K = K (.bool (decide (b ≤ a)))) ∧
    (∀ (k : IntKind) (a : Int) (b : Int) (K : Value → Prop) (k' : IntKind), shift .shl k (.int k a) (.int k' b) K = (0 ≤ b ∧ Wr k (a * 2 ^ (min b.toNat k.bits)) K)) ∧
    (∀ (k : IntKind) (a : Int) (b : Int) (K : Value → Prop) (k' : IntKind), shift .shr k (.int k a) (.int k' b) K = (0 ≤ b ∧ K (.int k (a.fdiv (2 ^ (min b.toNat k.bits)))))) ∧
    (∀ (a b : ByteArray) (K : Value → Prop), strop .add a b K = (a.size + b.size ≤ 9223372036854775807 ∧ K (.string (a ++ b)))) ∧
    (∀ (a b : ByteArray) (K : Value → Prop), strop .eql a b K = K (.bool (a.toList == b.toList))) ∧
    (∀ (a b : ByteArray) (K : Value → Prop), strop .neq a b K = K (.bool (!(a.toList == b.toList)))) ∧
    (∀ (a : Value), (#[a] : Array Value).size = 1) ∧
    (∀ (a b : Value), (#[a, b] : Array Value).size = 2) ∧
    (∀ (a b c : Value), (#[a, b, c] : Array Value).size = 3) ∧
    (∀ (a b c d : Value), (#[a, b, c, d] : Array Value).size = 4) ∧
    (∀ (a : Value) (K : Value → Prop), At #[a] 0 K = K a) ∧
    (∀ (a b : Value) (K : Value → Prop), At #[a, b] 0 K = K a) ∧
    (∀ (a b : Value) (K : Value → Prop), At #[a, b] 1 K = K b) ∧
    (∀ (a b c : Value) (K : Value → Prop), At #[a, b, c] 0 K = K a) ∧
    (∀ (a b c : Value) (K : Value → Prop), At #[a, b, c] 1 K = K b) ∧
    (∀ (a b c : Value) (K : Value → Prop), At #[a, b, c] 2 K = K c) ∧
    (∀ (a b c d : Value) (K : Value → Prop), At #[a, b, c, d] 0 K = K a) ∧
    (∀ (a b c d : Value) (K : Value → Prop), At #[a, b, c, d] 1 K = K b) ∧
    (∀ (a b c d : Value) (K : Value → Prop), At #[a, b, c, d] 2 K = K c) ∧
    (∀ (a b c d : Value) (K : Value → Prop), At #[a, b, c, d] 3 K = K d) ∧
    (∀ (a b : Value) (K : Value → Prop), Tup1 (.tuple #[a, b]) 0 K = K a) ∧
    (∀ (a b : Value) (K : Value → Prop), Tup1 (.tuple #[a, b]) 1 K = K b) ∧
    (∀ (a b c : Value) (K : Value → Prop), Tup1 (.tuple #[a, b, c]) 0 K = K a) ∧
    (∀ (a b c : Value) (K : Value → Prop), Tup1 (.tuple #[a, b, c]) 1 K = K b) ∧
    (∀ (a b c : Value) (K : Value → Prop), Tup1 (.tuple #[a, b, c]) 2 K = K c) ∧
    (∀ (a b c d : Value) (K : Value → Prop), Tup1 (.tuple #[a, b, c, d]) 0 K = K a) ∧
    (∀ (a b c d : Value) (K : Value → Prop), Tup1 (.tuple #[a, b, c, d]) 1 K = K b) ∧
    (∀ (a b c d : Value) (K : Value → Prop), Tup1 (.tuple #[a, b, c, d]) 2 K = K c) ∧
    (∀ (a b c d : Value) (K : Value → Prop), Tup1 (.tuple #[a, b, c, d]) 3 K = K d) ∧
    (∀ (a b c d f : Value) (K : Value → Prop), Tup1 (.tuple #[a, b, c, d, f]) 0 K = K a) ∧
    (∀ (a b c d f : Value) (K : Value → Prop), Tup1 (.tuple #[a, b, c, d, f]) 1 K = K b) ∧
    (∀ (a b c d f : Value) (K : Value → Prop), Tup1 (.tuple #[a, b, c, d, f]) 2 K = K c) ∧
    (∀ (a b c d f : Value) (K : Value → Prop), Tup1 (.tuple #[a, b, c, d, f]) 3 K = K d) ∧
    (∀ (a b c d f : Value) (K : Value → Prop), Tup1 (.tuple #[a, b, c, d, f]) 4 K = K f) ∧
    (∀ (a b c d f h : Value) (K : Value → Prop), Tup1 (.tuple #[a, b, c, d, f, h]) 0 K = K a) ∧
    (∀ (a b c d f h : Value) (K : Value → Prop), Tup1 (.tuple #[a, b, c, d, f, h]) 1 K = K b) ∧
    (∀ (a b c d f h : Value) (K : Value → Prop), Tup1 (.tuple #[a, b, c, d, f, h]) 2 K = K c) ∧
    (∀ (a b c d f h : Value) (K : Value → Prop), Tup1 (.tuple #[a, b, c, d, f, h]) 3 K = K d) ∧
    (∀ (a b c d f h : Value) (K : Value → Prop), Tup1 (.tuple #[a, b, c, d, f, h]) 4 K = K f) ∧
    (∀ (a b c d f h : Value) (K : Value → Prop), Tup1 (.tuple #[a, b, c, d, f, h]) 5 K = K h) ∧
    (∀ (a b c d f h i : Value) (K : Value → Prop), Tup1 (.tuple #[a, b, c, d, f, h, i]) 0 K = K a) ∧
    (∀ (a b c d f h i : Value) (K : Value → Prop), Tup1 (.tuple #[a, b, c, d, f, h, i]) 1 K = K b) ∧
    (∀ (a b c d f h i : Value) (K : Value → Prop), Tup1 (.tuple #[a, b, c, d, f, h, i]) 2 K = K c) ∧
    (∀ (a b c d f h i : Value) (K : Value → Prop), Tup1 (.tuple #[a, b, c, d, f, h, i]) 3 K = K d) ∧
    (∀ (a b c d f h i : Value) (K : Value → Prop), Tup1 (.tuple #[a, b, c, d, f, h, i]) 4 K = K f) ∧
    (∀ (a b c d f h i : Value) (K : Value → Prop), Tup1 (.tuple #[a, b, c, d, f, h, i]) 5 K = K h) ∧
    (∀ (a b c d f h i : Value) (K : Value → Prop), Tup1 (.tuple #[a, b, c, d, f, h, i]) 6 K = K i) ∧
    ((#[] : Array Value).toList = []) ∧
    (∀ (a : Value), (#[a] : Array Value).toList = [a]) ∧
    (∀ (a b : Value), (#[a, b] : Array Value).toList = [a, b]) ∧
    (∀ (a b c : Value), (#[a, b, c] : Array Value).toList = [a, b, c]) ∧
    (∀ (a b c d : Value), (#[a, b, c, d] : Array Value).toList = [a, b, c, d]) ∧
    (∀ (b o j : Nat), (⟨b, o, none⟩ : Addr).add j = ⟨b, o + j, none⟩) :=
  ⟨@Int2_mk, @Str2_mk, @Bool1_mk, @Int1_mk, @Ptr1_mk, @Agg1_mk, @Nil1_mk, @Strg1_mk, @Slc1_mk, @v_skip, @v_region, @v_regionD, @v_regionW, @v_regionT, @t_fin, @t_fork, @v_seq, @v_cond, @v_block, @v_loop, @v_exit, @v_ret, @p_then_nor, @p_then_ext, @p_then_ret, @p_then_pan, @p_block_nor, @p_block_ext, @p_block_ret, @p_block_pan, @p_end_nor, @p_end_ret, @p_end_pan, @o_nil, @o_keep, @o_op, @o_guard, @g_bool, @g_undef, @w_nil, @w_keep, @w_op0, @w_op1, @rd_load, @rd_loadN, @rd_conBS, @io_some, @io_none, @w_op2, @w_guard, @gw_bool, @gw_undef, @s_mov, @s_pick, @s_ari, @s_shf, @s_sop, @s_nilq, @s_not, @s_neg, @s_conv, @s_alloc, @s_box, @s_load, @s_loadN, @s_store, @s_storeN, @s_nilCheck, @s_faddr, @s_fieldN, @s_field, @Sl1_mk, @s_iaddrL, @s_iaddrA, @s_idxAN, @s_idxA, @s_idxS, @s_ext, @s_call, @call_ret, @call_pan, @s_build, @s_bslice, @s_sliceS, @s_sliceL, @s_sliceA, @s_lenS, @s_lenL, @s_lenA, @s_append, @s_conBS, @s_conSB, @s_conIS, @s_max, @s_min, @s_copy, @s_mkMap, @s_uSD, @s_uStr, @s_mkFn, @s_callV, @s_mkSl, @s_iface, @s_aeq, @s_beq, @if_mk, @s_panic, @s_nili, @ni_if, @ni_nil, @s_tas, @ts_if, @ts_nil, @ts_must, @s_inv, @iv_if, @s_rng, @s_nxt, @fc_nil, @fc_cons, @bd_none, @bd_some, @fn_mk, @lm_mk, @ln_str, @ln_sl, @tk_some, @tk_none, @tk_str, @so_some, @so_none, @cl_int, @cl_bool, @cl_str, @cl_ptr, @cl_sl, @cl_if, @cl_nif, @cl_agg, @e_tmp, @e_const, @e_global, @e_func, @es_nil, @es_cons, @l_cons, @f_nil, @f_cons, @k_nil, @k_cons, @a_nil, @a_cons, @rv_nil, @rv_t, @rv_c1, @rv_cN, @tup_0, @tup_1, @tup_2, @tup_3, @tup_4, @po_some, @po_none, @ar_add, @ar_sub, @ar_mul, @ar_quo, @ar_rem, @ar_eql, @ar_neq, @ar_lss, @ar_leq, @ar_gtr, @ar_geq, @sh_shl, @sh_shr, @str_add, @str_eql, @str_neq, @ay_1, @ay_2, @ay_3, @ay_4, @ay_at10, @ay_at20, @ay_at21, @ay_at30, @ay_at31, @ay_at32, @ay_at40, @ay_at41, @ay_at42, @ay_at43, @tp_20, @tp_21, @tp_30, @tp_31, @tp_32, @tp_40, @tp_41, @tp_42, @tp_43, @tp_50, @tp_51, @tp_52, @tp_53, @tp_54, @tp_60, @tp_61, @tp_62, @tp_63, @tp_64, @tp_65, @tp_70, @tp_71, @tp_72, @tp_73, @tp_74, @tp_75, @tp_76, @ay_l0, @ay_l1, @ay_l2, @ay_l3, @ay_l4, @ad_add⟩
end X
end Go.Proofs.YtgibicifflfpfaaDoor
