/- The walk by evaluation, part 1: what a piece of translated code asks, told as a proposition by recursion on the code; temporaries stand in a function. No program is named here. -/
import Derived.WalkKit
import Derived.RangeFuncNested
import Derived.RangeFuncCalls
import Derived.Orders
import Derived.StillTail
import Derived.Scope
import Derived.Laws.BytesString
set_option linter.unusedVariables false
namespace Go.Ev
open Go

abbrev Env := Nat → Value
def upd (e : Env) (d : Nat) (v : Value) : Env := fun t => bif Nat.beq t d then v else e t
def updO (e : Env) : Option Nat → Value → Env
  | some d, v => upd e d v
  | none, _ => e
def over (e : Env) (m : Nat) (j : Env) : Env := fun t => bif Nat.testBit m t then j t else e t
def get (e : Env) : Operand → Value
  | .tmp t => e t
  | .const v => v
  | .global g => .pointer (some ⟨g, 0, none⟩)
  | .func f => .func (.func f) #[] #[]
def argsEnv (l : List Value) : Env := fun t => l.getD t undef

/-- A type as the walk needs it. -/
inductive Ty where
  | bool | int (k : IntKind) | string | ptr (e : Nat) | slice (e : Nat) | arr (n e : Nat) | struct (fs : List (Nat × Nat)) | func | iface | map (k e : Nat) | other
/-- A type's row: its shape, how many cells, how many bytes, its zero value. -/
structure Inf where
  ty : Ty
  size : Nat
  bytes : Nat
  zero : Value
abbrev Tab := Nat → Option Inf

structure IfP (c : Bool) (A B : Prop) : Prop where
  t : c = true → A
  f : c = false → B
structure ChkP (c : Prop) (A : Prop) : Prop where
  h : c
  k : A
structure LdI (K : IntKind) (a : Addr) (k : Int → Prop) (w : World) : Prop where
  out : ∃ n, w.cell? a = some (.int K n) ∧ k n
structure LdB (a : Addr) (k : Bool → Prop) (w : World) : Prop where
  out : ∃ n, w.cell? a = some (.bool n) ∧ k n
structure LdSl (a : Addr) (k : Option Addr → Nat → Nat → Prop) (w : World) : Prop where
  out : ∃ b l c, w.cell? a = some (.slice b l c) ∧ k b l c
structure LdPt (a : Addr) (k : Option Addr → Prop) (w : World) : Prop where
  out : ∃ b, w.cell? a = some (.pointer b) ∧ k b
structure LdV (a : Addr) (k : Value → Prop) (w : World) : Prop where
  out : ∃ v, w.cell? a = some v ∧ k v
structure LdAgg (a : Addr) (n : Nat) (k : Array Value → Prop) (w : World) : Prop where
  out : ∃ cs : Array Value, cs.size = n ∧ (∀ i, i < n → w.cell? (a.add i) = cs[i]?) ∧ k cs
structure IdxP (a : Option Addr) (len : Nat) (i : Int) (sz : Nat) (k : Addr → Prop) : Prop where
  out : ∃ b, a = some b ∧ 0 ≤ i ∧ i < len ∧ k (b.add (i.toNat * sz))
structure NilP (a : Option Addr) (k : Addr → Prop) : Prop where
  out : ∃ b, a = some b ∧ k b
/-- a slice expression over a slice: low, high, capacity. -/
structure SlcP (a : Option Addr) (len cap : Nat) (lo : Int) (hi mx : Option Int) (sz : Nat) (k : Option Addr → Nat → Nat → Prop) : Prop where
  out : 0 ≤ lo ∧ lo ≤ hi.getD len ∧ 0 ≤ hi.getD len ∧ hi.getD len ≤ mx.getD cap ∧ 0 ≤ mx.getD cap ∧ mx.getD cap ≤ cap ∧
    k (if (mx.getD cap).toNat = lo.toNat then a else a.map (·.add (lo.toNat * sz))) ((hi.getD len).toNat - lo.toNat) ((mx.getD cap).toNat - lo.toNat)

def ieq : IntKind → IntKind → Bool
  | .i8, .i8 | .i16, .i16 | .i32, .i32 | .i64, .i64 | .u8, .u8 | .u16, .u16 | .u32, .u32 | .u64, .u64 => true
  | _, _ => false
theorem ieq_eq {a b : IntKind} (h : ieq a b = true) : a = b := by cases a <;> cases b <;> first | rfl | cases h

def asBool (v : Value) (k : Bool → Prop) : Prop := match v with | .bool b => k b | _ => False
def asInt (v : Value) (k : IntKind → Int → Prop) : Prop := match v with | .int K n => k K n | _ => False
def asPtr (v : Value) (k : Option Addr → Prop) : Prop := match v with | .pointer a => k a | _ => False
def asAddr (v : Value) (k : Addr → Prop) : Prop := match v with | .pointer (some a) => k a | _ => False
def asSl (v : Value) (k : Option Addr → Nat → Nat → Prop) : Prop := match v with | .slice a l c => k a l c | _ => False
def asStr (v : Value) (k : ByteArray → Prop) : Prop := match v with | .string s => k s | _ => False
def asAgg (v : Value) (k : Array Value → Prop) : Prop := match v with | .agg s => k s | _ => False
def asOI (v : Option Value) (k : Option Int → Prop) : Prop := match v with
  | none => k none
  | some v => asInt v fun _ i => k (some i)

/-- a guard: an operation whose guard was itself left out is left out. -/
def asG (v : Value) (k : Bool → Prop) (out : Prop) : Prop := match v with | .bool b => k b | _ => out
/-- the value with its head at hand. -/
def force (v : Value) (k : Value → Prop) : Prop := match v with
  | .bool b => k (.bool b)
  | .int K n => k (.int K n)
  | .string s => k (.string s)
  | .pointer a => k (.pointer a)
  | .slice a l c => k (.slice a l c)
  | .map r => k (.map r)
  | .func f a c => k (.func f a c)
  | .nilFunc => k .nilFunc
  | .iface t v => k (.iface t v)
  | .nilIface => k .nilIface
  | .agg cs => k (.agg cs)
  | .tuple vs => k (.tuple vs)
  | v => k v
theorem force_eq (v : Value) (k : Value → Prop) : force v k = k v := by cases v <;> rfl
def forceL (e : Env) : List (Nat × Operand) → (List (Nat × Value) → Prop) → Prop
  | [], k => k []
  | (i, x) :: r, k => force (get e x) fun v => forceL e r fun l => k ((i, v) :: l)
theorem forceL_eq (e : Env) : ∀ (l : List (Nat × Operand)) (k : List (Nat × Value) → Prop), forceL e l k = k (l.map fun (i, x) => (i, get e x))
  | [], k => rfl
  | (i, x) :: r, k => by unfold forceL; rw [force_eq, forceL_eq]; rfl

def binI (op : BinOp) (K : IntKind) (a b : Int) (k : Value → Prop) : Prop :=
  match op with
  | .add => k (.int K (K.wrap (a + b)))
  | .sub => k (.int K (K.wrap (a - b)))
  | .mul => k (.int K (K.wrap (a * b)))
  | .quo => ChkP (b ≠ 0) (k (.int K (K.wrap (a.tdiv b))))
  | .rem => ChkP (b ≠ 0) (k (.int K (a.tmod b)))
  | .and => k (.int K (Go.bits .and K a b))
  | .or => k (.int K (Go.bits .or K a b))
  | .xor => k (.int K (Go.bits .xor K a b))
  | .andNot => k (.int K (Go.bits .andNot K a b))
  | .eql => k (.bool (a == b))
  | .neq => k (.bool (a != b))
  | .lss => k (.bool (decide (a < b)))
  | .leq => k (.bool (decide (a ≤ b)))
  | .gtr => k (.bool (decide (a > b)))
  | .geq => k (.bool (decide (a ≥ b)))
  | _ => False
def shiftI (op : BinOp) (K : IntKind) (a b : Int) (k : Value → Prop) : Prop :=
  match op with
  | .shl => ChkP (0 ≤ b) (k (.int K (K.wrap (a * 2 ^ (min b.toNat K.bits)))))
  | .shr => ChkP (0 ≤ b) (k (.int K (a.fdiv (2 ^ (min b.toNat K.bits)))))
  | _ => False
/-- equality where it is no matter of numbers. -/
def eqV (ty : Ty) (x y : Value) (k : Bool → Prop) : Prop :=
  match ty with
  | .bool => asBool x fun a => asBool y fun b => k (a == b)
  | .string => asStr x fun a => asStr y fun b => k (a.toList == b.toList)
  | .ptr _ => match x, y with
    | .pointer none, .pointer b => k b.isNone
    | .pointer a, .pointer none => k a.isNone
    | _, _ => False
  | .slice _ => match x, y with
    | .slice none _ _, .slice b _ _ => k b.isNone
    | .slice a _ _, .slice none _ _ => k a.isNone
    | _, _ => False
  | .iface => match x, y with
    | .nilIface, .iface _ _ => k false
    | .iface _ _, .nilIface => k false
    | _, _ => False
  | .func => match x, y with
    | .nilFunc, .nilFunc => k true
    | .nilFunc, .func .. => k false
    | .func .., .nilFunc => k false
    | _, _ => False
  | _ => False

/-- the offset and the type of a struct's field. -/
def fieldOf (T : Tab) (t f : Nat) (k : Nat → Nat → Prop) : Prop := match T t with
  | some ⟨.struct fs, _, _, _⟩ => match fs[f]? with
    | some (o, u) => k o u
    | none => False
  | _ => False
structure PtI (K : IntKind) (cs : Array Value) (off : Nat) (k : Int → Prop) : Prop where
  out : ∃ n, cs.toList[off]? = some (.int K n) ∧ k n
structure PtV (cs : Array Value) (off : Nat) (k : Value → Prop) : Prop where
  out : ∃ v, cs.toList[off]? = some v ∧ k v
/-- a byte of a string. -/
structure StrP (s : ByteArray) (i : Int) (k : Int → Prop) : Prop where
  out : 0 ≤ i ∧ ∃ b, s[i.toNat]? = some b ∧ k (UInt8.toNat b)
/-- a part of an aggregate. -/
def partOf (T : Tab) (t : Nat) (cs : Array Value) (off : Nat) (k : Value → Prop) : Prop := match T t with
  | some ⟨.struct _, n, _, _⟩ => k (.agg (cs.extract off (off + n)))
  | some ⟨.arr _ _, n, _, _⟩ => k (.agg (cs.extract off (off + n)))
  | some ⟨.other, _, _, _⟩ => False
  | some ⟨.int K, _, _, _⟩ => PtI K cs off (fun n => k (.int K n))
  | some _ => PtV cs off k
  | none => False
def ld (T : Tab) (t : Nat) (p : Addr) (k : Value → Prop) (w : World) : Prop := match T t with
  | some ⟨.int K, _, _, _⟩ => LdI K p (fun n => k (.int K n)) w
  | some ⟨.bool, _, _, _⟩ => LdB p (fun n => k (.bool n)) w
  | some ⟨.slice _, _, _, _⟩ => LdSl p (fun b l c => k (.slice b l c)) w
  | some ⟨.ptr _, _, _, _⟩ => LdPt p (fun b => k (.pointer b)) w
  | some ⟨.arr _ _, n, _, _⟩ => LdAgg p n (fun cs => k (.agg cs)) w
  | some ⟨.struct _, n, _, _⟩ => LdAgg p n (fun cs => k (.agg cs)) w
  | some ⟨.other, _, _, _⟩ => False
  | some _ => LdV p k w
  | none => False

def fillL (place : Nat → Option (Nat × Nat)) (cells : List Value) : List (Nat × Value) → Option (List Value)
  | [] => some cells
  | (i, v) :: rest => match place i with
    | none => none
    | some (off, size) => bif Nat.beq v.cells.toList.length size && Nat.ble (off + size) cells.length then fillL place (v.cells.toList.zipIdx.foldl (fun cs x => cs.set (off + x.2) x.1) cells) rest else none
def placesOf (T : Tab) : List (Nat × Nat) → List (Option (Nat × Nat))
  | [] => []
  | (o, u) :: r => (match T u with | some i => some (o, i.size) | none => none) :: placesOf T r
def evBuild (T : Tab) (t : Nat) (parts : List (Nat × Value)) (k : Value → Prop) : Prop := match T t with
  | some ⟨.struct fs, _, _, z⟩ => bif fs.all (fun f => (T f.2).isSome) then match fillL (fun i => (placesOf T fs).getD i none) z.cells.toList parts with
    | some l => k (.agg l.toArray)
    | none => False
    else False
  | some ⟨.arr _ el, _, _, z⟩ => match T el with
    | some i => match fillL (fun j => some (j * i.size, i.size)) z.cells.toList parts with
      | some l => k (.agg l.toArray)
      | none => False
    | none => False
  | _ => False

/-- The builtins that leave the world as it is. -/
def evBuiltin (T : Tab) (b : Builtin) (tys : List Nat) (xs : List Value) (k : Value → Prop) : Prop :=
  match b, tys, xs with
  | .len, t :: _, x :: _ => match T t with
    | some ⟨.slice _, _, _, _⟩ => asSl x fun _ l _ => k (.int .i64 l)
    | some ⟨.arr n _, _, _, _⟩ => k (.int .i64 n)
    | some ⟨.string, _, _, _⟩ => asStr x fun s => k (.int .i64 s.size)
    | _ => False
  | .min, _, [x, y] => asInt x fun K a => asInt y fun _ b => k (.int K (if b < a then b else a))
  | .max, _, [x, y] => asInt x fun K a => asInt y fun _ b => k (.int K (if a < b then b else a))
  | _, _, _ => False

/-- An operation that leaves the world as it is. -/
def evS (T : Tab) (o : Oper) (e : Env) (k : Value → Prop) (w : World) : Prop :=
  match o.op with
  | .move x => force (get e x) k
  | .assign x => force (get e x) k
  | .pick c a b => asBool (get e c) fun t => IfP t (force (get e a) k) (force (get e b) k)
  | .binOp op t x y _ => match op with
    | .shl => asInt (get e x) fun K a => asInt (get e y) fun _ b => shiftI .shl K a b k
    | .shr => asInt (get e x) fun K a => asInt (get e y) fun _ b => shiftI .shr K a b k
    | op => match T t with
      | some ⟨.int _, _, _, _⟩ => asInt (get e x) fun K a => asInt (get e y) fun K' b => bif ieq K K' then binI op K a b k else False
      | some ⟨ty, _, _, _⟩ => match op with
        | .eql => eqV ty (get e x) (get e y) fun b => k (.bool b)
        | .neq => eqV ty (get e x) (get e y) fun b => k (.bool !b)
        | _ => False
      | none => False
  | .unOp op _ x => match op with
    | .not => asBool (get e x) fun b => k (.bool !b)
    | .xor => asInt (get e x) fun K n => k (.int K (Go.bits .xor K (if K.signed then -1 else K.max) n))
    | .neg => asInt (get e x) fun K n => k (.int K (K.wrap (0 - n)))
    | _ => False
  | .convert s d x => match T s, T d with
    | some ⟨.int _, _, _, _⟩, some ⟨.int K, _, _, _⟩ => asInt (get e x) fun _ n => k (.int K (K.wrap n))
    | _, _ => False
  | .load t a => asAddr (get e a) fun p => ld T t p k w
  | .nilCheck x => match get e x with
    | .pointer a => NilP a fun p => k (.pointer (some p))
    | .func (.func f) a c => k (.func (.func f) a c)
    | .func (.yield f) a c => k (.func (.yield f) a c)
    | .iface t v => k (.iface t v)
    | _ => False
  | .fieldAddr s x f => fieldOf T s f fun off u => match T u with
    | some i => bif Nat.beq i.size 0 then False else asAddr (get e x) fun p => k (.pointer (some (p.add off)))
    | none => False
  | .field s x f => fieldOf T s f fun off u => asAgg (get e x) fun cs => partOf T u cs off k
  | .indexAddr t x i => match T t with
    | some ⟨.slice el, _, _, _⟩ => match T el with
      | some inf => asSl (get e x) fun a l _ => asInt (get e i) fun _ i => IdxP a l i inf.size (fun p => k (.pointer (some p)))
      | none => False
    | some ⟨.arr n el, _, _, _⟩ => match T el with
      | some inf => asAddr (get e x) fun a => asInt (get e i) fun _ i => IdxP (some a) n i inf.size (fun p => k (.pointer (some p)))
      | none => False
    | _ => False
  | .index t x i => match T t with
    | some ⟨.arr n el, _, _, _⟩ => match T el with
      | some inf => asAgg (get e x) fun cs => asInt (get e i) fun _ i => ChkP (0 ≤ i ∧ i < n) (partOf T el cs (i.toNat * inf.size) k)
      | none => False
    | some ⟨.string, _, _, _⟩ => asStr (get e x) fun s => asInt (get e i) fun _ i => StrP s i (fun b => k (.int .u8 b))
    | _ => False
  | .slice t x lo hi mx => match T t with
    | some ⟨.slice el, _, _, _⟩ => match T el with
      | some inf => asSl (get e x) fun a l c => asOI (lo.map (get e)) fun lo => asOI (hi.map (get e)) fun hi => asOI (mx.map (get e)) fun mx =>
          match hi, mx with
          | none, some _ => False
          | _, _ => SlcP a l c (lo.getD 0) hi mx inf.size (fun a l c => k (.slice a l c))
      | none => False
    | some ⟨.arr n el, _, _, _⟩ => match T el with
      | some inf => asAddr (get e x) fun a => asOI (lo.map (get e)) fun lo => asOI (hi.map (get e)) fun hi => asOI (mx.map (get e)) fun mx =>
          match hi, mx with
          | none, some _ => False
          | _, _ => SlcP (some a) n n (lo.getD 0) hi mx inf.size (fun a l c => k (.slice a l c))
      | none => False
    | _ => False
  | .extract t i => match get e t with
    | .tuple vs => match vs.toList[i]? with
      | some v => k v
      | none => False
    | _ => False
  | .build t parts => forceL e parts.toList fun l => evBuild T t l k
  | .makeFunc fn first cap => k (.func fn (first.toList.map (get e)).toArray (cap.toList.map (get e)).toArray)
  | .call c => match c.callee with
    | .builtin b => evBuiltin T b c.argTypes.toList (c.args.toList.map (get e)) k
    | _ => False
  | _ => False

structure CallP (P : Program) (f : FuncId) (args : Array Value) (k : Value → World → Prop) (w : World) : Prop where
  out : Calls P f args w fun e w' => ∃ v, e = .returned v ∧ k v w'
structure ExtP (P : Program) (f : FuncId) (args : Array Value) (k : Value → World → Prop) (w : World) : Prop where
  out : ∃ v w', (callFunc f args).run P w = .ok (.value v) w' ∧ k v w'
structure YieldP (P : Program) (r : Option Nat) (l : Nat) (args : Array Value) (k : Value → World → Prop) (w : World) : Prop where
  out : r = none ∧ YieldAt Fence.wide 0 P l args w fun e w' => ∃ v, e = .returned v ∧ k v w'
structure StP (a : Addr) (v : Value) (k : World → Prop) (w : World) : Prop where
  one : Value.oneCell' v = true
  live : (w.cell? a).isSome = true
  free : w.frozen? a = false
  k : k (w.setCell a v)
/-- values laid one behind the other. -/
def setCells (w : World) (a : Addr) : List Value → Nat → World
  | [], _ => w
  | v :: r, i => setCells (w.setCell (a.add i) v) a r (i + 1)
structure StsP (a : Addr) (vs : List Value) (k : World → Prop) (w : World) : Prop where
  one : ∀ v ∈ vs, Value.oneCell' v = true
  live : ∀ i, i < vs.length → (w.cell? (a.add i)).isSome = true
  free : ∀ i, i < vs.length → w.frozen? (a.add i) = false
  k : k (setCells w a vs 0)
/-- the first cells of a slice. -/
structure RdP (a : Option Addr) (n : Nat) (k : List Value → Prop) (w : World) : Prop where
  out : ∃ vs : List Value, vs.length = n ∧ (∀ i, i < n → ∃ b, a = some b ∧ w.cell? (b.add i) = vs[i]?) ∧ k vs
/-- append's new array: as large as the tape says. -/
structure GrowP (need old elem bytes : Nat) (k : Nat → World → Prop) (w : World) : Prop where
  fits : Builtin.nextslicecap need old * bytes ≤ 2 ^ 48
  low : (need : Int) ≤ IntKind.i64.max ∨ bytes ≠ 0
  k : ∀ c, need ≤ c → k c { w with drawn := w.drawn + 1 }
structure MakeP (len cap : Int) (bytes : Nat) (k : Nat → Nat → Prop) : Prop where
  out : 0 ≤ len ∧ len ≤ cap ∧ cap ≤ 9223372036854775807 ∧ bytes * cap ≤ 2 ^ 48 ∧ k len.toNat cap.toNat
/-- What a walk hands on: how it was left, the deferred calls, the temporaries, the world. -/
abbrev Post := Exit → List Deferred → Env → World → Prop
def asgOps : List Oper → Nat
  | [] => 0
  | o :: r => (match o.dst with | some d => 1 <<< d | none => 0) ||| asgOps r
def asg : Code → Nat
  | .region _ ops _ => asgOps ops.toList
  | .seq a b => asg a ||| asg b
  | .cond _ a b => asg a ||| asg b
  | .block _ c => asg c
  | .loop c => asg c
  | .scope c => asg c
  | _ => 0
def actEnv (a : Act) : Env := fun t => a.tmps.getD t undef
/-- What a walk hands on, at the machine's own state. -/
def Fr (m : Nat) (a : Act) (Q : Post) (x : Exit) (a' : Act) (w' : World) : Prop :=
  a'.tmps.size = a.tmps.size ∧ (∀ t, Nat.testBit m t = false → actEnv a' t = actEnv a t) ∧ Q x a'.defers (actEnv a') w'
/-- a region that draws its order, or a range over a function, as the model has it: shown by laws of their own. -/
structure DrawP (P : Program) (r : Option Nat) (n : Nat) (c : Code) (D : List Deferred) (e : Env) (Q : Post) (w : World) : Prop where
  out : r = none ∧ ∀ a : Act, a.tmps.size = n → a.defers = D → actEnv a = e → c.wp P (Fr (asg c) a Q) a w

def evCall (P : Program) (ext : Nat → Bool) (r : Option Nat) (f : Value) (args : List Value) (k : Value → World → Prop) (w : World) : Prop :=
  match f with
  | .func (.func g) a c => bif ext g then ExtP P g (a.toList ++ args ++ c.toList).toArray k w else CallP P g (a.toList ++ args ++ c.toList).toArray k w
  | .func (.yield l) a _ => YieldP P r l (a.toList ++ args).toArray k w
  | _ => False

/-- append of the cells of a slice or a string. -/
def appK (el size bytes : Nat) (z : Value) (a : Option Addr) (l c n : Nat) (new : List Value) (k : Value → World → Prop) (w : World) : Prop :=
  IfP (Nat.ble (l + n) c)
    (match a with
      | some b => StsP (b.add (l * size)) new (fun w => k (.slice a (l + n) c) w) w
      | none => k (.slice none (l + n) c) w)
    (RdP a (l * size) (fun old => GrowP (l + n) c el bytes (fun nc w =>
      k (.slice (some ⟨w.heap.size, 0, none⟩) (l + n) nc) (w.alloc (.cells (old ++ new ++ (List.replicate (nc - (l + n)) z.cells.toList).flatten).toArray el))) w) w)
def evAppend (el size bytes : Nat) (z : Value) (s x : Value) (k : Value → World → Prop) (w : World) : Prop :=
  asSl s fun a l c => match x with
    | .slice b n _ => RdP b (n * size) (fun new => appK el size bytes z a l c n new k w) w
    | .string t => appK el size bytes z a l c t.size (t.data.toList.map fun b => .int .u8 b.toNat) k w
    | _ => False
def evCopy (size : Nat) (d x : Value) (k : Value → World → Prop) (w : World) : Prop :=
  asSl d fun a dl _ => match x with
    | .slice b n _ => RdP b (min n dl * size) (fun vs => match a with
        | some p => StsP p vs (fun w => k (.int .i64 ((min n dl : Nat) : Int)) w) w
        | none => k (.int .i64 ((min n dl : Nat) : Int)) w) w
    | _ => False

/-- a literal's row gets the mark of a string's bytes. -/
structure MarkP (p : Addr) (k : World → Prop) (w : World) : Prop where
  out : ∃ cs T fr, w.heap[p.block]? = some (.cells cs T fr) ∧ k (w.freeze ⟨p.block, cs.size, none⟩ 1)
/-- a new slice of zeros. -/
structure MakeK (el bytes : Nat) (z : Value) (l c : Int) (k : Value → World → Prop) (w : World) : Prop where
  out : MakeP l c bytes fun l c => k (.slice (some ⟨w.heap.size, 0, none⟩) l c) (w.alloc (.cells (List.replicate c z.cells.toList).flatten.toArray el))
def evOp (T : Tab) (P : Program) (ext : Nat → Bool) (r : Option Nat) (o : Oper) (e : Env) (k : Value → World → Prop) (w : World) : Prop :=
  match o.op with
  | .alloc el => match T el with
    | some i => k (.pointer (some ⟨w.heap.size, 0, none⟩)) (w.alloc (.cells i.zero.cells el))
    | none => False
  | .box el x => force (get e x) fun v => k (.pointer (some ⟨w.heap.size, 0, none⟩)) (w.alloc (.cells v.cells el))
  | .store t a x => match T t with
    | some ⟨.arr _ _, n, _, _⟩ => asAddr (get e a) fun p => asAgg (get e x) fun cs => ChkP (cs.size = n) (StsP p cs.toList (fun w => k undef w) w)
    | some ⟨.struct _, n, _, _⟩ => asAddr (get e a) fun p => asAgg (get e x) fun cs => ChkP (cs.size = n) (StsP p cs.toList (fun w => k undef w) w)
    | some ⟨.other, _, _, _⟩ => False
    | some _ => asAddr (get e a) fun p => force (get e x) fun v => StP p v (fun w => k undef w) w
    | none => False
  | .buildSlice t len parts => match T t with
    | some ⟨.slice el, _, _, _⟩ => match T el with
      | some i => bif Nat.ble (len * i.size) 16777216 then forceL e parts.toList fun pl => match fillL (fun j => some (j * i.size, i.size)) (List.replicate len i.zero.cells.toList).flatten pl with
        | some l => k (.slice (some ⟨w.heap.size, 0, none⟩) len len) (w.alloc (.cells l.toArray el))
        | none => False
        else False
      | none => False
    | _ => False
  | .makeSlice t l c => match T t with
    | some ⟨.slice el, _, _, _⟩ => match T el with
      | some i => asInt (get e l) fun _ l => asInt (get e c) fun _ c => MakeK el i.bytes i.zero l c k w
      | none => False
    | _ => False
  | .convert s d x => match T s, T d with
    | some ⟨.slice el, _, _, _⟩, some ⟨.string, _, _, _⟩ => match T el with
      | some ⟨.int .u8, _, _, _⟩ => asSl (get e x) fun a l _ =>
        RdP a l (fun vs => ∃ ns : List Int, vs = ns.map (Value.int .u8) ∧ k (.string ⟨(ns.map fun n => UInt8.ofNat n.toNat).toArray⟩) w) w
      | _ => False
    | some ⟨.string, _, _, _⟩, some ⟨.slice el, _, _, _⟩ => match T el with
      | some ⟨.int .u8, _, _, _⟩ => asStr (get e x) fun t => ∀ c, t.size ≤ c →
          k (.slice (some ⟨w.heap.size, 0, none⟩) t.size c) ((({ w with drawn := w.drawn + 1 } : World).alloc (.cells (t.data.map (fun b => Value.int .u8 b.toNat) ++ Array.replicate (c - t.size) (.int .u8 0)) el)).freeze ⟨w.heap.size, c, none⟩ 1)
      | _ => False
    | some ⟨.slice a, _, _, _⟩, some ⟨.slice el, _, _, _⟩ => bif Nat.beq s d then (match T el with
      | some ⟨.int .u8, _, _, _⟩ => asSl (get e x) fun a l c => match a with
        | some p => MarkP p (fun w => k (.slice (some p) l c) w) w
        | none => False
      | _ => False) else False
    | _, _ => evS T o e (fun v => k v w) w
  | .call c => match c.callee with
    | .value f => evCall P ext r (get e f) (c.args.toList.map (get e)) k w
    | .builtin .append => match c.argTypes.toList, c.args.toList with
      | [t, u], [s, x] => match T t, T u with
        | some ⟨.slice el, _, _, _⟩, some ⟨uty, _, _, _⟩ => match T el with
          | some i => match uty with
            | .int _ => False
            | .other => False
            | _ => evAppend el i.size i.bytes i.zero (get e s) (get e x) k w
          | none => False
        | _, _ => False
      | _, _ => False
    | .builtin .copy => match c.argTypes.toList, c.args.toList with
      | t :: _, [s, x] => match T t with
        | some ⟨.slice el, _, _, _⟩ => match T el with
          | some i => evCopy i.size (get e s) (get e x) k w
          | none => False
        | _ => False
      | _, _ => False
    | _ => evS T o e (fun v => k v w) w
  | _ => evS T o e (fun v => k v w) w

/-- (by the bare recursor: so the kernel and the unifier unfold it to the same term) -/
def evOps (T : Tab) (P : Program) (ext : Nat → Bool) (r : Option Nat) (all : List Oper) : List Oper → Env → (Env → World → Prop) → World → Prop :=
  @List.rec Oper (fun _ => Env → (Env → World → Prop) → World → Prop) (fun e Q w => Q e w) (fun o _ next e Q w => match o.guard with
    | none => match o.dst with
      | some d => evOp T P ext r o e (fun v w => next (upd e d v) Q w) w
      | none => evOp T P ext r o e (fun _ w => next e Q w) w
    | some (j, want) => match (all[j]?).bind (·.dst) with
      | some g => asG (e g) (fun c => match o.dst with
        | some d => IfP (bif want then c else !c) (evOp T P ext r o (upd e g (.bool want)) (fun v w => next (upd (upd e g (.bool want)) d v) Q w) w)
          (next (upd (upd e g (.bool !want)) d undef) Q w)
        | none => IfP (bif want then c else !c) (evOp T P ext r o (upd e g (.bool want)) (fun _ w => next (upd e g (.bool want)) Q w) w)
          (next (upd e g (.bool !want)) Q w)) (match o.dst with
        | some d => next (upd e d undef) Q w
        | none => next e Q w)
      | none => False)
theorem evOps_cons {T : Tab} {P : Program} {ext : Nat → Bool} {r : Option Nat} {all : List Oper} {o : Oper} {rest : List Oper} {e : Env} {Q : Env → World → Prop} {w : World} :
    evOps T P ext r all (o :: rest) e Q w = match o.guard with
    | none => evOp T P ext r o e (fun v w => evOps T P ext r all rest (updO e o.dst v) Q w) w
    | some (j, want) => match (all[j]?).bind (·.dst) with
      | some d => asG (e d) (fun c =>
        IfP (bif want then c else !c) (evOp T P ext r o (upd e d (.bool want)) (fun v w => evOps T P ext r all rest (updO (upd e d (.bool want)) o.dst v) Q w) w)
          (evOps T P ext r all rest (updO (upd e d (.bool !want)) o.dst undef) Q w)) (evOps T P ext r all rest (updO e o.dst undef) Q w)
      | none => False := by
  show (match o.guard with | none => _ | some (j, want) => _) = _
  cases o.guard with
  | none => cases o.dst <;> rfl
  | some jw =>
    obtain ⟨j, want⟩ := jw
    simp only
    cases (all[j]?).bind (·.dst) with
    | none => rfl
    | some g => cases o.dst <;> rfl

structure LoopP (asg : Nat) (body : Env → Post → World → Prop) (D : List Deferred) (e : Env) (Q : Post) (w : World) : Prop where
  out : ∃ (S : Type) (I : S → Env → World → Prop) (μ : S → Nat), (∃ s, I s e w) ∧
    ∀ s j w', I s (over e asg j) w' → body (over e asg j) (fun x D' e'' w'' => match x with
      | .normal => D' = D ∧ ∃ s', I s' e'' w'' ∧ μ s' < μ s
      | x => Q x D' e'' w'') w'

/-- no operation writes beyond the temporaries; nothing defers. -/
def okOps (n : Nat) : List Oper → Bool
  | [] => true
  | o :: r => (match o.dst with | some d => Nat.blt d n | none => true) && (match o.op with | .defer _ => false | _ => true) && okOps n r
def okC (n : Nat) : Code → Bool
  | .region _ ops _ => okOps n ops.toList
  | .seq a b => okC n a && okC n b
  | .cond _ a b => okC n a && okC n b
  | .block _ c => okC n c
  | .loop c => okC n c
  | .scope c => okC n c
  | _ => true

def evC (T : Tab) (P : Program) (ext : Nat → Bool) (r : Option Nat) (n : Nat) : Code → List Deferred → Env → Post → World → Prop :=
  @Code.rec (fun _ => List Deferred → Env → Post → World → Prop)
    (fun D e Q w => Q .normal D e w)
    (fun id ops dr D e Q w => bif dr then DrawP P r n (.region id ops true) D e Q w else evOps T P ext r ops.toList ops.toList e (fun e w => Q .normal D e w) w)
    (fun _ _ ia ib D e Q w => ia D e (fun x D e w => match x with | .normal => ib D e Q w | x => Q x D e w) w)
    (fun c _ _ ia ib D e Q w => asBool (get e c) fun t => IfP t (ia D e Q w) (ib D e Q w))
    (fun id _ ic D e Q w => ic D e (fun x D e w => match x with
      | .exit id' => bif Nat.beq id' id then Q .normal D e w else Q (.exit id') D e w
      | x => Q x D e w) w)
    (fun c ic D e Q w => LoopP (asg c) (ic D) D e Q w)
    (fun g ps a b _ _ D e Q w => DrawP P r n (.rangeFunc g ps a b) D e Q w)
    (fun id D e Q w => Q (.exit id) D e w)
    (fun _ ic D e Q w => bif r.isNone then ic D e (fun x D e w => match x with | .goto _ => False | x => Q x D e w) w else False)
    (fun _ D e Q w => Q .normal D e w)
    (fun _ _ _ _ _ => False)
    (fun D e Q w => Q .ret D e w)
    (fun _ _ _ _ _ => False)

/-- the results of a function. -/
def evRes1 (T : Tab) (e : Env) (w : World) (rv : ResultVar) (k : Value → Prop) : Prop := match rv with
  | .tmp t => k (e t)
  | .cell a t => asAddr (e a) fun p => ld T t p k w
def evRes (T : Tab) (e : Env) (w : World) : List ResultVar → (List Value → Prop) → Prop
  | [], k => k []
  | r :: rs, k => evRes1 T e w r fun v => evRes T e w rs fun vs => k (v :: vs)
def ret1 : List Value → Value
  | [v] => v
  | vs => .tuple vs.toArray
end Go.Ev
