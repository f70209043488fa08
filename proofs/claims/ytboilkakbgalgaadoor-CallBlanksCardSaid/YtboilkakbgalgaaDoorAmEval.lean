/-
The abstract machine's reading of the model's code: a function of the code into plain operations. Definitions alone.
-/
import Derived.Test.YtboilkakbgalgaaDoorAmDefs
namespace Go.Am
open Go

inductive Kd where
  | bool
  | int (k : IntKind)
  | str
  | ptr (e : TypeId)
  | slice (e : TypeId)
  | map (k e : TypeId)
  | fn
  | iface
  | struct (fs : List (Nat × TypeId))
  | arr (n : Nat) (e : TypeId)
  | tup (ts : List TypeId)
  | other

structure TI where
  kd : Kd
  size : Nat
  bytes : Nat
  zero : List AV
  /-- Two such values may be held against each other cell by cell: which cells are truth values, which whole numbers. -/
  eq : List Bool := []

/-- What a reading leans on: the types, the functions that are known, the bound on rounds. -/
structure Env where
  tt : PT TI
  fn : FuncId → Option AFn
  k : Nat

abbrev Fr := PT AV

def Env.ti (E : Env) (t : TypeId) (K : TI → C) : C :=
  match E.tt.get t with
  | some i => K i
  | none => fail

def Kd.isTup : Kd → Bool
  | .tup _ => true
  | _ => false
/-- A type that variables have. -/
def Env.tv (E : Env) (t : TypeId) (K : TI → C) : C := E.ti t fun i => match i.kd.isTup with
  | true => fail
  | false => K i

def constAV : Value → Option AV
  | .bool b => some (.bool b)
  | .int k n => some (.int k n)
  | .string s => some (.str s.data.toList)
  | .pointer none => some (.ptr none)
  | .slice none 0 0 => some (.slice none)
  | .map none => some (.map none)
  | .nilFunc => some .nilfn
  | .nilIface => some .nilif
  | _ => none

def val (fr : Fr) : Operand → Option AV
  | .tmp t => fr.get t
  | .const v => constAV v
  | .func f => some (.fn f [] [])
  | .global _ => none
def vals (fr : Fr) : List Operand → Option (List AV)
  | [] => some []
  | x :: r => match val fr x, vals fr r with
    | some v, some l => some (v :: l)
    | _, _ => none
def Kd.agg : Kd → Bool
  | .struct _ | .arr _ _ => true
  | _ => false

/-- A value of a type, taken apart into its constructor. -/
def destr1 (i : TI) (K : AV → C) : AV → C :=
  match i.kd with
  | .bool => dB fun b => K (.bool b)
  | .int k => dI k fun n => K (.int k n)
  | .str => dS fun s => K (.str s)
  | .ptr _ => dP fun p => K (.ptr p)
  | .slice _ => dSl fun s => K (.slice s)
  | .map _ _ => dM fun r => K (.map r)
  | .fn => dV K
  | .iface => dV K
  | .struct _ => dA i.size fun l => K (.agg l)
  | .arr _ _ => dA i.size fun l => K (.agg l)
  | .tup [] => d0 (K (.tup []))
  | _ => fun _ => fail
def destr (E : Env) (t : TypeId) (K : AV → C) : AV → C := fun v =>
  E.ti t fun i => match i.kd with
    | .tup [a, b] => E.ti a fun ia => E.ti b fun ib =>
      d2 (fun x y => destr1 ia (fun x => destr1 ib (fun y => K (.tup [x, y])) y) x) v
    | .tup [a, b, c] => E.ti a fun ia => E.ti b fun ib => E.ti c fun ic =>
      d3 (fun x y z => destr1 ia (fun x => destr1 ib (fun y => destr1 ic (fun z => K (.tup [x, y, z])) z) y) x) v
    | .tup [a, b, c, d] => E.ti a fun ia => E.ti b fun ib => E.ti c fun ic => E.ti d fun id =>
      d4 (fun x y z u => destr1 ia (fun x => destr1 ib (fun y => destr1 ic (fun z => destr1 id (fun u => K (.tup [x, y, z, u])) u) z) y) x) v
    | _ => destr1 i K v

/-- The cells of values that lie side by side. -/
def gather : List (AV × Nat) → (List AV → C) → C
  | [], K => K []
  | (v, n) :: r, K => match v with
    | .agg l => lenIs l n (gather r fun t => K (l ++ t))
    | .tup _ => fail
    | v => match n with
      | 1 => gather r fun t => K (v :: t)
      | _ => fail
def part? (ps : List (Nat × AV)) (i : Nat) : Option AV :=
  match ps with
  | [] => none
  | (j, v) :: r => match part? r i with
    | some u => some u
    | none => if j = i then some v else none
def onceB : List Nat → Bool
  | [] => true
  | i :: r => r.all (fun j => decide (j ≠ i)) && onceB r
def partsIn (ps : List (Nat × AV)) (n : Nat) : Bool := ps.all (fun p => decide (p.1 < n)) && onceB (ps.map (·.1))
/-- A struct's parts, those that are not given as the zero value has them. -/
def fields (E : Env) (zero : List AV) (ps : List (Nat × AV)) : Nat → List (Nat × TypeId) → (List (AV × Nat) → C) → C
  | _, [], K => K []
  | i, (off, t) :: r, K => E.ti t fun ti =>
    match part? ps i with
    | some v => fields E zero ps (i + 1) r fun l => K ((v, ti.size) :: l)
    | none => fields E zero ps (i + 1) r fun l => K ((.agg ((zero.drop off).take ti.size), ti.size) :: l)
def elems (zero : List AV) (size : Nat) (ps : List (Nat × AV)) : Nat → Nat → List (AV × Nat)
  | _, 0 => []
  | i, n + 1 => (match part? ps i with
    | some v => (v, size)
    | none => (.agg zero, size)) :: elems zero size ps (i + 1) n
/-- An array's elements, those that are not given as the zero value has them. -/
def elemsA (zero : List AV) (size : Nat) (ps : List (Nat × AV)) : Nat → Nat → List (AV × Nat)
  | _, 0 => []
  | i, n + 1 => (match part? ps i with
    | some v => (v, size)
    | none => (.agg ((zero.drop (i * size)).take size), size)) :: elemsA zero size ps (i + 1) n
def valsAt (fr : Fr) : List (Nat × Operand) → Option (List (Nat × AV))
  | [] => some []
  | (i, x) :: r => match val fr x, valsAt fr r with
    | some v, some l => some ((i, v) :: l)
    | _, _ => none

def eqCells : List Bool → List AV → List AV → Option Bool
  | [], [], [] => some true
  | false :: ks, .int j x :: l, .int k y :: r => match eqCells ks l r with
    | some t => if j = k then some (x == y && t) else none
    | none => none
  | true :: ks, .bool x :: l, .bool y :: r => match eqCells ks l r with
    | some t => some ((x == y) && t)
    | none => none
  | _, _, _ => none
def eqAgg (ks : List Bool) (l r : List AV) (K : Bool → C) : C :=
  match eqCells ks l r with
  | some b => K b
  | none => fail
def ptrEqC (p q : Option (Nat × Nat)) (K : Bool → C) : C := fun m =>
  match p, q with
  | none, none => K true m
  | none, some _ => K false m
  | some _, none => K false m
  | some (i, o), some (j, u) => match decide (i = j) with
    | true => K (decide (o = u)) m
    | false => match m.cells i, m.cells j with
      | some l, some r => match decide ((m.base ≤ i ∨ m.base ≤ j) ∧ o < l.length ∧ u < r.length) with
        | true => K false m
        | false => none
      | _, _ => none
def bits (op : BinOp) (k : IntKind) (x y : Int) : Int :=
  let a := BitVec.ofInt k.bits x
  let b := BitVec.ofInt k.bits y
  k.wrap ((match op with
    | .and => a &&& b
    | .or => a ||| b
    | .xor => a ^^^ b
    | _ => a &&& ~~~b).toNat)
def evBin (ks : List Bool) (op : BinOp) (x y : AV) (K : AV → C) : C :=
  match op, x, y with
  | .shl, .int k a, .int _ b => shamt b (K (.int k (k.wrap (a * 2 ^ min b.toNat k.bits))))
  | .shr, .int k a, .int _ b => shamt b (K (.int k (a.fdiv (2 ^ min b.toNat k.bits))))
  | op, .int k a, .int k' b => bc (decide (k = k')) (match op with
    | .add => K (.int k (k.wrap (a + b)))
    | .sub => K (.int k (k.wrap (a - b)))
    | .mul => K (.int k (k.wrap (a * b)))
    | .quo => zdiv b (K (.int k (k.wrap (a.tdiv b))))
    | .rem => zdiv b (K (.int k (a.tmod b)))
    | .and => K (.int k (bits .and k a b))
    | .or => K (.int k (bits .or k a b))
    | .xor => K (.int k (bits .xor k a b))
    | .andNot => K (.int k (bits .andNot k a b))
    | .eql => K (.bool (a == b))
    | .neq => K (.bool (a != b))
    | .lss => K (.bool (decide (a < b)))
    | .leq => K (.bool (decide (a ≤ b)))
    | .gtr => K (.bool (decide (a > b)))
    | .geq => K (.bool (decide (a ≥ b)))
    | _ => fail) fail
  | .add, .str a, .str b => cat a b fun s => K (.str s)
  | .eql, .str a, .str b => K (.bool (a == b))
  | .neq, .str a, .str b => K (.bool (!(a == b)))
  | .eql, .bool a, .bool b => K (.bool (a == b))
  | .neq, .bool a, .bool b => K (.bool (!(a == b)))
  | .eql, .ptr a, .ptr b => ptrEqC a b fun e => K (.bool e)
  | .neq, .ptr a, .ptr b => ptrEqC a b fun e => K (.bool (!e))
  | .eql, .slice a, .slice none => K (.bool a.isNone)
  | .neq, .slice a, .slice none => K (.bool (!a.isNone))
  | .eql, .map a, .map none => K (.bool a.isNone)
  | .neq, .map a, .map none => K (.bool (!a.isNone))
  | .eql, .agg a, .agg b => eqAgg ks a b fun e => K (.bool e)
  | .neq, .agg a, .agg b => eqAgg ks a b fun e => K (.bool (!e))
  | .eql, a, .nilif => ifNilIf a fun e => K (.bool e)
  | .neq, a, .nilif => ifNilIf a fun e => K (.bool (!e))
  | .eql, a, .nilfn => ifNilFn a fun e => K (.bool e)
  | .neq, a, .nilfn => ifNilFn a fun e => K (.bool (!e))
  | _, _, _ => fail
/-- What is held against nil is looked at last. -/
def evBinN (ks : List Bool) (op : BinOp) (x y : AV) (K : AV → C) : C :=
  match y with
  | .nilif => match op with
    | .eql => ifNilIf x fun e => K (.bool e)
    | .neq => ifNilIf x fun e => K (.bool (!e))
    | _ => fail
  | .nilfn => match op with
    | .eql => ifNilFn x fun e => K (.bool e)
    | .neq => ifNilFn x fun e => K (.bool (!e))
    | _ => fail
  | y => evBin ks op x y K
def isConstO : Operand → Bool
  | .const _ => true
  | _ => false
/-- Is the operation one of its operands' type? -/
def binT (E : Env) (t : TypeId) (c : Bool) (b : AV) (X : List Bool → C) : C :=
  match b with
  | .int _ _ => X []
  | .str _ => X []
  | .bool _ => E.ti t fun i => match i.kd with
    | .bool => X []
    | _ => fail
  | .ptr _ => E.ti t fun i => match i.kd with
    | .ptr e => E.ti e fun ie => match ie.size with
      | 0 => fail
      | _ + 1 => X []
    | _ => fail
  | .slice _ => E.ti t fun i => match i.kd with
    | .slice _ => X []
    | _ => fail
  | .map _ => E.ti t fun i => match i.kd with
    | .map _ _ => X []
    | _ => fail
  | .nilif => match c with
    | true => E.ti t fun i => match i.kd with
      | .iface => X []
      | _ => fail
    | false => fail
  | .nilfn => E.ti t fun i => match i.kd with
    | .fn => X []
    | _ => fail
  | .agg _ => E.ti t fun i => match i.eq with
    | [] => fail
    | k :: ks => X (k :: ks)
  | _ => fail
def evUn (op : UnOp) (x : AV) (K : AV → C) : C :=
  match op, x with
  | .not, .bool b => K (.bool !b)
  | .neg, .int k n => K (.int k (k.wrap (0 - n)))
  | .xor, .int k n => K (.int k (bits .xor k (if k.signed then -1 else k.max) n))
  | _, _ => fail
def evConv (E : Env) (i j : TI) (x : AV) (K : AV → C) : C :=
  match i.kd, j.kd, x with
  | .int _, .int k, .int _ n => K (.int k (k.wrap n))
  | .str, .str, .str s => K (.str s)
  | .slice e, .str, .slice s => E.ti e fun ie => match ie.kd with
    | .int .u8 => strOf s fun b => K (.str b)
    | _ => fail
  | _, _, _ => fail
def minA (k : IntKind) : Int → List AV → Option AV
  | a, [] => some (.int k a)
  | a, .int _ b :: r => minA k (if b < a then b else a) r
  | _, _ => none
def minI : List AV → Option AV
  | .int k a :: r => minA k a r
  | _ => none
def maxA (k : IntKind) : Int → List AV → Option AV
  | a, [] => some (.int k a)
  | a, .int _ b :: r => maxA k (if b > a then b else a) r
  | _, _ => none
def maxI : List AV → Option AV
  | .int k a :: r => maxA k a r
  | _ => none
def optC (v : Option AV) (K : AV → C) : C :=
  match v with
  | some v => K v
  | none => fail
def capS (s : Option SV) (K : Int → C) : C :=
  match s with
  | none => K 0
  | some s => bc s.ex (K s.cap) fail
def withRo {α : Type} (ro : Bool) (X : (α → C) → C) (K : α → C) : C :=
  match ro with
  | false => X K
  | true => fun m => X (fun a m1 => K a { m1 with lo := m.lo }) { m with lo := m.next }
def roOk (ro : Bool) (K : C) : C :=
  match ro with
  | false => K
  | true => fail
def evBuiltin (E : Env) (ro : Bool) (b : Builtin) (ts : List TypeId) (args : List AV) (K : AV → C) : C :=
  match b, ts, args with
  | .len, t :: _, [x] => E.ti t fun i => match i.kd, x with
    | .str, .str s => K (.int .i64 s.length)
    | .slice _, .slice s => K (.int .i64 (slen s))
    | .arr n _, _ => K (.int .i64 n)
    | .ptr e, _ => E.ti e fun ie => match ie.kd with
      | .arr n _ => K (.int .i64 n)
      | _ => fail
    | _, _ => fail
  | .cap, t :: _, [.slice s] => E.ti t fun i => match i.kd with
    | .slice _ => capS s fun n => K (.int .i64 n)
    | _ => fail
  | .min, _, l => optC (minI l) K
  | .max, _, l => optC (maxI l) K
  | .append, t :: u :: _, [.slice s, x] => E.ti t fun i => E.ti u fun iu => match i.kd, iu.kd, x with
    | .slice e, .slice _, .slice y => E.tv e fun ie => withRo ro (app ie.size ie.bytes s y) fun r => K (.slice r)
    | .slice e, .str, .str y => E.tv e fun ie => match ie.size, ie.bytes with
      | 1, 1 => withRo ro (appStr s y) fun r => K (.slice r)
      | _, _ => fail
    | _, _, _ => fail
  | .copy, t :: u :: _, [.slice d, x] => roOk ro (E.ti t fun i => E.ti u fun iu => match i.kd, iu.kd, x with
    | .slice e, .slice _, .slice y => E.ti e fun ie => cpy ie.size d y fun n => K (.int .i64 n)
    | _, _, _ => fail)
  | .clear, t :: _, [.slice d] => roOk ro (E.ti t fun i => match i.kd with
    | .slice e => E.tv e fun ie => clr ie.size ie.zero d (K (.tup []))
    | _ => fail)
  | .delete, t :: _, [.map r, .int .i64 k] => roOk ro (E.ti t fun i => match i.kd with
    | .map kt _ => E.ti kt fun ik => match ik.kd with
      | .int .i64 => del r k (K (.tup []))
      | _ => fail
    | _ => fail)
  | _, _, _ => fail
def optInt (fr : Fr) : Option Operand → Option (Option Int)
  | none => some none
  | some x => match val fr x with
    | some (.int _ n) => some (some n)
    | _ => none

/-- One operation. -/
def evOp (E : Env) (ro : Bool) (o : Oper) (fr : Fr) (K : AV → C) : C :=
  match o.op with
  | .move x => optC (val fr x) K
  | .assign x => optC (val fr x) K
  | .pick c a b => match val fr c with
    | some (.bool c) => match val fr a, val fr b with
      | some (.bool x), some (.bool y) => K (.bool (match c with
        | true => x
        | false => y))
      | va, vb => bc c (optC va K) (optC vb K)
    | _ => fail
  | .alloc t => E.tv t fun i => new i.zero fun id => K (.ptr (some (id, 0)))
  | .box t x => E.ti t fun i => optC (val fr x) fun v => gather [(v, i.size)] fun l => new l fun id => K (.ptr (some (id, 0)))
  | .build t ps => E.ti t fun i => match valsAt fr ps.toList with
    | some l => match i.kd with
      | .struct fs => match partsIn l fs.length with
        | true => fields E i.zero l 0 fs fun vs => gather vs fun cs => K (.agg cs)
        | false => fail
      | .arr n e => match partsIn l n with
        | true => E.ti e fun ie => bc (decide (i.zero.length = n * ie.size)) (gather (elemsA i.zero ie.size l 0 n) fun cs => K (.agg cs)) fail
        | false => fail
      | _ => fail
    | none => fail
  | .buildSlice t n ps => E.ti t fun i => match valsAt fr ps.toList with
    | some l => match i.kd with
      | .slice e => match partsIn l n && decide (n ≤ 65536) with
        | true => E.tv e fun ie => match decide (ie.size ≤ 256) with
          | true => gather (elems ie.zero ie.size l 0 n) fun cs =>
            new cs fun id => K (.slice (some { id, off := 0, sz := ie.size, len := n, cap := n, ex := true }))
          | false => fail
        | false => fail
      | _ => fail
    | none => fail
  | .load t a => E.ti t fun i => match val fr a with
    | some (.ptr (some (b, o))) => match i.kd.agg with
      | true => ldN i.size b o fun l => K (.agg l)
      | false => ld b o (destr1 i K)
    | _ => fail
  | .store t a x => roOk ro (E.ti t fun i => match val fr a, val fr x with
    | some (.ptr (some (b, o))), some v => match v with
      | .agg l => stN i.size b o l (K (.tup []))
      | v => match i.size with
        | 1 => st b o v (K (.tup []))
        | _ => fail
    | _, _ => fail)
  | .nilCheck x => match val fr x with
    | some (.ptr p) => chk p fun b o => K (.ptr (some (b, o)))
    | _ => fail
  | .binOp op t x y _ => match val fr x, val fr y with
    | some a, some b => binT E t (isConstO y) b fun ks => evBinN ks op a b K
    | _, _ => fail
  | .unOp op _ x => match val fr x with
    | some a => evUn op a K
    | none => fail
  | .convert s d x => E.ti s fun i => E.ti d fun j => match val fr x with
    | some v => evConv E i j v K
    | none => fail
  | .makeInterface t x => match val fr x with
    | some v => E.ti t fun i => match i.kd with
      | .iface => fail
      | _ => K (.iface t v)
    | none => fail
  | .makeFunc (.func f) first caps => match vals fr first.toList, vals fr caps.toList with
    | some a, some b => K (.fn f a b)
    | _, _ => fail
  | .makeMap t none => E.ti t fun i => match i.kd with
    | .map kt _ => E.ti kt fun ik => match ik.kd with
      | .int .i64 => newMap fun id => K (.map (some id))
      | _ => fail
    | _ => fail
  | .makeSlice t n c => E.ti t fun i => match i.kd, val fr n, val fr c with
    | .slice e, some (.int _ n), some (.int _ c) => E.tv e fun ie => mk ie.size ie.bytes ie.zero n c fun s => K (.slice s)
    | _, _, _ => fail
  | .slice t x lo hi mx => match optInt fr lo, optInt fr hi, optInt fr mx with
    | some l, some h, some m => E.ti t fun i => match i.kd, val fr x with
      | .str, some (.str s) => match m with
        | none => cutStr s l h fun r => K (.str r)
        | some _ => fail
      | .slice e, some (.slice s) => E.ti e fun ie => cut ie.size s l h m fun r => K (.slice r)
      | .arr n e, some (.ptr (some (b, o))) => E.ti e fun ie => cutArr n ie.size b o l h m fun r => K (.slice r)
      | _, _ => fail
    | _, _, _ => fail
  | .fieldAddr t x f => E.ti t fun i => match i.kd, val fr x with
    | .struct fs, some (.ptr (some (b, o))) => match fs[f]? with
      | some (off, ft) => E.ti ft fun ift => match ift.size with
        | 0 => fail
        | _ + 1 => K (.ptr (some (b, o + off)))
      | none => fail
    | _, _ => fail
  | .field t x f => E.ti t fun i => match i.kd, val fr x with
    | .struct fs, some (.agg l) => match fs[f]? with
      | some (off, ft) => E.ti ft fun ift => match ift.kd.agg with
        | true => K (.agg ((l.drop off).take ift.size))
        | false => one1 (destr1 ift K) ((l.drop off).take 1)
      | none => fail
    | _, _ => fail
  | .indexAddr t x ix => E.ti t fun i => match i.kd, val fr x, val fr ix with
    | .slice e, some (.slice s), some (.int _ n) => E.ti e fun ie => ixS ie.size s n fun b o => K (.ptr (some (b, o)))
    | .arr len e, some (.ptr (some (b, o))), some (.int _ n) => E.ti e fun ie => ixA len ie.size b o n fun b o => K (.ptr (some (b, o)))
    | _, _, _ => fail
  | .index t x ix => E.ti t fun i => match i.kd, val fr x, val fr ix with
    | .str, some (.str s), some (.int _ n) => ixStr s n fun c => K (.int .u8 c)
    | .arr len e, some (.agg l), some (.int _ n) => E.ti e fun ie => match ie.kd.agg with
      | true => ixV len ie.size l n fun r => K (.agg r)
      | false => ixV len ie.size l n (one1 (destr1 ie K))
    | _, _, _ => fail
  | .lookup t x ix false => E.ti t fun i => match i.kd, val fr x, val fr ix with
    | .map kt e, some (.map r), some (.int .i64 n) => E.ti kt fun ik => E.tv e fun ie => match ik.kd with
      | .int .i64 => look r n (match ie.kd.agg with
        | true => .agg ie.zero
        | false => ie.zero.headD .nilif) (destr1 ie K)
      | _ => fail
    | _, _, _ => fail
  | .mapUpdate t x ix v => roOk ro (E.ti t fun i => match i.kd, val fr x, val fr ix, val fr v with
    | .map kt _, some (.map r), some (.int .i64 n), some v => E.ti kt fun ik => match ik.kd with
      | .int .i64 => upd r n v (K (.tup []))
      | _ => fail
    | _, _, _, _ => fail)
  | .extract t j => match val fr t with
    | some (.tup l) => optC l[j]? K
    | _ => fail
  | .call { callee := .builtin b, args, argTypes } => match vals fr args.toList with
    | some l => evBuiltin E ro b argTypes.toList l K
    | none => fail
  | .call { callee := .value (.func f), args, .. } => match vals fr args.toList, E.fn f with
    | some l, some F => match ro with
      | true => callRo F l (destr E o.type K)
      | false => call F l (destr E o.type K)
    | _, _ => fail
  | .call { callee := .value (.tmp t), args, .. } => match fr.get t, vals fr args.toList with
    | some v, some l => callV ro E.fn v l (destr E o.type K)
    | _, _ => fail
  | _ => fail

def putD (fr : Fr) (d : Option Tmp) (v : AV) : Fr :=
  match d with
  | some d => fr.set v d
  | none => fr
/-- An operation that is not wanted leaves nothing in its slot. -/
def skipD (fr : Fr) (d : Option Tmp) : Fr := putD fr d (.tup [])

/-- What an operation is to memory: nothing, a reader, a maker of new memory, all else. -/
inductive Cl where
  | p | r | a | c
def convCl (tt : PT TI) (i j : TypeId) : Cl :=
  match tt.get i, tt.get j with
  | some a, some b => match a.kd, b.kd with
    | .int _, .int _ => .p
    | .str, .str => .p
    | .slice _, .str => .r
    | _, _ => .c
  | _, _ => .c
def binCl (tt : PT TI) (op : BinOp) (t : TypeId) (x y : Operand) : Cl :=
  match op, isConstO x || isConstO y with
  | .eql, false | .neq, false => match tt.get t with
    | some i => match i.kd with
      | .ptr _ => .r
      | _ => .p
    | none => .p
  | _, _ => .p
/-- An array behind an address is asked for. -/
def sliceCl (tt : PT TI) (t : TypeId) : Cl :=
  match tt.get t with
  | some i => match i.kd with
    | .arr _ _ => .r
    | _ => .p
  | none => .p
def Op.cl (tt : PT TI) : Op → Cl
  | .load .. | .lookup .. => .r
  | .slice t _ _ _ _ => sliceCl tt t
  | .assign _ => .c
  | .binOp op t x y _ => binCl tt op t x y
  | .convert i j _ => convCl tt i j
  | .alloc _ | .box .. | .buildSlice .. | .makeMap .. | .makeSlice .. => .a
  | .store .. | .mapUpdate .. | .insert .. | .mapEntry .. | .entryStore .. | .range .. | .next .. | .entry .. | .defer _ | .go _ | .panic _ | .send .. | .recv .. | .select .. | .ready _ | .waits _ => .c
  | .call { callee := .builtin b, .. } => match b with
    | .len | .cap | .min | .max | .unsafeSliceData => .p
    | _ => .c
  | .call _ => .c
  | _ => .p
def Op.isStore : Op → Bool
  | .store .. => true
  | _ => false
def Cl.isC : Cl → Bool
  | .c => true
  | _ => false
def Cl.isR : Cl → Bool
  | .r => true
  | _ => false

/-- What stands ahead of each operation, as sets in numbers. -/
def edgeMask (acc : List Nat) : List Edge → Nat
  | [] => 0
  | e :: r => match Region.binds .any e with
    | true => (2 ^ e.on ||| acc.getD e.on 0) ||| edgeMask acc r
    | false => edgeMask acc r
def befGo : List Oper → List Nat → List Nat
  | [], acc => acc
  | o :: r, acc => befGo r (acc ++ [edgeMask acc o.after.toList])
/-- The order in which a region whose order is open is read: what writes or makes new memory in its own order, what only reads as soon as may be. -/
def acGo (n : Nat) (bef : List Nat) (isA : Nat → Bool) : List Nat → Nat → List Nat
  | [], done => (List.range n).filter fun i => isA i && !done.testBit i
  | c :: r, done =>
    let l := (List.range n).filter fun i => isA i && !done.testBit i && (bef.getD c 0).testBit i
    l ++ c :: acGo n bef isA r (l.foldl (fun d i => d ||| 2 ^ i) done ||| 2 ^ c)
def prPass (bef : List Nat) (isPR : Nat → Bool) : List Nat → Nat → List Nat × Nat
  | [], done => ([], done)
  | i :: r, done => match isPR i && !done.testBit i && ((bef.getD i 0) &&& done == bef.getD i 0) with
    | true => let x := prPass bef isPR r (done ||| 2 ^ i); (i :: x.1, x.2)
    | false => prPass bef isPR r done
def canonGo (n : Nat) (bef : List Nat) (isPR : Nat → Bool) : List Nat → Nat → List Nat
  | [], done => (prPass bef isPR (List.range n) done).1
  | x :: r, done => let y := prPass bef isPR (List.range n) done; y.1 ++ x :: canonGo n bef isPR r (y.2 ||| 2 ^ x)
def apart (bef : List Nat) (i j : Nat) : Bool := !((bef.getD i 0).testBit j) && !((bef.getD j 0).testBit i) && i != j
def addrId (fr : Fr) : Op → Option Nat
  | .load _ a => match val fr a with
    | some (.ptr (some (b, _))) => some b
    | _ => none
  | .store _ a _ => match val fr a with
    | some (.ptr (some (b, _))) => some b
    | _ => none
  | _ => none
structure Rg where
  ops : List Oper
  bef : List Nat
  cls : List Cl
def Rg.cl (g : Rg) (i : Nat) : Cl :=
  match g.cls[i]? with
  | some x => x
  | none => .p
def Rg.isAC (g : Rg) (i : Nat) : Bool :=
  match g.cl i with
  | .a | .c => true
  | _ => false
/-- Is an operation to be held to new memory alone, because a reader stands beside it? -/
def Rg.ro (g : Rg) (i : Nat) : Bool :=
  (List.range g.ops.length).any fun q => (g.cl q).isR && apart g.bef q i
def isStoreAt (ops : List Oper) (i : Nat) : Bool :=
  match ops[i]? with
  | some o => Op.isStore o.op
  | none => false
/-- Does a reader stand beside a store, or a store beside a reader? -/
def Rg.meets (g : Rg) (i : Nat) (st : Bool) : Bool :=
  (List.range g.ops.length).any fun q => (match st with
    | true => (g.cl q).isR
    | false => isStoreAt g.ops q) && apart g.bef q i
def nes (b : Nat) : List Nat → C → C
  | [], K => K
  | e :: r, K => ne e b (nes b r K)
def dstOf (ops : List Oper) (g : Nat) : Option Tmp :=
  match ops[g]? with
  | some o => o.dst
  | none => none

def evOps (E : Env) (ops : List Oper) : List Nat → Fr → (Fr → C) → C
  | [], fr, K => K fr
  | i :: r, fr, K => match ops[i]? with
    | none => fail
    | some o =>
      match o.guard with
      | none => evOp E false o fr fun v => evOps E ops r (putD fr o.dst v) K
      | some (g, want) => match dstOf ops g with
        | none => fail
        | some d => match fr.get d with
          | some (.bool b) => bc b
            (match want with
              | true => evOp E false o (fr.set (.bool true) d) fun v => evOps E ops r (putD (fr.set (.bool true) d) o.dst v) K
              | false => evOps E ops r (skipD (fr.set (.bool true) d) o.dst) K)
            (match want with
              | false => evOp E false o (fr.set (.bool false) d) fun v => evOps E ops r (putD (fr.set (.bool false) d) o.dst v) K
              | true => evOps E ops r (skipD (fr.set (.bool false) d) o.dst) K)
          | some (.tup []) => evOps E ops r (skipD fr o.dst) K
          | _ => fail
/-- One operation of a region whose order is open: readers and stores that stand beside each other go to different blocks. -/
def evOpD (E : Env) (g : Rg) (i : Nat) (o : Oper) (seen : List (Nat × Nat)) (fr : Fr) (K : List (Nat × Nat) → AV → C) : C :=
  match g.cl i with
  | .r => match g.meets i false with
    | true => match addrId fr o.op with
      | some b => evOp E false o fr (K ((i, b) :: seen))
      | none => fail
    | false => evOp E false o fr (K seen)
  | .c => match Op.isStore o.op with
    | true => match g.meets i true with
      | true => match addrId fr o.op with
        | some b => nes b ((seen.filter fun s => apart g.bef s.1 i).map (·.2)) (evOp E false o fr (K seen))
        | none => fail
      | false => evOp E false o fr (K seen)
    | false => evOp E (g.ro i) o fr (K seen)
  | _ => evOp E false o fr (K seen)
def evOpsD (E : Env) (g : Rg) : List Nat → List (Nat × Nat) → Fr → (Fr → C) → C
  | [], _, fr, K => K fr
  | i :: r, seen, fr, K => match g.ops[i]? with
    | none => fail
    | some o =>
      match o.guard with
      | none => evOpD E g i o seen fr fun seen v => evOpsD E g r seen (putD fr o.dst v) K
      | some (gd, want) => match dstOf g.ops gd with
        | none => fail
        | some d => match fr.get d with
          | some (.bool b) => bc b
            (match want with
              | true => evOpD E g i o seen (fr.set (.bool true) d) fun seen v => evOpsD E g r seen (putD (fr.set (.bool true) d) o.dst v) K
              | false => evOpsD E g r seen (skipD (fr.set (.bool true) d) o.dst) K)
            (match want with
              | false => evOpD E g i o seen (fr.set (.bool false) d) fun seen v => evOpsD E g r seen (putD (fr.set (.bool false) d) o.dst v) K
              | true => evOpsD E g r seen (skipD (fr.set (.bool false) d) o.dst) K)
          | some (.tup []) => evOpsD E g r seen (skipD fr o.dst) K
          | _ => fail
def writesOps : List Oper → List Tmp
  | [] => []
  | o :: r => match o.dst with
    | some d => d :: writesOps r
    | none => writesOps r
/-- The order read is one of the orders, and ends at all. -/
def linOk (bef : List Nat) : List Nat → (done full : Nat) → Bool
  | [], done, full => done == full
  | i :: r, done, full => !done.testBit i && full.testBit i && ((bef.getD i 0) &&& done == bef.getD i 0) && linOk bef r (done ||| 2 ^ i) full
def tmpsOf : List Operand → List Tmp
  | [] => []
  | .tmp t :: r => t :: tmpsOf r
  | _ :: r => tmpsOf r
/-- Who writes a slot stands in order to who reads it. -/
def readOk (bef : List Nat) (isAC : Nat → Bool) (i : Nat) (t : Tmp) : Nat → List Oper → Bool
  | _, [] => true
  | j, o :: r => (match o.dst with
    | none => true
    | some d => d != t || (i == j && isAC i) || (bef.getD i 0).testBit j || ((bef.getD j 0).testBit i && isAC j)) && readOk bef isAC i t (j + 1) r
def readsOk (bef : List Nat) (isAC : Nat → Bool) (l : List Oper) : Nat → List Oper → Bool
  | _, [] => true
  | i, o :: r => (tmpsOf o.op.operands.toList).all (fun t => readOk bef isAC i t 0 l) && (match o.guard with
    | some (g, _) => (bef.getD i 0).testBit g
    | none => true) && readsOk bef isAC l (i + 1) r
/-- What writes or makes new memory stands behind all such ahead of it; what only reads stands behind the last such ahead of it. -/
def piOk (g : Rg) : List Nat → List Nat → Bool
  | [], _ => true
  | i :: r, acs => match g.isAC i with
    | true => acs.all (fun e => (g.bef.getD i 0).testBit e) && piOk g r (i :: acs)
    | false => (match acs with
      | [] => true
      | e :: _ => (g.bef.getD i 0).testBit e) && piOk g r acs
def rgOk (g : Rg) (pi : List Nat) : Bool :=
  linOk g.bef pi 0 (2 ^ g.ops.length - 1) && piOk g pi [] && onceB (writesOps g.ops) && readsOk g.bef g.isAC g.ops 0 g.ops
def evRegion (E : Env) (ops : Array Oper) (draw : Bool) (fr : Fr) (K : Fr → C) : C :=
  match draw with
  | false => evOps E ops.toList (List.range ops.size) fr K
  | true =>
    let l := ops.toList
    let bef := befGo l []
    let n := l.length
    let cls := l.map fun o => Op.cl E.tt o.op
    let g : Rg := { ops := l, bef, cls }
    let pi := canonGo n bef (fun i => !g.isAC i) (acGo n bef (fun i => match g.cl i with
      | .a => true
      | _ => false) ((List.range n).filter fun i => (g.cl i).isC) 0) 0
    match rgOk g pi with
    | true => evOpsD E g pi [] fr K
    | false => fail

inductive Ex where
  | normal
  | exit (id : Nat)
  | ret

/-- Where ways meet: the slots that go on. -/
inductive Hint where
  | z
  | seq (a b : Hint)
  | cond (a b : Hint)
  | condJ (slots : List (Nat × TypeId)) (a b : Hint)
  | block (a : Hint)
  | blockJ (slots : List (Nat × TypeId)) (a : Hint)
  | loop (slots : List (Nat × TypeId)) (a : Hint)
  | join (slots : List (Nat × TypeId)) (a : Hint)

def proj (fr : Fr) : List (Nat × TypeId) → Option (List AV)
  | [] => some []
  | (s, _) :: r => match fr.get s, proj fr r with
    | some v, some l => some (v :: l)
    | _, _ => none
def putAll (E : Env) : List (Nat × TypeId) → Fr → (Fr → C) → List AV → C
  | [], fr, K => u0 (K fr)
  | (s, t) :: r, fr, K => un fun v l => E.ti t fun i => destr1 i (fun v => putAll E r (fr.set v s) K l) v
def writes : Code → List Tmp
  | .region _ ops _ => writesOps ops.toList
  | .seq a b => writes a ++ writes b
  | .cond _ a b => writes a ++ writes b
  | .block _ b => writes b
  | .loop b => writes b
  | .scope b => writes b
  | .rangeFunc _ _ a b => writes a ++ writes b
  | _ => []
def eraseAll (fr : Fr) : List Tmp → Fr
  | [] => fr
  | t :: r => eraseAll (fr.erase t) r
def setO (fr : Fr) (c : Operand) (b : Bool) : Fr :=
  match c with
  | .tmp t => fr.set (.bool b) t
  | _ => fr
def projK (fr : Fr) (slots : List (Nat × TypeId)) (j : List AV → C) : C :=
  match proj fr slots with
  | some l => j l
  | none => fail

def evCode (E : Env) : Hint → Code → Fr → (Ex → Fr → C) → C
  | .join slots h, c, fr, K =>
    jn (putAll E slots (eraseAll fr (writes c)) fun fr => K .normal fr) fun j =>
      evCode E h c fr fun e fr => match e with
        | .normal => projK fr slots j
        | e => K e fr
  | .seq ha hb, .seq a b, fr, K => evCode E ha a fr fun e fr => match e with
    | .normal => evCode E hb b fr K
    | e => K e fr
  | .cond ha hb, .cond c a b, fr, K => match val fr c with
    | some (.bool t) => bc t (evCode E ha a (setO fr c true) K) (evCode E hb b (setO fr c false) K)
    | _ => fail
  | .condJ slots ha hb, .cond c a b, fr, K => match val fr c with
    | some (.bool t) =>
      jn (putAll E slots (eraseAll fr (writes a ++ writes b)) fun fr => K .normal fr) fun j =>
        bc t
          (evCode E ha a (setO fr c true) fun e fr => match e with
            | .normal => projK fr slots j
            | e => K e fr)
          (evCode E hb b (setO fr c false) fun e fr => match e with
            | .normal => projK fr slots j
            | e => K e fr)
    | _ => fail
  | .block h, .block id b, fr, K => evCode E h b fr fun e fr => match e with
    | .exit i => match decide (i = id) with
      | true => K .normal fr
      | false => K (.exit i) fr
    | e => K e fr
  | .blockJ slots h, .block id b, fr, K =>
    jn (putAll E slots (eraseAll fr (writes b)) fun fr => K .normal fr) fun j =>
      evCode E h b fr fun e fr => match e with
        | .normal => projK fr slots j
        | .exit i => match decide (i = id) with
          | true => projK fr slots j
          | false => K (.exit i) fr
        | .ret => K .ret fr
  | .loop slots h, .loop b, fr, K => projK fr slots fun l =>
    lp E.k l fun vs self => putAll E slots (eraseAll fr (writes b)) (fun fr =>
      evCode E h b fr fun e fr => match e with
        | .normal => projK fr slots self
        | e => K e fr) vs
  | .z, c, fr, K => match c with
    | .skip => K .normal fr
    | .label _ => K .normal fr
    | .region _ ops draw => evRegion E ops draw fr fun fr => K .normal fr
    | .exit id => K (.exit id) fr
    | .ret => K .ret fr
    | _ => fail
  | _, _, _, _ => fail

/-- What a function answers. -/
def readResults (E : Env) (fr : Fr) : List ResultVar → (List AV → C) → C
  | [], K => K []
  | .tmp t :: r, K => optC (fr.get t) fun v => readResults E fr r fun l => K (v :: l)
  | .cell a t :: r, K => match fr.get a with
    | some (.ptr (some (b, o))) => E.ti t fun i => match i.kd.agg with
      | true => ldN i.size b o fun l => readResults E fr r fun vs => K (.agg l :: vs)
      | false => ld b o fun v => readResults E fr r fun vs => K (v :: vs)
    | _ => fail
def retAll : List AV → C
  | [v] => ret v
  | l => ret (.tup l)
def setArgs : Nat → List AV → Fr → Fr
  | _, [], fr => fr
  | i, v :: r, fr => setArgs (i + 1) r (fr.set v i)
def evBody (E : Env) (fn : Func) (h : Hint) (args : List AV) : C :=
  match fn.body with
  | some c => match (writes c).all (fun t => decide (t < fn.ntmps)) && decide (args.length ≤ fn.ntmps) with
    | true => evCode E h c (setArgs 0 args .nil) fun e fr => match e with
      | .exit _ => fail
      | _ => readResults E fr fn.results.toList retAll
    | false => fail
  | none => fail

end Go.Am
