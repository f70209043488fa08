/-
An abstract machine over the model's code: plain values, blocks of cells by numbers, no capacities drawn, no order drawn.
Definitions alone.
-/
import Derived.Orders
import Derived.Below
namespace Go.Am
open Go

/-- A slice's value: its block, where it begins, an element's cells, length, the capacity that is known (exactly, or at least). -/
structure SV where
  id : Nat
  off : Nat
  sz : Nat
  len : Nat
  cap : Nat
  ex : Bool

inductive AV where
  | bool (b : Bool)
  | int (k : IntKind) (n : Int)
  | str (s : List UInt8)
  | ptr (p : Option (Nat × Nat))
  | slice (s : Option SV)
  | map (r : Option Nat)
  | fn (f : FuncId) (first caps : List AV)
  | nilfn
  | iface (t : TypeId) (v : AV)
  | nilif
  | agg (l : List AV)
  | tup (l : List AV)

instance : Inhabited AV := ⟨.tup []⟩

def AV.one : AV → Bool
  | .agg _ | .tup _ => false
  | _ => true

/-- A tree by numbers. -/
inductive PT (α : Type) where
  | nil
  | node (l : PT α) (v : Option α) (r : PT α)

namespace PT
variable {α : Type}
def get : PT α → Nat → Option α
  | nil, _ => none
  | node l v r, n => match n with
    | 0 => v
    | n + 1 => match n % 2 with
      | 0 => l.get (n / 2)
      | _ => r.get (n / 2)
def single (v : α) : (fuel n : Nat) → PT α
  | 0, _ => node nil (some v) nil
  | f + 1, n => match n with
    | 0 => node nil (some v) nil
    | n + 1 => match n % 2 with
      | 0 => node (single v f (n / 2)) none nil
      | _ => node nil none (single v f (n / 2))
def set (x : α) : PT α → Nat → PT α
  | nil, n => single x n n
  | node l v r, n => match n with
    | 0 => node l (some x) r
    | n + 1 => match n % 2 with
      | 0 => node (l.set x (n / 2)) v r
      | _ => node l v (r.set x (n / 2))
def erase : PT α → Nat → PT α
  | nil, _ => nil
  | node l v r, n => match n with
    | 0 => node l none r
    | n + 1 => match n % 2 with
      | 0 => node (l.erase (n / 2)) v r
      | _ => node l v (r.erase (n / 2))
end PT

inductive Blk where
  | cells (l : List AV)
  | map (l : List (Int × AV))

structure Mem where
  next : Nat
  lo : Nat
  base : Nat
  t : PT Blk

def Mem.get (m : Mem) (id : Nat) : Option Blk := m.t.get id
def Mem.set (m : Mem) (id : Nat) (b : Blk) : Mem := { m with t := m.t.set b id }
def Mem.kill (m : Mem) (id : Nat) : Mem := { m with t := m.t.erase id }
def Mem.add (m : Mem) (b : Blk) : Mem := { m with next := m.next + 1, t := m.t.set b m.next }
def Mem.cells (m : Mem) (id : Nat) : Option (List AV) :=
  match m.get id with
  | some (.cells l) => some l
  | _ => none

abbrev Rs := Option (AV × Mem)
abbrev C := Mem → Rs
abbrev AFn := List AV → C

def fail : C := fun _ => none
def ret (v : AV) : C := fun m => some (v, m)
/-- What continues where ways meet. -/
def jn {α : Type} (J : α → C) (X : (α → C) → C) : C := X J
abbrev bc (b : Bool) (x y : C) : C :=
  match b with
  | true => x
  | false => y

def dB (K : Bool → C) : AV → C
  | .bool b => K b
  | _ => fail
def dI (k : IntKind) (K : Int → C) : AV → C
  | .int k' n => bc (decide (k' = k)) (K n) fail
  | _ => fail
def dS (K : List UInt8 → C) : AV → C
  | .str s => K s
  | _ => fail
def dP (K : Option (Nat × Nat) → C) : AV → C
  | .ptr p => K p
  | _ => fail
def dSl (K : Option SV → C) : AV → C
  | .slice s => K s
  | _ => fail
def dM (K : Option Nat → C) : AV → C
  | .map r => K r
  | _ => fail
def dA (n : Nat) (K : List AV → C) : AV → C
  | .agg l => bc (decide (l.length = n)) (K l) fail
  | _ => fail
/-- A function value, an interface value: as it is. -/
def dV (K : AV → C) : AV → C := K
def d0 (K : C) : AV → C
  | .tup [] => K
  | _ => fail
def d2 (K : AV → AV → C) : AV → C
  | .tup [a, b] => K a b
  | _ => fail
def d3 (K : AV → AV → AV → C) : AV → C
  | .tup [a, b, c] => K a b c
  | _ => fail
def d4 (K : AV → AV → AV → AV → C) : AV → C
  | .tup [a, b, c, d] => K a b c d
  | _ => fail

/-- A list of values, one by one. -/
def un (K : AV → List AV → C) : List AV → C
  | v :: l => K v l
  | [] => fail
def u0 (K : C) : List AV → C
  | [] => K
  | _ :: _ => fail
def lk : List (Nat × AFn) → Nat → Option AFn
  | [], _ => none
  | (i, F) :: r, n => match decide (i = n) with
    | true => some F
    | false => lk r n

/-- A pointer that is none is refused. -/
def chk (p : Option (Nat × Nat)) (K : Nat → Nat → C) : C :=
  match p with
  | some (i, o) => K i o
  | none => fail
def ld (i o : Nat) (K : AV → C) : C := fun m =>
  match m.cells i with
  | some l => match l[o]? with
    | some v => K v m
    | none => none
  | none => none
def ldN (n i o : Nat) (K : List AV → C) : C := fun m =>
  match m.cells i with
  | some l => match decide (o + n ≤ l.length) with
    | true => K ((l.drop o).take n) m
    | false => none
  | none => none
/-- Cells written into a block, from a place on. -/
def splice (l : List AV) (o : Nat) (new : List AV) : List AV := l.take o ++ new ++ l.drop (o + new.length)
def stN (n i o : Nat) (new : List AV) (K : C) : C := fun m =>
  match m.cells i with
  | some l => match decide (m.lo ≤ i ∧ new.length = n ∧ o + n ≤ l.length) && new.all AV.one with
    | true => K (m.set i (.cells (splice l o new)))
    | false => none
  | none => none
def st (i o : Nat) (v : AV) (K : C) : C := fun m =>
  match m.cells i with
  | some l => match decide (m.lo ≤ i ∧ o < l.length) && v.one with
    | true => K (m.set i (.cells (l.set o v)))
    | false => none
  | none => none
def new (l : List AV) (K : Nat → C) : C := fun m =>
  match l.all AV.one with
  | true => K m.next (m.add (.cells l))
  | false => none
def newMap (K : Nat → C) : C := fun m => K m.next (m.add (.map []))

def call (F : AFn) (args : List AV) (K : AV → C) : C := fun m =>
  match F args m with
  | some (v, m1) => K v m1
  | none => none
/-- A call that may write nothing that is there already. -/
def callRo (F : AFn) (args : List AV) (K : AV → C) : C := fun m =>
  match F args { m with lo := m.next } with
  | some (v, m1) => K v { m1 with lo := m.lo }
  | none => none
def callV (ro : Bool) (tbl : FuncId → Option AFn) (f : AV) (args : List AV) (K : AV → C) : C :=
  match f with
  | .fn g first caps => match tbl g with
    | some F => match ro with
      | true => callRo F (first ++ args ++ caps) K
      | false => call F (first ++ args ++ caps) K
    | none => fail
  | _ => fail

def slen : Option SV → Int
  | some s => s.len
  | none => 0
/-- An element's address. -/
def ixS (sz : Nat) (s : Option SV) (x : Int) (K : Nat → Nat → C) : C :=
  match s with
  | some s => bc (decide (s.sz = sz ∧ 0 ≤ x ∧ x < s.len)) (K s.id (s.off + x.toNat * sz)) fail
  | none => fail
def ixA (n sz i o : Nat) (x : Int) (K : Nat → Nat → C) : C :=
  bc (decide (0 ≤ x ∧ x < n)) (K i (o + x.toNat * sz)) fail
/-- An element of a string. -/
def ixStr (s : List UInt8) (x : Int) (K : Int → C) : C :=
  match decide (0 ≤ x), s[x.toNat]? with
  | true, some b => K b.toNat
  | _, _ => fail
/-- An element of an array's value. -/
def ixV (n sz : Nat) (l : List AV) (x : Int) (K : List AV → C) : C :=
  bc (decide (0 ≤ x ∧ x < n ∧ l.length = n * sz)) (K ((l.drop (x.toNat * sz)).take sz)) fail
def one1 (K : AV → C) : List AV → C
  | [v] => bc v.one (K v) fail
  | _ => fail

def cutBounds (len cap : Nat) (lo hi mx : Option Int) : Option (Nat × Nat × Nat) :=
  let m := match mx with
    | some x => if 0 ≤ x ∧ x ≤ cap then some x.toNat else none
    | none => some cap
  match m with
  | none => none
  | some m =>
    let h := match hi, mx with
      | some x, _ => if 0 ≤ x ∧ x ≤ m then some x.toNat else none
      | none, none => some len
      | none, some _ => none
    match h with
    | none => none
    | some h =>
      match lo with
      | some x => if 0 ≤ x ∧ x ≤ h then some (x.toNat, h, m) else none
      | none => some (0, h, m)
/-- s[lo:hi:mx]. -/
def cut (sz : Nat) (s : Option SV) (lo hi mx : Option Int) (K : Option SV → C) : C :=
  match s with
  | some s => bc (decide (s.sz = sz))
      (match cutBounds s.len s.cap lo hi mx with
        | some (l, h, m) => K (some { id := s.id, off := s.off + l * sz, sz, len := h - l, cap := m - l, ex := s.ex || mx.isSome })
        | none => fail) fail
  | none => match cutBounds 0 0 lo hi mx with
    | some _ => K none
    | none => fail
def cutStr (s : List UInt8) (lo hi : Option Int) (K : List UInt8 → C) : C :=
  match cutBounds s.length s.length lo hi none with
  | some (l, h, _) => K ((s.take h).drop l)
  | none => fail
/-- An array behind a pointer, cut. -/
def cutArr (n sz i o : Nat) (lo hi mx : Option Int) (K : Option SV → C) : C := fun m =>
  match m.cells i with
  | none => none
  | some c => match decide (o + n * sz ≤ c.length), cutBounds n n lo hi mx with
    | true, some (l, h, q) => K (some { id := i, off := o + l * sz, sz, len := h - l, cap := q - l, ex := true }) m
    | _, _ => none

/-- The cells of a slice. -/
def Mem.row (m : Mem) (s : Option SV) (sz : Nat) (n : Nat) : Option (List AV) :=
  match s with
  | some s => match m.cells s.id with
    | some l => if s.sz = sz ∧ s.off + n * sz ≤ l.length then some ((l.drop s.off).take (n * sz)) else none
    | none => none
  | none => if n = 0 then some [] else none
def most : Nat := 1073741824
/-- append(s, cells...) -/
def appL (sz bytes : Nat) (s : Option SV) (n : Nat) (cells : List AV) (K : Option SV → C) : C := fun m =>
  match n with
  | 0 => K s m
  | n + 1 =>
    match s with
    | none => match decide (cells.length = (n + 1) * sz ∧ n + 1 ≤ most ∧ bytes ≤ 65536 ∧ 0 < bytes) && cells.all AV.one with
      | true => K (some { id := m.next, off := 0, sz, len := n + 1, cap := n + 1, ex := false }) (m.add (.cells cells))
      | false => none
    | some s =>
      match m.cells s.id with
      | none => none
      | some l =>
        match decide (s.sz = sz ∧ cells.length = (n + 1) * sz ∧ s.len + (n + 1) ≤ most ∧ bytes ≤ 65536 ∧ 0 < bytes ∧ s.off + s.len * sz ≤ l.length) && cells.all AV.one with
        | false => none
        | true =>
          match decide (s.len + (n + 1) ≤ s.cap) with
          | true =>
            match decide (m.lo ≤ s.id ∧ s.off + (s.len + (n + 1)) * sz ≤ l.length) with
            | true => K (some { s with len := s.len + (n + 1) }) (m.set s.id (.cells (splice l (s.off + s.len * sz) cells)))
            | false => none
          | false =>
            let all := (l.drop s.off).take (s.len * sz) ++ cells
            match s.ex with
            | true => K (some { id := m.next, off := 0, sz, len := s.len + (n + 1), cap := s.len + (n + 1), ex := false }) (m.add (.cells all))
            | false =>
              match decide (m.lo ≤ s.id) with
              | true => K (some { id := m.next, off := 0, sz, len := s.len + (n + 1), cap := s.len + (n + 1), ex := false }) ((m.kill s.id).add (.cells all))
              | false => none
def app (sz bytes : Nat) (s t : Option SV) (K : Option SV → C) : C := fun m =>
  match m.row t sz (slen t).toNat with
  | some l => appL sz bytes s (slen t).toNat l K m
  | none => none
def byteCells (s : List UInt8) : List AV := s.map fun b => .int .u8 b.toNat
def appStr (s : Option SV) (t : List UInt8) (K : Option SV → C) : C := appL 1 1 s t.length (byteCells t) K
/-- copy(d, t) -/
def cpyL (sz : Nat) (d : Option SV) (n : Nat) (cells : List AV) (K : Int → C) : C := fun m =>
  match n with
  | 0 => K 0 m
  | n + 1 => match d with
    | none => none
    | some d => match m.cells d.id with
      | none => none
      | some l => match decide (m.lo ≤ d.id ∧ d.sz = sz ∧ cells.length = (n + 1) * sz ∧ n + 1 ≤ d.len ∧ d.off + (n + 1) * sz ≤ l.length) && cells.all AV.one with
        | true => K (n + 1 : Nat) (m.set d.id (.cells (splice l d.off cells)))
        | false => none
def cpy (sz : Nat) (d t : Option SV) (K : Int → C) : C := fun m =>
  let n := min (slen t).toNat (slen d).toNat
  match m.row t sz n with
  | some l => cpyL sz d n l K m
  | none => none
/-- clear(d) -/
def clr (sz : Nat) (zero : List AV) (d : Option SV) (K : C) : C := fun m =>
  match d with
  | none => K m
  | some s => match s.len with
    | 0 => K m
    | n + 1 => match m.cells s.id with
      | none => none
      | some l => match decide (m.lo ≤ s.id ∧ s.sz = sz ∧ zero.length = sz ∧ s.off + (n + 1) * sz ≤ l.length) && zero.all AV.one with
        | true => K (m.set s.id (.cells (splice l s.off (List.replicate (n + 1) zero).flatten)))
        | false => none
/-- make([]T, n, c) -/
def mk (sz bytes : Nat) (zero : List AV) (n c : Int) (K : Option SV → C) : C := fun m =>
  match decide (0 ≤ n ∧ n ≤ c ∧ c ≤ most ∧ bytes ≤ 65536 ∧ zero.length = sz ∧ 0 < sz) && zero.all AV.one with
  | true => K (some { id := m.next, off := 0, sz, len := n.toNat, cap := c.toNat, ex := true }) (m.add (.cells (List.replicate c.toNat zero).flatten))
  | false => none

def mget (l : List (Int × AV)) (k : Int) : Option AV := (l.find? fun e => e.1 == k).map (·.2)
def mdel (l : List (Int × AV)) (k : Int) : List (Int × AV) := l.filter fun e => !(e.1 == k)
def Mem.maps (m : Mem) (id : Nat) : Option (List (Int × AV)) :=
  match m.get id with
  | some (.map l) => some l
  | _ => none
/-- m[k] -/
def look (r : Option Nat) (k : Int) (zero : AV) (K : AV → C) : C := fun m =>
  match r with
  | none => K zero m
  | some r => match m.maps r with
    | some l => K ((mget l k).getD zero) m
    | none => none
def upd (r : Option Nat) (k : Int) (v : AV) (K : C) : C := fun m =>
  match r with
  | none => none
  | some r => match m.maps r, decide (m.lo ≤ r) with
    | some l, true => K (m.set r (.map ((k, v) :: mdel l k)))
    | _, _ => none
def del (r : Option Nat) (k : Int) (K : C) : C := fun m =>
  match r with
  | none => K m
  | some r => match m.maps r, decide (m.lo ≤ r) with
    | some l, true => K (m.set r (.map (mdel l k)))
    | _, _ => none

def cat (a b : List UInt8) (K : List UInt8 → C) : C := bc (decide (a.length + b.length ≤ 4611686018427387904)) (K (a ++ b)) fail
/-- string(bytes) -/
def asBytes : List AV → Option (List UInt8)
  | [] => some []
  | .int .u8 n :: r => match asBytes r with
    | some l => some (UInt8.ofNat n.toNat :: l)
    | none => none
  | _ :: _ => none
def strOf (s : Option SV) (K : List UInt8 → C) : C := fun m =>
  match m.row s 1 (slen s).toNat with
  | some l => match asBytes l with
    | some b => K b m
    | none => none
  | none => none
def zdiv (y : Int) (K : C) : C := bc (decide (y = 0)) fail K
def shamt (y : Int) (K : C) : C := bc (decide (0 ≤ y)) K fail
def ifNilIf (v : AV) (K : Bool → C) : C :=
  match v with
  | .nilif => K true
  | .iface _ _ => K false
  | _ => fail
def ifNilFn (v : AV) (K : Bool → C) : C :=
  match v with
  | .nilfn => K true
  | .fn _ _ _ => K false
  | _ => fail
/-- Two addresses held against each other. -/
def ptrEq : Option (Nat × Nat) → Option (Nat × Nat) → Bool
  | some (i, o), some (j, q) => decide (i = j ∧ o = q)
  | none, none => true
  | _, _ => false
/-- Blocks that must not be the same one. -/
def ne (i j : Nat) (K : C) : C := bc (decide (i = j)) fail K
def lenIs (l : List AV) (n : Nat) (K : C) : C := bc (decide (l.length = n)) K fail

/-- Rounds. -/
def lp (k : Nat) (init : List AV) (B : List AV → (List AV → C) → C) : C :=
  match k with
  | 0 => fail
  | k + 1 => B init fun vals => lp k vals B

end Go.Am
