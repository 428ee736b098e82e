/- The abstract layer, part 2: operations with their types resolved, and what each does to abstract values. -/
import Derived.Test.YtjfghjakpjfgpaaX1
namespace Go.Jq
open Go

/-! ### Operations -/

inductive Opd where
  | t (i : Nat)
  | c (x : AV)

inductive AOp where
  | mv (x : Opd)
  | pick (c a b : Opd)
  | alloc (zero : List AV)
  | box (x : Opd)
  | build (zero : List AV) (parts : List (Nat × Nat × Opd))
  | bslice (esz len : Nat) (zero : List AV) (parts : List (Nat × Nat × Opd))
  | load (k : Option Nat) (x : Opd)
  | store (k : Nat) (a v : Opd)
  | nilck (x : Opd)
  | bin (op : BinOp) (x y : Opd)
  | eqb (neg : Bool) (x y : Opd)
  | eqp (neg : Bool) (x y : Opd)
  | eqf (neg : Bool) (x y : Opd)
  | eqs (sz : List Nat) (neg : Bool) (x y : Opd)
  | un (op : UnOp) (x : Opd)
  | cvi (k : IntKind) (x : Opd)
  | cvrune (x : Opd)
  | cvbs (x : Opd)
  | cvsb (x : Opd)
  | cvll (x : Opd)
  | mkfn (f : Nat) (caps : List Opd)
  | mksl (esz bytes : Nat) (zero : List AV) (len cap : Opd)
  | slcs (x : Opd) (lo hi : Option Opd)
  | slcl (esz : Nat) (x : Opd) (lo hi : Option Opd)
  | faddr (x : Opd) (off : Nat)
  | fld (x : Opd) (off : Nat) (k : Option Nat)
  | iaddr (esz : Nat) (n : Option Nat) (x i : Opd)
  | idxs (x i : Opd)
  | idxa (n esz : Nat) (k : Option Nat) (x i : Opd)
  | ext (x : Opd) (i : Nat)
  | lens (x : Opd)
  | lenl (x : Opd)
  | minI (x y : Opd)
  | maxI (x y : Opd)
  | app (esz bytes : Nat) (x y : Opd)
  | callf (f : Nat) (args : List Opd)
  | callv (x : Opd) (args : List Opd)

structure AOper where
  dst : Option Nat
  op : AOp
  guard : Option (Nat × Bool)

/-- What an operation does to memory: nothing; a new own block; an own block's cells anew; an own block goes on under a new number. -/
inductive Eff where
  | nil
  | new (cells : List AV)
  | put (id : Nat) (cells : List AV)
  | mov (id : Nat) (cells : List AV)

def Eff.mem (m : Mem) (n : Nat) : Eff → Mem
  | .nil => m
  | .new c => mset m n c
  | .put id c => mset m id c
  | .mov id c => mset (mdel m id) n c

def Eff.next (n : Nat) : Eff → Nat
  | .nil => n
  | .new _ => n + 1
  | .put _ _ => n
  | .mov _ _ => n + 1

/-! ### What each comes to -/

def ev (t : Fr) : Opd → AV
  | .t i => fget t i
  | .c x => x

def cellsOf : AV → Option (List AV)
  | .agg cs => some cs
  | .tup _ => none
  | .any => none
  | x => some [x]

def oneB : AV → Bool
  | .agg _ => false
  | .tup _ => false
  | .any => false
  | _ => true

def putAt : List AV → Nat → List AV → List AV
  | l, _, [] => l
  | l, o, v :: vs => putAt (l.set o v) (o + 1) vs

def fillA : List AV → List (Nat × Nat × AV) → Option (List AV)
  | cs, [] => some cs
  | cs, (off, size, v) :: r =>
    match cellsOf v with
    | some vs => if vs.length = size ∧ off + size ≤ cs.length then fillA (putAt cs off vs) r else none
    | none => none

def evParts (t : Fr) (ps : List (Nat × Nat × Opd)) : List (Nat × Nat × AV) := ps.map fun p => (p.1, p.2.1, ev t p.2.2)

def bytesAV (s : List UInt8) : List AV := s.map fun b => .d (.int .u8 b.toNat)

/-- A slice's elements: how many, and their cells. -/
def elemsOf (m : Mem) (esz : Nat) : AV → Option (Nat × List AV)
  | .d .nsl => some (0, [])
  | .d (.sl n cells) => if cells.length = n * esz then some (n, cells.map .d) else none
  | .d (.str s) => if esz = 1 then some (s.length, bytesAV s) else none
  | .sl id e off len => match mget m id with
    | some cs => if e = esz ∧ off + len * esz ≤ cs.length ∧ ((cs.drop off).take (len * esz)).all oneB = true then some (len, (cs.drop off).take (len * esz)) else none
    | none => none
  | _ => none

def wrapI (k : IntKind) (n : Int) : AV := .d (.int k (k.wrap n))
def boolA (b : Bool) : AV := .d (.bool b)

def binI (op : BinOp) (k : IntKind) (a b : Int) : Option AV :=
  match op with
  | .add => some (wrapI k (a + b))
  | .sub => some (wrapI k (a - b))
  | .mul => some (wrapI k (a * b))
  | .quo => if b = 0 then none else some (wrapI k (a.tdiv b))
  | .rem => if b = 0 then none else some (.d (.int k (a.tmod b)))
  | .and => some (.d (.int k (bits .and k a b)))
  | .or => some (.d (.int k (bits .or k a b)))
  | .xor => some (.d (.int k (bits .xor k a b)))
  | .andNot => some (.d (.int k (bits .andNot k a b)))
  | .shl => none
  | .shr => none
  | .eql => some (boolA (decide (a = b)))
  | .neq => some (boolA (!decide (a = b)))
  | .lss => some (boolA (decide (a < b)))
  | .leq => some (boolA (decide (a ≤ b)))
  | .gtr => some (boolA (decide (b < a)))
  | .geq => some (boolA (decide (b ≤ a)))

def shI (op : BinOp) (k : IntKind) (a b : Int) : Option AV :=
  if b < 0 then none else
  match op with
  | .shl => some (wrapI k (a * 2 ^ min b.toNat k.bits))
  | .shr => some (.d (.int k (a.fdiv (2 ^ min b.toNat k.bits))))
  | _ => none

def binS (op : BinOp) (a b : List UInt8) : Option AV :=
  match op with
  | .add => if a.length + b.length ≤ 9223372036854775807 then some (.d (.str (a ++ b))) else none
  | .eql => some (boolA (decide (a = b)))
  | .neq => some (boolA (!decide (a = b)))
  | .lss => some (boolA (Op.bytesLess a b))
  | .leq => some (boolA (Op.bytesLess a b || decide (a = b)))
  | .gtr => some (boolA (!(Op.bytesLess a b || decide (a = b))))
  | .geq => some (boolA (!Op.bytesLess a b))
  | _ => none

def binA (op : BinOp) : AV → AV → Option AV
  | .d (.int k a), .d (.int k' b) =>
    if op = .shl ∨ op = .shr then shI op k a b else if k = k' then binI op k a b else none
  | .d (.str a), .d (.str b) => binS op a b
  | _, _ => none

def unA (op : UnOp) : AV → Option AV
  | .d (.int k a) => match op with
    | .neg => some (wrapI k (0 - a))
    | .xor => some (.d (.int k (bits .xor k (if k.signed then -1 else k.max) a)))
    | _ => none
  | .d (.bool b) => match op with
    | .not => some (boolA (!b))
    | _ => none
  | _ => none

/-- Pointers against nil. -/
def eqpA (neg : Bool) : AV → AV → Option AV
  | .ptr _ _, .d .nptr => some (boolA neg)
  | .dptr _, .d .nptr => some (boolA neg)
  | .d .nptr, .ptr _ _ => some (boolA neg)
  | .d .nptr, .dptr _ => some (boolA neg)
  | .d .nptr, .d .nptr => some (boolA (!neg))
  | _, _ => none

/-- Functions against nil. -/
def eqfA (neg : Bool) : AV → AV → Option AV
  | .fn _ _, .d .nfn => some (boolA neg)
  | .d .nfn, .fn _ _ => some (boolA neg)
  | .d .nfn, .d .nfn => some (boolA (!neg))
  | _, _ => none

/-- Cell against cell, of the kind told: 0: a number; 1: a bool; 2: a string. -/
def eqCell : Nat → AV → AV → Option Bool
  | 0, .d (.int k a), .d (.int k' b) => if k = k' then some (decide (a = b)) else none
  | 1, .d (.bool a), .d (.bool b) => some (a == b)
  | 2, .d (.str a), .d (.str b) => some (decide (a = b))
  | _, _, _ => none

def eqCells : List Nat → List AV → List AV → Option Bool
  | [], [], [] => some true
  | k :: ks, x :: xs, y :: ys => match eqCell k x y, eqCells ks xs ys with
    | some a, some b => some (a && b)
    | _, _ => none
  | _, _, _ => none

def lenA : AV → Option Nat
  | .d .nsl => some 0
  | .d (.sl n _) => some n
  | .sl _ _ _ len => some len
  | _ => none

/-- A byte list out of cells. -/
def cellBytes : List AV → Option (List UInt8)
  | [] => some []
  | .d (.int .u8 n) :: r => (cellBytes r).map (UInt8.ofNat n.toNat :: ·)
  | _ :: _ => none

def bndA (x : Option AV) (dflt : Nat) : Option Nat :=
  match x with
  | none => some dflt
  | some (.d (.int _ n)) => if 0 ≤ n then some n.toNat else none
  | _ => none

def loadA (k : Option Nat) (cells : List AV) : Option AV :=
  match k with
  | none => cells[0]?
  | some k => if k ≤ cells.length then some (.agg (cells.take k)) else none

def slcA (esz lo hi len : Nat) : AV → Option AV
  | .d .nsl => if lo = 0 ∧ hi = 0 then some (.d .nsl) else none
  | .d (.sl n cells) => if lo ≤ hi ∧ hi ≤ n ∧ n = len then some (.d (.sl (hi - lo) ((cells.drop (lo * esz)).take ((hi - lo) * esz)))) else none
  | .sl id e off n => if e = esz ∧ n = len ∧ lo ≤ hi ∧ hi ≤ n then
      (if lo = 0 then some (.sl id esz off hi) else if lo = hi then some (.d (.sl 0 [])) else some (.sl id esz (off + lo * esz) (hi - lo))) else none
  | _ => none

def aevN (o : AOp) (t : Fr) (m : Mem) (n : Nat) : Option (AV × Eff) :=
  match o with
  | .mv x => some (ev t x, .nil)
  | .pick c a b => match ev t c with
    | .d (.bool v) => some (if v = true then ev t a else ev t b, .nil)
    | _ => none
  | .alloc z => some (.ptr n 0, .new z)
  | .box x => (cellsOf (ev t x)).map fun cs => (.ptr n 0, .new cs)
  | .build z ps => (fillA z (evParts t ps)).map fun cs => (.agg cs, .nil)
  | .bslice esz len z ps => (fillA z (evParts t ps)).map fun cs => (.sl n esz 0 len, .new cs)
  | .load k x => match ev t x with
    | .ptr id off => match mget m id with
      | some cs => (loadA k (cs.drop off)).map fun v => (v, .nil)
      | none => none
    | .dptr cs => (loadA k (cs.map .d)).map fun v => (v, .nil)
    | _ => none
  | .store k a v => match ev t a, cellsOf (ev t v) with
    | .ptr id off, some vs => match mget m id with
      | some cs => if vs.length = k ∧ vs.all oneB = true ∧ off + k ≤ cs.length then some (.any, .put id (putAt cs off vs)) else none
      | none => none
    | _, _ => none
  | .nilck x => match ev t x with
    | .ptr id off => some (.ptr id off, .nil)
    | .dptr cs => some (.dptr cs, .nil)
    | .fn f cs => some (.fn f cs, .nil)
    | _ => none
  | .bin op x y => (binA op (ev t x) (ev t y)).map fun v => (v, .nil)
  | .eqb neg x y => match ev t x, ev t y with
    | .d (.bool a), .d (.bool b) => some (boolA ((a == b) != neg), .nil)
    | _, _ => none
  | .eqp neg x y => (eqpA neg (ev t x) (ev t y)).map fun v => (v, .nil)
  | .eqf neg x y => (eqfA neg (ev t x) (ev t y)).map fun v => (v, .nil)
  | .eqs sz neg x y => match ev t x, ev t y with
    | .agg xs, .agg ys => (eqCells sz xs ys).map fun b => (boolA (b != neg), .nil)
    | _, _ => none
  | .un op x => (unA op (ev t x)).map fun v => (v, .nil)
  | .cvi k x => match ev t x with
    | .d (.int _ a) => some (wrapI k a, .nil)
    | _ => none
  | .cvrune x => match ev t x with
    | .d (.int _ a) => some (.d (.str (Utf8.encode a).data.toList), .nil)
    | .d (.str s) => some (.d (.str s), .nil)
    | _ => none
  | .cvbs x => match ev t x with
    | .d (.str _) => none
    | y => match elemsOf m 1 y with
      | some (_, cs) => (cellBytes cs).map fun s => (.d (.str s), .nil)
      | none => none
  | .cvsb x => match ev t x with
    | .d (.str s) => some (.sl n 1 0 s.length, .new (bytesAV s))
    | _ => none
  | .cvll x => match ev t x with
    | .sl id e off len => match mget m id with
      | some _ => if len = 0 then none else some (.sl id e off len, .nil)
      | none => none
    | _ => none
  | .mkfn f caps => some (.fn f (caps.map (ev t)), .nil)
  | .mksl esz bytes z l c => match ev t l, ev t c with
    | .d (.int .i64 a), .d (.int .i64 b) =>
      if 0 ≤ a ∧ a ≤ b ∧ bytes * b ≤ 140737488351232 ∧ b ≤ 9223372036854775807 then some (.sl n esz 0 a.toNat, .new ((List.range (a.toNat * esz)).map fun i => z.getD (i % z.length) .any)) else none
    | _, _ => none
  | .slcs x lo hi => match ev t x with
    | .d (.str s) => match bndA (lo.map (ev t)) 0, bndA (hi.map (ev t)) s.length with
      | some l, some h => if l ≤ h ∧ h ≤ s.length then some (.d (.str ((s.take h).drop l)), .nil) else none
      | _, _ => none
    | _ => none
  | .slcl esz x lo hi => match lenA (ev t x) with
    | some len => match bndA (lo.map (ev t)) 0, bndA (hi.map (ev t)) len with
      | some l, some h => (slcA esz l h len (ev t x)).map fun v => (v, .nil)
      | _, _ => none
    | none => none
  | .faddr x off => match ev t x with
    | .ptr id o => some (.ptr id (o + off), .nil)
    | .dptr cs => some (.dptr (cs.drop off), .nil)
    | _ => none
  | .fld x off k => match ev t x with
    | .agg cs => (loadA k (cs.drop off)).map fun v => (v, .nil)
    | _ => none
  | .iaddr esz n x i => match ev t x, ev t i with
    | .ptr id o, .d (.int _ i) => match n with
      | some n => if 0 ≤ i ∧ i < n then some (.ptr id (o + i.toNat * esz), .nil) else none
      | none => none
    | .dptr cs, .d (.int _ i) => match n with
      | some n => if 0 ≤ i ∧ i < n then some (.dptr (cs.drop (i.toNat * esz)), .nil) else none
      | none => none
    | .sl id e off len, .d (.int _ i) => if n = none ∧ e = esz ∧ 0 ≤ i ∧ i < len then some (.ptr id (off + i.toNat * esz), .nil) else none
    | .d (.sl len cs), .d (.int _ i) => if n = none ∧ 0 ≤ i ∧ i < len ∧ i.toNat * esz < cs.length then some (.dptr (cs.drop (i.toNat * esz)), .nil) else none
    | _, _ => none
  | .idxs x i => match ev t x, ev t i with
    | .d (.str s), .d (.int _ i) => if 0 ≤ i ∧ i < s.length then some (.d (.int .u8 (s.getD i.toNat 0).toNat), .nil) else none
    | _, _ => none
  | .idxa n esz k x i => match ev t x, ev t i with
    | .agg cs, .d (.int _ i) => if 0 ≤ i ∧ i < n then (loadA k (cs.drop (i.toNat * esz))).map fun v => (v, .nil) else none
    | _, _ => none
  | .ext x i => match ev t x with
    | .tup vs => vs[i]?.map fun v => (v, .nil)
    | _ => none
  | .lens x => match ev t x with
    | .d (.str s) => some (.d (.int .i64 (s.length : Int)), .nil)
    | _ => none
  | .lenl x => (lenA (ev t x)).map fun (l : Nat) => (.d (.int .i64 (l : Int)), .nil)
  | .minI x y => match ev t x, ev t y with
    | .d (.int k a), .d (.int _ b) => some (.d (.int k (if b < a then b else a)), .nil)
    | _, _ => none
  | .maxI x y => match ev t x, ev t y with
    | .d (.int k a), .d (.int _ b) => some (.d (.int k (if a < b then b else a)), .nil)
    | _, _ => none
  | .app esz bytes x y => match elemsOf m esz (ev t y) with
    | some (k, new) =>
      match ev t x with
      | .d .nsl => if k * bytes ≤ 140737488351232 then (if k = 0 then some (.d .nsl, .nil) else some (.sl n esz 0 k, .new new)) else none
      | .sl id e off len => match mget m id with
        | some cs => if e = esz ∧ off + len * esz = cs.length ∧ (len + k) * bytes ≤ 140737488351232 then
            (if k = 0 then some (.sl id esz off len, .nil) else if off = 0 then some (.sl n esz 0 (len + k), .mov id (cs ++ new)) else none) else none
        | none => none
      | _ => none
    | none => none
  | .callf _ _ => none
  | .callv _ _ => none

/-! ### From the model's operations -/

def cval1 : Value → AV
  | .bool b => .d (.bool b)
  | .int k n => .d (.int k n)
  | .string s => .d (.str s.data.toList)
  | .pointer none => .d .nptr
  | .slice none 0 0 => .d .nsl
  | .nilFunc => .d .nfn
  | .nilIface => .d .nif
  | _ => .any

def cval : Value → AV
  | .agg cs => .agg (cs.toList.map cval1)
  | v => cval1 v

def cOpd : Operand → Opd
  | .tmp t => .t t
  | .const v => .c (cval v)
  | .func f => .c (.fn f [])
  | .global _ => .c .any

/-- How many cells a variable of the type is loaded as: none: one cell. -/
def ldk (P : Program) (t : TypeId) : Option (Option Nat) :=
  match P.info? t, P.underlying t with
  | some i, some (.struct _) => some (some i.size)
  | some i, some (.array _ _) => some (some i.size)
  | some _, some _ => some none
  | _, _ => none

def zeroOf (P : Program) (t : TypeId) : Option (List AV) :=
  match P.info? t with
  | some i => match i.zero with
    | some z => some (z.cells.toList.map cval1)
    | none => none
  | none => none

def fieldPlace' (P : Program) (fs : Array Field) (f : Nat) : Option (Nat × Nat) :=
  match fs[f]? with
  | some fd => match P.info? fd.type with
    | some i => some (fd.offset, i.size)
    | none => none
  | none => none

def partsOf (place : Nat → Option (Nat × Nat)) : List (Nat × Operand) → Option (List (Nat × Nat × Opd))
  | [] => some []
  | (i, x) :: r => match place i, partsOf place r with
    | some (off, size), some r' => some ((off, size, cOpd x) :: r')
    | _, _ => none

/-- The kinds of the fields' cells of a struct all of whose cells are plain, from offset 'acc' on. -/
def flatFs (P : Program) (sz : TypeId → Option (List Nat)) : List Field → Nat → Option (List Nat)
  | [], _ => some []
  | f :: r, acc => match sz f.type with
    | some s => if f.name ≠ "_" ∧ f.offset = acc ∧ (P.info? f.type).map (·.size) = some s.length then (flatFs P sz r (acc + s.length)).map (s ++ ·) else none
    | none => none

/-- All cells of the type are plain: numbers, bools, strings: their kinds. -/
def flatSz (P : Program) : Nat → TypeId → Option (List Nat)
  | 0, _ => none
  | d + 1, t => match P.underlying t with
    | some (.int _) => some [0]
    | some .bool => some [1]
    | some .string => some [2]
    | some (.struct fs) => if P.stoodInHeld t then none else flatFs P (flatSz P d) fs.toList 0
    | _ => none

def goesB (P : Program) (f : Nat) : Bool :=
  match P.funcs[f]? with
  | some fn => fn.body.isSome && fn.name != "runtime.NumGoroutine"
  | none => false

def isIntD : TypeDesc → Bool
  | .int _ => true
  | _ => false

def cBuiltin (P : Program) (b : Builtin) (ts : Array TypeId) (args : Array Operand) : Option AOp :=
  match b, ts.toList, args.toList with
  | .len, [t], [x] => match P.underlying t with
    | some .string => some (.lens (cOpd x))
    | some (.slice _) => some (.lenl (cOpd x))
    | some (.array n _) => some (.mv (.c (.d (.int .i64 n))))
    | _ => none
  | .append, [s, t], [x, y] => match P.underlying s, P.underlying t with
    | some (.slice e), some u => if isIntD u = true then none else match P.info? e with
      | some i => match i.zero with
        | some z => if z.cells.size = i.size ∧ i.bytes ≠ 0 then some (.app i.size i.bytes (cOpd x) (cOpd y)) else none
        | none => none
      | none => none
    | _, _ => none
  | .min, _, [x, y] => some (.minI (cOpd x) (cOpd y))
  | .max, _, [x, y] => some (.maxI (cOpd x) (cOpd y))
  | _, _, _ => none

def cOp (P : Program) : Op → Option AOp
  | .move x => some (.mv (cOpd x))
  | .assign x => some (.mv (cOpd x))
  | .pick c a b => some (.pick (cOpd c) (cOpd a) (cOpd b))
  | .alloc e => (zeroOf P e).map .alloc
  | .box _ x => some (.box (cOpd x))
  | .build t ps => match P.underlying t, zeroOf P t with
    | some (.struct fs), some z => if (fs.all fun f => (P.info? f.type).isSome) then (partsOf (fieldPlace' P fs) ps.toList).map (.build z) else none
    | some (.array _ e), some z => match P.info? e with
      | some i => (partsOf (fun j => some (j * i.size, i.size)) ps.toList).map (.build z)
      | none => none
    | _, _ => none
  | .buildSlice t len ps => match P.underlying t with
    | some (.slice e) => match P.info? e, zeroOf P e with
      | some i, some z => if z.length = i.size ∧ len * i.size ≤ 2 ^ 24 then
          (partsOf (fun j => some (j * i.size, i.size)) ps.toList).map (.bslice i.size len ((List.range (len * i.size)).map fun j => z.getD (j % z.length) .any)) else none
      | _, _ => none
    | _ => none
  | .load t a => (ldk P t).map fun k => .load k (cOpd a)
  | .store t a v => (P.info? t).map fun i => .store i.size (cOpd a) (cOpd v)
  | .nilCheck x => some (.nilck (cOpd x))
  | .binOp op t x y _ =>
    match P.underlying t with
    | some (.int _) => some (.bin op (cOpd x) (cOpd y))
    | some .string => some (.bin op (cOpd x) (cOpd y))
    | some .bool => match op with
      | .eql => some (.eqb false (cOpd x) (cOpd y))
      | .neq => some (.eqb true (cOpd x) (cOpd y))
      | _ => none
    | some (.pointer _) => match op with
      | .eql => some (.eqp false (cOpd x) (cOpd y))
      | .neq => some (.eqp true (cOpd x) (cOpd y))
      | _ => none
    | some (.func ..) => match op with
      | .eql => some (.eqf false (cOpd x) (cOpd y))
      | .neq => some (.eqf true (cOpd x) (cOpd y))
      | _ => none
    | some (.struct _) => match flatSz P 20 t with
      | some s => if P.eqGuardType P.depth t then none else match op with
        | .eql => some (.eqs s false (cOpd x) (cOpd y))
        | .neq => some (.eqs s true (cOpd x) (cOpd y))
        | _ => none
      | none => none
    | _ => none
  | .unOp op _ x => some (.un op (cOpd x))
  | .convert s d x => match P.underlying s, P.underlying d with
    | some (.int _), some (.int k) => some (.cvi k (cOpd x))
    | some (.int _), some .string => some (.cvrune (cOpd x))
    | some .string, some .string => some (.cvrune (cOpd x))
    | some (.slice e), some .string => match P.underlying e with
      | some (.int .u8) => some (.cvbs (cOpd x))
      | _ => none
    | some .string, some (.slice e) => match P.underlying e with
      | some (.int .u8) => some (.cvsb (cOpd x))
      | _ => none
    | some (.slice _), some (.slice e) => if s = d then (match P.underlying e with
      | some (.int .u8) => some (.cvll (cOpd x))
      | _ => none) else none
    | _, _ => none
  | .makeFunc (.func f) first caps => if first.isEmpty then some (.mkfn f (caps.toList.map cOpd)) else none
  | .makeSlice t l c => match P.underlying t with
    | some (.slice e) => match P.info? e, zeroOf P e with
      | some i, some z => if z.length = i.size ∧ z.length ≠ 0 then some (.mksl i.size i.bytes z (cOpd l) (cOpd c)) else none
      | _, _ => none
    | _ => none
  | .slice t x lo hi none => match P.underlying t with
    | some .string => some (.slcs (cOpd x) (lo.map cOpd) (hi.map cOpd))
    | some (.slice e) => match P.info? e with
      | some i => some (.slcl i.size (cOpd x) (lo.map cOpd) (hi.map cOpd))
      | none => none
    | _ => none
  | .fieldAddr s x f => match P.underlying s with
    | some (.struct fs) => match fieldPlace' P fs f with
      | some (off, size) => if size = 0 then none else some (.faddr (cOpd x) off)
      | none => none
    | _ => none
  | .field s x f => match P.underlying s with
    | some (.struct fs) => match fs[f]? with
      | some fd => (ldk P fd.type).map fun k => .fld (cOpd x) fd.offset k
      | none => none
    | _ => none
  | .indexAddr t x i => match P.underlying t with
    | some (.slice e) => (P.info? e).map fun i' => .iaddr i'.size none (cOpd x) (cOpd i)
    | some (.array n e) => (P.info? e).map fun i' => .iaddr i'.size (some n) (cOpd x) (cOpd i)
    | _ => none
  | .index t x i => match P.underlying t with
    | some .string => some (.idxs (cOpd x) (cOpd i))
    | some (.array n e) => match P.info? e, ldk P e with
      | some i', some k => some (.idxa n i'.size k (cOpd x) (cOpd i))
      | _, _ => none
    | _ => none
  | .extract x i => some (.ext (cOpd x) i)
  | .call c => match c.callee with
    | .builtin b => cBuiltin P b c.argTypes c.args
    | .value (.func f) => if goesB P f then some (.callf f (c.args.toList.map cOpd)) else none
    | .value x => some (.callv (cOpd x) (c.args.toList.map cOpd))
    | .invoke _ _ => none
  | _ => none

def cGuard (ops : Array Oper) : Option (Nat × Bool) → Option (Option (Nat × Bool))
  | none => some none
  | some (j, w) => match ops[j]? with
    | some o => match o.dst with
      | some d => some (some (d, w))
      | none => none
    | none => none

def dstOk (k : Nat) : Option Nat → Bool
  | some d => decide (d < k)
  | none => true

def cOper (P : Program) (ops : Array Oper) (k : Nat) (o : Oper) : Option AOper :=
  match cOp P o.op, cGuard ops o.guard with
  | some a, some g => if dstOk k o.dst = true then some ⟨o.dst, a, g⟩ else none
  | _, _ => none

def cOpers (P : Program) (ops : Array Oper) (k : Nat) : List Oper → Option (List AOper)
  | [] => some []
  | o :: r => match cOper P ops k o, cOpers P ops k r with
    | some a, some r' => some (a :: r')
    | _, _ => none

end Go.Jq
