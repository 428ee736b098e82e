/- A test as plain data, and its cells. -/
import Derived.Test.YtgfkgngpganllaaDoorXG
namespace Go.Proofs.YtgfkgngpganllaaDoor
open Go Go.Jq

structure Atom where
  thread : Int
  reg : Int
  loc : Int
  value : Int

def Atom.cells (a : Atom) : List DV := [.int .i64 a.thread, .int .i64 a.reg, .int .i64 a.loc, .int .i64 a.value]

structure Opnd where
  reg : Int
  value : Int

def Opnd.cells (o : Opnd) : List DV := [.int .i64 o.reg, .int .i64 o.value]

structure Ins where
  kind : Int
  reg : Int
  loc : Int
  a : Opnd
  op : Int
  b : Opnd
  n : Int

def Ins.cells (i : Ins) : List DV := [.int .i64 i.kind, .int .i64 i.reg, .int .i64 i.loc, .int .i64 i.a.reg, .int .i64 i.a.value, .int .i64 i.op, .int .i64 i.b.reg, .int .i64 i.b.value, .int .i64 i.n]

structure Init where
  loc : Int
  value : Int

def Init.cells (i : Init) : List DV := [.int .i64 i.loc, .int .i64 i.value]

structure Test where
  name : List UInt8
  inits : List Init
  threads : List (List Ins)
  kind : Int
  rows : List (List Atom)

/-- A test as data. -/
def IsTest (t : Test) (cs : List DV) : Prop := ∃ I T A, cs = [.str t.name, I, T, .int .i64 t.kind, A] ∧ IsSl Init.cells t.inits I ∧ IsSl2 Ins.cells t.threads T ∧ IsSl2 Atom.cells t.rows A

theorem init_len (i : Init) : (Init.cells i).length = 2 := rfl
theorem ins_len (i : Ins) : (Ins.cells i).length = 9 := rfl
theorem atom_len (i : Atom) : (Atom.cells i).length = 4 := rfl

end Go.Proofs.YtgfkgngpganllaaDoor
