import Derived.Test.YtbanmblbgoajdaaWhRow
set_option linter.unusedVariables false
namespace Go.Sx
open Go.RowKit

abbrev wr (n : Int) : Int := IntKind.i64.wrap n

/-! ### The pool of cells, as plain data -/
structure Rf where
  ix : Int
  gen : Int
  deriving DecidableEq
def rfC (r : Rf) : List Value := [iV r.ix, iV r.gen]
structure Cell (T : Type) where
  v : T
  gen : Int
  live : Bool
structure Pool (T : Type) where
  cells : List (Cell T)
  free : List Int
  cap : Int
  held : Int
  visits : Int

def cellCd {T : Type} (C : Codec T) : Codec (Cell T) where
  size := C.size + 2
  enc c := C.enc c.v ++ [iV c.gen, .bool c.live]
  len c := by simp [C.len]
  one c v hv := by
    rcases List.mem_append.1 hv with h | h
    · exact C.one _ v h
    · simp at h; rcases h with rfl | rfl <;> rfl
def intCd : Codec Int where
  size := 1
  enc n := [iV n]
  len _ := rfl
  one n v hv := by simp at hv; subst hv; rfl

namespace Pool
variable {T : Type}
def find (σ : Pool T) (r : Rf) : Option Nat :=
  if r.ix < 0 then none else match σ.cells[r.ix.toNat]? with
    | none => none
    | some c => if c.live = true ∧ c.gen = r.gen then some r.ix.toNat else none
def visit (σ : Pool T) : Pool T := { σ with visits := wr (σ.visits + 1) }
def get (σ : Pool T) (z : T) (r : Rf) : (T × Bool) × Pool T :=
  match σ.find r with
  | none => ((z, false), σ)
  | some i => ((((σ.cells[i]?).map (·.v)).getD z, true), σ.visit)
def setAt (σ : Pool T) (i : Nat) (f : Cell T → Cell T) : Pool T := { σ with cells := σ.cells.modify i f }
def set (σ : Pool T) (r : Rf) (v : T) : Bool × Pool T :=
  match σ.find r with
  | none => (false, σ)
  | some i => (true, (σ.visit).setAt i fun c => { c with v := v })
def drop (σ : Pool T) (z : T) (r : Rf) : (T × Bool) × Pool T :=
  match σ.find r with
  | none => ((z, false), σ)
  | some i =>
    let σ1 := (σ.visit).setAt i fun c => { v := z, gen := c.gen, live := false }
    (((((σ.cells[i]?).map (·.v)).getD z), true), { σ1 with held := wr (σ.held - 1), free := if r.gen < 4294967295 then σ.free ++ [r.ix] else σ.free })
/-- The cell that is used next. -/
def next (σ : Pool T) (z : T) : Int × Pool T :=
  match σ.free.getLast? with
  | some i => (i, { σ with free := σ.free.dropLast })
  | none => ((σ.cells.length : Int), { σ with cells := σ.cells ++ [⟨z, 0, false⟩] })
def put (σ : Pool T) (z v : T) : (Rf × Bool) × Pool T :=
  if σ.held = σ.cap then ((⟨0, 0⟩, false), σ) else
    let n := σ.next z
    let g := wr (((n.2.cells[n.1.toNat]?).map (·.gen)).getD 0 + 1)
    ((⟨n.1, g⟩, true), { (n.2.setAt n.1.toNat fun _ => { v := v, gen := g, live := true }) with held := wr (σ.held + 1) })
end Pool

/-! ### Its functions' trees -/
structure PI (T : Type) where
  c : Cfg
  C : Codec T
  z : T
  tI : TypeId
  tB : TypeId
  tIS : TypeId
  tS : TypeId
  tN : TypeId
  tC : TypeId
  tP : TypeId
  fFind : FuncId
  fGet : FuncId
  fSet : FuncId
  fNext : FuncId
  fPut : FuncId
  fDrop : FuncId
  fVisits : FuncId
  fNew : FuncId

def eN {T : Type} (I : PI T) : Enc := eAg T I.C.enc
def eOA : Enc := ⟨Option Addr, fun x => .pointer (x.map id)⟩
def aa (a : Addr) (k : Nat) : Value := .pointer (some (a.add k))

section
variable {T : Type} (I : PI T)
def findT (t : Nat) (r : Rf) : Tree :=
  .ite (decide (r.ix < 0)) (.endS (.ret (.pointer none)))
    (.loadS 9 (Instr.loadAt I.tS (pa t 0)) eSl fun (s : Sl) => .endS (.ite (decide (r.ix ≥ (s.n : Int))) (.ret (.pointer none))
      (.loadS 3 (Instr.loadAt I.tS (pa t 0)) eSl fun (s : Sl) => .loadS 6 (Instr.indexAt I.tS (slV s) (iV r.ix)) eAddr fun (a : Addr) => .endS
        (.loadS 3 (Instr.loadAt I.tB (aa a (I.C.size + 1))) eBool fun (lv : Bool) => .ite (!lv) (.endS (.ret (.pointer none)))
          (.loadS 9 (Instr.loadAt I.tI (aa a I.C.size)) eInt fun (g : Int) => .endS (.ite (g != r.gen) (.ret (.pointer none))
            (.prim (Instr.loadAt I.tI (pa t 4)) [] eInt fun (x : Int) => .primU (Instr.storeAt I.tI (pa t 4) (iV (wr (x + 1)))) [] (.ret (.pointer (some a))))))))))
def getT (t : Nat) (r : Rf) : Tree :=
  .call I.fFind [pa t 0, ag (rfC r)].toArray [] eOA fun (x : Option Addr) => optCase x (.ret (.tuple #[ag (I.C.enc I.z), .bool false])) fun a =>
    .prim (Instr.loadAt I.tN (aa a 0)) [] (eN I) fun (v : T) => .ret (.tuple #[ag (I.C.enc v), .bool true])
def setT (t : Nat) (r : Rf) (v : T) : Tree :=
  .call I.fFind [pa t 0, ag (rfC r)].toArray [] eOA fun (x : Option Addr) => optCase x (.ret (.bool false)) fun a =>
    .primU (Instr.storeAt I.tN (aa a 0) (ag (I.C.enc v))) [] (.ret (.bool true))
def nextT (t : Nat) : Tree :=
  .prim (Instr.loadAt I.tIS (pa t 1)) [] eSl fun (s : Sl) => .ite (decide (wr ((s.n : Int) - 1) ≥ 0))
    (.prim (Instr.loadAt I.tIS (pa t 1)) [] eSl fun (s1 : Sl) => .prim (Instr.indexAt I.tIS (slV s1) (iV (wr ((s.n : Int) - 1)))) [] eAddr fun (a : Addr) =>
      .prim (Instr.loadAt I.tI (.pointer (some a))) [] eInt fun (i : Int) => .prim (Instr.loadAt I.tIS (pa t 1)) [] eSl fun (s2 : Sl) =>
      .prim (Instr.sliceAt I.tIS (slV s2) none (some (iV (wr ((s.n : Int) - 1)))) none) [] eSl fun (s3 : Sl) => .primU (Instr.storeAt I.tIS (pa t 1) (slV s3)) [] (.ret (iV i)))
    (.prim (Instr.loadAt I.tS (pa t 0)) [] eSl fun (s : Sl) => .append #[I.tS, I.tS] I.tS (slV s) I.tC 1 (I.C.enc I.z ++ [iV 0, .bool false]) [] eSl fun (y : Sl) =>
      .primU (Instr.storeAt I.tS (pa t 0) (slV y)) [] (.prim (Instr.loadAt I.tS (pa t 0)) [] eSl fun (s : Sl) => .ret (iV (wr ((s.n : Int) - 1)))))
def putT (t : Nat) (v : T) : Tree :=
  .loadS 3 (Instr.loadAt I.tI (pa t 3)) eInt fun (h : Int) => .loadS 7 (Instr.loadAt I.tI (pa t 2)) eInt fun (cp : Int) => .endS (.ite (h == cp) (.ret (.tuple #[ag [iV 0, iV 0], .bool false]))
    (.call I.fNext [pa t 0].toArray [] eInt fun (i : Int) => .prim (Instr.loadAt I.tS (pa t 0)) [] eSl fun (s : Sl) => .prim (Instr.indexAt I.tS (slV s) (iV i)) [] eAddr fun (a : Addr) =>
      .primU (Instr.storeAt I.tN (aa a 0) (ag (I.C.enc v))) [] (.primU (Instr.storeAt I.tB (aa a (I.C.size + 1)) (.bool true)) []
      (.prim (Instr.loadAt I.tI (aa a I.C.size)) [] eInt fun (g : Int) => .primU (Instr.storeAt I.tI (aa a I.C.size) (iV (wr (g + 1)))) []
      (.prim (Instr.loadAt I.tI (pa t 3)) [] eInt fun (h : Int) => .primU (Instr.storeAt I.tI (pa t 3) (iV (wr (h + 1)))) []
      (.prim (Instr.loadAt I.tI (aa a I.C.size)) [] eInt fun (g : Int) => .ret (.tuple #[ag [iV i, iV g], .bool true])))))))
def dropT (t : Nat) (r : Rf) : Tree :=
  .call I.fFind [pa t 0, ag (rfC r)].toArray [] eOA fun (x : Option Addr) => optCase x (.ret (.tuple #[ag (I.C.enc I.z), .bool false])) fun a =>
    .prim (Instr.loadAt I.tN (aa a 0)) [] (eN I) fun (v : T) => .prim (Instr.loadAt I.tI (aa a I.C.size)) [] eInt fun (g : Int) =>
    .primU (Instr.storeAt I.tC (.pointer (some a)) (ag (I.C.enc I.z ++ [iV g, .bool false]))) []
    (.prim (Instr.loadAt I.tI (pa t 3)) [] eInt fun (h : Int) => .primU (Instr.storeAt I.tI (pa t 3) (iV (wr (h - 1)))) []
    (.prim (Instr.loadAt I.tI (aa a I.C.size)) [] eInt fun (g : Int) => .ite (decide (g < 4294967295))
      (.loadS 4 (Instr.loadAt I.tIS (pa t 1)) eSl fun (s : Sl) => .append #[I.tIS, I.tIS] I.tIS (slV s) I.tI 1 [iV r.ix] [] eSl fun (y : Sl) =>
        .primU (Instr.storeAt I.tIS (pa t 1) (slV y)) [] (.endS (.ret (.tuple #[ag (I.C.enc v), .bool true]))))
      (.ret (.tuple #[ag (I.C.enc v), .bool true]))))
def visitsT (t : Nat) : Tree := .prim (Instr.loadAt I.tI (pa t 4)) [] eInt fun (x : Int) => .ret (iV x)
end
end Go.Sx
