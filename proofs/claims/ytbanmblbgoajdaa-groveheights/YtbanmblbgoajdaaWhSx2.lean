import Derived.Test.YtbanmblbgoajdaaWhSx1
import Derived.Deep.MidRow
import Derived.Laws.CopyRow
namespace Go.Sx
open Go.RowKit

/-- How a result is read: its type, its value, and the cases in which it is handed on. -/
structure Hint : Type 2 where
  E : Enc
  cs : {β : Type 1} → E.T → (SV → β) → β
  law : ∀ {β : Type 1} (x : E.T) (K : SV → β), cs x K = K (.v (E.enc x))

def Hint.of (T : Type) (enc : T → Value) : Hint := ⟨⟨T, enc⟩, fun x K => K (.v (enc x)), fun _ _ => rfl⟩
def optCase {T : Type} {β : Type 1} (x : Option T) (n : β) (s : T → β) : β :=
  match x with
  | none => n
  | some a => s a
/-- A pointer that may be nil: both cases apart. -/
def Hint.opt (T : Type) (enc : T → Addr) : Hint :=
  ⟨⟨Option T, fun x => .pointer (x.map enc)⟩, fun x K => optCase x (K (.v (.pointer none))) fun a => K (.v (.pointer (some (enc a)))), fun x _ => by cases x <;> rfl⟩

def hAddr : Hint := Hint.of Addr fun a => .pointer (some a)
def hBlk : Hint := Hint.of Nat fun b => .pointer (some ⟨b, 0, none⟩)

structure Cfg : Type 2 where
  P : Program
  hint : TypeId → Option Hint
  res : FuncId → Option Hint
  pure : FuncId → Option (List Value → Option Value)
  meth : TypeId → String → Option FuncId

/-- What belongs to one function: slots whose memory is handed out; its loops' words, by the number of the block around each. -/
structure Fc where
  esc : List Nat := []
  lh : List (Nat × LHint) := []

def pureRun {α : Type} (P : Program) : Sem α → Option α
  | .pure a => some a
  | .program k => pureRun P (k P)
  | _ => none

theorem pureRun_run {α : Type} {P : Program} : ∀ (m : Sem α) (a : α), pureRun P m = some a → ∀ w, m.run P w = .ok a w := by
  intro m
  induction m with
  | pure a => intro b h w; simp only [pureRun, Option.some.injEq] at h; subst h; rfl
  | program k ih => intro b h w; exact ih P b h w
  | _ => intro b h; simp [pureRun] at h

def svO (s : List SV) : Operand → SV
  | .tmp t => match s[t]? with
    | some (.box _ _) => .loc t 0
    | some (.row _ _ _) => .any
    | some x => x
    | none => .any
  | .const (.bool b) => .lit b
  | .const v => .v v
  | .global g => .v (.pointer (some ⟨g, 0, none⟩))
  | .func f => .v (.func (.func f) #[] #[])

def plain : SV → Option Value
  | .v x => some x
  | .lit b => some (.bool b)
  | _ => none

def plains (s : List SV) (xs : List Operand) : Option (List Value) := xs.mapM fun x => plain (svO s x)

inductive Out : Type 2 where
  | upd (d : Nat) (v : SV)
  | nop
  | scrub (d : Nat) (v : SV)
  | split (d : Nat) (b : Bool)
  | pcall (f : FuncId) (args : List Value) (v : Value)
  | call (f : FuncId) (args : List Value) (H : Hint)
  | prim (m : Sem Value) (H : Hint)
  | primU (m : Sem Unit)
  | append (tys : Array TypeId) (ty : TypeId) (x : Value) (e : TypeId) (n : Nat) (cells : List Value) (H : Hint)
  | loadS (m : Sem Value) (H : Hint)

def isBox : SV → Bool
  | .box _ _ | .row _ _ _ => true
  | _ => false

def isAggT (P : Program) (t : TypeId) : Option Bool :=
  match P.underlying t with
  | some (.struct _) | some (.array _ _) => some true
  | some _ => some false
  | none => none

def isIntT (P : Program) (t : TypeId) : Bool :=
  match P.underlying t with
  | some (.int _) => true
  | _ => false
def isScalT (P : Program) (t : TypeId) : Bool :=
  match P.underlying t with
  | some (.int _) | some .bool | some .string => true
  | _ => false
def isPtrT (P : Program) (t : TypeId) : Bool :=
  match P.underlying t with
  | some (.pointer _) => true
  | _ => false
def isMapT (P : Program) (t : TypeId) : Bool :=
  match P.underlying t with
  | some (.map _ _) => true
  | _ => false
def isNilC : Operand → Bool
  | .const (.pointer none) => true
  | _ => false
def isConstO : Operand → Bool
  | .const _ => true
  | _ => false

def opOk (op : BinOp) (y : Operand) : Bool := match op with
  | .quo | .rem | .shl | .shr => isConstO y
  | _ => true

def sizeT (P : Program) (t : TypeId) : Option Nat := (P.info? t).map (·.size)
def zeroT (P : Program) (t : TypeId) : Option Value := (P.info? t).bind (·.zero)

/-- The operation done on plain values alone. -/
def runPure (P : Program) (s : List SV) (o : Oper) : Option Value :=
  match plains s o.op.operands.toList with
  | none => none
  | some _ => match pureRun P (execOp (fun x => (plain (svO s x)).getD undef) o) with
    | some (.value v) => some v
    | _ => none

def mkUpd (dst : Option Nat) (v : SV) : Out := match dst with
  | some d => .upd d v
  | none => .nop

/-- What only looks: in a region of open order it may come later. -/
def rd (drawn : Bool) (m : Sem Value) (H : Hint) : Out := if drawn then .loadS m H else .prim m H

def goCall (c : Cfg) (f : FuncId) (args : List Value) : Option Out :=
  match c.pure f with
  | some g => (g args).map (.pcall f args)
  | none => (c.res f).map (.call f args)

/-- The cells of a slice that is written out. -/
def rowCells (P : Program) (t : TypeId) (len : Nat) (parts : List (Nat × Value)) : Option (Array Value × TypeId) :=
  match P.underlying t with
  | some (.slice e) => match sizeT P e with
    | some size => if Nat.ble (len * size) (2 ^ 24) then
        match (if Nat.beq (len * size) 0 then some #[] else (zeroT P e).map Value.cells) with
        | some zero => match Instr.fill (fun i => some (i * size, size)) ((Array.range (len * size)).map (zero[· % zero.size]!)) parts with
          | some cells => some (cells, e)
          | none => none
        | none => none
      else none
    | none => none
  | _ => none

def callOut (c : Cfg) (drawn : Bool) (s : List SV) (o : Oper) (cl : Call) : Option Out :=
  match cl.callee with
  | .builtin .len => if isMapT c.P (cl.argTypes.getD 0 0) then (match plains s cl.args.toList with
        | some xs => (c.hint o.type).map (rd drawn (Builtin.len_ cl.argTypes o.type xs.toArray))
        | none => none)
      else (runPure c.P s o).map fun v => mkUpd o.dst (.v v)
  | .builtin .append => match cl.args.toList with
    | [x, y] => match plain (svO s x) with
      | none => none
      | some xv =>
        match (match y with | .tmp t => s[t]? | _ => none) with
        | some (.row e n cells) => (c.hint o.type).map (.append cl.argTypes o.type xv e n cells)
        | _ => match plain (svO s y) with
          | some yv => (c.hint o.type).map (.prim (Builtin.append_ cl.argTypes o.type #[xv, yv]))
          | none => none
    | _ => none
  | .builtin .min => match plains s cl.args.toList with
    | some xs => (c.hint o.type).map (rd drawn (Builtin.min_ cl.argTypes o.type xs.toArray))
    | none => none
  | .builtin .max => match plains s cl.args.toList with
    | some xs => (c.hint o.type).map (rd drawn (Builtin.max_ cl.argTypes o.type xs.toArray))
    | none => none
  | .builtin .copy => match plains s cl.args.toList with
    | some xs => (c.hint o.type).map (.prim (Builtin.copy_ cl.argTypes o.type xs.toArray))
    | none => none
  | .builtin .delete => match plains s cl.args.toList with
    | some xs => (c.hint o.type).map (.prim (Builtin.delete_ cl.argTypes o.type xs.toArray))
    | none => none
  | .builtin .clear => match plains s cl.args.toList with
    | some xs => (c.hint o.type).map (.prim (Builtin.clear_ cl.argTypes o.type xs.toArray))
    | none => none
  | .builtin _ => none
  | .value f => match plain (svO s f), plains s cl.args.toList with
    | some (.func (.func fid) first cap), some xs => goCall c fid (first.toList ++ xs ++ cap.toList)
    | _, _ => none
  | .invoke r name => match plain (svO s r), plains s cl.args.toList with
    | some (.iface t v), some xs => match c.meth t name with
      | some fid => goCall c fid (v :: xs)
      | none => none
    | _, _ => none

def splice (cells : List Value) (off : Nat) (vs : List Value) : List Value := cells.take off ++ vs ++ cells.drop (off + vs.length)

/-- What an operation comes to (its guard let by). root: the slot whose box it may look into. drawn: in a region of open order. -/
def mainOut (c : Cfg) (fc : Fc) (drawn : Bool) (root : Nat) (s : List SV) (o : Oper) : Option Out :=
  match o.op with
  | .box ty x => match o.dst, plain (svO s x) with
    | some d, some v =>
      if fc.esc.contains d then some (.prim (Instr.box ty v) hBlk)
      else match s[d]? with
        | some (.box _ _) => if drawn then none else some (.scrub d (.box ty v.cells.toList))
        | some (.row _ _ _) => none
        | some _ => some (.upd d (.box ty v.cells.toList))
        | none => none
    | _, _ => none
  | .alloc ty => match o.dst with
    | some d =>
      if fc.esc.contains d then some (.prim (Instr.alloc ty true (.tuple #[])) hBlk)
      else match zeroT c.P ty with
        | some z => match s[d]? with
          | some (.box _ _) => if drawn then none else some (.scrub d (.box ty z.cells.toList))
          | some (.row _ _ _) => none
          | some _ => some (.upd d (.box ty z.cells.toList))
          | none => none
        | none => none
    | none => none
  | .load t a => match svO s a with
    | .loc j off => if j == root then match s[j]? with
        | some (.box _ cells) => match isAggT c.P t, sizeT c.P t with
          | some true, some n => if off + n ≤ cells.length then some (mkUpd o.dst (.v (.agg ((cells.drop off).take n).toArray))) else none
          | some false, some 1 => match cells[off]? with
            | some v => some (mkUpd o.dst (.v v))
            | none => none
          | _, _ => none
        | _ => none
      else none
    | .v p => match c.hint t with
      | some H => some (rd drawn (Instr.loadAt t p) H)
      | none => none
    | _ => none
  | .store t a x => match svO s a, plain (svO s x) with
    | .loc j off, some v => if j == root then match s[j]? with
        | some (.box ty cells) =>
          if v.cells.size == (sizeT c.P t).getD 0 && (sizeT c.P t).isSome && Nat.ble (off + v.cells.size) cells.length && v.cells.all (·.oneCell') then some (.upd j (.box ty (splice cells off v.cells.toList))) else none
        | _ => none
      else none
    | .v p, some v => some (.primU (Instr.storeAt t p v))
    | _, _ => none
  | .fieldAddr st a f => match svO s a with
    | .loc j off => match c.P.underlying st with
      | some (.struct fs) => match fs[f]? with
        | some fd => match sizeT c.P fd.type with
          | some (_ + 1) => some (mkUpd o.dst (.loc j (off + fd.offset)))
          | _ => none
        | none => none
      | _ => none
    | .v _ => (runPure c.P s o).map fun v => mkUpd o.dst (.v v)
    | _ => none
  | .move x | .assign x => match svO s x with
    | .any => none
    | sv => some (mkUpd o.dst sv)
  | .nilCheck x => match svO s x with
    | .loc j off => some (mkUpd o.dst (.loc j off))
    | .v _ => (runPure c.P s o).map fun v => mkUpd o.dst (.v v)
    | _ => none
  | .pick x a b => match svO s x with
    | .lit true => match svO s a with
      | .any => none
      | sv => some (mkUpd o.dst sv)
    | .lit false => match svO s b with
      | .any => none
      | sv => some (mkUpd o.dst sv)
    | _ => none
  | .unOp .not _ x => match svO s x with
    | .lit b => some (mkUpd o.dst (.lit (match b with | true => false | false => true)))
    | _ => (runPure c.P s o).map fun v => mkUpd o.dst (.v v)
  | .binOp op t x y _ =>
    if isNilC y && isPtrT c.P t then
      match op, plain (svO s x) with
      | .eql, some (.pointer none) => some (mkUpd o.dst (.lit true))
      | .eql, some (.pointer (some _)) => some (mkUpd o.dst (.lit false))
      | .neq, some (.pointer none) => some (mkUpd o.dst (.lit false))
      | .neq, some (.pointer (some _)) => some (mkUpd o.dst (.lit true))
      | _, _ => none
    else if isScalT c.P t && opOk op y then (runPure c.P s o).map fun v => mkUpd o.dst (.v v)
    else match plain (svO s x), plain (svO s y) with
      | some a, some b => match c.hint o.type with
        | some H => some (rd drawn (do eqGuard op t x y a b; binOp op t a b) H)
        | none => none
      | _, _ => none
  | .convert a b x => if isIntT c.P a && isIntT c.P b then (runPure c.P s o).map fun v => mkUpd o.dst (.v v)
    else match plain (svO s x) with
      | some v => (c.hint o.type).map (.prim (convert a b v))
      | none => none
  | .makeMap t none => (c.hint o.type).map (.prim (Instr.makeMap t none))
  | .makeSlice t l n => match plain (svO s l), plain (svO s n) with
    | some a, some b => (c.hint o.type).map (.prim (Instr.makeSlice t a b))
    | _, _ => none
  | .slice t x lo hi none => match plain (svO s x), (match lo with | none => some none | some l => (plain (svO s l)).map some), (match hi with | none => some none | some l => (plain (svO s l)).map some) with
    | some v, some a, some b => (c.hint o.type).map (rd drawn (Instr.sliceAt t v a b none))
    | _, _, _ => none
  | .indexAddr t x i => match plain (svO s x), plain (svO s i) with
    | some a, some b => some (rd drawn (Instr.indexAt t a b) hAddr)
    | _, _ => none
  | .index t x i => match plain (svO s x), plain (svO s i) with
    | some a, some b => (c.hint o.type).map (rd drawn (Instr.index t a b))
    | _, _ => none
  | .lookup t x i ok => match plain (svO s x), plain (svO s i) with
    | some a, some b => (c.hint o.type).map (rd drawn (Instr.lookup t a b ok))
    | _, _ => none
  | .mapUpdate t m k x | .insert t m k x => match plain (svO s m), plain (svO s k), plain (svO s x) with
    | some a, some b, some v => some (.primU (Instr.mapUpdate t a b v))
    | _, _, _ => none
  | .buildSlice t len parts => match o.dst, plains s (parts.toList.map (·.2)) with
    | some d, some _ =>
      if fc.esc.contains d then (c.hint o.type).map (.prim (Instr.buildSlice t len (parts.map fun p => (p.1, (plain (svO s p.2)).getD undef))))
      else match rowCells c.P t len (parts.map fun p => (p.1, (plain (svO s p.2)).getD undef)).toList with
        | some (cs, e) => match s[d]? with
          | some sv => if isBox sv then none else some (.upd d (.row e len cs.toList))
          | none => none
        | none => none
    | _, _ => none
  | .call cl => callOut c drawn s o cl
  | .build _ _ | .makeInterface _ _ | .extract _ _ | .field _ _ _ | .makeFunc _ _ _ | .unOp _ _ _ => (runPure c.P s o).map fun v => mkUpd o.dst (.v v)
  | _ => none

/-! ### What an operation looks at, and writes -/
def tmpsOf (xs : List Operand) : List Nat := xs.filterMap fun | .tmp t => some t | _ => none
def dstOf (ops : Array Oper) (j : Nat) : Option Nat := (ops[j]?).bind (·.dst)
def wOf (root : Nat) (o : Oper) : List Nat :=
  (match o.dst with | some d => [d] | none => []) ++ (match o.op with | .store _ _ _ => [root] | _ => [])
def rOf (ops : Array Oper) (root : Nat) (o : Oper) : List Nat :=
  (tmpsOf o.op.operands.toList ++ wOf root o) ++ ((match o.op with | .load _ _ | .store _ _ _ => [root] | _ => []) ++ (match o.guard with | some (j, _) => (dstOf ops j).toList | none => []))

def mask (r : List Nat) (s : List SV) : List SV := s.mapIdx fun i x => if r.contains i then x else .any

/-- The result's slot may be written: it is none that holds a box. -/
def dstOk (s : List SV) (o : Oper) : Bool :=
  match o.dst with
  | none => true
  | some d => match s[d]? with
    | some sv => !isBox sv
    | none => false

def outWrites (o : Oper) : Out → List Nat
  | .upd d _ => [d]
  | .split d _ => [d]
  | .scrub d _ => [d]
  | .nop | .primU _ => []
  | _ => o.dst.toList

/-- Has a store, an allocation or another operation that writes its own slot. -/
def ownSlot (o : Oper) (u : Out) : Bool :=
  match u with
  | .upd d v => match o.op with
    | .store _ _ _ => o.dst.isNone
    | .box _ _ | .alloc _ | .buildSlice _ _ _ => o.dst == some d && isBox v
    | _ => o.dst == some d && !isBox v
  | .scrub d v => o.dst == some d && isBox v
  | .split d _ => o.dst == some d
  | .nop => o.dst.isNone
  | .primU _ => o.dst.isNone
  | _ => true

/-- Addresses within box d stand in slots alone that may be written. -/
def noLoc (M : Nat → Bool) (d : Nat) (s : List SV) : Bool := s.zipIdx.all fun x => match x.1 with | .loc j _ => j != d || M x.2 | _ => true

def srcOut (src : Bool) : Option Out → Option Out
  | none => none
  | some u => if src then match u with
      | .upd d (.v (.bool b)) => some (.split d b)
      | .upd d (.lit b) => some (.upd d (.lit b))
      | _ => none
    else some u

def guardOut (ops : Array Oper) (s : List SV) (o : Oper) (main : Option Out) : Option Out :=
  match o.guard with
  | none => main
  | some (j, want) => match dstOf ops j with
    | none => none
    | some tj => match s[tj]? with
      | some (.lit b) => if b == want then main else some (mkUpd o.dst (.v undef))
      | some (.v (.tuple _)) => some (mkUpd o.dst (.v undef))
      | _ => none

def isApp (o : Oper) : Bool := match o.op with
  | .call cl => match cl.callee with
    | .builtin .append => true
    | _ => false
  | _ => false

def appOk (o : Oper) : Out → Bool
  | .append _ _ _ _ _ _ _ => isApp o
  | _ => true

def chkOut (M : Nat → Bool) (drawn : Bool) (root : Nat) (s : List SV) (o : Oper) (u : Out) : Bool :=
  (outWrites o u).all (fun d => M d && (wOf root o).contains d) && ownSlot o u && appOk o u && (match u with | .scrub d _ => !drawn && noLoc M d s && Nat.blt d s.length | _ => dstOk s o)

def seen (drawn : Bool) (r : List Nat) (s : List SV) : List SV := if drawn then mask r s else s

/-- With the guard; over the slots that it looks at alone; what it writes is let by. -/
def outOf (c : Cfg) (fc : Fc) (ops : Array Oper) (drawn : Bool) (M : Nat → Bool) (src : Bool) (root : Nat) (o : Oper) (s0 : List SV) : Option Out :=
  match guardOut ops (seen drawn (rOf ops root o) s0) o (srcOut src (mainOut c fc drawn root (seen drawn (rOf ops root o) s0) o)) with
  | none => none
  | some u => if chkOut M drawn root (seen drawn (rOf ops root o) s0) o u then some u else none

def scrub1 (d : Nat) : SV → SV
  | .loc j off => if j == d then .any else .loc j off
  | x => x
def scrubbed (d : Nat) (s : List SV) : List SV := s.map (scrub1 d)

def put (d : Option Nat) (v : SV) (s : List SV) : List SV := match d with
  | some d => s.set d v
  | none => s

def treeOf (o : Oper) (i : Nat) (keep : List Nat) (s : List SV) (K : List SV → Tree) : Option Out → Tree
  | none => .stuck
  | some (.upd d v) => K (s.set d v)
  | some .nop => K s
  | some (.scrub d v) => K ((scrubbed d s).set d v)
  | some (.split d b) => .ite b (K (s.set d (.lit true))) (K (s.set d (.lit false)))
  | some (.pcall _ _ v) => K (put o.dst (.v v) s)
  | some (.call f args H) => .call f args.toArray keep H.E fun x => H.cs x fun sv => K (put o.dst sv s)
  | some (.prim m H) => .prim m keep H.E fun x => H.cs x fun sv => K (put o.dst sv s)
  | some (.primU m) => .primU m keep (K s)
  | some (.append tys ty x e n cells H) => .append tys ty x e n cells keep H.E fun y => H.cs y fun sv => K (put o.dst sv s)
  | some (.loadS m H) => .loadS i m H.E fun x => H.cs x fun sv => K (put o.dst sv s)

end Go.Sx
