import Derived.Test.YtbanmblbgoajdaaWhSx2
namespace Go.Sx
open Go.RowKit

/-! ### Regions -/
/-- The box that an address belongs to: along field addresses, moves and nil checks of the same region. -/
def rootIn (ops : List Oper) : Nat → Nat → Nat
  | 0, t => t
  | n + 1, t => match ops.find? (fun o => o.dst == some t) with
    | some o => match o.op with
      | .fieldAddr _ (.tmp x) _ => rootIn ops n x
      | .move (.tmp x) => rootIn ops n x
      | .nilCheck (.tmp x) => rootIn ops n x
      | _ => t
    | none => t
def rootOf (ops : Array Oper) (o : Oper) : Nat :=
  match o.op with
  | .load _ (.tmp t) | .store _ (.tmp t) _ => rootIn ops.toList 8 t
  | _ => 0

def isSrc (ops : Array Oper) (i : Nat) : Bool := ops.any fun o => match o.guard with | some (j, _) => j == i | none => false

structure Rc where
  c : Cfg
  fc : Fc
  M : Nat → Bool

def outAt (r : Rc) (drawn : Bool) (ops : Array Oper) (i : Nat) (o : Oper) (s : List SV) : Option Out :=
  outOf r.c r.fc ops drawn r.M (isSrc ops i) (rootOf ops o) o s

/-- The order of the text. -/
def sxOps (r : Rc) (ops : Array Oper) : List Nat → List SV → (List SV → Tree) → Tree
  | [], s, K => K s
  | i :: l, s, K => match ops[i]? with
    | none => .stuck
    | some o => treeOf o i [] s (fun s' => sxOps r ops l s' K) (outAt r false ops i o s)

def depsOf (o : Oper) : List Nat := (o.after.toList.filter (Region.binds .any)).map (·.on)

/-- Bit j of number i: j comes ahead of i in every order. -/
def ancTab (ops : Array Oper) : List Nat :=
  ops.toList.foldl (fun T o => T ++ [(depsOf o).foldl (fun m d => m ||| (T.getD d 0) ||| (1 <<< d)) 0]) []

def tabOk (ops : Array Oper) (T : List Nat) : Bool :=
  (List.range ops.size).all fun i => match ops[i]? with
    | none => false
    | some o => ((depsOf o).all fun d => Nat.blt d i && (T.getD i 0).testBit d) && (List.range ops.size).all fun j => !((T.getD i 0).testBit j) || (depsOf o).any fun d => Nat.blt d i && (d == j || (T.getD d 0).testBit j)

inductive Cls where
  | quiet | look | eff
  deriving DecidableEq

def clsOf (r : Rc) (ops : Array Oper) (i : Nat) (o : Oper) : Cls :=
  if isSrc ops i then .eff else
  match o.op with
  | .load _ _ | .indexAddr _ _ _ | .index _ _ _ | .slice _ _ _ _ _ | .lookup _ _ _ _ | .binOp _ _ _ _ _ => .look
  | .store _ _ _ => .eff
  | .box _ _ | .alloc _ | .buildSlice _ _ _ => if (match o.dst with | some d => r.fc.esc.contains d | none => true) then .eff else .quiet
  | .call cl => match cl.callee with
    | .builtin .len | .builtin .min | .builtin .max => .look
    | .builtin _ => .eff
    | .value (.func f) => if (r.c.pure f).isSome then .quiet else .eff
    | .value _ => .eff
    | .invoke _ _ => .quiet
  | .move _ | .assign _ | .nilCheck _ | .fieldAddr _ _ _ | .field _ _ _ | .extract _ _ | .build _ _ | .makeInterface _ _ | .unOp _ _ _ | .pick _ _ _ | .makeFunc _ _ _ => .quiet
  | _ => .eff

/-- Is what came up of that class? (A store into an own box is quiet, whatever its class says.) -/
def clsFits : Cls → Out → Bool
  | .quiet, .upd _ _ | .quiet, .nop | .quiet, .pcall _ _ _ => true
  | .look, .upd _ _ | .look, .nop | .look, .pcall _ _ _ | .look, .loadS _ _ => true
  | .eff, .scrub _ _ => false
  | .eff, _ => true
  | _, _ => false

def disjL (xs ys : List Nat) : Bool := xs.all fun x => !ys.contains x

def keepOf (r : Rc) (ops : Array Oper) (T : List Nat) (i : Nat) : List Nat :=
  (List.range ops.size).filter fun d => match ops[d]? with
    | none => false
    | some o => decide (clsOf r ops d o = .look) && !((T.getD i 0).testBit d) && !((T.getD d 0).testBit i)

/-- u stands ahead of i in the order gone through; i may come first. -/
def comm (r : Rc) (ops : Array Oper) (T : List Nat) (u i : Nat) : Bool :=
  match ops[u]?, ops[i]? with
  | some ou, some oi =>
    disjL (wOf (rootOf ops ou) ou) (rOf ops (rootOf ops oi) oi) && disjL (wOf (rootOf ops oi) oi) (rOf ops (rootOf ops ou) ou) &&
    !isApp ou && (match clsOf r ops u ou, clsOf r ops i oi with
      | .quiet, _ | _, .quiet => true
      | .look, .look => decide (u ≠ i)
      | .look, .eff => (keepOf r ops T i).contains u
      | .eff, _ => false)
  | _, _ => false

def pairsOk (f : Nat → Nat → Bool) : List Nat → Bool
  | [] => true
  | u :: l => l.all (f u) && pairsOk f l

/-- The order l may stand for all orders. -/
def drawOk (r : Rc) (ops : Array Oper) (T : List Nat) (l : List Nat) : Bool :=
  tabOk ops T && decide l.Nodup && l.all (fun i => Nat.blt i ops.size) && Nat.beq l.length ops.size &&
    pairsOk (fun u i => !((T.getD u 0).testBit i) && ((T.getD i 0).testBit u || comm r ops T u i)) l

def oneD (r : Rc) (ops : Array Oper) (T : List Nat) (i : Nat) (s : List SV) (K : List SV → Tree) : Tree :=
  match ops[i]? with
  | none => .stuck
  | some o => match outAt r true ops i o s with
    | none => .stuck
    | some u => if clsFits (clsOf r ops i o) u then treeOf o i (keepOf r ops T i) s K (some u) else .stuck

def sxDrawn (r : Rc) (ops : Array Oper) (T : List Nat) : List Nat → List SV → (List SV → Tree) → Tree
  | [], s, K => .endS (K s)
  | i :: l, s, K => oneD r ops T i s fun s' => sxDrawn r ops T l s' K

/-- Looks first, where nothing that they wait for stands behind. -/
def hoist (r : Rc) (ops : Array Oper) (T : List Nat) : List Nat :=
  let l := List.range ops.size
  let early := l.filter fun i => l.all fun j => match ops[j]? with
    | some o => !(decide (clsOf r ops j o = .eff)) || !(Nat.beq i j || (T.getD i 0).testBit j)
    | none => false
  early ++ l.filter fun i => !early.contains i

def sxRegion (r : Rc) (ops : Array Oper) (draw : Bool) (s : List SV) (K : List SV → Tree) : Tree :=
  if draw then
    let T := ancTab ops
    let l := hoist r ops T
    if drawOk r ops T l then sxDrawn r ops T l s K else .stuck
  else sxOps r ops (List.range ops.size) s K

/-! ### Code -/
inductive Ex where
  | normal
  | exit (id : Nat)
  | ret

def wCode : Code → List Nat
  | .region _ ops _ => ops.toList.flatMap fun o => wOf (rootOf ops o) o
  | .seq a b => wCode a ++ wCode b
  | .cond _ a b => wCode a ++ wCode b
  | .block _ a => wCode a
  | .loop a => wCode a
  | .scope a => wCode a
  | _ => []

/-- The slots at a loop's head. -/
def headOf (W : List Nat) (slots : List Nat) (vals : List SV) (s : List SV) : List SV :=
  s.mapIdx fun i x =>
    match slots.idxOf? i with
    | some k => vals.getD k .any
    | none => if W.contains i then .any else match x with
      | .loc j off => if W.contains j || slots.contains j then .any else .loc j off
      | x => x

def notLoc : SV → Bool
  | .loc _ _ => false
  | _ => true

def svAt (s : List SV) (i : Nat) : SV := s.getD i .any

def sxCode (c : Cfg) (fc : Fc) : Code → (M : Nat → Bool) → (depth : Nat) → (blk : Nat) → (Ex → (depth : Nat) → List SV → Tree) → List SV → Tree
  | .skip, _, dp, _, K, s => K .normal dp s
  | .region _ ops draw, M, dp, _, K, s => sxRegion ⟨c, fc, M⟩ ops draw s (K .normal dp)
  | .seq a b, M, dp, blk, K, s => sxCode c fc a M dp blk (fun e dp' s' => match e with | .normal => sxCode c fc b M dp' blk K s' | e => K e dp' s') s
  | .cond x a b, M, dp, blk, K, s => match svO s x with
    | .lit true => sxCode c fc a M dp blk K s
    | .lit false => sxCode c fc b M dp blk K s
    | .v (.bool t) => .ite t (sxCode c fc a M dp blk K s) (sxCode c fc b M dp blk K s)
    | _ => .stuck
  | .block id a, M, dp, _, K, s => sxCode c fc a M dp id (fun e dp' s' => match e with | .exit i => if Nat.beq i id then K .normal dp' s' else K (.exit i) dp' s' | e => K e dp' s') s
  | .exit id, _, dp, _, K, s => K (.exit id) dp s
  | .ret, _, dp, _, K, s => K .ret dp s
  | .loop a, M, dp, blk, K, s => match fc.lh.lookup blk with
    | none => .stuck
    | some H =>
      let W := wCode a
      if H.slots.all (fun i => M i && W.contains i && Nat.blt i s.length) && W.all M then
        .loop (H.slots.map (svAt s)) H.L H.emb fun l =>
          if Nat.beq (H.emb l).length H.slots.length && (H.emb l).all notLoc then
            sxCode c fc a (fun i => M i && W.contains i) (dp + 1) blk (fun e dp' s' => match e with
              | .normal => .again (dp' - (dp + 1)) (H.slots.map (svAt s'))
              | e => K e dp' s') (headOf W H.slots (H.emb l) s)
          else .stuck
      else .stuck
  | _, _, _, _, _, _ => .stuck

def resOf (P : Program) (s : List SV) : ResultVar → Option Value
  | .tmp t => match s[t]? with
    | some (.v x) => some x
    | some (.lit b) => some (.bool b)
    | _ => none
  | .cell a t => match s[a]? with
    | some (.box _ cells) => match isAggT P t, sizeT P t with
      | some true, some n => if Nat.beq n cells.length then some (.agg cells.toArray) else none
      | some false, some 1 => cells[0]?
      | _, _ => none
    | _ => none

def resultsOf (P : Program) (fn : Func) (s : List SV) : Option Value :=
  match fn.results.toList.mapM (resOf P s) with
  | none => none
  | some [v] => some v
  | some vs => some (.tuple vs.toArray)

def sxFn (c : Cfg) (fc : Fc) (fn : Func) (args : List Value) : Tree :=
  match fn.body with
  | none => .stuck
  | some code => sxCode c fc code (fun _ => true) 0 0 (fun e _ s => match e with
      | .normal | .ret => match resultsOf c.P fn s with
        | some v => .ret v
        | none => .stuck
      | .exit _ => .stuck) (args.map .v ++ List.replicate (fn.ntmps - args.length) (.v undef))

end Go.Sx
