import Derived.Test.YtbanmblbgoajdaaWhGI
import Derived.Test.YtbanmblbgoajdaaWhBT
set_option linter.unusedVariables false
namespace Go.Sx
namespace GI
variable {E A : Type} (I : GI E A)

/-! ### The trees of grove's functions -/
def ar (r : Rf) : Value := ag (rfC r)
noncomputable def getT (t : Nat) (r : Rf) : Tree :=
  .ite (r.gen == 0) (.ret (ag (I.nd.enc I.zN))) (.loadS 3 (Instr.loadAt I.tPoolP (pa t 0)) eBlk fun (p : Nat) => .call I.fGet [pa p 0, ar r].toArray [] (eTup2 I.eNd eBool) fun (x : Nd E A × Bool) => .endS (.ret (ag (I.nd.enc x.1))))
def cGet (t : Nat) (r : Rf) (keep : List Nat) (k : Nd E A → Tree) : Tree := .call I.gGet [pa t 0, ar r].toArray keep I.eNd k
def cRef (f : FuncId) (args : List Value) (keep : List Nat) (k : Rf → Tree) : Tree := .call f args.toArray keep eRef k
def cInt (f : FuncId) (args : List Value) (keep : List Nat) (k : Int → Tree) : Tree := .call f args.toArray keep eInt k
def retR (r : Rf) : Tree := .ret (ar r)
noncomputable def layT (t : Nat) (r l h : Rf) : Tree :=
  I.cGet t r [] fun n => I.cGet t l [4] fun nl => I.cGet t h [] fun nh => .endS (.endS (.endS (.loadS 3 (Instr.loadAt I.tPoolP (pa t 0)) eBlk fun (p : Nat) =>
    .call I.fSet [pa p 0, ar r, ag (I.nd.enc ⟨n.e, l, h, wr (wr (nl.size + 1) + nh.size), I.plus (I.plus nl.sum (I.sum n.e)) nh.sum⟩)].toArray [] eBool fun (_ : Bool) => .endS (retR r))))
def weightT (t : Nat) (r : Rf) : Tree := I.cGet t r [] fun n => .ret (iV (wr (n.size + 1)))
def turnLT (t : Nat) (r : Rf) : Tree := I.cGet t r [] fun n => I.cGet t n.right [] fun h => cRef I.gLay [pa t 0, ar r, ar n.left, ar h.left] [] fun _ => cRef I.gLay [pa t 0, ar n.right, ar r, ar h.right] [] fun x => retR x
def turnRT (t : Nat) (r : Rf) : Tree := I.cGet t r [] fun n => I.cGet t n.left [] fun l => cRef I.gLay [pa t 0, ar r, ar l.right, ar n.right] [] fun _ => cRef I.gLay [pa t 0, ar n.left, ar l.left, ar r] [] fun x => retR x
def balanceT (t : Nat) (r : Rf) : Tree :=
  I.cGet t r [] fun n => cInt I.gWeight [pa t 0, ar n.left] [6] fun l => cInt I.gWeight [pa t 0, ar n.right] [] fun h => .endS
    (.ite (decide (h > wr (3 * l)))
      (I.cGet t n.right [] fun x => cInt I.gWeight [pa t 0, ar x.left] [6] fun a => cInt I.gWeight [pa t 0, ar x.right] [] fun b => .endS
        (.ite (decide (a ≥ wr (2 * b)))
          (cRef I.gTurnR [pa t 0, ar n.right] [1, 3] fun y => cRef I.gLay [pa t 0, ar r, ar n.left, ar y] [] fun _ => .endS (cRef I.gTurnL [pa t 0, ar r] [] fun x => retR x))
          (cRef I.gTurnL [pa t 0, ar r] [] fun x => retR x)))
      (.ite (decide (l > wr (3 * h)))
        (I.cGet t n.left [] fun x => cInt I.gWeight [pa t 0, ar x.right] [6] fun a => cInt I.gWeight [pa t 0, ar x.left] [] fun b => .endS
          (.ite (decide (a ≥ wr (2 * b)))
            (cRef I.gTurnL [pa t 0, ar n.left] [1, 7] fun y => cRef I.gLay [pa t 0, ar r, ar y, ar n.right] [] fun _ => .endS (cRef I.gTurnR [pa t 0, ar r] [] fun x => retR x))
            (cRef I.gTurnR [pa t 0, ar r] [] fun x => retR x)))
        (retR r)))
def linkT (t : Nat) (l m h : Rf) : Tree :=
  cInt I.gWeight [pa t 0, ar l] [4] fun wl => cInt I.gWeight [pa t 0, ar h] [] fun wh => .endS
    (.ite (decide (wh > wr (3 * wl)))
      (I.cGet t h [] fun n => cRef I.gLink [pa t 0, ar l, ar m, ar n.left] [2, 10] fun y => cRef I.gLay [pa t 0, ar h, ar y, ar n.right] [] fun z => cRef I.gBalance [pa t 0, ar z] [] fun x => .endS (retR x))
      (.ite (decide (wl > wr (3 * wh)))
        (I.cGet t l [] fun n => cRef I.gLink [pa t 0, ar n.right, ar m, ar h] [2, 4] fun y => cRef I.gLay [pa t 0, ar l, ar n.left, ar y] [] fun z => cRef I.gBalance [pa t 0, ar z] [] fun x => .endS (retR x))
        (cRef I.gLay [pa t 0, ar m, ar l, ar h] [] fun x => retR x)))
def retRR (a b : Rf) : Tree := .ret (.tuple #[ar a, ar b])
def lastT (t : Nat) (r : Rf) : Tree :=
  I.cGet t r [] fun n => .ite (n.right.gen == 0) (.endS (retRR n.left r))
    (.call I.gLast [pa t 0, ar n.right].toArray [] (eTup2 eRef eRef) fun (x : Rf × Rf) => cRef I.gLink [pa t 0, ar n.left, ar r, ar x.1] [6] fun y => .endS (retRR y x.2))
def mergeT (t : Nat) (l r : Rf) : Tree :=
  .ite (l.gen == 0) (retR r) (.ite (r.gen == 0) (retR l) (.call I.gLast [pa t 0, ar l].toArray [] (eTup2 eRef eRef) fun (x : Rf × Rf) => cRef I.gLink [pa t 0, ar x.1, ar x.2, ar r] [] fun y => retR y))
def lenT (t : Nat) : Tree := .prim (Instr.loadAt I.tRef (pa t 1)) [] eRef fun (r : Rf) => I.cGet t r [] fun n => .ret (iV n.size)
def visitsT (t : Nat) : Tree := .prim (Instr.loadAt I.tPoolP (pa t 0)) [] eBlk fun (p : Nat) => cInt I.fVisits [pa p 0] [] fun x => .ret (iV x)

/-! put, drop, and what goes through a tree -/
def rb (r : Rf) (b : Bool) : Value := .tuple #[ar r, .bool b]
noncomputable def cPair (f : FuncId) (args : List Value) (k : Rf × Bool → Tree) : Tree := .call f args.toArray [] (eTup2 eRef eBool) k
noncomputable def putT (t : Nat) (r : Rf) (e : E) : Tree :=
  .ite (r.gen == 0) (.loadS 3 (Instr.loadAt I.tPoolP (pa t 0)) eBlk fun (q : Nat) => .call I.fPut [pa q 0, ag (I.nd.enc ⟨e, ⟨0, 0⟩, ⟨0, 0⟩, 1, I.sum e⟩)].toArray [] (eTup2 eRef eBool) fun (x : Rf × Bool) => .endS (.ret (rb x.1 x.2)))
    (I.cGet t r [] fun n => .ite (decide (I.cmp e n.e < 0))
      (cPair I.gput [pa t 0, ar n.left, I.tE.val e] fun x => .ite (!x.2) (.ret (rb r false)) (cRef I.gLink [pa t 0, ar x.1, ar r, ar n.right] [] fun y => .ret (rb y true)))
      (.ite (decide (I.cmp e n.e > 0))
        (cPair I.gput [pa t 0, ar n.right, I.tE.val e] fun x => .ite (!x.2) (.ret (rb r false)) (cRef I.gLink [pa t 0, ar n.left, ar r, ar x.1] [] fun y => .ret (rb y true)))
        (.loadS 3 (Instr.loadAt I.tPoolP (pa t 0)) eBlk fun (q : Nat) => .call I.fSet [pa q 0, ar r, ag (I.nd.enc ⟨e, n.left, n.right, n.size, n.sum⟩)].toArray [] eBool fun (_ : Bool) => .endS (cRef I.gLay [pa t 0, ar r, ar n.left, ar n.right] [] fun y => .ret (rb y true)))))
noncomputable def PutT (t : Nat) (e : E) : Tree :=
  .loadS 4 (Instr.loadAt I.tRef (pa t 1)) eRef fun (r : Rf) => cPair I.gput [pa t 0, ar r, I.tE.val e] fun x => .endS (.ite x.2 (.primU (Instr.storeAt I.tRef (pa t 1) (ar x.1)) [] (.ret (.bool x.2))) (.ret (.bool x.2)))
def reb (r : Rf) (e : E) (b : Bool) : Value := .tuple #[ar r, I.tE.val e, .bool b]
def eb (e : E) (b : Bool) : Value := .tuple #[I.tE.val e, .bool b]
def cTrip (f : FuncId) (args : List Value) (k : Rf × E × Bool → Tree) : Tree := .call f args.toArray [] (eTup3 eRef I.eE eBool) k
noncomputable def dropT (t : Nat) (r : Rf) (e : E) : Tree :=
  .ite (r.gen == 0) (.endS (.ret (I.reb r I.zE false)))
    (I.cGet t r [] fun n => .ite (decide (I.cmp e n.e < 0))
      (I.cTrip I.gdrop [pa t 0, ar n.left, I.tE.val e] fun x => .ite (!x.2.2) (.endS (.ret (I.reb r x.2.1 false))) (cRef I.gLink [pa t 0, ar x.1, ar r, ar n.right] [6] fun y => .endS (.ret (I.reb y x.2.1 true))))
      (.ite (decide (I.cmp e n.e > 0))
        (I.cTrip I.gdrop [pa t 0, ar n.right, I.tE.val e] fun x => .ite (!x.2.2) (.endS (.ret (I.reb r x.2.1 false))) (cRef I.gLink [pa t 0, ar n.left, ar r, ar x.1] [6] fun y => .endS (.ret (I.reb y x.2.1 true))))
        (.loadS 3 (Instr.loadAt I.tPoolP (pa t 0)) eBlk fun (q : Nat) => .call I.fDrop [pa q 0, ar r].toArray [] (eTup2 I.eNd eBool) fun (_ : Nd E A × Bool) => .endS (cRef I.gMerge [pa t 0, ar n.left, ar n.right] [7] fun y => .endS (.ret (I.reb y n.e true))))))
noncomputable def DropT (t : Nat) (e : E) : Tree :=
  .loadS 4 (Instr.loadAt I.tRef (pa t 1)) eRef fun (r : Rf) => I.cTrip I.gdrop [pa t 0, ar r, I.tE.val e] fun x => .endS (.primU (Instr.storeAt I.tRef (pa t 1) (ar x.1)) [] (.ret (I.eb x.2.1 x.2.2)))
def bR (r : Rf) : SV := .box I.tRef (rfC r)
def bE : SV := .box I.tEl (I.tE.C.enc I.zE)
def fcFind : Fc := { lh := [(0, { slots := [4, 5, 6], L := BT E, emb := fun s => [I.bE, .lit false, I.bR s.ref] })] }
def fcRank : Fc := { lh := [(0, { slots := [5, 6], L := Int × BT E, emb := fun x => [.v (iV x.1), I.bR x.2.ref] })] }
def fcAt : Fc := { lh := [(0, { slots := [1, 4, 5, 7], L := Int × BT E, emb := fun x => [.v (iV x.1), I.bE, .lit false, I.bR x.2.ref] })] }
noncomputable def findT (t : Nat) (e : E) : Tree :=
  .prim (Instr.loadAt I.tRef (pa t 1)) [] eRef fun (r : Rf) => .loop [I.bE, .lit false, I.bR r] (BT E) (fun s => [I.bE, .lit false, I.bR s.ref]) fun s => .ite (s.ref.gen != 0)
    (I.cGet t s.ref [] fun n => .ite (I.cmp e n.e == 0) (.ret (I.eb n.e true)) (.ite (decide (I.cmp e n.e < 0)) (.again 0 [I.bE, .lit false, I.bR n.left]) (.again 0 [I.bE, .lit false, I.bR n.right])))
    (.ret (I.eb I.zE false))
noncomputable def rankT (t : Nat) (e : E) : Tree :=
  .prim (Instr.loadAt I.tRef (pa t 1)) [] eRef fun (r : Rf) => .loop [.v (iV 0), I.bR r] (Int × BT E) (fun x => [.v (iV x.1), I.bR x.2.ref]) fun x => .ite (x.2.ref.gen != 0)
    (I.cGet t x.2.ref [] fun n => .ite (decide (I.cmp e n.e ≤ 0)) (.again 0 [.v (iV x.1), I.bR n.left]) (cInt I.gWeight [pa t 0, ar n.left] [] fun k => .again 0 [.v (iV (wr (x.1 + k))), I.bR n.right]))
    (.ret (iV x.1))
noncomputable def atT (t : Nat) (i : Int) : Tree :=
  .ite (decide (i < 0)) (.ret (I.eb I.zE false)) (.prim (Instr.loadAt I.tRef (pa t 1)) [] eRef fun (r : Rf) => .loop [.v (iV i), I.bE, .lit false, I.bR r] (Int × BT E) (fun x => [.v (iV x.1), I.bE, .lit false, I.bR x.2.ref]) fun x => .ite (x.2.ref.gen != 0)
    (I.cGet t x.2.ref [] fun n => I.cGet t n.left [] fun nl => .ite (x.1 == nl.size) (.ret (I.eb n.e true)) (.ite (decide (x.1 < nl.size)) (.again 0 [.v (iV x.1), I.bE, .lit false, I.bR n.left]) (.again 0 [.v (iV (wr (x.1 - wr (nl.size + 1)))), I.bE, .lit false, I.bR n.right])))
    (.ret (I.eb I.zE false)))
def cSl (f : FuncId) (args : List Value) (keep : List Nat) (k : Sl → Tree) : Tree := .call f args.toArray keep eSl k
noncomputable def allT (t : Nat) (r : Rf) (o : Sl) : Tree :=
  .ite (r.gen == 0) (.ret (slV o)) (I.cGet t r [] fun n => cSl I.gall [pa t 0, ar n.left, slV o] [2, 9] fun s1 => .append #[I.tES, I.tES] I.tES (slV s1) I.tEl 1 (I.tE.C.enc n.e) [2] eSl fun (y : Sl) => cSl I.gall [pa t 0, ar n.right, slV y] [] fun s => .endS (.ret (slV s)))
noncomputable def AllT (t : Nat) : Tree := .prim (Instr.loadAt I.tRef (pa t 1)) [] eRef fun (r : Rf) => cSl I.gall [pa t 0, ar r, slV ⟨none, 0, 0⟩] [] fun s => .ret (slV s)
def cA (f : FuncId) (args : List Value) (keep : List Nat) (k : A → Tree) : Tree := .call f args.toArray keep I.eA k
def betweenE (t : Nat) (n nl : Nd E A) (i j : Int) (s : A) : Tree := I.cA I.gbetween [pa t 0, ar n.right, iV (wr (wr (i - nl.size) - 1)), iV (wr (wr (j - nl.size) - 1))] [0] fun s3 => .endS (.ret (I.tA.val (I.plus s s3)))
def betweenR (t : Nat) (n : Nd E A) (i j : Int) : Tree := I.cGet t n.left [] fun nl => I.cA I.gbetween [pa t 0, ar n.left, iV i, iV j] [] fun s =>
      .ite (decide (i ≤ nl.size)) (.ite (decide (j > nl.size)) (.endS (I.betweenE t n nl i j (I.plus s (I.sum n.e)))) (I.betweenE t n nl i j s)) (I.betweenE t n nl i j s)
def zR : Tree := .ret (I.tA.val I.zA)
def betweenT (t : Nat) (r : Rf) (i j : Int) : Tree :=
  I.cGet t r [] fun n => .ite (decide (i ≥ j)) I.zR (.ite (decide (i ≥ n.size)) I.zR (.ite (decide (j ≤ 0)) I.zR (.ite (n.size == 0) I.zR (.ite (decide (i ≤ 0)) (.ite (decide (j ≥ n.size)) (.ret (I.tA.val n.sum)) (I.betweenR t n i j)) (I.betweenR t n i j)))))
def cMax (x y : Int) (k : Int → Tree) : Tree := .prim (Builtin.max_ #[I.tI, I.tI] I.tI #[iV x, iV y]) [] eInt k
def cMin (x y : Int) (k : Int → Tree) : Tree := .prim (Builtin.min_ #[I.tI, I.tI] I.tI #[iV x, iV y]) [] eInt k
noncomputable def BetweenT (t : Nat) (i j : Int) : Tree :=
  cInt I.gLen [pa t 0] [] fun n => .prim (Instr.loadAt I.tRef (pa t 1)) [] eRef fun (r : Rf) => I.cMax i 0 fun a => I.cMin a n fun a => I.cMax j 0 fun b => I.cMin b n fun b => I.cA I.gbetween [pa t 0, ar r, iV a, iV b] [] fun s => .ret (I.tA.val s)
noncomputable def splitT (t : Nat) (r : Rf) (e : E) : Tree :=
  .ite (r.gen == 0) (.endS (retRR r r)) (I.cGet t r [] fun n => .ite (decide (I.cmp n.e e < 0))
    (.call I.gsplit [pa t 0, ar n.right, I.tE.val e].toArray [] (eTup2 eRef eRef) fun (x : Rf × Rf) => cRef I.gLink [pa t 0, ar n.left, ar r, ar x.1] [6] fun y => .endS (retRR y x.2))
    (.call I.gsplit [pa t 0, ar n.left, I.tE.val e].toArray [] (eTup2 eRef eRef) fun (x : Rf × Rf) => cRef I.gLink [pa t 0, ar x.2, ar r, ar n.right] [0] fun y => .endS (retRR x.1 y)))
noncomputable def SplitT (t : Nat) (e : E) : Tree :=
  .loadS 4 (Instr.loadAt I.tRef (pa t 1)) eRef fun (r : Rf) => .call I.gsplit [pa t 0, ar r, I.tE.val e].toArray [] (eTup2 eRef eRef) fun (x : Rf × Rf) => .endS (.primU (Instr.storeAt I.tRef (pa t 1) (ar x.1)) []
    (.loadS 3 (Instr.loadAt I.tPoolP (pa t 0)) eBlk fun (q : Nat) => .prim (Instr.box I.tTree (ag [pa q 0, iV x.2.ix, iV x.2.gen])) [] eBlk fun (b : Nat) => .endS (.ret (pa b 0))))
noncomputable def heightT (t : Nat) (r : Rf) : Tree :=
  .ite (r.gen == 0) (.ret (iV 0)) (I.cGet t r [] fun n => cInt I.gheight [pa t 0, ar n.left] [6] fun a => cInt I.gheight [pa t 0, ar n.right] [] fun b => .loadS 8 (Builtin.max_ #[I.tI, I.tI] I.tI #[iV a, iV b]) eInt fun (c : Int) => .endS (.ret (iV (wr (1 + c)))))
noncomputable def HeightT (t : Nat) : Tree := .prim (Instr.loadAt I.tRef (pa t 1)) [] eRef fun (r : Rf) => cInt I.gheight [pa t 0, ar r] [] fun x => .ret (iV x)
noncomputable def NewT (n : Int) : Tree := .call I.fNew [iV n].toArray [] eBlk fun (q : Nat) => .prim (Instr.box I.tTree (ag [pa q 0, iV 0, iV 0])) [] eBlk fun (b : Nat) => .ret (pa b 0)
noncomputable def poolNewT (n : Int) : Tree := I.cMax n 0 fun a => I.cMin a 16777216 fun a => .prim (Instr.box I.tP (ag [slV ⟨none, 0, 0⟩, slV ⟨none, 0, 0⟩, iV a, iV 0, iV 0])) [] eBlk fun (b : Nat) => .ret (pa b 0)
noncomputable def JoinT (t o : Nat) : Tree :=
  let fin : Tree := .loadS 6 (Instr.loadAt I.tRef (pa t 1)) eRef fun (r : Rf) => .loadS 10 (Instr.loadAt I.tRef (pa o 1)) eRef fun (r2 : Rf) => cRef I.gMerge [pa t 0, ar r, ar r2] [] fun y =>
    .primU (Instr.storeAt I.tRef (pa t 1) (ar y)) [] (.primU (Instr.storeAt I.tRef (pa o 1) (ag [iV 0, iV 0])) [] (.endS (.ret (.bool true))))
  .loadS 5 (do eqGuard BinOp.eql I.tTreeP (Operand.tmp 12) (Operand.tmp 13) (pa o 0) (pa t 0); binOp BinOp.eql I.tTreeP (pa o 0) (pa t 0)) eBool fun (q : Bool) => .ite q (.endS (.ret (.bool false)))
    (.loadS 11 (Instr.loadAt I.tPoolP (pa o 0)) eBlk fun (p1 : Nat) => .loadS 15 (Instr.loadAt I.tPoolP (pa t 0)) eBlk fun (p2 : Nat) => .loadS 16 (do eqGuard BinOp.neq I.tPoolP (Operand.tmp 20) (Operand.tmp 24) (eBlk.enc p1) (eBlk.enc p2); binOp BinOp.neq I.tPoolP (eBlk.enc p1) (eBlk.enc p2)) eBool fun (q : Bool) =>
      .endS (.ite q (.ret (.bool false)) (cInt I.gLen [pa t 0] [] fun n => .call I.gAt [pa t 0, iV (wr (n - 1))].toArray [] (eTup2 I.eE eBool) fun (x : E × Bool) => .call I.gAt [pa o 0, iV 0].toArray [] (eTup2 I.eE eBool) fun (y : E × Bool) =>
        .ite x.2 (.ite y.2 (.ite (decide (I.cmp x.1 y.1 ≥ 0)) (.ret (.bool false)) fin) fin) fin)))
def cM (fid : FuncId) (cap : List Value) (x y : A) (k : Bool → Tree) : Tree := .call fid ([I.tA.val x, I.tA.val y] ++ cap).toArray [] eBool k
def iA (i : Int) (a : A) : Value := .tuple #[iV i, I.tA.val a]
def cF (t : Nat) (r : Rf) (i : Int) (a : A) (fid : FuncId) (cap : List Value) (k : Int × A → Tree) : Tree := .call I.gfirst [pa t 0, ar r, iV i, I.tA.val a, .func (.func fid) #[] cap.toArray].toArray [] (eTup2 eInt I.eA) k
def firstE (t : Nat) (n nl : Nd E A) (i : Int) (x : Int × A) (fid : FuncId) (cap : List Value) : Tree :=
  I.cF t n.right (wr (wr (i - nl.size) - 1)) (I.plus x.2 (I.sum n.e)) fid cap fun y => .endS (.ite (decide (y.1 ≥ 0)) (.endS (.ret (I.iA (wr (y.1 + wr (nl.size + 1))) y.2))) (.endS (.ret (I.iA y.1 y.2))))
def firstR (t : Nat) (n : Nd E A) (i : Int) (a : A) (fid : FuncId) (cap : List Value) : Tree :=
  I.cGet t n.left [] fun nl => I.cF t n.left i a fid cap fun x => .ite (decide (x.1 ≥ 0)) (.endS (.ret (I.iA x.1 x.2)))
    (.ite (decide (i ≤ nl.size)) (I.cM fid cap x.2 (I.sum n.e) fun m => .ite m (.endS (.ret (I.iA nl.size x.2))) (I.firstE t n nl i x fid cap)) (I.firstE t n nl i x fid cap))
def firstN (n : Nd E A) (a : A) : Tree := .ret (I.iA (-1) (I.plus a n.sum))
def firstT (t : Nat) (r : Rf) (i : Int) (a : A) (fid : FuncId) (cap : List Value) : Tree :=
  I.cGet t r [] fun n => .ite (n.size == 0) (I.firstN n a) (.ite (decide (i ≥ n.size)) (I.firstN n a) (.ite (decide (i ≤ 0)) (I.cM fid cap a n.sum fun m => .ite (!m) (I.firstN n a) (I.firstR t n i a fid cap)) (I.firstR t n i a fid cap)))
noncomputable def FirstT (t : Nat) (i : Int) (fid : FuncId) (cap : List Value) : Tree :=
  let mv : Value := .func (.func fid) #[] cap.toArray
  .loadS 4 (Instr.loadAt I.tRef (pa t 1)) eRef fun (r : Rf) => .loadS 6 (Builtin.max_ #[I.tI, I.tI] I.tI #[iV i, iV 0]) eInt fun (a : Int) => cInt I.gLen [pa t 0] [4, 6, 10] fun n => .loadS 9 (Builtin.min_ #[I.tI, I.tI] I.tI #[iV a, iV n]) eInt fun (b : Int) =>
    .call I.gfirst [pa t 0, ar r, iV b, I.tA.val I.zA, mv].toArray [] (eTup2 eInt I.eA) fun (x : Int × A) => .endS (.ret (iV x.1))
end GI
end Go.Sx
