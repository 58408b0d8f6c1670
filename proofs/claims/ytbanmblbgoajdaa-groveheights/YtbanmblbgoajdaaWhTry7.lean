import Derived.Test.YtbanmblbgoajdaaWhTry6
import Derived.Test.YtbanmblbgoajdaaWhArg
set_option linter.unusedVariables false
set_option maxHeartbeats 2000000
namespace Go.Sx
open GI Go.RowKit

def iEmb (x : Int) : List SV := [.v (iV x)]
def fcI (k : Nat) : Fc := { lh := [(0, { slots := [k], L := Int, emb := iEmb })] }
noncomputable def smallT (s : Sl) (m : Int) : Tree :=
  .ite (decide ((s.n : Int) > m)) (.ret (.bool false)) (.loop (iEmb 0) Int iEmb fun l => .ite (decide (l < (s.n : Int)))
    (.prim (Instr.indexAt 32 (slV s) (iV l)) [] eAddr fun (a : Addr) => .prim (Instr.loadAt 3 (aa a 2)) [] eInt fun (x : Int) => .ite (decide (x < -1000000)) (.ret (.bool false))
      (.prim (Instr.indexAt 32 (slV s) (iV l)) [] eAddr fun (a : Addr) => .prim (Instr.loadAt 3 (aa a 2)) [] eInt fun (x : Int) => .ite (decide (x > 1000000)) (.ret (.bool false)) (.again 0 (iEmb (wr (l + 1))))))
    (.ret (.bool true)))
theorem small_t (s : Sl) (m : Int) : FnT l7 14 [slV s, iV m] (smallT s m) := fnT (fn := Go.Proofs.Try.f14) (fc := fcI 5) (by kernel_rfl) (by kernel_rfl) (by kernel_rfl)
noncomputable def moreT (t : Nat) (e : El) (l x6 x7 : Int) : Tree :=
  .call 18 [pa t 0].toArray [] eInt fun (x10 : Int) => .call 21 [iV (wr (x6 + 1))].toArray [] eInt fun (x11 : Int) => .ite (decide (wr (x10 - x7) > wr (200 * wr (x11 + 4)))) (.ret (.bool false))
          (.call 22 [pa t 0].toArray [] eInt fun (x12 : Int) => .call 17 [pa t 0].toArray [] eInt fun (x13 : Int) => .call 21 [iV x13].toArray [] eInt fun (x14 : Int) => .ite (decide (x12 > x14)) (.ret (.bool false))
          (.call 18 [pa t 0].toArray [] eInt fun (x15 : Int) => .call 23 [pa t 0, ag (elC e)].toArray [] eInt fun (_ : Int) => .call 24 [pa t 0, ag (elC e)].toArray [] (eEB eI) fun (_ : El × Bool) =>
           .call 25 [pa t 0, iV (wr (x6.tdiv 3)), iV (wr (x6.tdiv 2))].toArray [] eTide fun (_ : Tide) => .call 18 [pa t 0].toArray [] eInt fun (x : Int) => .call 21 [iV (wr (x6 + 1))].toArray [] eInt fun (x19 : Int) =>
           .ite (decide (wr (x - x15) > wr (600 * wr (x19 + 4)))) (.ret (.bool false)) (.again 0 (iEmb (wr (l + 1))))))
def elE (x3 : ActE) (x4 x5 : Int) : El := ⟨wr (x3.k.tmod 1000 + wr (x4 * x5)), x3.w⟩
noncomputable def stepT (s : Sl) (m : Int) (t : Nat) (l : Int) : Tree :=
  .prim (do eqGuard BinOp.rem 3 (Operand.tmp 28) (Operand.tmp 30) (iV l) (iV s.n); binOp BinOp.rem 3 (iV l) (iV s.n)) [] eInt fun (x1 : Int) =>
       .prim (Instr.indexAt 32 (slV s) (iV x1)) [] eAddr fun (a : Addr) => .prim (Instr.loadAt 41 (.pointer (some a))) [] eAct fun (x3 : ActE) =>
       .loadS 6 (do eqGuard BinOp.quo 3 (Operand.tmp 37) (Operand.tmp 39) (iV l) (iV s.n); binOp BinOp.quo 3 (iV l) (iV s.n)) eInt fun (x4 : Int) => .call 16 [iV m, iV 100].toArray [1, 2, 5, 6, 12] eInt fun (x5 : Int) => .endS
       (.call 17 [pa t 0].toArray [] eInt fun (x6 : Int) => .call 18 [pa t 0].toArray [] eInt fun (x7 : Int) => .call 16 [iV x3.kind, iV 5].toArray [] eInt fun (x8 : Int) =>
        .ite (x8 == 1) (.call 19 [pa t 0, ag (elC (elE x3 x4 x5))].toArray [] (eEB eI) fun (_ : El × Bool) => moreT t (elE x3 x4 x5) l x6 x7) (.call 20 [pa t 0, ag (elC (elE x3 x4 x5))].toArray [] eBool fun (_ : Bool) => moreT t (elE x3 x4 x5) l x6 x7))
noncomputable def runT (s : Sl) (m : Int) : Tree := .call 15 [iV 400].toArray [] eBlk fun (t : Nat) => .loop (iEmb 0) Int iEmb fun l => .ite (decide (l < wr (6 * (s.n : Int)))) (stepT s m t l) (.ret (.bool true))
def awakeC : Tree := .call 13 ([] : List Value).toArray [] eBool fun (x : Bool) => .ret (.bool x)
noncomputable def heightsT (s : Sl) (m : Int) : Tree :=
  .call 13 ([] : List Value).toArray [] eBool fun (x : Bool) => .ite (!x) awakeC (.call 14 [slV s, iV 60].toArray [] eBool fun (x : Bool) => .ite (!x) awakeC (runT s m))
theorem heights_t (s : Sl) (m : Int) : FnT l7 4 [slV s, iV m] (heightsT s m) := fnT (fn := Go.Proofs.Try.f4) (fc := fcI 6) (by kernel_rfl) (by kernel_rfl) (by kernel_rfl)
end Go.Sx
