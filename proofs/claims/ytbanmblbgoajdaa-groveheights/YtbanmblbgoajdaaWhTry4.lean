import Derived.Test.YtbanmblbgoajdaaWhTry3
import Derived.Test.YtbanmblbgoajdaaWhBal
set_option linter.unusedVariables false
namespace Go.Sx
open GI Go.RowKit
structure ActE where (kind k w : Int)
def actC (a : ActE) : List Value := [iV a.kind, iV a.k, iV a.w]
def actCd : Codec ActE := mkCd ActE 3 actC (fun _ => rfl) (fun _ => rfl)
def eAct : Enc := eAg ActE actC
/-- For law 07's own functions. -/
noncomputable def l7 : Cfg where
  P := Go.Proofs.Try.prog
  hint t := lookup t [(3, Hint.ofE eInt), (4, Hint.ofE eBool), (34, Hint.ofE eBlk), (37, Hint.ofE eI.eE), (39, Hint.ofE eI.eA), (41, Hint.ofE eAct), (22, Hint.ofE eSl), (32, Hint.ofE eSl)]
  res f := lookup f [(13, Hint.ofE eBool), (14, Hint.ofE eBool), (15, Hint.ofE eBlk), (16, Hint.ofE eInt), (17, Hint.ofE eInt), (18, Hint.ofE eInt), (19, Hint.ofE (eEB eI)), (20, Hint.ofE eBool), (21, Hint.ofE eInt), (22, Hint.ofE eInt), (23, Hint.ofE eInt), (24, Hint.ofE (eEB eI)), (25, Hint.ofE eI.eA), (50, Hint.ofE eInt)]
  pure _ := none
  meth _ _ := none
end Go.Sx
