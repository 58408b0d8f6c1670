import Derived.Test.YtbanmblbgoajdaaWhTypes
set_option linter.unusedVariables false
namespace Go.Sx

/-- A kind of tree: types, functions, order, sums. -/
structure GI (E A : Type) where
  P : Program
  tE : Ty E
  tA : Ty A
  zE : E
  zA : A
  cmp : E → E → Int
  sum : E → A
  plus : A → A → A
  tI : TypeId
  tB : TypeId
  tIS : TypeId
  tRef : TypeId
  tEl : TypeId
  tSum : TypeId
  tES : TypeId
  tTree : TypeId
  tTreeP : TypeId
  tPoolP : TypeId
  tS : TypeId
  tN : TypeId
  tC : TypeId
  tP : TypeId
  mCmp : FuncId
  mSum : FuncId
  mPlus : FuncId
  fFind : FuncId
  fGet : FuncId
  fSet : FuncId
  fNext : FuncId
  fPut : FuncId
  fDrop : FuncId
  fVisits : FuncId
  fNew : FuncId
  gNew : FuncId
  gGet : FuncId
  gLay : FuncId
  gWeight : FuncId
  gTurnL : FuncId
  gTurnR : FuncId
  gBalance : FuncId
  gLink : FuncId
  gLast : FuncId
  gMerge : FuncId
  gLen : FuncId
  gput : FuncId
  gPut : FuncId
  gdrop : FuncId
  gDrop : FuncId
  gFind : FuncId
  gRank : FuncId
  gAt : FuncId
  gbetween : FuncId
  gBetween : FuncId
  gfirst : FuncId
  gFirst : FuncId
  glastOf : FuncId
  gLastOf : FuncId
  gsplit : FuncId
  gSplit : FuncId
  gJoin : FuncId
  gall : FuncId
  gAll : FuncId
  gheight : FuncId
  gHeight : FuncId
  gVisits : FuncId
  cls : List FuncId

namespace GI
variable {E A : Type} (I : GI E A)
def zN : Nd E A := ⟨I.zE, ⟨0, 0⟩, ⟨0, 0⟩, 0, I.zA⟩
def nd : Codec (Nd E A) := ndCd I.tE I.tA
def eNd : Enc := eAg _ I.nd.enc
def eRef : Enc := eAg Rf rfC
def eE : Enc := ⟨E, I.tE.val⟩
def eA : Enc := ⟨A, I.tA.val⟩
universe u
def lookup {T : Type u} (n : Nat) : List (Nat × T) → Option T
  | [] => none
  | (k, v) :: l => bif k == n then some v else lookup n l
noncomputable def cfg : Cfg where
  P := I.P
  hint t := lookup t [(I.tI, Hint.ofE eInt), (I.tB, Hint.ofE eBool), (I.tIS, Hint.ofE eSl), (I.tRef, Hint.ofE eRef), (I.tN, Hint.ofE I.eNd), (I.tTreeP, Hint.ofE eBlk), (I.tPoolP, Hint.ofE eBlk), (I.tS, Hint.ofE eSl), (I.tES, Hint.ofE eSl), (I.tEl, Hint.ofE I.eE), (I.tSum, Hint.ofE I.eA)]
  res f := bif I.cls.contains f then some (Hint.ofE eBool) else lookup f [(I.fFind, Hint.opt Addr id), (I.fGet, Hint.ofE (eTup2 I.eNd eBool)), (I.fSet, Hint.ofE eBool), (I.fNext, Hint.ofE eInt), (I.fPut, Hint.ofE (eTup2 eRef eBool)), (I.fDrop, Hint.ofE (eTup2 I.eNd eBool)), (I.fVisits, Hint.ofE eInt), (I.fNew, Hint.ofE eBlk), (I.gNew, Hint.ofE eBlk),
    (I.gGet, Hint.ofE I.eNd), (I.gLay, Hint.ofE eRef), (I.gWeight, Hint.ofE eInt), (I.gTurnL, Hint.ofE eRef), (I.gTurnR, Hint.ofE eRef), (I.gBalance, Hint.ofE eRef), (I.gLink, Hint.ofE eRef), (I.gLast, Hint.ofE (eTup2 eRef eRef)), (I.gMerge, Hint.ofE eRef), (I.gLen, Hint.ofE eInt),
    (I.gput, Hint.ofE (eTup2 eRef eBool)), (I.gdrop, Hint.ofE (eTup3 eRef I.eE eBool)), (I.gbetween, Hint.ofE I.eA), (I.gfirst, Hint.ofE (eTup2 eInt I.eA)), (I.glastOf, Hint.ofE eInt), (I.gsplit, Hint.ofE (eTup2 eRef eRef)), (I.gall, Hint.ofE eSl), (I.gheight, Hint.ofE eInt), (I.gAt, Hint.ofE (eTup2 I.eE eBool))]
  pure f :=
    bif f == I.mCmp then some fun | [x, y] => (I.tE.of x).bind fun a => (I.tE.of y).map fun b => iV (I.cmp a b) | _ => none
    else bif f == I.mSum then some fun | [x] => (I.tE.of x).map fun a => I.tA.val (I.sum a) | _ => none
    else bif f == I.mPlus then some fun | [x, y] => (I.tA.of x).bind fun a => (I.tA.of y).map fun b => I.tA.val (I.plus a b) | _ => none
    else none
  meth t n := bif t == I.tEl then (if n == "Sum" then some I.mSum else if n == "Compare" then some I.mCmp else none) else bif t == I.tSum then (if n == "Plus" then some I.mPlus else none) else none
noncomputable def pool : PI (Nd E A) where
  c := I.cfg
  C := I.nd
  z := I.zN
  tI := I.tI
  tB := I.tB
  tIS := I.tIS
  tS := I.tS
  tN := I.tN
  tC := I.tC
  tP := I.tP
  fFind := I.fFind
  fGet := I.fGet
  fSet := I.fSet
  fNext := I.fNext
  fPut := I.fPut
  fDrop := I.fDrop
  fVisits := I.fVisits
  fNew := I.fNew
end GI
end Go.Sx
