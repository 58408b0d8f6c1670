import Derived.Test.YtbanmblbgoajdaaWhSmall
import Derived.Test.YtbanmblbgoajdaaProg
import Derived.KernelRfl
set_option linter.unusedVariables false
namespace Go.Sx
def El.cmp (a b : El) : Int := if a.k < b.k then -1 else if a.k > b.k then 1 else 0
def El.sum (a : El) : Tide := ⟨1, a.w, a.w⟩
noncomputable def eI : GI El Tide where
  P := Go.Proofs.Try.prog
  tE := elT
  tA := tideT
  zE := ⟨0, 0⟩
  zA := ⟨0, 0, 0⟩
  cmp := El.cmp
  sum := El.sum
  plus := Tide.plus
  tI := 3
  tB := 4
  tIS := 22
  tRef := 95
  tEl := 37
  tSum := 39
  tES := 111
  tTree := 99
  tTreeP := 34
  tPoolP := 92
  tS := 137
  tN := 97
  tC := 166
  tP := 139
  mCmp := 131
  mSum := 132
  mPlus := 134
  fFind := 98
  fGet := 81
  fSet := 85
  fNext := 100
  fPut := 84
  fDrop := 83
  fVisits := 54
  fNew := 52
  gNew := 15
  gGet := 53
  gLay := 86
  gWeight := 58
  gTurnL := 108
  gTurnR := 107
  gBalance := 99
  gLink := 82
  gLast := 88
  gMerge := 65
  gLen := 17
  gput := 56
  gPut := 20
  gdrop := 55
  gDrop := 19
  gFind := 24
  gRank := 23
  gAt := 64
  gbetween := 59
  gBetween := 25
  gfirst := 80
  gFirst := 50
  glastOf := 10000
  gLastOf := 10000
  gsplit := 61
  gSplit := 28
  gJoin := 30
  gall := 87
  gAll := 62
  gheight := 57
  gHeight := 22
  gVisits := 18
  cls := [51]
open GI
noncomputable def tT : TI where
  P := Go.Proofs.Try.prog
  tI := 3
  tIS := 22
  tTide := 39
  fOf := 133
  fPlus := 134
theorem fnT {c : Cfg} {f : FuncId} {args : List Value} {T : Tree} {fn : Func} {fc : Fc} (hcb : callB c.P f = true) (hf : c.P.funcs[f]? = some fn) (ht : sxFn c fc fn args = T) : FnT c f args T := ⟨hcb, fn, fc, hf, ht⟩
theorem try_mix : Go.Proofs.Try.prog.follows .mixedOrders = true := by kernel_rfl
theorem tT_ok : tT.Ok where
  ok := ⟨fun f g args v h _ => (by cases h), fun t n f h => (by cases h)⟩
  mix := try_mix
  plus a b := fnT (fn := Go.Proofs.Try.f134) (fc := {}) (by kernel_rfl) (by kernel_rfl) (by kernel_rfl)
  of s := fnT (fn := Go.Proofs.Try.f133) (fc := tT.fcOf) (by kernel_rfl) (by kernel_rfl) (by kernel_rfl)
  aI := by kernel_rfl
  sI := by kernel_rfl
  uIS := by kernel_rfl
end Go.Sx
