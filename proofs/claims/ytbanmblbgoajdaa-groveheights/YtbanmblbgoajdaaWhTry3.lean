import Derived.Test.YtbanmblbgoajdaaWhTry2
set_option linter.unusedVariables false
set_option maxHeartbeats 1000000
namespace Go.Sx
open GI Go.RowKit
theorem eP_ty : eI.pool.Ty where
  good := ⟨eI_ok, try_mix⟩
  aI := by kernel_rfl
  aB := by kernel_rfl
  aIS := by kernel_rfl
  aS := by kernel_rfl
  aN := by kernel_rfl
  sI := by kernel_rfl
  sB := by kernel_rfl
  sIS := by kernel_rfl
  sS := by kernel_rfl
  sN := by kernel_rfl
  sC := by kernel_rfl
  uS := by kernel_rfl
  uIS := by kernel_rfl
  zC := by
    refine ⟨(Go.Proofs.Try.prog.info? 166).get (by kernel_rfl), ((Go.Proofs.Try.prog.info? 166).get (by kernel_rfl)).zero.get (by kernel_rfl), _, ?_, ?_, ?_, rfl, ?_⟩
    · kernel_rfl
    · kernel_rfl
    · kernel_rfl
    · exact Nat.le_of_ble_eq_true (by kernel_rfl)
  zI := by
    refine ⟨(Go.Proofs.Try.prog.info? 3).get (by kernel_rfl), ((Go.Proofs.Try.prog.info? 3).get (by kernel_rfl)).zero.get (by kernel_rfl), ?_, ?_, ?_, ?_⟩
    · kernel_rfl
    · kernel_rfl
    · kernel_rfl
    · kernel_rfl
  d1 := by decide
  d2 := by decide
  d3 := by decide
theorem eP_trees : eI.pool.Trees where
  find t r := fnT (fn := Go.Proofs.Try.f98) (fc := {}) (by kernel_rfl) (by kernel_rfl) (by kernel_rfl)
  get t r := fnT (fn := Go.Proofs.Try.f81) (fc := {}) (by kernel_rfl) (by kernel_rfl) (by kernel_rfl)
  set t r v := fnT (fn := Go.Proofs.Try.f85) (fc := {}) (by kernel_rfl) (by kernel_rfl) (by kernel_rfl)
  next t := fnT (fn := Go.Proofs.Try.f100) (fc := {}) (by kernel_rfl) (by kernel_rfl) (by kernel_rfl)
  put t v := fnT (fn := Go.Proofs.Try.f84) (fc := {}) (by kernel_rfl) (by kernel_rfl) (by kernel_rfl)
  drop t r := fnT (fn := Go.Proofs.Try.f83) (fc := {}) (by kernel_rfl) (by kernel_rfl) (by kernel_rfl)
  visits t := fnT (fn := Go.Proofs.Try.f54) (fc := {}) (by kernel_rfl) (by kernel_rfl) (by kernel_rfl)
theorem e_ty : eI.Ty where
  pool := eP_ty
  poolF := eP_trees
  aRef := by kernel_rfl
  sRef := by kernel_rfl
  aTP := by kernel_rfl
  d1 := by decide
  d2 := by decide
  d3 := by decide
theorem e_t1 : eI.Trees where
  get t r := fnT (fn := Go.Proofs.Try.f53) (fc := {}) (by kernel_rfl) (by kernel_rfl) (by kernel_rfl)
  lay t r l h := fnT (fn := Go.Proofs.Try.f86) (fc := {}) (by kernel_rfl) (by kernel_rfl) (by kernel_rfl)
  weight t r := fnT (fn := Go.Proofs.Try.f58) (fc := {}) (by kernel_rfl) (by kernel_rfl) (by kernel_rfl)
  turnL t r := fnT (fn := Go.Proofs.Try.f108) (fc := {}) (by kernel_rfl) (by kernel_rfl) (by kernel_rfl)
  turnR t r := fnT (fn := Go.Proofs.Try.f107) (fc := {}) (by kernel_rfl) (by kernel_rfl) (by kernel_rfl)
  balance t r := fnT (fn := Go.Proofs.Try.f99) (fc := {}) (by kernel_rfl) (by kernel_rfl) (by kernel_rfl)
  link t l m h := fnT (fn := Go.Proofs.Try.f82) (fc := {}) (by kernel_rfl) (by kernel_rfl) (by kernel_rfl)
theorem e_t2 : eI.Trees2 where
  base := e_t1
  last t r := fnT (fn := Go.Proofs.Try.f88) (fc := {}) (by kernel_rfl) (by kernel_rfl) (by kernel_rfl)
  merge t l r := fnT (fn := Go.Proofs.Try.f65) (fc := {}) (by kernel_rfl) (by kernel_rfl) (by kernel_rfl)
  put t r e := fnT (fn := Go.Proofs.Try.f56) (fc := {}) (by kernel_rfl) (by kernel_rfl) (by kernel_rfl)
  drop t r e := fnT (fn := Go.Proofs.Try.f55) (fc := {}) (by kernel_rfl) (by kernel_rfl) (by kernel_rfl)
theorem e_t3 : eI.Trees3 where
  base := e_t2
  len t := fnT (fn := Go.Proofs.Try.f17) (fc := {}) (by kernel_rfl) (by kernel_rfl) (by kernel_rfl)
  visits t := fnT (fn := Go.Proofs.Try.f18) (fc := {}) (by kernel_rfl) (by kernel_rfl) (by kernel_rfl)
  Put t e := fnT (fn := Go.Proofs.Try.f20) (fc := {}) (by kernel_rfl) (by kernel_rfl) (by kernel_rfl)
  Drop t e := fnT (fn := Go.Proofs.Try.f19) (fc := {}) (by kernel_rfl) (by kernel_rfl) (by kernel_rfl)
  Find t e := fnT (fn := Go.Proofs.Try.f24) (fc := eI.fcFind) (by kernel_rfl) (by kernel_rfl) (by kernel_rfl)
  Rank t e := fnT (fn := Go.Proofs.Try.f23) (fc := eI.fcRank) (by kernel_rfl) (by kernel_rfl) (by kernel_rfl)
theorem e_t4 : eI.Trees4 where
  base := e_t3
  between t r i j := fnT (fn := Go.Proofs.Try.f59) (fc := {}) (by kernel_rfl) (by kernel_rfl) (by kernel_rfl)
  Between t i j := fnT (fn := Go.Proofs.Try.f25) (fc := {}) (by kernel_rfl) (by kernel_rfl) (by kernel_rfl)
  new n := fnT (fn := Go.Proofs.Try.f15) (fc := { esc := [6] }) (by kernel_rfl) (by kernel_rfl) (by kernel_rfl)
  pnew n := fnT (fn := Go.Proofs.Try.f52) (fc := { esc := [7] }) (by kernel_rfl) (by kernel_rfl) (by kernel_rfl)
theorem e_tH : eI.TreesH where
  height t r := fnT (fn := Go.Proofs.Try.f57) (fc := {}) (by kernel_rfl) (by kernel_rfl) (by kernel_rfl)
  Height t := fnT (fn := Go.Proofs.Try.f22) (fc := {}) (by kernel_rfl) (by kernel_rfl) (by kernel_rfl)
theorem e_tF : eI.TreesF 51 [] where
  first t r i a := fnT (fn := Go.Proofs.Try.f80) (fc := {}) (by kernel_rfl) (by kernel_rfl) (by kernel_rfl)
  First t i := fnT (fn := Go.Proofs.Try.f50) (fc := {}) (by kernel_rfl) (by kernel_rfl) (by kernel_rfl)
theorem e_laws : eI.Laws where
  one e := by simp [eI, El.sum, Tide.plus]
end Go.Sx
