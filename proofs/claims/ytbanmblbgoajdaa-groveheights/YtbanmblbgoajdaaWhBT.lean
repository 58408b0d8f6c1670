import Derived.Test.YtbanmblbgoajdaaWhView
set_option linter.unusedVariables false
namespace Go.Sx

/-! ### Trees, as plain data -/
inductive BT (E : Type) where
  | nil
  | node (r : Rf) (l : BT E) (e : E) (h : BT E)

namespace BT
variable {E : Type}
def ref : BT E → Rf
  | nil => ⟨0, 0⟩
  | node r _ _ _ => r
def size : BT E → Nat
  | nil => 0
  | node _ l _ h => l.size + 1 + h.size
def refs : BT E → List Rf
  | nil => []
  | node r l _ h => l.refs ++ r :: h.refs
def elems : BT E → List E
  | nil => []
  | node _ l e h => l.elems ++ e :: h.elems
def height : BT E → Nat
  | nil => 0
  | node _ l _ h => 1 + max l.height h.height
/-- A tree's size and one. -/
def w (t : BT E) : Nat := t.size + 1
theorem w_nil : (nil : BT E).w = 1 := rfl
theorem w_node {r : Rf} {l h : BT E} {e : E} : (node r l e h).w = l.w + h.w := by simp only [w, size]; omega
theorem w_pos (t : BT E) : 0 < t.w := by simp [w]

def turnL : BT E → BT E
  | node r l e (node r2 hl e2 hh) => node r2 (node r l e hl) e2 hh
  | t => t
def turnR : BT E → BT E
  | node r (node r2 ll e2 lh) e h => node r2 ll e2 (node r lh e h)
  | t => t
/-- Is its left tree (its right one) much the heavier? -/
def dblL : BT E → Bool
  | node _ l _ h => decide (2 * h.w ≤ l.w)
  | nil => false
def dblR : BT E → Bool
  | node _ l _ h => decide (2 * l.w ≤ h.w)
  | nil => false
def bal (r : Rf) (l : BT E) (e : E) (h : BT E) : BT E :=
  if 3 * l.w < h.w then (if h.dblL then turnL (node r l e h.turnR) else turnL (node r l e h))
  else if 3 * h.w < l.w then (if l.dblR then turnR (node r l.turnL e h) else turnR (node r l e h))
  else node r l e h
def link (a : BT E) (m : Rf) (e : E) (b : BT E) : BT E :=
  if 3 * a.w < b.w then
    match b with
    | node r l f h => bal r (link a m e l) f h
    | nil => node m a e b
  else if 3 * b.w < a.w then
    match a with
    | node r l f h => bal r l f (link h m e b)
    | nil => node m a e b
  else node m a e b
termination_by a.size + b.size
decreasing_by all_goals simp only [size]; omega
/-- How often link goes down. -/
def linkD (a b : BT E) : Nat :=
  if 3 * a.w < b.w then
    match b with
    | node r l f h => linkD a l + 1
    | nil => 0
  else if 3 * b.w < a.w then
    match a with
    | node r l f h => linkD h b + 1
    | nil => 0
  else 0
termination_by a.size + b.size
decreasing_by all_goals simp only [size]; omega

theorem refs_nil : (nil : BT E).refs = [] := rfl
theorem refs_node (r : Rf) (l h : BT E) (e : E) : (node r l e h).refs = l.refs ++ r :: h.refs := rfl
theorem link_R {a : BT E} {m : Rf} {e : E} {r : Rf} {l h : BT E} {f : E} (hc : 3 * a.w < (node r l f h).w) : link a m e (node r l f h) = bal r (link a m e l) f h := by rw [link.eq_def, if_pos hc]
theorem link_L {b : BT E} {m : Rf} {e : E} {r : Rf} {l h : BT E} {f : E} (h1 : ¬ 3 * (node r l f h).w < b.w) (hc : 3 * b.w < (node r l f h).w) : link (node r l f h) m e b = bal r l f (link h m e b) := by rw [link.eq_def, if_neg h1, if_pos hc]
theorem link_M {a b : BT E} {m : Rf} {e : E} (h1 : ¬ 3 * a.w < b.w) (h2 : ¬ 3 * b.w < a.w) : link a m e b = node m a e b := by rw [link.eq_def, if_neg h1, if_neg h2]
theorem linkD_R {a : BT E} {r : Rf} {l h : BT E} {f : E} (hc : 3 * a.w < (node r l f h).w) : linkD a (node r l f h) = linkD a l + 1 := by rw [linkD.eq_def, if_pos hc]
theorem linkD_L {b : BT E} {r : Rf} {l h : BT E} {f : E} (h1 : ¬ 3 * (node r l f h).w < b.w) (hc : 3 * b.w < (node r l f h).w) : linkD (node r l f h) b = linkD h b + 1 := by rw [linkD.eq_def, if_neg h1, if_pos hc]
theorem linkD_M {a b : BT E} (h1 : ¬ 3 * a.w < b.w) (h2 : ¬ 3 * b.w < a.w) : linkD a b = 0 := by rw [linkD.eq_def, if_neg h1, if_neg h2]
/-! The elements stay as they are; the handles too. -/
theorem turnL_elems (t : BT E) : t.turnL.elems = t.elems := by
  cases t with
  | nil => rfl
  | node r l e h => cases h <;> simp [turnL, elems]
theorem turnR_elems (t : BT E) : t.turnR.elems = t.elems := by
  cases t with
  | nil => rfl
  | node r l e h => cases l <;> simp [turnR, elems]
theorem turnL_refs (t : BT E) : t.turnL.refs = t.refs := by
  cases t with
  | nil => rfl
  | node r l e h => cases h <;> simp [turnL, refs]
theorem turnR_refs (t : BT E) : t.turnR.refs = t.refs := by
  cases t with
  | nil => rfl
  | node r l e h => cases l <;> simp [turnR, refs]
theorem bal_elems (r : Rf) (l : BT E) (e : E) (h : BT E) : (bal r l e h).elems = l.elems ++ e :: h.elems := by
  unfold bal
  repeat' split
  all_goals simp only [turnL_elems, turnR_elems, elems]
theorem bal_refs (r : Rf) (l : BT E) (e : E) (h : BT E) : (bal r l e h).refs = l.refs ++ r :: h.refs := by
  unfold bal
  repeat' split
  all_goals simp only [turnL_refs, turnR_refs, refs]
theorem link_elems (a : BT E) (m : Rf) (e : E) (b : BT E) : (link a m e b).elems = a.elems ++ e :: b.elems := by
  fun_induction link a m e b with
  | case1 a r l f h hw ih => rw [bal_elems, ih]; simp [elems]
  | case2 => rfl
  | case3 b r l f h h1 h2 ih => rw [bal_elems, ih]; simp [elems]
  | case4 => rfl
  | case5 => rfl
theorem link_refs (a : BT E) (m : Rf) (e : E) (b : BT E) : (link a m e b).refs = a.refs ++ m :: b.refs := by
  fun_induction link a m e b with
  | case1 a r l f h hw ih => rw [bal_refs, ih]; simp [refs]
  | case2 => rfl
  | case3 b r l f h h1 h2 ih => rw [bal_refs, ih]; simp [refs]
  | case4 => rfl
  | case5 => rfl
theorem size_elems (t : BT E) : t.size = t.elems.length := by
  induction t with
  | nil => rfl
  | node r l e h ihl ihh => simp [size, elems, ihl, ihh]; omega
theorem size_refs (t : BT E) : t.size = t.refs.length := by
  induction t with
  | nil => rfl
  | node r l e h ihl ihh => simp [size, refs, ihl, ihh]; omega
theorem link_size (a : BT E) (m : Rf) (e : E) (b : BT E) : (link a m e b).size = a.size + b.size + 1 := by
  rw [size_elems, link_elems, size_elems a, size_elems b]; simp; omega
theorem bal_size (r : Rf) (l : BT E) (e : E) (h : BT E) : (bal r l e h).size = l.size + h.size + 1 := by rw [size_elems, bal_elems, size_elems l, size_elems h]; simp; omega
end BT
end Go.Sx
