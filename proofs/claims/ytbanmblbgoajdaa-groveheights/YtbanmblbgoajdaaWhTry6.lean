import Derived.Test.YtbanmblbgoajdaaWhTry5
import Derived.Laws.Entries
set_option linter.unusedVariables false
set_option maxHeartbeats 1000000
namespace Go.Sx
open GI Go.RowKit

theorem ld_rem {P : Program} {S : BS} {w : World} {t : TypeId} {x y : Operand} {a b : Int} (hb : b ≠ 0) : Ld P S w (do eqGuard BinOp.rem t x y (iV a) (iV b); binOp BinOp.rem t (iV a) (iV b)) (iV (a.tmod b)) := fun w' _ => by
  unfold iV
  simp [eqGuard_rem, binOp_rem, Op.intDiv, hb]
theorem ld_quo {P : Program} {S : BS} {w : World} {t : TypeId} {x y : Operand} {a b : Int} (hb : b ≠ 0) : Ld P S w (do eqGuard BinOp.quo t x y (iV a) (iV b); binOp BinOp.quo t (iV a) (iV b)) (iV (wr (a.tdiv b))) := fun w' _ => by
  unfold iV
  simp [eqGuard_quo, binOp_quo, Op.intDiv, hb]

/-! Rest and Height of the document's answer -/
def rest (a b : Int) : Int := (wr (a.tmod b + b)).tmod b
noncomputable def restT (a b : Int) : Tree := .prim (do eqGuard BinOp.rem 3 (Operand.tmp 5) (Operand.tmp 6) (iV a) (iV b); binOp BinOp.rem 3 (iV a) (iV b)) [] eInt fun (x : Int) =>
  .prim (do eqGuard BinOp.rem 3 (Operand.tmp 9) (Operand.tmp 10) (iV (wr (x + b))) (iV b); binOp BinOp.rem 3 (iV (wr (x + b))) (iV b)) [] eInt fun (x : Int) => .ret (iV x)
theorem rest_q (a b : Int) (hb : b ≠ 0) : Quiet Go.Proofs.Try.prog 16 [iV a, iV b] (iV (rest a b)) := by
  refine Quiet.of (c := l7) l7_ok try_mix (T := restT a b) (fnT (fn := Go.Proofs.Try.f16) (fc := {}) (by kernel_rfl) (by kernel_rfl) (by kernel_rfl)) fun w => ?_
  unfold restT
  refine TT_prim_ld (H := eInt) (x := a.tmod b) closed_nil (fun b hb => hb.elim) (ld_rem hb) ?_
  refine TT_prim_ld (H := eInt) (x := rest a b) closed_nil (fun b hb => hb.elim) (ld_rem hb) ?_
  exact fun _ _ => rfl

def hgt (n : Nat) : Nat := 2 + 3 * Nat.log2 (n + 1)
def hEmb (x : Int × Int) : List SV := [.v (iV x.1), .v (iV x.2)]
def fcH : Fc := { lh := [(0, { slots := [3, 4], L := Int × Int, emb := hEmb })] }
def heightRT (a : Int) : Tree := .loop (hEmb (2, wr (a + 1))) (Int × Int) hEmb fun l => .ite (decide (l.2 > 1)) (.again 0 (hEmb (wr (l.1 + 3), wr (l.2.tdiv 2)))) (.ret (iV l.1))
theorem hgt_q (n : Nat) (hn : n < 4611686018427387904) : Quiet Go.Proofs.Try.prog 21 [iV n] (iV (hgt n)) := by
  refine Quiet.of (c := l7) l7_ok try_mix (T := heightRT n) (fnT (fn := Go.Proofs.Try.f21) (fc := fcH) (by kernel_rfl) (by kernel_rfl) (by kernel_rfl)) fun w => ?_
  unfold heightRT
  have hlog : Nat.log2 (n + 1) < 63 := (Nat.log2_lt (by omega)).2 (by omega)
  refine ⟨fun l _ _ => ∃ (h k : Nat), l = ((h : Int), (k : Int)) ∧ 1 ≤ k ∧ k ≤ n + 1 ∧ h + 3 * Nat.log2 k = hgt n, fun l _ _ => l.2.toNat, fun l S w w' h _ => ⟨h, rfl⟩, ⟨(2, wr (n + 1)), rfl, 2, n + 1, by rw [wr_id (by omega) (by omega)]; simp, by omega, Nat.le_refl _, rfl⟩, ?_⟩
  rintro l S1 w1 ⟨h, k, rfl, hk1, hkn, hh⟩ _
  unfold hgt at hh
  refine ⟨fun hb => ?_, fun hb => ?_⟩
  · have hb : (k : Int) > 1 := of_decide_eq_true hb
    have hk2 : 2 ≤ k := by omega
    have hl : Nat.log2 k = Nat.log2 (k / 2) + 1 := by rw [Nat.log2_def, if_pos hk2]
    refine ⟨_, rfl, _, rfl, ⟨h + 3, k / 2, ?_, by omega, by omega, by unfold hgt; omega⟩, ?_⟩
    · have e1 : wr ((h : Int) + 3) = h + 3 := wr_id (by omega) (by omega)
      have e2 : (k : Int).tdiv 2 = ((k / 2 : Nat) : Int) := by rw [Int.tdiv_eq_ediv_of_nonneg (by omega)]; omega
      rw [e2, e1, wr_id (by omega) (by omega)]; rfl
    · have e2 : (k : Int).tdiv 2 = ((k / 2 : Nat) : Int) := by rw [Int.tdiv_eq_ediv_of_nonneg (by omega)]; omega
      simp only [e2]; rw [wr_id (by omega) (by omega)]; omega
  · have hb : ¬ (k : Int) > 1 := of_decide_eq_false hb
    have hk : k = 1 := by omega
    subst hk
    have h1 : Nat.log2 1 = 0 := by decide
    rw [h1] at hh
    intro _ _
    show iV (h : Int) = iV (hgt n)
    unfold hgt; rw [← hh]; simp

theorem height_le {E : Type} {s : BT E} (hb : s.Bal) : s.height ≤ hgt s.size := by
  unfold hgt
  rcases Nat.lt_or_ge s.height (3 * (Nat.log2 (s.size + 1) + 1)) with h | h
  · omega
  · have := BT.height_pow _ hb h
    have h2 := Nat.lt_log2_self (n := s.size + 1)
    simp only [BT.w] at this
    omega
theorem hgt_mono {a b : Nat} (h : a ≤ b) : hgt a ≤ hgt b := by
  unfold hgt
  have : Nat.log2 (a + 1) ≤ Nat.log2 (b + 1) := by
    rcases Nat.lt_or_ge (Nat.log2 (b + 1)) (Nat.log2 (a + 1)) with h2 | h2
    · have h3 := Nat.lt_log2_self (n := b + 1)
      have h4 := Nat.log2_self_le (n := a + 1) (by omega)
      have : 2 ^ (Nat.log2 (b + 1) + 1) ≤ 2 ^ Nat.log2 (a + 1) := Nat.pow_le_pow_right (by omega) h2
      omega
    · exact h2
  omega

/-! What Between visits -/
theorem btwC_left {E : Type} : ∀ (s : BT E) (i j : Int), i ≤ 0 → btwC s i j ≤ 1 + 3 * s.height
  | .nil, i, j, h => by simp [btwC]
  | .node r l e g, i, j, h => by
    have hs : ((BT.node r l e g).size : Int) = (l.size : Int) + 1 + g.size := by simp only [BT.size]; omega
    unfold btwC
    simp only [BT.height]
    split
    · omega
    · rename_i c1
      split
      · omega
      · rename_i c2
        rw [hs] at c1 c2
        by_cases hj : j ≤ (l.size : Int) + 1
        · have hl := btwC_left l i j h
          have hg : btwC g (i - l.size - 1) (j - l.size - 1) ≤ 1 := by
            cases g with
            | nil => simp [btwC]
            | node r l e g => rw [btwC, if_pos (by omega)]; exact Nat.le_refl _
          omega
        · have hg := btwC_left g (i - l.size - 1) (j - l.size - 1) (by omega)
          have hl : btwC l i j ≤ 1 := by
            cases l with
            | nil => simp [btwC]
            | node r l e g =>
              rw [btwC]
              split
              · exact Nat.le_refl _
              · rw [if_pos ⟨h, by omega⟩]; exact Nat.le_refl _
          omega
theorem btwC_right {E : Type} : ∀ (s : BT E) (i j : Int), j ≥ s.size → btwC s i j ≤ 1 + 3 * s.height
  | .nil, i, j, h => by simp [btwC]
  | .node r l e g, i, j, h => by
    have hs : ((BT.node r l e g).size : Int) = (l.size : Int) + 1 + g.size := by simp only [BT.size]; omega
    rw [hs] at h
    unfold btwC
    simp only [BT.height]
    split
    · omega
    · rename_i c1
      split
      · omega
      · rename_i c2
        rw [hs] at c1 c2
        by_cases hi : i ≤ (l.size : Int)
        · have hl := btwC_right l i j (by omega)
          have hg : btwC g (i - l.size - 1) (j - l.size - 1) ≤ 1 := by
            cases g with
            | nil => simp [btwC]
            | node r l e g =>
              rw [btwC]
              split
              · exact Nat.le_refl _
              · rw [if_pos ⟨by omega, by omega⟩]; exact Nat.le_refl _
          omega
        · have hg := btwC_right g (i - l.size - 1) (j - l.size - 1) (by omega)
          have hl : btwC l i j ≤ 1 := by
            cases l with
            | nil => simp [btwC]
            | node r l e g => rw [btwC, if_pos (by omega)]; exact Nat.le_refl _
          omega
theorem btwC_le {E : Type} : ∀ (s : BT E) (i j : Int), btwC s i j ≤ 1 + 6 * s.height
  | .nil, i, j => by simp [btwC]
  | .node r l e g, i, j => by
    have hs : ((BT.node r l e g).size : Int) = (l.size : Int) + 1 + g.size := by simp only [BT.size]; omega
    unfold btwC
    simp only [BT.height]
    split
    · omega
    · rename_i c1
      split
      · omega
      · rename_i c2
        rw [hs] at c1 c2
        by_cases hj : j ≤ (l.size : Int) + 1
        · have hl := btwC_le l i j
          have hg : btwC g (i - l.size - 1) (j - l.size - 1) ≤ 1 := by
            cases g with
            | nil => simp [btwC]
            | node r l e g => rw [btwC, if_pos (by omega)]; exact Nat.le_refl _
          omega
        · by_cases hi : i ≤ (l.size : Int)
          · have hl := btwC_right l i j (by omega)
            have hg := btwC_left g (i - l.size - 1) (j - l.size - 1) (by omega)
            omega
          · have hg := btwC_le g (i - l.size - 1) (j - l.size - 1)
            have hl : btwC l i j ≤ 1 := by
              cases l with
              | nil => simp [btwC]
              | node r l e g => rw [btwC, if_pos (by omega)]; exact Nat.le_refl _
            omega
end Go.Sx
