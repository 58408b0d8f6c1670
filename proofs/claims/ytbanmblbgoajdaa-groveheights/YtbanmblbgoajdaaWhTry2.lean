import Derived.Test.YtbanmblbgoajdaaWhTry1
set_option linter.unusedVariables false
set_option maxHeartbeats 1000000
namespace Go.Sx
open GI Go.RowKit
def cmpT (a b : El) : Tree := .ite (decide (a.k < b.k)) (.ret (iV (-1))) (.ite (decide (a.k > b.k)) (.ret (iV 1)) (.ret (iV 0)))
theorem cmp_q (a b : El) : Quiet Go.Proofs.Try.prog 131 [ag (elC a), ag (elC b)] (iV (El.cmp a b)) := by
  refine Quiet.of (c := tT.cfg) tT_ok.ok try_mix (T := cmpT a b) (fnT (fn := Go.Proofs.Try.f131) (fc := {}) (by kernel_rfl) (by kernel_rfl) (by kernel_rfl)) fun w => ?_
  unfold cmpT El.cmp
  refine ⟨fun hb => ?_, fun hb => ⟨fun hb2 => ?_, fun hb2 => ?_⟩⟩
  · rw [if_pos (of_decide_eq_true hb)]; exact fun _ _ => rfl
  · rw [if_neg (of_decide_eq_false hb), if_pos (of_decide_eq_true hb2)]; exact fun _ _ => rfl
  · rw [if_neg (of_decide_eq_false hb), if_neg (of_decide_eq_false hb2)]; exact fun _ _ => rfl
def sumT (a : El) : Tree := .prim (Instr.buildSlice 22 1 #[(0, iV a.w)]) [] eSl fun (s : Sl) => .call 133 [slV s].toArray [] eTide fun (x : Tide) => .ret (ag (tideC x))
theorem sum_q (a : El) : Quiet Go.Proofs.Try.prog 132 [ag (elC a)] (ag (tideC (El.sum a))) := by
  refine Quiet.of (c := tT.cfg) tT_ok.ok try_mix (T := sumT a) (fnT (fn := Go.Proofs.Try.f132) (fc := { esc := [5] }) (by kernel_rfl) (by kernel_rfl) (by kernel_rfl)) fun w => ?_
  unfold sumT
  refine TT_row (cs := [iV a.w]) (e := 3) (by kernel_rfl) closed_nil (fun b hb => hb.elim) fun b w1 hb _ _ _ _ => ?_
  have hrow : RowAt w1 3 intCd ⟨some ⟨b, 0, none⟩, 1, 1⟩ [a.w] := RowAt.fresh (xs := [a.w]) hb (by simp [maxLen])
  refine TT_call0 (H := eTide) (X := fun (x : Tide) F1 w1 => x = Tide.of [a.w]) closed_nil (fun b' hb' => by rcases hb' with rfl | hb'; exact heap_lt hb; exact hb'.elim) (fun w' hk _ => ?_) ?_
  · refine (tT_ok.of_spec (hrow.keep fun b' hb' => hk b' (.inl ?_)) (fun b' => ?_) (by simp)).mono fun v F1 w1 _ ⟨h1, h2⟩ => ⟨_, h1, rfl⟩
    · simp [slV, Value.ownBlock] at hb'; exact hb'.symm
    · simp [slV, Value.ownBlock, none0]; exact eq_comm
  · rintro x F1 w1 rfl _ _ _
    intro _ _
    simp [Tide.of, Tide.plus, El.sum]

theorem eI_ok : eI.cfg.Ok where
  pure f g args v h hv := by
    have h' : (bif f == 131 then some (fun | [x, y] => (elT.of x).bind fun a => (elT.of y).map fun b => iV (El.cmp a b) | _ => none)
      else bif f == 132 then some (fun | [x] => (elT.of x).map fun a => tideT.val (El.sum a) | _ => none)
      else bif f == 134 then some (fun | [x, y] => (tideT.of x).bind fun a => (tideT.of y).map fun b => tideT.val (Tide.plus a b) | _ => none) else none) = some g := h
    have hel : ∀ v a, elT.of v = some a → v = ag (elC a) := fun v a => agOf_of (C := elCd) elOf_of v a
    have htd : ∀ v a, tideT.of v = some a → v = ag (tideC a) := fun v a => agOf_of (C := tideCd) tideOf_of v a
    cases h1 : (f == 131) with
    | true =>
      have e : f = 131 := eq_of_beq h1
      subst e
      rw [h1, cond_true] at h'
      injection h' with h'; subst h'
      simp only at hv
      split at hv
      · rename_i x y
        simp only [Option.bind_eq_some_iff, Option.map_eq_some_iff] at hv
        obtain ⟨a, ha, b, hb, rfl⟩ := hv
        rw [hel _ _ ha, hel _ _ hb]
        exact cmp_q a b
      · cases hv
    | false =>
      rw [h1, cond_false] at h'
      cases h2 : (f == 132) with
      | true =>
        have e : f = 132 := eq_of_beq h2
        subst e
        rw [h2, cond_true] at h'
        injection h' with h'; subst h'
        simp only at hv
        split at hv
        · rename_i x
          simp only [Option.map_eq_some_iff] at hv
          obtain ⟨a, ha, rfl⟩ := hv
          rw [hel _ _ ha]
          exact sum_q a
        · cases hv
      | false =>
        rw [h2, cond_false] at h'
        cases h3 : (f == 134) with
        | true =>
          have e : f = 134 := eq_of_beq h3
          subst e
          rw [h3, cond_true] at h'
          injection h' with h'; subst h'
          simp only at hv
          split at hv
          · rename_i x y
            simp only [Option.bind_eq_some_iff, Option.map_eq_some_iff] at hv
            obtain ⟨a, ha, b, hb, rfl⟩ := hv
            rw [htd _ _ ha, htd _ _ hb]
            exact tT_ok.plus_q a b
          · cases hv
        | false => rw [h3, cond_false] at h'; cases h'
  meth t n f h := by
    have h' : (bif t == 37 then (if n == "Sum" then some 132 else if n == "Compare" then some 131 else none) else bif t == 39 then (if n == "Plus" then some 134 else none) else none) = some f := h
    cases h1 : (t == 37) with
    | true =>
      have e : t = 37 := eq_of_beq h1
      subst e
      rw [h1, cond_true] at h'
      split at h'
      · rename_i e2
        have e2 := eq_of_beq e2
        subst e2
        injection h' with h'; subst h'
        intro v w
        kernel_rfl
      · split at h'
        · rename_i e2
          have e2 := eq_of_beq e2
          subst e2
          injection h' with h'; subst h'
          intro v w
          kernel_rfl
        · cases h'
    | false =>
      rw [h1, cond_false] at h'
      cases h2 : (t == 39) with
      | true =>
        have e : t = 39 := eq_of_beq h2
        subst e
        rw [h2, cond_true] at h'
        split at h'
        · rename_i e2
          have e2 := eq_of_beq e2
          subst e2
          injection h' with h'; subst h'
          intro v w
          kernel_rfl
        · cases h'
      | false => rw [h2, cond_false] at h'; cases h'
end Go.Sx
