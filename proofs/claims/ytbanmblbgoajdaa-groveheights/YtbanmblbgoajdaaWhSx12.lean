import Derived.Test.YtbanmblbgoajdaaWhSx11
set_option linter.unusedVariables false
set_option maxHeartbeats 2000000
namespace Go.Sx
open Go.RowKit

section
variable {P : Program} {B : Nat} {R : Value → BS → World → Prop} {S0 S : BS} {s : List SV} {a : Act} {w0 w : World} {ρ : Nat → Nat}

theorem res_run (hG : Gam B S s a w ρ) (f : ResultVar → Sem Value) (hf : ∀ u, f (.tmp u) = pure (a.tmps.getD u undef)) (hc : ∀ x t, f (.cell x t) = (do loadVar t (← asAddr (a.tmps.getD x undef)))) :
    ∀ (rs : List ResultVar) (vs : List Value), rs.mapM (resOf P s) = some vs → (rs.mapM f).run P w = .ok vs w := by
  intro rs
  induction rs with
  | nil => intro vs h; simp at h; subst h; simp
  | cons x rs ih =>
    intro vs h
    simp only [List.mapM_cons, Option.bind_eq_bind, Option.bind_eq_some_iff, Option.pure_def, Option.some.injEq] at h
    obtain ⟨v, hv, vs', hvs, rfl⟩ := h
    have ih' := ih vs' hvs
    cases x with
    | tmp t =>
      have hval : a.tmps.getD t undef = v := by
        simp only [resOf] at hv
        split at hv
        · rename_i y hs; injection hv with hv; subst hv; exact hG.slot t _ hs
        · rename_i b hs; injection hv with hv; subst hv; exact hG.slot t _ hs
        · cases hv
      simp [List.mapM_cons, hf, ih', hval]
    | cell x t =>
      simp only [resOf] at hv
      split at hv
      · rename_i ty cells hs
        have hp : a.tmps.getD x undef = .pointer (some ⟨ρ x, 0, none⟩) := hG.slot x _ hs
        have hh := hG.box _ _ _ hs
        have hrun : (loadVar t ⟨ρ x, 0, none⟩).run P w = .ok v w := by
          have key : ∀ v', (Instr.loadAt t (.pointer (some ⟨ρ x, 0, none⟩))).run P w = .ok v' w → (loadVar t ⟨ρ x, 0, none⟩).run P w = .ok v' w := fun v' h => by
            simpa only [Instr.loadAt, Instr.sureAddr, Sem.run_bind, Sem.run_pure, Result.andThen_ok] using h
          split at hv
          · rename_i n ha hn
            split at hv
            · rename_i hle
              injection hv with hv; subst hv
              have hle := Nat.eq_of_beq_eq_true hle
              have := run_load_agg (off := 0) hh ha hn (by omega)
              rw [List.drop_zero, List.take_of_length_le (by omega)] at this
              exact key _ this
            · cases hv
          · rename_i ha hn
            exact key _ (run_load_one (off := 0) hh ha hv)
          · cases hv
        rw [List.mapM_cons, hc, hp]
        simp [asAddr, hrun, ih']
      · cases hv

theorem results_sound (hG : Gam B S s a w ρ) {fn : Func} {v : Value} (h : resultsOf P fn s = some v) : (results fn a.tmps).run P w = .ok v w := by
  unfold resultsOf at h
  have hl : fn.results = fn.results.toList.toArray := rfl
  unfold results
  rw [hl, List.mapM_toArray]
  simp only [Sem.run_bind, Sem.run_map]
  split at h
  · cases h
  · rename_i v0 hm
    rw [res_run hG _ (fun u => rfl) (fun x t => rfl) _ _ hm]
    injection h with h; subst h
    simp
  · rename_i vs hne hm
    rw [res_run hG _ (fun u => rfl) (fun x t => rfl) _ _ hm]
    injection h with h; subst h
    have : vs.length ≠ 1 := by
      intro h1
      match vs, h1 with
      | [x], _ => exact hne x rfl
    simp [this]

theorem fn_calls {c : Cfg} {fc : Fc} {f : FuncId} {fn : Func} {args : List Value} (hc : c.Ok) (hmix : c.P.follows .mixedOrders = true) (hf : c.P.funcs[f]? = some fn)
    (hS : ∀ b, S b → b < w.heap.size) (ht : TT c.P w.heap.size R (sxFn c fc fn args) [] Lam.none S w) :
    Calls c.P f args.toArray w fun e w' => ∃ v S1, e = .returned v ∧ Step S w S1 w' ∧ R v S1 w' := by
  unfold sxFn at ht
  cases hb : fn.body with
  | none => rw [hb] at ht; exact ht.elim
  | some code =>
    rw [hb] at ht
    simp only at ht
    refine calls_of_wp hf hb ?_
    have hG : Gam w.heap.size S (args.map .v ++ List.replicate (fn.ntmps - args.length) (.v undef)) { tmps := args.toArray ++ Array.replicate (fn.ntmps - args.toArray.size) undef, defers := [] } w (fun _ => 0) := by
      have hnb : ∀ (t : Nat) (sv : SV), (args.map SV.v ++ List.replicate (fn.ntmps - args.length) (SV.v undef))[t]? = some sv → ∃ x, sv = .v x := fun t sv h => by
        have hm := List.mem_of_getElem? h
        rcases List.mem_append.1 hm with hm | hm
        · obtain ⟨x, _, rfl⟩ := List.mem_map.1 hm; exact ⟨x, rfl⟩
        · exact ⟨_, (List.mem_replicate.1 hm).2⟩
      have hbx : ∀ t, ¬ BoxAt (args.map SV.v ++ List.replicate (fn.ntmps - args.length) (SV.v undef)) t := fun t ⟨sv, h1, h2⟩ => by
        obtain ⟨x, rfl⟩ := hnb t sv h1; cases h2
      refine ⟨rfl, by simp, fun t sv ht => ?_, fun t ty cells ht => (by obtain ⟨x, h⟩ := hnb t _ ht; cases h), fun t e n cells ht => (by obtain ⟨x, h⟩ := hnb t _ ht; cases h), fun t hb => absurd hb (hbx t), fun t t' hb _ => absurd hb (hbx t), fun t j off ht => (by obtain ⟨x, h⟩ := hnb t _ ht; cases h), hS, Nat.le_refl _⟩
      have hlist : (args.toArray ++ Array.replicate (fn.ntmps - args.toArray.size) undef).toList = args ++ List.replicate (fn.ntmps - args.length) undef := by simp
      obtain ⟨x, rfl⟩ := hnb t sv ht
      show _ = x
      have h2 : (args ++ List.replicate (fn.ntmps - args.length) undef)[t]? = some x := by
        have : (args.map SV.v ++ List.replicate (fn.ntmps - args.length) (SV.v undef)) = (args ++ List.replicate (fn.ntmps - args.length) undef).map SV.v := by simp
        rw [this, List.getElem?_map, Option.map_eq_some_iff] at ht
        obtain ⟨y, hy, he⟩ := ht
        injection he with he; subst he; exact hy
      rw [← hlist, Array.getElem?_toList] at h2
      simp only [Array.getD_eq_getD_getElem?, h2, Option.getD_some]
    refine code_sound rfl hmix hc rfl code (fun _ => true) 0 0 _ _ _ _ w S Lam.none _ [] rfl (fun A hA => by cases hA) (fun t j off ht => by simp) hG (Step.refl hS) ht (fun e Δ s' a' w' S' Λ' ρ' hG' hS' hA' hΓ' ht' => ?_)
    have key : ∀ v, resultsOf c.P fn s' = some v → (∀ w2, Ag w.heap.size S' w' w2 → R v S' w2) → a'.defers = [] ∧ ∃ v, (results fn a'.tmps).run c.P w' = .ok v w' ∧ ∃ v1 S1, Ending.returned v = .returned v1 ∧ Step S w S1 w' ∧ R v1 S1 w' := fun v hv hR =>
      ⟨hG'.defers, v, results_sound hG' hv, v, S', rfl, hS', hR w' (Ag.refl _ _ _)⟩
    cases e with
    | normal =>
      simp only at ht'
      show bodyPost _ _ _ .normal a' w'
      split at ht'
      · rename_i v hv; exact key v hv ht'
      · exact ht'.elim
    | ret =>
      simp only at ht'
      show bodyPost _ _ _ .ret a' w'
      split at ht'
      · rename_i v hv; exact key v hv ht'
      · exact ht'.elim
    | exit id => exact ht'.elim
end
end Go.Sx
