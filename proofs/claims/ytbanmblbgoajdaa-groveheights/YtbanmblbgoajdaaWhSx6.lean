import Derived.Test.YtbanmblbgoajdaaWhSx5
set_option linter.unusedVariables false
set_option maxHeartbeats 1000000
namespace Go.Sx
open Go.RowKit

section
variable {c : Cfg} {fc : Fc} {B : Nat} {S : BS} {s s0 : List SV} {a : Act} {w : World} {ρ : Nat → Nat} {o : Oper}

theorem arr_map {xs : Array Operand} {f : Operand → Value} {ys : List Value} (h : xs.toList.map f = ys) : xs.map f = ys.toArray := by
  apply Array.ext'; simp [h]
theorem run_v {P : Program} {m : Sem Value} {x : Value} {w1 : World} (h : m.run P w = .ok x w1) : ((do pure (.value (← m)) : Sem Next)).run P w = .ok (.value x) w1 := by
  simp only [Sem.run_bind, h, Result.andThen_ok, Sem.run_pure]
theorem run_u {P : Program} {m : Sem Unit} {w1 : World} (h : m.run P w = .ok () w1) : ((do m; pure .skip : Sem Next)).run P w = .ok .skip w1 := by
  simp only [Sem.run_bind, h, Result.andThen_ok, Sem.run_pure]

theorem callB_run {P : Program} {f : FuncId} {args : Array Value} (h : callB P f = true) : (callFunc f args).run P w = .ok (.enter f args) w := by
  unfold callB at h
  cases hf : P.funcs[f]? with
  | none => rw [hf] at h; cases h
  | some fn =>
    rw [hf] at h
    simp only [Bool.and_eq_true, bne_iff_ne, ne_eq] at h
    obtain ⟨h1, h2⟩ := h
    have h3 : (fn.name == "runtime.NumGoroutine") = false := by simpa using h1
    have h4 : fn.body.isNone = false := by cases hb : fn.body <;> simp [hb] at h2 ⊢
    simp only [callFunc, program, Sem.run_bind, Sem.run, Result.andThen_ok, hf, h3, h4]
    simp [Sem.run_pure]

theorem goCall_eff (hc : c.Ok) {f : FuncId} {args : List Value} {u : Out} (h : goCall c f args = some u) (hr : ∀ (w : World), callB c.P f = true → (execOp a.eval o).run c.P w = .ok (.enter f args.toArray) w) :
    Eff c.P B S s0 a w ρ o u := by
  unfold goCall at h
  split at h
  · rename_i g hg
    rw [Option.map_eq_some_iff] at h
    obtain ⟨v, hv, rfl⟩ := h
    have := hc.pure f g args v hg hv
    exact .pcall f args v (hr w this.1) this.2
  · rw [Option.map_eq_some_iff] at h
    obtain ⟨H, hH, rfl⟩ := h
    exact .call f args H (hr w)

theorem rd_eff {P : Program} {drawn : Bool} {m : Sem Value} {H : Hint} (h : ∀ x w1, m.run P w = .ok x w1 → (execOp a.eval o).run P w = .ok (.value x) w1) : Eff P B S s0 a w ρ o (rd drawn m H) := by
  unfold rd
  split
  · exact .loadS m H h
  · exact .prim m H h

theorem call_eff (hc : c.Ok) (hG : Gam B S s0 a w ρ) (hl : Le s s0) {drawn : Bool} {cl : Call} {u : Out} (ho : o.op = .call cl) (h : callOut c drawn s o cl = some u) : Eff c.P B S s0 a w ρ o u := by
  have hns : ∀ cs b, o.op ≠ .select cs b := fun cs b e => by rw [ho] at e; cases e
  have hb : ∀ (b : Builtin) (xs : List Value) (m : Sem Value), cl.callee = .builtin b → plains s cl.args.toList = some xs → (∀ cn, builtin b cl.argTypes o.type cn xs.toArray = (do pure (.value (← m)) : Sem Next)) →
      ∀ x w1, m.run c.P w = .ok x w1 → (execOp a.eval o).run c.P w = .ok (.value x) w1 := by
    intro b xs m hcb hx hm x w1 hr
    have hx' := plains_eval hG hl hx
    have he : cl.args.map a.eval = xs.toArray := arr_map hx'
    simp only [execOp, ho, resolve, hcb, invoke, Sem.run_bind, Sem.run_pure, Result.andThen_ok, he, hm, hr]
  unfold callOut at h
  split at h
  · -- len
    rename_i hcb
    split at h
    · split at h
      · rename_i xs hx
        rw [Option.map_eq_some_iff] at h
        obtain ⟨H, hH, rfl⟩ := h
        exact rd_eff (hb _ xs _ hcb hx (fun _ => rfl))
      · cases h
    · exact eff_pure hG hl hns h
  · -- append
    rename_i hcb
    split at h
    · rename_i x y hxy
      split at h
      · cases h
      · rename_i xv hxv
        have hargs : cl.args.map a.eval = #[a.eval x, a.eval y] := by
          rw [arr_map (ys := [a.eval x, a.eval y]) (by rw [hxy]; rfl)]
        split at h
        · rename_i e n cells hrow
          rw [Option.map_eq_some_iff] at h
          obtain ⟨H, hH, rfl⟩ := h
          cases y with
          | tmp t =>
            simp only at hrow
            rcases hl.at_ t _ hrow with h1 | h1
            · cases h1
            · refine .append _ _ xv e n cells H t h1 (fun v w1 hr => ?_)
              have hd : a.eval (.tmp t) = .slice (some ⟨ρ t, 0, none⟩) n n := hG.slot t _ h1
              simp only [execOp, ho, resolve, hcb, invoke, builtin, Sem.run_bind, Sem.run_pure, Result.andThen_ok, hargs, plain_eval hG hl hxv, hd, hr]
          | const v => cases hrow
          | global g => cases hrow
          | func f => cases hrow
        · split at h
          · rename_i yv hyv
            rw [Option.map_eq_some_iff] at h
            obtain ⟨H, hH, rfl⟩ := h
            refine .prim _ H (fun v w1 hr => ?_)
            simp only [execOp, ho, resolve, hcb, invoke, builtin, Sem.run_bind, Sem.run_pure, Result.andThen_ok, hargs, plain_eval hG hl hxv, plain_eval hG hl hyv, hr]
          · cases h
    · cases h
  all_goals (try (
    rename_i hcb
    split at h
    · rename_i xs hx
      rw [Option.map_eq_some_iff] at h
      obtain ⟨H, hH, rfl⟩ := h
      first
        | exact rd_eff (hb _ xs _ hcb hx (fun _ => rfl))
        | exact .prim _ H (hb _ xs _ hcb hx (fun _ => rfl))
    · cases h))
  · cases h
  · -- value
    rename_i f hcb
    split at h
    · rename_i fid first cap xs hf hx
      refine goCall_eff hc h (fun w' hB => ?_)
      have he : cl.args.map a.eval = xs.toArray := arr_map (plains_eval hG hl hx)
      have hfe := plain_eval hG hl hf
      simp only [execOp, ho, resolve, hcb, Deferred.ofValue, hfe, invoke, Sem.run_bind, Sem.run_pure, Result.andThen_ok, he]
      rw [callB_run hB]
      simp
    · cases h
  · -- invoke
    rename_i r name hcb
    split at h
    · rename_i t v xs hr hx
      split at h
      · rename_i fid hm
        refine goCall_eff hc h (fun w' hB => ?_)
        have he : cl.args.map a.eval = xs.toArray := arr_map (plains_eval hG hl hx)
        have hre := plain_eval hG hl hr
        simp only [execOp, ho, resolve, hcb, invoke, Sem.run_bind, Sem.run_pure, Result.andThen_ok, he, hre]
        have h0 : (#[Value.iface t v] ++ xs.toArray)[0]? = some (Value.iface t v) := by simp
        have h1 : (#[Value.iface t v] ++ xs.toArray).extract 1 (#[Value.iface t v] ++ xs.toArray).size = xs.toArray := by
          apply Array.ext'; simp
        simp only [h0, h1, callMethod, program, Sem.run_bind, Sem.run, Result.andThen_ok]
        rw [hc.meth t name fid hm v w']
        simp only [Result.andThen_ok]
        rw [callB_run hB]
        simp
      · cases h
    · cases h
end
end Go.Sx
