import Derived.Test.YtbanmblbgoajdaaWhSmall
set_option linter.unusedVariables false
set_option maxHeartbeats 1000000
namespace Go.Sx
open Go.RowKit
namespace GI
variable {E A : Type} {I : GI E A} {t : Nat} {p : Px} {r0 : Rf} {σ : Pool (Nd E A)} {n n' : Nat}

/-! ### A law's walk over one tree -/
def LT (I : GI E A) (t : Nat) (p : Px) (r0 : Rf) (σ : Pool (Nd E A)) (n : Nat) (B : Nat) (Γ : List Again) (R : Value → BS → World → Prop) (T : Tree) : Prop := ∀ F w, I.GAt t p r0 σ n F w → TT I.P B R T Γ Lam.none F w

section
variable {B : Nat} {Γ : List Again} {R : Value → BS → World → Prop}
theorem LT.call {f : FuncId} {args : List Value} {keep : List Nat} {H : Enc} {Q : H.T → Rf → Pool (Nd E A) → Prop} {k : H.T → Tree} (hΓ : ClosedΓ B Γ) (hs : I.GR t p r0 n n' σ f args H Q) (hk : ∀ x r' σ', Q x r' σ' → I.LT t p r' σ' n' B Γ R (k x)) : I.LT t p r0 σ n B Γ R (.call f args.toArray keep H k) := fun F w hG =>
  TT_callN (X := fun x F1 w1 => ∃ r' σ', I.GAt t p r' σ' n' F1 w1 ∧ Q x r' σ') hΓ hG.lt (fun w' hk' _ => hs F w' (hG.keep hk')) fun x F1 w1 ⟨r', σ', h1, h2⟩ _ _ _ => hk x r' σ' h2 F1 w1 h1
theorem LT.callS {f : FuncId} {args : List Value} {keep : List Nat} {H : Enc} {Q : H.T → Pool (Nd E A) → Prop} {k : H.T → Tree} (hΓ : ClosedΓ B Γ) (hs : I.GS t p r0 n n' σ f args H Q) (hk : ∀ x σ', Q x σ' → I.LT t p r0 σ' n' B Γ R (k x)) : I.LT t p r0 σ n B Γ R (.call f args.toArray keep H k) :=
  LT.call hΓ (GR.same hs) fun x r' σ' ⟨h1, h2⟩ => by subst h1; exact hk x σ' h2
theorem LT.quiet {f : FuncId} {args : List Value} {keep : List Nat} {H : Enc} {k : H.T → Tree} (x : H.T) (hΓ : ClosedΓ B Γ) (hq : Quiet I.P f args (H.enc x)) (hk : I.LT t p r0 σ n B Γ R (k x)) : I.LT t p r0 σ n B Γ R (.call f args.toArray keep H k) := fun F w hG =>
  TT_quiet (x := x) hq hΓ hG.lt fun w1 h1 _ => hk F w1 (hG.keep h1)
theorem LT.prim {m : Sem Value} {H : Enc} {k : H.T → Tree} (x : H.T) (hΓ : ClosedΓ B Γ) (hl : ∀ F w, I.GAt t p r0 σ n F w → Ld I.P F w m (H.enc x)) (hk : I.LT t p r0 σ n B Γ R (k x)) : I.LT t p r0 σ n B Γ R (.prim m [] H k) := fun F w hG =>
  TT_prim_ld hΓ hG.lt (hl F w hG) (hk F w hG)
theorem LT.ite {b : Bool} {T1 T2 : Tree} (h1 : b = true → I.LT t p r0 σ n B Γ R T1) (h2 : b = false → I.LT t p r0 σ n B Γ R T2) : I.LT t p r0 σ n B Γ R (.ite b T1 T2) := fun F w hG => ⟨fun hb => h1 hb F w hG, fun hb => h2 hb F w hG⟩
theorem LT.endS {T : Tree} (h : I.LT t p r0 σ n B Γ R T) : I.LT t p r0 σ n B Γ R (.endS T) := fun F w hG => h F w hG
theorem LT.ret {v : Value} (h : ∀ F w, I.GAt t p r0 σ n F w → R v F w) : I.LT t p r0 σ n B Γ R (.ret v) := fun F w hG w' ha => h F w' (hG.keep fun b hb => ha.block b (.inr hb))
/-- A quiet call behind a look that has no store in it. -/
theorem LT.loadQuiet {d : Nat} {m : Sem Value} {H H1 : Enc} {f : FuncId} {args : List Value} {keep : List Nat} {k : H.T → H1.T → Tree} (x : H.T) (y : H1.T) (hΓ : ClosedΓ B Γ) (hl : ∀ S w, Ld I.P S w m (H.enc x)) (hq : Quiet I.P f args (H1.enc y)) (hk : I.LT t p r0 σ n B Γ R (k x y)) :
    I.LT t p r0 σ n B Γ R (.loadS d m H fun x => .call f args.toArray keep H1 fun y => .endS (k x y)) := fun F w hG => by
  refine TT_loadS_ld (hl F w) ?_
  refine TT_call (F := F) (G := fun _ => False) (X := fun z F1 w1 => z = y ∧ F1 = F ∧ ∀ b, F b → w1.heap[b]? = w.heap[b]?) hΓ (fun b => by simp) hG.lt (fun b hb => hb.elim) (fun w' hk' hsz => (hq.spec fun b hb => Nat.lt_of_lt_of_le (hG.lt b hb) hsz).mono fun v F1 w1 _ ⟨h1, h2, h3⟩ => ⟨y, h1, rfl, h2, fun b hb => (h3 b hb).trans (hk' b hb)⟩) ?_
  rintro z F1 w1 ⟨rfl, rfl, h3⟩ hlt hnew hGk hsz1
  have hFe : (fun b => F1 b ∨ False) = F1 := by funext b; simp
  rw [hFe]
  refine ⟨fun d m' v hΛ => ?_, hk F1 w1 (hG.keep h3)⟩
  obtain ⟨hΛ, _⟩ := hΛ
  rcases hΛ with hΛ | ⟨_, rfl, rfl⟩
  · exact hΛ.elim
  · exact (hl F1 w1).stab _
end
end GI
end Go.Sx
namespace Go.Sx.GI
theorem GT_up {E A : Type} {I : GI E A} {t : Nat} {p : Px} {r0 : Rf} {σ : Pool (Nd E A)} {n n' B : Nat} {Γ : List Again} {R : Value → BS → World → Prop} {T : Tree} (h1 : n ≤ n') (h2 : n' < 4294967296) (h : I.LT t p r0 σ n' B Γ R T) : I.LT t p r0 σ n B Γ R T := fun F w hG => h F w (hG.up h1 h2)
end Go.Sx.GI
