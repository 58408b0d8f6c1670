import Derived.Test.YtbanmblbgoajdaaWhLT
set_option linter.unusedVariables false
set_option maxHeartbeats 1000000
namespace Go.Sx
open Go.RowKit

/-! ### An argument that is a slice: it lies in elder memory, and is read alone -/
structure ArgRow {T : Type} (w : World) (C : Codec T) (s : Sl) (xs : List T) : Prop where
  n : s.n = xs.length
  cell : ∀ (i : Nat) (x : T), xs[i]? = some x → ∃ g o, s.a = some ⟨g, o, none⟩ ∧ ∀ (k : Nat) (v : Value), (C.enc x)[k]? = some v → w.cell? ⟨g, o + (i * C.size + k), none⟩ = some v
/-- Its block. -/
def argG (s : Sl) : BS := fun b => ∃ a, s.a = some a ∧ b = a.block ∧ 0 < s.n

section
variable {T : Type} {P : Program} {w w' : World} {C : Codec T} {s : Sl} {xs : List T} {S : BS}
theorem ArgRow.keep (h : ArgRow w C s xs) (hb : ∀ b, argG s b → w'.heap[b]? = w.heap[b]?) : ArgRow w' C s xs := by
  refine ⟨h.n, fun i x hx => ?_⟩
  obtain ⟨g, o, ha, hc⟩ := h.cell i x hx
  refine ⟨g, o, ha, fun k v hv => ?_⟩
  have hlt := (List.getElem?_eq_some_iff.1 hx).1
  have := hb g ⟨_, ha, rfl, by rw [h.n]; omega⟩
  have hk := hc k v hv
  unfold World.cell? at hk ⊢
  simp only at hk ⊢
  rw [this]; exact hk

theorem ArgRow.index (h : ArgRow w C s xs) {t e : TypeId} {i : Int} {x : T} (hu : P.underlying t = some (.slice e)) (hs : sizeT P e = some C.size) (h0 : 0 ≤ i) (hx : xs[i.toNat]? = some x) :
    ∃ g o, s.a = some ⟨g, o, none⟩ ∧ Ld P S w (Instr.indexAt t (slV s) (iV i)) (eAddr.enc ⟨g, o + i.toNat * C.size, none⟩) ∧ (∀ (k : Nat) (v : Value), (C.enc x)[k]? = some v → w.cell? ⟨g, o + (i.toNat * C.size + k), none⟩ = some v) := by
  obtain ⟨g, o, ha, hc⟩ := h.cell _ _ hx
  refine ⟨g, o, ha, fun w' _ => ?_, hc⟩
  have hlt := (List.getElem?_eq_some_iff.1 hx).1
  have hn := h.n
  have h1 : i < s.n := by omega
  simp only [Instr.indexAt, slV, iV, asIntOf, ha, Sem.run_bind, Sem.run_pure, Result.andThen_ok, run_underlying hu w']
  simp only [h0, h1, and_self, if_true, Sem.run_bind, run_sizeOf hs, Result.andThen_ok, Sem.run_pure, Addr.add_mid]
  rfl

theorem ld_cells {t : TypeId} {g o n : Nat} {cs : List Value} (ha : isAggT P t = some true) (hs : sizeT P t = some n) (hn : cs.length = n) (hS : S g) (hc : ∀ (k : Nat) (v : Value), cs[k]? = some v → w.cell? ⟨g, o + k, none⟩ = some v) :
    Ld P S w (Instr.loadAt t (.pointer (some ⟨g, o, none⟩))) (ag cs) := fun w' hk => by
  have hl : (loadCells ⟨g, o, none⟩ n).run P w' = .ok cs.toArray w' := by
    have := run_loadCells_list (P := P) w' ⟨g, o, none⟩ cs (fun j v hv => by
      rw [Addr.add_mid]
      have := hc j v hv
      unfold World.cell? at this ⊢
      simp only at this ⊢
      rw [hk g hS]; exact this)
    rw [hn] at this; exact this
  simp only [Instr.loadAt, Instr.sureAddr, loadVar, Sem.run_bind, Sem.run_pure, Result.andThen_ok, run_isAgg ha, if_true, run_sizeOf hs, hl]; rfl
theorem ld_cell {t : TypeId} {g o : Nat} {v : Value} (ha : isAggT P t = some false) (hS : S g) (hc : w.cell? ⟨g, o, none⟩ = some v) :
    Ld P S w (Instr.loadAt t (.pointer (some ⟨g, o, none⟩))) v := fun w' hk => by
  have hc' : w'.cell? ⟨g, o, none⟩ = some v := by
    unfold World.cell? at hc ⊢
    simp only at hc ⊢
    rw [hk g hS]; exact hc
  simp only [Instr.loadAt, Instr.sureAddr, loadVar, Sem.run_bind, Sem.run_pure, Result.andThen_ok, run_isAgg ha, Bool.false_eq_true, if_false, load, Sem.run]
  simp [hc']
end

/-- A pool beside an argument. -/
def GI.pxA (p : Nat) (w0 : World) (G : BS) (hG : ∀ b, G b → b < w0.heap.size) : GI.Px where
  p := p
  G := G
  K w := ∀ b, G b → w.heap[b]? = w0.heap[b]?
  stab w w' h hk := fun b hb => (h b hb).trans (hk b hb)
  lt w hk b hb := by
    have h1 := hk b hb
    rw [Array.getElem?_eq_getElem (hG b hb)] at h1
    exact heap_lt h1

namespace GI
variable {E A : Type} {I : GI E A} {t : Nat} {p : Px} {r0 : Rf} {σ : Pool (Nd E A)} {n : Nat}
theorem LT.loop {B : Nat} {R : Value → BS → World → Prop} {L : Type} {emb : L → List SV} {body : L → Tree} {init : List SV} (Inv : L → Rf → Pool (Nd E A) → Nat → Prop) (μ : L → Nat) (l0 : L) (hi : init = emb l0) (h0 : Inv l0 r0 σ n)
    (hb : ∀ Γ l r1 σ1 n1, Inv l r1 σ1 n1 → ClosedΓ B Γ → (∀ l' r2 σ2 n2 vals, vals = emb l' → Inv l' r2 σ2 n2 → μ l' < μ l → I.LT t p r2 σ2 n2 B Γ R (.again 0 vals)) → I.LT t p r1 σ1 n1 B Γ R (body l)) : I.LT t p r0 σ n B [] R (.loop init L emb body) := fun F w hG => by
  refine ⟨fun l S w => ∃ r2 σ2 n2, I.GAt t p r2 σ2 n2 S w ∧ Inv l r2 σ2 n2, fun l _ _ => μ l, ?_, ⟨l0, hi, r0, σ, n, hG, h0⟩, ?_⟩
  · rintro l S w w' ⟨r2, σ2, n2, h1, h2⟩ ha
    exact ⟨⟨r2, σ2, n2, h1.keep fun b hb => ha.block b (.inr hb), h2⟩, rfl⟩
  · rintro l S1 w1 ⟨r2, σ2, n2, h1, h2⟩ _
    refine hb _ l r2 σ2 n2 h2 ?_ (fun l' r3 σ3 n3 vals hv hi hm F w hG => ⟨_, rfl, l', hv, ⟨r3, σ3, n3, hG, hi⟩, hm⟩) S1 w1 h1
    intro A' hA vals S w w' h ha
    simp only [List.mem_singleton] at hA
    subst hA
    obtain ⟨l', h1, ⟨r2, σ2, n2, h2, h3⟩, h4⟩ := h
    exact ⟨l', h1, ⟨r2, σ2, n2, h2.keep fun b hb => ha.block b (.inr hb), h3⟩, h4⟩
/-- A look at the argument. -/
theorem LT.arg {B : Nat} {Γ : List Again} {R : Value → BS → World → Prop} {m : Sem Value} {H : Enc} {k : H.T → Tree} (x : H.T) (hΓ : ClosedΓ B Γ) (hl : ∀ F w, (∀ b, p.G b → F b) → p.K w → Ld I.P F w m (H.enc x)) (hk : I.LT t p r0 σ n B Γ R (k x)) : I.LT t p r0 σ n B Γ R (.prim m [] H k) := fun F w hG => by
  have hG0 := hG
  obtain ⟨Fp, rfl, h1, ⟨h2, hx1, hx2, hx3⟩, h3⟩ := hG
  exact TT_prim_ld hΓ hG0.lt (hl _ w (fun b hb => .inr (.inr hb)) hx3) (hk _ w hG0)
/-- A new tree, beside an argument. -/
theorem GAt.beside {x q : Nat} {F1 : BS} {w1 w0 : World} {G : BS} (hG : ∀ b, G b → b < w0.heap.size) (h : I.GAt x (px q) r0 σ n F1 w1) (hd : ∀ b, G b → ¬ F1 b) (hk : ∀ b, G b → w1.heap[b]? = w0.heap[b]?) : I.GAt x (pxA q w0 G hG) r0 σ n (fun b => F1 b ∨ G b) w1 := by
  obtain ⟨Fp, rfl, h1, ⟨h2, hx1, hx2, hx3⟩, h3⟩ := h
  refine ⟨Fp, ?_, h1, ⟨h2, fun hg => hd x hg (.inr (.inl rfl)), fun b hb hF => hd b hb (.inl hF), hk⟩, h3⟩
  funext b
  simp [px, pxA, or_assoc]
end GI
end Go.Sx
