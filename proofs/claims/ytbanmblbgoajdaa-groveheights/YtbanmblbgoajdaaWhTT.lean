import Derived.Test.YtbanmblbgoajdaaWhSx12
set_option linter.unusedVariables false
namespace Go.Sx
open Go.RowKit

/-! ### Rules for trees -/
def pa (b k : Nat) : Value := .pointer (some ⟨b, k, none⟩)
def iV (n : Int) : Value := .int .i64 n
structure Sl where
  a : Option Addr
  n : Nat
  c : Nat
def slV (s : Sl) : Value := .slice s.a s.n s.c
def ag (l : List Value) : Value := .agg l.toArray
def eInt : Enc := ⟨Int, .int .i64⟩
def eBool : Enc := ⟨Bool, .bool⟩
def eSl : Enc := ⟨Sl, slV⟩
def eAddr : Enc := ⟨Addr, fun a => .pointer (some a)⟩
def eBlk : Enc := ⟨Nat, fun b => .pointer (some ⟨b, 0, none⟩)⟩
def eUnit : Enc := ⟨Unit, fun _ => .tuple #[]⟩
def eAg (T : Type) (c : T → List Value) : Enc := ⟨T, fun x => ag (c x)⟩
def eTup2 (A B : Enc) : Enc := ⟨A.T × B.T, fun x => .tuple #[A.enc x.1, B.enc x.2]⟩
def eTup3 (A B C : Enc) : Enc := ⟨A.T × B.T × C.T, fun x => .tuple #[A.enc x.1, B.enc x.2.1, C.enc x.2.2]⟩
def Hint.ofE (E : Enc) : Hint := ⟨E, fun x K => K (.v (E.enc x)), fun _ _ => rfl⟩

/-- What a call gives: a value, what is owned behind it, and facts. -/
def Spec (P : Program) (f : FuncId) (args : List Value) (F : BS) (w : World) (R : Value → BS → World → Prop) : Prop :=
  callB P f = true ∧ Calls P f args.toArray w fun e w' => ∃ v F1, e = .returned v ∧ Step F w F1 w' ∧ R v F1 w'

theorem Spec.mono {P : Program} {f : FuncId} {args : List Value} {F : BS} {w : World} {R R' : Value → BS → World → Prop} (h : Spec P f args F w R) (hr : ∀ v F1 w', Step F w F1 w' → R v F1 w' → R' v F1 w') : Spec P f args F w R' :=
  ⟨h.1, h.2.mono fun _ _ ⟨v, F1, he, hs, hR⟩ => ⟨v, F1, he, hs, hr _ _ _ hs hR⟩⟩

/-- A function's tree. -/
structure FnT (c : Cfg) (f : FuncId) (args : List Value) (T : Tree) : Prop where
  cb : callB c.P f = true
  tree : ∃ fn fc, c.P.funcs[f]? = some fn ∧ sxFn c fc fn args = T

theorem FnT.spec {c : Cfg} {f : FuncId} {args : List Value} {T : Tree} {F : BS} {w : World} {R : Value → BS → World → Prop} (h : FnT c f args T) (hc : c.Ok) (hmix : c.P.follows .mixedOrders = true) (hF : ∀ b, F b → b < w.heap.size)
    (ht : TT c.P w.heap.size R T [] Lam.none F w) : Spec c.P f args F w R := by
  obtain ⟨hcb, fn, fc, hf, rfl⟩ := h
  exact ⟨hcb, fn_calls hc hmix hf hF ht⟩

theorem closed_nil {B : Nat} : ClosedΓ B [] := fun A hA => by cases hA

/-- A look: whatever the world that agrees, it gives v. -/
def Ld (P : Program) (S : BS) (w : World) (m : Sem Value) (v : Value) : Prop := ∀ w', (∀ b, S b → w'.heap[b]? = w.heap[b]?) → m.run P w' = .ok v w'
theorem Ld.stab {P : Program} {S : BS} {w : World} {m : Sem Value} {v : Value} (h : Ld P S w m v) (B : Nat) : Stab P B S w m v := fun w' ha => h w' fun b hb => ha.block b (.inr hb)
theorem Ld.keep {P : Program} {S : BS} {w w' : World} {m : Sem Value} {v : Value} (h : Ld P S w m v) (hb : ∀ b, S b → w'.heap[b]? = w.heap[b]?) : Ld P S w' m v := fun w2 h2 => h w2 fun b hs => (h2 b hs).trans (hb b hs)
theorem Ld.more {P : Program} {S S' : BS} {w : World} {m : Sem Value} {v : Value} (h : Ld P S w m v) (hb : ∀ b, S b → S' b) : Ld P S' w m v := fun w2 h2 => h w2 fun b hs => h2 b (hb b hs)

theorem ld_one {P : Program} {S : BS} {w : World} {b off : Nat} {ty e : TypeId} {cs : List Value} {v : Value} (hS : S b) (hh : w.heap[b]? = some (.cells cs.toArray e (0, 0))) (ha : isAggT P ty = some false) (hv : cs[off]? = some v) :
    Ld P S w (Instr.loadAt ty (pa b off)) v := fun w' h => run_load_one (by rw [h b hS]; exact hh) ha hv
theorem ld_agg {P : Program} {S : BS} {w : World} {b off n : Nat} {ty e : TypeId} {cs : List Value} (hS : S b) (hh : w.heap[b]? = some (.cells cs.toArray e (0, 0))) (ha : isAggT P ty = some true) (hn : sizeT P ty = some n) (hle : off + n ≤ cs.length) :
    Ld P S w (Instr.loadAt ty (pa b off)) (ag ((cs.drop off).take n)) := fun w' h => run_load_agg (by rw [h b hS]; exact hh) ha hn hle

section
variable {P : Program} {B : Nat} {R : Value → BS → World → Prop} {Γ : List Again} {Λ : Lam} {S : BS} {w : World}

theorem lam_none_cut : Lam.none.cut [] = Lam.none := by funext d m v; simp [Lam.cut, Lam.none]
theorem lam_cut_nil (Λ : Lam) : Λ.cut [] = Lam.none := by funext d m v; simp [Lam.cut, Lam.none]
theorem lam_none_ok {S : BS} {w : World} : Lam.none.ok P B S w := fun _ _ _ h => h.elim

theorem TT_prim_ld {m : Sem Value} {H : Enc} {k : H.T → Tree} {x : H.T} (hΓ : ClosedΓ B Γ) (hS : ∀ b, S b → b < w.heap.size) (h : Ld P S w m (H.enc x)) (hk : TT P B R (k x) Γ Lam.none S w) : TT P B R (.prim m [] H k) Γ Λ S w := by
  intro w' ha
  refine ⟨x, S, w', h.stab B w' ha, Step.refl (fun b hb => Nat.lt_of_lt_of_le (hS b hb) ha.size), ?_, ?_⟩
  · rw [lam_cut_nil]; exact lam_none_ok
  · rw [lam_cut_nil]; exact TT_ag _ hΓ ha hk

theorem TT_loadS_ld {d : Nat} {m : Sem Value} {H : Enc} {k : H.T → Tree} {x : H.T} (h : Ld P S w m (H.enc x)) (hk : TT P B R (k x) Γ (Λ.add d m (H.enc x)) S w) : TT P B R (.loadS d m H k) Γ Λ S w :=
  ⟨x, h.stab B, hk⟩

/-- A store into a block that is owned and known. -/
theorem TT_store {b off : Nat} {ty e : TypeId} {cs : List Value} {v : Value} {k : Tree} (hΓ : ClosedΓ B Γ) (hS : ∀ b, S b → b < w.heap.size) (hb : S b) (hh : w.heap[b]? = some (.cells cs.toArray e (0, 0)))
    (hs : sizeT P ty = some v.cells.size) (hle : off + v.cells.size ≤ cs.length) (h1 : v.cells.all (·.oneCell') = true)
    (hk : ∀ w1, w1.heap[b]? = some (.cells (splice cs off v.cells.toList).toArray e (0, 0)) → (∀ b', b' ≠ b → S b' → w1.heap[b']? = w.heap[b']?) → w.heap.size ≤ w1.heap.size → TT P B R k Γ Lam.none S w1) :
    TT P B R (.primU (Instr.storeAt ty (pa b off) v) [] k) Γ Λ S w := by
  intro w' ha
  have hh' : w'.heap[b]? = some (.cells cs.toArray e (0, 0)) := by rw [ha.block b (.inr hb)]; exact hh
  refine ⟨S, _, run_store_box hh' hs hle h1, ⟨⟨rfl, rfl, rfl, by simp, fun b' hb' hn => setRow_other w' _ _ _ (fun e => hn (e ▸ hb))⟩, fun _ h => .inl h, fun b' hb' => by rw [setRow_size]; exact Nat.lt_of_lt_of_le (hS b' hb') ha.size⟩, ?_, ?_⟩
  · rw [lam_cut_nil]; exact lam_none_ok
  · rw [lam_cut_nil]
    exact hk _ (setRow_heap w' _ _ _ _ _ hh') (fun b' hne hb' => by rw [setRow_other w' _ _ _ hne]; exact ha.block b' (.inr hb')) (by rw [setRow_size]; exact ha.size)

theorem Step.frame {F F1 G : BS} {w w1 : World} (h : Step F w F1 w1) (hG : ∀ b, G b → b < w.heap.size) : Step (fun b => F b ∨ G b) w (fun b => F1 b ∨ G b) w1 :=
  ⟨⟨h.fr.os, h.fr.tape, h.fr.output, h.fr.size, fun b hb hn => h.fr.block b hb (fun hf => hn (.inl hf))⟩, fun b hb => by
    rcases hb with hb | hb
    · rcases h.new b hb with h1 | h1
      · exact .inl (.inl h1)
      · exact .inr h1
    · exact .inl (.inr hb), fun b hb => by
    rcases hb with hb | hb
    · exact h.lt b hb
    · exact Nat.lt_of_lt_of_le (hG b hb) h.fr.size⟩

/-- A call over a part of what is owned. -/
theorem TT_call {f : FuncId} {args : List Value} {keep : List Nat} {H : Enc} {k : H.T → Tree} {F G : BS} {X : H.T → BS → World → Prop} (hΓ : ClosedΓ B Γ) (hFG : ∀ b, S b ↔ F b ∨ G b) (hS : ∀ b, S b → b < w.heap.size) (hd : ∀ b, G b → ¬ F b)
    (hsp : ∀ w', (∀ b, S b → w'.heap[b]? = w.heap[b]?) → w.heap.size ≤ w'.heap.size → Spec P f args F w' fun v F1 w1 => ∃ x, v = H.enc x ∧ X x F1 w1)
    (hk : ∀ x F1 w1, X x F1 w1 → (∀ b, F1 b → b < w1.heap.size) → (∀ b, F1 b → F b ∨ w.heap.size ≤ b) → (∀ b, G b → w1.heap[b]? = w.heap[b]?) → w.heap.size ≤ w1.heap.size → (Λ.cut keep).ok P B (fun b => F1 b ∨ G b) w1 ∧ TT P B R (k x) Γ (Λ.cut keep) (fun b => F1 b ∨ G b) w1) :
    TT P B R (.call f args.toArray keep H k) Γ Λ S w := by
  have h0 := hsp w (fun _ _ => rfl) (Nat.le_refl _)
  refine ⟨h0.1, fun w' ha => ?_⟩
  have hSF : S = fun b => F b ∨ G b := by funext b; exact propext (hFG b)
  have h1 := hsp w' (fun b hb => ha.block b (.inr hb)) ha.size
  refine h1.2.mono ?_
  rintro e w1 ⟨v, F1, rfl, hst, x, rfl, hX⟩
  have hGlt : ∀ b, G b → b < w'.heap.size := fun b hb => Nat.lt_of_lt_of_le (hS b ((hFG b).2 (.inr hb))) ha.size
  have hGk : ∀ b, G b → w1.heap[b]? = w.heap[b]? := fun b hb => by
    rw [hst.fr.block b (hGlt b hb) (hd b hb)]
    exact ha.block b (.inr ((hFG b).2 (.inr hb)))
  have hk' := hk x F1 w1 hX hst.lt (fun b hb => by
    rcases hst.new b hb with h | h
    · exact .inl h
    · exact .inr (Nat.le_trans ha.size h)) hGk (Nat.le_trans ha.size hst.fr.size)
  refine ⟨x, fun b => F1 b ∨ G b, rfl, ?_, hk'.1, hk'.2⟩
  rw [hSF]
  exact hst.frame hGlt

/-- A call over all that is owned; nothing kept. -/
theorem TT_call0 {f : FuncId} {args : List Value} {H : Enc} {k : H.T → Tree} {X : H.T → BS → World → Prop} (hΓ : ClosedΓ B Γ) (hS : ∀ b, S b → b < w.heap.size)
    (hsp : ∀ w', (∀ b, S b → w'.heap[b]? = w.heap[b]?) → w.heap.size ≤ w'.heap.size → Spec P f args S w' fun v F1 w1 => ∃ x, v = H.enc x ∧ X x F1 w1)
    (hk : ∀ x F1 w1, X x F1 w1 → (∀ b, F1 b → b < w1.heap.size) → (∀ b, F1 b → S b ∨ w.heap.size ≤ b) → w.heap.size ≤ w1.heap.size → TT P B R (k x) Γ Lam.none F1 w1) :
    TT P B R (.call f args.toArray [] H k) Γ Λ S w := by
  have h0 := hsp w (fun _ _ => rfl) (Nat.le_refl _)
  refine ⟨h0.1, fun w' ha => ?_⟩
  have h1 := hsp w' (fun b hb => ha.block b (.inr hb)) ha.size
  refine h1.2.mono ?_
  rintro e w1 ⟨v, F1, rfl, hst, x, rfl, hX⟩
  refine ⟨x, F1, rfl, hst, by rw [lam_cut_nil]; exact lam_none_ok, ?_⟩
  rw [lam_cut_nil]
  exact hk x F1 w1 hX hst.lt (fun b hb => by
    rcases hst.new b hb with h | h
    · exact .inl h
    · exact .inr (Nat.le_trans ha.size h)) (Nat.le_trans ha.size hst.fr.size)
end
end Go.Sx
