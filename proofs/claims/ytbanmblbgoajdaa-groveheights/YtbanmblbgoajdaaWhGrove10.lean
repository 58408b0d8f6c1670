import Derived.Test.YtbanmblbgoajdaaWhGrove9
set_option linter.unusedVariables false
set_option linter.unusedSimpArgs false
set_option maxHeartbeats 2000000
namespace Go.Sx
open Go.RowKit

/-- A new block, as a step of a tree. -/
theorem TT_box {P : Program} {B : Nat} {R : Value → BS → World → Prop} {Γ : List Again} {Λ : Lam} {S : BS} {w : World} {ty : TypeId} {cs : List Value} {k : Nat → Tree} (hΓ : ClosedΓ B Γ) (hS : ∀ b, S b → b < w.heap.size)
    (hk : ∀ b w1, w1.heap[b]? = some (.cells cs.toArray ty (0, 0)) → ¬ S b → (∀ b', S b' → w1.heap[b']? = w.heap[b']?) → w.heap.size ≤ w1.heap.size → w.heap.size ≤ b → TT P B R (k b) Γ Lam.none (fun b' => b' = b ∨ S b') w1) :
    TT P B R (.prim (Instr.box ty (ag cs)) [] eBlk k) Γ Λ S w := by
  intro w' ha
  have hlt : ∀ b, S b → b < w'.heap.size := fun b hb => Nat.lt_of_lt_of_le (hS b hb) ha.size
  have hold : ∀ b, b < w'.heap.size → (w'.alloc (.cells cs.toArray ty)).heap[b]? = w'.heap[b]? := fun b hb => Below.heap_alloc w' _ b hb
  have hsz : (w'.alloc (.cells cs.toArray ty)).heap.size = w'.heap.size + 1 := World.size_alloc w' _
  refine ⟨w'.heap.size, fun b' => b' = w'.heap.size ∨ S b', w'.alloc (.cells cs.toArray ty), run_box_new ty (ag cs), ⟨⟨rfl, rfl, rfl, by rw [hsz]; exact Nat.le_succ _, fun b hb _ => hold b hb⟩, fun b hb => ?_, fun b hb => ?_⟩, ?_, ?_⟩
  · rcases hb with rfl | hb
    · exact .inr (Nat.le_refl _)
    · exact .inl hb
  · rw [hsz]
    rcases hb with rfl | hb
    · exact Nat.lt_succ_self _
    · exact Nat.lt_succ_of_lt (hlt b hb)
  · rw [lam_cut_nil]; exact lam_none_ok
  · rw [lam_cut_nil]
    exact hk _ _ (heap_new w' _) (fun h => Nat.lt_irrefl _ (hlt _ h)) (fun b' hb' => (hold b' (hlt b' hb')).trans (ha.block b' (.inr hb'))) (by rw [hsz]; exact Nat.le_succ_of_le ha.size) ha.size

namespace GI
variable {E A : Type} {I : GI E A}

def pool0 (E A : Type) (n : Int) : Pool (Nd E A) := ⟨[], [], clampI n 16777216, 0, 0⟩
theorem pool0_ok (n : Int) (k : Nat) : (pool0 E A n).Ok k := by
  have := clampI_le n 16777216
  exact ⟨Nat.zero_le _, fun i hi => (by cases hi), List.nodup_nil, fun c hc => (by cases hc), rfl, Nat.le_refl _, this.1, this.2, this.1⟩
theorem pool0_look (n : Int) (r : Rf) : (pool0 E A n).look r = none := by
  unfold Pool.look pool0; split <;> simp

theorem pnew_g (hI : I.Ty) (hG : I.Trees4) (n : Int) (w : World) : Spec I.P I.fNew [iV n] (fun _ => False) w fun v F1 w1 => ∃ x, v = eBlk.enc x ∧ PoolAt I.pool x (pool0 E A n) F1 w1 := by
  refine (hG.pnew n).spec hI.pool.good.ok hI.pool.good.mix (fun b hb => hb.elim) ?_
  unfold poolNewT
  refine TT_prim_ld (H := eInt) (x := (show Int from max n 0)) closed_nil (fun b hb => hb.elim) ld_max ?_
  refine TT_prim_ld (H := eInt) (x := clampI n 16777216) closed_nil (fun b hb => hb.elim) ld_min ?_
  refine TT_box closed_nil (fun b hb => hb.elim) fun b w1 h1 _ _ _ _ => ?_
  intro w2 ha
  refine ⟨b, rfl, ⟨none, 0, 0⟩, ⟨none, 0, 0⟩, ?_, ?_⟩
  · funext b'; unfold PoolF; simp [slV, Value.ownBlock]
  · have : PoolX I.pool b (pool0 E A n) ⟨none, 0, 0⟩ ⟨none, 0, 0⟩ w1 := ⟨h1, RowAt.nil _ _ _, RowAt.nil _ _ _⟩
    exact this.keep fun b' hb' => ha.block b' (.inr (by rcases hb' with h | h | h; exact .inl h; cases h; cases h))

theorem New_g (hI : I.Ty) (hG : I.Trees4) (n : Int) (k : Nat) (hk : k < 4294967296) (w : World) : Spec I.P I.gNew [iV n] (fun _ => False) w fun v F1 w1 => ∃ x p, v = eBlk.enc x ∧ I.GAt x (px p) ⟨0, 0⟩ (pool0 E A n) k F1 w1 := by
  refine (hG.new n).spec hI.pool.good.ok hI.pool.good.mix (fun b hb => hb.elim) ?_
  unfold NewT
  refine TT_call0 (H := eBlk) (X := fun (x : Nat) F1 w1 => PoolAt I.pool x (pool0 E A n) F1 w1) closed_nil (fun b hb => hb.elim) (fun w' hk' _ => pnew_g hI hG n w') ?_
  rintro x F1 w1 h1 hlt hnew hsz
  refine TT_box closed_nil hlt fun b w2 h2 hn hk2 _ _ => ?_
  intro w3 ha
  refine ⟨b, x, rfl, F1, ?_, (h1.keep hk2).keep fun b' hb' => ha.block b' (.inr (.inr hb')), ⟨by rw [ha.block b (.inr (.inl rfl))]; exact h2, id, fun _ h => h.elim, trivial⟩, pool0_ok n k, hk, wr_id (by simp [pool0]) (by simp [pool0])⟩
  funext b'
  simp [px]
  exact Or.comm
end GI
end Go.Sx
