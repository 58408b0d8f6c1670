import Derived.Test.YtbanmblbgoajdaaWhPool2
import Derived.Laws.Slices
set_option linter.unusedVariables false
set_option maxHeartbeats 1000000
namespace Go.Sx
open Go.RowKit

/-! ### append, as a step of a tree -/
theorem ownsRow_sl {w : World} {base : Nat} {e : TypeId} {size : Nat} {v : Value} {n : Nat} {xs : List Value} (h : w.ownsRow base e size v n xs) : ∃ s : Sl, v = slV s ∧ s.n = n := by
  rcases h.2 with ⟨h1, h2⟩ | ⟨g, cap, cur, hv, _⟩
  · exact ⟨⟨none, 0, 0⟩, h1, h2.symm⟩
  · exact ⟨⟨some ⟨g, 0, none⟩, n, cap⟩, hv, rfl⟩

section
variable {P : Program} {B : Nat} {R : Value → BS → World → Prop} {Γ : List Again} {Λ : Lam} {S : BS} {w : World}

theorem TT_append {T : Type} {t e : TypeId} {C : Codec T} {s : Sl} {xs news : List T} {G : BS} {i : TypeInfo} {z : Value} {k : Sl → Tree} {n : Nat} {cells : List Value} (hΓ : ClosedΓ B Γ) (hS : ∀ b, S b ↔ (slV s).ownBlock = some b ∨ G b) (hd : ∀ b, (slV s).ownBlock = some b → ¬ G b) (hlt : ∀ b, S b → b < w.heap.size)
    (hrow : RowAt w e C s xs) (ht : P.underlying t = some (.slice e)) (hi : P.info? e = some i) (hz : i.zero = some z) (his : i.size = C.size) (hzs : z.cells.size = C.size) (hsz : 0 < C.size) (hn : n = news.length) (hc : cells = flat C news)
    (h63 : xs.length + news.length ≤ maxLen) (hb : (xs.length + news.length) * i.bytes ≤ 140737488355328)
    (hk : ∀ y w1, RowAt w1 e C y (xs ++ news) → (∀ b, G b → w1.heap[b]? = w.heap[b]?) → w.heap.size ≤ w1.heap.size → ((slV y).ownBlock = (slV s).ownBlock ∨ ∃ b, (slV y).ownBlock = some b ∧ w.heap.size ≤ b) → TT P B R (k y) Γ Lam.none (fun b => (slV y).ownBlock = some b ∨ G b) w1) :
    TT P B R (.append #[t, t] t (slV s) e n cells [] eSl k) Γ Λ S w := by
  subst hn hc
  intro w' ha b hbS hbB hbh
  have hrow' : RowAt w' e C s xs := hrow.keep fun b hb => ha.block b (.inr ((hS b).2 (.inl hb)))
  have hlt' : ∀ b, S b → b < w'.heap.size := fun b hb => Nat.lt_of_lt_of_le (hlt b hb) ha.size
  obtain ⟨v', w1, hr, hown, hgr, hnil, hat⟩ := run_append_own_at (P := P) w' 0 t t e i z C.size i.bytes ht hi hz his rfl hzs hsz (slV s) s.n (flat C xs) hrow'.2 ⟨b, 0, none⟩ news.length news.length (flat C news) (flat_len C news)
    (World.news_of_block (cs := (flat C news).toArray) hbh) (flat_one C news) (by rw [hrow'.1]; exact h63) (by rw [hrow'.1]; exact hb) (Nat.zero_le _)
  obtain ⟨y, rfl, hyn⟩ := ownsRow_sl hown
  have hG1 : ∀ b, G b → w1.heap[b]? = w'.heap[b]? := fun b hb => hgr.block b (hlt' b ((hS b).2 (.inr hb))) (fun e => hd b e.symm hb)
  have hrowy : RowAt w1 e C y (xs ++ news) := ⟨by rw [hyn, hrow'.1, List.length_append], by rw [hyn, flat_append]; exact hown⟩
  have hwhere : (slV y).ownBlock = (slV s).ownBlock ∨ ∃ b, (slV y).ownBlock = some b ∧ w.heap.size ≤ b := hat.imp_right fun h => ⟨_, h, ha.size⟩
  refine ⟨y, fun b => (slV y).ownBlock = some b ∨ G b, w1, hr, ⟨⟨hgr.os, hgr.tape, hgr.output, hgr.size, fun b hb hn => hgr.block b hb (fun e => hn ((hS b).2 (.inl e.symm)))⟩, fun b hb => ?_, fun b hb => ?_⟩, ?_, ?_⟩
  · rcases hb with hb | hb
    · rcases hat with h | h
      · exact .inl ((hS b).2 (.inl (by rw [← h]; exact hb)))
      · right; rw [h] at hb; injection hb with hb; omega
    · exact .inl ((hS b).2 (.inr hb))
  · rcases hb with hb | hb
    · exact hrowy.lt hb
    · exact Nat.lt_of_lt_of_le (hlt' b ((hS b).2 (.inr hb))) hgr.size
  · rw [lam_cut_nil]; exact lam_none_ok
  · rw [lam_cut_nil]
    exact hk y w1 hrowy (fun b hb => (hG1 b hb).trans (ha.block b (.inr ((hS b).2 (.inr hb))))) (Nat.le_trans ha.size hgr.size) hwhere

theorem ld_slice_h {t e : TypeId} {s : Sl} {sz : Nat} {h : Int} (ht : P.underlying t = some (.slice e)) (hs : sizeT P e = some sz) (h0 : 0 ≤ h) (h1 : h ≤ s.c) : Ld P S w (Instr.sliceAt t (slV s) none (some (iV h)) none) (slV ⟨if s.c = 0 then s.a else s.a.map (·.add 0), h.toNat, s.c⟩) := fun w' _ => by
  have he : P.elem t = e := by simp [Program.elem, ht]
  have ht' : P.underlying t = some (.slice (P.elem t)) := by rw [he]; exact ht
  unfold slV iV
  rw [run_sliceAt_slice w' t _ _ _ _ ht', run_slice_h w' t s.a s.n s.c ht' _ h h0 h1, he, run_sizeOf hs]
  simp [sliced, Result.andThen]
end
end Go.Sx
