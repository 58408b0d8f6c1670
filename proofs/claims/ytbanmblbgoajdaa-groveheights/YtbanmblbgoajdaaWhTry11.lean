import Derived.Test.YtbanmblbgoajdaaWhTry10
set_option linter.unusedVariables false
set_option maxHeartbeats 4000000
namespace Go.Sx
open GI Go.RowKit

theorem run_s {s : Sl} {xs : List ActE} {m : Int} {w0 w : World} (B : Nat) (h : ArgRow w0 actCd s xs) (hlen : xs.length ≤ 60) (hk : ∀ b, argG s b → w.heap[b]? = w0.heap[b]?) (hlt : ∀ b, argG s b → b < w.heap.size) : TT Go.Proofs.Try.prog B (RH s w0) (runT s m) [] Lam.none (argG s) w := by
  unfold runT
  have hG0 := argG_lt h
  refine TT_call (H := eBlk) (F := none0) (G := argG s) (X := fun (x : Nat) F1 w1 => ∃ q, eI.GAt x (px q) ⟨0, 0⟩ (pool0 El Tide 400) 0 F1 w1) closed_nil (fun b => by simp [none0]) hlt (fun b _ hb => hb) (fun w' _ _ => (New_g e_ty e_t4 400 0 (by omega) w').mono fun v F1 w1 _ ⟨x, q, h1, h2⟩ => ⟨x, h1, q, h2⟩) ?_
  rintro t F1 w1 ⟨q, hG⟩ hlt1 hnew hGk hsz
  rw [lam_cut_nil]
  refine ⟨lam_none_ok, ?_⟩
  have hk1 : ∀ b, argG s b → w1.heap[b]? = w0.heap[b]? := fun b hb => (hGk b hb).trans (hk b hb)
  have hG1 := GAt.beside hG0 hG (fun b hb hF => by
    rcases hnew b hF with h1 | h1
    · exact h1
    · exact Nat.lt_irrefl _ (Nat.lt_of_lt_of_le (hlt b hb) h1)) hk1
  refine (?_ : eI.LT t (pxA q w0 (argG s) hG0) ⟨0, 0⟩ (pool0 El Tide 400) 0 B [] (RH s w0) _) _ w1 hG1
  have hn := h.n
  refine LT.loop (fun l r σ n => 0 ≤ l ∧ l ≤ 6 * (xs.length : Int) ∧ ∃ tr, HInv l r σ n tr) (fun l => (6 * (xs.length : Int) - l).toNat) (0 : Int) rfl ⟨by omega, by omega, .nil, ⟨rfl, trivial, List.nodup_nil, trivial, by simp [BT.size], rfl, by omega⟩⟩ ?_
  rintro Γ l r1 σ1 n1 ⟨hl0, hl1, tr, hi⟩ hcl hag
  have hw : wr (6 * (s.n : Int)) = 6 * (xs.length : Int) := by rw [hn, wr_id (by omega) (by omega)]
  rw [hw]
  refine LT.ite (fun hb => ?_) (fun _ => LT.ret fun F w hGA => ?_)
  · have hl := of_decide_eq_true hb
    refine step_s hcl (fun w hK => h.keep hK) (fun b hb => hb) hlen hl0 hl hi (fun r2 σ2 n2 tr2 hi2 => hag (l + 1) r2 σ2 n2 _ rfl ⟨by omega, by omega, tr2, hi2⟩ (by omega)) ⟨w0, fun b hb => rfl⟩
  · obtain ⟨Fp, rfl, h1, ⟨h2, hx1, hx2, hx3⟩, h3⟩ := hGA
    exact ⟨rfl, hx3⟩

theorem heights_s {s : Sl} {xs : List ActE} {m : Int} {w0 : World} (h : ArgRow w0 actCd s xs) : Spec Go.Proofs.Try.prog 4 [slV s, iV m] (argG s) w0 (RH s w0) := by
  have hG0 := argG_lt h
  refine (heights_t s m).spec l7_ok try_mix hG0 ?_
  unfold heightsT
  refine TT_quiet (x := true) awake_q closed_nil hG0 fun w1 h1 hs1 => ?_
  have hlt1 : ∀ b, argG s b → b < w1.heap.size := fun b hb => Nat.lt_of_lt_of_le (hG0 b hb) hs1
  refine ⟨fun hb => absurd hb (by simp), fun _ => ?_⟩
  refine TT_callN (H := eBool) (X := fun (b : Bool) F1 w2 => F1 = argG s ∧ (∀ q, argG s q → w2.heap[q]? = w0.heap[q]?) ∧ (b = true → (xs.length : Int) ≤ 60)) closed_nil hlt1 (fun w' hk _ => (small_s (m := 60) (h.keep fun q hq => (hk q hq).trans (h1 q hq)) (by omega)).mono fun v F1 w2 _ ⟨b, e1, e2, e3, e4⟩ => ⟨b, e1, e2, fun q hq => (e3 q hq).trans ((hk q hq).trans (h1 q hq)), e4⟩) ?_
  rintro b F1 w2 ⟨rfl, h2, h3⟩ hlt2 _ _
  refine ⟨fun _ => awakeC_s hlt2 (fun _ hb => hb) h2, fun hb => ?_⟩
  have hb' : b = true := by revert hb; cases b with | true => exact fun _ => rfl | false => exact fun h => absurd h (by simp)
  have := h3 hb'
  exact run_s _ h (by omega) h2 hlt2

/-- The law, as a call. -/
theorem heights_calls {s : Sl} {xs : List ActE} {m : Int} {w0 : World} (h : ArgRow w0 actCd s xs) : Calls Go.Proofs.Try.prog 4 #[slV s, iV m] w0 fun e w' => e = .returned (.bool true) ∧ Below w0.heap.size w0 w' :=
  (heights_s (m := m) h).2.mono fun e w' ⟨v, F1, he, hs, hv, hk⟩ => ⟨by rw [he, hv], ⟨hs.fr.os, hs.fr.tape, hs.fr.output, hs.fr.size, fun b hb => by
    by_cases hg : argG s b
    · exact hk b hg
    · exact hs.fr.block b hb hg⟩⟩
end Go.Sx
