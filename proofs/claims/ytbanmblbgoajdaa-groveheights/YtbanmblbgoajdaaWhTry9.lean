import Derived.Test.YtbanmblbgoajdaaWhTry8
set_option linter.unusedVariables false
set_option maxHeartbeats 4000000
namespace Go.Sx
open GI Go.RowKit

theorem awake_q : Quiet Go.Proofs.Try.prog 13 [] (.bool true) :=
  ⟨awake_t.cb, fun w => (awake_s w).2.mono fun e w' ⟨v, F1, he, hs, hv⟩ => ⟨by rw [he, hv], ⟨hs.fr.os, hs.fr.tape, hs.fr.output, hs.fr.size, fun b hb => hs.fr.block b hb id⟩⟩⟩

abbrev RH (s : Sl) (w0 : World) : Value → BS → World → Prop := fun v F1 w1 => v = .bool true ∧ ∀ b, argG s b → w1.heap[b]? = w0.heap[b]?

theorem awakeC_s {s : Sl} {w0 w : World} {B : Nat} {S : BS} (hS : ∀ b, S b → b < w.heap.size) (hG : ∀ b, argG s b → S b) (hk : ∀ b, argG s b → w.heap[b]? = w0.heap[b]?) : TT Go.Proofs.Try.prog B (RH s w0) awakeC [] Lam.none S w := by
  refine TT_quiet (x := true) awake_q closed_nil hS fun w1 h1 _ => ?_
  intro w2 ha
  exact ⟨rfl, fun b hb => (ha.block b (.inr (hG b hb))).trans ((h1 b (hG b hb)).trans (hk b hb))⟩

/-- What holds ahead of each round. -/
structure HInv (l : Int) (r : Rf) (σ : Pool (Nd El Tide)) (n : Nat) (tr : BT El) : Prop where
  ref : r = tr.ref
  rep : eI.Rep σ.look tr
  nd : tr.refs.Nodup
  bal : tr.Bal
  size : (tr.size : Int) ≤ l
  n : (n : Int) = l
  lt : l ≤ 360

theorem vis_diff {v k : Int} (h0 : 0 ≤ k) (h1 : k < 4611686018427387904) : wr (wr (v + k) - v) = k := by
  rw [show wr (v + k) - v = wr (v + k) + (-v) by omega, wr_wr, show v + k + -v = k by omega]
  exact wr_id (by omega) (by omega)

theorem more_s {t : Nat} {p : Px} {R : Value → BS → World → Prop} {B : Nat} {Γ : List Again} {e : El} {l v0 : Int} {n6 : Nat} {r : Rf} {σ : Pool (Nd El Tide)} {n : Nat} {tr : BT El} (hcl : ClosedΓ B Γ)
    (hl0 : 0 ≤ l) (h : HInv (l + 1) r σ n tr) (h6 : tr.size ≤ n6 + 1) (hn6 : n6 ≤ 400) (k : Nat) (hv : σ.visits = wr (v0 + k)) (hk : k ≤ 81 * hgt (n6 + 1) + 90)
    (hag : ∀ σ2 n2, HInv (l + 1) r σ2 n2 tr → eI.LT t p r σ2 n2 B Γ R (.again 0 (iEmb (l + 1)))) : eI.LT t p r σ n B Γ R (moreT t e l n6 v0) := by
  obtain ⟨rfl, hrep, hnd, hbal, hsize, hn, hlt⟩ := h
  have hw6 : wr ((n6 : Int) + 1) = ((n6 + 1 : Nat) : Int) := by rw [wr_id (by omega) (by omega)]; omega
  have hlog : ∀ q, q ≤ 500 → hgt q ≤ 40 := fun q hq => by
    have : Nat.log2 (q + 1) < 9 := (Nat.log2_lt (by omega)).2 (by omega)
    unfold hgt; omega
  have hb1 := hlog (n6 + 1) (by omega)
  have hh := height_le hbal
  have hm := hgt_mono h6
  unfold moreT
  refine LT.callS hcl (visits_g e_ty e_t3) ?_
  rintro x10 σ1 ⟨hx, hσ⟩
  obtain rfl := hσ.symm
  obtain rfl := hx.symm
  rw [hw6]
  refine LT.quiet (H := eInt) (hgt (n6 + 1) : Int) hcl (hgt_q _ (by omega)) ?_
  have w4 : wr ((hgt (n6 + 1) : Int) + 4) = (hgt (n6 + 1) : Int) + 4 := wr_id (by omega) (by omega)
  have w5 : wr (200 * ((hgt (n6 + 1) : Int) + 4)) = 200 * ((hgt (n6 + 1) : Int) + 4) := wr_id (by omega) (by omega)
  rw [w4, w5, hv, vis_diff (by omega) (by omega)]
  refine LT.ite (fun hb => absurd (of_decide_eq_true hb) (by omega)) (fun _ => ?_)
  refine LT.callS hcl (Height_g e_ty e_t3 e_tH hrep (by omega)) ?_
  rintro x12 σ2 ⟨hx, h2⟩
  obtain rfl := hx.symm
  have hrep2 := h2.rep hrep No.rep
  refine LT.callS hcl (len_g e_ty e_t3 hrep2) ?_
  rintro x13 σ3 ⟨hx, h3⟩
  obtain rfl := hx.symm
  have hrep3 := h3.rep hrep2 No.rep
  refine LT.quiet (H := eInt) (hgt tr.size : Int) hcl (hgt_q _ (by omega)) ?_
  refine LT.ite (fun hb => absurd (of_decide_eq_true hb) (by omega)) (fun _ => ?_)
  refine LT.callS hcl (visits_g e_ty e_t3) ?_
  rintro x15 σ4 ⟨hx, hσ⟩
  obtain rfl := hσ.symm
  obtain rfl := hx.symm
  refine LT.callS hcl (Rank_g e_ty e_t3 e hrep3 (by omega)) ?_
  rintro x σ5 ⟨_, h5⟩
  have hrep5 := h5.rep hrep3 No.rep
  refine LT.callS hcl (Find_g e_ty e_t3 e hrep5) ?_
  rintro x σ6 ⟨_, h6'⟩
  have hrep6 := h6'.rep hrep5 No.rep
  refine LT.callS hcl (Between_g e_ty e_t4 hrep6 (by omega)) ?_
  rintro x σ7 ⟨_, h7⟩
  have hrep7 := h7.rep hrep6 No.rep
  refine LT.callS hcl (visits_g e_ty e_t3) ?_
  rintro x σ8 ⟨hx, hσ⟩
  obtain rfl := hσ.symm
  obtain rfl := hx.symm
  refine LT.quiet (H := eInt) (hgt (n6 + 1) : Int) hcl (hgt_q _ (by omega)) ?_
  have w7 : wr (600 * ((hgt (n6 + 1) : Int) + 4)) = 600 * ((hgt (n6 + 1) : Int) + 4) := wr_id (by omega) (by omega)
  obtain ⟨k2, hk2, hv2⟩ := ((h5.trans h6').trans h7).vis
  have hbt := btwC_le tr (clampI (wr ((n6 : Int).tdiv 3)) tr.size) (clampI (wr ((n6 : Int).tdiv 2)) tr.size)
  rw [w4, w7, hv2, vis_diff (by omega) (by omega)]
  refine LT.ite (fun hb => absurd (of_decide_eq_true hb) (by omega)) (fun _ => ?_)
  rw [show wr (l + 1) = l + 1 from wr_id (by omega) (by omega)]
  exact hag _ _ ⟨rfl, hrep7, hnd, hbal, hsize, hn, hlt⟩
end Go.Sx
