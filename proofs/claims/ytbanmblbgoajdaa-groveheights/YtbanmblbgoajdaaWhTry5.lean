import Derived.Test.YtbanmblbgoajdaaWhTry4
import Derived.Test.YtbanmblbgoajdaaWhLT
set_option linter.unusedVariables false
set_option maxHeartbeats 1000000
namespace Go.Sx
open GI Go.RowKit
noncomputable def awakeT : Tree :=
  .call 15 [iV 9].toArray [] eBlk fun (t : Nat) => .call 20 [pa t 0, ag (elC ⟨5, 5⟩)].toArray [] eBool fun (b : Bool) => .ite (!b) (.ret (.bool false)) (.call 20 [pa t 0, ag (elC ⟨2, 2⟩)].toArray [] eBool fun (b : Bool) => .ite (!b) (.ret (.bool false))
    (.call 20 [pa t 0, ag (elC ⟨9, 9⟩)].toArray [] eBool fun (b : Bool) => .ite (!b) (.ret (.bool false)) (.call 50 [pa t 0, iV 0, .func (.func 51) #[] #[]].toArray [] eInt fun (i : Int) => .call 23 [pa t 0, ag (elC ⟨6, 0⟩)].toArray [] eInt fun (r : Int) =>
      .ite (r == 2) (.call 25 [pa t 0, iV 1, iV 3].toArray [] eTide fun (s : Tide) => .ite (s.sum == 14) (.ret (.bool (i == 1))) (.ret (.bool false))) (.ret (.bool false)))))
theorem l7_ok : l7.Ok := ⟨fun f g args v h _ => (by cases h), fun t n f h => (by cases h)⟩
theorem awake_t : FnT l7 13 [] awakeT := fnT (fn := Go.Proofs.Try.f13) (fc := {}) (by kernel_rfl) (by kernel_rfl) (by kernel_rfl)
def may6 (a b : Tide) : Bool := decide (wr (a.sum + b.sum) > 6)
theorem may6_q (a b : Tide) : Quiet Go.Proofs.Try.prog 51 [ag (tideC a), ag (tideC b)] (.bool (may6 a b)) :=
  Quiet.of (c := l7) l7_ok try_mix (T := .ret (.bool (may6 a b))) (fnT (fn := Go.Proofs.Try.f51) (fc := {}) (by kernel_rfl) (by kernel_rfl) (by kernel_rfl)) fun w _ _ => rfl
theorem Quiet.gs {E A : Type} {I : GI E A} {t : Nat} {p : Px} {r0 : Rf} {σ : Pool (Nd E A)} {n : Nat} {f : FuncId} {args : List Value} {H : Enc} {x : H.T} (h : Quiet I.P f args (H.enc x)) : I.GS t p r0 n n σ f args H fun y σ' => y = x ∧ σ' = σ := fun F w hG =>
  (h.spec hG.lt).mono fun v F1 w1 _ ⟨h1, h2, h3⟩ => ⟨x, h1, σ, by rw [h2]; exact hG.keep h3, rfl, rfl⟩
theorem may6_May (t : Nat) (p : Px) (n : Nat) : eI.May t p n 51 [] may6 := fun r0 σ x y => Quiet.gs (H := eBool) (may6_q x y)

theorem ins1 (m : Rf) (e : El) : (BT.nil : BT El).ins El.cmp m e = .node m .nil e .nil := rfl
theorem awake_s (w : World) : Spec Go.Proofs.Try.prog 13 [] none0 w fun v F1 w1 => v = .bool true := by
  refine awake_t.spec l7_ok try_mix (fun b hb => hb.elim) ?_
  unfold awakeT
  refine TT_callN (X := fun (t : Nat) F1 w1 => ∃ p, eI.GAt t (px p) ⟨0, 0⟩ (pool0 El Tide 9) 0 F1 w1) closed_nil (fun b hb => hb.elim) (fun w' _ _ => (New_g e_ty e_t4 9 0 (by omega) w').mono fun v F1 w1 _ ⟨x, p, h1, h2⟩ => ⟨x, h1, p, h2⟩) ?_
  rintro t F1 w1 ⟨p, hG⟩ _ _ _
  have hrep : eI.Rep (pool0 El Tide 9).look .nil := trivial
  refine (?_ : eI.LT t (px p) ⟨0, 0⟩ (pool0 El Tide 9) 0 w.heap.size [] _ _) F1 w1 hG
  refine LT.call closed_nil (Put_g e_ty e_t3 e_laws (s := .nil) ⟨5, 5⟩ (by omega) hrep List.nodup_nil (by simp [BT.size])) ?_
  rintro b r1 σ1 h1
  have hcap0 : (pool0 El Tide 9).cap = 9 := rfl
  have hheld0 : (pool0 El Tide 9).held = 0 := rfl
  cases h1 with
  | old a1 => cases a1
  | full a1 a2 => rw [hcap0, hheld0] at a2; cases a2
  | new m1 a1 a2 a3 a4 a5 a6 =>
  refine LT.ite (fun h => by cases h) (fun _ => ?_)
  have hs1 : (BT.nil : BT El).ins eI.cmp m1 ⟨5, 5⟩ = .node m1 .nil ⟨5, 5⟩ .nil := rfl
  rw [hs1] at a5 ⊢
  have hc1 : σ1.cap = 9 := a6.cap
  have hh1 : σ1.held = 1 := by rw [a6.held]; rfl
  refine LT.call closed_nil (Put_g e_ty e_t3 e_laws (s := .node m1 .nil ⟨5, 5⟩ .nil) ⟨2, 2⟩ (by omega) a5 (by simp [BT.refs]) (by simp [BT.size])) ?_
  rintro b r2 σ2 h2
  cases h2 with
  | old b1 => exact absurd (show false = true from b1) (by simp)
  | full b1 b2 => rw [hc1, hh1] at b2; cases b2
  | new m2 b1 b2 b3 b4 b5 b6 =>
  refine LT.ite (fun h => by cases h) (fun _ => ?_)
  have hs2 : (BT.node m1 .nil (⟨5, 5⟩ : El) .nil).ins eI.cmp m2 ⟨2, 2⟩ = .node m1 (.node m2 .nil ⟨2, 2⟩ .nil) ⟨5, 5⟩ .nil := by
    show BT.link (E := El) (.node m2 .nil ⟨2, 2⟩ .nil) m1 ⟨5, 5⟩ .nil = _
    rw [BT.link_M (by simp [BT.w, BT.size]) (by simp [BT.w, BT.size])]
  rw [hs2] at b5 ⊢
  have hm12 : m2 ≠ m1 := fun e => by rw [e, a5.1] at b4; cases b4
  have hc2 : σ2.cap = 9 := b6.cap.trans hc1
  have hh2 : σ2.held = 2 := by rw [b6.held, hh1]; rfl
  have hnd2 : (BT.node m1 (.node m2 .nil (⟨2, 2⟩ : El) .nil) ⟨5, 5⟩ .nil).refs.Nodup := by simp [BT.refs, hm12]
  refine LT.call closed_nil (Put_g e_ty e_t3 e_laws (s := .node m1 (.node m2 .nil ⟨2, 2⟩ .nil) ⟨5, 5⟩ .nil) ⟨9, 9⟩ (by omega) b5 hnd2 (by simp [BT.size])) ?_
  rintro b r3 σ3 h3
  cases h3 with
  | old c1 => exact absurd (show false = true from c1) (by simp)
  | full c1 c2 => rw [hc2, hh2] at c2; cases c2
  | new m3 c1 c2 c3 c4 c5 c6 =>
  refine LT.ite (fun h => by cases h) (fun _ => ?_)
  have hs3 : (BT.node m1 (.node m2 .nil (⟨2, 2⟩ : El) .nil) ⟨5, 5⟩ .nil).ins eI.cmp m3 ⟨9, 9⟩ = .node m1 (.node m2 .nil ⟨2, 2⟩ .nil) ⟨5, 5⟩ (.node m3 .nil ⟨9, 9⟩ .nil) := by
    show BT.link (E := El) (.node m2 .nil ⟨2, 2⟩ .nil) m1 ⟨5, 5⟩ (.node m3 .nil ⟨9, 9⟩ .nil) = _
    rw [BT.link_M (by simp [BT.w, BT.size]) (by simp [BT.w, BT.size])]
  rw [hs3] at c5 ⊢
  refine LT.callS closed_nil (First_g e_ty e_t3 e_tF (may6_May _ _ _) (i := 0) c5 (by simp [BT.size])) ?_
  rintro i σ4 ⟨rfl, h4⟩
  refine LT.callS closed_nil (Rank_g e_ty e_t3 ⟨6, 0⟩ (h4.rep c5 No.rep) (by simp [BT.size])) ?_
  rintro r σ5 ⟨rfl, h5⟩
  have hr : (((BT.node m1 (.node m2 .nil (⟨2, 2⟩ : El) .nil) ⟨5, 5⟩ (.node m3 .nil ⟨9, 9⟩ .nil)).rank eI.cmp ⟨6, 0⟩ : Int) == 2) = true := by kernel_rfl
  refine LT.ite (fun _ => ?_) (fun hb => absurd (hr.symm.trans hb) (by simp))
  refine LT.callS closed_nil (Between_g e_ty e_t4 (i := 1) (j := 3) (h5.rep (h4.rep c5 No.rep) No.rep) (by simp [BT.size])) ?_
  rintro s σ6 ⟨rfl, h6⟩
  have hb3 : ((btw eI (BT.node m1 (.node m2 .nil (⟨2, 2⟩ : El) .nil) ⟨5, 5⟩ (.node m3 .nil ⟨9, 9⟩ .nil)) (clampI 1 3) (clampI 3 3)).sum == 14) = true := by kernel_rfl
  refine LT.ite (fun _ => LT.ret fun F w _ => ?_) (fun hb => absurd (hb3.symm.trans hb) (by simp))
  kernel_rfl
end Go.Sx
