import Derived.Test.YtbanmblbgoajdaaWhTry9
set_option linter.unusedVariables false
set_option maxHeartbeats 4000000
namespace Go.Sx
open GI Go.RowKit

theorem addr_inj {g o g' o' : Nat} (h : (some ⟨g, o, none⟩ : Option Addr) = some ⟨g', o', none⟩) : g = g' ∧ o = o' := by
  injection h with h; injection h with h1 h2; exact ⟨h1, h2⟩

theorem step_s {t : Nat} {p : Px} {R : Value → BS → World → Prop} {B : Nat} {Γ : List Again} {s : Sl} {xs : List ActE} {m l : Int} {r : Rf} {σ : Pool (Nd El Tide)} {n : Nat} {tr : BT El} (hcl : ClosedΓ B Γ)
    (hp : ∀ w, p.K w → ArgRow w actCd s xs) (hpG : ∀ b, argG s b → p.G b) (hlen : xs.length ≤ 60) (hl0 : 0 ≤ l) (hl : l < 6 * (xs.length : Int)) (h : HInv l r σ n tr)
    (hag : ∀ r2 σ2 n2 tr2, HInv (l + 1) r2 σ2 n2 tr2 → eI.LT t p r2 σ2 n2 B Γ R (.again 0 (iEmb (l + 1)))) (hK : ∃ w, p.K w) : eI.LT t p r σ n B Γ R (stepT s m t l) := by
  obtain ⟨rfl, hrep, hnd, hbal, hsize, hn, hlt⟩ := h
  obtain ⟨w0, hK0⟩ := hK
  have hA0 := hp w0 hK0
  have hsn := hA0.n
  have hpos : (0 : Int) < xs.length := by omega
  unfold stepT
  refine LT.prim (H := eInt) (l.tmod s.n) hcl (fun F w _ => ld_rem (by omega)) ?_
  have hmod : l.tmod s.n = l % (xs.length : Int) := by rw [Int.tmod_eq_emod_of_nonneg hl0, hsn]
  have hm0 : 0 ≤ l % (xs.length : Int) := Int.emod_nonneg _ (by omega)
  have hm1 : l % (xs.length : Int) < xs.length := Int.emod_lt_of_pos _ hpos
  have hx : xs[(l.tmod s.n).toNat]? = some (xs[(l.tmod s.n).toNat]'(by rw [hmod]; omega)) := List.getElem?_eq_getElem (by rw [hmod]; omega)
  generalize hx3 : xs[(l.tmod s.n).toNat]'(by rw [hmod]; omega) = x3 at hx
  obtain ⟨g, o, ha, _⟩ := hA0.cell _ _ hx
  have hgG : argG s g := ⟨_, ha, rfl, by omega⟩
  refine LT.arg (H := eAddr) ⟨g, o + (l.tmod s.n).toNat * 3, none⟩ hcl (fun F w _ hKw => ?_) ?_
  · obtain ⟨g', o', ha', hld, _⟩ := (hp w hKw).index (P := Go.Proofs.Try.prog) (S := F) (t := 32) (e := 41) (i := l.tmod s.n) u32 s41 (by rw [hmod]; exact hm0) hx
    obtain ⟨e1, e2⟩ := addr_inj (ha.symm.trans ha')
    subst e1 e2
    exact hld
  refine LT.arg (H := eAct) x3 hcl (fun F w hF hKw => ?_) ?_
  · obtain ⟨g', o', ha', _, hc⟩ := (hp w hKw).index (P := Go.Proofs.Try.prog) (S := F) (t := 32) (e := 41) (i := l.tmod s.n) u32 s41 (by rw [hmod]; exact hm0) hx
    obtain ⟨e1, e2⟩ := addr_inj (ha.symm.trans ha')
    subst e1 e2
    have hc' : ∀ (k : Nat) (v : Value), (actC x3)[k]? = some v → w.cell? ⟨g, o + (l.tmod s.n).toNat * 3 + k, none⟩ = some v := fun k v hv => by rw [Nat.add_assoc]; exact hc k v hv
    have := ld_cells (P := Go.Proofs.Try.prog) (S := F) (cs := actC x3) a41 s41 rfl (hF g (hpG g hgG)) hc'
    exact this
  refine LT.loadQuiet (H := eInt) (H1 := eInt) (wr (l.tdiv s.n)) (rest m 100) hcl (fun S w => ld_quo (by omega)) (rest_q m 100 (by decide)) ?_
  generalize elE x3 (wr (l.tdiv s.n)) (rest m 100) = e
  refine LT.callS hcl (len_g e_ty e_t3 hrep) ?_
  rintro x6 σ1 ⟨hx6, h1⟩
  obtain rfl := hx6.symm
  have hrep1 := h1.rep hrep No.rep
  refine LT.callS hcl (visits_g e_ty e_t3) ?_
  rintro x7 σ2 ⟨hx7, hσ⟩
  obtain rfl := hσ.symm
  obtain rfl := hx7.symm
  refine LT.quiet (H := eInt) (rest x3.kind 5) hcl (rest_q _ 5 (by decide)) ?_
  have hh := height_le hbal
  have hm : hgt tr.size ≤ hgt (tr.size + 1) := hgt_mono (Nat.le_succ tr.size)
  refine LT.ite (fun _ => ?_) (fun _ => ?_)
  · refine LT.call hcl (Drop_g e_ty e_t3 e hrep1 hnd (by omega)) ?_
    rintro x r3 σ3 hR
    have hC := BT.delC_le (cmp := eI.cmp) (e := e) hbal
    have key : ∀ (tr3 : BT El) (dh : Int) (D : Rf → Prop), r3 = tr3.ref → eI.Rep σ3.look tr3 → tr3.refs.Nodup → tr3.Bal → tr3.size ≤ tr.size → Tch σ1 σ3 D (tr.delC eI.cmp e) dh → eI.LT t p r3 σ3 n B Γ R (moreT t e l tr.size σ1.visits) := by
      intro tr3 dh D hr3 hrep3 hnd3 hbal3 hsz3 ht
      obtain ⟨k, hk, hv⟩ := ht.vis
      refine GT_up (n' := n + 1) (by omega) (by omega) ?_
      exact more_s (n6 := tr.size) hcl hl0 ⟨hr3, hrep3, hnd3, hbal3, by omega, by omega, by omega⟩ (by omega) (by omega) k hv (by omega) (fun σ2 n2 hi => hag _ _ _ _ hi)
    obtain ⟨xe, xb⟩ := x
    cases hR with
    | none a1 a2 => exact key tr 0 No rfl (a2.rep hrep1 No.rep) hnd hbal (Nat.le_refl _) a2
    | some y a1 a2 a3 => exact key y.1 (-1) _ rfl a2 (BT.del_nodup _ a1 hnd) (BT.del_bal hbal a1) (by have := BT.del_size _ a1; omega) a3
  · refine LT.call hcl (Put_g e_ty e_t3 e_laws e (by omega) hrep1 hnd (by omega)) ?_
    rintro b r3 σ3 hR
    have key : ∀ (tr3 : BT El) (dh : Int) (D : Rf → Prop) (c : Nat), r3 = tr3.ref → eI.Rep σ3.look tr3 → tr3.refs.Nodup → tr3.Bal → tr3.size ≤ tr.size + 1 → Tch σ1 σ3 D c dh → c ≤ 81 * tr.height → eI.LT t p r3 σ3 (n + 1) B Γ R (moreT t e l tr.size σ1.visits) := by
      intro tr3 dh D c hr3 hrep3 hnd3 hbal3 hsz3 ht hc
      obtain ⟨k, hk, hv⟩ := ht.vis
      exact more_s (n6 := tr.size) hcl hl0 ⟨hr3, hrep3, hnd3, hbal3, by omega, by omega, by omega⟩ hsz3 (by omega) k hv (by omega) (fun σ2 n2 hi => hag _ _ _ _ hi)
    cases hR with
    | old a1 a2 a3 => exact key _ 0 _ _ rfl a2 (BT.ins_nodup _ hnd (by rw [a1]; simp)) (BT.ins_bal hbal) (by have := BT.ins_size (cmp := eI.cmp) (m := ⟨0, 0⟩) (e := e) tr; split at this <;> omega) a3 (BT.insC_le hbal)
    | full a1 a2 a3 => exact key tr 0 No _ rfl (a3.rep hrep1 No.rep) hnd hbal (by omega) a3 (BT.insC_le hbal)
    | new q a1 a2 a3 a4 a5 a6 =>
      exact key _ 1 _ _ rfl a5 (BT.ins_nodup _ hnd (fun _ hq => by obtain ⟨v, hv⟩ := rep_some hrep1 q hq; rw [a4] at hv; cases hv)) (BT.ins_bal hbal) (by have := BT.ins_size (cmp := eI.cmp) (m := q) (e := e) tr; split at this <;> omega) a6 (BT.insC_le hbal)
end Go.Sx
