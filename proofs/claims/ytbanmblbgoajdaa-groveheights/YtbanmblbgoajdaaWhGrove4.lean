import Derived.Test.YtbanmblbgoajdaaWhGrove3
set_option linter.unusedVariables false
set_option linter.unusedSimpArgs false
set_option maxHeartbeats 2000000
namespace Go.Sx
open Go.RowKit
namespace GI
variable {E A : Type} {I : GI E A} {t q : Nat} {p : Px} {r0 : Rf} {σ σ' σ2 : Pool (Nd E A)} {n : Nat} {F : BS} {w w1 : World}

theorem no2 (r : Rf) : ¬ (No r ∨ No r) := fun h => by rcases h with h | h <;> exact h
theorem no3 (r : Rf) : ¬ ((No r ∨ No r) ∨ No r) := fun h => by rcases h with (h | h) | h <;> exact h
theorem Tch.no2 {c : Nat} {d : Int} (h : Tch σ σ' (fun r => No r ∨ No r) c d) : Tch σ σ' No c d := h.mono (fun r h => absurd h (GI.no2 r)) (Nat.le_refl _) rfl

theorem balance_g (hI : I.Ty) (hG : I.Trees) {r : Rf} {l h : BT E} {e : E} (hs : I.Rep σ.look (.node r l e h)) (hnd : (BT.node r l e h).refs.Nodup) (hsz : (BT.node r l e h).size < 1152921504606846976) :
    I.GS t p r0 n n σ I.gBalance [pa t 0, ar r] eRef fun x σ' => x = (BT.bal r l e h).ref ∧ Tch σ σ' (fun x => x ∈ (BT.node r l e h).refs) 30 0 ∧ I.Rep σ'.look (BT.bal r l e h) := by
  refine GS.of hI (hG.balance t _) (fun B => ?_)
  have hs0 := hs
  obtain ⟨k1, k2, k3, k4⟩ := hs
  have hlsz : l.size + 1 + h.size < 1152921504606846976 := hsz
  have hlw : l.w = l.size + 1 := rfl
  have hhw : h.w = h.size + 1 := rfl
  unfold balanceT
  refine GT.call closed_nil (get_g hI hG hs0) ?_
  rintro x1 σ1 ⟨rfl, h1⟩
  refine GT.call closed_nil (weight_g hI hG (h1.rep k3 No.rep) (by omega)) ?_
  rintro x2 σ2 ⟨rfl, h2⟩
  have h12 := (h1.trans h2).no2
  refine GT.call closed_nil (weight_g hI hG (h12.rep k4 No.rep) (by omega)) ?_
  rintro x3 σ3 ⟨rfl, h3⟩
  have h13 := (h12.trans h3).no2
  refine GT.endS ?_
  have w1 : wr (3 * (l.w : Int)) = 3 * (l.w : Int) := wr_id (by omega) (by omega)
  have w2 : wr (3 * (h.w : Int)) = 3 * (h.w : Int) := wr_id (by omega) (by omega)
  rw [w1, w2]
  have hl3 := h13.rep k3 No.rep
  have hh3 := h13.rep k4 No.rep
  have hs3 := h13.rep hs0 No.rep
  refine GT.ite (fun hb => ?_) (fun hb => ?_)
  · have hb : 3 * l.w < h.w := by simp at hb; omega
    have hbal : BT.bal r l e h = if h.dblL then BT.turnL (.node r l e h.turnR) else BT.turnL (.node r l e h) := by unfold BT.bal; rw [if_pos hb]
    cases h with
    | nil => simp only [BT.w, BT.size] at hb; omega
    | node r2 hl e2 hh =>
      have hh30 := hh3
      obtain ⟨j1, j2, j3, j4⟩ := hh3
      have z1 : hl.w = hl.size + 1 := rfl
      have z2 : hh.w = hh.size + 1 := rfl
      simp only [BT.size] at hlsz
      refine GT.call closed_nil (get_g hI hG hh30) ?_
      rintro x4 σ4 ⟨rfl, h4⟩
      refine GT.call closed_nil (weight_g hI hG (h4.rep j3 No.rep) (by omega)) ?_
      rintro x5 σ5 ⟨rfl, h5⟩
      have h45 := (h4.trans h5).no2
      refine GT.call closed_nil (weight_g hI hG (h45.rep j4 No.rep) (by omega)) ?_
      rintro x6 σ6 ⟨rfl, h6⟩
      have h46 := (h45.trans h6).no2
      have h16 := (h13.trans h46).no2
      refine GT.endS ?_
      have w3 : wr (2 * (hh.w : Int)) = 2 * (hh.w : Int) := wr_id (by omega) (by omega)
      rw [w3]
      have hs6 := h46.rep hs3 No.rep
      refine GT.ite (fun hc => ?_) (fun hc => ?_)
      · have hc : 2 * hh.w ≤ hl.w := by simp at hc; omega
        have hdbl : (BT.node r2 hl e2 hh).dblL = true := by simp [BT.dblL, hc]
        rw [hdbl, if_pos rfl] at hbal
        cases hl with
        | nil => simp only [BT.w, BT.size] at hc; omega
        | node r3 ga f gb =>
          have hnd2 := hnd
          rw [BT.refs_node, List.nodup_append] at hnd2
          obtain ⟨m1, m2, m3⟩ := hnd2
          rw [List.nodup_cons] at m2
          have hh6 := h46.rep hh30 No.rep
          refine GT.callR closed_nil (turnR_g hI hG hh6 m2.2 (by simp only [BT.size] at hlsz ⊢; omega)) ?_
          rintro x7 σ7 ⟨hx, h7, g7⟩
          obtain rfl := hx.symm
          have hD : ∀ q, q = r2 ∨ q = r3 → q ∈ (BT.node r2 (BT.node r3 ga f gb) e2 hh).refs := by
            rintro q (rfl | rfl) <;> simp [BT.refs]
          have hl7 := h7.rep (h46.rep hl3 No.rep) fun q hq hd => m3 q hq q (List.mem_cons_of_mem _ (hD q hd)) rfl
          have hr7 : σ7.look r = some (I.ndOf (.node r l e (.node r2 (.node r3 ga f gb) e2 hh))) := (h7.look r fun hd => m2.1 (hD r hd)).trans hs6.1
          have hR : (BT.node r2 (BT.node r3 ga f gb) e2 hh).turnR = .node r3 ga f (.node r2 gb e2 hh) := rfl
          rw [hR] at hbal
          replace g7 : I.Rep σ7.look (.node r3 ga f (.node r2 gb e2 hh)) := g7
          have hrefs : (BT.node r3 ga f (.node r2 gb e2 hh)).refs = (BT.node r2 (BT.node r3 ga f gb) e2 hh).refs := by rw [← hR, BT.turnR_refs]
          refine GT.callR closed_nil (lay_g hI hG (b := .node r3 ga f (.node r2 gb e2 hh)) hl7 g7 hr7 k2 (fun hm => m3 r hm r List.mem_cons_self rfl) (by rw [hrefs]; exact m2.1) (by simp only [BT.size] at hlsz ⊢; omega)) ?_
          rintro x8 σ8 ⟨hx, h8, g8⟩
          obtain rfl := hx.symm
          refine GT.endS ?_
          have hnd8 : (BT.node r l e (.node r3 ga f (.node r2 gb e2 hh))).refs.Nodup := by
            rw [BT.refs_node, hrefs]; exact hnd
          refine GT.callR closed_nil (turnL_g hI hG g8 hnd8 (by simp only [BT.size] at hlsz ⊢; omega)) ?_
          rintro x9 σ9 ⟨hx, h9, g9⟩
          obtain rfl := hx.symm
          rw [hbal]
          refine GT.ret (H := eRef) _ rfl ⟨rfl, (h16.trans (h7.trans (h8.trans h9))).mono (fun q hq => ?_) (by omega) (by omega), g9⟩
          rcases hq with hq | hq | hq | hq | hq
          · exact absurd hq id
          · rw [BT.refs_node]; exact List.mem_append_right _ (List.mem_cons_of_mem _ (hD q hq))
          · subst hq; rw [BT.refs_node]; simp
          · subst hq; rw [BT.refs_node]; simp
          · subst hq; rw [BT.refs_node]; exact List.mem_append_right _ (List.mem_cons_of_mem _ (hD _ (.inr rfl)))
      · have hc : ¬ 2 * hh.w ≤ hl.w := by simp at hc; omega
        have hdbl : (BT.node r2 hl e2 hh).dblL = false := by simp [BT.dblL, hc]
        rw [hdbl, if_neg (by simp)] at hbal
        refine GT.callR closed_nil (turnL_g hI hG hs6 hnd (by omega)) ?_
        rintro x9 σ9 ⟨hx, h9, g9⟩
        obtain rfl := hx.symm
        rw [hbal]
        refine GT.ret (H := eRef) _ rfl ⟨rfl, (h16.trans h9).mono (fun q hq => ?_) (by omega) (by omega), g9⟩
        rcases hq with hq | hq | hq
        · exact absurd hq id
        · subst hq; simp [BT.refs]
        · subst hq; simp [BT.refs]
  · have hb : ¬ 3 * l.w < h.w := by simp at hb; omega
    refine GT.ite (fun hb2 => ?_) (fun hb2 => ?_)
    · have hb2 : 3 * h.w < l.w := by simp at hb2; omega
      have hbal : BT.bal r l e h = if l.dblR then BT.turnR (.node r l.turnL e h) else BT.turnR (.node r l e h) := by unfold BT.bal; rw [if_neg hb, if_pos hb2]
      cases l with
      | nil => simp only [BT.w, BT.size] at hb2; omega
      | node r2 ll e2 lh =>
        have hl30 := hl3
        obtain ⟨j1, j2, j3, j4⟩ := hl3
        have z1 : ll.w = ll.size + 1 := rfl
        have z2 : lh.w = lh.size + 1 := rfl
        simp only [BT.size] at hlsz
        refine GT.call closed_nil (get_g hI hG hl30) ?_
        rintro x4 σ4 ⟨rfl, h4⟩
        refine GT.call closed_nil (weight_g hI hG (h4.rep j4 No.rep) (by omega)) ?_
        rintro x5 σ5 ⟨rfl, h5⟩
        have h45 := (h4.trans h5).no2
        refine GT.call closed_nil (weight_g hI hG (h45.rep j3 No.rep) (by omega)) ?_
        rintro x6 σ6 ⟨rfl, h6⟩
        have h46 := (h45.trans h6).no2
        have h16 := (h13.trans h46).no2
        refine GT.endS ?_
        have w3 : wr (2 * (ll.w : Int)) = 2 * (ll.w : Int) := wr_id (by omega) (by omega)
        rw [w3]
        have hs6 := h46.rep hs3 No.rep
        refine GT.ite (fun hc => ?_) (fun hc => ?_)
        · have hc : 2 * ll.w ≤ lh.w := by simp at hc; omega
          have hdbl : (BT.node r2 ll e2 lh).dblR = true := by simp [BT.dblR, hc]
          rw [hdbl, if_pos rfl] at hbal
          cases lh with
          | nil => simp only [BT.w, BT.size] at hc; omega
          | node r3 ga f gb =>
            have hnd2 := hnd
            rw [BT.refs_node, List.nodup_append] at hnd2
            obtain ⟨m1, m2, m3⟩ := hnd2
            rw [List.nodup_cons] at m2
            have hl6 := h46.rep hl30 No.rep
            refine GT.callR closed_nil (turnL_g hI hG hl6 m1 (by simp only [BT.size] at hlsz ⊢; omega)) ?_
            rintro x7 σ7 ⟨hx, h7, g7⟩
            obtain rfl := hx.symm
            have hD : ∀ q, q = r2 ∨ q = r3 → q ∈ (BT.node r2 ll e2 (BT.node r3 ga f gb)).refs := by
              rintro q (rfl | rfl) <;> simp [BT.refs]
            have hh7 := h7.rep (h46.rep hh3 No.rep) fun q hq hd => m3 q (hD q hd) q (List.mem_cons_of_mem _ hq) rfl
            have hr7 : σ7.look r = some (I.ndOf (.node r (.node r2 ll e2 (.node r3 ga f gb)) e h)) := (h7.look r fun hd => m3 r (hD r hd) r List.mem_cons_self rfl).trans hs6.1
            have hR : (BT.node r2 ll e2 (BT.node r3 ga f gb)).turnL = .node r3 (.node r2 ll e2 ga) f gb := rfl
            rw [hR] at hbal
            replace g7 : I.Rep σ7.look (.node r3 (.node r2 ll e2 ga) f gb) := g7
            have hrefs : (BT.node r3 (.node r2 ll e2 ga) f gb).refs = (BT.node r2 ll e2 (BT.node r3 ga f gb)).refs := by rw [← hR, BT.turnL_refs]
            refine GT.callR closed_nil (lay_g hI hG (a := .node r3 (.node r2 ll e2 ga) f gb) g7 hh7 hr7 k2 (by rw [hrefs]; exact fun hm => m3 r hm r List.mem_cons_self rfl) m2.1 (by simp only [BT.size] at hlsz ⊢; omega)) ?_
            rintro x8 σ8 ⟨hx, h8, g8⟩
            obtain rfl := hx.symm
            refine GT.endS ?_
            have hnd8 : (BT.node r (.node r3 (.node r2 ll e2 ga) f gb) e h).refs.Nodup := by
              rw [BT.refs_node, hrefs]; exact hnd
            refine GT.callR closed_nil (turnR_g hI hG g8 hnd8 (by simp only [BT.size] at hlsz ⊢; omega)) ?_
            rintro x9 σ9 ⟨hx, h9, g9⟩
            obtain rfl := hx.symm
            rw [hbal]
            refine GT.ret (H := eRef) _ rfl ⟨rfl, (h16.trans (h7.trans (h8.trans h9))).mono (fun q hq => ?_) (by omega) (by omega), g9⟩
            rcases hq with hq | hq | hq | hq | hq
            · exact absurd hq id
            · rw [BT.refs_node]; exact List.mem_append_left _ (hD q hq)
            · subst hq; rw [BT.refs_node]; simp
            · subst hq; rw [BT.refs_node]; simp
            · subst hq; rw [BT.refs_node]; exact List.mem_append_left _ (hD _ (.inr rfl))
        · have hc : ¬ 2 * ll.w ≤ lh.w := by simp at hc; omega
          have hdbl : (BT.node r2 ll e2 lh).dblR = false := by simp [BT.dblR, hc]
          rw [hdbl, if_neg (by simp)] at hbal
          refine GT.callR closed_nil (turnR_g hI hG hs6 hnd (by omega)) ?_
          rintro x9 σ9 ⟨hx, h9, g9⟩
          obtain rfl := hx.symm
          rw [hbal]
          refine GT.ret (H := eRef) _ rfl ⟨rfl, (h16.trans h9).mono (fun q hq => ?_) (by omega) (by omega), g9⟩
          rcases hq with hq | hq | hq
          · exact absurd hq id
          · subst hq; simp [BT.refs]
          · subst hq; simp [BT.refs]
    · have hb2 : ¬ 3 * h.w < l.w := by simp at hb2; omega
      have hbal : BT.bal r l e h = .node r l e h := by unfold BT.bal; rw [if_neg hb, if_neg hb2]
      rw [hbal]
      exact GT.ret (H := eRef) _ rfl ⟨rfl, h13.mono (fun q hq => absurd hq id) (by omega) rfl, hs3⟩

theorem link_g (hI : I.Ty) (hG : I.Trees) : ∀ (k : Nat) {a b : BT E} {m : Rf} {nd0 : Nd E A} {σ : Pool (Nd E A)}, a.size + b.size ≤ k → I.Rep σ.look a → I.Rep σ.look b → σ.look m = some nd0 → m.gen ≠ 0 → (a.refs ++ m :: b.refs).Nodup → a.size + b.size < 576460752303423488 →
    I.GS t p r0 n n σ I.gLink [pa t 0, ar a.ref, ar m, ar b.ref] eRef fun x σ' => x = (BT.link a m nd0.e b).ref ∧ Tch σ σ' (fun x => x ∈ a.refs ++ m :: b.refs) (6 + 37 * BT.linkD a b) 0 ∧ I.Rep σ'.look (BT.link a m nd0.e b) := by
  intro k
  induction k using Nat.strongRecOn with
  | _ k ih =>
  intro a b m nd0 σ hk ha hb hm hg hnd hsz
  refine GS.of hI (hG.link t _ _ _) (fun B => ?_)
  have hlw : a.w = a.size + 1 := rfl
  have hhw : b.w = b.size + 1 := rfl
  unfold linkT
  refine GT.call closed_nil (weight_g hI hG ha (by omega)) ?_
  rintro x1 σ1 ⟨rfl, h1⟩
  refine GT.call closed_nil (weight_g hI hG (h1.rep hb No.rep) (by omega)) ?_
  rintro x2 σ2 ⟨rfl, h2⟩
  have h12 := (h1.trans h2).no2
  have w1 : wr (3 * (a.w : Int)) = 3 * (a.w : Int) := wr_id (by omega) (by omega)
  have w2 : wr (3 * (b.w : Int)) = 3 * (b.w : Int) := wr_id (by omega) (by omega)
  rw [w1, w2]
  have ha2 := h12.rep ha No.rep
  have hb2 := h12.rep hb No.rep
  have hm2 : σ2.look m = some nd0 := (h12.look m id).trans hm
  refine GT.endS ?_
  refine GT.ite (fun hc => ?_) (fun hc => ?_)
  · have hc : 3 * a.w < b.w := by simp at hc; omega
    cases b with
    | nil => simp only [BT.w, BT.size] at hc; omega
    | node r l f h =>
      have hlink : BT.link a m nd0.e (.node r l f h) = BT.bal r (BT.link a m nd0.e l) f h := BT.link_R hc
      have hD : BT.linkD a (.node r l f h) = BT.linkD a l + 1 := BT.linkD_R hc
      rw [hlink, hD]
      simp only [BT.size] at hk hsz
      have hnd2 := hnd
      rw [BT.refs_node] at hnd2
      have hnd3 : ((a.refs ++ m :: l.refs) ++ r :: h.refs).Nodup := by rw [List.append_assoc, List.cons_append]; exact hnd2
      rw [List.nodup_append] at hnd3
      obtain ⟨m1, m2, m3⟩ := hnd3
      rw [List.nodup_cons] at m2
      refine GT.call closed_nil (get_g hI hG hb2) ?_
      rintro x3 σ3 ⟨rfl, h3⟩
      have hb3 := h3.rep hb2 No.rep
      obtain ⟨j1, j2, j3, j4⟩ := hb3
      refine GT.callR closed_nil (ih (a.size + l.size) (by omega) (Nat.le_refl _) (h3.rep ha2 No.rep) j3 ((h3.look m id).trans hm2) hg m1 (by omega)) ?_
      rintro x4 σ4 ⟨hx, h4, g4⟩
      obtain rfl := hx.symm
      have hr4 : σ4.look r = some (I.ndOf (.node r l f h)) := (h4.look r fun hd => m3 r hd r List.mem_cons_self rfl).trans j1
      have hh4 := h4.rep j4 fun q hq hd => m3 q hd q (List.mem_cons_of_mem _ hq) rfl
      have hlr : (BT.link a m nd0.e l).refs = a.refs ++ m :: l.refs := BT.link_refs _ _ _ _
      have hls : (BT.link a m nd0.e l).size = a.size + l.size + 1 := BT.link_size _ _ _ _
      refine GT.callR closed_nil (lay_g hI hG g4 hh4 hr4 j2 (by rw [hlr]; exact fun hd => m3 r hd r List.mem_cons_self rfl) m2.1 (by omega)) ?_
      rintro x5 σ5 ⟨hx, h5, g5⟩
      obtain rfl := hx.symm
      have hnd5 : (BT.node r (BT.link a m nd0.e l) (I.ndOf (.node r l f h)).e h).refs.Nodup := by
        rw [BT.refs_node, hlr, List.append_assoc, List.cons_append]; exact hnd2
      refine GT.callR closed_nil (balance_g hI hG g5 hnd5 (by simp only [BT.size]; omega)) ?_
      rintro x6 σ6 ⟨hx, h6, g6⟩
      obtain rfl := hx.symm
      refine GT.endS (GT.ret (H := eRef) _ rfl ⟨rfl, (h12.trans (h3.trans (h4.trans (h5.trans h6)))).mono (fun q hq => ?_) (by omega) (by omega), g6⟩)
      rw [BT.refs_node]
      rcases hq with hq | hq | hq | hq | hq
      · exact absurd hq id
      · exact absurd hq id
      · rcases List.mem_append.1 hq with hq | hq
        · simp [hq, BT.ref]
        · rcases List.mem_cons.1 hq with hq | hq <;> simp [hq, BT.ref]
      · subst hq; simp
      · rw [BT.refs_node, hlr] at hq
        rcases List.mem_append.1 hq with hq | hq
        · rcases List.mem_append.1 hq with hq | hq
          · simp [hq, BT.ref]
          · rcases List.mem_cons.1 hq with hq | hq <;> simp [hq, BT.ref]
        · rcases List.mem_cons.1 hq with hq | hq <;> simp [hq, BT.ref]
  · have hc : ¬ 3 * a.w < b.w := by simp at hc; omega
    refine GT.ite (fun hc2 => ?_) (fun hc2 => ?_)
    · have hc2 : 3 * b.w < a.w := by simp at hc2; omega
      cases a with
      | nil => simp only [BT.w, BT.size] at hc2; omega
      | node r l f h =>
        have hlink : BT.link (.node r l f h) m nd0.e b = BT.bal r l f (BT.link h m nd0.e b) := BT.link_L hc hc2
        have hD : BT.linkD (.node r l f h) b = BT.linkD h b + 1 := BT.linkD_L hc hc2
        rw [hlink, hD]
        simp only [BT.size] at hk hsz
        have hnd2 := hnd
        rw [BT.refs_node, List.append_assoc, List.cons_append, List.nodup_append] at hnd2
        obtain ⟨m1, m2, m3⟩ := hnd2
        rw [List.nodup_cons] at m2
        refine GT.call closed_nil (get_g hI hG ha2) ?_
        rintro x3 σ3 ⟨rfl, h3⟩
        have ha3 := h3.rep ha2 No.rep
        obtain ⟨j1, j2, j3, j4⟩ := ha3
        refine GT.callR closed_nil (ih (h.size + b.size) (by omega) (Nat.le_refl _) j4 (h3.rep hb2 No.rep) ((h3.look m id).trans hm2) hg m2.2 (by omega)) ?_
        rintro x4 σ4 ⟨hx, h4, g4⟩
        obtain rfl := hx.symm
        have hr4 : σ4.look r = some (I.ndOf (.node r l f h)) := (h4.look r fun hd => m2.1 hd).trans j1
        have hl4 := h4.rep j3 fun q hq hd => m3 q hq q (List.mem_cons_of_mem _ hd) rfl
        have hlr : (BT.link h m nd0.e b).refs = h.refs ++ m :: b.refs := BT.link_refs _ _ _ _
        have hls : (BT.link h m nd0.e b).size = h.size + b.size + 1 := BT.link_size _ _ _ _
        refine GT.callR closed_nil (lay_g hI hG hl4 g4 hr4 j2 (fun hd => m3 r hd r List.mem_cons_self rfl) (by rw [hlr]; exact m2.1) (by omega)) ?_
        rintro x5 σ5 ⟨hx, h5, g5⟩
        obtain rfl := hx.symm
        have hnd5 : (BT.node r l (I.ndOf (.node r l f h)).e (BT.link h m nd0.e b)).refs.Nodup := by
          rw [BT.refs_node, hlr]
          have := hnd
          rw [BT.refs_node, List.append_assoc, List.cons_append] at this
          exact this
        refine GT.callR closed_nil (balance_g hI hG g5 hnd5 (by simp only [BT.size]; omega)) ?_
        rintro x6 σ6 ⟨hx, h6, g6⟩
        obtain rfl := hx.symm
        refine GT.endS (GT.ret (H := eRef) _ rfl ⟨rfl, (h12.trans (h3.trans (h4.trans (h5.trans h6)))).mono (fun q hq => ?_) (by omega) (by omega), g6⟩)
        rw [BT.refs_node]
        rcases hq with hq | hq | hq | hq | hq
        · exact absurd hq id
        · exact absurd hq id
        · rcases List.mem_append.1 hq with hq | hq
          · simp [hq, BT.ref]
          · rcases List.mem_cons.1 hq with hq | hq <;> simp [hq, BT.ref]
        · subst hq; simp
        · rw [BT.refs_node, hlr] at hq
          rcases List.mem_append.1 hq with hq | hq
          · simp [hq, BT.ref]
          · rcases List.mem_cons.1 hq with hq | hq
            · simp [hq, BT.ref]
            · rcases List.mem_append.1 hq with hq | hq
              · simp [hq, BT.ref]
              · rcases List.mem_cons.1 hq with hq | hq <;> simp [hq, BT.ref]
    · have hc2 : ¬ 3 * b.w < a.w := by simp at hc2; omega
      have hlink : BT.link a m nd0.e b = .node m a nd0.e b := BT.link_M hc hc2
      have hD : BT.linkD a b = 0 := BT.linkD_M hc hc2
      rw [hlink, hD]
      rw [List.nodup_append] at hnd
      obtain ⟨m1, m2, m3⟩ := hnd
      rw [List.nodup_cons] at m2
      refine GT.callR closed_nil (lay_g hI hG ha2 hb2 hm2 hg (fun hd => m3 m hd m List.mem_cons_self rfl) m2.1 (by omega)) ?_
      rintro x5 σ5 ⟨hx, h5, g5⟩
      obtain rfl := hx.symm
      refine GT.ret (H := eRef) _ rfl ⟨rfl, (h12.trans h5).mono (fun q hq => ?_) (by omega) (by omega), g5⟩
      rcases hq with hq | hq
      · exact absurd hq id
      · subst hq; simp
end GI
end Go.Sx
