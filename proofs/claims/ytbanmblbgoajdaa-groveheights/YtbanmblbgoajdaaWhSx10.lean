import Derived.Test.YtbanmblbgoajdaaWhSx9
set_option linter.unusedVariables false
set_option maxHeartbeats 2000000
namespace Go.Sx
open Go.RowKit

section
variable {P : Program} {B : Nat} {R : Value → BS → World → Prop} {Γ : List Again} {S0 S : BS} {s : List SV} {a : Act} {w0 w : World} {ρ : Nat → Nat} {Λ : Lam} {K : List SV → Tree} {Q : Exit → Act → World → Prop} {r : Rc} {ops : Array Oper} {T : List Nat}

theorem tabOk_row (h : tabOk ops T = true) {i : Nat} {o : Oper} (ho : ops[i]? = some o) :
    (∀ d ∈ depsOf o, d < i ∧ (T.getD i 0).testBit d = true) ∧ ∀ j, j < ops.size → (T.getD i 0).testBit j = true → ∃ d ∈ depsOf o, d < i ∧ (d = j ∨ (T.getD d 0).testBit j = true) := by
  have hi : i < ops.size := (Array.getElem?_eq_some_iff.1 ho).1
  have h1 := (List.all_eq_true.1 h) i (List.mem_range.2 hi)
  rw [ho] at h1
  simp only [Bool.and_eq_true, List.all_eq_true] at h1
  refine ⟨fun d hd => ⟨Nat.le_of_ble_eq_true (h1.1 d hd).1, (h1.1 d hd).2⟩, fun j hj hb => ?_⟩
  have h2 := h1.2 j (List.mem_range.2 hj)
  rw [hb] at h2
  simp only [Bool.not_true, Bool.false_or, List.any_eq_true, Bool.and_eq_true, Bool.or_eq_true, beq_iff_eq] at h2
  obtain ⟨d, hd, hlt, hh⟩ := h2
  exact ⟨d, hd, Nat.le_of_ble_eq_true hlt, hh⟩

theorem mem_ready {listed : Array Bool} {i : Nat} : i ∈ Region.ready .any ops listed ↔ i < ops.size ∧ listed.getD i true = false ∧ ∃ o, ops[i]? = some o ∧ ∀ d ∈ depsOf o, listed.getD d false = true := by
  unfold Region.ready
  rw [List.mem_filter, List.mem_range]
  constructor
  · rintro ⟨h1, h2⟩
    simp only [Bool.and_eq_true, Bool.not_eq_true'] at h2
    obtain ⟨h2, h3⟩ := h2
    refine ⟨h1, h2, ops[i], Array.getElem?_eq_getElem h1, fun d hd => ?_⟩
    rw [Array.getElem?_eq_getElem h1] at h3
    simp only [Option.map_some, Option.getD_some, Array.all_eq_true_iff_forall_mem] at h3
    unfold depsOf at hd
    rw [List.mem_map] at hd
    obtain ⟨e, he, rfl⟩ := hd
    rw [List.mem_filter] at he
    have := h3 e (by simpa using he.1)
    simpa [he.2] using this
  · rintro ⟨h1, h2, o, ho, h3⟩
    refine ⟨h1, ?_⟩
    rw [h2, ho]
    simp only [Bool.not_false, Option.map_some, Option.getD_some, Bool.true_and, Array.all_eq_true_iff_forall_mem]
    intro e he
    by_cases hb : Region.binds .any e = true
    · have := h3 e.on (by unfold depsOf; rw [List.mem_map]; exact ⟨e, by rw [List.mem_filter]; exact ⟨by simpa using he, hb⟩, rfl⟩)
      simp [this]
    · simp [hb]

theorem pairsOk_spec {f : Nat → Nat → Bool} : ∀ {l : List Nat}, pairsOk f l = true → ∀ (r1 : List Nat) (u : Nat) (r2 : List Nat), l = r1 ++ u :: r2 → ∀ i ∈ r2, f u i = true
  | [], _, r1, u, r2, e => by cases r1 <;> cases e
  | x :: l, h, r1, u, r2, e => by
    simp only [pairsOk, Bool.and_eq_true, List.all_eq_true] at h
    cases r1 with
    | nil => injection e with e1 e2; subst e1 e2; exact h.1
    | cons y r1 => injection e with e1 e2; subst e1; exact pairsOk_spec h.2 r1 u r2 e2

theorem pairsOk_sub {f : Nat → Nat → Bool} {i : Nat} {r2 : List Nat} : ∀ {r1 : List Nat}, pairsOk f (r1 ++ i :: r2) = true → pairsOk f (r1 ++ r2) = true
  | [], h => by simp only [List.nil_append, pairsOk, Bool.and_eq_true] at h; exact h.2
  | x :: r1, h => by
    simp only [List.cons_append, pairsOk, Bool.and_eq_true, List.all_eq_true] at h ⊢
    exact ⟨fun y hy => h.1 y (by simp at hy ⊢; rcases hy with hy | hy; exact .inl hy; exact .inr (.inr hy)), pairsOk_sub h.2⟩

theorem getD_set {listed : Array Bool} {i j : Nat} {d : Bool} (hi : i < listed.size) : (listed.setIfInBounds i true).getD j d = if j = i then true else listed.getD j d := by
  by_cases h : j = i
  · subst h; simp [Array.getD_eq_getD_getElem?, hi]
  · simp [Array.getD_eq_getD_getElem?, Array.getElem?_setIfInBounds_ne (Ne.symm h), h]

theorem nd_len : ∀ (n : Nat) (l : List Nat), l.Nodup → (∀ x ∈ l, x < n) → l.length ≤ n
  | 0, l, _, h => by
    cases l with
    | nil => simp
    | cons x l => exact absurd (h x (by simp)) (by omega)
  | n + 1, l, hn, h => by
    by_cases hm : n ∈ l
    · have h1 := nd_len n (l.erase n) (hn.erase n) (fun x hx => by
        have := (hn.mem_erase_iff).1 hx
        have := h x this.2
        omega)
      rw [List.length_erase_of_mem hm] at h1
      omega
    · have h1 := nd_len n l hn (fun x hx => by
        have := h x hx
        have : x ≠ n := fun e => hm (e ▸ hx)
        omega)
      omega
theorem nd_mem {n : Nat} {l : List Nat} (hn : l.Nodup) (h : ∀ x ∈ l, x < n) (hl : l.length = n) {i : Nat} (hi : i < n) : i ∈ l := by
  refine Classical.byContradiction fun hm => ?_
  have := nd_len n (i :: l) (List.nodup_cons.2 ⟨hm, hn⟩) (fun x hx => by
    rcases List.mem_cons.1 hx with rfl | hx
    · exact hi
    · exact h x hx)
  simp at this; omega
theorem nd_mid {i : Nat} {r1 r2 : List Nat} (h : (r1 ++ i :: r2).Nodup) : i ∉ r1 ++ r2 ∧ (r1 ++ r2).Nodup := by
  rw [List.nodup_append] at h
  obtain ⟨h1, h2, h3⟩ := h
  rw [List.nodup_cons] at h2
  refine ⟨fun hm => ?_, ?_⟩
  · rcases List.mem_append.1 hm with hm | hm
    · exact h3 i hm i (by simp) rfl
    · exact h2.1 hm
  · rw [List.nodup_append]
    exact ⟨h1, h2.2, fun a ha b hb => h3 a ha b (by simp [hb])⟩

theorem drawn_any (hP : P = r.c.P) (hc : r.c.Ok) (hΓ : ClosedΓ B Γ) (hB : B = w0.heap.size) {sI : List SV} (hQ : ∀ a' w', Next1 P B R Γ r.M sI S0 w0 K a' w' → Q .normal a' w') (hT : tabOk ops T = true) :
    ∀ (fuel : Nat) (rem : List Nat) (listed : Array Bool) (s : List SV) (a : Act) (w : World) (S : BS) (Λ : Lam) (ρ : Nat → Nat),
      rem.length = fuel → rem.Nodup → listed.size = ops.size → (∀ i, i ∈ rem ↔ i < ops.size ∧ listed.getD i true = false) →
      (∀ i, i < ops.size → i ∉ rem → ∀ j, j < ops.size → (T.getD i 0).testBit j = true → j ∉ rem) →
      pairsOk (fun u i => !((T.getD u 0).testBit i) && ((T.getD i 0).testBit u || comm r ops T u i)) rem = true →
      Gam B S s a w ρ → Step S0 w0 S w → Agr r.M sI s → TT P B R (sxDrawn r ops T rem s K) Γ Λ S w → wpAny P .any ops Q fuel listed a w := by
  intro fuel
  induction fuel with
  | zero =>
    intro rem listed s a w S Λ ρ hlen hnd hsz hrem hcl hpo hG hS hA ht
    have hr : rem = [] := List.eq_nil_of_length_eq_zero hlen
    subst hr
    refine ⟨?_, hQ a w ⟨s, S, Lam.none, ρ, hG, hS, hA, ht⟩⟩
    apply List.eq_nil_iff_forall_not_mem.2
    intro i hi
    rw [mem_ready] at hi
    have := (hrem i).2 ⟨hi.1, hi.2.1⟩
    cases this
  | succ fuel ih =>
    intro rem listed s a w S Λ ρ hlen hnd hsz hrem hcl hpo hG hS hA ht
    have hdep : ∀ i o, ops[i]? = some o → (∀ d ∈ depsOf o, d ∉ rem) → ∀ j, j < ops.size → (T.getD i 0).testBit j = true → j ∉ rem := by
      intro i o ho hd j hj hb
      obtain ⟨d, hdm, hlt, hh⟩ := (tabOk_row hT ho).2 j hj hb
      have hi : i < ops.size := (Array.getElem?_eq_some_iff.1 ho).1
      rcases hh with rfl | hh
      · exact hd _ hdm
      · exact hcl d (by omega) (hd d hdm) j hj hh
    refine ⟨fun hr => ?_, fun i hi => ?_⟩
    · exfalso
      cases rem with
      | nil => cases hlen
      | cons u l =>
        have hu := (hrem u).1 (by simp)
        have hu2 : u ∈ Region.ready .any ops listed := by
          rw [mem_ready]
          refine ⟨hu.1, hu.2, ops[u], Array.getElem?_eq_getElem hu.1, fun d hd => ?_⟩
          have hrow := (tabOk_row hT (Array.getElem?_eq_getElem hu.1)).1 d hd
          have hnr : d ∉ u :: l := by
            intro hm
            rcases List.mem_cons.1 hm with rfl | hm
            · omega
            · have := pairsOk_spec hpo [] u l rfl d hm
              simp only [Bool.and_eq_true, hrow.2, Bool.not_true] at this
              exact absurd this.1 (by simp)
          have hds : d < ops.size := by omega
          have h3 : ¬ listed.getD d true = false := fun hh => hnr ((hrem d).2 ⟨hds, hh⟩)
          have h4 : listed.getD d false = listed.getD d true := by
            simp [Array.getD_eq_getD_getElem?, Array.getElem?_eq_getElem (show d < listed.size by omega)]
          rw [h4]; simpa using h3
        rw [hr] at hu2; cases hu2
    · rw [mem_ready] at hi
      obtain ⟨hil, hif, o, ho, hdeps⟩ := hi
      have him : i ∈ rem := (hrem i).2 ⟨hil, hif⟩
      have hdn : ∀ d ∈ depsOf o, d ∉ rem := fun d hd hm => by
        have h1 := (hrem d).1 hm
        have h2 := hdeps d hd
        have h4 : listed.getD d false = listed.getD d true := by
          simp [Array.getD_eq_getD_getElem?, Array.getElem?_eq_getElem (show d < listed.size by omega)]
        rw [h4, h1.2] at h2; cases h2
      obtain ⟨r1, r2, rfl⟩ := List.append_of_mem him
      have hcm : ∀ u ∈ r1, comm r ops T u i = true := fun u hu => by
        obtain ⟨p1, p2, rfl⟩ := List.append_of_mem hu
        have := pairsOk_spec hpo p1 u (p2 ++ i :: r2) (by simp) i (by simp)
        simp only [Bool.and_eq_true, Bool.or_eq_true] at this
        rcases this.2 with hb | hb
        · exact absurd (show u ∈ p1 ++ u :: p2 ++ i :: r2 by simp) (hdep i o ho hdn u ((hrem u).1 (by simp)).1 hb)
        · exact hb
      have ht2 := bubble (P := P) (B := B) (R := R) (K := K) (r := r) (ops := ops) (T := T) (i := i) (r2 := r2) r1 s hcm _ _ _ _ ht
      have ht3 : TT P B R (oneD r ops T i s fun s' => sxDrawn r ops T (r1 ++ r2) s' K) Γ Λ S w := ht2
      unfold oneD at ht3
      rw [ho] at ht3
      simp only at ht3
      have hk : ∀ a' w', Next1 P B R Γ r.M s S0 w0 (fun s' => sxDrawn r ops T (r1 ++ r2) s' K) a' w' → wpAny P .any ops Q fuel (listed.setIfInBounds i true) a' w' := by
        rintro a' w' ⟨s', S', Λ', ρ', hG', hS', hA', ht'⟩
        have hnd2 := nd_mid hnd
        have hils : i < listed.size := by omega
        refine ih (r1 ++ r2) _ s' a' w' S' Λ' ρ' (by simp at hlen ⊢; omega) hnd2.2 (by simpa using hsz) (fun j => ?_) (fun j hj hnj k hk hb => ?_) (pairsOk_sub hpo) hG' hS' (hA.trans hA') ht'
        · rw [getD_set hils]
          by_cases hji : j = i
          · subst hji; simp only [if_true]
            exact ⟨fun hh => absurd hh hnd2.1, fun hh => by cases hh.2⟩
          · rw [if_neg hji, ← hrem j]
            simp [hji]
        · have hsub : ∀ x, x ∉ r1 ++ i :: r2 → x ∉ r1 ++ r2 := fun x hx hh => hx (by simp at hh ⊢; rcases hh with hh | hh; exact .inl hh; exact .inr (.inr hh))
          by_cases hji : j = i
          · subst hji
            exact hsub k (hdep j o ho hdn k hk hb)
          · refine hsub k (hcl j hj (fun hh => hnj ?_) k hk hb)
            simp at hh ⊢
            rcases hh with hh | hh | hh
            · exact .inl hh
            · exact absurd hh hji
            · exact .inr hh
      cases hout : outAt r true ops i o s with
      | none => rw [hout] at ht3; exact ht3.elim
      | some u =>
        rw [hout] at ht3
        simp only at ht3
        split at ht3
        case isFalse => exact ht3.elim
        rw [← hout] at ht3
        have h1 := op_sound (Q := Q) hP hc hΓ hB hG hS ht3
        simp only [wpOp, ho]
        by_cases hw : Region.wanted o (yielded ops a.tmps) = true
        · rw [if_pos hw] at h1
          rw [if_pos hw]
          exact .inl (Oper.wp_mono hk h1)
        · rw [if_neg hw] at h1
          rw [if_neg hw]
          exact hk _ _ h1

theorem region_sound (hP : P = r.c.P) (hmix : P.follows .mixedOrders = true) (hc : r.c.Ok) (hΓ : ClosedΓ B Γ) (hB : B = w0.heap.size) {id : Nat} {draw : Bool}
    (hQ : ∀ a' w', Next1 P B R Γ r.M s S0 w0 K a' w' → Q .normal a' w') (hG : Gam B S s a w ρ) (hS : Step S0 w0 S w) (ht : TT P B R (sxRegion r ops draw s K) Γ Λ S w) :
    (Code.region id ops draw).wp P Q a w := by
  unfold sxRegion at ht
  cases draw with
  | false =>
    simp only [Bool.false_eq_true, if_false] at ht
    exact wp_region (ops_sound hP hc hΓ hB hQ _ s a w S Λ ρ hG hS (Agr.refl _ _) ht)
  | true =>
    simp only [if_true] at ht
    split at ht
    case isFalse => exact ht.elim
    rename_i hd
    simp only [drawOk, Bool.and_eq_true, decide_eq_true_eq, List.all_eq_true] at hd
    obtain ⟨⟨⟨⟨h1, h2⟩, h3⟩, h4⟩, h5⟩ := hd
    have hlen : (hoist r ops (ancTab ops)).length = ops.size := Nat.eq_of_beq_eq_true h4
    have hmem : ∀ i, i ∈ hoist r ops (ancTab ops) ↔ i < ops.size := by
      intro i
      refine ⟨fun hi => Nat.le_of_ble_eq_true (h3 i hi), fun hi => ?_⟩
      exact nd_mem h2 (fun j hj => Nat.le_of_ble_eq_true (h3 j hj)) hlen hi
    have hSd : Step S0 w0 S { w with drawn := w.drawn + 1 } := ⟨⟨hS.fr.os, hS.fr.tape, hS.fr.output, hS.fr.size, hS.fr.block⟩, hS.new, hS.lt⟩
    have hGd : Gam B S s a { w with drawn := w.drawn + 1 } ρ := ⟨hG.defers, hG.size, hG.slot, hG.box, hG.row, hG.out, hG.inj, hG.loc, hG.lt, hG.base⟩
    have hagd : Ag B S w { w with drawn := w.drawn + 1 } := ⟨rfl, rfl, rfl, Nat.le_refl _, fun _ _ => rfl⟩
    refine wp_region_any hmix (drawn_any hP hc hΓ hB hQ h1 ops.size _ _ s a _ S Λ ρ hlen h2 (by simp) (fun i => ?_) (fun i hi hn => absurd ((hmem i).2 hi) hn) h5 hGd hSd (Agr.refl _ _) (TT_ag _ hΓ hagd ht))
    rw [hmem]
    constructor
    · intro hi; exact ⟨hi, by simp [Array.getD_eq_getD_getElem?, hi]⟩
    · exact fun hh => hh.1
end
end Go.Sx
