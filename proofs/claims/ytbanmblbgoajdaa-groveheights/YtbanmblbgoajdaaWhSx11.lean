import Derived.Test.YtbanmblbgoajdaaWhSx10
import Derived.Deep.LoopGhost
set_option linter.unusedVariables false
set_option maxHeartbeats 2000000
namespace Go.Sx
open Go.RowKit

def exOf : Ex → Exit
  | .normal => .normal
  | .exit id => .exit id
  | .ret => .ret

section
variable {P : Program} {B : Nat} {R : Value → BS → World → Prop} {S0 S : BS} {s h : List SV} {a : Act} {w0 w : World} {ρ : Nat → Nat}

theorem Gam.weak (hG : Gam B S s a w ρ) (hl : Le h s) (hlen : h.length = s.length) (hloc : ∀ (t j off : Nat), h[t]? = some (SV.loc j off) → BoxAt h j) : Gam B S h a w ρ := by
  have hb : ∀ t, BoxAt h t → BoxAt s t := fun t ⟨sv, hs, hi⟩ => ⟨sv, hl.some_ hs (by intro e; subst e; cases hi), hi⟩
  refine ⟨hG.defers, by rw [hlen]; exact hG.size, fun t sv ht => ?_, fun t ty cells ht => hG.box t ty cells (hl.some_ ht (by simp)), fun t e n cells ht => hG.row t e n cells (hl.some_ ht (by simp)), fun t ht => hG.out t (hb t ht), fun t t' ht ht' => hG.inj t t' (hb t ht) (hb t' ht'), hloc, hG.lt, hG.base⟩
  rcases hl.at_ t sv ht with rfl | h1
  · trivial
  · exact hG.slot t sv h1

theorem head_get {W slots : List Nat} {vals : List SV} {sH : List SV} (t : Nat) : (headOf W slots vals sH)[t]? = (sH[t]?).map fun x =>
    match slots.idxOf? t with
    | some k => vals.getD k .any
    | none => if W.contains t then .any else match x with
      | .loc j off => if W.contains j || slots.contains j then .any else .loc j off
      | x => x := by
  simp only [headOf, List.getElem?_mapIdx]
  rfl

theorem idxOf?_spec {slots : List Nat} {t k : Nat} (h : slots.idxOf? t = some k) : slots[k]? = some t := by
  unfold List.idxOf? at h
  rw [List.findIdx?_eq_some_iff_getElem] at h
  obtain ⟨hk, h1, _⟩ := h
  rw [List.getElem?_eq_getElem hk]
  simpa using h1
theorem idxOf?_none {slots : List Nat} {t : Nat} (h : slots.idxOf? t = none) : slots.contains t = false := by
  unfold List.idxOf? at h
  rw [List.findIdx?_eq_none_iff] at h
  cases hc : slots.contains t with
  | false => rfl
  | true =>
    have : t ∈ slots := by simpa using hc
    have := h t this
    simp at this

theorem Gam.head (hG : Gam B S s a w ρ) {sH : List SV} {W slots : List Nat} {vals : List SV} (hlen0 : s.length = sH.length)
    (hA : ∀ t, slots.idxOf? t = none → W.contains t = false → s[t]? = sH[t]? ∨ s[t]? = (headOf W slots vals sH)[t]?) (hv : slots.map (svAt s) = vals)
    (hs : ∀ i ∈ slots, i < s.length) (hn : vals.all notLoc = true) : Gam B S (headOf W slots vals sH) a w ρ := by
  have hlen : (headOf W slots vals sH).length = s.length := by simp [headOf, hlen0]
  have hval : ∀ t k, slots.idxOf? t = some k → s[t]? = some (vals.getD k .any) := fun t k hk => by
    have h1 := idxOf?_spec hk
    have hm : t ∈ slots := List.mem_of_getElem? h1
    have h2 : vals[k]? = some (svAt s t) := by rw [← hv, List.getElem?_map, h1]; rfl
    rw [List.getD_eq_getElem?_getD, h2, Option.getD_some, svAt, List.getD_eq_getElem?_getD, List.getElem?_eq_getElem (hs t hm)]; rfl
  -- what the head tells of the rest
  have hrest : ∀ t x, slots.idxOf? t = none → (headOf W slots vals sH)[t]? = some x → x ≠ .any → W.contains t = false ∧ sH[t]? = some x ∧ ∀ j off, x = .loc j off → W.contains j = false ∧ slots.contains j = false := by
    intro t x hk ht hx
    rw [head_get] at ht
    cases hsh : sH[t]? with
    | none => rw [hsh] at ht; cases ht
    | some y =>
      rw [hsh] at ht
      simp only [Option.map_some, Option.some.injEq, hk] at ht
      split at ht
      · exact absurd ht.symm hx
      · rename_i hw
        refine ⟨by simpa using hw, ?_⟩
        cases y <;> simp only at ht
        all_goals first
          | (split at ht
             · exact absurd ht.symm hx
             · rename_i hj
               simp only [Bool.or_eq_true, not_or, Bool.not_eq_true] at hj
               subst ht
               exact ⟨rfl, fun j off e => by injection e with e1 e2; subst e1; exact hj⟩)
          | (subst ht; exact ⟨rfl, fun j off e => by cases e⟩)
  have hbox : ∀ j sv, slots.idxOf? j = none → W.contains j = false → s[j]? = some sv → isBox sv = true → (headOf W slots vals sH)[j]? = some sv := by
    intro j sv hk hw hs1 hb
    rcases hA j hk hw with h1 | h1
    · rw [hs1] at h1
      rw [head_get, ← h1]
      simp only [Option.map_some, hk, hw, Bool.false_eq_true, if_false]
      cases sv <;> simp [isBox] at hb <;> rfl
    · rw [← h1]; exact hs1
  refine hG.weak ⟨fun t x ht => ?_⟩ hlen (fun t j off ht => ?_)
  · by_cases hx : x = .any
    · exact .inl hx
    · right
      cases hk : slots.idxOf? t with
      | some k =>
        rw [head_get] at ht
        cases hsh : sH[t]? with
        | none => rw [hsh] at ht; cases ht
        | some y =>
          rw [hsh] at ht
          simp only [Option.map_some, Option.some.injEq, hk] at ht
          rw [hval t k hk, ht]
      | none =>
        obtain ⟨h1, h2, _⟩ := hrest t x hk ht hx
        rcases hA t hk h1 with h3 | h3
        · rw [h3, h2]
        · rw [h3, ht]
  · cases hk : slots.idxOf? t with
    | some k =>
      rw [head_get] at ht
      cases hsh : sH[t]? with
      | none => rw [hsh] at ht; cases ht
      | some y =>
        rw [hsh] at ht
        simp only [Option.map_some, Option.some.injEq, hk] at ht
        have h1 := idxOf?_spec hk
        have hkl : k < vals.length := by rw [← hv, List.length_map]; exact (List.getElem?_eq_some_iff.1 h1).1
        have := (List.all_eq_true.1 hn) (vals.getD k .any) (by rw [List.getD_eq_getElem?_getD, List.getElem?_eq_getElem hkl]; simp)
        rw [ht] at this; cases this
    | none =>
      obtain ⟨h1, h2, h3⟩ := hrest t _ hk ht (by simp)
      obtain ⟨hjw, hjs⟩ := h3 j off rfl
      have hst : s[t]? = some (.loc j off) := by
        rcases hA t hk h1 with h4 | h4
        · rw [h4, h2]
        · rw [h4, ht]
      obtain ⟨sv, hs1, hs2⟩ := hG.loc t j off hst
      have hj0 : slots.idxOf? j = none := by
        cases hq : slots.idxOf? j with
        | none => rfl
        | some q =>
          have := List.mem_of_getElem? (idxOf?_spec hq)
          have hc : slots.contains j = true := by simpa using this
          rw [hjs] at hc; cases hc
      exact ⟨sv, hbox j sv hj0 hjw hs1 hs2, hs2⟩

/-- Slots that point into a box that may be written may be written. -/
def NoL (M : Nat → Bool) (s : List SV) : Prop := ∀ (t j off : Nat), s[t]? = some (SV.loc j off) → M j = true → M t = true
theorem NoL.agr {M : Nat → Bool} {s s' : List SV} (h : NoL M s) (hA : Agr M s s') : NoL M s' := fun t j off ht hj => by
  cases hm : M t with
  | true => rfl
  | false =>
    rw [hA.at_ t hm] at ht
    rw [h t j off ht hj] at hm; cases hm

theorem code_sound {c : Cfg} {fc : Fc} (hP : P = c.P) (hmix : P.follows .mixedOrders = true) (hc : c.Ok) (hB : B = w0.heap.size) :
    ∀ (code : Code) (M : Nat → Bool) (dp blk : Nat) (K : Ex → Nat → List SV → Tree) (Q : Exit → Act → World → Prop) (s : List SV) (a : Act) (w : World) (S : BS) (Λ : Lam) (ρ : Nat → Nat) (Γ : List Again),
      Γ.length = dp → ClosedΓ B Γ → NoL M s → Gam B S s a w ρ → Step S0 w0 S w → TT P B R (sxCode c fc code M dp blk K s) Γ Λ S w →
      (∀ e Δ s' a' w' S' Λ' ρ', Gam B S' s' a' w' ρ' → Step S0 w0 S' w' → Agr M s s' → ClosedΓ B (Δ ++ Γ) → TT P B R (K e (Δ.length + dp) s') (Δ ++ Γ) Λ' S' w' → Q (exOf e) a' w') →
      code.wp P Q a w := by
  intro code
  induction code with
  | skip =>
    intro M dp blk K Q s a w S Λ ρ Γ hd hΓ hN hG hS ht hQ
    exact wp_skip (hQ .normal [] s a w S Λ ρ hG hS (Agr.refl _ _) hΓ (by simpa [sxCode] using ht))
  | region id ops draw =>
    intro M dp blk K Q s a w S Λ ρ Γ hd hΓ hN hG hS ht hQ
    simp only [sxCode] at ht
    refine region_sound (r := ⟨c, fc, M⟩) hP hmix hc hΓ hB (fun a' w' hn => ?_) hG hS ht
    obtain ⟨s', S', Λ', ρ', hG', hS', hA', ht'⟩ := hn
    exact hQ .normal [] s' a' w' S' Λ' ρ' hG' hS' hA' hΓ (by simpa using ht')
  | seq x y ihx ihy =>
    intro M dp blk K Q s a w S Λ ρ Γ hd hΓ hN hG hS ht hQ
    simp only [sxCode] at ht
    refine wp_seq (ihx M dp blk _ _ s a w S Λ ρ Γ hd hΓ hN hG hS ht (fun e Δ s' a' w' S' Λ' ρ' hG' hS' hA' hΓ' ht' => ?_))
    cases e with
    | normal =>
      show Code.wp P y Q a' w'
      refine ihy M (Δ.length + dp) blk K Q s' a' w' S' Λ' ρ' (Δ ++ Γ) (by simp [hd]) hΓ' (hN.agr hA') hG' hS' ht' (fun e2 Δ2 s2 a2 w2 S2 Λ2 ρ2 hG2 hS2 hA2 hΓ2 ht2 => ?_)
      refine hQ e2 (Δ2 ++ Δ) s2 a2 w2 S2 Λ2 ρ2 hG2 hS2 (hA'.trans hA2) (by rw [List.append_assoc]; exact hΓ2) ?_
      rw [List.append_assoc, List.length_append, Nat.add_assoc]; exact ht2
    | exit id => exact hQ (.exit id) Δ s' a' w' S' Λ' ρ' hG' hS' hA' hΓ' ht'
    | ret => exact hQ .ret Δ s' a' w' S' Λ' ρ' hG' hS' hA' hΓ' ht'
  | cond x y z ihy ihz =>
    intro M dp blk K Q s a w S Λ ρ Γ hd hΓ hN hG hS ht hQ
    simp only [sxCode] at ht
    split at ht
    · rename_i hx
      have hev := (svO_den hG (le_refl s) x _ hx (by simp)).2.2.2.2 _ rfl
      exact wp_cond_true hev (ihy M dp blk K Q s a w S Λ ρ Γ hd hΓ hN hG hS ht hQ)
    · rename_i hx
      have hev := (svO_den hG (le_refl s) x _ hx (by simp)).2.2.2.2 _ rfl
      exact wp_cond_false hev (ihz M dp blk K Q s a w S Λ ρ Γ hd hΓ hN hG hS ht hQ)
    · rename_i t hx
      have hev := (svO_den hG (le_refl s) x _ hx (by simp)).2.2.2.2 _ rfl
      exact wp_cond_split hev (fun h => ihy M dp blk K Q s a w S Λ ρ Γ hd hΓ hN hG hS (ht.1 h) hQ) (fun h => ihz M dp blk K Q s a w S Λ ρ Γ hd hΓ hN hG hS (ht.2 h) hQ)
    · exact ht.elim
  | block id x ih =>
    intro M dp blk K Q s a w S Λ ρ Γ hd hΓ hN hG hS ht hQ
    simp only [sxCode] at ht
    refine wp_block (ih M dp id _ _ s a w S Λ ρ Γ hd hΓ hN hG hS ht (fun e Δ s' a' w' S' Λ' ρ' hG' hS' hA' hΓ' ht' => ?_))
    cases e with
    | normal => exact hQ .normal Δ s' a' w' S' Λ' ρ' hG' hS' hA' hΓ' ht'
    | exit i =>
      simp only at ht'
      show if i = id then Q .normal a' w' else Q (.exit i) a' w'
      by_cases hi : i = id
      · rw [if_pos hi]
        subst hi
        rw [if_pos (by simp)] at ht'
        exact hQ .normal Δ s' a' w' S' Λ' ρ' hG' hS' hA' hΓ' ht'
      · rw [if_neg hi]
        rw [if_neg (by simpa using hi)] at ht'
        exact hQ (.exit i) Δ s' a' w' S' Λ' ρ' hG' hS' hA' hΓ' ht'
    | ret => exact hQ .ret Δ s' a' w' S' Λ' ρ' hG' hS' hA' hΓ' ht'
  | exit id =>
    intro M dp blk K Q s a w S Λ ρ Γ hd hΓ hN hG hS ht hQ
    exact wp_exit (hQ (.exit id) [] s a w S Λ ρ hG hS (Agr.refl _ _) hΓ (by simpa [sxCode] using ht))
  | ret =>
    intro M dp blk K Q s a w S Λ ρ Γ hd hΓ hN hG hS ht hQ
    exact wp_ret (hQ .ret [] s a w S Λ ρ hG hS (Agr.refl _ _) hΓ (by simpa [sxCode] using ht))
  | loop x ih =>
    intro M dp blk K Q s a w S Λ ρ Γ hd hΓ hN hG hS ht hQ
    simp only [sxCode] at ht
    cases hlk : fc.lh.lookup blk with
    | none => rw [hlk] at ht; exact ht.elim
    | some H =>
      rw [hlk] at ht
      simp only at ht
      split at ht
      case isFalse => exact ht.elim
      rename_i hck
      simp only [Bool.and_eq_true, List.all_eq_true] at hck
      obtain ⟨hsl, hWM⟩ := hck
      obtain ⟨Inv, μ, hcl, ⟨l0, hl0, hI0⟩, hbody⟩ := ht
      have hlt : ∀ i ∈ H.slots, i < s.length := fun i hi => Nat.le_of_ble_eq_true (hsl i hi).2
      have hslW : ∀ i ∈ H.slots, (wCode x).contains i = true := fun i hi => (hsl i hi).1.2
      generalize hM' : (fun i => M i && (wCode x).contains i) = M' at hbody
      have hM1 : ∀ t, M' t = true → M t = true := fun t ht => by subst hM'; simp only [Bool.and_eq_true] at ht; exact ht.1
      have hM2 : ∀ t, (wCode x).contains t = true → M' t = true := fun t ht => by subst hM'; simp only [Bool.and_eq_true]; exact ⟨hWM t (by simpa using ht), ht⟩
      have hM3 : ∀ t, M' t = true → (wCode x).contains t = true := fun t ht => by subst hM'; simp only [Bool.and_eq_true] at ht; exact ht.2
      have hns : ∀ t, (wCode x).contains t = false → H.slots.idxOf? t = none := fun t ht => by
        cases hq : H.slots.idxOf? t with
        | none => rfl
        | some q => rw [hslW t (List.mem_of_getElem? (idxOf?_spec hq))] at ht; cases ht
      have hnl : ∀ l S1 w1, Inv l S1 w1 → (∀ b, S1 b → b < w1.heap.size) → (H.emb l).all notLoc = true ∧ TT P B R (sxCode c fc x M' (dp + 1) blk (fun e dp' s' => match e with
              | .normal => .again (dp' - (dp + 1)) (H.slots.map (svAt s'))
              | e => K e dp' s') (headOf (wCode x) H.slots (H.emb l) s)) ((fun vals S2 w2 => ∃ l', vals = H.emb l' ∧ Inv l' S2 w2 ∧ μ l' S2 w2 < μ l S1 w1) :: Γ) Lam.none S1 w1 := fun l S1 w1 hi hS1 => by
        have hb := hbody l S1 w1 hi hS1
        simp only at hb
        split at hb
        · rename_i hk
          simp only [Bool.and_eq_true] at hk
          exact ⟨hk.2, hb⟩
        · exact hb.elim
      -- the head's frame
      have hfr : ∀ vals t, M' t = false → (headOf (wCode x) H.slots vals s)[t]? = s[t]? ∨ ∃ j off, s[t]? = some (.loc j off) ∧ M j = true := by
        intro vals t ht
        have hw : (wCode x).contains t = false := by
          cases hc : (wCode x).contains t with
          | false => rfl
          | true => rw [hM2 t hc] at ht; cases ht
        rw [head_get]
        cases hst : s[t]? with
        | none => exact .inl rfl
        | some y =>
          simp only [Option.map_some, hns t hw, hw, Bool.false_eq_true, if_false]
          cases y with
          | loc j off =>
            simp only
            split
            · rename_i hj
              refine .inr ⟨j, off, rfl, ?_⟩
              rw [Bool.or_eq_true] at hj
              rcases hj with hj | hj
              · exact hM1 j (hM2 j hj)
              · exact hM1 j (hM2 j (hslW j (by simpa using hj)))
            · exact .inl rfl
          | _ => exact .inl rfl
      have hNh : ∀ vals, (vals.all notLoc = true) → NoL M' (headOf (wCode x) H.slots vals s) := by
        intro vals hn t j off ht hj
        cases hmt : M' t with
        | true => rfl
        | false =>
          have hw : (wCode x).contains t = false := by
            cases hc : (wCode x).contains t with
            | false => rfl
            | true => rw [hM2 t hc] at hmt; cases hmt
          rw [head_get] at ht
          cases hst : s[t]? with
          | none => rw [hst] at ht; cases ht
          | some y =>
            rw [hst] at ht
            simp only [Option.map_some, hns t hw, hw, Bool.false_eq_true, if_false, Option.some.injEq] at ht
            cases y <;> simp only at ht
            all_goals first
              | (cases ht; done)
              | skip
            split at ht
            · cases ht
            · rename_i hjw
              injection ht with e1 e2; subst e1
              simp only [Bool.or_eq_true, not_or, Bool.not_eq_true] at hjw
              rw [hM3 _ hj] at hjw
              exact absurd hjw.1 (by simp)
      have hlenh : ∀ vals, (headOf (wCode x) H.slots vals s).length = s.length := fun vals => by simp [headOf]
      let J : Nat → Act → World → Prop := fun n a w => ∃ l S1 ρ1, Inv l S1 w ∧ μ l S1 w = n ∧ Gam B S1 (headOf (wCode x) H.slots (H.emb l) s) a w ρ1 ∧ Step S0 w0 S1 w
      refine wp_loop_ghost J (μ l0 S w) ⟨l0, S, ρ, hI0, rfl, ?_, hS⟩ ?_
      · exact hG.head rfl (fun _ _ _ => .inl rfl) hl0 hlt (hnl l0 S w hI0 hG.lt).1
      · rintro n a1 w1 ⟨l, S1, ρ1, hI, hμ, hG1, hS1⟩
        obtain ⟨hnl1, ht1⟩ := hnl l S1 w1 hI hG1.lt
        refine ih M' (dp + 1) blk _ _ _ a1 w1 S1 Lam.none ρ1 _ (by simp [hd]) ?_ (hNh _ hnl1) hG1 hS1 ht1 (fun e Δ s' a' w' S' Λ' ρ' hG' hS' hA' hΓ' ht' => ?_)
        · intro A hA vals S2 w2 w3 hAv hag
          rcases List.mem_cons.1 hA with rfl | hA
          · obtain ⟨l', h1, h2, h3⟩ := hAv
            have := hcl l' S2 w2 w3 h2 hag
            exact ⟨l', h1, this.1, by rw [this.2]; exact h3⟩
          · exact hΓ A hA vals S2 w2 w3 hAv hag
        · have hlen' : s'.length = s.length := by rw [hA'.len, hlenh]
          have hAs : Agr M s s' := ⟨hlen', fun t ht => by
            have hm : M' t = false := by
              cases hc : M' t with
              | false => rfl
              | true => rw [hM1 t hc] at ht; cases ht
            rw [hA'.at_ t hm]
            rcases hfr (H.emb l) t hm with h1 | ⟨j, off, h1, h2⟩
            · exact h1
            · rw [hN t j off h1 h2] at ht; cases ht⟩
          have hcons : Δ ++ (fun vals S2 w2 => ∃ l', vals = H.emb l' ∧ Inv l' S2 w2 ∧ μ l' S2 w2 < μ l S1 w1) :: Γ = (Δ ++ [fun vals S2 w2 => ∃ l', vals = H.emb l' ∧ Inv l' S2 w2 ∧ μ l' S2 w2 < μ l S1 w1]) ++ Γ := by simp
          have hdl : Δ.length + (dp + 1) = (Δ ++ [fun vals S2 w2 => ∃ l', vals = H.emb l' ∧ Inv l' S2 w2 ∧ μ l' S2 w2 < μ l S1 w1]).length + dp := by simp; omega
          cases e with
          | normal =>
            show ∃ m, m < n ∧ J m a' w'
            simp only at ht'
            obtain ⟨A, hA, hAv⟩ := ht'
            have hidx : Δ.length + (dp + 1) - (dp + 1) = Δ.length := by omega
            rw [hidx] at hA
            rw [List.getElem?_append_right (Nat.le_refl _)] at hA
            simp only [Nat.sub_self, List.getElem?_cons_zero, Option.some.injEq] at hA
            subst hA
            obtain ⟨l', hv, hI', hlt'⟩ := hAv
            refine ⟨_, by rw [← hμ]; exact hlt', l', S', ρ', hI', rfl, ?_, hS'⟩
            refine hG'.head hlen' (fun t hk hw => ?_) hv (fun i hi => by rw [hlen']; exact hlt i hi) (hnl l' S' w' hI' hG'.lt).1
            right
            have hm : M' t = false := by
              cases hc : M' t with
              | false => rfl
              | true => rw [hM3 t hc] at hw; cases hw
            rw [hA'.at_ t hm, head_get, head_get]
            simp only [hk, hw, Bool.false_eq_true, if_false]
          | exit id =>
            refine hQ (.exit id) _ s' a' w' S' Λ' ρ' hG' hS' hAs (by rw [← hcons]; exact hΓ') ?_
            rw [← hcons, ← hdl]; exact ht'
          | ret =>
            refine hQ .ret _ s' a' w' S' Λ' ρ' hG' hS' hAs (by rw [← hcons]; exact hΓ') ?_
            rw [← hcons, ← hdl]; exact ht'
  | _ => intro M dp blk K Q s a w S Λ ρ Γ hd hΓ hN hG hS ht hQ; exact ht.elim
end
end Go.Sx
