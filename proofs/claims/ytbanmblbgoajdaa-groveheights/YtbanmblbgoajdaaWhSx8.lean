import Derived.Test.YtbanmblbgoajdaaWhSx7
set_option linter.unusedVariables false
set_option maxHeartbeats 2000000
namespace Go.Sx
open Go.RowKit

theorem mask_get (r : List Nat) (s : List SV) (t : Nat) : (mask r s)[t]? = (s[t]?).map fun x => if r.contains t then x else .any := by
  simp [mask, List.getElem?_mapIdx]
theorem le_mask (r : List Nat) (s : List SV) : Le (mask r s) s := ⟨fun t x h => by
  rw [mask_get] at h
  cases hs : s[t]? with
  | none => rw [hs] at h; cases h
  | some y =>
    rw [hs] at h
    simp only [Option.map_some, Option.some.injEq] at h
    split at h
    · right; rw [h]
    · left; exact h.symm⟩
theorem le_refl (s : List SV) : Le s s := ⟨fun _ _ h => .inr h⟩
theorem mask_at {r : List Nat} {s : List SV} {t : Nat} (h : t ∈ r) : (mask r s)[t]? = s[t]? := by
  rw [mask_get]
  have hc : r.contains t = true := by simpa using h
  rw [hc]
  cases s[t]? <;> rfl

structure Agr (M : Nat → Bool) (s s' : List SV) : Prop where
  len : s'.length = s.length
  at_ : ∀ t, M t = false → s'[t]? = s[t]?
theorem Agr.refl (M : Nat → Bool) (s : List SV) : Agr M s s := ⟨rfl, fun _ _ => rfl⟩
theorem Agr.trans {M : Nat → Bool} {a b c : List SV} (h : Agr M a b) (k : Agr M b c) : Agr M a c := ⟨k.len.trans h.len, fun t ht => (k.at_ t ht).trans (h.at_ t ht)⟩
theorem Agr.set {M : Nat → Bool} {s : List SV} {d : Nat} (h : M d = true) (v : SV) : Agr M s (s.set d v) :=
  ⟨by simp, fun t ht => by rw [List.getElem?_set_ne]; rintro rfl; rw [h] at ht; cases ht⟩
theorem Agr.put {M : Nat → Bool} {s : List SV} {d : Option Nat} (h : ∀ x, d = some x → M x = true) (v : SV) : Agr M s (put d v s) := by
  cases d with
  | none => exact Agr.refl M s
  | some x => exact Agr.set (h x rfl) v
theorem Agr.scrub {M : Nat → Bool} {s : List SV} {d : Nat} (h : noLoc M d s = true) : Agr M s (scrubbed d s) :=
  ⟨by simp [scrubbed], fun t ht => by
    simp only [scrubbed, List.getElem?_map]
    cases hs : s[t]? with
    | none => rfl
    | some x =>
      simp only [Option.map_some, Option.some.injEq]
      cases x with
      | loc j off =>
        unfold noLoc at h
        have hm : ((SV.loc j off), t) ∈ s.zipIdx := by
          rw [List.mem_zipIdx_iff_getElem?]; exact hs
        have := (List.all_eq_true.1 h) _ hm
        simp only [ht, Bool.or_false, bne_iff_ne, ne_eq] at this
        simp [scrub1, this]
      | _ => rfl⟩

/-- What an operation leaves: the slots, what is owned, the world. -/
def Next1 (P : Program) (B : Nat) (R : Value → BS → World → Prop) (Γ : List Again) (M : Nat → Bool) (s : List SV) (S0 : BS) (w0 : World) (K : List SV → Tree) (a' : Act) (w' : World) : Prop :=
  ∃ s' S' Λ' ρ', Gam B S' s' a' w' ρ' ∧ Step S0 w0 S' w' ∧ Agr M s s' ∧ TT P B R (K s') Γ Λ' S' w'

/-- What is checked of what comes up, as facts on the slots. -/
structure Chk (M : Nat → Bool) (s : List SV) (o : Oper) (u : Out) : Prop where
  nb : (∀ d v, u ≠ .scrub d v) → ∀ d, o.dst = some d → ∃ sv, s[d]? = some sv ∧ isBox sv = false
  wr : ∀ d, d ∈ outWrites o u → M d = true
  own : ownSlot o u = true
  scr : ∀ d v, u = .scrub d v → noLoc M d s = true ∧ d < s.length

section
variable {P : Program} {B : Nat} {R : Value → BS → World → Prop} {Γ : List Again} {M : Nat → Bool} {S0 S : BS} {s : List SV} {a : Act} {w0 w : World} {ρ : Nat → Nat} {o : Oper} {Λ : Lam} {K : List SV → Tree} {Q : Exit → Act → World → Prop} {i : Nat} {keep : List Nat}

theorem step_alloc (hS : Step S0 w0 S w) (o : Obj) : Step S0 w0 S (w.alloc o) :=
  hS.trans ⟨⟨rfl, rfl, rfl, by simp, fun b hb _ => Below.heap_alloc w o b hb⟩, fun b hb => .inl hb, fun b hb => by rw [World.size_alloc]; exact Nat.lt_succ_of_lt (hS.lt b hb)⟩

/-- A value that came up goes into its slot. -/
theorem put_next (hΓ : ClosedΓ B Γ) {S1 : BS} {w1 : World} (hG : Gam B S1 s a w1 ρ) (hS : Step S0 w0 S1 w1) (hnb : ∀ d, o.dst = some d → ∃ sv, s[d]? = some sv ∧ isBox sv = false)
    (hM : ∀ d, o.dst = some d → M d = true) {x : Value} (ht : TT P B R (K (put o.dst (.v x) s)) Γ Λ S1 w1) : Next1 P B R Γ M s S0 w0 K (a.put o.dst x) w1 := by
  cases hd : o.dst with
  | none =>
    rw [hd] at ht
    exact ⟨s, S1, Λ, ρ, hG, hS, Agr.refl M s, ht⟩
  | some d =>
    rw [hd] at ht
    obtain ⟨sv, hs, hb⟩ := hnb d hd
    exact ⟨_, S1, Λ, ρ, hG.put (v := .v x) (List.getElem?_eq_some_iff.1 hs).1 (fun sv' hs' => by rw [hs] at hs'; injection hs' with hs'; subst hs'; exact hb) rfl rfl (fun _ _ e => by cases e), hS, Agr.set (hM d hd) _, ht⟩

theorem one_sound (hΓ : ClosedΓ B Γ) (hB : B = w0.heap.size) (hG : Gam B S s a w ρ) (hS : Step S0 w0 S w) {u : Out} (he : Eff P B S s a w ρ o u) (hC : Chk M s o u)
    (hsp : ∀ d b, u ≠ .split d b)
    (ht : TT P B R (treeOf o i keep s K (some u)) Γ Λ S w) :
    o.wp P a w (Next1 P B R Γ M s S0 w0 K) Q := by
  have nb : (∀ d v, u ≠ .scrub d v) → ∀ d, o.dst = some d → ∀ sv, s[d]? = some sv → isBox sv = false := fun h1 d hd sv hs => by
    obtain ⟨sv', hs', hb⟩ := hC.nb h1 d hd
    rw [hs] at hs'; injection hs' with hs'; subst hs'; exact hb
  have lt : (∀ d v, u ≠ .scrub d v) → ∀ d, o.dst = some d → d < s.length := fun h1 d hd => by
    obtain ⟨sv', hs', hb⟩ := hC.nb h1 d hd
    exact (List.getElem?_eq_some_iff.1 hs').1
  unfold Oper.wp
  cases he with
  | val d v x hd hr hden hnb hloc =>
    rw [hr]
    show Next1 P B R Γ M s S0 w0 K (a.put o.dst x) w
    rw [hd]
    exact ⟨_, S, Λ, ρ, hG.put (lt (fun _ _ => by simp) d hd) (nb (fun _ _ => by simp) d hd) hnb (hden d) hloc, hS, Agr.set (hC.wr d (by simp [outWrites])) v, ht⟩
  | nop x hd hr =>
    rw [hr]
    show Next1 P B R Γ M s S0 w0 K (a.put o.dst x) w
    rw [hd]
    exact ⟨s, S, Λ, ρ, hG, hS, Agr.refl M s, ht⟩
  | alloc d ty cells hd hns hr =>
    rw [hr]
    show Next1 P B R Γ M s S0 w0 K (a.put o.dst _) _
    rw [hd]
    have hg := hG.new (v := .box ty cells) (x := .pointer (some ⟨w.heap.size, 0, none⟩)) (lt (fun _ _ => by simp) d hd) (nb (fun _ _ => by simp) d hd) (.inl ⟨rfl, rfl⟩)
    exact ⟨_, S, Λ, _, hg, step_alloc hS _, Agr.set (hC.wr d (by simp [outWrites])) _, TT_ag _ hΓ (Ag.alloc hG _) ht⟩
  | row d ty n cells hd hns hr =>
    rw [hr]
    show Next1 P B R Γ M s S0 w0 K (a.put o.dst _) _
    rw [hd]
    have hg := hG.new (v := .row ty n cells) (x := .slice (some ⟨w.heap.size, 0, none⟩) n n) (lt (fun _ _ => by simp) d hd) (nb (fun _ _ => by simp) d hd) (.inr ⟨n, rfl, rfl⟩)
    exact ⟨_, S, Λ, _, hg, step_alloc hS _, Agr.set (hC.wr d (by simp [outWrites])) _, TT_ag _ hΓ (Ag.alloc hG _) ht⟩
  | scrub d ty cells hd hr =>
    rw [hr]
    show Next1 P B R Γ M s S0 w0 K (a.put o.dst _) _
    rw [hd]
    have h0 := hG.forget d
    have hdl : d < s.length := (hC.scr d _ rfl).2
    have hd' : d < ((scrubbed d s).set d .any).length := by simpa [scrubbed] using hdl
    have hg := h0.new (v := .box ty cells) (x := .pointer (some ⟨w.heap.size, 0, none⟩)) hd' (fun sv hs => by
      rw [List.getElem?_set_self (by simpa using hd')] at hs; injection hs with hs; subst hs; rfl) (.inl ⟨rfl, rfl⟩)
    rw [List.set_set] at hg
    exact ⟨_, S, Λ, _, hg, step_alloc hS _, (Agr.scrub (hC.scr d _ rfl).1).trans (Agr.set (hC.wr d (by simp [outWrites])) _), TT_ag _ hΓ (Ag.alloc hG _) ht⟩
  | store j ty cells cells' hj hr hst =>
    rw [hr]
    show Next1 P B R Γ M s S0 w0 K (a.put o.dst undef) _
    have hdn : o.dst = none := by
      have := hC.own
      obtain ⟨t, y, z, ho⟩ := hst
      simpa [ownSlot, ho] using this
    rw [hdn]
    have hbj : BoxAt s j := ⟨_, hj, rfl⟩
    have hst2 : Step S0 w0 S (w.setRow (ρ j) cells'.toArray) := by
      refine ⟨⟨hS.fr.os, hS.fr.tape, hS.fr.output, by rw [setRow_size]; exact hS.fr.size, fun b hb hs => ?_⟩, hS.new, fun b hb => by rw [setRow_size]; exact hS.lt b hb⟩
      rw [setRow_other w _ _ _ (by have := (hG.out j hbj).2; omega)]
      exact hS.fr.block b hb hs
    exact ⟨_, S, Λ, ρ, hG.store hj, hst2, Agr.set (hC.wr j (by simp [outWrites])) _, TT_ag _ hΓ (Ag.setRow hG hbj _) ht⟩
  | pcall f args v hr hcall =>
    rw [hr]
    show Calls P f args.toArray w _
    refine (hcall w).mono ?_
    rintro e w1 ⟨rfl, hb⟩
    have hst := Step.of_below hG.lt hb
    exact put_next hΓ (hG.world hst) (hS.trans hst) (hC.nb (fun _ _ => by simp)) (fun d hd => hC.wr d (by simp [outWrites, hd])) (TT_ag _ hΓ (Ag.of_below hG.base hG.lt hb) ht)
  | call f args H hr =>
    obtain ⟨hcb, hcall⟩ := ht
    rw [hr hcb]
    show Calls P f args.toArray w _
    refine (hcall w (Ag.refl B S w)).mono ?_
    rintro e w1 ⟨x, S1, rfl, hst, _, ht⟩
    simp only [H.law] at ht
    exact put_next hΓ (hG.world hst) (hS.trans hst) (hC.nb (fun _ _ => by simp)) (fun d hd => hC.wr d (by simp [outWrites, hd])) ht
  | prim m H hr =>
    obtain ⟨x, S1, w1, hm, hst, _, ht⟩ := ht w (Ag.refl B S w)
    rw [hr _ _ hm]
    simp only [H.law] at ht
    exact put_next hΓ (hG.world hst) (hS.trans hst) (hC.nb (fun _ _ => by simp)) (fun d hd => hC.wr d (by simp [outWrites, hd])) ht
  | primU m hr =>
    obtain ⟨S1, w1, hm, hst, _, ht⟩ := ht w (Ag.refl B S w)
    rw [hr _ hm]
    show Next1 P B R Γ M s S0 w0 K (a.put o.dst undef) _
    have hdn : o.dst = none := by
      have := hC.own
      simpa [ownSlot] using this
    rw [hdn]
    exact ⟨s, S1, _, ρ, hG.world hst, hS.trans hst, Agr.refl M s, ht⟩
  | append tys ty x e n cells H t hrow hr =>
    have hb : BoxAt s t := ⟨_, hrow, rfl⟩
    obtain ⟨y, S1, w1, hm, hst, _, ht⟩ := ht w (Ag.refl B S w) (ρ t) (hG.out t hb).1 (hG.out t hb).2 (hG.row _ _ _ _ hrow)
    rw [hr _ _ hm]
    simp only [H.law] at ht
    exact put_next hΓ (hG.world hst) (hS.trans hst) (hC.nb (fun _ _ => by simp)) (fun d hd => hC.wr d (by simp [outWrites, hd])) ht
  | loadS m H hr =>
    obtain ⟨x, hs, ht⟩ := ht
    rw [hr _ _ (hs w (Ag.refl B S w))]
    simp only [H.law] at ht
    exact put_next hΓ hG hS (hC.nb (fun _ _ => by simp)) (fun d hd => hC.wr d (by simp [outWrites, hd])) ht

theorem yielded_of {ops : Array Oper} {j tj : Nat} {b : Bool} (hG : Gam B S s a w ρ) (hj : dstOf ops j = some tj) (hs : s[tj]? = some (.lit b)) : yielded ops a.tmps j = some b := by
  have hd := hG.slot tj _ hs
  have hlt : tj < a.tmps.size := by rw [hG.size]; exact (List.getElem?_eq_some_iff.1 hs).1
  have h1 : a.tmps[tj]? = some (.bool b) := by
    rw [Array.getElem?_eq_getElem hlt]
    simp only [den, Array.getD_eq_getD_getElem?, Array.getElem?_eq_getElem hlt, Option.getD_some] at hd
    rw [hd]
  unfold dstOf at hj
  simp only [yielded, hj, Option.bind_some, h1]

theorem yielded_no {ops : Array Oper} {j tj : Nat} {x : Array Value} (hG : Gam B S s a w ρ) (hj : dstOf ops j = some tj) (hs : s[tj]? = some (.v (.tuple x))) : yielded ops a.tmps j = none := by
  have hd := hG.slot tj _ hs
  have hlt : tj < a.tmps.size := by rw [hG.size]; exact (List.getElem?_eq_some_iff.1 hs).1
  have h1 : a.tmps[tj]? = some (.tuple x) := by
    rw [Array.getElem?_eq_getElem hlt]
    simp only [den, Array.getD_eq_getD_getElem?, Array.getElem?_eq_getElem hlt, Option.getD_some] at hd
    rw [hd]
  unfold dstOf at hj
  simp only [yielded, hj, Option.bind_some, h1]

theorem undef_next (hΓ : ClosedΓ B Γ) (hG : Gam B S s a w ρ) (hS : Step S0 w0 S w) (hC : Chk M s o (mkUpd o.dst (.v undef))) (ht : TT P B R (treeOf o i keep s K (some (mkUpd o.dst (.v undef)))) Γ Λ S w) :
    Next1 P B R Γ M s S0 w0 K (a.put o.dst undef) w := by
  have hnsc : ∀ d v, mkUpd o.dst (.v undef) ≠ Out.scrub d v := fun d v e => by unfold mkUpd at e; split at e <;> cases e
  have hnb := hC.nb hnsc
  refine put_next hΓ hG hS hnb (fun d hd => hC.wr d (by simp [mkUpd, hd, outWrites])) (Λ := Λ) ?_
  revert ht
  unfold mkUpd
  cases hd : o.dst with
  | none => exact id
  | some d => exact id

theorem mem_rOf_dst {ops : Array Oper} {root : Nat} {d : Nat} (hd : o.dst = some d) : d ∈ rOf ops root o := by
  unfold rOf wOf
  simp [hd]
theorem mem_rOf_guard {ops : Array Oper} {root j tj : Nat} {want : Bool} (hg : o.guard = some (j, want)) (hj : dstOf ops j = some tj) : tj ∈ rOf ops root o := by
  unfold rOf
  simp [hg, hj]

theorem Chk.of {c : Cfg} {fc : Fc} {ops : Array Oper} {drawn : Bool} {root : Nat} {s1 : List SV} {u : Out} (h1 : s1 = seen drawn (rOf ops root o) s)
    (h : chkOut M drawn root s1 o u = true) : Chk M s o u := by
  unfold chkOut at h
  simp only [Bool.and_eq_true, List.all_eq_true] at h
  obtain ⟨⟨⟨ha, hb⟩, _⟩, hc⟩ := h
  have hnb : dstOk s1 o = true → ∀ d, o.dst = some d → ∃ sv, s[d]? = some sv ∧ isBox sv = false := fun hk d hd => by
    unfold dstOk at hk
    rw [hd] at hk
    simp only at hk
    have he : s1[d]? = s[d]? := by
      subst h1
      cases drawn
      · rfl
      · exact mask_at (mem_rOf_dst hd)
    rw [he] at hk
    cases hs : s[d]? with
    | none => rw [hs] at hk; cases hk
    | some sv => rw [hs] at hk; exact ⟨sv, rfl, by simpa using hk⟩
  refine ⟨fun hns d hd => ?_, fun d hd => ((ha d hd).1), hb, fun d v e => ?_⟩
  · refine hnb ?_ d hd
    cases u <;> first | exact hc | exact absurd rfl (hns _ _)
  · subst e
    simp only [Bool.and_eq_true, Bool.not_eq_true'] at hc
    obtain ⟨⟨hd, hn⟩, hlt⟩ := hc
    subst hd
    simp only [seen, Bool.false_eq_true, if_false] at h1
    subst h1
    exact ⟨hn, Nat.le_of_ble_eq_true hlt⟩

theorem op_sound {r : Rc} {ops : Array Oper} {drawn : Bool} (hP : P = r.c.P) (hc : r.c.Ok) (hΓ : ClosedΓ B Γ) (hB : B = w0.heap.size) (hG : Gam B S s a w ρ) (hS : Step S0 w0 S w)
    (ht : TT P B R (treeOf o i keep s K (outAt r drawn ops i o s)) Γ Λ S w) :
    if Region.wanted o (yielded ops a.tmps) = true then o.wp P a w (Next1 P B R Γ r.M s S0 w0 K) Q else Next1 P B R Γ r.M s S0 w0 K (a.put o.dst undef) w := by
  subst hP
  cases hout : outAt r drawn ops i o s with
  | none => rw [hout] at ht; exact ht.elim
  | some u =>
    rw [hout] at ht
    unfold outAt outOf at hout
    generalize hs1 : seen drawn (rOf ops (rootOf ops o) o) s = s1 at hout
    have hle : Le s1 s := by
      rw [← hs1]
      cases drawn
      · exact le_refl s
      · exact le_mask _ _
    cases hgo : guardOut ops s1 o (srcOut (isSrc ops i) (mainOut r.c r.fc drawn (rootOf ops o) s1 o)) with
    | none => rw [hgo] at hout; cases hout
    | some u0 =>
      rw [hgo] at hout
      simp only at hout
      split at hout
      case isFalse => cases hout
      rename_i hck
      injection hout with hout; subst hout
      have hC : Chk r.M s o u0 := Chk.of (c := r.c) (fc := r.fc) hs1.symm hck
      -- the operation itself
      have hmain : srcOut (isSrc ops i) (mainOut r.c r.fc drawn (rootOf ops o) s1 o) = some u0 → o.wp r.c.P a w (Next1 r.c.P B R Γ r.M s S0 w0 K) Q := by
        intro hm
        cases hu1 : mainOut r.c r.fc drawn (rootOf ops o) s1 o with
        | none => rw [hu1] at hm; cases hm
        | some u1 =>
          rw [hu1] at hm
          unfold srcOut at hm
          simp only at hm
          have he := main_eff hc hG hle hu1
          split at hm
          · split at hm
            · -- split
              rename_i d b
              injection hm with hm; subst hm
              cases he with
              | val d v x hd hr hden hnb hloc =>
                have hx : x = .bool b := hden 0
                subst hx
                unfold Oper.wp
                rw [hr]
                show Next1 r.c.P B R Γ r.M s S0 w0 K (a.put o.dst _) w
                rw [hd]
                obtain ⟨sv, hsv, hbv⟩ := hC.nb (fun _ _ => by simp) d hd
                have hdl := (List.getElem?_eq_some_iff.1 hsv).1
                have hG2 := hG.put (v := .lit b) (x := .bool b) hdl (fun sv' hs' => by rw [hsv] at hs'; injection hs' with hs'; subst hs'; exact hbv) rfl rfl (fun _ _ e => by cases e)
                cases b with
                | true => exact ⟨_, S, Λ, ρ, hG2, hS, Agr.set (hC.wr d (by simp [outWrites])) _, ht.1 rfl⟩
                | false => exact ⟨_, S, Λ, ρ, hG2, hS, Agr.set (hC.wr d (by simp [outWrites])) _, ht.2 rfl⟩
            · injection hm with hm; subst hm
              exact one_sound hΓ hB hG hS he hC (fun _ _ => by simp) ht
            · cases hm
          · injection hm with hm; subst hm
            refine one_sound hΓ hB hG hS he hC (fun d b e => ?_) ht
            subst e; cases he
      unfold guardOut at hgo
      cases hg : o.guard with
      | none =>
        rw [hg] at hgo
        simp only at hgo
        have hw : Region.wanted o (yielded ops a.tmps) = true := by simp [Region.wanted, hg]
        rw [if_pos hw]
        exact hmain hgo
      | some p =>
        obtain ⟨j, want⟩ := p
        rw [hg] at hgo
        simp only at hgo
        split at hgo
        · cases hgo
        · rename_i tj hj
          split at hgo
          · rename_i b hb
            have hsb : s[tj]? = some (.lit b) := hle.some_ hb (by simp)
            have hy := yielded_of hG hj hsb
            split at hgo
            · rename_i hbw
              have hw : Region.wanted o (yielded ops a.tmps) = true := by simp [Region.wanted, hg, hy]; simpa using hbw
              rw [if_pos hw]
              exact hmain hgo
            · rename_i hbw
              have hw : ¬ Region.wanted o (yielded ops a.tmps) = true := by simp [Region.wanted, hg, hy]; simpa using hbw
              rw [if_neg hw]
              injection hgo with hgo; subst hgo
              exact undef_next hΓ hG hS hC ht
          · rename_i x hb
            have hsb : s[tj]? = some (.v (.tuple x)) := hle.some_ hb (by simp)
            have hy := yielded_no hG hj hsb
            have hw : ¬ Region.wanted o (yielded ops a.tmps) = true := by simp [Region.wanted, hg, hy]
            rw [if_neg hw]
            injection hgo with hgo; subst hgo
            exact undef_next hΓ hG hS hC ht
          · cases hgo
end
end Go.Sx
