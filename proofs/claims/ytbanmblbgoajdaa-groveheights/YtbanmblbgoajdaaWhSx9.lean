import Derived.Test.YtbanmblbgoajdaaWhSx8
set_option linter.unusedVariables false
set_option maxHeartbeats 2000000
namespace Go.Sx
open Go.RowKit

section
variable {P : Program} {B : Nat} {R : Value → BS → World → Prop} {Γ : List Again} {S0 S : BS} {s : List SV} {a : Act} {w0 w : World} {ρ : Nat → Nat} {Λ : Lam} {K : List SV → Tree} {Q : Exit → Act → World → Prop} {r : Rc} {ops : Array Oper}

theorem ops_sound (hP : P = r.c.P) (hc : r.c.Ok) (hΓ : ClosedΓ B Γ) (hB : B = w0.heap.size) {sI : List SV} (hQ : ∀ a' w', Next1 P B R Γ r.M sI S0 w0 K a' w' → Q .normal a' w') :
    ∀ (l : List Nat) (s : List SV) (a : Act) (w : World) (S : BS) (Λ : Lam) (ρ : Nat → Nat), Gam B S s a w ρ → Step S0 w0 S w → Agr r.M sI s → TT P B R (sxOps r ops l s K) Γ Λ S w → wpOps P ops Q l a w := by
  intro l
  induction l with
  | nil => exact fun s a w S Λ ρ hG hS hA ht => hQ a w ⟨s, S, Λ, ρ, hG, hS, hA, ht⟩
  | cons i l ih =>
    intro s a w S Λ ρ hG hS hA ht
    simp only [sxOps] at ht
    simp only [wpOps]
    cases ho : ops[i]? with
    | none => rw [ho] at ht; exact ht.elim
    | some o =>
      rw [ho] at ht
      simp only at ht ⊢
      have h1 := op_sound (Q := Q) hP hc hΓ hB hG hS ht
      have hk : ∀ a' w', Next1 P B R Γ r.M s S0 w0 (fun s' => sxOps r ops l s' K) a' w' → wpOps P ops Q l a' w' := fun a' w' ⟨s', S', Λ', ρ', hG', hS', hA', ht'⟩ => ih s' a' w' S' Λ' ρ' hG' hS' (hA.trans hA') ht'
      by_cases hw : Region.wanted o (yielded ops a.tmps) = true
      · rw [if_pos hw] at h1
        rw [if_pos hw]
        exact .inl (Oper.wp_mono hk h1)
      · rw [if_neg hw] at h1
        rw [if_neg hw]
        exact hk _ _ h1

/-! ### Regions of open order -/
theorem treeOf_mono {o : Oper} {i : Nat} {keep : List Nat} {K K' : List SV → Tree} (h : ∀ s', Rfn P B R (K s') (K' s')) (u : Option Out) : Rfn P B R (treeOf o i keep s K u) (treeOf o i keep s K' u) := by
  cases u with
  | none => exact Rfn.refl _
  | some u =>
    cases u <;> simp only [treeOf, Hint.law]
    · exact h _
    · exact h _
    · exact h _
    · exact Rfn.ite (h _) (h _)
    · exact h _
    · exact Rfn.call fun _ => h _
    · exact Rfn.prim fun _ => h _
    · exact Rfn.primU (h _)
    · exact Rfn.append fun _ => h _
    · exact Rfn.loadS fun _ => h _

theorem calls_false {P : Program} {f : FuncId} {args : Array Value} {w : World} {X : Ending → World → Prop} (h : Calls P f args w X) (hx : ∀ e w', ¬ X e w') : False := by
  obtain ⟨e, w', fr, hX, _⟩ := h []
  exact hx e w' hX

theorem treeOf_stuck {o : Oper} {i : Nat} {keep : List Nat} (u : Option Out) {T' : Tree} (hcl : ∀ e n cells tys ty x H, u ≠ some (.append tys ty x e n cells H)) : Rfn P B R (treeOf o i keep s (fun _ => .stuck) u) T' := by
  intro Γ Λ S w h
  cases u with
  | none => exact h.elim
  | some u =>
    cases u <;> simp only [treeOf, Hint.law] at h
    · exact h.elim
    · exact h.elim
    · exact h.elim
    · rename_i d b
      cases b
      · exact (h.2 rfl).elim
      · exact (h.1 rfl).elim
    · exact h.elim
    · exact (calls_false (h.2 w (Ag.refl B S w)) (fun e w' ⟨x, S1, _, _, _, ht⟩ => ht)).elim
    · obtain ⟨x, S1, w1, _, _, _, ht⟩ := h w (Ag.refl B S w); exact ht.elim
    · obtain ⟨S1, w1, _, _, _, ht⟩ := h w (Ag.refl B S w); exact ht.elim
    · exact absurd rfl (hcl _ _ _ _ _ _ _)
    · obtain ⟨x, _, ht⟩ := h; exact ht.elim

def Vary (o : Oper) (root : Nat) (s s' : List SV) : Prop := s' = s ∨ ∃ d x, d ∈ wOf root o ∧ s' = s.set d x

theorem put_vary {o : Oper} {root : Nat} {s : List SV} (x : SV) : Vary o root s (put o.dst x s) := by
  cases hd : o.dst with
  | none => exact .inl rfl
  | some d => exact .inr ⟨d, x, by simp [wOf, hd], rfl⟩

theorem treeOf_congr {o : Oper} {i root : Nat} {keep : List Nat} {K K' : List SV → Tree} {u : Out} (hw : ∀ d ∈ outWrites o u, d ∈ wOf root o) (hns : ∀ d v, u ≠ .scrub d v) (h : ∀ s', Vary o root s s' → K s' = K' s') :
    treeOf o i keep s K (some u) = treeOf o i keep s K' (some u) := by
  cases u <;> simp only [treeOf, Hint.law]
  · exact h _ (.inr ⟨_, _, hw _ (by simp [outWrites]), rfl⟩)
  · exact h _ (.inl rfl)
  · exact absurd rfl (hns _ _)
  · rw [h _ (.inr ⟨_, _, hw _ (by simp [outWrites]), rfl⟩), h _ (.inr ⟨_, _, hw _ (by simp [outWrites]), rfl⟩)]
  · exact h _ (put_vary _)
  · congr 1; funext x; exact h _ (put_vary _)
  · congr 1; funext x; exact h _ (put_vary _)
  · rw [h _ (.inl rfl)]
  · congr 1; funext x; exact h _ (put_vary _)
  · congr 1; funext x; exact h _ (put_vary _)

theorem set_put {d : Nat} {v x : SV} {d' : Option Nat} (h : ∀ e, d' = some e → e ≠ d) : put d' x (s.set d v) = (put d' x s).set d v := by
  cases d' with
  | none => rfl
  | some e => exact List.set_comm _ _ (Ne.symm (h e rfl))

theorem treeOf_set {o : Oper} {i : Nat} {keep : List Nat} {K : List SV → Tree} {u : Out} {d : Nat} {v : SV} (hw : d ∉ outWrites o u) (hdst : ∀ e, o.dst = some e → e ≠ d) (hns : ∀ d v, u ≠ .scrub d v) :
    treeOf o i keep (s.set d v) K (some u) = treeOf o i keep s (fun s' => K (s'.set d v)) (some u) := by
  cases u <;> simp only [treeOf, Hint.law, set_put hdst]
  · rename_i e x
    rw [List.set_comm _ _ (fun h => hw (by simp [outWrites, h]))]
  · exact absurd rfl (hns _ _)
  · rename_i e b
    have e1 : ∀ x : SV, (s.set d v).set e x = (s.set e x).set d v := fun x => List.set_comm _ _ (fun h => hw (by simp [outWrites, h]))
    rw [e1, e1]

theorem mask_set {rr : List Nat} {d : Nat} {v : SV} (h : d ∉ rr) : mask rr (s.set d v) = mask rr s := by
  apply List.ext_getElem?
  intro t
  rw [mask_get, mask_get]
  by_cases e : d = t
  · subst e
    have hc : rr.contains d = false := by simpa using h
    rw [hc]
    by_cases hl : d < s.length
    · rw [List.getElem?_set_self hl, List.getElem?_eq_getElem hl]; rfl
    · rw [List.getElem?_eq_none (by simpa using hl), List.getElem?_eq_none (by simpa using hl)]
  · rw [List.getElem?_set_ne e]

theorem outAt_set {i : Nat} {o : Oper} {d : Nat} {v : SV} (h : d ∉ rOf ops (rootOf ops o) o) : outAt r true ops i o (s.set d v) = outAt r true ops i o s := by
  simp only [outAt, outOf, seen, if_true, mask_set h]

theorem outAt_writes {i : Nat} {o : Oper} {u : Out} {drawn : Bool} (h : outAt r drawn ops i o s = some u) : ∀ d ∈ outWrites o u, d ∈ wOf (rootOf ops o) o := by
  unfold outAt outOf at h
  split at h
  · cases h
  · split at h
    · rename_i u0 _ hck
      injection h with h; subst h
      unfold chkOut at hck
      simp only [Bool.and_eq_true, List.all_eq_true] at hck
      intro d hd
      have := (hck.1.1.1 d hd).2
      simpa using this
    · cases h

theorem wOf_sub {o : Oper} {root : Nat} {d : Nat} (h : d ∈ wOf root o) : d ∈ rOf ops root o := by
  unfold rOf
  simp [h]

theorem outAt_vary {u : Oper} {i : Nat} {o : Oper} {rt : Nat} {s' : List SV} (hv : Vary u rt s s') (hd : ∀ d ∈ wOf rt u, d ∉ rOf ops (rootOf ops o) o) : outAt r true ops i o s' = outAt r true ops i o s := by
  rcases hv with rfl | ⟨d, x, hdw, rfl⟩
  · rfl
  · exact outAt_set (hd d hdw)

/-- What is quiet comes to a change of the slots. -/
def quietF (o : Oper) : Out → Option (List SV → List SV)
  | .upd d v => some fun s => s.set d v
  | .nop => some fun s => s
  | .pcall _ _ v => some fun s => put o.dst (.v v) s
  | _ => none

theorem treeOf_quiet {o : Oper} {i : Nat} {keep : List Nat} {u : Out} {g : List SV → List SV} (h : quietF o u = some g) (s : List SV) (K : List SV → Tree) : treeOf o i keep s K (some u) = K (g s) := by
  cases u <;> simp [quietF] at h <;> subst h <;> rfl

theorem treeOf_quiet_set {o ou : Oper} {i : Nat} {keep : List Nat} {u v : Out} {root rootu : Nat} {g : List SV → List SV} (h : quietF ou v = some g) (hwv : ∀ d ∈ outWrites ou v, d ∈ wOf rootu ou) (hw : ∀ d ∈ outWrites o u, d ∈ wOf root o)
    (hns : ∀ d v, u ≠ .scrub d v) (hd : ∀ d ∈ wOf rootu ou, d ∉ wOf root o) (s : List SV) (K : List SV → Tree) :
    treeOf o i keep (g s) K (some u) = treeOf o i keep s (fun s' => K (g s')) (some u) := by
  have hdst : ∀ e, o.dst = some e → e ∈ wOf root o := fun e he => by simp [wOf, he]
  have key : ∀ d x, d ∈ wOf rootu ou → treeOf o i keep (s.set d x) K (some u) = treeOf o i keep s (fun s' => K (s'.set d x)) (some u) := fun d x hdw =>
    treeOf_set (fun hh => hd d hdw (hw d hh)) (fun e he hh => hd d hdw (hh ▸ hdst e he)) hns
  cases v <;> simp [quietF] at h <;> subst h
  · exact key _ _ (hwv _ (by simp [outWrites]))
  · rfl
  · cases hd' : ou.dst with
    | none => rfl
    | some e => exact key e _ (hwv e (by simp [outWrites, hd']))

theorem disjL_spec {xs ys : List Nat} (h : disjL xs ys = true) : ∀ d ∈ xs, d ∉ ys := fun d hd => by
  have := (List.all_eq_true.1 h) d hd
  simpa using this

theorem app_only {i : Nat} {o : Oper} {tys : Array TypeId} {ty : TypeId} {x : Value} {e : TypeId} {n : Nat} {cells : List Value} {H : Hint} {drawn : Bool} (h : outAt r drawn ops i o s = some (.append tys ty x e n cells H)) (ha : isApp o = false) : False := by
  unfold outAt outOf at h
  split at h
  · cases h
  · rename_i u hg
    split at h
    case isFalse => cases h
    injection h with h; subst h
    rename_i hck
    unfold chkOut at hck
    simp only [Bool.and_eq_true] at hck
    have := hck.1.2
    simp only [appOk, ha] at this
    cases this

theorem swap_adj {T : List Nat} {u i : Nat} (hcm : comm r ops T u i = true) (s : List SV) (K : List SV → Tree) :
    Rfn P B R (oneD r ops T u s fun s' => oneD r ops T i s' K) (oneD r ops T i s fun s' => oneD r ops T u s' K) := by
  unfold comm at hcm
  cases hou : ops[u]? with
  | none => rw [hou] at hcm; cases hcm
  | some ou =>
    cases hoi : ops[i]? with
    | none => rw [hou, hoi] at hcm; cases hcm
    | some oi =>
      rw [hou, hoi] at hcm
      simp only [Bool.and_eq_true] at hcm
      obtain ⟨⟨⟨hd1, hd2⟩, hna⟩, hcl⟩ := hcm
      have hdu := disjL_spec hd1
      have hdi := disjL_spec hd2
      cases hu : outAt r true ops u ou s with
      | none =>
        have : (oneD r ops T u s fun s' => oneD r ops T i s' K) = .stuck := by simp only [oneD, hou, hu]
        rw [this]; exact fun _ _ _ _ h => h.elim
      | some xu =>
        by_cases hfu : clsFits (clsOf r ops u ou) xu = true
        case neg =>
          have : (oneD r ops T u s fun s' => oneD r ops T i s' K) = .stuck := by simp only [oneD, hou, hu, if_neg hfu]
          rw [this]; exact fun _ _ _ _ h => h.elim
        have hnsu : ∀ d v, xu ≠ .scrub d v := fun d v e => by subst e; cases hc : clsOf r ops u ou <;> rw [hc] at hfu <;> cases hfu
        have hwu := outAt_writes hu
        have hiv : ∀ s', Vary ou (rootOf ops ou) s s' → outAt r true ops i oi s' = outAt r true ops i oi s := fun s' hv => outAt_vary hv hdu
        have huv : ∀ s', Vary oi (rootOf ops oi) s s' → outAt r true ops u ou s' = outAt r true ops u ou s := fun s' hv => outAt_vary hv hdi
        have hL : (oneD r ops T u s fun s' => oneD r ops T i s' K) = treeOf ou u (keepOf r ops T u) s (fun s' => match outAt r true ops i oi s with
            | none => .stuck
            | some x => if clsFits (clsOf r ops i oi) x then treeOf oi i (keepOf r ops T i) s' K (some x) else .stuck) (some xu) := by
          simp only [oneD, hou, hu, if_pos hfu]
          refine treeOf_congr hwu hnsu (fun s' hv => ?_)
          simp only [hoi, hiv s' hv]
          rfl
        have hnapp : ∀ e n cells tys ty x H, some xu ≠ some (.append tys ty x e n cells H) := fun e n cells tys ty x H he => by
          injection he with he; subst he
          exact app_only hu (by simpa using hna)
        rw [hL]
        cases hi : outAt r true ops i oi s with
        | none =>
          exact treeOf_stuck _ hnapp
        | some xi =>
          simp only
          by_cases hfi : clsFits (clsOf r ops i oi) xi = true
          case neg => simp only [hfi]; exact treeOf_stuck _ hnapp
          simp only [hfi, if_true]
          have hnsi : ∀ d v, xi ≠ .scrub d v := fun d v e => by subst e; cases hc : clsOf r ops i oi <;> rw [hc] at hfi <;> cases hfi
          have hwi := outAt_writes hi
          have hRr : (oneD r ops T i s fun s' => oneD r ops T u s' K) = treeOf oi i (keepOf r ops T i) s (fun s' => treeOf ou u (keepOf r ops T u) s' K (some xu)) (some xi) := by
            simp only [oneD, hoi, hi, if_pos hfi]
            refine treeOf_congr hwi hnsi (fun s' hv => ?_)
            simp only [hou, huv s' hv, hu, if_pos hfu]
          rw [hRr]
          have hduw : ∀ d ∈ wOf (rootOf ops ou) ou, d ∉ wOf (rootOf ops oi) oi := fun d hd hh => hdu d hd (wOf_sub hh)
          have hdiw : ∀ d ∈ wOf (rootOf ops oi) oi, d ∉ wOf (rootOf ops ou) ou := fun d hd hh => hdi d hd (wOf_sub hh)
          cases hqu : quietF ou xu with
          | some g =>
            rw [treeOf_quiet hqu, treeOf_quiet_set hqu hwu hwi hnsi hduw]
            have : (fun s' => treeOf ou u (keepOf r ops T u) s' K (some xu)) = fun s' => K (g s') := by funext s'; exact treeOf_quiet hqu s' K
            rw [this]; exact Rfn.refl _
          | none =>
            cases hqi : quietF oi xi with
            | some g =>
              rw [treeOf_quiet hqi, treeOf_quiet_set hqi hwi hwu hnsu hdiw]
              have : (fun s' => treeOf oi i (keepOf r ops T i) s' K (some xi)) = fun s' => K (g s') := by funext s'; exact treeOf_quiet hqi s' K
              rw [this]; exact Rfn.refl _
            | none =>
              -- u looks
              have hu2 : ∃ m H, xu = .loadS m H ∧ clsOf r ops u ou = .look := by
                cases hcu : clsOf r ops u ou <;> rw [hcu] at hfu hcl
                · cases xu <;> simp [clsFits, quietF] at hfu hqu
                · cases xu <;> simp [clsFits, quietF] at hfu hqu
                  exact ⟨_, _, rfl, rfl⟩
                · cases hci : clsOf r ops i oi <;> rw [hci] at hcl hfi
                  · cases xi <;> simp [clsFits, quietF] at hfi hqi
                  · cases hcl
                  · cases hcl
              obtain ⟨m, H, rfl, hcu⟩ := hu2
              rw [hcu] at hcl
              have hdst : ∀ e, oi.dst = some e → ∀ e', ou.dst = some e' → e' ≠ e := fun e he e' he' hh => hduw e' (by simp [wOf, he']) (by rw [hh]; simp [wOf, he])
              have hpp : ∀ x y : SV, put oi.dst x (put ou.dst y s) = put ou.dst y (put oi.dst x s) := fun x y => by
                cases h1 : oi.dst with
                | none => rfl
                | some e => exact (set_put (fun e' he' => hdst e h1 e' he')).symm
              have hsp : ∀ (e : Nat) (x y : SV), e ∈ wOf (rootOf ops oi) oi → (put ou.dst y s).set e x = put ou.dst y (s.set e x) := fun e x y he =>
                (set_put (fun e' he' hh => hduw e' (by simp [wOf, he']) (hh ▸ he))).symm
              cases hci : clsOf r ops i oi with
              | quiet =>
                rw [hci] at hfi
                cases xi <;> simp [clsFits, quietF] at hfi hqi
              | look =>
                rw [hci] at hfi
                cases xi <;> simp [clsFits, quietF] at hfi hqi
                rename_i m' H'
                simp only [treeOf, Hint.law]
                have := swap_loadS (P := P) (B := B) (R := R) (d := u) (d' := i) (m := m) (m' := m') (H := H.E) (H' := H'.E) (fun x y => K (put oi.dst (.v (H'.E.enc y)) (put ou.dst (.v (H.E.enc x)) s)))
                refine this.trans ?_
                simp only [hpp]
                exact Rfn.refl _
              | eff =>
                rw [hci] at hcl
                simp only at hcl
                have hk : u ∈ keepOf r ops T i := by simpa using hcl
                cases xi with
                | upd d v => simp [quietF] at hqi
                | nop => simp [quietF] at hqi
                | pcall f args v => simp [quietF] at hqi
                | scrub d v => exact absurd rfl (hnsi _ _)
                | split d b =>
                  simp only [treeOf, Hint.law]
                  refine (delay_ite _ _).trans ?_
                  have hde : d ∈ wOf (rootOf ops oi) oi := hwi d (by simp [outWrites])
                  simp only [hsp d _ _ hde]
                  exact Rfn.refl _
                | call f args H' =>
                  simp only [treeOf, Hint.law]
                  refine (delay_call hk (fun x y => K (put oi.dst (.v (H'.E.enc y)) (put ou.dst (.v (H.E.enc x)) s)))).trans ?_
                  simp only [hpp]
                  exact Rfn.refl _
                | prim m' H' =>
                  simp only [treeOf, Hint.law]
                  refine (delay_prim hk (fun x y => K (put oi.dst (.v (H'.E.enc y)) (put ou.dst (.v (H.E.enc x)) s)))).trans ?_
                  simp only [hpp]
                  exact Rfn.refl _
                | primU m' =>
                  simp only [treeOf, Hint.law]
                  exact delay_primU hk _
                | append tys ty x e n cells H' =>
                  simp only [treeOf, Hint.law]
                  refine (delay_append hk (fun x y => K (put oi.dst (.v (H'.E.enc y)) (put ou.dst (.v (H.E.enc x)) s)))).trans ?_
                  simp only [hpp]
                  exact Rfn.refl _
                | loadS m' H' =>
                  simp only [treeOf, Hint.law]
                  have := swap_loadS (P := P) (B := B) (R := R) (d := u) (d' := i) (m := m) (m' := m') (H := H.E) (H' := H'.E) (fun x y => K (put oi.dst (.v (H'.E.enc y)) (put ou.dst (.v (H.E.enc x)) s)))
                  refine this.trans ?_
                  simp only [hpp]
                  exact Rfn.refl _

theorem oneD_mono {T : List Nat} {i : Nat} {K K' : List SV → Tree} (h : ∀ s', Rfn P B R (K s') (K' s')) : Rfn P B R (oneD r ops T i s K) (oneD r ops T i s K') := by
  unfold oneD
  split
  · exact Rfn.refl _
  · split
    · exact Rfn.refl _
    · split
      · exact treeOf_mono h _
      · exact Rfn.refl _

theorem bubble {T : List Nat} {i : Nat} {r2 : List Nat} : ∀ (r1 : List Nat) (s : List SV), (∀ u ∈ r1, comm r ops T u i = true) →
    Rfn P B R (sxDrawn r ops T (r1 ++ i :: r2) s K) (sxDrawn r ops T (i :: (r1 ++ r2)) s K)
  | [], s, _ => Rfn.refl _
  | u :: r1, s, h => by
    have ih := fun s' => bubble (r2 := r2) r1 s' (fun v hv => h v (by simp [hv]))
    show Rfn P B R (oneD r ops T u s fun s' => sxDrawn r ops T (r1 ++ i :: r2) s' K) _
    refine (oneD_mono ih).trans ?_
    exact swap_adj (K := fun s' => sxDrawn r ops T (r1 ++ r2) s' K) (h u (by simp)) s
end
end Go.Sx
