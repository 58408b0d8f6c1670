import Derived.Test.YtbanmblbgoajdaaWhGrove5
set_option linter.unusedVariables false
set_option linter.unusedSimpArgs false
set_option maxHeartbeats 2000000
namespace Go.Sx
open Go.RowKit
namespace GI
variable {E A : Type} {I : GI E A} {t q : Nat} {p : Px} {r0 : Rf} {σ σ' σ2 : Pool (Nd E A)} {n n1 n' : Nat} {F : BS} {w w1 : World}

theorem pdrop (hI : I.Ty) (hO : σ.Ok n) (hn : n < 4294967296) (hv : wr σ.visits = σ.visits) (r : Rf) (u : Nd E A) (hl : σ.look r = some u) (Fp : BS) (w' : World) (h : PoolAt I.pool q σ Fp w') : Spec I.P I.fDrop [pa q 0, ar r] Fp w' fun v F1 w1 => ∃ x, v = (eTup2 I.eNd eBool).enc x ∧ ∃ σ', PoolAt I.pool q σ' F1 w1 ∧
    Tch σ σ' (fun q => q = r) 1 (-1) ∧ σ'.Ok n ∧ wr σ'.visits = σ'.visits := by
  refine (drop_spec hI.pool hI.poolF h hO hn r).mono fun u F1 w1 _ ⟨x, hx, h1, h3⟩ => ?_
  obtain ⟨a1, a2, a3, a4, a5, a6, a7⟩ := Pool.drop_some (z := I.pool.z) hl hO
  exact ⟨x, hx, _, h3, ⟨fun r' hr => (a7 _).trans (if_neg hr), ⟨1, Nat.le_refl _, a3⟩, by rw [a4]; omega, a5⟩, a2, by rw [a3]; exact wr_vis _⟩

/-- What drop comes to. -/
inductive DropR (I : GI E A) (σ σ' : Pool (Nd E A)) (s : BT E) (e : E) : Rf × E × Bool → Prop
  | none : s.del I.cmp e = none → Tch σ σ' No (s.delC I.cmp e) 0 → DropR I σ σ' s e (s.ref, I.zE, false)
  | some (x : BT E × E) : s.del I.cmp e = some x → I.Rep σ'.look x.1 → Tch σ σ' (fun q => q ∈ s.refs) (s.delC I.cmp e) (-1) → DropR I σ σ' s e (x.1.ref, x.2, true)

theorem GT.callT {B : Nat} {Γ : List Again} {H : Enc} {Q : H.T → Pool (Nd E A) → Prop} {f : FuncId} {args : List Value} {keep : List Nat} {Q1 : Rf × E × Bool → Pool (Nd E A) → Prop} {k : Rf × E × Bool → Tree} (hΓ : ClosedΓ B Γ) (hs : I.GS t p r0 n n1 σ f args (eTup3 eRef I.eE eBool) Q1) (hk : ∀ (x : Rf × E × Bool) σ', Q1 x σ' → I.GT t p r0 n1 n' B Γ H Q (k x) σ') :
    I.GT t p r0 n n' B Γ H Q (.call f args.toArray keep (eTup3 eRef I.eE eBool) k) σ := GT.call hΓ hs hk

theorem drop_g (hI : I.Ty) (hG : I.Trees2) (e : E) : ∀ {s : BT E} {σ : Pool (Nd E A)}, I.Rep σ.look s → s.refs.Nodup → s.size < 144115188075855872 →
    I.GS t p r0 n n σ I.gdrop [pa t 0, ar s.ref, I.tE.val e] (eTup3 eRef I.eE eBool) fun (x : Rf × E × Bool) σ' => DropR I σ σ' s e x := by
  intro s
  induction s with
  | nil =>
    intro σ hs hnd hsz
    refine GS.ok fun hO hv hn => GS.of hI (hG.drop t _ _) (fun B => ?_)
    unfold dropT
    refine GT.ite (fun _ => ?_) (fun hb => absurd hb (by simp [BT.ref]))
    exact GT.endS (GT.ret (H := eTup3 eRef I.eE eBool) (⟨0, 0⟩, I.zE, false) rfl (.none rfl (Tch.refl hv _ _)))
  | node r l f h ihl ihh =>
    intro σ hs hnd hsz
    refine GS.of hI (hG.drop t _ _) (fun B => ?_)
    unfold dropT
    have hnd2 := hnd
    rw [BT.refs_node, List.nodup_append, List.nodup_cons] at hnd2
    obtain ⟨n1, ⟨n2, n3⟩, n4⟩ := hnd2
    simp only [BT.size] at hsz
    have hrl : r ∉ l.refs := fun hm => n4 r hm r List.mem_cons_self rfl
    refine GT.ite (fun hb => absurd hb (by simp [BT.ref, hs.2.1])) (fun _ => ?_)
    refine GT.call closed_nil (get_g hI hG.base hs) ?_
    rintro x1 σ1 ⟨rfl, h1⟩
    obtain ⟨k1, k2, k3, k4⟩ := h1.rep hs No.rep
    refine GT.ite (fun hb => ?_) (fun hb => ?_)
    · have hc : I.cmp e f < 0 := of_decide_eq_true hb
      refine GT.callT closed_nil (ihl k3 n1 (by omega)) ?_
      rintro y σ2 hR
      cases hR with
      | none a1 a2 =>
        refine GT.ite (fun _ => ?_) (fun hb => absurd hb (by simp))
        refine GT.endS (GT.ret (H := eTup3 eRef I.eE eBool) (r, I.zE, false) rfl (.none (by rw [BT.del, if_pos hc, a1]) ((h1.trans a2).no2.mono (fun _ h => h) (by rw [BT.delC, if_pos hc]; omega) rfl)))
      | some x a1 a2 a3 =>
        refine GT.ite (fun hb => absurd hb (by simp)) (fun _ => ?_)
        have hdel : (BT.node r l f h).del I.cmp e = some (BT.link x.1 r f h, x.2) := by rw [BT.del, if_pos hc, a1]
        have hC : (BT.node r l f h).delC I.cmp e = 1 + l.delC I.cmp e + (6 + 37 * BT.linkD x.1 h) := by rw [BT.delC, if_pos hc, a1]
        have hsz2 := BT.del_size I.cmp a1
        have hmm : ∀ q, q ∈ x.1.refs → q ∈ l.refs := fun q hq => BT.del_mem I.cmp a1 hq
        have hr2 : σ2.look r = some (I.ndOf (.node r l f h)) := (a3.look r hrl).trans k1
        have hh2 := a3.rep k4 fun q hq hd => n4 q hd q (List.mem_cons_of_mem _ hq) rfl
        have hnd4 : (x.1.refs ++ r :: h.refs).Nodup := by
          rw [List.nodup_append, List.nodup_cons]
          exact ⟨BT.del_nodup I.cmp a1 n1, ⟨n2, n3⟩, fun a ha b hb => n4 a (hmm a ha) b hb⟩
        refine GT.callR closed_nil (link_g hI hG.base _ (Nat.le_refl _) a2 hh2 hr2 k2 hnd4 (by omega)) ?_
        rintro x3 σ3 ⟨hx3, h3, g3⟩
        obtain rfl := hx3.symm
        have := DropR.some (I := I) (σ := σ) (σ' := σ3) (s := .node r l f h) (e := e) _ hdel g3 ((h1.trans (a3.trans h3)).mono (fun q hq => ?_) (by rw [hC]; omega) (by omega))
        · exact GT.endS (GT.ret (H := eTup3 eRef I.eE eBool) (_, _, true) rfl this)
        · rw [BT.refs_node, List.mem_append, List.mem_cons]
          rcases hq with hq | hq | hq
          · exact hq.elim
          · exact .inl hq
          · rcases List.mem_append.1 hq with hq | hq
            · exact .inl (hmm q hq)
            · exact .inr (List.mem_cons.1 hq)
    · have hc : ¬ I.cmp e f < 0 := of_decide_eq_false hb
      refine GT.ite (fun hb2 => ?_) (fun hb2 => ?_)
      · have hc2 : 0 < I.cmp e f := of_decide_eq_true hb2
        refine GT.callT closed_nil (ihh k4 n3 (by omega)) ?_
        rintro y σ2 hR
        cases hR with
        | none a1 a2 =>
          refine GT.ite (fun _ => ?_) (fun hb => absurd hb (by simp))
          refine GT.endS (GT.ret (H := eTup3 eRef I.eE eBool) (r, I.zE, false) rfl (.none (by rw [BT.del, if_neg hc, if_pos hc2, a1]) ((h1.trans a2).no2.mono (fun _ h => h) (by rw [BT.delC, if_neg hc, if_pos hc2]; omega) rfl)))
        | some x a1 a2 a3 =>
          refine GT.ite (fun hb => absurd hb (by simp)) (fun _ => ?_)
          have hdel : (BT.node r l f h).del I.cmp e = some (BT.link l r f x.1, x.2) := by rw [BT.del, if_neg hc, if_pos hc2, a1]
          have hC : (BT.node r l f h).delC I.cmp e = 1 + h.delC I.cmp e + (6 + 37 * BT.linkD l x.1) := by rw [BT.delC, if_neg hc, if_pos hc2, a1]
          have hsz2 := BT.del_size I.cmp a1
          have hmm : ∀ q, q ∈ x.1.refs → q ∈ h.refs := fun q hq => BT.del_mem I.cmp a1 hq
          have hr2 : σ2.look r = some (I.ndOf (.node r l f h)) := (a3.look r n2).trans k1
          have hl2 := a3.rep k3 fun q hq hd => n4 q hq q (List.mem_cons_of_mem _ hd) rfl
          have hnd4 : (l.refs ++ r :: x.1.refs).Nodup := by
            rw [List.nodup_append, List.nodup_cons]
            refine ⟨n1, ⟨fun hm => n2 (hmm r hm), BT.del_nodup I.cmp a1 n3⟩, fun a ha b hb => n4 a ha b ?_⟩
            rcases List.mem_cons.1 hb with hb | hb
            · simp [hb]
            · exact List.mem_cons_of_mem _ (hmm b hb)
          refine GT.callR closed_nil (link_g hI hG.base _ (Nat.le_refl _) hl2 a2 hr2 k2 hnd4 (by omega)) ?_
          rintro x3 σ3 ⟨hx3, h3, g3⟩
          obtain rfl := hx3.symm
          have := DropR.some (I := I) (σ := σ) (σ' := σ3) (s := .node r l f h) (e := e) _ hdel g3 ((h1.trans (a3.trans h3)).mono (fun q hq => ?_) (by rw [hC]; omega) (by omega))
          · exact GT.endS (GT.ret (H := eTup3 eRef I.eE eBool) (_, _, true) rfl this)
          · rw [BT.refs_node, List.mem_append, List.mem_cons]
            rcases hq with hq | hq | hq
            · exact hq.elim
            · exact .inr (.inr hq)
            · rcases List.mem_append.1 hq with hq | hq
              · exact .inl hq
              · exact .inr ((List.mem_cons.1 hq).imp id (hmm q))
      · have hc2 : ¬ 0 < I.cmp e f := of_decide_eq_false hb2
        have hdel : (BT.node r l f h).del I.cmp e = some (BT.merge l h, f) := by rw [BT.del, if_neg hc, if_neg hc2]
        have hC : (BT.node r l f h).delC I.cmp e = 2 + BT.mergeC l h := by rw [BT.delC, if_neg hc, if_neg hc2]
        refine GT.ok fun hO hv hn => ?_
        refine GT.pcall (n1 := n) (X := fun _ σ2 => Tch σ1 σ2 (fun q => q = r) 1 (-1)) (args := fun q => [pa q 0, ar r]) hI closed_nil hn (fun Fp w' h => pdrop hI hO hn hv r _ k1 Fp w' h) ?_
        rintro x2 σ2 h2
        refine GT.endS ?_
        have hk : ∀ s : BT E, I.Rep σ1.look s → r ∉ s.refs → I.Rep σ2.look s := fun s hs hms => h2.rep hs fun q hq hd => by subst hd; exact hms hq
        refine GT.callR closed_nil (merge_g hI hG (hk l k3 hrl) (hk h k4 n2) ?_ (by omega)) ?_
        · rw [List.nodup_append]; exact ⟨n1, n3, fun a ha b hb => n4 a ha b (List.mem_cons_of_mem _ hb)⟩
        rintro x3 σ3 ⟨hx3, h3, g3⟩
        obtain rfl := hx3.symm
        have := DropR.some (I := I) (σ := σ) (σ' := σ3) (s := .node r l f h) (e := e) _ hdel g3 ((h1.trans (h2.trans h3)).mono (fun q hq => ?_) (by rw [hC]; omega) (by omega))
        · exact GT.endS (GT.ret (H := eTup3 eRef I.eE eBool) (_, _, true) rfl this)
        · rw [BT.refs_node, List.mem_append, List.mem_cons]
          rcases hq with hq | hq | hq
          · exact hq.elim
          · exact .inr (.inl hq)
          · rcases List.mem_append.1 hq with hq | hq
            · exact .inl hq
            · exact .inr (.inr hq)
end GI
end Go.Sx
