import Derived.Test.YtbanmblbgoajdaaWhGrove2
set_option linter.unusedVariables false
set_option maxHeartbeats 1000000
namespace Go.Sx
open Go.RowKit
namespace GI
variable {E A : Type} {I : GI E A} {t q : Nat} {p : Px} {r0 : Rf} {σ σ' σ2 : Pool (Nd E A)} {n : Nat} {F : BS} {w w1 : World}

theorem pset (hI : I.Ty) (hO : σ.Ok n) (hv : wr σ.visits = σ.visits) (r : Rf) (nd0 v : Nd E A) (hl : σ.look r = some nd0) (Fp : BS) (w' : World) (h : PoolAt I.pool q σ Fp w') : Spec I.P I.fSet [pa q 0, ar r, ag (I.nd.enc v)] Fp w' fun u F1 w1 => ∃ x, u = eBool.enc x ∧ ∃ σ', PoolAt I.pool q σ' F1 w1 ∧
    (Tch σ σ' (fun r' => r' = r) 1 0 ∧ σ'.look r = some v) ∧ σ'.Ok n ∧ wr σ'.visits = σ'.visits := by
  refine (set_spec hI.pool hI.poolF h r v).mono fun u F1 w1 _ ⟨x, hx, h1, h2, h3⟩ => ?_
  subst h2
  obtain ⟨a1, a2, a3, a4, a5, a6⟩ := Pool.set_some (v := v) hl hO
  exact ⟨x, hx, _, h3, ⟨⟨fun r' hr => by rw [a6, if_neg hr], ⟨1, Nat.le_refl _, a3⟩, by rw [a4]; simp, a5⟩, by rw [a6, if_pos rfl]⟩, a2, by rw [a3]; exact wr_vis _⟩

/-- A node's trees are set. -/
theorem lay_g (hI : I.Ty) (hG : I.Trees) {a b : BT E} {m : Rf} {nd0 : Nd E A} (ha : I.Rep σ.look a) (hb : I.Rep σ.look b) (hm : σ.look m = some nd0) (hg : m.gen ≠ 0) (hma : m ∉ a.refs) (hmb : m ∉ b.refs) (hsz : a.size + b.size < 4611686018427387904) :
    I.GS t p r0 n n σ I.gLay [pa t 0, ar m, ar a.ref, ar b.ref] eRef fun x σ' => x = m ∧ Tch σ σ' (fun r => r = m) 4 0 ∧ I.Rep σ'.look (.node m a nd0.e b) := by
  refine GS.of hI (hG.lay t _ _ _) (fun B => ?_)
  unfold layT
  refine GT.call closed_nil (get_raw hI hG m) ?_
  rintro x1 σ1 ⟨rfl, h1⟩
  rw [if_neg hg, hm]
  refine GT.call closed_nil (get_g hI hG (h1.rep ha No.rep)) ?_
  rintro x2 σ2 ⟨rfl, h2⟩
  have h12 := h1.trans h2
  refine GT.call closed_nil (get_g hI hG (h12.rep hb fun _ _ h => by rcases h with h | h <;> exact h)) ?_
  rintro x3 σ3 ⟨rfl, h3⟩
  have h13 := h12.trans h3
  have hno : ∀ r, ¬ ((No r ∨ No r) ∨ No r) := fun r h => by rcases h with (h | h) | h <;> exact h
  refine GT.endS (GT.endS (GT.endS (GT.ok fun hO hv hn => ?_)))
  have hl3 : σ3.look m = some nd0 := (h13.look m (hno m)).trans hm
  refine GT.pcall (args := fun q => [pa q 0, ar m, ag (I.nd.enc _)]) hI closed_nil hn (fun Fp w' h => pset hI hO hv m nd0 _ hl3 Fp w' h) ?_
  rintro x4 σ4 ⟨h4, hl4⟩
  refine GT.endS (GT.ret (H := eRef) m rfl ⟨rfl, (h13.trans h4).mono (fun r h => ?_) (by omega) (by omega), ?_⟩)
  · rcases h with h | h
    · exact absurd h (hno r)
    · exact h
  · have hk : ∀ s : BT E, I.Rep σ.look s → m ∉ s.refs → I.Rep σ4.look s := fun s hs hms => (h13.trans h4).rep hs fun r hr h => by
      rcases h with h | h
      · exact hno r h
      · subst h; exact hms hr
    refine ⟨?_, hg, hk a ha hma, hk b hb hmb⟩
    rw [hl4]
    simp only [ndOf_size, ndOf_sum, Option.getD_some]
    have e1 : wr ((a.size : Int) + 1) = (a.size : Int) + 1 := wr_id (by omega) (by omega)
    have e2 : wr (wr ((a.size : Int) + 1) + (b.size : Int)) = ((BT.node m a nd0.e b).size : Int) := by rw [e1, wr_id (by omega) (by omega)]; simp only [BT.size]; omega
    rw [e2]; rfl

/-- The right tree's root comes above. -/
theorem turnL_g (hI : I.Ty) (hG : I.Trees) {r r2 : Rf} {l hl hh : BT E} {e e2 : E} (hs : I.Rep σ.look (.node r l e (.node r2 hl e2 hh))) (hnd : (BT.node r l e (.node r2 hl e2 hh)).refs.Nodup) (hsz : (BT.node r l e (.node r2 hl e2 hh)).size < 4611686018427387904) :
    I.GS t p r0 n n σ I.gTurnL [pa t 0, ar r] eRef fun x σ' => x = r2 ∧ Tch σ σ' (fun x => x = r ∨ x = r2) 10 0 ∧ I.Rep σ'.look (BT.turnL (.node r l e (.node r2 hl e2 hh))) := by
  refine GS.of hI (hG.turnL t _) (fun B => ?_)
  unfold turnLT
  refine GT.call closed_nil (get_g hI hG hs) ?_
  rintro x1 σ1 ⟨rfl, h1⟩
  obtain ⟨k1, k2, k3, k4⟩ := hs
  have hs1 := h1.rep k4 No.rep
  refine GT.call closed_nil (get_g hI hG hs1) ?_
  rintro x2 σ2 ⟨rfl, h2⟩
  have h12 := h1.trans h2
  have hno : ∀ r, ¬ (No r ∨ No r) := fun r h => by rcases h with h | h <;> exact h
  obtain ⟨j1, j2, j3, j4⟩ := k4
  have c1 : I.Rep σ2.look l := h12.rep k3 fun _ _ => hno _
  have c2 : I.Rep σ2.look hl := h12.rep j3 fun _ _ => hno _
  have c3 : I.Rep σ2.look hh := h12.rep j4 fun _ _ => hno _
  have c4 : σ2.look r = some (I.ndOf (.node r l e (.node r2 hl e2 hh))) := (h12.look r (hno _)).trans k1
  have c5 : σ2.look r2 = some (I.ndOf (.node r2 hl e2 hh)) := (h12.look r2 (hno _)).trans j1
  simp only [BT.refs, List.nodup_append, List.nodup_cons, List.mem_append, List.mem_cons, not_or] at hnd
  simp only [BT.size] at hsz
  obtain ⟨n1, ⟨⟨n2, n3, n4⟩, n5, ⟨n6, n7⟩, n8⟩, n9⟩ := hnd
  refine GT.callR closed_nil (lay_g hI hG c1 c2 c4 k2 (fun h => (n9 _ h _ (.inl rfl)) rfl) n2 (by omega)) ?_
  rintro x3 σ3 ⟨hx, h3, g3⟩
  obtain rfl := hx.symm
  have d3 : I.Rep σ3.look hh := h3.rep c3 fun r' hr e => by subst e; exact n4 hr
  have d5 : σ3.look r2 = some (I.ndOf (.node r2 hl e2 hh)) := (h3.look r2 (fun e => n3 e.symm)).trans c5
  refine GT.callR closed_nil (lay_g hI hG (a := .node r l (I.ndOf (.node r l e (.node r2 hl e2 hh))).e hl) g3 d3 d5 j2 ?_ n6 (by simp only [BT.size]; omega)) ?_
  · show ¬ r2 ∈ l.refs ++ r :: hl.refs
    rw [List.mem_append, List.mem_cons]
    rintro (h | h | h)
    · exact n9 _ h _ (.inr (.inr (.inl rfl))) rfl
    · exact n3 h.symm
    · exact n8 _ h _ (.inl rfl) rfl
  rintro x4 σ4 ⟨hx, h4, g4⟩
  obtain rfl := hx.symm
  refine GT.ret (H := eRef) _ rfl ⟨rfl, (h12.trans (h3.trans h4)).mono (fun r' h => ?_) (by omega) (by omega), g4⟩
  rcases h with h | h | h
  · exact absurd h (hno _)
  · exact .inl h
  · exact .inr h

theorem turnR_g (hI : I.Ty) (hG : I.Trees) {r r2 : Rf} {ll lh h : BT E} {e e2 : E} (hs : I.Rep σ.look (.node r (.node r2 ll e2 lh) e h)) (hnd : (BT.node r (.node r2 ll e2 lh) e h).refs.Nodup) (hsz : (BT.node r (.node r2 ll e2 lh) e h).size < 4611686018427387904) :
    I.GS t p r0 n n σ I.gTurnR [pa t 0, ar r] eRef fun x σ' => x = r2 ∧ Tch σ σ' (fun x => x = r ∨ x = r2) 10 0 ∧ I.Rep σ'.look (BT.turnR (.node r (.node r2 ll e2 lh) e h)) := by
  refine GS.of hI (hG.turnR t _) (fun B => ?_)
  unfold turnRT
  refine GT.call closed_nil (get_g hI hG hs) ?_
  rintro x1 σ1 ⟨rfl, h1⟩
  obtain ⟨k1, k2, k3, k4⟩ := hs
  have hs1 := h1.rep k3 No.rep
  refine GT.call closed_nil (get_g hI hG hs1) ?_
  rintro x2 σ2 ⟨rfl, h2⟩
  have h12 := h1.trans h2
  have hno : ∀ r, ¬ (No r ∨ No r) := fun r h => by rcases h with h | h <;> exact h
  obtain ⟨j1, j2, j3, j4⟩ := k3
  have c1 : I.Rep σ2.look h := h12.rep k4 fun _ _ => hno _
  have c2 : I.Rep σ2.look ll := h12.rep j3 fun _ _ => hno _
  have c3 : I.Rep σ2.look lh := h12.rep j4 fun _ _ => hno _
  have c4 : σ2.look r = some (I.ndOf (.node r (.node r2 ll e2 lh) e h)) := (h12.look r (hno _)).trans k1
  have c5 : σ2.look r2 = some (I.ndOf (.node r2 ll e2 lh)) := (h12.look r2 (hno _)).trans j1
  simp only [BT.refs, List.nodup_append, List.nodup_cons, List.mem_append, List.mem_cons] at hnd
  simp only [BT.size] at hsz
  obtain ⟨⟨n1, ⟨n2, n3⟩, n4⟩, ⟨n5, n6⟩, n7⟩ := hnd
  refine GT.callR closed_nil (lay_g hI hG c3 c1 c4 k2 (fun h => n7 _ (.inr (.inr h)) _ (.inl rfl) rfl) n5 (by omega)) ?_
  rintro x3 σ3 ⟨hx, h3, g3⟩
  obtain rfl := hx.symm
  have n9 : r2 ≠ r := n7 _ (.inr (.inl rfl)) _ (.inl rfl)
  have d3 : I.Rep σ3.look ll := h3.rep c2 fun r' hr e => n7 _ (.inl hr) _ (.inl rfl) e
  have d5 : σ3.look r2 = some (I.ndOf (.node r2 ll e2 lh)) := (h3.look r2 n9).trans c5
  refine GT.callR closed_nil (lay_g hI hG (b := .node r lh (I.ndOf (.node r (.node r2 ll e2 lh) e h)).e h) d3 g3 d5 j2 (fun h => n4 _ h _ (.inl rfl) rfl) ?_ (by simp only [BT.size]; omega)) ?_
  · show ¬ r2 ∈ lh.refs ++ r :: h.refs
    rw [List.mem_append, List.mem_cons]
    rintro (h | h | h)
    · exact n2 h
    · exact n9 h
    · exact n7 _ (.inr (.inl rfl)) _ (.inr h) rfl
  rintro x4 σ4 ⟨hx, h4, g4⟩
  obtain rfl := hx.symm
  refine GT.ret (H := eRef) _ rfl ⟨rfl, (h12.trans (h3.trans h4)).mono (fun r' h => ?_) (by omega) (by omega), g4⟩
  rcases h with h | h | h
  · exact absurd h (hno _)
  · exact .inl h
  · exact .inr h
end GI
end Go.Sx
