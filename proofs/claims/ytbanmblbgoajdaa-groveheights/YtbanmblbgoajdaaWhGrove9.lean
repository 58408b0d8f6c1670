import Derived.Test.YtbanmblbgoajdaaWhGrove8
set_option linter.unusedVariables false
set_option linter.unusedSimpArgs false
set_option maxHeartbeats 2000000
namespace Go.Sx
open Go.RowKit
namespace GI
variable {E A : Type} {I : GI E A} {t q : Nat} {p : Px} {r0 : Rf} {σ σ' σ2 : Pool (Nd E A)} {n n1 n' : Nat} {F : BS} {w w1 : World}

theorem GT.primI {B : Nat} {Γ : List Again} {H : Enc} {Q : H.T → Pool (Nd E A) → Prop} {m : Sem Value} {k : Int → Tree} {x : Int} (hΓ : ClosedΓ B Γ) (hl : ∀ S w, Ld I.P S w m (iV x)) (h : I.GT t p r0 n n' B Γ H Q (k x) σ) :
    I.GT t p r0 n n' B Γ H Q (.prim m [] eInt k) σ := fun F w hG => TT_prim_ld (x := x) hΓ hG.lt (hl F w) (h F w hG)

def clampI (i : Int) (n : Nat) : Int := min (max i 0) n
theorem clampI_le (i : Int) (n : Nat) : 0 ≤ clampI i n ∧ clampI i n ≤ n := by unfold clampI; omega

theorem Between_g (hI : I.Ty) (hG : I.Trees4) {i j : Int} {s : BT E} (hs : I.Rep σ.look s) (hsz : s.size < 144115188075855872) :
    I.GS t p s.ref n n σ I.gBetween [pa t 0, iV i, iV j] I.eA fun (x : A) σ' => x = btw I s (clampI i s.size) (clampI j s.size) ∧ Tch σ σ' No (1 + btwC s (clampI i s.size) (clampI j s.size)) 0 := by
  refine GS.of hI (hG.Between t _ _) (fun B => ?_)
  unfold BetweenT
  refine GT.callI closed_nil (len_g hI hG.base hs) ?_
  rintro x σ1 ⟨rfl, h1⟩
  refine GT.root hI closed_nil ?_
  refine GT.primI closed_nil (fun S w => ld_max) ?_
  refine GT.primI closed_nil (fun S w => ld_min) ?_
  refine GT.primI closed_nil (fun S w => ld_max) ?_
  refine GT.primI closed_nil (fun S w => ld_min) ?_
  have c1 := clampI_le i s.size
  have c2 := clampI_le j s.size
  refine GT.callA closed_nil (between_g hI hG (i := clampI i s.size) (j := clampI j s.size) (h1.rep hs No.rep) (by omega) (by omega) (by omega) (by omega)) ?_
  rintro x σ2 ⟨rfl, h2⟩
  exact GT.ret (H := I.eA) _ rfl ⟨rfl, (h1.trans h2).no2⟩

/-- What a question about sums comes to: it leaves all as it is. -/
def May (I : GI E A) (t : Nat) (p : Px) (n : Nat) (fid : FuncId) (cap : List Value) (may : A → A → Bool) : Prop :=
  ∀ r0 σ x y, I.GS t p r0 n n σ fid ([I.tA.val x, I.tA.val y] ++ cap) eBool fun (b : Bool) σ' => b = may x y ∧ σ' = σ

theorem fst_le (I : GI E A) (may : A → A → Bool) : ∀ (s : BT E) (i : Int) (a : A), -1 ≤ (fst I may s i a).1 ∧ (fst I may s i a).1 < (s.size : Int)
  | .nil, i, a => by simp [fst, BT.size]
  | .node r l e h, i, a => by
    have hl := fst_le I may l i a
    have hsz : ((BT.node r l e h).size : Int) = (l.size : Int) + 1 + (h.size : Int) := by simp only [BT.size]; omega
    unfold fst
    split
    · simp; omega
    · simp only
      split
      · omega
      · split
        · simp only; omega
        · have hh := fst_le I may h (i - l.size - 1) (I.plus (fst I may l i a).2 (I.sum e))
          split
          · simp only; omega
          · omega

theorem first_g (hI : I.Ty) (hG : I.Trees3) {fid : FuncId} {cap : List Value} {may : A → A → Bool} (hF : I.TreesF fid cap) (hM : I.May t p n fid cap may) : ∀ {s : BT E} {σ : Pool (Nd E A)} {i : Int} {a : A}, I.Rep σ.look s → -1152921504606846976 < i - s.size → i + s.size < 1152921504606846976 → s.size < 144115188075855872 →
    I.GS t p r0 n n σ I.gfirst [pa t 0, ar s.ref, iV i, I.tA.val a, .func (.func fid) #[] cap.toArray] (eTup2 eInt I.eA) fun (x : Int × A) σ' => x = fst I may s i a ∧ Tch σ σ' No (fstC I may s i a) 0 := by
  intro s
  induction s with
  | nil =>
    intro σ i a hs _ _ _
    refine GS.of hI (hF.first t _ _ _) (fun B => ?_)
    unfold firstT
    refine GT.callN closed_nil (get_g hI hG.base.base (s := .nil) hs) ?_
    rintro x σ1 ⟨rfl, h1⟩
    refine GT.ite (fun _ => ?_) (fun hb => absurd hb (by simp [ndOf, zN]))
    exact GT.ret (H := eTup2 eInt I.eA) ((-1 : Int), I.plus a I.zA) rfl ⟨rfl, h1⟩
  | node r l e h ihl ihh =>
    intro σ i a hs b1 b2 b5
    refine GS.of hI (hF.first t _ _ _) (fun B => ?_)
    unfold firstT
    refine GT.callN closed_nil (get_g hI hG.base.base hs) ?_
    rintro x σ1 ⟨rfl, h1⟩
    obtain ⟨k1, k2, k3, k4⟩ := h1.rep hs No.rep
    have hsz : (I.ndOf (.node r l e h)).size = ((BT.node r l e h).size : Int) := ndOf_size I _
    have hsz2 : (BT.node r l e h).size = l.size + 1 + h.size := rfl
    rw [hsz]
    rw [hsz2] at b1 b2 b5
    have hz : (i ≥ ((BT.node r l e h).size : Int) ∨ i ≤ 0 ∧ may a (I.bsum (.node r l e h)) = false) → I.GT t p r0 n n B [] (eTup2 eInt I.eA) (fun (x : Int × A) σ' => x = fst I may (.node r l e h) i a ∧ Tch σ σ' No (fstC I may (.node r l e h) i a) 0) (I.firstN (I.ndOf (.node r l e h)) a) σ1 := fun hc =>
      GT.ret (H := eTup2 eInt I.eA) ((-1 : Int), I.plus a (I.bsum (.node r l e h))) rfl ⟨by rw [fst, if_pos hc]; rfl, h1.mono (fun _ h => h) (by rw [fstC, if_pos hc]; exact Nat.le_refl _) rfl⟩
    refine GT.ite (fun hb => absurd hb (by simp [BT.size]; omega)) (fun _ => ?_)
    refine GT.ite (fun hb => hz (.inl (of_decide_eq_true hb))) (fun hb => ?_)
    have c2 := of_decide_eq_false hb
    have hrest : ¬ (i ≥ ((BT.node r l e h).size : Int) ∨ i ≤ 0 ∧ may a (I.bsum (.node r l e h)) = false) → I.GT t p r0 n n B [] (eTup2 eInt I.eA) (fun (x : Int × A) σ' => x = fst I may (.node r l e h) i a ∧ Tch σ σ' No (fstC I may (.node r l e h) i a) 0) (I.firstR t (I.ndOf (.node r l e h)) i a fid cap) σ1 := by
      intro c4
      unfold firstR
      refine GT.callN closed_nil (get_g hI hG.base.base (s := l) k3) ?_
      rintro x σ2 ⟨rfl, h2⟩
      unfold cF
      refine GT.callIA closed_nil (ihl (h2.rep k3 No.rep) (by omega) (by omega) (by omega)) ?_
      rintro x σ3 ⟨hx, h3⟩
      obtain rfl := hx.symm
      have hls : (I.ndOf l).size = (l.size : Int) := ndOf_size I _
      rw [hls]
      have h23 := (h2.trans h3).no2
      have h13 := (h1.trans h23).no2
      have hle := fst_le I may l i a
      have w1 : wr (wr (i - (l.size : Int)) - 1) = i - l.size - 1 := by rw [wr_id (n := i - l.size) (by omega) (by omega), wr_id (by omega) (by omega)]
      refine GT.ite (fun hb => ?_) (fun hb => ?_)
      · have d1 := of_decide_eq_true hb
        refine GT.endS (GT.ret (H := eTup2 eInt I.eA) ((fst I may l i a).1, (fst I may l i a).2) rfl ⟨?_, h13.mono (fun _ h => h) ?_ (by omega)⟩)
        · rw [fst, if_neg c4]; simp only; rw [if_pos d1]; try rfl
        · rw [fstC, if_neg c4]; simp only; rw [if_pos d1]; omega
      have d1 := of_decide_eq_false hb
      have hE : ¬ (i ≤ (l.size : Int) ∧ may (fst I may l i a).2 (I.sum e) = true) → I.GT t p r0 n n B [] (eTup2 eInt I.eA) (fun (x : Int × A) σ' => x = fst I may (.node r l e h) i a ∧ Tch σ σ' No (fstC I may (.node r l e h) i a) 0) (I.firstE t (I.ndOf (.node r l e h)) (I.ndOf l) i (fst I may l i a) fid cap) σ3 := by
        intro d2
        unfold firstE cF
        rw [hls, w1]
        refine GT.callIA closed_nil (ihh (i := i - l.size - 1) (a := I.plus (fst I may l i a).2 (I.sum e)) (h23.rep k4 No.rep) (by omega) (by omega) (by omega)) ?_
        rintro y σ4 ⟨hy, h4⟩
        obtain rfl := hy.symm
        have hle2 := fst_le I may h (i - l.size - 1) (I.plus (fst I may l i a).2 (I.sum e))
        have h14 := (h13.trans h4).no2
        have hC : 1 + (1 + fstC I may l i a) + fstC I may h (i - l.size - 1) (I.plus (fst I may l i a).2 (I.sum e)) ≤ fstC I may (.node r l e h) i a := by
          rw [fstC, if_neg c4]; simp only; rw [if_neg d1, if_neg d2]; omega
        refine GT.endS (GT.ite (fun hb => ?_) (fun hb => ?_))
        · have d3 := of_decide_eq_true hb
          have w2 : wr ((l.size : Int) + 1) = l.size + 1 := wr_id (by omega) (by omega)
          have w3 : wr ((fst I may h (i - l.size - 1) (I.plus (fst I may l i a).2 (I.sum e))).1 + (l.size + 1)) = (fst I may h (i - l.size - 1) (I.plus (fst I may l i a).2 (I.sum e))).1 + (l.size + 1) := wr_id (by omega) (by omega)
          rw [w2, w3]
          refine GT.endS (GT.ret (H := eTup2 eInt I.eA) (_, _) rfl ⟨?_, h14.mono (fun _ h => h) hC rfl⟩)
          rw [fst, if_neg c4]; simp only; rw [if_neg d1, if_neg d2, if_pos d3]; try rfl
        · have d3 := of_decide_eq_false hb
          refine GT.endS (GT.ret (H := eTup2 eInt I.eA) (_, _) rfl ⟨?_, h14.mono (fun _ h => h) hC rfl⟩)
          rw [fst, if_neg c4]; simp only; rw [if_neg d1, if_neg d2, if_neg d3]; try rfl
      refine GT.ite (fun hb => ?_) (fun hb => hE fun h => of_decide_eq_false hb h.1)
      have d2 := of_decide_eq_true hb
      unfold cM
      refine GT.callB closed_nil (hM r0 σ3 (fst I may l i a).2 (I.sum e)) ?_
      rintro b σ4 ⟨hb, hσ⟩
      obtain rfl := hσ.symm
      refine GT.ite (fun hb2 => ?_) (fun hb2 => hE fun h => by rw [hb] at hb2; rw [hb2] at h; exact absurd h.2 (by simp))
      have d3 : may (fst I may l i a).2 (I.sum e) = true := by rw [← hb]; exact hb2
      refine GT.endS (GT.ret (H := eTup2 eInt I.eA) ((l.size : Int), (fst I may l i a).2) rfl ⟨?_, h13.mono (fun _ h => h) ?_ (by omega)⟩)
      · rw [fst, if_neg c4]; simp only; rw [if_neg d1, if_pos ⟨d2, d3⟩]; try rfl
      · rw [fstC, if_neg c4]; simp only; rw [if_neg d1, if_pos ⟨d2, d3⟩]; omega
    refine GT.ite (fun hb => ?_) (fun hb => hrest fun h => h.elim c2 fun h => of_decide_eq_false hb h.1)
    have d0 := of_decide_eq_true hb
    unfold cM
    refine GT.callB closed_nil (hM r0 σ1 a (I.bsum (.node r l e h))) ?_
    rintro b σ4 ⟨hb, hσ⟩
    obtain rfl := hσ.symm
    refine GT.ite (fun hb2 => ?_) (fun hb2 => ?_)
    · exact hz (.inr ⟨d0, by rw [← hb]; simpa using hb2⟩)
    · exact hrest fun h => h.elim c2 fun h => by rw [hb] at hb2; simp at hb2; rw [hb2] at h; exact absurd h.2 (by simp)

theorem First_g (hI : I.Ty) (hG : I.Trees3) {fid : FuncId} {cap : List Value} {may : A → A → Bool} (hF : I.TreesF fid cap) (hM : I.May t p n fid cap may) {i : Int} {s : BT E} (hs : I.Rep σ.look s) (hsz : s.size < 144115188075855872) :
    I.GS t p s.ref n n σ I.gFirst [pa t 0, iV i, .func (.func fid) #[] cap.toArray] eInt fun (x : Int) σ' => x = (fst I may s (clampI i s.size) I.zA).1 ∧ Tch σ σ' No (1 + fstC I may s (clampI i s.size) I.zA) 0 := by
  intro F w hGA
  refine (hF.First t i).spec hI.pool.good.ok hI.pool.good.mix hGA.lt ?_
  unfold FirstT
  refine TT_loadS_ld (x := s.ref) (ld_root hI hGA) ?_
  refine TT_loadS_ld (H := eInt) (x := (show Int from max i 0)) ld_max ?_
  have c1 := clampI_le i s.size
  refine TT_call (H := eInt) (F := F) (G := fun _ => False) (X := fun (x : Int) F1 w1 => ∃ σ', I.GAt t p s.ref σ' n F1 w1 ∧ x = (s.size : Int) ∧ Tch σ σ' No 1 0) closed_nil (fun b => by simp) hGA.lt (fun b hb => hb.elim) (fun w' hk' _ => len_g hI hG hs F w' (hGA.keep hk')) ?_
  rintro x F1 w1 ⟨σ1, g1, rfl, h1⟩ hlt hnew hGk hsz1
  have hFe : (fun b => F1 b ∨ False) = F1 := by funext b; simp
  rw [hFe]
  refine ⟨fun d m v hΛ => ?_, ?_⟩
  · obtain ⟨hΛ, _⟩ := hΛ
    rcases hΛ with (hΛ | ⟨_, rfl, rfl⟩) | ⟨_, rfl, rfl⟩
    · exact hΛ.elim
    · exact (ld_root hI g1).stab _
    · exact Ld.stab (S := F1) (w := w1) ld_max _
  refine TT_loadS_ld (H := eInt) (x := clampI i s.size) ld_min ?_
  refine TT_call0 (H := eTup2 eInt I.eA) (X := fun (x : Int × A) F1 w1 => ∃ σ', I.GAt t p s.ref σ' n F1 w1 ∧ x = fst I may s (clampI i s.size) I.zA ∧ Tch σ1 σ' No (fstC I may s (clampI i s.size) I.zA) 0) closed_nil g1.lt (fun w' hk' _ => first_g hI hG hF hM (h1.rep hs No.rep) (by omega) (by omega) hsz F1 w' (g1.keep hk')) ?_
  rintro x F2 w2 ⟨σ2, g2, hx, h2⟩ hlt2 hnew2 hsz2
  obtain rfl := hx.symm
  intro w3 ha
  exact ⟨(fst I may s (clampI i s.size) I.zA).1, rfl, σ2, g2.keep fun b hb => ha.block b (.inr hb), rfl, (h1.trans h2).no2⟩
end GI
end Go.Sx
