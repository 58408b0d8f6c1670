import Derived.Test.YtbanmblbgoajdaaWhGrove7
import Derived.Laws.Small
set_option linter.unusedVariables false
set_option linter.unusedSimpArgs false
set_option maxHeartbeats 2000000
namespace Go.Sx
open Go.RowKit

theorem ld_max {P : Program} {S : BS} {w : World} {ts : Array TypeId} {t : TypeId} {x y : Int} : Ld P S w (Builtin.max_ ts t #[iV x, iV y]) (iV (max x y)) := fun w' _ => by
  unfold iV
  rw [run_max_int2]
  congr 2
  split <;> omega
theorem ld_min {P : Program} {S : BS} {w : World} {ts : Array TypeId} {t : TypeId} {x y : Int} : Ld P S w (Builtin.min_ ts t #[iV x, iV y]) (iV (min x y)) := fun w' _ => by
  unfold iV
  rw [run_min_int2]
  congr 2
  split <;> omega

namespace GI
variable {E A : Type} {I : GI E A} {t q : Nat} {p : Px} {r0 : Rf} {σ σ' σ2 : Pool (Nd E A)} {n n1 n' : Nat} {F : BS} {w w1 : World}

/-! ### Sums side by side, and the first place of which something holds -/
def btw (I : GI E A) : BT E → Int → Int → A
  | .nil, _, _ => I.zA
  | .node r l e h, i, j =>
    if i ≥ j ∨ i ≥ ((BT.node r l e h).size : Int) ∨ j ≤ 0 then I.zA
    else if i ≤ 0 ∧ j ≥ ((BT.node r l e h).size : Int) then I.bsum (.node r l e h)
    else I.plus (if i ≤ (l.size : Int) ∧ j > (l.size : Int) then I.plus (btw I l i j) (I.sum e) else btw I l i j) (btw I h (i - l.size - 1) (j - l.size - 1))
def btwC : BT E → Int → Int → Nat
  | .nil, _, _ => 1
  | .node r l e h, i, j =>
    if i ≥ j ∨ i ≥ ((BT.node r l e h).size : Int) ∨ j ≤ 0 then 1
    else if i ≤ 0 ∧ j ≥ ((BT.node r l e h).size : Int) then 1
    else 2 + btwC l i j + btwC h (i - l.size - 1) (j - l.size - 1)
def fst (I : GI E A) (may : A → A → Bool) : BT E → Int → A → Int × A
  | .nil, _, a => (-1, I.plus a I.zA)
  | .node r l e h, i, a =>
    if i ≥ ((BT.node r l e h).size : Int) ∨ i ≤ 0 ∧ may a (I.bsum (.node r l e h)) = false then (-1, I.plus a (I.bsum (.node r l e h)))
    else
      let x := fst I may l i a
      if x.1 ≥ 0 then x
      else if i ≤ (l.size : Int) ∧ may x.2 (I.sum e) = true then ((l.size : Int), x.2)
      else
        let y := fst I may h (i - l.size - 1) (I.plus x.2 (I.sum e))
        if y.1 ≥ 0 then (y.1 + (l.size + 1), y.2) else y
def fstC (I : GI E A) (may : A → A → Bool) : BT E → Int → A → Nat
  | .nil, _, a => 1
  | .node r l e h, i, a =>
    if i ≥ ((BT.node r l e h).size : Int) ∨ i ≤ 0 ∧ may a (I.bsum (.node r l e h)) = false then 1
    else
      let x := fst I may l i a
      if x.1 ≥ 0 then 2 + fstC I may l i a
      else if i ≤ (l.size : Int) ∧ may x.2 (I.sum e) = true then 2 + fstC I may l i a
      else 2 + fstC I may l i a + fstC I may h (i - l.size - 1) (I.plus x.2 (I.sum e))

structure Trees4 (I : GI E A) : Prop where
  base : I.Trees3
  between : ∀ t r i j, FnT I.cfg I.gbetween [pa t 0, ar r, iV i, iV j] (I.betweenT t r i j)
  Between : ∀ t i j, FnT I.cfg I.gBetween [pa t 0, iV i, iV j] (I.BetweenT t i j)
  new : ∀ n, FnT I.cfg I.gNew [iV n] (I.NewT n)
  pnew : ∀ n, FnT I.cfg I.fNew [iV n] (I.poolNewT n)
structure TreesF (I : GI E A) (fid : FuncId) (cap : List Value) : Prop where
  first : ∀ t r i a, FnT I.cfg I.gfirst [pa t 0, ar r, iV i, I.tA.val a, .func (.func fid) #[] cap.toArray] (I.firstT t r i a fid cap)
  First : ∀ t i, FnT I.cfg I.gFirst [pa t 0, iV i, .func (.func fid) #[] cap.toArray] (I.FirstT t i fid cap)
structure TreesH (I : GI E A) : Prop where
  height : ∀ t r, FnT I.cfg I.gheight [pa t 0, ar r] (I.heightT t r)
  Height : ∀ t, FnT I.cfg I.gHeight [pa t 0] (I.HeightT t)

theorem GT.loadS {B d : Nat} {Γ : List Again} {H : Enc} {Q : H.T → Pool (Nd E A) → Prop} {m : Sem Value} {H1 : Enc} {k : H1.T → Tree} {x : H1.T} (hl : ∀ S w, Ld I.P S w m (H1.enc x)) (h : ∀ F w, I.GAt t p r0 σ n F w → TT I.P B (fun v F1 w1 => ∃ x, v = H.enc x ∧ ∃ σ', I.GAt t p r0 σ' n' F1 w1 ∧ Q x σ') (k x) Γ (Lam.none.add d m (H1.enc x)) F w) :
    I.GT t p r0 n n' B Γ H Q (.loadS d m H1 k) σ := fun F w hG => TT_loadS_ld (hl F w) (h F w hG)
theorem GT.prim {B : Nat} {Γ : List Again} {H : Enc} {Q : H.T → Pool (Nd E A) → Prop} {m : Sem Value} {H1 : Enc} {k : H1.T → Tree} {x : H1.T} (hΓ : ClosedΓ B Γ) (hl : ∀ S w, Ld I.P S w m (H1.enc x)) (h : I.GT t p r0 n n' B Γ H Q (k x) σ) :
    I.GT t p r0 n n' B Γ H Q (.prim m [] H1 k) σ := fun F w hG => TT_prim_ld hΓ hG.lt (hl F w) (h F w hG)

theorem GT.loadI {B d : Nat} {Γ : List Again} {H : Enc} {Q : H.T → Pool (Nd E A) → Prop} {m : Sem Value} {k : Int → Tree} {x : Int} (hl : ∀ S w, Ld I.P S w m (iV x)) (h : I.GT t p r0 n n' B Γ H Q (k x) σ) :
    I.GT t p r0 n n' B Γ H Q (.loadS d m eInt fun x => .endS (k x)) σ := fun F w hG => TT_loadS_ld (x := x) (hl F w) (h F w hG)
theorem GT.callI {B : Nat} {Γ : List Again} {H : Enc} {Q : H.T → Pool (Nd E A) → Prop} {f : FuncId} {args : List Value} {keep : List Nat} {Q1 : Int → Pool (Nd E A) → Prop} {k : Int → Tree} (hΓ : ClosedΓ B Γ) (hs : I.GS t p r0 n n1 σ f args eInt Q1) (hk : ∀ (x : Int) σ', Q1 x σ' → I.GT t p r0 n1 n' B Γ H Q (k x) σ') :
    I.GT t p r0 n n' B Γ H Q (.call f args.toArray keep eInt k) σ := GT.call hΓ hs hk
theorem GT.callA {B : Nat} {Γ : List Again} {H : Enc} {Q : H.T → Pool (Nd E A) → Prop} {f : FuncId} {args : List Value} {keep : List Nat} {Q1 : A → Pool (Nd E A) → Prop} {k : A → Tree} (hΓ : ClosedΓ B Γ) (hs : I.GS t p r0 n n1 σ f args I.eA Q1) (hk : ∀ (x : A) σ', Q1 x σ' → I.GT t p r0 n1 n' B Γ H Q (k x) σ') :
    I.GT t p r0 n n' B Γ H Q (.call f args.toArray keep I.eA k) σ := GT.call hΓ hs hk
theorem GT.callN {B : Nat} {Γ : List Again} {H : Enc} {Q : H.T → Pool (Nd E A) → Prop} {f : FuncId} {args : List Value} {keep : List Nat} {Q1 : Nd E A → Pool (Nd E A) → Prop} {k : Nd E A → Tree} (hΓ : ClosedΓ B Γ) (hs : I.GS t p r0 n n1 σ f args I.eNd Q1) (hk : ∀ (x : Nd E A) σ', Q1 x σ' → I.GT t p r0 n1 n' B Γ H Q (k x) σ') :
    I.GT t p r0 n n' B Γ H Q (.call f args.toArray keep I.eNd k) σ := GT.call hΓ hs hk
theorem GT.callIA {B : Nat} {Γ : List Again} {H : Enc} {Q : H.T → Pool (Nd E A) → Prop} {f : FuncId} {args : List Value} {keep : List Nat} {Q1 : Int × A → Pool (Nd E A) → Prop} {k : Int × A → Tree} (hΓ : ClosedΓ B Γ) (hs : I.GS t p r0 n n1 σ f args (eTup2 eInt I.eA) Q1) (hk : ∀ (x : Int × A) σ', Q1 x σ' → I.GT t p r0 n1 n' B Γ H Q (k x) σ') :
    I.GT t p r0 n n' B Γ H Q (.call f args.toArray keep (eTup2 eInt I.eA) k) σ := GT.call hΓ hs hk
theorem GT.callB {B : Nat} {Γ : List Again} {H : Enc} {Q : H.T → Pool (Nd E A) → Prop} {f : FuncId} {args : List Value} {keep : List Nat} {Q1 : Bool → Pool (Nd E A) → Prop} {k : Bool → Tree} (hΓ : ClosedΓ B Γ) (hs : I.GS t p r0 n n1 σ f args eBool Q1) (hk : ∀ (x : Bool) σ', Q1 x σ' → I.GT t p r0 n1 n' B Γ H Q (k x) σ') :
    I.GT t p r0 n n' B Γ H Q (.call f args.toArray keep eBool k) σ := GT.call hΓ hs hk

theorem height_g (hI : I.Ty) (hG : I.Trees3) (hH : I.TreesH) : ∀ {s : BT E} {σ : Pool (Nd E A)}, I.Rep σ.look s → s.size < 144115188075855872 → I.GS t p r0 n n σ I.gheight [pa t 0, ar s.ref] eInt fun x σ' => x = (s.height : Int) ∧ Tch σ σ' No s.size 0 := by
  intro s
  induction s with
  | nil =>
    intro σ hs _
    refine GS.ok fun hO hv hn => GS.of hI (hH.height t _) (fun B => ?_)
    unfold heightT
    refine GT.ite (fun _ => ?_) (fun hb => absurd hb (by simp [BT.ref]))
    exact GT.ret (H := eInt) (0 : Int) rfl ⟨rfl, Tch.refl hv _ _⟩
  | node r l e h ihl ihh =>
    intro σ hs hsz
    have hh : ∀ s : BT E, s.height ≤ s.size := fun s => by
      induction s with
      | nil => exact Nat.le_refl _
      | node r l e h i1 i2 => simp only [BT.height, BT.size]; omega
    refine GS.of hI (hH.height t _) (fun B => ?_)
    unfold heightT
    have hl' := hh l
    have hh' := hh h
    simp only [BT.size] at hsz
    refine GT.ite (fun hb => absurd hb (by simp [BT.ref, hs.2.1])) (fun _ => ?_)
    refine GT.call closed_nil (get_g hI hG.base.base hs) ?_
    rintro x σ1 ⟨rfl, h1⟩
    obtain ⟨k1, k2, k3, k4⟩ := h1.rep hs No.rep
    refine GT.callI closed_nil (ihl k3 (by omega)) ?_
    rintro x σ2 ⟨rfl, h2⟩
    refine GT.callI closed_nil (ihh (h2.rep k4 No.rep) (by omega)) ?_
    rintro x σ3 ⟨rfl, h3⟩
    refine GT.loadI (x := max (l.height : Int) (h.height : Int)) (fun S w => ld_max) ?_
    have hw : wr (1 + max (l.height : Int) (h.height : Int)) = ((BT.node r l e h).height : Int) := by
      rw [wr_id (by omega) (by omega)]; simp only [BT.height]; omega
    exact GT.ret (H := eInt) ((BT.node r l e h).height : Int) (by rw [hw]; rfl) ⟨rfl, ((h1.trans h2).no2.trans h3).no2.mono (fun _ h => h) (by simp only [BT.size]; omega) rfl⟩

theorem Height_g (hI : I.Ty) (hG : I.Trees3) (hH : I.TreesH) {s : BT E} (hs : I.Rep σ.look s) (hsz : s.size < 144115188075855872) : I.GS t p s.ref n n σ I.gHeight [pa t 0] eInt fun x σ' => x = (s.height : Int) ∧ Tch σ σ' No s.size 0 := by
  refine GS.of hI (hH.Height t) (fun B => ?_)
  unfold HeightT
  refine GT.root hI closed_nil ?_
  refine GT.call closed_nil (height_g hI hG hH hs hsz) ?_
  rintro x σ1 ⟨rfl, h1⟩
  exact GT.ret (H := eInt) (s.height : Int) rfl ⟨rfl, h1⟩

theorem between_g (hI : I.Ty) (hG : I.Trees4) : ∀ {s : BT E} {σ : Pool (Nd E A)} {i j : Int}, I.Rep σ.look s → -1152921504606846976 < i - s.size → i + s.size < 1152921504606846976 → -1152921504606846976 < j - s.size → j + s.size < 1152921504606846976 →
    I.GS t p r0 n n σ I.gbetween [pa t 0, ar s.ref, iV i, iV j] I.eA fun (x : A) σ' => x = btw I s i j ∧ Tch σ σ' No (btwC s i j) 0 := by
  intro s
  induction s with
  | nil =>
    intro σ i j hs _ _ _ _
    refine GS.of hI (hG.between t _ _ _) (fun B => ?_)
    unfold betweenT
    refine GT.callN closed_nil (get_g hI hG.base.base.base (s := .nil) hs) ?_
    rintro x σ1 ⟨rfl, h1⟩
    have hz : I.GT t p r0 n n B [] I.eA (fun (x : A) σ' => x = btw I .nil i j ∧ Tch σ σ' No (btwC (.nil : BT E) i j) 0) I.zR σ1 := GT.ret (H := I.eA) I.zA rfl ⟨rfl, h1⟩
    refine GT.ite (fun _ => hz) (fun _ => GT.ite (fun _ => hz) (fun _ => GT.ite (fun _ => hz) (fun _ => GT.ite (fun _ => hz) (fun hb => absurd hb (by simp [ndOf, zN])))))
  | node r l e h ihl ihh =>
    intro σ i j hs b1 b2 b3 b4
    refine GS.of hI (hG.between t _ _ _) (fun B => ?_)
    unfold betweenT
    refine GT.callN closed_nil (get_g hI hG.base.base.base hs) ?_
    rintro x σ1 ⟨rfl, h1⟩
    obtain ⟨k1, k2, k3, k4⟩ := h1.rep hs No.rep
    have hsz : (I.ndOf (.node r l e h)).size = ((BT.node r l e h).size : Int) := ndOf_size I _
    have hsz2 : (BT.node r l e h).size = l.size + 1 + h.size := rfl
    rw [hsz]
    rw [hsz2] at b1 b2 b3 b4
    have hz : (i ≥ j ∨ i ≥ ((BT.node r l e h).size : Int) ∨ j ≤ 0) → I.GT t p r0 n n B [] I.eA (fun (x : A) σ' => x = btw I (.node r l e h) i j ∧ Tch σ σ' No (btwC (.node r l e h) i j) 0) I.zR σ1 := fun hc =>
      GT.ret (H := I.eA) I.zA rfl ⟨by rw [btw, if_pos hc], h1.mono (fun _ h => h) (by rw [btwC, if_pos hc]; exact Nat.le_refl _) rfl⟩
    refine GT.ite (fun hb => hz (.inl (of_decide_eq_true hb))) (fun hb => ?_)
    have c1 := of_decide_eq_false hb
    refine GT.ite (fun hb => hz (.inr (.inl (of_decide_eq_true hb)))) (fun hb => ?_)
    have c2 := of_decide_eq_false hb
    refine GT.ite (fun hb => hz (.inr (.inr (of_decide_eq_true hb)))) (fun hb => ?_)
    have c3 := of_decide_eq_false hb
    have c0 : ¬ (i ≥ j ∨ i ≥ ((BT.node r l e h).size : Int) ∨ j ≤ 0) := by rintro (h | h | h); exact c1 h; exact c2 h; exact c3 h
    refine GT.ite (fun hb => absurd hb (by simp [BT.size]; omega)) (fun _ => ?_)
    have hrest : ¬ (i ≤ 0 ∧ j ≥ ((BT.node r l e h).size : Int)) → I.GT t p r0 n n B [] I.eA (fun (x : A) σ' => x = btw I (.node r l e h) i j ∧ Tch σ σ' No (btwC (.node r l e h) i j) 0) (I.betweenR t (I.ndOf (.node r l e h)) i j) σ1 := by
      intro c4
      unfold betweenR
      refine GT.callN closed_nil (get_g hI hG.base.base.base (s := l) k3) ?_
      rintro x σ2 ⟨rfl, h2⟩
      refine GT.callA closed_nil (ihl (h2.rep k3 No.rep) (by omega) (by omega) (by omega) (by omega)) ?_
      rintro x σ3 ⟨rfl, h3⟩
      have hls : (I.ndOf l).size = (l.size : Int) := ndOf_size I _
      rw [hls]
      have h23 := (h2.trans h3).no2
      have w1 : wr (wr (i - (l.size : Int)) - 1) = i - l.size - 1 := by rw [wr_id (n := i - l.size) (by omega) (by omega), wr_id (by omega) (by omega)]
      have w2 : wr (wr (j - (l.size : Int)) - 1) = j - l.size - 1 := by rw [wr_id (n := j - l.size) (by omega) (by omega), wr_id (by omega) (by omega)]
      have hE : ∀ s : A, s = (if i ≤ (l.size : Int) ∧ j > (l.size : Int) then I.plus (btw I l i j) (I.sum e) else btw I l i j) → I.GT t p r0 n n B [] I.eA (fun (x : A) σ' => x = btw I (.node r l e h) i j ∧ Tch σ σ' No (btwC (.node r l e h) i j) 0) (I.betweenE t (I.ndOf (.node r l e h)) (I.ndOf l) i j s) σ3 := by
        intro s hs
        unfold betweenE
        rw [hls, w1, w2]
        refine GT.callA closed_nil (ihh (i := i - l.size - 1) (j := j - l.size - 1) (h23.rep k4 No.rep) (by omega) (by omega) (by omega) (by omega)) ?_
        rintro x σ4 ⟨rfl, h4⟩
        refine GT.endS (GT.ret (H := I.eA) _ rfl ⟨?_, ((h1.trans h23).no2.trans h4).no2.mono (fun _ h => h) (by rw [btwC, if_neg c0, if_neg c4]; omega) rfl⟩)
        rw [btw, if_neg c0, if_neg c4, hs]
      refine GT.ite (fun hb => GT.ite (fun hb2 => GT.endS (hE _ ?_)) (fun hb2 => hE _ ?_)) (fun hb => hE _ ?_)
      · rw [if_pos ⟨of_decide_eq_true hb, of_decide_eq_true hb2⟩]; rfl
      · rw [if_neg fun h => of_decide_eq_false hb2 h.2]
      · rw [if_neg fun h => of_decide_eq_false hb h.1]
    refine GT.ite (fun hb => GT.ite (fun hb2 => ?_) (fun hb2 => hrest fun h => of_decide_eq_false hb2 h.2)) (fun hb => hrest fun h => of_decide_eq_false hb h.1)
    have c4 : i ≤ 0 ∧ j ≥ ((BT.node r l e h).size : Int) := ⟨of_decide_eq_true hb, of_decide_eq_true hb2⟩
    exact GT.ret (H := I.eA) (I.ndOf (.node r l e h)).sum rfl ⟨by rw [btw, if_neg c0, if_pos c4]; rfl, h1.mono (fun _ h => h) (by rw [btwC, if_neg c0, if_pos c4]; exact Nat.le_refl _) rfl⟩
end GI
end Go.Sx
