import Derived.Test.YtbanmblbgoajdaaWhGrove6
set_option linter.unusedVariables false
set_option linter.unusedSimpArgs false
set_option maxHeartbeats 2000000
namespace Go.Sx
open Go.RowKit

namespace BT
variable {E : Type} (cmp : E → E → Int)
def find (e : E) : BT E → Option E
  | nil => none
  | node _ l f h => if cmp e f = 0 then some f else if cmp e f < 0 then l.find e else h.find e
def rank (e : E) : BT E → Nat
  | nil => 0
  | node _ l f h => if cmp e f ≤ 0 then l.rank e else l.w + h.rank e
def at_ : BT E → Nat → Option E
  | nil, _ => none
  | node _ l f h, i => if i = l.size then some f else if i < l.size then l.at_ i else h.at_ (i - (l.size + 1))
end BT

namespace GI
variable {E A : Type} {I : GI E A} {t q : Nat} {p : Px} {r0 : Rf} {σ σ' σ2 : Pool (Nd E A)} {n n1 n' : Nat} {F : BS} {w w1 : World}

structure Trees3 (I : GI E A) : Prop where
  base : I.Trees2
  len : ∀ t, FnT I.cfg I.gLen [pa t 0] (I.lenT t)
  visits : ∀ t, FnT I.cfg I.gVisits [pa t 0] (I.visitsT t)
  Put : ∀ t e, FnT I.cfg I.gPut [pa t 0, I.tE.val e] (I.PutT t e)
  Drop : ∀ t e, FnT I.cfg I.gDrop [pa t 0, I.tE.val e] (I.DropT t e)
  Find : ∀ t e, FnT I.cfg I.gFind [pa t 0, I.tE.val e] (I.findT t e)
  Rank : ∀ t e, FnT I.cfg I.gRank [pa t 0, I.tE.val e] (I.rankT t e)

/-- What a tree's own function does: its root may turn. -/
def GR (I : GI E A) (t : Nat) (p : Px) (r0 : Rf) (n n' : Nat) (σ : Pool (Nd E A)) (f : FuncId) (args : List Value) (H : Enc) (Q : H.T → Rf → Pool (Nd E A) → Prop) : Prop :=
  ∀ F w, I.GAt t p r0 σ n F w → Spec I.P f args F w fun v F1 w1 => ∃ x, v = H.enc x ∧ ∃ r' σ', I.GAt t p r' σ' n' F1 w1 ∧ Q x r' σ'

theorem ld_root (hI : I.Ty) (h : I.GAt t p r0 σ n F w) : Ld I.P F w (Instr.loadAt I.tRef (pa t 1)) (eRef.enc r0) := by
  obtain ⟨Fp, rfl, h1, ⟨h2, hx⟩, h3⟩ := h
  exact ld_agg (S := fun b => Fp b ∨ b = t ∨ p.G b) (cs := headC p.p r0) (off := 1) (.inr (.inl rfl)) h2 hI.aRef hI.sRef (by simp [headC])

theorem TT_root {B : Nat} {R : Value → BS → World → Prop} {Γ : List Again} {Λ : Lam} {k : Tree} {r : Rf} (hI : I.Ty) (hΓ : ClosedΓ B Γ) (h : I.GAt t p r0 σ n F w) (hk : ∀ w1, I.GAt t p r σ n F w1 → TT I.P B R k Γ Lam.none F w1) :
    TT I.P B R (.primU (Instr.storeAt I.tRef (pa t 1) (ar r)) [] k) Γ Λ F w := by
  have h0 := h
  obtain ⟨Fp, rfl, h1, ⟨h2, hx1, hx2, hx3⟩, h3⟩ := h
  refine TT_store (cs := headC p.p r0) (e := I.tTree) hΓ h0.lt (.inr (.inl rfl)) h2 (by rw [hI.sRef]; rfl) (by simp [ar, ag, rfC, Value.cells, headC]) (one_list fun v hv => ?_) ?_
  · simp [rfC] at hv; rcases hv with rfl | rfl <;> rfl
  intro w1 hp hoth hsz
  refine hk w1 ⟨Fp, rfl, h1.keep fun b hb => hoth b (fun e => head_not hI h1 h2 (e ▸ hb)) (.inl hb), ⟨?_, hx1, hx2, p.stab w w1 (fun b hb => hoth b (fun e => hx1 (e ▸ hb)) (.inr (.inr hb))) hx3⟩, h3⟩
  rw [hp]; rfl

theorem Put_g (hI : I.Ty) (hG : I.Trees3) (hL : I.Laws) (e : E) (hn1 : n + 1 < 4294967296) {s : BT E} (hs : I.Rep σ.look s) (hnd : s.refs.Nodup) (hsz : s.size < 144115188075855872) :
    I.GR t p s.ref n (n + 1) σ I.gPut [pa t 0, I.tE.val e] eBool fun b r' σ' => PutR I σ σ' s e (r', b) := by
  intro F w hGA
  refine (hG.Put t e).spec hI.pool.good.ok hI.pool.good.mix hGA.lt ?_
  unfold PutT
  refine TT_loadS_ld (x := s.ref) (ld_root hI hGA) ?_
  refine TT_call0 (X := fun x F1 w1 => ∃ σ', I.GAt t p s.ref σ' (n + 1) F1 w1 ∧ PutR I σ σ' s e x) closed_nil hGA.lt (fun w' hk hs' => put_g hI hG.base hL e hn1 hs hnd hsz F w' (hGA.keep hk)) ?_
  rintro ⟨x, b⟩ F1 w1 ⟨σ', g1, g2⟩ hlt hnew hsz'
  refine ⟨fun hb => ?_, fun hb => ?_⟩
  · refine TT_root hI closed_nil g1 fun w2 g3 => ?_
    intro w3 ha
    exact ⟨b, rfl, x, σ', g3.keep fun q hq => ha.block q (.inr hq), g2⟩
  · intro w3 ha
    have hb : b = false := hb
    subst hb
    have hx : x = s.ref := by cases g2; rfl
    subst hx
    exact ⟨false, rfl, s.ref, σ', g1.keep fun q hq => ha.block q (.inr hq), g2⟩

def eEB (I : GI E A) : Enc := eTup2 I.eE eBool
theorem Drop_g (hI : I.Ty) (hG : I.Trees3) (e : E) {s : BT E} (hs : I.Rep σ.look s) (hnd : s.refs.Nodup) (hsz : s.size < 144115188075855872) :
    I.GR t p s.ref n n σ I.gDrop [pa t 0, I.tE.val e] (eEB I) fun (x : E × Bool) r' σ' => DropR I σ σ' s e (r', x.1, x.2) := by
  intro F w hGA
  refine (hG.Drop t e).spec hI.pool.good.ok hI.pool.good.mix hGA.lt ?_
  unfold DropT
  refine TT_loadS_ld (x := s.ref) (ld_root hI hGA) ?_
  refine TT_call0 (H := eTup3 eRef I.eE eBool) (X := fun (x : Rf × E × Bool) F1 w1 => ∃ σ', I.GAt t p s.ref σ' n F1 w1 ∧ DropR I σ σ' s e x) closed_nil hGA.lt (fun w' hk hs' => drop_g hI hG.base e hs hnd hsz F w' (hGA.keep hk)) ?_
  rintro x F1 w1 ⟨σ', g1, g2⟩ hlt hnew hsz'
  refine TT_root hI closed_nil g1 fun w2 g3 => ?_
  intro w3 ha
  exact ⟨(x.2.1, x.2.2), rfl, x.1, σ', g3.keep fun q hq => ha.block q (.inr hq), g2⟩

theorem GR.same {f : FuncId} {args : List Value} {H : Enc} {Q : H.T → Pool (Nd E A) → Prop} (h : I.GS t p r0 n n' σ f args H Q) : I.GR t p r0 n n' σ f args H fun x r' σ' => r' = r0 ∧ Q x σ' :=
  fun F w hG => (h F w hG).mono fun v F1 w1 _ ⟨x, hx, σ', h1, h2⟩ => ⟨x, hx, r0, σ', h1, rfl, h2⟩

/-- The look at the root, in a function that leaves it. -/
theorem GT.root {B : Nat} {Γ : List Again} {H : Enc} {Q : H.T → Pool (Nd E A) → Prop} {k : Rf → Tree} (hI : I.Ty) (hΓ : ClosedΓ B Γ) (h : I.GT t p r0 n n' B Γ H Q (k r0) σ) : I.GT t p r0 n n' B Γ H Q (.prim (Instr.loadAt I.tRef (pa t 1)) [] eRef k) σ :=
  fun F w hG => TT_prim_ld hΓ hG.lt (ld_root hI hG) (h F w hG)

theorem len_g (hI : I.Ty) (hG : I.Trees3) {s : BT E} (hs : I.Rep σ.look s) : I.GS t p s.ref n n σ I.gLen [pa t 0] eInt fun x σ' => x = (s.size : Int) ∧ Tch σ σ' No 1 0 := by
  refine GS.of hI (hG.len t) (fun B => ?_)
  unfold lenT
  refine GT.root hI closed_nil ?_
  refine GT.call closed_nil (get_g hI hG.base.base hs) ?_
  rintro x σ1 ⟨rfl, h1⟩
  exact GT.ret (H := eInt) (s.size : Int) (by rw [ndOf_size]; rfl) ⟨rfl, h1⟩

theorem visits_g (hI : I.Ty) (hG : I.Trees3) : I.GS t p r0 n n σ I.gVisits [pa t 0] eInt fun x σ' => x = σ.visits ∧ σ' = σ := by
  refine GS.of hI (hG.visits t) (fun B => ?_)
  unfold visitsT
  intro F w hGA
  have hG0 := hGA
  obtain ⟨Fp, rfl, h1, ⟨h2, hx1, hx2, hx3⟩, h3⟩ := hGA
  refine TT_prim_ld (x := p.p) closed_nil hG0.lt (ld_one (cs := headC p.p r0) (.inr (.inl rfl)) h2 hI.aTP rfl) ?_
  refine TT_call (H := eInt) (F := Fp) (G := fun b => b = t ∨ p.G b) (X := fun x F1 w1 => x = σ.visits ∧ F1 = Fp ∧ PoolAt I.pool p.p σ F1 w1) closed_nil (fun b => Iff.rfl) hG0.lt (fun b hb => by
    rcases hb with rfl | hb
    · exact head_not hI h1 h2
    · exact hx2 b hb)
    (fun w' hk' _ => (visits_spec hI.pool hI.poolF (h1.keep fun b hb => hk' b (.inl hb))).mono fun v F1 w1 _ ⟨a, b, c⟩ => ⟨σ.visits, a, rfl, b, b ▸ c⟩) ?_
  rintro x F1 w1 ⟨rfl, rfl, g1⟩ hlt hnew hGk hsz
  refine ⟨by rw [lam_cut_nil]; exact lam_none_ok, ?_⟩
  rw [lam_cut_nil]
  refine GT.ret (Q := fun x σ' => x = σ.visits ∧ σ' = σ) (H := eInt) (I := I) (t := t) (p := p) (r0 := r0) (n := n) (Γ := []) σ.visits rfl ⟨rfl, rfl⟩ _ w1 ⟨F1, rfl, g1, ⟨by rw [hGk t (.inl rfl)]; exact h2, hx1, hx2, p.stab w w1 (fun b hb => hGk b (.inr hb)) hx3⟩, h3⟩

theorem loop_closed {B : Nat} {L : Type} {emb : L → List SV} {Inv : L → Pool (Nd E A) → Prop} {μ : L → Nat} {l : L} : ClosedΓ B [fun vals S2 w2 => ∃ l', vals = emb l' ∧ (∃ σ2, I.GAt t p r0 σ2 n S2 w2 ∧ Inv l' σ2) ∧ μ l' < μ l] := by
  intro A hA vals S w w' h ha
  simp only [List.mem_singleton] at hA
  subst hA
  obtain ⟨l', h1, ⟨σ2, h2, h3⟩, h4⟩ := h
  exact ⟨l', h1, ⟨σ2, h2.keep fun b hb => ha.block b (.inr hb), h3⟩, h4⟩
/-- A loop that goes down a tree. -/
theorem GT.loop {B : Nat} {H : Enc} {Q : H.T → Pool (Nd E A) → Prop} {L : Type} {emb : L → List SV} {body : L → Tree} {init : List SV} (Inv : L → Pool (Nd E A) → Prop) (μ : L → Nat) (l0 : L) (hi : init = emb l0) (h0 : Inv l0 σ)
    (hb : ∀ Γ l σ1, Inv l σ1 → ClosedΓ B Γ → (∀ l' σ2 vals, vals = emb l' → Inv l' σ2 → μ l' < μ l → I.GT t p r0 n n' B Γ H Q (.again 0 vals) σ2) → I.GT t p r0 n n' B Γ H Q (body l) σ1) : I.GT t p r0 n n' B [] H Q (.loop init L emb body) σ := fun F w hG => by
  refine ⟨fun l S w => ∃ σ2, I.GAt t p r0 σ2 n S w ∧ Inv l σ2, fun l _ _ => μ l, ?_, ⟨l0, hi, σ, hG, h0⟩, ?_⟩
  · rintro l S w w' ⟨σ2, h1, h2⟩ ha
    exact ⟨⟨σ2, h1.keep fun b hb => ha.block b (.inr hb), h2⟩, rfl⟩
  · rintro l S1 w1 ⟨σ2, h1, h2⟩ _
    exact hb _ l σ2 h2 loop_closed (fun l' σ3 vals hv hi hm F w hG => ⟨_, rfl, l', hv, ⟨σ3, hG, hi⟩, hm⟩) S1 w1 h1
def optE (I : GI E A) (x : Option E) : E × Bool := match x with
  | some e => (e, true)
  | none => (I.zE, false)

theorem Find_g (hI : I.Ty) (hG : I.Trees3) (e : E) {s : BT E} (hs : I.Rep σ.look s) : I.GS t p s.ref n n σ I.gFind [pa t 0, I.tE.val e] (eEB I) fun (x : E × Bool) σ' => x = optE I (s.find I.cmp e) ∧ Tch σ σ' No s.height 0 := by
  refine GS.ok fun hO hv hn => GS.of hI (hG.Find t e) (fun B => ?_)
  unfold findT
  refine GT.root hI closed_nil ?_
  refine GT.loop (fun s' σ' => I.Rep σ'.look s' ∧ s'.find I.cmp e = s.find I.cmp e ∧ ∃ k, k + s'.height ≤ s.height ∧ Tch σ σ' No k 0) BT.size s rfl ⟨hs, rfl, 0, by omega, Tch.refl hv _ _⟩ ?_
  rintro Γ s' σ1 ⟨k1, k2, k, k3, k4⟩ hcl hag
  refine GT.ite (fun hb => ?_) (fun hb => ?_)
  · have hb : ¬ s'.ref.gen = 0 := by simpa using hb
    cases s' with
    | nil => exact absurd rfl hb
    | node r l f h =>
    refine GT.call hcl (get_g hI hG.base.base k1) ?_
    rintro x σ2 ⟨rfl, h2⟩
    have h12 := (k4.trans h2).no2
    have hr2 := h2.rep k1 No.rep
    simp only [BT.height] at k3
    refine GT.ite (fun hb => ?_) (fun hb => ?_)
    · have hc : I.cmp e f = 0 := eq_of_beq hb
      refine GT.ret (H := eEB I) (f, true) rfl ⟨?_, h12.mono (fun _ h => h) (by omega) (by omega)⟩
      rw [← k2, BT.find, if_pos hc]; rfl
    · have hc : ¬ I.cmp e f = 0 := fun hh => by rw [show (I.cmp e (I.ndOf (BT.node r l f h)).e == 0) = true from beq_iff_eq.2 hh] at hb; cases hb
      refine GT.ite (fun hb2 => ?_) (fun hb2 => ?_)
      · have hc2 : I.cmp e f < 0 := of_decide_eq_true hb2
        exact hag (l) _ _ rfl ⟨hr2.2.2.1, by rw [← k2, BT.find, if_neg hc, if_pos hc2], k + 1, by omega, h12⟩ (by simp only [BT.size]; omega)
      · have hc2 : ¬ I.cmp e f < 0 := of_decide_eq_false hb2
        exact hag (h) _ _ rfl ⟨hr2.2.2.2, by rw [← k2, BT.find, if_neg hc, if_neg hc2], k + 1, by omega, h12⟩ (by simp only [BT.size]; omega)
  · have hb : s'.ref.gen = 0 := by simpa using hb
    obtain rfl := (Rep.ref_gen I k1).1 hb
    refine GT.ret (H := eEB I) (I.zE, false) rfl ⟨?_, k4.mono (fun _ h => h) (by omega) rfl⟩
    rw [← k2]; rfl

theorem Rank_g (hI : I.Ty) (hG : I.Trees3) (e : E) {s : BT E} (hs : I.Rep σ.look s) (hsz : s.size < 144115188075855872) : I.GS t p s.ref n n σ I.gRank [pa t 0, I.tE.val e] eInt fun x σ' => x = (s.rank I.cmp e : Int) ∧ Tch σ σ' No (2 * s.height) 0 := by
  refine GS.ok fun hO hv hn => GS.of hI (hG.Rank t e) (fun B => ?_)
  unfold rankT
  refine GT.root hI closed_nil ?_
  refine GT.loop (fun x σ' => I.Rep σ'.look x.2 ∧ 0 ≤ x.1 ∧ x.1 + (x.2.size : Int) ≤ s.size ∧ x.1 + (x.2.rank I.cmp e : Int) = s.rank I.cmp e ∧ ∃ k, k + 2 * x.2.height ≤ 2 * s.height ∧ Tch σ σ' No k 0) (fun x => x.2.size) ((0 : Int), s) rfl ⟨hs, by simp, by simp, by simp, 0, by simp, Tch.refl hv _ _⟩ ?_
  rintro Γ ⟨i, s'⟩ σ1 ⟨k1, k0, k5, k2, k, k3, k4⟩ hcl hag
  simp only at k1 k0 k5 k2 k3 hag
  refine GT.ite (fun hb => ?_) (fun hb => ?_)
  · have hb : ¬ s'.ref.gen = 0 := by simpa using hb
    cases s' with
    | nil => exact absurd rfl hb
    | node r l f h =>
    refine GT.call hcl (get_g hI hG.base.base k1) ?_
    rintro x σ2 ⟨rfl, h2⟩
    have h12 := (k4.trans h2).no2
    have hr2 := h2.rep k1 No.rep
    simp only [BT.height] at k3
    simp only [BT.size] at k5
    refine GT.ite (fun hb => ?_) (fun hb => ?_)
    · have hc : I.cmp e f ≤ 0 := of_decide_eq_true hb
      exact hag (i, l) _ _ rfl ⟨hr2.2.2.1, k0, by simp only; omega, by rw [← k2, BT.rank, if_pos hc], k + 1, by simp only; omega, h12⟩ (by simp only [BT.size]; omega)
    · have hc : ¬ I.cmp e f ≤ 0 := of_decide_eq_false hb
      refine GT.call hcl (weight_g hI hG.base.base (s := l) hr2.2.2.1 (by omega)) ?_
      rintro x σ3 ⟨rfl, h3⟩
      have h13 := (h12.trans h3).no2
      have hw : l.w = l.size + 1 := rfl
      have hwr : wr (i + (l.w : Int)) = i + (l.w : Int) := wr_id (by omega) (by omega)
      rw [hwr]
      exact hag (i + (l.w : Int), h) _ _ rfl ⟨h3.rep hr2.2.2.2 No.rep, by simp only; omega, by simp only; omega, by rw [← k2, BT.rank, if_neg hc]; simp only; omega, k + 2, by simp only; omega, h13⟩ (by simp only [BT.size]; omega)
  · have hb : s'.ref.gen = 0 := by simpa using hb
    obtain rfl := (Rep.ref_gen I k1).1 hb
    refine GT.ret (H := eInt) i rfl ⟨?_, k4.mono (fun _ h => h) (by omega) rfl⟩
    have : i = (BT.rank I.cmp e s : Int) := by simpa [BT.rank] using k2
    exact this
end GI
end Go.Sx
