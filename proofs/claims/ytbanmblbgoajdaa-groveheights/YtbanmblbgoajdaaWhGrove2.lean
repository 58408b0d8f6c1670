import Derived.Test.YtbanmblbgoajdaaWhGrove1
import Derived.Test.YtbanmblbgoajdaaWhBT
set_option linter.unusedVariables false
set_option maxHeartbeats 1000000
namespace Go.Sx
open Go.RowKit

theorem wr_wr (a b : Int) : wr (wr a + b) = wr (a + b) := by
  unfold wr IntKind.wrap
  simp only [IntKind.bits, IntKind.signed]
  simp
  omega

/-- A call where nothing is looked at ahead. -/
theorem TT_callN {P : Program} {B : Nat} {R : Value → BS → World → Prop} {Γ : List Again} {S : BS} {w : World} {f : FuncId} {args : List Value} {keep : List Nat} {H : Enc} {k : H.T → Tree} {X : H.T → BS → World → Prop} (hΓ : ClosedΓ B Γ) (hS : ∀ b, S b → b < w.heap.size)
    (hsp : ∀ w', (∀ b, S b → w'.heap[b]? = w.heap[b]?) → w.heap.size ≤ w'.heap.size → Spec P f args S w' fun v F1 w1 => ∃ x, v = H.enc x ∧ X x F1 w1)
    (hk : ∀ x F1 w1, X x F1 w1 → (∀ b, F1 b → b < w1.heap.size) → (∀ b, F1 b → S b ∨ w.heap.size ≤ b) → w.heap.size ≤ w1.heap.size → TT P B R (k x) Γ Lam.none F1 w1) :
    TT P B R (.call f args.toArray keep H k) Γ Lam.none S w := by
  have h0 := hsp w (fun _ _ => rfl) (Nat.le_refl _)
  have hcut : Lam.none.cut keep = Lam.none := by funext d m v; simp [Lam.cut, Lam.none]
  refine ⟨h0.1, fun w' ha => ?_⟩
  have h1 := hsp w' (fun b hb => ha.block b (.inr hb)) ha.size
  refine h1.2.mono ?_
  rintro e w1 ⟨v, F1, rfl, hst, x, rfl, hX⟩
  refine ⟨x, F1, rfl, hst, by rw [hcut]; exact lam_none_ok, ?_⟩
  rw [hcut]
  exact hk x F1 w1 hX hst.lt (fun b hb => by
    rcases hst.new b hb with h | h
    · exact .inl h
    · exact .inr (Nat.le_trans ha.size h)) (Nat.le_trans ha.size hst.fr.size)

namespace GI
variable {E A : Type} (I : GI E A)

def bsum : BT E → A
  | .nil => I.zA
  | .node _ l e h => I.plus (I.plus (bsum l) (I.sum e)) (bsum h)
def ndOf : BT E → Nd E A
  | .nil => I.zN
  | .node r l e h => ⟨e, l.ref, h.ref, ((BT.node r l e h).size : Int), I.bsum (.node r l e h)⟩
def Rep (L : Rf → Option (Nd E A)) : BT E → Prop
  | .nil => True
  | .node r l e h => L r = some (I.ndOf (.node r l e h)) ∧ r.gen ≠ 0 ∧ Rep L l ∧ Rep L h

theorem ndOf_size (t : BT E) : (I.ndOf t).size = (t.size : Int) := by cases t <;> rfl
theorem ndOf_sum (t : BT E) : (I.ndOf t).sum = I.bsum t := by cases t <;> rfl

theorem Rep.keep {L L' : Rf → Option (Nd E A)} : ∀ {t : BT E}, I.Rep L t → (∀ r ∈ t.refs, L' r = L r) → I.Rep L' t
  | .nil, _, _ => trivial
  | .node r l e h, ⟨h1, h2, h3, h4⟩, hk => ⟨by rw [hk r (by simp [BT.refs])]; exact h1, h2, Rep.keep h3 fun r' hr => hk r' (by simp [BT.refs, hr]), Rep.keep h4 fun r' hr => hk r' (by simp [BT.refs, hr])⟩
theorem Rep.ref_gen {L : Rf → Option (Nd E A)} {t : BT E} (h : I.Rep L t) : t.ref.gen = 0 ↔ t = .nil := by
  cases t with
  | nil => simp [BT.ref]
  | node r l e g => simp [BT.ref, h.2.1]

structure Ty (I : GI E A) : Prop where
  pool : I.pool.Ty
  poolF : I.pool.Trees
  aRef : isAggT I.P I.tRef = some true
  sRef : sizeT I.P I.tRef = some 2
  aTP : isAggT I.P I.tPoolP = some false
  d1 : I.tTree ≠ I.tP
  d2 : I.tTree ≠ I.tC
  d3 : I.tTree ≠ I.tI

structure Trees (I : GI E A) : Prop where
  get : ∀ t r, FnT I.cfg I.gGet [pa t 0, ar r] (I.getT t r)
  lay : ∀ t r l h, FnT I.cfg I.gLay [pa t 0, ar r, ar l, ar h] (I.layT t r l h)
  weight : ∀ t r, FnT I.cfg I.gWeight [pa t 0, ar r] (I.weightT t r)
  turnL : ∀ t r, FnT I.cfg I.gTurnL [pa t 0, ar r] (I.turnLT t r)
  turnR : ∀ t r, FnT I.cfg I.gTurnR [pa t 0, ar r] (I.turnRT t r)
  balance : ∀ t r, FnT I.cfg I.gBalance [pa t 0, ar r] (I.balanceT t r)
  link : ∀ t l m h, FnT I.cfg I.gLink [pa t 0, ar l, ar m, ar h] (I.linkT t l m h)

def headC (p : Nat) (r0 : Rf) : List Value := [pa p 0, iV r0.ix, iV r0.gen]
/-- Where the pool is; what else is kept beside it. -/
structure Px where
  p : Nat
  G : BS
  K : World → Prop
  stab : ∀ w w' : World, (∀ b, G b → w'.heap[b]? = w.heap[b]?) → K w → K w'
  lt : ∀ w, K w → ∀ b, G b → b < w.heap.size
/-- Nothing beside it. -/
def px (p : Nat) : Px := ⟨p, fun _ => False, fun _ => True, fun _ _ _ h => h, fun _ _ _ h => h.elim⟩
/-- A tree's head at t, with its pool at p. -/
def GAt (t : Nat) (p : Px) (r0 : Rf) (σ : Pool (Nd E A)) (n : Nat) (F : BS) (w : World) : Prop :=
  ∃ Fp, F = (fun b => Fp b ∨ b = t ∨ p.G b) ∧ PoolAt I.pool p.p σ Fp w ∧ (w.heap[t]? = some (.cells (headC p.p r0).toArray I.tTree (0, 0)) ∧ ¬ p.G t ∧ (∀ b, p.G b → ¬ Fp b) ∧ p.K w) ∧ σ.Ok n ∧ n < 4294967296 ∧ wr σ.visits = σ.visits

section
variable {I} {t q : Nat} {p : Px} {r0 : Rf} {σ σ' σ2 : Pool (Nd E A)} {n : Nat} {F : BS} {w w1 : World}

theorem GAt.keep (h : I.GAt t p r0 σ n F w) (hb : ∀ b, F b → w1.heap[b]? = w.heap[b]?) : I.GAt t p r0 σ n F w1 := by
  obtain ⟨Fp, rfl, h1, h2, h3⟩ := h
  exact ⟨Fp, rfl, h1.keep fun b hb' => hb b (.inl hb'), ⟨by rw [hb t (.inr (.inl rfl))]; exact h2.1, h2.2.1, h2.2.2.1, p.stab w w1 (fun b hb' => hb b (.inr (.inr hb'))) h2.2.2.2⟩, h3⟩
theorem GAt.lt (h : I.GAt t p r0 σ n F w) : ∀ b, F b → b < w.heap.size := by
  obtain ⟨Fp, rfl, h1, h2, h3⟩ := h
  rintro b (hb | rfl | hb)
  · exact h1.lt b hb
  · exact heap_lt h2.1
  · exact p.lt w h2.2.2.2 b hb
theorem PoolAt.ty {Fp : BS} (h : PoolAt I.pool q σ Fp w) {b : Nat} (hb : Fp b) : ∃ cs ty, w.heap[b]? = some (.cells cs ty (0, 0)) ∧ (ty = I.tP ∨ ty = I.tC ∨ ty = I.tI) := by
  obtain ⟨sc, sf, rfl, hX⟩ := h
  rcases hb with rfl | hb | hb
  · exact ⟨_, _, hX.blk, .inl rfl⟩
  · obtain ⟨cur, hc⟩ := hX.cells.typed hb; exact ⟨_, _, hc, .inr (.inl rfl)⟩
  · obtain ⟨cur, hc⟩ := hX.free.typed hb; exact ⟨_, _, hc, .inr (.inr rfl)⟩
theorem head_not (hI : I.Ty) {Fp : BS} (h : PoolAt I.pool q σ Fp w) (ht : w.heap[t]? = some (.cells (headC q r0).toArray I.tTree (0, 0))) : ¬ Fp t := fun hb => by
  obtain ⟨cs, ty, h1, h2⟩ := PoolAt.ty h hb
  rw [ht] at h1; injection h1 with h1; injection h1 with _ h1
  rcases h2 with h2 | h2 | h2
  · exact hI.d1 (h1.trans h2)
  · exact hI.d2 (h1.trans h2)
  · exact hI.d3 (h1.trans h2)

/-- What a function does to the pool, whatever the world. -/
def GS (I : GI E A) (t : Nat) (p : Px) (r0 : Rf) (n n' : Nat) (σ : Pool (Nd E A)) (f : FuncId) (args : List Value) (H : Enc) (Q : H.T → Pool (Nd E A) → Prop) : Prop :=
  ∀ F w, I.GAt t p r0 σ n F w → Spec I.P f args F w fun v F1 w1 => ∃ x, v = H.enc x ∧ ∃ σ', I.GAt t p r0 σ' n' F1 w1 ∧ Q x σ'
def GT (I : GI E A) (t : Nat) (p : Px) (r0 : Rf) (n n' : Nat) (B : Nat) (Γ : List Again) (H : Enc) (Q : H.T → Pool (Nd E A) → Prop) (T : Tree) (σ : Pool (Nd E A)) : Prop :=
  ∀ F w, I.GAt t p r0 σ n F w → TT I.P B (fun v F1 w1 => ∃ x, v = H.enc x ∧ ∃ σ', I.GAt t p r0 σ' n' F1 w1 ∧ Q x σ') T Γ Lam.none F w

variable {n' n1 : Nat}
theorem GS.of {f : FuncId} {args : List Value} {H : Enc} {Q : H.T → Pool (Nd E A) → Prop} {T : Tree} (hI : I.Ty) (hf : FnT I.cfg f args T) (h : ∀ B, I.GT t p r0 n n' B [] H Q T σ) : I.GS t p r0 n n' σ f args H Q :=
  fun F w hG => hf.spec hI.pool.good.ok hI.pool.good.mix hG.lt (h _ F w hG)
theorem GS.mono {f : FuncId} {args : List Value} {H : Enc} {Q Q' : H.T → Pool (Nd E A) → Prop} (h : I.GS t p r0 n n' σ f args H Q) (hq : ∀ x σ', Q x σ' → Q' x σ') : I.GS t p r0 n n' σ f args H Q' :=
  fun F w hG => (h F w hG).mono fun v F1 w1 _ ⟨x, hx, σ', h1, h2⟩ => ⟨x, hx, σ', h1, hq _ _ h2⟩

section
variable {B : Nat} {Γ : List Again} {H : Enc} {Q : H.T → Pool (Nd E A) → Prop}
theorem GAt.up (h : I.GAt t p r0 σ n F w) (hn : n ≤ n') (hn' : n' < 4294967296) : I.GAt t p r0 σ n' F w := by
  obtain ⟨Fp, rfl, h1, h2, h3, h4, h5⟩ := h
  exact ⟨Fp, rfl, h1, h2, ⟨Nat.le_trans h3.len hn, h3.free, h3.nodup, h3.gen, h3.held, h3.room, h3.cap0, h3.cap, h3.le⟩, hn', h5⟩
theorem GT.up (hn : n ≤ n1) (hn' : n1 < 4294967296) {T : Tree} (h : I.GT t p r0 n1 n' B Γ H Q T σ) : I.GT t p r0 n n' B Γ H Q T σ := fun F w hG => h F w (hG.up hn hn')
theorem GT.ret (x : H.T) {v : Value} (hv : v = H.enc x) (hQ : Q x σ) : I.GT t p r0 n n B Γ H Q (.ret v) σ :=
  fun F w hG w2 ha => ⟨x, hv, σ, hG.keep fun b hb => ha.block b (.inr hb), hQ⟩
theorem GT.ite {b : Bool} {T1 T2 : Tree} (h1 : b = true → I.GT t p r0 n n' B Γ H Q T1 σ) (h2 : b = false → I.GT t p r0 n n' B Γ H Q T2 σ) : I.GT t p r0 n n' B Γ H Q (.ite b T1 T2) σ :=
  fun F w hG => ⟨fun hb => h1 hb F w hG, fun hb => h2 hb F w hG⟩
theorem GT.endS {T : Tree} (h : I.GT t p r0 n n' B Γ H Q T σ) : I.GT t p r0 n n' B Γ H Q (.endS T) σ := fun F w hG => h F w hG
theorem GT.call {f : FuncId} {args : List Value} {keep : List Nat} {H1 : Enc} {Q1 : H1.T → Pool (Nd E A) → Prop} {k : H1.T → Tree} (hΓ : ClosedΓ B Γ) (hs : I.GS t p r0 n n1 σ f args H1 Q1) (hk : ∀ x σ', Q1 x σ' → I.GT t p r0 n1 n' B Γ H Q (k x) σ') :
    I.GT t p r0 n n' B Γ H Q (.call f args.toArray keep H1 k) σ := fun F w hG =>
  TT_callN hΓ hG.lt (fun w' hk' _ => hs F w' (hG.keep hk')) fun x F1 w1 ⟨σ', h1, h2⟩ _ _ _ => hk x σ' h2 F1 w1 h1
theorem GT.callR {f : FuncId} {args : List Value} {keep : List Nat} {Q1 : Rf → Pool (Nd E A) → Prop} {k : Rf → Tree} (hΓ : ClosedΓ B Γ) (hs : I.GS t p r0 n n1 σ f args eRef Q1) (hk : ∀ (x : Rf) σ', Q1 x σ' → I.GT t p r0 n1 n' B Γ H Q (k x) σ') :
    I.GT t p r0 n n' B Γ H Q (.call f args.toArray keep eRef k) σ := GT.call hΓ hs hk

/-- A call of the pool's, behind the look at where it lies. -/
theorem GT.pcall {d : Nat} {f : FuncId} {args : Nat → List Value} {H1 : Enc} {X : H1.T → Pool (Nd E A) → Prop} {k : H1.T → Tree} (hI : I.Ty) (hΓ : ClosedΓ B Γ) (hn1 : n1 < 4294967296)
    (hs : ∀ Fp w', PoolAt I.pool p.p σ Fp w' → Spec I.P f (args p.p) Fp w' fun v F1 w1 => ∃ x, v = H1.enc x ∧ ∃ σ', PoolAt I.pool p.p σ' F1 w1 ∧ X x σ' ∧ σ'.Ok n1 ∧ wr σ'.visits = σ'.visits)
    (hk : ∀ x σ', X x σ' → I.GT t p r0 n1 n' B Γ H Q (k x) σ') :
    I.GT t p r0 n n' B Γ H Q (.loadS d (Instr.loadAt I.tPoolP (pa t 0)) eBlk fun (q : Nat) => .call f (args q).toArray [] H1 k) σ := fun F w hG => by
  obtain ⟨Fp, rfl, h1, ⟨h2, hx1, hx2, hx3⟩, h3, h4, h5⟩ := hG
  have hG : I.GAt t p r0 σ n (fun b => Fp b ∨ b = t ∨ p.G b) w := ⟨Fp, rfl, h1, ⟨h2, hx1, hx2, hx3⟩, h3, h4, h5⟩
  refine TT_loadS_ld (x := p.p) (ld_one (cs := headC p.p r0) (.inr (.inl rfl)) h2 hI.aTP rfl) ?_
  refine TT_call (F := Fp) (G := fun b => b = t ∨ p.G b) (X := fun x F1 w1 => ∃ σ', PoolAt I.pool p.p σ' F1 w1 ∧ X x σ' ∧ σ'.Ok n1 ∧ wr σ'.visits = σ'.visits) hΓ (fun b => Iff.rfl) hG.lt (fun b hb => by
    rcases hb with rfl | hb
    · exact head_not hI h1 h2
    · exact hx2 b hb) (fun w' hk' _ => hs Fp w' (h1.keep fun b hb => hk' b (.inl hb))) ?_
  rintro x F1 w1 ⟨σ', g1, g2, g3, g5⟩ hlt hnew hGk hsz
  refine ⟨by rw [lam_cut_nil]; exact lam_none_ok, ?_⟩
  rw [lam_cut_nil]
  refine hk x σ' g2 _ w1 ⟨F1, rfl, g1, ⟨by rw [hGk t (.inl rfl)]; exact h2, hx1, fun b hb hF => ?_, p.stab w w1 (fun b hb => hGk b (.inr hb)) hx3⟩, g3, hn1, g5⟩
  rcases hnew b hF with h | h
  · exact hx2 b hb h
  · exact Nat.lt_irrefl _ (Nat.lt_of_lt_of_le (p.lt w hx3 b hb) h)
end

theorem GS.ok {f : FuncId} {args : List Value} {H : Enc} {Q : H.T → Pool (Nd E A) → Prop} (h : σ.Ok n → wr σ.visits = σ.visits → n < 4294967296 → I.GS t p r0 n n' σ f args H Q) : I.GS t p r0 n n' σ f args H Q := fun F w hGA => by
  obtain ⟨Fp, rfl, h1, h2, h3, h4, h5⟩ := hGA
  exact h h3 h5 h4 _ w ⟨Fp, rfl, h1, h2, h3, h4, h5⟩
theorem GT.ok {B : Nat} {Γ : List Again} {H : Enc} {Q : H.T → Pool (Nd E A) → Prop} {T : Tree} (h : σ.Ok n → wr σ.visits = σ.visits → n < 4294967296 → I.GT t p r0 n n' B Γ H Q T σ) : I.GT t p r0 n n' B Γ H Q T σ := fun F w hGA => by
  obtain ⟨Fp, rfl, h1, h2, h3, h4, h5⟩ := hGA
  exact h h3 h5 h4 _ w ⟨Fp, rfl, h1, h2, h3, h4, h5⟩

/-- What has been touched; how much was visited. -/
structure Tch (σ σ' : Pool (Nd E A)) (D : Rf → Prop) (c : Nat) (dh : Int) : Prop where
  look : ∀ r, ¬ D r → σ'.look r = σ.look r
  vis : ∃ k : Nat, k ≤ c ∧ σ'.visits = wr (σ.visits + k)
  held : σ'.held = σ.held + dh
  cap : σ'.cap = σ.cap

theorem Tch.refl (hv : wr σ.visits = σ.visits) (D : Rf → Prop) (c : Nat) : Tch σ σ D c 0 := ⟨fun _ _ => rfl, ⟨0, Nat.zero_le _, by simp [hv]⟩, by simp, rfl⟩
theorem Tch.trans {D D' : Rf → Prop} {c c' : Nat} {d d' : Int} (h : Tch σ σ' D c d) (h' : Tch σ' σ2 D' c' d') : Tch σ σ2 (fun r => D r ∨ D' r) (c + c') (d + d') := by
  obtain ⟨k, hk, hv⟩ := h.vis
  obtain ⟨k', hk', hv'⟩ := h'.vis
  refine ⟨fun r hr => (h'.look r fun hd => hr (.inr hd)).trans (h.look r fun hd => hr (.inl hd)), ⟨k + k', Nat.add_le_add hk hk', ?_⟩, ?_, h'.cap.trans h.cap⟩
  · rw [hv', hv, wr_wr]; congr 1; omega
  · rw [h'.held, h.held]; omega
theorem Tch.mono {D D' : Rf → Prop} {c c' : Nat} {d d' : Int} (h : Tch σ σ' D c d) (hD : ∀ r, D r → D' r) (hc : c ≤ c') (hd : d = d') : Tch σ σ' D' c' d' := by
  subst hd
  obtain ⟨k, hk, hv⟩ := h.vis
  exact ⟨fun r hr => h.look r fun h' => hr (hD r h'), ⟨k, Nat.le_trans hk hc, hv⟩, h.held, h.cap⟩
theorem Tch.rep {D : Rf → Prop} {c : Nat} {d : Int} {s : BT E} (h : Tch σ σ' D c d) (hs : I.Rep σ.look s) (hD : ∀ r ∈ s.refs, ¬ D r) : I.Rep σ'.look s := Rep.keep I hs fun r hr => h.look r (hD r hr)

def No : Rf → Prop := fun _ => False
theorem wr_vis (a : Int) : wr (wr a) = wr a := by have := wr_wr a 0; simpa using this

/-! ### get, weight, lay -/
theorem pget (hI : I.Ty) (hO : σ.Ok n) (hv : wr σ.visits = σ.visits) (r : Rf) (Fp : BS) (w' : World) (h : PoolAt I.pool q σ Fp w') : Spec I.P I.fGet [pa q 0, ar r] Fp w' fun v F1 w1 => ∃ x, v = (eTup2 I.eNd eBool).enc x ∧ ∃ σ', PoolAt I.pool q σ' F1 w1 ∧
    (x.1 = ((σ.look r).getD I.zN) ∧ Tch σ σ' No 1 0) ∧ σ'.Ok n ∧ wr σ'.visits = σ'.visits := by
  refine (get_spec hI.pool hI.poolF h r).mono fun v F1 w1 _ ⟨x, hx, h1, h2, h3⟩ => ?_
  subst h2
  have hz : I.pool.z = I.zN := rfl
  cases hl : σ.look r with
  | none =>
    rw [Pool.get_none hl] at h1 h3
    exact ⟨x, hx, σ, h3, ⟨by rw [h1]; rfl, Tch.refl hv _ _⟩, hO, hv⟩
  | some u =>
    rw [Pool.get_some hl] at h1 h3
    exact ⟨x, hx, _, h3, ⟨by rw [h1]; rfl, ⟨fun _ _ => rfl, ⟨1, Nat.le_refl _, rfl⟩, by simp [Pool.visit], rfl⟩⟩, Pool.visit_ok hO, wr_vis _⟩

theorem rep_get {s : BT E} (hs : I.Rep σ.look s) (hg : ¬ s.ref.gen = 0) : σ.look s.ref = some (I.ndOf s) := by
  cases s with
  | nil => exact absurd rfl hg
  | node r l e h => exact hs.1

/-- Any handle's node. -/
theorem get_raw (hI : I.Ty) (hG : I.Trees) (r : Rf) : I.GS t p r0 n n σ I.gGet [pa t 0, ar r] I.eNd fun x σ' => x = (if r.gen = 0 then I.zN else (σ.look r).getD I.zN) ∧ Tch σ σ' No 1 0 := by
  refine GS.ok fun hO hv hn => ?_
  refine GS.of hI (hG.get t r) (fun B => ?_)
  unfold getT
  refine GT.ite (fun hb => ?_) (fun hb => ?_)
  · have hb : r.gen = 0 := by simpa using hb
    exact GT.ret (H := I.eNd) I.zN rfl ⟨by rw [if_pos hb], Tch.refl hv _ _⟩
  · have hb : ¬ r.gen = 0 := by simpa using hb
    refine GT.pcall (args := fun q => [pa q 0, ar r]) hI closed_nil hn (fun Fp w' h => pget hI hO hv r Fp w' h) ?_
    rintro x σ' ⟨h1, h2⟩
    exact GT.endS (GT.ret (H := I.eNd) x.1 rfl ⟨by rw [h1, if_neg hb], h2⟩)

theorem get_g (hI : I.Ty) (hG : I.Trees) {s : BT E} (hs : I.Rep σ.look s) : I.GS t p r0 n n σ I.gGet [pa t 0, ar s.ref] I.eNd fun x σ' => x = I.ndOf s ∧ Tch σ σ' No 1 0 :=
  (get_raw hI hG s.ref).mono fun x σ' ⟨h1, h2⟩ => ⟨by
    rw [h1]
    by_cases hg : s.ref.gen = 0
    · rw [if_pos hg, (Rep.ref_gen I hs).1 hg]; rfl
    · rw [if_neg hg, rep_get hs hg]; rfl, h2⟩

theorem No.rep {s : BT E} : ∀ r ∈ s.refs, ¬ No r := fun _ _ h => h

theorem weight_g (hI : I.Ty) (hG : I.Trees) {s : BT E} (hs : I.Rep σ.look s) (hsz : s.size < 4611686018427387904) : I.GS t p r0 n n σ I.gWeight [pa t 0, ar s.ref] eInt fun x σ' => x = (s.w : Int) ∧ Tch σ σ' No 1 0 := by
  refine GS.of hI (hG.weight t _) (fun B => ?_)
  refine GT.call closed_nil (get_g hI hG hs) ?_
  rintro x σ' ⟨rfl, h2⟩
  refine GT.ret (H := eInt) (s.w : Int) ?_ ⟨rfl, h2⟩
  rw [ndOf_size, wr_id (by omega) (by omega)]
  simp [eInt, iV, BT.w]
end
end GI
end Go.Sx
