import Derived.Test.YtbanmblbgoajdaaWhGrove4
import Derived.Test.YtbanmblbgoajdaaWhBT2
set_option linter.unusedVariables false
set_option linter.unusedSimpArgs false
set_option maxHeartbeats 2000000
namespace Go.Sx
open Go.RowKit
namespace GI
variable {E A : Type} {I : GI E A} {t q : Nat} {p : Px} {r0 : Rf} {σ σ' σ2 : Pool (Nd E A)} {n n1 n' : Nat} {F : BS} {w w1 : World}

structure Trees2 (I : GI E A) : Prop where
  base : I.Trees
  last : ∀ t r, FnT I.cfg I.gLast [pa t 0, ar r] (I.lastT t r)
  merge : ∀ t l r, FnT I.cfg I.gMerge [pa t 0, ar l, ar r] (I.mergeT t l r)
  put : ∀ t r e, FnT I.cfg I.gput [pa t 0, ar r, I.tE.val e] (I.putT t r e)
  drop : ∀ t r e, FnT I.cfg I.gdrop [pa t 0, ar r, I.tE.val e] (I.dropT t r e)

theorem GT.callP {A' : Type} {B : Nat} {Γ : List Again} {H : Enc} {Q : H.T → Pool (Nd E A) → Prop} {enc : A' → Value} {f : FuncId} {args : List Value} {keep : List Nat} {Q1 : A' → Pool (Nd E A) → Prop} {k : A' → Tree} (hΓ : ClosedΓ B Γ) (hs : I.GS t p r0 n n1 σ f args ⟨A', enc⟩ Q1) (hk : ∀ (x : A') σ', Q1 x σ' → I.GT t p r0 n1 n' B Γ H Q (k x) σ') :
    I.GT t p r0 n n' B Γ H Q (.call f args.toArray keep ⟨A', enc⟩ k) σ := GT.call hΓ hs hk

/-- The last node is parted from the rest. -/
theorem last_g (hI : I.Ty) (hG : I.Trees2) : ∀ {h : BT E} {σ : Pool (Nd E A)} {r : Rf} {l : BT E} {e : E}, I.Rep σ.look (.node r l e h) → (BT.node r l e h).refs.Nodup → (BT.node r l e h).size < 288230376151711744 →
    I.GS t p r0 n n σ I.gLast [pa t 0, ar r] (eTup2 eRef eRef) fun x σ' => x = ((BT.lastN h r l e).1.ref, (BT.lastN h r l e).2.1) ∧ Tch σ σ' (fun x => x ∈ (BT.node r l e h).refs ∧ x ≠ (BT.lastN h r l e).2.1) (BT.lastC h l) 0 ∧ I.Rep σ'.look (BT.lastN h r l e).1 ∧
      (∃ nd, σ'.look (BT.lastN h r l e).2.1 = some nd ∧ nd.e = (BT.lastN h r l e).2.2) ∧ (BT.lastN h r l e).2.1.gen ≠ 0 := by
  intro h
  induction h with
  | nil =>
    intro σ r l e hs hnd hsz
    refine GS.of hI (hG.last t _) (fun B => ?_)
    unfold lastT
    refine GT.call closed_nil (get_g hI hG.base hs) ?_
    rintro x1 σ1 ⟨rfl, h1⟩
    refine GT.ite (fun _ => ?_) (fun hb => absurd hb (by simp [ndOf, BT.ref]))
    refine GT.endS (GT.ret (H := eTup2 eRef eRef) (l.ref, r) rfl ⟨rfl, h1.mono (fun _ h => h.elim) (Nat.le_refl _) rfl, h1.rep hs.2.2.1 No.rep, ⟨_, (h1.look r id).trans hs.1, rfl⟩, hs.2.1⟩)
  | node r2 l2 e2 h2 ihl ih =>
    intro σ r l e hs hnd hsz
    clear ihl
    refine GS.of hI (hG.last t _) (fun B => ?_)
    unfold lastT
    refine GT.call closed_nil (get_g hI hG.base hs) ?_
    rintro x1 σ1 ⟨rfl, h1⟩
    obtain ⟨k1, k2, k3, k4⟩ := h1.rep hs No.rep
    have hnd2 := hnd
    rw [BT.refs_node, List.nodup_append, List.nodup_cons] at hnd2
    obtain ⟨n1, ⟨n2, n3⟩, n4⟩ := hnd2
    refine GT.ite (fun hb => ?_) (fun hb => ?_)
    · have : r2.gen = 0 := by simpa [ndOf, BT.ref] using hb
      exact absurd this k4.2.1
    · have hsz' : l.size + 1 + (BT.node r2 l2 e2 h2).size < 288230376151711744 := hsz
      refine GT.callP closed_nil (ih (r := r2) (l := l2) (e := e2) k4 n3 (by omega)) ?_
      rintro ⟨x2, y2⟩ σ2 ⟨hx, h2', g2, ⟨nd, hl2, hnd2⟩, hgen⟩
      have hx' := hx
      injection hx' with e1 e2
      subst e1 e2
      have hr2 : σ2.look r = some (I.ndOf (.node r l e (.node r2 l2 e2 h2))) := (h2'.look r fun hd => n2 hd.1).trans k1
      have hl2' := h2'.rep k3 fun q hq hd => n4 q hq q (List.mem_cons_of_mem _ hd.1) rfl
      have hrefs := BT.lastN_refs h2 r2 l2 e2
      have hsize := BT.lastN_size h2 r2 l2 e2
      have hmem : ∀ q, q ∈ (BT.lastN h2 r2 l2 e2).1.refs → q ∈ (BT.node r2 l2 e2 h2).refs := fun q hq => by
        rw [BT.refs_node, ← hrefs]; simp [hq]
      have hlm : (BT.lastN h2 r2 l2 e2).2.1 ∈ (BT.node r2 l2 e2 h2).refs := by
        rw [BT.refs_node, ← hrefs]; simp
      have hnd3 : ((BT.lastN h2 r2 l2 e2).1.refs ++ [(BT.lastN h2 r2 l2 e2).2.1]).Nodup := by rw [hrefs, ← BT.refs_node]; exact n3
      rw [List.nodup_append] at hnd3
      have hne : ∀ q, q ∈ (BT.lastN h2 r2 l2 e2).1.refs → q ≠ (BT.lastN h2 r2 l2 e2).2.1 := fun q hq => hnd3.2.2 q hq _ (by simp)
      have hnd4 : (l.refs ++ r :: (BT.lastN h2 r2 l2 e2).1.refs).Nodup := by
        rw [List.nodup_append, List.nodup_cons]
        refine ⟨n1, ⟨fun hm => n2 (hmem _ hm), hnd3.1⟩, fun a ha b hb => ?_⟩
        rcases List.mem_cons.1 hb with hb | hb
        · exact n4 a ha b (by simp [hb])
        · exact n4 a ha b (List.mem_cons_of_mem _ (hmem b hb))
      have hlr : (BT.lastN h2 r2 l2 e2).2.1 ∉ l.refs ++ r :: (BT.lastN h2 r2 l2 e2).1.refs := by
        rw [List.mem_append, List.mem_cons]
        rintro (hm | hm | hm)
        · exact n4 _ hm _ (List.mem_cons_of_mem _ hlm) rfl
        · exact n2 (hm ▸ hlm)
        · exact hne _ hm rfl
      simp only [BT.size] at hsz'
      refine GT.callR closed_nil (link_g hI hG.base _ (Nat.le_refl _) hl2' g2 hr2 k2 hnd4 (by omega)) ?_
      rintro x3 σ3 ⟨hx3, h3, g3⟩
      obtain rfl := hx3.symm
      refine GT.endS (GT.ret (H := eTup2 eRef eRef) (_, _) rfl ⟨rfl, (h1.trans (h2'.trans h3)).mono (fun q hq => ?_) (by simp only [BT.lastC]; omega) rfl, g3, ⟨nd, (h3.look _ hlr).trans hl2, hnd2⟩, hgen⟩)
      simp only [BT.lastN]
      rcases hq with hq | hq | hq
      · exact hq.elim
      · exact ⟨by rw [BT.refs_node]; simp [hq.1], hq.2⟩
      · refine ⟨?_, fun e => hlr (e ▸ hq)⟩
        rw [BT.refs_node]
        rcases List.mem_append.1 hq with hq | hq
        · simp [hq]
        · rcases List.mem_cons.1 hq with hq | hq
          · simp [hq]
          · simp [hmem q hq]

theorem merge_g (hI : I.Ty) (hG : I.Trees2) {a b : BT E} (ha : I.Rep σ.look a) (hb : I.Rep σ.look b) (hnd : (a.refs ++ b.refs).Nodup) (hsz : a.size + b.size < 288230376151711744) :
    I.GS t p r0 n n σ I.gMerge [pa t 0, ar a.ref, ar b.ref] eRef fun x σ' => x = (BT.merge a b).ref ∧ Tch σ σ' (fun x => x ∈ a.refs ++ b.refs) (BT.mergeC a b) 0 ∧ I.Rep σ'.look (BT.merge a b) := by
  refine GS.ok fun hO hv hn => GS.of hI (hG.merge t _ _) (fun B => ?_)
  unfold mergeT
  refine GT.ite (fun hc => ?_) (fun hc => ?_)
  · have hc : a.ref.gen = 0 := by simpa using hc
    obtain rfl := (Rep.ref_gen I ha).1 hc
    exact GT.ret (H := eRef) _ rfl ⟨rfl, Tch.refl hv _ _, hb⟩
  · have hc : ¬ a.ref.gen = 0 := by simpa using hc
    cases a with
    | nil => exact absurd rfl hc
    | node r l e h =>
    refine GT.ite (fun hc2 => ?_) (fun hc2 => ?_)
    · have hc2 : b.ref.gen = 0 := by simpa using hc2
      obtain rfl := (Rep.ref_gen I hb).1 hc2
      exact GT.ret (H := eRef) _ rfl ⟨rfl, Tch.refl hv _ _, ha⟩
    · have hc2 : ¬ b.ref.gen = 0 := by simpa using hc2
      cases b with
      | nil => exact absurd rfl hc2
      | node r2 l2 e2 h2 =>
      have hnd2 := hnd
      rw [List.nodup_append] at hnd2
      obtain ⟨n1, n2, n3⟩ := hnd2
      refine GT.callP closed_nil (last_g hI hG (r := r) (l := l) (e := e) (h := h) ha n1 (by omega)) ?_
      rintro ⟨x2, y2⟩ σ2 ⟨hx, h2', g2, ⟨nd, hl2, hnd2⟩, hgen⟩
      injection hx with e1 e2
      subst e1 e2
      have hrefs := BT.lastN_refs h r l e
      rw [← BT.refs_node] at hrefs
      have hsize := BT.lastN_size h r l e
      simp only [BT.size] at hsz
      have hnd4 : ((BT.lastN h r l e).1.refs ++ (BT.lastN h r l e).2.1 :: (BT.node r2 l2 e2 h2).refs).Nodup := by
        rw [← List.singleton_append, ← List.append_assoc, hrefs]; exact hnd
      refine GT.callR closed_nil (link_g hI hG.base _ (Nat.le_refl _) g2 (h2'.rep hb fun q hq hd => n3 q hd.1 q hq rfl) hl2 hgen hnd4 (by simp only [BT.size]; omega)) ?_
      rintro x3 σ3 ⟨hx3, h3, g3⟩
      obtain rfl := hx3.symm
      rw [hnd2] at g3 ⊢
      refine GT.ret (H := eRef) _ rfl ⟨rfl, (h2'.trans h3).mono (fun q hq => ?_) (by simp only [BT.mergeC]; omega) rfl, g3⟩
      rcases hq with hq | hq
      · exact List.mem_append_left _ hq.1
      · rw [← hrefs, List.append_assoc, List.singleton_append]; exact hq

theorem pput (hI : I.Ty) (hO : σ.Ok n) (hn : n < 4294967296) (hv : wr σ.visits = σ.visits) (v : Nd E A) (Fp : BS) (w' : World) (h : PoolAt I.pool q σ Fp w') : Spec I.P I.fPut [pa q 0, ag (I.nd.enc v)] Fp w' fun u F1 w1 => ∃ x, u = (eTup2 eRef eBool).enc x ∧ ∃ σ', PoolAt I.pool q σ' F1 w1 ∧
    ((σ.held = σ.cap ∧ x = (⟨0, 0⟩, false) ∧ σ' = σ) ∨ (σ.held ≠ σ.cap ∧ x.2 = true ∧ x.1.gen ≠ 0 ∧ σ.look x.1 = none ∧ Tch σ σ' (fun r => r = x.1) 0 1 ∧ σ'.look x.1 = some v)) ∧ σ'.Ok (n + 1) ∧ wr σ'.visits = σ'.visits := by
  refine (put_spec hI.pool hI.poolF h hO hn v).mono fun u F1 w1 _ ⟨x, hx, h1, h3⟩ => ?_
  by_cases hc : σ.held = σ.cap
  · rw [Pool.put_full hc] at h1 h3
    exact ⟨x, hx, σ, h3, .inl ⟨hc, h1, rfl⟩, ⟨Nat.le_trans hO.len (Nat.le_succ _), hO.free, hO.nodup, hO.gen, hO.held, hO.room, hO.cap0, hO.cap, hO.le⟩, hv⟩
  · obtain ⟨a1, a2, a3, a4, a5, a6, a7, a8⟩ := Pool.put_room (z := I.pool.z) (v := v) hc hO
    rw [← h1] at a1 a6 a7 a8
    refine ⟨x, hx, _, h3, .inr ⟨hc, a1, by omega, a7, ⟨fun r' hr => (a8 _).trans (if_neg hr), ⟨0, Nat.le_refl _, by rw [a3]; simp [hv]⟩, a4, a5⟩, (a8 _).trans (if_pos rfl)⟩, a2, by rw [a3]; exact hv⟩

/-- What put comes to. -/
inductive PutR (I : GI E A) (σ σ' : Pool (Nd E A)) (s : BT E) (e : E) : Rf × Bool → Prop
  | old : s.has I.cmp e = true → I.Rep σ'.look (s.ins I.cmp ⟨0, 0⟩ e) → Tch σ σ' (fun x => x ∈ s.refs) (s.insC I.cmp ⟨0, 0⟩ e) 0 → PutR I σ σ' s e ((s.ins I.cmp ⟨0, 0⟩ e).ref, true)
  | full : s.has I.cmp e = false → σ.held = σ.cap → Tch σ σ' No (s.insC I.cmp ⟨0, 0⟩ e) 0 → PutR I σ σ' s e (s.ref, false)
  | new (m : Rf) : s.has I.cmp e = false → σ.held ≠ σ.cap → m.gen ≠ 0 → σ.look m = none → I.Rep σ'.look (s.ins I.cmp m e) → Tch σ σ' (fun x => x ∈ s.refs ∨ x = m) (s.insC I.cmp m e) 1 → PutR I σ σ' s e ((s.ins I.cmp m e).ref, true)

structure Laws (I : GI E A) : Prop where
  one : ∀ e, I.plus (I.plus I.zA (I.sum e)) I.zA = I.sum e

theorem rep_some {L : Rf → Option (Nd E A)} : ∀ {s : BT E}, I.Rep L s → ∀ r ∈ s.refs, ∃ v, L r = some v
  | .nil, _, r, hr => by simp [BT.refs] at hr
  | .node r l e h, ⟨h1, h2, h3, h4⟩, r', hr => by
    rw [BT.refs_node, List.mem_append, List.mem_cons] at hr
    rcases hr with hr | hr | hr
    · exact rep_some h3 r' hr
    · subst hr; exact ⟨_, h1⟩
    · exact rep_some h4 r' hr

theorem put_g (hI : I.Ty) (hG : I.Trees2) (hL : I.Laws) (e : E) (hn1 : n + 1 < 4294967296) : ∀ {s : BT E} {σ : Pool (Nd E A)}, I.Rep σ.look s → s.refs.Nodup → s.size < 144115188075855872 →
    I.GS t p r0 n (n + 1) σ I.gput [pa t 0, ar s.ref, I.tE.val e] (eTup2 eRef eBool) fun x σ' => PutR I σ σ' s e x := by
  intro s
  induction s with
  | nil =>
    intro σ hs hnd hsz
    refine GS.ok fun hO hv hn => GS.of hI (hG.put t _ _) (fun B => ?_)
    unfold putT
    refine GT.ite (fun _ => ?_) (fun hb => absurd hb (by simp [BT.ref]))
    refine GT.pcall (args := fun q => [pa q 0, ag (I.nd.enc ⟨e, ⟨0, 0⟩, ⟨0, 0⟩, 1, I.sum e⟩)]) hI closed_nil hn1 (fun Fp w' h => pput hI hO hn hv _ Fp w' h) ?_
    rintro ⟨x, b⟩ σ1 (⟨hc, hx, rfl⟩ | ⟨hc, hb, hg, hl, h1, h2⟩)
    · injection hx with e1 e2
      subst e1 e2
      exact GT.endS (GT.ret (H := eTup2 eRef eBool) (⟨0, 0⟩, false) rfl (.full rfl hc (Tch.refl hv _ _)))
    · simp only at hb hg hl h1 h2
      subst hb
      refine GT.endS (GT.ret (H := eTup2 eRef eBool) (x, true) rfl (.new x rfl hc hg hl ?_ (h1.mono (fun _ h => .inr h) (Nat.le_refl _) rfl)))
      refine ⟨?_, hg, trivial, trivial⟩
      rw [h2]
      simp only [ndOf, bsum, hL.one]; rfl
  | node r l f h ihl ihh =>
    intro σ hs hnd hsz
    refine GS.of hI (hG.put t _ _) (fun B => ?_)
    unfold putT
    have hnd2 := hnd
    rw [BT.refs_node, List.nodup_append, List.nodup_cons] at hnd2
    obtain ⟨n1, ⟨n2, n3⟩, n4⟩ := hnd2
    simp only [BT.size] at hsz
    have hrl : r ∉ l.refs := fun hm => n4 r hm r List.mem_cons_self rfl
    refine GT.ite (fun hb => absurd hb (by simp [BT.ref, hs.2.1])) (fun _ => ?_)
    refine GT.call closed_nil (get_g hI hG.base hs) ?_
    rintro x1 σ1 ⟨rfl, h1⟩
    obtain ⟨k1, k2, k3, k4⟩ := h1.rep hs No.rep
    refine GT.ite (fun hb => ?_) (fun hb => ?_)
    · have hc : I.cmp e f < 0 := of_decide_eq_true hb
      have hhas : (BT.node r l f h).has I.cmp e = l.has I.cmp e := by rw [BT.has, if_pos hc]
      have hins : ∀ m, (BT.node r l f h).ins I.cmp m e = BT.link (l.ins I.cmp m e) r f h := fun m => by rw [BT.ins, if_pos hc]
      have hC : ∀ m, (BT.node r l f h).insC I.cmp m e = 1 + l.insC I.cmp m e + (6 + 37 * BT.linkD (l.ins I.cmp m e) h) := fun m => by rw [BT.insC, if_pos hc]
      refine GT.callP closed_nil (ihl k3 n1 (by omega)) ?_
      rintro _ σ2 hR
      cases hR with
      | full a1 a2 a3 =>
        refine GT.ite (fun _ => ?_) (fun hb => absurd hb (by simp))
        refine GT.ret (H := eTup2 eRef eBool) (r, false) rfl (.full (by rw [hhas]; exact a1) (by rw [← h1.cap, a2.symm, h1.held]; simp) ((h1.trans a3).no2.mono (fun _ h => h) (by rw [hC]; omega) rfl))
      | old a1 a2 a3 =>
        refine GT.ite (fun hb => absurd hb (by simp)) (fun _ => ?_)
        have hsz2 := BT.ins_size (cmp := I.cmp) (m := ⟨0, 0⟩) (e := e) l
        have hmm : ∀ q, q ∈ (l.ins I.cmp ⟨0, 0⟩ e).refs → q ∈ l.refs := fun q hq => by
          rcases BT.ins_mem I.cmp hq with hq | ⟨_, hq⟩
          · exact hq
          · rw [a1] at hq; cases hq
        have hr2 : σ2.look r = some (I.ndOf (.node r l f h)) := (a3.look r hrl).trans k1
        have hh2 := a3.rep k4 fun q hq hd => n4 q hd q (List.mem_cons_of_mem _ hq) rfl
        have hnd4 : ((l.ins I.cmp ⟨0, 0⟩ e).refs ++ r :: h.refs).Nodup := by
          rw [List.nodup_append, List.nodup_cons]
          exact ⟨BT.ins_nodup I.cmp n1 (by rw [a1]; simp), ⟨n2, n3⟩, fun a ha b hb => n4 a (hmm a ha) b hb⟩
        refine GT.callR closed_nil (link_g hI hG.base _ (Nat.le_refl _) a2 hh2 hr2 k2 hnd4 (by rw [hsz2]; split <;> omega)) ?_
        rintro x3 σ3 ⟨hx3, h3, g3⟩
        obtain rfl := hx3.symm
        have := PutR.old (I := I) (σ := σ) (σ' := σ3) (s := .node r l f h) (e := e) (by rw [hhas]; exact a1) (by rw [hins]; exact g3) ((h1.trans (a3.trans h3)).mono (fun q hq => ?_) (by rw [hC]; omega) rfl)
        · rw [hins] at this
          exact GT.ret (H := eTup2 eRef eBool) (_, true) rfl this
        · rw [BT.refs_node, List.mem_append, List.mem_cons]
          rcases hq with hq | hq | hq
          · exact hq.elim
          · exact .inl hq
          · rcases List.mem_append.1 hq with hq | hq
            · exact .inl (hmm q hq)
            · exact .inr (List.mem_cons.1 hq)
      | new m a1 a2 a3 a4 a5 a6 =>
        refine GT.ite (fun hb => absurd hb (by simp)) (fun _ => ?_)
        have hsz2 := BT.ins_size (cmp := I.cmp) (m := m) (e := e) l
        have hmne : ∀ q v, σ1.look q = some v → q ≠ m := fun q v hq e => by rw [e, a4] at hq; cases hq
        have hrm : r ≠ m := hmne r _ k1
        have hr2 : σ2.look r = some (I.ndOf (.node r l f h)) := (a6.look r (fun hd => hd.elim hrl hrm)).trans k1
        have hhm : ∀ q ∈ h.refs, q ≠ m := fun q hq => by obtain ⟨v, hv⟩ := rep_some k4 q hq; exact hmne q v hv
        have hlm : m ∉ l.refs := fun hm => by obtain ⟨v, hv⟩ := rep_some k3 m hm; rw [a4] at hv; cases hv
        have hh2 := a6.rep k4 fun q hq hd => hd.elim (fun hd => n4 q hd q (List.mem_cons_of_mem _ hq) rfl) (hhm q hq)
        have hnd4 : ((l.ins I.cmp m e).refs ++ r :: h.refs).Nodup := by
          rw [List.nodup_append, List.nodup_cons]
          refine ⟨BT.ins_nodup I.cmp n1 (fun _ => hlm), ⟨n2, n3⟩, fun a ha b hb e => ?_⟩
          subst e
          rcases BT.ins_mem I.cmp ha with ha | ⟨ha, _⟩
          · exact n4 a ha a hb rfl
          · rcases List.mem_cons.1 hb with hb | hb
            · exact hrm (hb ▸ ha)
            · exact hhm a hb ha
        refine GT.callR closed_nil (link_g hI hG.base _ (Nat.le_refl _) a5 hh2 hr2 k2 hnd4 (by rw [hsz2]; split <;> omega)) ?_
        rintro x3 σ3 ⟨hx3, h3, g3⟩
        obtain rfl := hx3.symm
        have := PutR.new (I := I) (σ := σ) (σ' := σ3) (s := .node r l f h) (e := e) m (by rw [hhas]; exact a1) (fun hh => a2 (by rw [h1.held, h1.cap, hh]; simp)) a3 ((h1.look m id).symm.trans a4) (by rw [hins]; exact g3) ((h1.trans (a6.trans h3)).mono (fun q hq => ?_) (by rw [hC]; omega) (by omega))
        · rw [hins] at this
          exact GT.ret (H := eTup2 eRef eBool) (_, true) rfl this
        · rw [BT.refs_node, List.mem_append, List.mem_cons]
          rcases hq with hq | hq | hq
          · exact hq.elim
          · exact hq.imp (fun h => .inl h) id
          · rcases List.mem_append.1 hq with hq | hq
            · exact (BT.ins_mem I.cmp hq).imp (fun h => .inl h) (fun h => h.1)
            · exact .inl (.inr (List.mem_cons.1 hq))
    · have hc : ¬ I.cmp e f < 0 := of_decide_eq_false hb
      refine GT.ite (fun hb2 => ?_) (fun hb2 => ?_)
      · have hc2 : 0 < I.cmp e f := of_decide_eq_true hb2
        have hhas : (BT.node r l f h).has I.cmp e = h.has I.cmp e := by rw [BT.has, if_neg hc, if_pos hc2]
        have hins : ∀ m, (BT.node r l f h).ins I.cmp m e = BT.link l r f (h.ins I.cmp m e) := fun m => by rw [BT.ins, if_neg hc, if_pos hc2]
        have hC : ∀ m, (BT.node r l f h).insC I.cmp m e = 1 + h.insC I.cmp m e + (6 + 37 * BT.linkD l (h.ins I.cmp m e)) := fun m => by rw [BT.insC, if_neg hc, if_pos hc2]
        refine GT.callP closed_nil (ihh k4 n3 (by omega)) ?_
        rintro _ σ2 hR
        cases hR with
        | full a1 a2 a3 =>
          refine GT.ite (fun _ => ?_) (fun hb => absurd hb (by simp))
          refine GT.ret (H := eTup2 eRef eBool) (r, false) rfl (.full (by rw [hhas]; exact a1) (by rw [← h1.cap, a2.symm, h1.held]; simp) ((h1.trans a3).no2.mono (fun _ h => h) (by rw [hC]; omega) rfl))
        | old a1 a2 a3 =>
          refine GT.ite (fun hb => absurd hb (by simp)) (fun _ => ?_)
          have hsz2 := BT.ins_size (cmp := I.cmp) (m := ⟨0, 0⟩) (e := e) h
          have hmm : ∀ q, q ∈ (h.ins I.cmp ⟨0, 0⟩ e).refs → q ∈ h.refs := fun q hq => by
            rcases BT.ins_mem I.cmp hq with hq | ⟨_, hq⟩
            · exact hq
            · rw [a1] at hq; cases hq
          have hr2 : σ2.look r = some (I.ndOf (.node r l f h)) := (a3.look r n2).trans k1
          have hl2 := a3.rep k3 fun q hq hd => n4 q hq q (List.mem_cons_of_mem _ hd) rfl
          have hnd4 : (l.refs ++ r :: (h.ins I.cmp ⟨0, 0⟩ e).refs).Nodup := by
            rw [List.nodup_append, List.nodup_cons]
            refine ⟨n1, ⟨fun hm => n2 (hmm r hm), BT.ins_nodup I.cmp n3 (by rw [a1]; simp)⟩, fun a ha b hb => n4 a ha b ?_⟩
            rcases List.mem_cons.1 hb with hb | hb
            · simp [hb]
            · exact List.mem_cons_of_mem _ (hmm b hb)
          refine GT.callR closed_nil (link_g hI hG.base _ (Nat.le_refl _) hl2 a2 hr2 k2 hnd4 (by rw [hsz2]; split <;> omega)) ?_
          rintro x3 σ3 ⟨hx3, h3, g3⟩
          obtain rfl := hx3.symm
          have := PutR.old (I := I) (σ := σ) (σ' := σ3) (s := .node r l f h) (e := e) (by rw [hhas]; exact a1) (by rw [hins]; exact g3) ((h1.trans (a3.trans h3)).mono (fun q hq => ?_) (by rw [hC]; omega) rfl)
          · rw [hins] at this
            exact GT.ret (H := eTup2 eRef eBool) (_, true) rfl this
          · rw [BT.refs_node, List.mem_append, List.mem_cons]
            rcases hq with hq | hq | hq
            · exact hq.elim
            · exact .inr (.inr hq)
            · rcases List.mem_append.1 hq with hq | hq
              · exact .inl hq
              · exact .inr ((List.mem_cons.1 hq).imp id (hmm q))
        | new m a1 a2 a3 a4 a5 a6 =>
          refine GT.ite (fun hb => absurd hb (by simp)) (fun _ => ?_)
          have hsz2 := BT.ins_size (cmp := I.cmp) (m := m) (e := e) h
          have hmne : ∀ q v, σ1.look q = some v → q ≠ m := fun q v hq e => by rw [e, a4] at hq; cases hq
          have hrm : r ≠ m := hmne r _ k1
          have hr2 : σ2.look r = some (I.ndOf (.node r l f h)) := (a6.look r (fun hd => hd.elim n2 hrm)).trans k1
          have hlm : ∀ q ∈ l.refs, q ≠ m := fun q hq => by obtain ⟨v, hv⟩ := rep_some k3 q hq; exact hmne q v hv
          have hhm : m ∉ h.refs := fun hm => by obtain ⟨v, hv⟩ := rep_some k4 m hm; rw [a4] at hv; cases hv
          have hl2 := a6.rep k3 fun q hq hd => hd.elim (fun hd => n4 q hq q (List.mem_cons_of_mem _ hd) rfl) (hlm q hq)
          have hnd4 : (l.refs ++ r :: (h.ins I.cmp m e).refs).Nodup := by
            rw [List.nodup_append, List.nodup_cons]
            refine ⟨n1, ⟨fun hm => ?_, BT.ins_nodup I.cmp n3 (fun _ => hhm)⟩, fun a ha b hb e => ?_⟩
            · rcases BT.ins_mem I.cmp hm with hm | ⟨hm, _⟩
              · exact n2 hm
              · exact hrm hm
            · subst e
              rcases List.mem_cons.1 hb with hb | hb
              · exact hrl (hb ▸ ha)
              · rcases BT.ins_mem I.cmp hb with hb | ⟨hb, _⟩
                · exact n4 a ha a (List.mem_cons_of_mem _ hb) rfl
                · exact hlm a ha hb
          refine GT.callR closed_nil (link_g hI hG.base _ (Nat.le_refl _) hl2 a5 hr2 k2 hnd4 (by rw [hsz2]; split <;> omega)) ?_
          rintro x3 σ3 ⟨hx3, h3, g3⟩
          obtain rfl := hx3.symm
          have := PutR.new (I := I) (σ := σ) (σ' := σ3) (s := .node r l f h) (e := e) m (by rw [hhas]; exact a1) (fun hh => a2 (by rw [h1.held, h1.cap, hh]; simp)) a3 ((h1.look m id).symm.trans a4) (by rw [hins]; exact g3) ((h1.trans (a6.trans h3)).mono (fun q hq => ?_) (by rw [hC]; omega) (by omega))
          · rw [hins] at this
            exact GT.ret (H := eTup2 eRef eBool) (_, true) rfl this
          · rw [BT.refs_node, List.mem_append, List.mem_cons]
            rcases hq with hq | hq | hq
            · exact hq.elim
            · exact hq.imp (fun h => .inr (.inr h)) id
            · rcases List.mem_append.1 hq with hq | hq
              · exact .inl (.inl hq)
              · rcases List.mem_cons.1 hq with hq | hq
                · exact .inl (.inr (.inl hq))
                · exact (BT.ins_mem I.cmp hq).imp (fun h => .inr (.inr h)) (fun h => h.1)
      · have hc2 : ¬ 0 < I.cmp e f := of_decide_eq_false hb2
        have hhas : (BT.node r l f h).has I.cmp e = true := by rw [BT.has, if_neg hc, if_neg hc2]
        have hins : (BT.node r l f h).ins I.cmp ⟨0, 0⟩ e = .node r l e h := by rw [BT.ins, if_neg hc, if_neg hc2]
        have hC : (BT.node r l f h).insC I.cmp ⟨0, 0⟩ e = 6 := by rw [BT.insC, if_neg hc, if_neg hc2]
        refine GT.ok fun hO hv hn => ?_
        refine GT.pcall (n1 := n) (args := fun q => [pa q 0, ar r, ag (I.nd.enc _)]) hI closed_nil hn (fun Fp w' h => pset hI hO hv r _ ⟨e, _, _, _, _⟩ k1 Fp w' h) ?_
        rintro x2 σ2 ⟨h2, hl2⟩
        refine GT.endS (GT.up (Nat.le_succ n) hn1 ?_)
        have hk : ∀ s : BT E, I.Rep σ1.look s → r ∉ s.refs → I.Rep σ2.look s := fun s hs hms => h2.rep hs fun q hq hd => by subst hd; exact hms hq
        refine GT.callR closed_nil (lay_g hI hG.base (hk l k3 hrl) (hk h k4 n2) hl2 k2 hrl n2 (by omega)) ?_
        rintro x3 σ3 ⟨hx3, h3, g3⟩
        obtain rfl := hx3.symm
        have := PutR.old (I := I) (σ := σ) (σ' := σ3) (s := .node r l f h) (e := e) hhas (by rw [hins]; exact g3) ((h1.trans (h2.trans h3)).mono (fun q hq => ?_) (by rw [hC]; omega) rfl)
        · rw [hins] at this
          exact GT.ret (H := eTup2 eRef eBool) (_, true) rfl this
        · rw [BT.refs_node, List.mem_append, List.mem_cons]
          rcases hq with hq | hq | hq
          · exact hq.elim
          · exact .inr (.inl hq)
          · exact .inr (.inl hq)
end GI
end Go.Sx
