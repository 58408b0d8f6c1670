import Derived.Test.YtbanmblbgoajdaaWhPool
set_option linter.unusedVariables false
set_option maxHeartbeats 1000000
namespace Go.Sx
open Go.RowKit

theorem one_int {n : Int} : (iV n).cells.all (·.oneCell') = true := by simp [iV, Value.cells, Value.oneCell']
theorem one_bool {b : Bool} : (Value.bool b).cells.all (·.oneCell') = true := by simp [Value.cells, Value.oneCell']
theorem one_sl {s : Sl} : (slV s).cells.all (·.oneCell') = true := by simp [slV, Value.cells, Value.oneCell']
theorem one_list {l : List Value} (h : ∀ v ∈ l, v.oneCell' = true) : (ag l).cells.all (·.oneCell') = true := by
  rw [Array.all_eq_true_iff_forall_mem]
  intro v hv
  exact h v (by simpa [ag, Value.cells] using hv)

/-- What the types are. -/
structure Cfg.Good (c : Cfg) : Prop where
  ok : c.Ok
  mix : c.P.follows .mixedOrders = true

structure PI.Ty {T : Type} (I : PI T) : Prop where
  good : I.c.Good
  aI : isAggT I.c.P I.tI = some false
  aB : isAggT I.c.P I.tB = some false
  aIS : isAggT I.c.P I.tIS = some false
  aS : isAggT I.c.P I.tS = some false
  aN : isAggT I.c.P I.tN = some true
  sI : sizeT I.c.P I.tI = some 1
  sB : sizeT I.c.P I.tB = some 1
  sIS : sizeT I.c.P I.tIS = some 1
  sS : sizeT I.c.P I.tS = some 1
  sN : sizeT I.c.P I.tN = some I.C.size
  sC : sizeT I.c.P I.tC = some (I.C.size + 2)
  uS : I.c.P.underlying I.tS = some (.slice I.tC)
  uIS : I.c.P.underlying I.tIS = some (.slice I.tI)
  zC : ∃ i z b, I.c.P.info? I.tC = some i ∧ i.zero = some z ∧ z.cells.size = I.C.size + 2 ∧ i.bytes = b ∧ b ≤ 1024
  zI : ∃ i z, I.c.P.info? I.tI = some i ∧ i.zero = some z ∧ z.cells.size = 1 ∧ i.bytes = 8
  d1 : I.tP ≠ I.tC
  d2 : I.tP ≠ I.tI
  d3 : I.tC ≠ I.tI

structure PI.Trees {T : Type} (I : PI T) : Prop where
  find : ∀ t r, FnT I.c I.fFind [pa t 0, ag (rfC r)] (findT I t r)
  get : ∀ t r, FnT I.c I.fGet [pa t 0, ag (rfC r)] (getT I t r)
  set : ∀ t r v, FnT I.c I.fSet [pa t 0, ag (rfC r), ag (I.C.enc v)] (setT I t r v)
  next : ∀ t, FnT I.c I.fNext [pa t 0] (nextT I t)
  put : ∀ t v, FnT I.c I.fPut [pa t 0, ag (I.C.enc v)] (putT I t v)
  drop : ∀ t r, FnT I.c I.fDrop [pa t 0, ag (rfC r)] (dropT I t r)
  visits : ∀ t, FnT I.c I.fVisits [pa t 0] (visitsT I t)

def poolC {T : Type} (σ : Pool T) (sc sf : Sl) : List Value := [slV sc, slV sf, iV σ.cap, iV σ.held, iV σ.visits]

structure PoolX {T : Type} (I : PI T) (p : Nat) (σ : Pool T) (sc sf : Sl) (w : World) : Prop where
  blk : w.heap[p]? = some (.cells (poolC σ sc sf).toArray I.tP (0, 0))
  cells : RowAt w I.tC (cellCd I.C) sc σ.cells
  free : RowAt w I.tI intCd sf σ.free

def PoolF (p : Nat) (sc sf : Sl) : BS := fun b => b = p ∨ (slV sc).ownBlock = some b ∨ (slV sf).ownBlock = some b

section
variable {T : Type} {I : PI T} {p : Nat} {σ : Pool T} {sc sf : Sl} {w w1 : World}

theorem PoolX.keep (h : PoolX I p σ sc sf w) (hb : ∀ b, PoolF p sc sf b → w1.heap[b]? = w.heap[b]?) : PoolX I p σ sc sf w1 :=
  ⟨by rw [hb p (.inl rfl)]; exact h.blk, h.cells.keep fun b hb' => hb b (.inr (.inl hb')), h.free.keep fun b hb' => hb b (.inr (.inr hb'))⟩

theorem PoolX.lt (h : PoolX I p σ sc sf w) : ∀ b, PoolF p sc sf b → b < w.heap.size := by
  rintro b (rfl | hb | hb)
  · exact heap_lt h.blk
  · exact h.cells.lt hb
  · exact h.free.lt hb

theorem PoolX.ne (hT : I.Ty) (h : PoolX I p σ sc sf w) : (∀ b, (slV sc).ownBlock = some b → b ≠ p) ∧ (∀ b, (slV sf).ownBlock = some b → b ≠ p) ∧ (∀ b b', (slV sc).ownBlock = some b → (slV sf).ownBlock = some b' → b ≠ b') := by
  refine ⟨fun b hb e => ?_, fun b hb e => ?_, fun b b' hb hb' e => ?_⟩
  · subst e
    obtain ⟨cur, hc⟩ := h.cells.typed hb
    rw [h.blk] at hc; injection hc with hc; injection hc with _ h2; exact hT.d1 h2
  · subst e
    obtain ⟨cur, hc⟩ := h.free.typed hb
    rw [h.blk] at hc; injection hc with hc; injection hc with _ h2; exact hT.d2 h2
  · subst e
    obtain ⟨cur, hc⟩ := h.cells.typed hb
    obtain ⟨cur', hc'⟩ := h.free.typed hb'
    rw [hc] at hc'; injection hc' with hc'; injection hc' with _ h2; exact hT.d3 h2

/-- Numbers of the pool that have turned. -/
theorem PoolX.nums (hT : I.Ty) (h : PoolX I p σ sc sf w) {σ' : Pool T} (hc : σ'.cells = σ.cells) (hf : σ'.free = σ.free) (h1 : w1.heap[p]? = some (.cells (poolC σ' sc sf).toArray I.tP (0, 0)))
    (hb : ∀ b, b ≠ p → PoolF p sc sf b → w1.heap[b]? = w.heap[b]?) : PoolX I p σ' sc sf w1 := by
  obtain ⟨n1, n2, _⟩ := h.ne hT
  exact ⟨h1, by rw [hc]; exact h.cells.keep fun b hb' => hb b (n1 b hb') (.inr (.inl hb')), by rw [hf]; exact h.free.keep fun b hb' => hb b (n2 b hb') (.inr (.inr hb'))⟩

theorem ld_cap (hT : I.Ty) (h : PoolX I p σ sc sf w) : Ld I.c.P (PoolF p sc sf) w (Instr.loadAt I.tI (pa p 2)) (eInt.enc σ.cap) := ld_one (cs := poolC σ sc sf) (.inl rfl) h.blk hT.aI rfl
theorem ld_held (hT : I.Ty) (h : PoolX I p σ sc sf w) : Ld I.c.P (PoolF p sc sf) w (Instr.loadAt I.tI (pa p 3)) (eInt.enc σ.held) := ld_one (cs := poolC σ sc sf) (.inl rfl) h.blk hT.aI rfl
theorem ld_visits (hT : I.Ty) (h : PoolX I p σ sc sf w) : Ld I.c.P (PoolF p sc sf) w (Instr.loadAt I.tI (pa p 4)) (eInt.enc σ.visits) := ld_one (cs := poolC σ sc sf) (.inl rfl) h.blk hT.aI rfl
theorem ld_sc (hT : I.Ty) (h : PoolX I p σ sc sf w) : Ld I.c.P (PoolF p sc sf) w (Instr.loadAt I.tS (pa p 0)) (eSl.enc sc) := ld_one (cs := poolC σ sc sf) (.inl rfl) h.blk hT.aS rfl
theorem ld_sf (hT : I.Ty) (h : PoolX I p σ sc sf w) : Ld I.c.P (PoolF p sc sf) w (Instr.loadAt I.tIS (pa p 1)) (eSl.enc sf) := ld_one (cs := poolC σ sc sf) (.inl rfl) h.blk hT.aIS rfl

/-- A cell's address. -/
theorem run_index {P : Program} {t e : TypeId} {g : Nat} {s : Sl} {sz : Nat} {i : Int} (hu : P.underlying t = some (.slice e)) (hs : sizeT P e = some sz) (ha : s.a = some ⟨g, 0, none⟩) (h0 : 0 ≤ i) (h1 : i < s.n) (w : World) :
    (Instr.indexAt t (slV s) (iV i)).run P w = .ok (.pointer (some ⟨g, i.toNat * sz, none⟩)) w := by
  simp only [Instr.indexAt, slV, iV, asIntOf, ha, Sem.run_bind, Sem.run_pure, Result.andThen_ok, run_underlying hu w]
  simp only [h0, h1, and_self, if_true, Sem.run_bind, run_sizeOf hs, Result.andThen_ok, Sem.run_pure, Addr.add_mid]
  simp
theorem ld_index {S : BS} {P : Program} {t e : TypeId} {g : Nat} {s : Sl} {sz : Nat} {i : Int} (hu : P.underlying t = some (.slice e)) (hs : sizeT P e = some sz) (ha : s.a = some ⟨g, 0, none⟩) (h0 : 0 ≤ i) (h1 : i < s.n) :
    Ld P S w (Instr.indexAt t (slV s) (iV i)) (eAddr.enc ⟨g, i.toNat * sz, none⟩) := fun w' _ => run_index hu hs ha h0 h1 w'

theorem aa_mid (g o k : Nat) : aa ⟨g, o, none⟩ k = pa g (o + k) := by unfold aa pa; rw [Addr.add_mid]

/-- What a cell holds. -/
theorem cell_ld {i : Nat} {x : Cell T} (hT : I.Ty) (h : PoolX I p σ sc sf w) (hi : σ.cells[i]? = some x) : ∃ g cur, sc.a = some ⟨g, 0, none⟩ ∧ (slV sc).ownBlock = some g ∧ w.heap[g]? = some (.cells (List.toArray cur) I.tC (0, 0)) ∧
    (cur.drop (i * (I.C.size + 2))).take (I.C.size + 2) = (cellCd I.C).enc x ∧ i * (I.C.size + 2) + (I.C.size + 2) ≤ cur.length ∧
    Ld I.c.P (PoolF p sc sf) w (Instr.loadAt I.tB (aa ⟨g, i * (I.C.size + 2), none⟩ (I.C.size + 1))) (eBool.enc x.live) ∧
    Ld I.c.P (PoolF p sc sf) w (Instr.loadAt I.tI (aa ⟨g, i * (I.C.size + 2), none⟩ I.C.size)) (eInt.enc x.gen) ∧
    Ld I.c.P (PoolF p sc sf) w (Instr.loadAt I.tN (aa ⟨g, i * (I.C.size + 2), none⟩ 0)) ((eN I).enc x.v) := by
  obtain ⟨g, cur, ha, hg, hh, he, hle, _⟩ := h.cells.cell hi
  have he' : (cur.drop (i * (I.C.size + 2))).take (I.C.size + 2) = I.C.enc x.v ++ [iV x.gen, .bool x.live] := he
  have hle' : i * (I.C.size + 2) + (I.C.size + 2) ≤ cur.length := hle
  have hat : ∀ k, k < I.C.size + 2 → cur[i * (I.C.size + 2) + k]? = (I.C.enc x.v ++ [iV x.gen, .bool x.live])[k]? := fun k hk => by
    rw [← he', List.getElem?_take_of_lt hk, List.getElem?_drop]
  refine ⟨g, cur, ha, hg, hh, he, hle, ?_, ?_, ?_⟩
  · rw [aa_mid]
    refine ld_one (.inr (.inl hg)) hh hT.aB ?_
    rw [hat _ (by omega), List.getElem?_append_right (by rw [I.C.len]; omega), I.C.len]
    simp [eBool]
  · rw [aa_mid]
    refine ld_one (.inr (.inl hg)) hh hT.aI ?_
    rw [hat _ (by omega), List.getElem?_append_right (by rw [I.C.len]; omega), I.C.len]
    simp [eInt, iV]
  · rw [aa_mid, Nat.add_zero]
    have := ld_agg (P := I.c.P) (S := PoolF p sc sf) (w := w) (b := g) (off := i * (I.C.size + 2)) (.inr (.inl hg)) hh hT.aN hT.sN (by omega)
    have e2 : (cur.drop (i * (I.C.size + 2))).take I.C.size = I.C.enc x.v := by
      have : (cur.drop (i * (I.C.size + 2))).take I.C.size = ((cur.drop (i * (I.C.size + 2))).take (I.C.size + 2)).take I.C.size := by rw [List.take_take, Nat.min_eq_left (by omega)]
      rw [this, he', List.take_append_of_le_length (by rw [I.C.len]; exact Nat.le_refl _), List.take_of_length_le (by rw [I.C.len]; exact Nat.le_refl _)]
    rw [e2] at this
    exact this

theorem poolC_visit (σ : Pool T) (sc sf : Sl) : splice (poolC σ sc sf) 4 (iV (wr (σ.visits + 1))).cells.toList = poolC σ.visit sc sf := rfl

/-- What find leaves. -/
def FindR (I : PI T) (p : Nat) (σ : Pool T) (sc sf : Sl) (r : Rf) (x : Option Addr) (F1 : BS) (w1 : World) : Prop :=
  F1 = PoolF p sc sf ∧ match σ.find r with
    | none => x = none ∧ PoolX I p σ sc sf w1
    | some i => (∃ g, sc.a = some ⟨g, 0, none⟩ ∧ x = some ⟨g, i * (I.C.size + 2), none⟩) ∧ PoolX I p σ.visit sc sf w1

theorem find_spec (hT : I.Ty) (hF : I.Trees) (h : PoolX I p σ sc sf w) (r : Rf) : Spec I.c.P I.fFind [pa p 0, ag (rfC r)] (PoolF p sc sf) w fun v F1 w1 => ∃ x, v = eOA.enc x ∧ FindR I p σ sc sf r x F1 w1 := by
  refine (hF.find p r).spec hT.good.ok hT.good.mix h.lt ?_
  have hnone : σ.find r = none → ∀ w', Ag w.heap.size (PoolF p sc sf) w w' → ∃ x, Value.pointer none = eOA.enc x ∧ FindR I p σ sc sf r x (PoolF p sc sf) w' := fun hn w' ha =>
    ⟨none, rfl, rfl, by rw [hn]; exact ⟨rfl, h.keep fun b hb => ha.block b (.inr hb)⟩⟩
  unfold findT
  refine ⟨fun hb => ?_, fun hb => ?_⟩
  · exact hnone (by unfold Pool.find; rw [if_pos (by simpa using hb)])
  · have h0 : 0 ≤ r.ix := by simpa using hb
    have h0' : ¬ r.ix < 0 := by omega
    have hn0 : sc.n = σ.cells.length := h.cells.1
    refine TT_loadS_ld (ld_sc hT h) ?_
    refine ⟨fun hb => ?_, fun hb => ?_⟩
    · have hge : σ.cells.length ≤ r.ix.toNat := by simp at hb; omega
      exact hnone (by unfold Pool.find; rw [if_neg h0', List.getElem?_eq_none hge])
    · have hlt : r.ix.toNat < σ.cells.length := by simp at hb; omega
      have hc : σ.cells[r.ix.toNat]? = some σ.cells[r.ix.toNat] := List.getElem?_eq_getElem hlt
      obtain ⟨g, cur, ha, hg, hh, he, hle, l1, l2, l3⟩ := cell_ld hT h hc
      refine TT_loadS_ld (ld_sc hT h) ?_
      refine TT_loadS_ld (ld_index (s := sc) (i := r.ix) hT.uS hT.sC ha h0 (by omega)) ?_
      show TT _ _ _ (.loadS 3 _ _ _) _ _ _ _
      refine TT_loadS_ld l1 ?_
      refine ⟨fun hb => ?_, fun hb => ?_⟩
      · exact hnone (by unfold Pool.find; rw [if_neg h0', hc]; simp only; rw [if_neg (by intro hh; rw [hh.1] at hb; cases hb)])
      · refine TT_loadS_ld l2 ?_
        refine ⟨fun hb2 => ?_, fun hb2 => ?_⟩
        · exact hnone (by unfold Pool.find; rw [if_neg h0', hc]; simp only; rw [if_neg (by intro hh; rw [hh.2] at hb2; simp at hb2)])
        · have hfind : σ.find r = some r.ix.toNat := by
            unfold Pool.find; rw [if_neg h0', hc]; simp only
            rw [if_pos ⟨by simpa using hb, by simpa using hb2⟩]
          refine TT_prim_ld closed_nil h.lt (ld_visits hT h) ?_
          refine TT_store (cs := poolC σ sc sf) (e := I.tP) closed_nil h.lt (.inl rfl) h.blk hT.sI (by simp [Value.cells, iV, poolC]) one_int ?_
          intro w1 hp hoth hsz w2 ha2
          have hX : PoolX I p σ.visit sc sf w1 := h.nums hT rfl rfl (by rw [hp, poolC_visit]) hoth
          exact ⟨some ⟨g, r.ix.toNat * (I.C.size + 2), none⟩, rfl, rfl, by rw [hfind]; exact ⟨⟨g, ha, rfl⟩, hX.keep fun b hb => ha2.block b (.inr hb)⟩⟩

def PoolAt (I : PI T) (p : Nat) (σ : Pool T) (F : BS) (w : World) : Prop := ∃ sc sf, F = PoolF p sc sf ∧ PoolX I p σ sc sf w

theorem PoolAt.keep {F : BS} (h : PoolAt I p σ F w) (hb : ∀ b, F b → w1.heap[b]? = w.heap[b]?) : PoolAt I p σ F w1 := by
  obtain ⟨sc, sf, rfl, hX⟩ := h
  exact ⟨sc, sf, rfl, hX.keep hb⟩
theorem PoolAt.lt {F : BS} (h : PoolAt I p σ F w) : ∀ b, F b → b < w.heap.size := by
  obtain ⟨sc, sf, rfl, hX⟩ := h
  exact hX.lt
theorem PoolAt.self {F : BS} (h : PoolAt I p σ F w) : F p := by
  obtain ⟨sc, sf, rfl, hX⟩ := h
  exact .inl rfl

theorem get_spec (hT : I.Ty) (hF : I.Trees) {F : BS} (h : PoolAt I p σ F w) (r : Rf) : Spec I.c.P I.fGet [pa p 0, ag (rfC r)] F w fun v F1 w1 => ∃ x, v = (eTup2 (eN I) eBool).enc x ∧ x = (σ.get I.z r).1 ∧ F1 = F ∧ PoolAt I p (σ.get I.z r).2 F w1 := by
  obtain ⟨sc, sf, rfl, hX⟩ := h
  refine (hF.get p r).spec hT.good.ok hT.good.mix hX.lt ?_
  unfold getT
  refine TT_call0 closed_nil hX.lt (fun w' hk hs => find_spec hT hF (hX.keep hk) r) ?_
  rintro x F1 w1 ⟨rfl, hR⟩ hlt hnew hsz
  cases hf : σ.find r with
  | none =>
    rw [hf] at hR
    obtain ⟨rfl, hX1⟩ := hR
    intro w2 ha
    refine ⟨(I.z, false), rfl, ?_, rfl, sc, sf, rfl, ?_⟩
    · unfold Pool.get; rw [hf]; rfl
    · unfold Pool.get; rw [hf]; exact hX1.keep fun b hb => ha.block b (.inr hb)
  | some i =>
    rw [hf] at hR
    obtain ⟨⟨g, ha, rfl⟩, hX1⟩ := hR
    have hi : i < σ.cells.length := by
      unfold Pool.find at hf
      split at hf
      · cases hf
      · split at hf
        · cases hf
        · rename_i c hc
          split at hf
          · injection hf with hf; subst hf; exact (List.getElem?_eq_some_iff.1 hc).1
          · cases hf
    have hc : (σ.visit).cells[i]? = some σ.cells[i] := List.getElem?_eq_getElem hi
    obtain ⟨g', cur, ha', hg, hh, he, hle, l1, l2, l3⟩ := cell_ld hT hX1 hc
    have : g' = g := by rw [ha] at ha'; injection ha' with e; injection e with e; exact e.symm
    subst this
    refine TT_prim_ld closed_nil hX1.lt l3 ?_
    intro w2 ha2
    refine ⟨(σ.cells[i].v, true), rfl, ?_, rfl, sc, sf, rfl, ?_⟩
    · unfold Pool.get; rw [hf]; simp only [List.getElem?_eq_getElem hi]; rfl
    · unfold Pool.get; rw [hf]; exact hX1.keep fun b hb => ha2.block b (.inr hb)
end
end Go.Sx
