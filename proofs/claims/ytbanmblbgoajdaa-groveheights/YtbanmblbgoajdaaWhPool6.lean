import Derived.Test.YtbanmblbgoajdaaWhPool5
set_option linter.unusedVariables false
set_option maxHeartbeats 1000000
namespace Go.Sx
open Go.RowKit

section
variable {T : Type} {I : PI T} {p : Nat} {σ : Pool T} {sc sf : Sl} {w w1 : World} {B : Nat} {R : Value → BS → World → Prop} {Γ : List Again} {Λ : Lam}

/-- A store into a cell. -/
theorem TT_cell_store (hT : I.Ty) (hX : PoolX I p σ sc sf w) {i off : Nat} {x y : Cell T} {g : Nat} {ty : TypeId} {u : Value} {k : Tree} (hΓ : ClosedΓ B Γ) (hi : σ.cells[i]? = some x) (ha : sc.a = some ⟨g, 0, none⟩)
    (hs : sizeT I.c.P ty = some u.cells.size) (h1 : u.cells.all (·.oneCell') = true) (hy : splice ((cellCd I.C).enc x) off u.cells.toList = (cellCd I.C).enc y) (hp : off + u.cells.size ≤ I.C.size + 2)
    (hk : ∀ w1, PoolX I p { σ with cells := σ.cells.set i y } sc sf w1 → w.heap.size ≤ w1.heap.size → TT I.c.P B R k Γ Lam.none (PoolF p sc sf) w1) :
    TT I.c.P B R (.primU (Instr.storeAt ty (aa ⟨g, i * (I.C.size + 2), none⟩ off) u) [] k) Γ Λ (PoolF p sc sf) w := by
  obtain ⟨g', cur, ha', hg, hh, he, hle, _⟩ := cell_ld hT hX hi
  have : g' = g := by rw [ha] at ha'; injection ha' with e; injection e with e; exact e.symm
  subst this
  rw [aa_mid]
  refine TT_store (cs := cur) (e := I.tC) hΓ hX.lt (.inr (.inl hg)) hh hs (by omega) h1 ?_
  intro w2 hp2 hoth hsz2
  exact hk w2 (hX.turn hT (part := u.cells.toList) (off := off) hi hg hh hy (by simpa using hp) hp2 hoth) hsz2

theorem TT_held_store (hT : I.Ty) (hX : PoolX I p σ sc sf w) {n : Int} {k : Tree} (hΓ : ClosedΓ B Γ)
    (hk : ∀ w1, PoolX I p { σ with held := n } sc sf w1 → w.heap.size ≤ w1.heap.size → TT I.c.P B R k Γ Lam.none (PoolF p sc sf) w1) :
    TT I.c.P B R (.primU (Instr.storeAt I.tI (pa p 3) (iV n)) [] k) Γ Λ (PoolF p sc sf) w := by
  refine TT_store (cs := poolC σ sc sf) (e := I.tP) hΓ hX.lt (.inl rfl) hX.blk hT.sI (by simp [Value.cells, iV, poolC]) one_int ?_
  intro w1 hp hoth hsz
  exact hk w1 (hX.nums hT rfl rfl (by rw [hp, splice_h]) hoth) hsz

theorem next_ok {n : Nat} (hO : σ.Ok n) (z : T) : 0 ≤ (σ.next z).1 ∧ ∃ c, (σ.next z).2.cells[(σ.next z).1.toNat]? = some c ∧ c.live = false ∧ 0 ≤ c.gen ∧ c.gen < 4294967295 := by
  unfold Pool.next
  cases hl : σ.free.getLast? with
  | some i =>
    obtain ⟨h0, c, hc, h1, h2⟩ := hO.free i (List.mem_of_getLast? hl)
    exact ⟨h0, c, hc, h1, (hO.gen c (List.mem_of_getElem? hc)).1, h2⟩
  | none => exact ⟨Int.natCast_nonneg _, ⟨z, 0, false⟩, by simp, rfl, by simp, by simp⟩
theorem next_held (z : T) : (σ.next z).2.held = σ.held ∧ (σ.next z).2.cap = σ.cap ∧ (σ.next z).2.visits = σ.visits := by
  unfold Pool.next
  cases hl : σ.free.getLast? <;> exact ⟨rfl, rfl, rfl⟩
theorem next_len {n : Nat} (hO : σ.Ok n) (z : T) : (σ.next z).2.cells.length ≤ n + 1 := by
  have := hO.len
  unfold Pool.next
  cases hl : σ.free.getLast? <;> simp <;> omega

theorem put_spec (hT : I.Ty) (hF : I.Trees) {F : BS} (h : PoolAt I p σ F w) {n : Nat} (hO : σ.Ok n) (hn : n < 4294967296) (v : T) :
    Spec I.c.P I.fPut [pa p 0, ag (I.C.enc v)] F w fun u F1 w1 => ∃ x, u = (eTup2 (eAg Rf rfC) eBool).enc x ∧ x = (σ.put I.z v).1 ∧ PoolAt I p (σ.put I.z v).2 F1 w1 := by
  obtain ⟨sc, sf, rfl, hX⟩ := h
  refine (hF.put p v).spec hT.good.ok hT.good.mix hX.lt ?_
  unfold putT
  refine TT_loadS_ld (ld_held hT hX) ?_
  refine TT_loadS_ld (ld_cap hT hX) ?_
  refine ⟨fun hb => ?_, fun hb => ?_⟩
  · have he : σ.held = σ.cap := by simpa using hb
    intro w2 ha
    refine ⟨(⟨0, 0⟩, false), rfl, ?_, sc, sf, rfl, ?_⟩
    · unfold Pool.put; rw [if_pos he]; try rfl
    · unfold Pool.put; rw [if_pos he]; exact hX.keep fun b hb => ha.block b (.inr hb)
  · have he : ¬ σ.held = σ.cap := by simpa using hb
    refine TT_call0 closed_nil hX.lt (fun w' hk hs => next_spec hT hF ⟨sc, sf, rfl, hX.keep hk⟩ hO hn) ?_
    rintro x F1 w1 ⟨rfl, sc1, sf1, rfl, hX1⟩ hlt hnew hsz
    obtain ⟨h0, c, hc, hcl, hg0, hg1⟩ := next_ok hO I.z
    have hnl := next_len hO I.z
    have hnh := next_held (σ := σ) I.z
    generalize hnx : σ.next I.z = nx at *
    obtain ⟨i, σ1⟩ := nx
    simp only at h0 hc hnl hnh hX1 ⊢
    have hil : i.toNat < σ1.cells.length := (List.getElem?_eq_some_iff.1 hc).1
    obtain ⟨g, cur, ha, _⟩ := hX1.cells.cell hc
    have hscn : sc1.n = σ1.cells.length := hX1.cells.1
    refine TT_prim_ld closed_nil hX1.lt (ld_sc hT hX1) ?_
    refine TT_prim_ld closed_nil hX1.lt (ld_index (s := sc1) (i := i) hT.uS hT.sC ha h0 (by omega)) ?_
    refine TT_cell_store hT hX1 (y := { c with v := v }) closed_nil hc ha (by rw [hT.sN]; simp [ag, Value.cells, I.C.len]) (one_list (I.C.one v)) (by simp only [ag, Value.cells]; exact splice_all (by rw [I.C.len, I.C.len])) (by simp [ag, Value.cells, I.C.len]) ?_
    intro w2 hX2 hs2
    refine TT_cell_store hT hX2 (x := { c with v := v }) (y := { c with v := v, live := true }) closed_nil (by simp [hil]) ha hT.sB one_bool ?_ (by simp [Value.cells]) ?_
    · show splice (I.C.enc v ++ [iV c.gen, .bool c.live]) _ [_] = I.C.enc v ++ [iV c.gen, .bool true]
      have e : (I.C.enc v ++ [iV c.gen, Value.bool c.live]) = (I.C.enc v ++ [iV c.gen]) ++ ([Value.bool c.live] ++ []) := by simp
      rw [e, splice_mid (M := [Value.bool c.live]) (part := [.bool true]) (by simp [I.C.len]) rfl]; simp
    intro w3 hX3 hs3
    have hc3 : (({ σ1 with cells := (σ1.cells.set i.toNat { c with v := v }).set i.toNat { c with v := v, live := true } } : Pool T)).cells[i.toNat]? = some { c with v := v, live := true } := by simp [hil]
    obtain ⟨g', cur3, ha3, hg3, hh3, he3, hle3, l1, l2, l3⟩ := cell_ld hT hX3 hc3
    have : g' = g := by rw [ha] at ha3; injection ha3 with e; injection e with e; exact e.symm
    subst this
    refine TT_prim_ld closed_nil hX3.lt l2 ?_
    refine TT_cell_store hT hX3 (y := { v := v, gen := wr (c.gen + 1), live := true }) closed_nil hc3 ha hT.sI one_int ?_ (by simp [Value.cells, iV]) ?_
    · show splice (I.C.enc v ++ [iV c.gen, .bool true]) _ [iV (wr (c.gen + 1))] = I.C.enc v ++ [iV (wr (c.gen + 1)), .bool true]
      have e : (I.C.enc v ++ [iV c.gen, Value.bool true]) = I.C.enc v ++ ([iV c.gen] ++ [.bool true]) := by simp
      rw [e, splice_mid (M := [iV c.gen]) (part := [iV (wr (c.gen + 1))]) (by simp [I.C.len]) rfl]; simp
    intro w4 hX4 hs4
    refine TT_prim_ld closed_nil hX4.lt (ld_held hT hX4) ?_
    refine TT_held_store hT hX4 closed_nil ?_
    intro w5 hX5 hs5
    have hc5 : (((σ1.cells.set i.toNat { c with v := v }).set i.toNat { c with v := v, live := true }).set i.toNat { v := v, gen := wr (c.gen + 1), live := true })[i.toNat]? = some { v := v, gen := wr (c.gen + 1), live := true } := by simp [hil]
    obtain ⟨g5, cur5, ha5, hg5, hh5, he5, hle5, k1, k2, k3⟩ := cell_ld hT hX5 hc5
    have : g5 = g' := by rw [ha] at ha5; injection ha5 with e; injection e with e; exact e.symm
    subst this
    refine TT_prim_ld closed_nil hX5.lt k2 ?_
    intro w6 ha6
    have hput : σ.put I.z v = ((⟨i, wr (c.gen + 1)⟩, true), { (σ1.setAt i.toNat fun _ => { v := v, gen := wr (c.gen + 1), live := true }) with held := wr (σ.held + 1) }) := by
      unfold Pool.put; rw [if_neg he, hnx]; simp [hc]
    refine ⟨(⟨i, wr (c.gen + 1)⟩, true), rfl, ?_, sc1, sf1, rfl, ?_⟩
    · rw [hput]; try rfl
    · rw [hput]
      simp only [Pool.setAt]
      rw [modify_eq_set hc]
      have : PoolX I p _ sc1 sf1 w6 := hX5.keep fun b hb => ha6.block b (.inr hb)
      simp only [List.set_set] at this
      rw [hnh.1] at this
      exact this

theorem drop_spec (hT : I.Ty) (hF : I.Trees) {F : BS} (h : PoolAt I p σ F w) {n : Nat} (hO : σ.Ok n) (hn : n < 4294967296) (r : Rf) :
    Spec I.c.P I.fDrop [pa p 0, ag (rfC r)] F w fun u F1 w1 => ∃ x, u = (eTup2 (eN I) eBool).enc x ∧ x = (σ.drop I.z r).1 ∧ PoolAt I p (σ.drop I.z r).2 F1 w1 := by
  obtain ⟨sc, sf, rfl, hX⟩ := h
  refine (hF.drop p r).spec hT.good.ok hT.good.mix hX.lt ?_
  unfold dropT
  refine TT_call0 closed_nil hX.lt (fun w' hk hs => find_spec hT hF (hX.keep hk) r) ?_
  rintro x F1 w1 ⟨rfl, hR⟩ hlt hnew hsz
  cases hf : σ.find r with
  | none =>
    rw [hf] at hR
    obtain ⟨rfl, hX1⟩ := hR
    intro w2 ha
    refine ⟨(I.z, false), rfl, ?_, sc, sf, rfl, ?_⟩
    · unfold Pool.drop; rw [hf]; try rfl
    · unfold Pool.drop; rw [hf]; exact hX1.keep fun b hb => ha.block b (.inr hb)
  | some i =>
    rw [hf] at hR
    obtain ⟨⟨g, ha, rfl⟩, hX1⟩ := hR
    obtain ⟨hi, h0, c, hc, hlv, hgn⟩ := find_lt hf
    have hil : i < σ.cells.length := (List.getElem?_eq_some_iff.1 hc).1
    obtain ⟨g', cur, ha', hg, hh, he, hle, l1, l2, l3⟩ := cell_ld hT hX1 (show (σ.visit).cells[i]? = some c from hc)
    have : g' = g := by rw [ha] at ha'; injection ha' with e; injection e with e; exact e.symm
    subst this
    simp only [optCase]
    refine TT_prim_ld closed_nil hX1.lt l3 ?_
    refine TT_prim_ld closed_nil hX1.lt l2 ?_
    rw [show (Value.pointer (some ⟨g', i * (I.C.size + 2), none⟩)) = aa ⟨g', i * (I.C.size + 2), none⟩ 0 by rw [aa_mid]; rfl]
    refine TT_cell_store hT hX1 (y := { v := I.z, gen := c.gen, live := false }) closed_nil (show (σ.visit).cells[i]? = some c from hc) ha (by rw [hT.sC]; simp [ag, Value.cells, I.C.len]) (one_list fun v hv => ?_) ?_ (by simp [ag, Value.cells, I.C.len]) ?_
    · rcases List.mem_append.1 hv with h | h
      · exact I.C.one _ v h
      · simp at h; rcases h with rfl | rfl <;> rfl
    · simp only [ag, Value.cells]
      have := splice_all (A := (cellCd I.C).enc c) (B' := []) (part := I.C.enc I.z ++ [iV c.gen, .bool false]) (by rw [(cellCd I.C).len]; simp [cellCd, I.C.len])
      simp only [List.append_nil] at this
      exact this
    intro w2 hX2 hs2
    refine TT_prim_ld closed_nil hX2.lt (ld_held hT hX2) ?_
    refine TT_held_store hT hX2 closed_nil ?_
    intro w3 hX3 hs3
    have hc3 : (((σ.visit).cells.set i { v := I.z, gen := c.gen, live := false }))[i]? = some { v := I.z, gen := c.gen, live := false } := by
      have : i < σ.visit.cells.length := hil
      simp [this]
    obtain ⟨g3, cur3, ha3, hg3, hh3, he3, hle3, k1, k2, k3⟩ := cell_ld hT hX3 hc3
    have : g3 = g' := by rw [ha] at ha3; injection ha3 with e; injection e with e; exact e.symm
    subst this
    refine TT_prim_ld closed_nil hX3.lt k2 ?_
    have hfl : σ.free.length ≤ n := Nat.le_trans (Nat.le_trans (Nat.le_add_right _ _) hO.room) hO.len
    have hdrop : σ.drop I.z r = ((c.v, true), { cells := (σ.visit).cells.set i { v := I.z, gen := c.gen, live := false }, free := if r.gen < 4294967295 then σ.free ++ [r.ix] else σ.free, cap := σ.cap, held := wr (σ.held - 1), visits := (σ.visit).visits }) := by
      unfold Pool.drop; rw [hf]; simp only [hc, Pool.setAt]
      rw [modify_eq_set (show (σ.visit).cells[i]? = some c from hc)]
      rfl
    refine ⟨fun hb => ?_, fun hb => ?_⟩
    · have hgl : r.gen < 4294967295 := by rw [← hgn]; simpa using hb
      refine TT_loadS_ld (ld_sf hT hX3) ?_
      obtain ⟨n1, n2, n3⟩ := hX3.ne hT
      obtain ⟨ii, z, hi', hz, hzs, hib⟩ := hT.zI
      have his : ii.size = 1 := by have := hT.sI; unfold sizeT at this; rw [hi'] at this; simpa using this
      refine TT_append (C := intCd) (xs := σ.free) (news := [r.ix]) (G := fun b => b = p ∨ (slV sc).ownBlock = some b) (i := ii) (z := z) closed_nil (fun b => ?_) (fun b hb hG => ?_) hX3.lt hX3.free hT.uIS hi' hz his hzs (by decide) rfl (by simp [flat, intCd]) (by simp [maxLen]; omega) ?_ ?_
      · unfold PoolF; constructor
        · rintro (h | h | h)
          · exact .inr (.inl h)
          · exact .inr (.inr h)
          · exact .inl h
        · rintro (h | h | h)
          · exact .inr (.inr h)
          · exact .inl h
          · exact .inr (.inl h)
      · rcases hG with hG | hG
        · exact n2 b hb hG
        · exact n3 b b hG hb rfl
      · rw [hib]; simp only [List.length_singleton]; omega
      · intro y w4 hrow hG hsz4 hwh
        have hblk : w4.heap[p]? = some (.cells (poolC (⟨(σ.visit).cells.set i ⟨I.z, c.gen, false⟩, σ.free, σ.cap, wr (σ.held - 1), (σ.visit).visits⟩ : Pool T) sc sf).toArray I.tP (0, 0)) := by rw [hG p (.inl rfl)]; exact hX3.blk
        have hcells4 : RowAt w4 I.tC (cellCd I.C) sc _ := hX3.cells.keep fun b hb => hG b (.inr hb)
        have hyp : ∀ b, (slV y).ownBlock = some b → b ≠ p := fun b hb e => by
          subst e
          obtain ⟨cur, hc⟩ := hrow.typed hb
          rw [hblk] at hc; injection hc with hc; injection hc with _ h2; exact hT.d2 h2
        have hlt4 : ∀ b, ((slV y).ownBlock = some b ∨ b = p ∨ (slV sc).ownBlock = some b) → b < w4.heap.size := by
          rintro b (h | rfl | h)
          · exact hrow.lt h
          · exact heap_lt hblk
          · exact hcells4.lt h
        refine TT_store (cs := poolC _ sc sf) (e := I.tP) closed_nil hlt4 (.inr (.inl rfl)) hblk hT.sIS (by simp [Value.cells, slV, poolC]) one_sl ?_
        intro w5 hp hoth hsz5
        rw [splice_f] at hp
        have hSeq : (fun b => (slV y).ownBlock = some b ∨ b = p ∨ (slV sc).ownBlock = some b) = PoolF p sc y := by
          funext b; unfold PoolF; apply propext; constructor
          · rintro (h | h | h)
            · exact .inr (.inr h)
            · exact .inl h
            · exact .inr (.inl h)
          · rintro (h | h | h)
            · exact .inr (.inl h)
            · exact .inr (.inr h)
            · exact .inl h
        rw [hSeq]
        intro w6 ha6
        refine ⟨(c.v, true), rfl, ?_, sc, y, rfl, ?_⟩
        · rw [hdrop]; try rfl
        · rw [hdrop, if_pos hgl]
          have : PoolX I p { cells := (σ.visit).cells.set i { v := I.z, gen := c.gen, live := false }, free := σ.free ++ [r.ix], cap := σ.cap, held := wr (σ.held - 1), visits := (σ.visit).visits } sc y w5 :=
            ⟨hp, hcells4.keep fun b hb => hoth b (n1 b hb) (.inr (.inr hb)), hrow.keep fun b hb => hoth b (hyp b hb) (.inl hb)⟩
          exact this.keep fun b hb => ha6.block b (.inr hb)
    · have hgl : ¬ r.gen < 4294967295 := by rw [← hgn]; simpa using hb
      intro w6 ha6
      refine ⟨(c.v, true), rfl, ?_, sc, sf, rfl, ?_⟩
      · rw [hdrop]; try rfl
      · rw [hdrop, if_neg hgl]
        exact hX3.keep fun b hb => ha6.block b (.inr hb)
end
end Go.Sx
