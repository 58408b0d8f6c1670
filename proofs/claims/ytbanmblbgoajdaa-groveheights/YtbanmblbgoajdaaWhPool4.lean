import Derived.Test.YtbanmblbgoajdaaWhPool3
set_option linter.unusedVariables false
set_option maxHeartbeats 1000000
namespace Go.Sx
open Go.RowKit

section
variable {T : Type} {I : PI T} {p : Nat} {σ : Pool T} {sc sf : Sl} {w w1 : World}

theorem find_lt {r : Rf} {i : Nat} (hf : σ.find r = some i) : i = r.ix.toNat ∧ 0 ≤ r.ix ∧ ∃ c, σ.cells[i]? = some c ∧ c.live = true ∧ c.gen = r.gen := by
  unfold Pool.find at hf
  split at hf
  · cases hf
  · split at hf
    · cases hf
    · rename_i hn c hc
      split at hf
      · rename_i hl
        injection hf with hf; subst hf
        exact ⟨rfl, by omega, c, hc, hl.1, hl.2⟩
      · cases hf

/-- One cell has turned. -/
theorem PoolX.turn (hT : I.Ty) (h : PoolX I p σ sc sf w) {i off : Nat} {x y : Cell T} {part : List Value} {g : Nat} {cur : List Value} (hi : σ.cells[i]? = some x) (hg : (slV sc).ownBlock = some g) (hcur : w.heap[g]? = some (.cells cur.toArray I.tC (0, 0)))
    (hy : splice ((cellCd I.C).enc x) off part = (cellCd I.C).enc y) (hp : off + part.length ≤ I.C.size + 2) (hw1 : w1.heap[g]? = some (.cells (splice cur (i * (I.C.size + 2) + off) part).toArray I.tC (0, 0)))
    (hb : ∀ b, b ≠ g → PoolF p sc sf b → w1.heap[b]? = w.heap[b]?) : PoolX I p { σ with cells := σ.cells.set i y } sc sf w1 := by
  obtain ⟨n1, n2, n3⟩ := h.ne hT
  exact ⟨by rw [hb p (fun e => n1 g hg e.symm) (.inl rfl)]; exact h.blk, h.cells.update hi hg hcur hy hp hw1, h.free.keep fun b hb' => hb b (fun e => n3 g b hg hb' e.symm) (.inr (.inr hb'))⟩

theorem splice_all {A B' : List Value} {part : List Value} (h : A.length = part.length) : splice (A ++ B') 0 part = part ++ B' := by
  simp [splice, ← h]
theorem splice_mid {A M B' part : List Value} {off : Nat} (hA : A.length = off) (h : M.length = part.length) : splice (A ++ (M ++ B')) off part = A ++ (part ++ B') := by
  subst hA
  unfold splice
  rw [List.take_left' rfl, ← h]
  simp

theorem modify_eq_set {l : List T} {i : Nat} {f : T → T} {x : T} (h : l[i]? = some x) : l.modify i f = l.set i (f x) := by
  apply List.ext_getElem?
  intro k
  rw [List.getElem?_modify, List.getElem?_set]
  by_cases e : i = k
  · subst e
    obtain ⟨hlt, he⟩ := List.getElem?_eq_some_iff.1 h
    simp [hlt, he]
  · simp [e]

theorem set_spec (hT : I.Ty) (hF : I.Trees) {F : BS} (h : PoolAt I p σ F w) (r : Rf) (v : T) : Spec I.c.P I.fSet [pa p 0, ag (rfC r), ag (I.C.enc v)] F w fun u F1 w1 => ∃ x, u = eBool.enc x ∧ x = (σ.set r v).1 ∧ F1 = F ∧ PoolAt I p (σ.set r v).2 F w1 := by
  obtain ⟨sc, sf, rfl, hX⟩ := h
  refine (hF.set p r v).spec hT.good.ok hT.good.mix hX.lt ?_
  unfold setT
  refine TT_call0 closed_nil hX.lt (fun w' hk hs => find_spec hT hF (hX.keep hk) r) ?_
  rintro x F1 w1 ⟨rfl, hR⟩ hlt hnew hsz
  cases hf : σ.find r with
  | none =>
    rw [hf] at hR
    obtain ⟨rfl, hX1⟩ := hR
    intro w2 ha
    refine ⟨false, rfl, ?_, rfl, sc, sf, rfl, ?_⟩
    · unfold Pool.set; rw [hf]
    · unfold Pool.set; rw [hf]; exact hX1.keep fun b hb => ha.block b (.inr hb)
  | some i =>
    rw [hf] at hR
    obtain ⟨⟨g, ha, rfl⟩, hX1⟩ := hR
    obtain ⟨hi, h0, c, hc, hlv, hgn⟩ := find_lt hf
    obtain ⟨g', cur, ha', hg, hh, he, hle, l1, l2, l3⟩ := cell_ld hT hX1 (show (σ.visit).cells[i]? = some c from hc)
    have : g' = g := by rw [ha] at ha'; injection ha' with e; injection e with e; exact e.symm
    subst this
    simp only [optCase, aa_mid]
    refine TT_store (cs := cur) (e := I.tC) closed_nil hX1.lt (.inr (.inl hg)) hh (by rw [hT.sN]; simp [ag, Value.cells, I.C.len]) (by simp [ag, Value.cells, I.C.len]; omega) (one_list (I.C.one v)) ?_
    intro w2 hp hoth hsz2 w3 ha3
    have hX2 := hX1.turn hT (y := { c with v := v }) (part := I.C.enc v) (off := 0) (show (σ.visit).cells[i]? = some c from hc) hg hh (splice_all (by rw [I.C.len, I.C.len])) (by rw [I.C.len]; omega) (by rw [hp]; simp [ag, Value.cells]) hoth
    refine ⟨true, rfl, ?_, rfl, sc, sf, rfl, ?_⟩
    · unfold Pool.set; rw [hf]
    · unfold Pool.set; rw [hf]
      show PoolX I p ((σ.visit).setAt i _) sc sf w3
      unfold Pool.setAt
      rw [modify_eq_set (show (σ.visit).cells[i]? = some c from hc)]
      exact hX2.keep fun b hb => ha3.block b (.inr hb)

theorem visits_spec (hT : I.Ty) (hF : I.Trees) {F : BS} (h : PoolAt I p σ F w) : Spec I.c.P I.fVisits [pa p 0] F w fun u F1 w1 => u = iV σ.visits ∧ F1 = F ∧ PoolAt I p σ F w1 := by
  obtain ⟨sc, sf, rfl, hX⟩ := h
  refine (hF.visits p).spec hT.good.ok hT.good.mix hX.lt ?_
  unfold visitsT
  refine TT_prim_ld closed_nil hX.lt (ld_visits hT hX) ?_
  intro w2 ha
  exact ⟨rfl, rfl, sc, sf, rfl, hX.keep fun b hb => ha.block b (.inr hb)⟩

/-! ### What holds of a pool -/
def Pool.lives (σ : Pool T) : Nat := σ.cells.countP (·.live)
structure Pool.Ok (n : Nat) (σ : Pool T) : Prop where
  len : σ.cells.length ≤ n
  free : ∀ i ∈ σ.free, 0 ≤ i ∧ ∃ c, σ.cells[i.toNat]? = some c ∧ c.live = false ∧ c.gen < 4294967295
  nodup : σ.free.Nodup
  gen : ∀ c ∈ σ.cells, 0 ≤ c.gen ∧ c.gen ≤ 4294967295
  held : σ.held = (σ.lives : Int)
  room : σ.free.length + σ.lives ≤ σ.cells.length
  cap0 : 0 ≤ σ.cap
  cap : σ.cap ≤ 16777216
  le : σ.held ≤ σ.cap

theorem wr_id {n : Int} (h1 : -9223372036854775808 ≤ n) (h2 : n ≤ 9223372036854775807) : wr n = n := by
  unfold wr IntKind.wrap
  simp only [IntKind.bits, IntKind.signed]
  simp
  omega
end
end Go.Sx
