import Derived.Test.YtbanmblbgoajdaaWhPool4
set_option linter.unusedVariables false
set_option maxHeartbeats 1000000
namespace Go.Sx
open Go.RowKit

section
variable {T : Type} {I : PI T} {p : Nat} {σ : Pool T} {sc sf : Sl} {w w1 : World}

theorem ownBlock_n (a : Option Addr) (n m c : Nat) : (slV ⟨a, n, c⟩).ownBlock = (slV ⟨a, m, c⟩).ownBlock := by
  cases a <;> rfl
theorem PoolF_n (p : Nat) (sc : Sl) (sf : Sl) (k : Nat) : PoolF p sc ⟨sf.a, k, sf.c⟩ = PoolF p sc sf := by
  unfold PoolF
  rw [ownBlock_n sf.a k sf.n sf.c]

theorem splice_f (σ : Pool T) (sc sf sf' : Sl) : splice (poolC σ sc sf) 1 (slV sf').cells.toList = poolC σ sc sf' := rfl
theorem splice_c (σ : Pool T) (sc sf sc' : Sl) : splice (poolC σ sc sf) 0 (slV sc').cells.toList = poolC σ sc' sf := rfl
theorem splice_h (σ : Pool T) (sc sf : Sl) (n : Int) : splice (poolC σ sc sf) 3 (iV n).cells.toList = poolC { σ with held := n } sc sf := rfl

theorem next_spec (hT : I.Ty) (hF : I.Trees) {F : BS} (h : PoolAt I p σ F w) {n : Nat} (hO : σ.Ok n) (hn : n < 4294967296) : Spec I.c.P I.fNext [pa p 0] F w fun u F1 w1 => ∃ x, u = eInt.enc x ∧ x = (σ.next I.z).1 ∧ PoolAt I p (σ.next I.z).2 F1 w1 := by
  obtain ⟨sc, sf, rfl, hX⟩ := h
  refine (hF.next p).spec hT.good.ok hT.good.mix hX.lt ?_
  have hfn : sf.n = σ.free.length := hX.free.1
  have hcn : sc.n = σ.cells.length := hX.cells.1
  have hfl : σ.free.length ≤ n := Nat.le_trans (Nat.le_trans (Nat.le_add_right _ _) hO.room) hO.len
  have hlen := hO.len
  have hwr : wr ((sf.n : Int) - 1) = (sf.n : Int) - 1 := wr_id (by omega) (by omega)
  obtain ⟨n1, n2, n3⟩ := hX.ne hT
  unfold nextT
  refine TT_prim_ld closed_nil hX.lt (ld_sf hT hX) ?_
  refine ⟨fun hb => ?_, fun hb => ?_⟩
  · have hpos : 0 < σ.free.length := by simp [hwr] at hb; omega
    have hk : σ.free[σ.free.length - 1]? = some σ.free[σ.free.length - 1] := List.getElem?_eq_getElem (by omega)
    generalize hx : σ.free[σ.free.length - 1] = x at hk
    have hlast : σ.free.getLast? = some x := by rw [List.getLast?_eq_getElem?]; exact hk
    obtain ⟨g, cur, ha, hg, hh, he, hle, htk⟩ := hX.free.cell hk
    simp only [hwr]
    refine TT_prim_ld closed_nil hX.lt (ld_sf hT hX) ?_
    refine TT_prim_ld closed_nil hX.lt (ld_index (s := sf) (i := (sf.n : Int) - 1) hT.uIS hT.sI ha (by omega) (by omega)) ?_
    refine TT_prim_ld (H := eInt) (x := x) closed_nil hX.lt (ld_one (.inr (.inr hg)) hh hT.aI ?_) ?_
    · have he' : (cur.drop ((σ.free.length - 1) * 1)).take 1 = [iV x] := he
      have h2 := congrArg (·[0]?) he'
      simp only [List.getElem?_cons_zero] at h2
      rw [List.getElem?_take_of_lt (by omega), List.getElem?_drop, Nat.add_zero] at h2
      rw [show ((sf.n : Int) - 1).toNat * 1 = (σ.free.length - 1) * 1 by omega, h2]
      rfl
    refine TT_prim_ld closed_nil hX.lt (ld_sf hT hX) ?_
    have hcap : sf.n ≤ sf.c := by
      rcases hX.free.2.2 with ⟨h1, h2⟩ | ⟨g2, cap, cur2, hv, h0, hg2, h1, h2, h3, h4⟩
      · omega
      · unfold slV at hv; injection hv with _ _ hv; omega
    refine TT_prim_ld (H := eSl) (x := ⟨sf.a, σ.free.length - 1, sf.c⟩) closed_nil hX.lt ?_ ?_
    · have := ld_slice_h (S := PoolF p sc sf) (w := w) (s := sf) (h := (sf.n : Int) - 1) hT.uIS hT.sI (by omega) (by omega)
      have e : (⟨if sf.c = 0 then sf.a else sf.a.map (·.add 0), ((sf.n : Int) - 1).toNat, sf.c⟩ : Sl) = ⟨sf.a, σ.free.length - 1, sf.c⟩ := by
        rw [if_neg (by omega), ha]
        simp [Addr.add_mid]; omega
      rw [e] at this; exact this
    refine TT_store (cs := poolC σ sc sf) (e := I.tP) closed_nil hX.lt (.inl rfl) hX.blk hT.sIS (by simp [Value.cells, slV, poolC]) one_sl ?_
    intro w1 hp hoth hsz w2 ha2
    have htake : RowAt w I.tI intCd ⟨sf.a, σ.free.length - 1, sf.c⟩ (σ.free.take (σ.free.length - 1)) := hX.free.take (by omega) (by decide) hpos
    have hX1 : PoolX I p { σ with free := σ.free.dropLast } sc ⟨sf.a, σ.free.length - 1, sf.c⟩ w1 := by
      refine ⟨by rw [hp, splice_f]; rfl, hX.cells.keep fun b hb => hoth b (n1 b hb) (.inr (.inl hb)), ?_⟩
      rw [show ({ σ with free := σ.free.dropLast } : Pool T).free = σ.free.take (σ.free.length - 1) from List.dropLast_eq_take]
      exact htake.keep fun b hb => by
        rw [ownBlock_n sf.a _ sf.n sf.c] at hb
        exact hoth b (n2 b hb) (.inr (.inr hb))
    refine ⟨x, rfl, ?_, sc, ⟨sf.a, σ.free.length - 1, sf.c⟩, (PoolF_n p sc sf _).symm, ?_⟩
    · unfold Pool.next; rw [hlast]
    · unfold Pool.next; rw [hlast]
      exact hX1.keep fun b hb => ha2.block b (.inr (by rw [PoolF_n] at hb; exact hb))
  · have h0 : σ.free = [] := by
      simp [hwr] at hb
      exact List.eq_nil_of_length_eq_zero (by omega)
    have hlast : σ.free.getLast? = none := by rw [h0]; rfl
    refine TT_prim_ld closed_nil hX.lt (ld_sc hT hX) ?_
    obtain ⟨i, z, b, hi, hz, hzs, hib, hbl⟩ := hT.zC
    obtain ⟨i', z', hi', hz', hzs', hcs⟩ : ∃ i' z', I.c.P.info? I.tC = some i' ∧ i'.zero = some z' ∧ z'.cells.size = I.C.size + 2 ∧ i'.size = I.C.size + 2 := ⟨i, z, hi, hz, hzs, by
      have := hT.sC; unfold sizeT at this; rw [hi] at this; simpa using this⟩
    rw [hi] at hi'; injection hi' with hi'; subst hi'
    refine TT_append (C := cellCd I.C) (xs := σ.cells) (news := [⟨I.z, 0, false⟩]) (G := fun b => b = p ∨ (slV sf).ownBlock = some b) (i := i) (z := z) closed_nil (fun b => ?_) (fun b hb hG => ?_) hX.lt hX.cells hT.uS hi hz hcs hzs (by simp [cellCd]) rfl (by simp [flat, cellCd]) (by simp [maxLen]; omega) ?_ ?_
    · unfold PoolF; constructor
      · rintro (h | h | h)
        · exact .inr (.inl h)
        · exact .inl h
        · exact .inr (.inr h)
      · rintro (h | h | h)
        · exact .inr (.inl h)
        · exact .inl h
        · exact .inr (.inr h)
    · rcases hG with hG | hG
      · exact n1 b hb hG
      · exact n3 b b hb hG rfl
    · rw [hib]
      have : (σ.cells.length + 1) * b ≤ 4294967296 * 1024 := Nat.mul_le_mul (by omega) hbl
      simp only [List.length_singleton]; omega
    · intro y w1 hrow hG hsz hwh
      have hblk : w1.heap[p]? = some (.cells (poolC σ sc sf).toArray I.tP (0, 0)) := by rw [hG p (.inl rfl)]; exact hX.blk
      have hfree1 : RowAt w1 I.tI intCd sf σ.free := hX.free.keep fun b hb => hG b (.inr hb)
      have hyp : ∀ b, (slV y).ownBlock = some b → b ≠ p := fun b hb e => by
        subst e
        obtain ⟨cur, hc⟩ := hrow.typed hb
        rw [hblk] at hc; injection hc with hc; injection hc with _ h2; exact hT.d1 h2
      have hlt1 : ∀ b, ((slV y).ownBlock = some b ∨ b = p ∨ (slV sf).ownBlock = some b) → b < w1.heap.size := by
        rintro b (h | rfl | h)
        · exact hrow.lt h
        · exact heap_lt hblk
        · exact hfree1.lt h
      refine TT_store (cs := poolC σ sc sf) (e := I.tP) closed_nil hlt1 (.inr (.inl rfl)) hblk hT.sS (by simp [Value.cells, slV, poolC]) one_sl ?_
      intro w2 hp hoth hsz2
      have hX2 : PoolX I p { σ with cells := σ.cells ++ [⟨I.z, 0, false⟩] } y sf w2 := by
        refine ⟨by rw [hp, splice_c]; rfl, hrow.keep fun b hb => hoth b (hyp b hb) (.inl hb), hfree1.keep fun b hb => hoth b (n2 b hb) (.inr (.inr hb))⟩
      have hSeq : (fun b => (slV y).ownBlock = some b ∨ b = p ∨ (slV sf).ownBlock = some b) = PoolF p y sf := by
        funext b; unfold PoolF; apply propext; constructor
        · rintro (h | h | h)
          · exact .inr (.inl h)
          · exact .inl h
          · exact .inr (.inr h)
        · rintro (h | h | h)
          · exact .inr (.inl h)
          · exact .inl h
          · exact .inr (.inr h)
      rw [hSeq]
      refine TT_prim_ld closed_nil hX2.lt (ld_sc hT hX2) ?_
      intro w3 ha3
      have hyn : y.n = σ.cells.length + 1 := by have := hX2.cells.1; simpa using this
      refine ⟨(σ.cells.length : Int), ?_, ?_, y, sf, rfl, ?_⟩
      · rw [hyn, wr_id (by omega) (by omega)]
        simp [eInt, iV]
      · unfold Pool.next; rw [hlast]
      · unfold Pool.next; rw [hlast]; exact hX2.keep fun b hb => ha3.block b (.inr hb)
end
end Go.Sx
