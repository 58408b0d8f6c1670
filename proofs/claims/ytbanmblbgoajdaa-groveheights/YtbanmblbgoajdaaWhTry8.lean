import Derived.Test.YtbanmblbgoajdaaWhTry7
set_option linter.unusedVariables false
set_option maxHeartbeats 2000000
namespace Go.Sx
open GI Go.RowKit

theorem u32 : Go.Proofs.Try.prog.underlying 32 = some (.slice 41) := by kernel_rfl
theorem s41 : sizeT Go.Proofs.Try.prog 41 = some 3 := by kernel_rfl
theorem a41 : isAggT Go.Proofs.Try.prog 41 = some true := by kernel_rfl
theorem a3 : isAggT Go.Proofs.Try.prog 3 = some false := by kernel_rfl

theorem argG_lt {w : World} {s : Sl} {xs : List ActE} (h : ArgRow w actCd s xs) : ∀ b, argG s b → b < w.heap.size := by
  rintro b ⟨a, ha, rfl, hn⟩
  have h0 : 0 < xs.length := by rw [← h.n]; exact hn
  obtain ⟨g, o, ha', hc⟩ := h.cell 0 xs[0] (List.getElem?_eq_getElem h0)
  rw [ha] at ha'; injection ha' with ha'; subst ha'
  have := hc 0 (iV xs[0].kind) rfl
  unfold World.cell? at this
  rcases Nat.lt_or_ge g w.heap.size with h1 | h1
  · exact h1
  · rw [Array.getElem?_eq_none h1] at this; cases this

theorem small_s {w : World} {s : Sl} {xs : List ActE} {m : Int} (h : ArgRow w actCd s xs) (hm62 : m < 4611686018427387904) : Spec Go.Proofs.Try.prog 14 [slV s, iV m] (argG s) w fun v F1 w1 => ∃ b : Bool, v = .bool b ∧ F1 = argG s ∧ (∀ q, argG s q → w1.heap[q]? = w.heap[q]?) ∧ (b = true → (xs.length : Int) ≤ m) := by
  refine (small_t s m).spec l7_ok try_mix (argG_lt h) ?_
  unfold smallT
  have hn := h.n
  have hret : ∀ (b : Bool) (B : Nat) (Γ : List Again) (Λ : Lam) (S1 : BS) (w1 : World), S1 = argG s → (∀ q, argG s q → w1.heap[q]? = w.heap[q]?) → (b = true → (xs.length : Int) ≤ m) →
      TT l7.P B (fun v F1 w1 => ∃ b : Bool, v = .bool b ∧ F1 = argG s ∧ (∀ q, argG s q → w1.heap[q]? = w.heap[q]?) ∧ (b = true → (xs.length : Int) ≤ m)) (.ret (.bool b)) Γ Λ S1 w1 := by
    rintro b B Γ Λ S1 w1 rfl hk hb w2 ha
    exact ⟨b, rfl, rfl, fun q hq => (ha.block q (.inr hq)).trans (hk q hq), hb⟩
  refine ⟨fun _ => hret _ _ _ _ _ _ rfl (fun _ _ => rfl) (by simp), fun hb0 => ?_⟩
  have hm : (xs.length : Int) ≤ m := by have := of_decide_eq_false hb0; omega
  refine ⟨fun l S w1 => S = argG s ∧ (∀ q, argG s q → w1.heap[q]? = w.heap[q]?) ∧ 0 ≤ l ∧ l ≤ xs.length, fun l _ _ => ((xs.length : Int) - l).toNat, ?_, ⟨0, rfl, rfl, fun _ _ => rfl, by omega, by omega⟩, ?_⟩
  · rintro l S w1 w2 ⟨rfl, h1, h2⟩ ha
    exact ⟨⟨rfl, fun q hq => (ha.block q (.inr hq)).trans (h1 q hq), h2⟩, rfl⟩
  rintro l S1 w1 ⟨rfl, h1, h2, h3⟩ hlt1
  have hcl : ClosedΓ w.heap.size [fun vals S2 w2 => ∃ l', vals = iEmb l' ∧ (S2 = argG s ∧ (∀ q, argG s q → w2.heap[q]? = w.heap[q]?) ∧ 0 ≤ l' ∧ l' ≤ (xs.length : Int)) ∧ ((xs.length : Int) - l').toNat < ((xs.length : Int) - l).toNat] := by
    intro A hA vals S w1 w2 hh ha
    simp only [List.mem_singleton] at hA
    subst hA
    obtain ⟨l', e1, ⟨rfl, e2, e3⟩, e4⟩ := hh
    exact ⟨l', e1, ⟨rfl, fun q hq => (ha.block q (.inr hq)).trans (e2 q hq), e3⟩, e4⟩
  refine ⟨fun hb => ?_, fun hb => hret _ _ _ _ _ _ rfl h1 fun _ => hm⟩
  have hl : l < xs.length := by have := of_decide_eq_true hb; omega
  have hx : xs[l.toNat]? = some (xs[l.toNat]'(by omega)) := List.getElem?_eq_getElem (by omega)
  have hA1 : ArgRow w1 actCd s xs := h.keep h1
  obtain ⟨g, o, ha, hld, hc⟩ := hA1.index (P := l7.P) (S := argG s) (t := 32) (e := 41) (i := l) u32 s41 h2 hx
  have hg : argG s g := ⟨_, ha, rfl, by omega⟩
  refine TT_prim_ld (H := eAddr) (x := ⟨g, o + l.toNat * 3, none⟩) hcl hlt1 hld ?_
  have haa : aa ⟨g, o + l.toNat * 3, none⟩ 2 = .pointer (some ⟨g, o + (l.toNat * 3 + 2), none⟩) := by rw [aa_mid]; unfold pa; rw [Nat.add_assoc]
  simp only [haa]
  refine TT_prim_ld (H := eInt) (x := (xs[l.toNat]'(by omega)).w) hcl hlt1 (ld_cell a3 hg (hc 2 _ rfl)) ?_
  refine ⟨fun _ => hret _ _ _ _ _ _ rfl h1 (by simp), fun _ => ?_⟩
  refine TT_prim_ld (H := eAddr) (x := ⟨g, o + l.toNat * 3, none⟩) hcl hlt1 hld ?_
  simp only [haa]
  refine TT_prim_ld (H := eInt) (x := (xs[l.toNat]'(by omega)).w) hcl hlt1 (ld_cell a3 hg (hc 2 _ rfl)) ?_
  refine ⟨fun _ => hret _ _ _ _ _ _ rfl h1 (by simp), fun _ => ?_⟩
  have hw : wr (l + 1) = l + 1 := wr_id (by omega) (by omega)
  rw [hw]
  exact ⟨_, rfl, l + 1, rfl, ⟨rfl, h1, by omega, by omega⟩, by omega⟩
end Go.Sx
