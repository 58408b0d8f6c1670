import Derived.Test.YtbanmblbgoajdaaWhRow1
import Derived.ChangeArms
set_option linter.unusedVariables false
namespace Go.Proofs.Ytbanmblbgoajdaa.GroveHeightsRow
open Go.ChangeShapes Go.WideShapes Go.ChangeAt Go.RowKit Go.Sx Go.Deep
theorem own : ownKnob Try.prog.godebug = none := by kernel_rfl
theorem laidOut : laidOutB Try.prog = true := by kernel_rfl
theorem acts {H : Type} {enc : TypeId × Value → H} {w : World} {base : Nat} {spare : Nat → Bool} {held : Bool} {fs : Array Field} (hu : Try.prog.underlying 41 = some (.struct fs)) (hfs : fs.map (·.type) = #[3, 3, 3]) (hone : oneCellFields Try.prog fs = true) (hC : Try.prog.cellsOf 41 = fs.size)
    {a : Option Addr} {n c fuel : Nat} {x : DataW H × List MemPlace} (h : DataW.trod enc Try.prog w base spare held fuel 32 [.slice a n c] = some x) : ∃ xs : List ActE, ArgRow w actCd ⟨a, n, c⟩ xs := by
  have hsz : fs.size = 3 := by have := congrArg Array.size hfs; simpa using this
  rcases openFields u32 hu hone hC h with h0 | ⟨b, len, cap, hcs, hf⟩
  · simp only [List.cons.injEq, Value.slice.injEq, and_true] at h0
    obtain ⟨rfl, rfl, rfl⟩ := h0
    exact ⟨[], rfl, fun i x hx => by simp at hx⟩
  · simp only [List.cons.injEq, Value.slice.injEq, and_true] at hcs
    obtain ⟨rfl, rfl, rfl⟩ := hcs
    have hint : ∀ i, i < n → ∀ j, j < 3 → ∃ z : Int, w.cell? (b.add (i * 3 + j)) = some (.int .i64 z) := by
      intro i hi j hj
      have hfj : fs[j]? = some (fs[j]'(by omega)) := Array.getElem?_eq_getElem (by omega)
      obtain ⟨v, m, y, h1, h2⟩ := hf i hi j _ hfj
      have ht : (fs[j]'(by omega)).type = 3 := by
        have : (fs.map (·.type))[j]? = some 3 := by
          rw [hfs]
          match j, hj with
          | 0, _ => rfl
          | 1, _ => rfl
          | 2, _ => rfl
        rw [Array.getElem?_map, hfj] at this
        simpa using this
      rw [ht] at h2
      obtain ⟨z, hz, _⟩ := DataW.trod_int (k := .i64) (by kernel_rfl) h2
      simp only [List.cons.injEq, and_true] at hz
      rw [hsz] at h1
      exact ⟨z, by rw [h1, hz]⟩
    have hpick : ∀ i, ∃ x : ActE, i < n → w.cell? (b.add (i * 3 + 0)) = some (.int .i64 x.kind) ∧ w.cell? (b.add (i * 3 + 1)) = some (.int .i64 x.k) ∧ w.cell? (b.add (i * 3 + 2)) = some (.int .i64 x.w) := by
      intro i
      by_cases hi : i < n
      · obtain ⟨z0, h0⟩ := hint i hi 0 (by omega)
        obtain ⟨z1, h1⟩ := hint i hi 1 (by omega)
        obtain ⟨z2, h2⟩ := hint i hi 2 (by omega)
        exact ⟨⟨z0, z1, z2⟩, fun _ => ⟨h0, h1, h2⟩⟩
      · exact ⟨⟨0, 0, 0⟩, fun h => absurd h hi⟩
    refine ⟨(List.range n).map fun i => (hpick i).choose, by simp, fun i x hx => ?_⟩
    have hi : i < n := by have := (List.getElem?_eq_some_iff.1 hx).1; simpa using this
    have hxe : x = (hpick i).choose := by
      rw [List.getElem?_map, List.getElem?_range hi] at hx
      simpa using hx.symm
    obtain ⟨c0, c1, c2⟩ := (hpick i).choose_spec hi
    rw [← hxe] at c0 c1 c2
    have hspot : b.spot = none := by
      obtain ⟨z, hz⟩ := hint 0 (by omega) 0 (by omega)
      have h0 : b.add (0 * 3 + 0) = b := by simp [Addr.add]
      rw [h0] at hz
      unfold World.cell? at hz
      cases hs : b.spot with
      | none => rfl
      | some q =>
        rw [hs] at hz
        split at hz
        · simp at hz
        · cases hz
    have hb : ∀ k, b.add k = ⟨b.block, b.off + k, none⟩ := fun k => by
      obtain ⟨bb, bo, bs⟩ := b
      simp only at hspot; subst hspot
      exact Addr.add_mid _ _ _
    refine ⟨b.block, b.off, by obtain ⟨bb, bo, bs⟩ := b; simp only at hspot; subst hspot; rfl, fun k v hv => ?_⟩
    rw [hb] at c0 c1 c2
    match k, hv with
    | 0, hv => simp [actCd, mkCd, actC] at hv; subst hv; exact c0
    | 1, hv => simp [actCd, mkCd, actC] at hv; subst hv; exact c1
    | 2, hv => simp [actCd, mkCd, actC] at hv; subst hv; exact c2
    | k + 3, hv => simp [actCd, mkCd, actC] at hv

set_option maxRecDepth 100000 in
theorem lifted (os : Os) (started : os.Started) (H : Type) (enc : TypeId × Value → H) :
    ReturnsInHanded {} Try.checked os 4 .any (Rows.groveHeightsSpec.pre6 enc Try.prog Try.f4 Rows.groveHeightsRow.domain false) (Rows.groveHeightsSpec.post enc Try.prog Try.f4 false true false false) := by
  refine returnsInHanded_of_change_sized (C := Try.checked) own started (by kernel_rfl) Try.func4
    (ChangeSpec.witness6 (enc := enc) (C := Try.checked) false ⟨#[], #[.slice none 0 0, .int .i64 0], []⟩ 8 (by kernel_rfl) (by kernel_rfl) (by kernel_rfl) (by kernel_rfl)) ?_
  intro W base args ds gs before hval0 hW hcnd hsz0 _
  have hval : ∀ (j : Nat) t v, Try.f4.params[j]? = some t → args[j]? = some v → Value.okWide Try.prog W .any base t v := hval0
  have hW' := hW
  obtain ⟨p, q, hA0, hV, rfl, hfz, hnd⟩ := hW
  have hA : DataW.TrodAll enc Try.prog W 0 (fun _ => true) true Try.f4.params.toList args.toList ds p := hA0
  rw [Try.params4] at hA hval
  obtain ⟨v0, vs0, d0, ds0, p0, q0, hargs, rfl, rfl, h0, r0⟩ := trodAll_cons hA
  obtain ⟨v1, vs1, d1, ds1, p1, q1, rfl, rfl, rfl, h1, r1⟩ := trodAll_cons r0
  obtain ⟨rfl, rfl, rfl⟩ := trodAll_nil r1
  obtain rfl : args = #[v0, v1] := by cases args; simp_all
  obtain ⟨rfl, rfl⟩ := trodVars_none hV
  obtain ⟨a0, len0, cap0, rfl⟩ := okWide_slice Try.underlying32 (hval 0 32 v0 rfl rfl)
  have k0 := h0
  have lt0 : ∀ x ∈ p0, x.block < W.heap.size := by obtain ⟨m, hm⟩ := k0; exact DataW.trod_lt m _ _ _ hm
  obtain ⟨xs, hxs⟩ : ∃ xs : List ActE, ArgRow W actCd ⟨a0, len0, cap0⟩ xs := by
    obtain ⟨fuel, hf⟩ := h0
    exact acts Try.underlying41 (by kernel_rfl) (by kernel_rfl) (by kernel_rfl) hf
  obtain ⟨a1, rfl, rfl, rfl, w1⟩ := open_int Try.underlying3 (hval 1 3 v1 rfl rfl) h1
  clear hA0 hval0 hsz0
  refine (heights_calls (m := a1) hxs).mono fun e W' ⟨he, bel⟩ => ?_
  subst he
  exact ⟨_, rfl, _, _, _, [], _, [], hW', trodAll_mk1 (shut_bool Try.underlying4 _), (trodAll_cons_mk (Below.trod laidOut (by kernel_rfl) (of_decide_eq_true (by kernel_rfl)) k0 bel lt0) (trodAll_cons_mk (shut_int Try.underlying3 w1) trodAll_mk0)), rfl, bel.frame _, fun h => by cases h⟩
theorem over : Rows.groveHeightsRow.holds Try.pinned (OpenSpec.ofChange Rows.groveHeightsSpec) :=
  OpenClaim.holds_of_wide 4 Try.f4 rfl rfl rfl rfl rfl rfl rfl ⟨rfl, rfl, rfl, rfl, rfl⟩ rfl rfl rfl rfl rfl (by kernel_rfl) Try.func4 (by kernel_rfl)
    (of_decide_eq_true (by kernel_rfl)) (by unfold Func.isWrapper; first | (rw [if_pos (by decide +kernel)]; kernel_rfl) | (rw [if_neg (by decide +kernel)]; exact ⟨rfl, rfl⟩))
    (fun os started H enc _ => lifted os started H enc)
theorem proved : Rows.GroveHeightsSaid := over
#print axioms proved
end Go.Proofs.Ytbanmblbgoajdaa.GroveHeightsRow
