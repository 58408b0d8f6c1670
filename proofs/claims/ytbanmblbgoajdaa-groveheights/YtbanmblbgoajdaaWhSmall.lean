import Derived.Test.YtbanmblbgoajdaaWhGrove10
set_option linter.unusedVariables false
set_option linter.unusedSimpArgs false
set_option maxHeartbeats 2000000
namespace Go.Sx
open Go.RowKit

/-! ### Small functions: quiet ones -/
def Quiet (P : Program) (f : FuncId) (args : List Value) (v : Value) : Prop := callB P f = true ∧ ∀ w, Calls P f args.toArray w fun e w' => e = .returned v ∧ Below w.heap.size w w'
def none0 : BS := fun _ => False

theorem Quiet.of {c : Cfg} {f : FuncId} {args : List Value} {T : Tree} {v : Value} (hc : c.Ok) (hmix : c.P.follows .mixedOrders = true) (h : FnT c f args T) (ht : ∀ w, TT c.P w.heap.size (fun u _ _ => u = v) T [] Lam.none none0 w) : Quiet c.P f args v :=
  ⟨h.cb, fun w => (h.spec hc hmix (F := none0) (fun b hb => hb.elim) (ht w)).2.mono fun e w' ⟨u, F1, he, hs, hv⟩ => ⟨by rw [he, hv], ⟨hs.fr.os, hs.fr.tape, hs.fr.output, hs.fr.size, fun b hb => hs.fr.block b hb id⟩⟩⟩

theorem Quiet.spec {P : Program} {f : FuncId} {args : List Value} {v : Value} (h : Quiet P f args v) {F : BS} {w : World} (hF : ∀ b, F b → b < w.heap.size) : Spec P f args F w fun u F1 w1 => u = v ∧ F1 = F ∧ ∀ b, F b → w1.heap[b]? = w.heap[b]? :=
  ⟨h.1, (h.2 w).mono fun e w' ⟨he, hb⟩ => ⟨v, F, he, Step.of_below hF hb, rfl, rfl, fun b hb' => hb.block b (hF b hb')⟩⟩

section
variable {P : Program} {B : Nat} {R : Value → BS → World → Prop} {Γ : List Again} {Λ : Lam} {S : BS} {w : World}
/-- A quiet call in a tree. -/
theorem TT_quiet {f : FuncId} {args : List Value} {keep : List Nat} {H : Enc} {k : H.T → Tree} {x : H.T} (hq : Quiet P f args (H.enc x)) (hΓ : ClosedΓ B Γ) (hS : ∀ b, S b → b < w.heap.size)
    (hk : ∀ w1, (∀ b, S b → w1.heap[b]? = w.heap[b]?) → w.heap.size ≤ w1.heap.size → TT P B R (k x) Γ Lam.none S w1) : TT P B R (.call f args.toArray keep H k) Γ Lam.none S w := by
  refine TT_callN (X := fun y F1 w1 => y = x ∧ F1 = S ∧ ∀ b, S b → w1.heap[b]? = w.heap[b]?) hΓ hS (fun w' hk' hsz => (hq.spec fun b hb => Nat.lt_of_lt_of_le (hS b hb) hsz).mono fun v F1 w1 _ ⟨h1, h2, h3⟩ => ⟨x, h1, rfl, h2, fun b hb => (h3 b hb).trans (hk' b hb)⟩) ?_
  rintro y F1 w1 ⟨rfl, rfl, h3⟩ _ _ hsz
  exact hk w1 h3 hsz
end

/-! ### Tides -/
def Tide.plus (t u : Tide) : Tide := if t.n = 0 then u else if u.n = 0 then t else ⟨wr (t.n + u.n), wr (t.sum + u.sum), min t.low (wr (t.sum + u.low))⟩
def Tide.of (xs : List Int) : Tide := xs.foldl (fun t x => t.plus ⟨1, x, x⟩) ⟨0, 0, 0⟩
def eTide : Enc := eAg Tide tideC

structure TI where
  P : Program
  tI : TypeId
  tIS : TypeId
  tTide : TypeId
  fOf : FuncId
  fPlus : FuncId
namespace TI
variable (I : TI)
noncomputable def cfg : Cfg where
  P := I.P
  hint t := GI.lookup t [(I.tI, Hint.ofE eInt), (I.tIS, Hint.ofE eSl), (I.tTide, Hint.ofE eTide)]
  res f := GI.lookup f [(I.fOf, Hint.ofE eTide), (I.fPlus, Hint.ofE eTide)]
  pure _ := none
  meth _ _ := none
def plusT (a b : Tide) : Tree := .ite (a.n == 0) (.ret (ag (tideC b))) (.ite (b.n == 0) (.ret (ag (tideC a))) (.prim (Builtin.min_ #[I.tI, I.tI] I.tI #[iV a.low, iV (wr (a.sum + b.low))]) [] eInt fun (x : Int) => .ret (ag (tideC ⟨wr (a.n + b.n), wr (a.sum + b.sum), x⟩))))
def emb (x : Tide × Int) : List SV := [.box I.tTide (tideC x.1), .v (iV x.2)]
def fcOf : Fc := { lh := [(0, { slots := [3, 8], L := Tide × Int, emb := I.emb })] }
def ofT (s : Sl) : Tree := .loop (I.emb (⟨0, 0, 0⟩, 0)) (Tide × Int) I.emb fun x => .ite (decide (x.2 < (s.n : Int)))
  (.prim (Instr.indexAt I.tIS (slV s) (iV x.2)) [] eAddr fun (a : Addr) => .prim (Instr.loadAt I.tI (.pointer (some a))) [] eInt fun (v : Int) => .call I.fPlus [ag (tideC x.1), ag (tideC ⟨1, v, v⟩)].toArray [] eTide fun (t : Tide) => .again 0 (I.emb (t, wr (x.2 + 1))))
  (.ret (ag (tideC x.1)))
structure Ok : Prop where
  ok : I.cfg.Ok
  mix : I.P.follows .mixedOrders = true
  plus : ∀ a b, FnT I.cfg I.fPlus [ag (tideC a), ag (tideC b)] (I.plusT a b)
  of : ∀ s, FnT I.cfg I.fOf [slV s] (I.ofT s)
  aI : isAggT I.P I.tI = some false
  sI : sizeT I.P I.tI = some 1
  uIS : I.P.underlying I.tIS = some (.slice I.tI)
variable {I}
theorem Ok.plus_q (h : I.Ok) (a b : Tide) : Quiet I.P I.fPlus [ag (tideC a), ag (tideC b)] (ag (tideC (a.plus b))) := by
  refine Quiet.of h.ok h.mix (h.plus a b) fun w => ?_
  unfold plusT Tide.plus
  refine ⟨fun hb => ?_, fun hb => ?_⟩
  · rw [if_pos (by simpa using hb)]; exact fun _ _ => rfl
  · rw [if_neg (by simpa using hb)]
    refine ⟨fun hb => ?_, fun hb => ?_⟩
    · rw [if_pos (by simpa using hb)]; exact fun _ _ => rfl
    · rw [if_neg (by simpa using hb)]
      exact TT_prim_ld (H := eInt) (x := (show Int from min a.low (wr (a.sum + b.low)))) closed_nil (fun b hb => hb.elim) ld_min fun _ _ => rfl

theorem Ok.of_spec (h : I.Ok) {s : Sl} {xs : List Int} {F : BS} {w : World} (hs : RowAt w I.tI intCd s xs) (hF : ∀ b, F b ↔ (slV s).ownBlock = some b) (hn : xs.length < 4611686018427387904) : Spec I.P I.fOf [slV s] F w fun v F1 w1 => v = ag (tideC (Tide.of xs)) ∧ F1 = F := by
  have hlt : ∀ w : World, RowAt w I.tI intCd s xs → ∀ b, F b → b < w.heap.size := fun w hs b hb => hs.lt ((hF b).1 hb)
  refine (h.of s).spec h.ok h.mix (hlt w hs) ?_
  unfold ofT
  refine ⟨fun x S w => S = F ∧ RowAt w I.tI intCd s xs ∧ ∃ k : Nat, k ≤ xs.length ∧ x.2 = k ∧ x.1 = Tide.of (xs.take k), fun x _ _ => (xs.length - x.2).toNat, ?_, ⟨(⟨0, 0, 0⟩, 0), rfl, rfl, hs, 0, Nat.zero_le _, rfl, rfl⟩, ?_⟩
  · rintro x S w w' ⟨rfl, h1, h2⟩ ha
    exact ⟨⟨rfl, h1.keep fun b hb => ha.block b (.inr ((hF b).2 hb)), h2⟩, rfl⟩
  · rintro ⟨t, i⟩ S1 w1 ⟨rfl, h1, k, hk, rfl, rfl⟩ _
    have hsn : s.n = xs.length := h1.1
    have hcl' : ClosedΓ w.heap.size [fun vals S2 w2 => ∃ l', vals = I.emb l' ∧ (S2 = S1 ∧ RowAt w2 I.tI intCd s xs ∧ ∃ k : Nat, k ≤ xs.length ∧ l'.2 = k ∧ l'.1 = Tide.of (xs.take k)) ∧ ((xs.length : Int) - l'.2).toNat < ((xs.length : Int) - (k : Int)).toNat] := by
      intro A hA vals S w2 w' h ha
      simp only [List.mem_singleton] at hA
      subst hA
      obtain ⟨l', e, ⟨rfl, h1, h2⟩, h3⟩ := h
      exact ⟨l', e, ⟨rfl, h1.keep fun b hb => ha.block b (.inr ((hF b).2 hb)), h2⟩, h3⟩
    refine ⟨fun hb => ?_, fun hb => ?_⟩
    · have hlt2 : k < xs.length := by have := of_decide_eq_true hb; simp only at this; omega
      have hx : xs[k]? = some xs[k] := List.getElem?_eq_getElem hlt2
      obtain ⟨g, cur, ha, hg, hh, he, hle, _⟩ := h1.cell hx
      have hl1 := hlt w1 h1
      refine TT_prim_ld (H := eAddr) (x := ⟨g, (k : Int).toNat * 1, none⟩) hcl' hl1 (ld_index (s := s) (i := (k : Int)) h.uIS h.sI ha (by omega) (by omega)) ?_
      refine TT_prim_ld (H := eInt) (x := xs[k]) hcl' hl1 (ld_one ((hF g).2 hg) hh h.aI ?_) ?_
      · have he' : (cur.drop (k * 1)).take 1 = [iV xs[k]] := he
        have h2 := congrArg (·[0]?) he'
        simp only [List.getElem?_cons_zero] at h2
        rw [List.getElem?_take_of_lt (by omega), List.getElem?_drop, Nat.add_zero] at h2
        rw [show (k : Int).toNat * 1 = k * 1 by omega, h2]; rfl
      refine TT_quiet (x := (Tide.of (xs.take k)).plus ⟨1, xs[k], xs[k]⟩) (h.plus_q _ _) hcl' hl1 ?_
      intro w2 hk2 hsz2
      refine ⟨_, rfl, _, rfl, ⟨rfl, h1.keep fun b hb => hk2 b ((hF b).2 hb), k + 1, hlt2, ?_, ?_⟩, ?_⟩
      · simp only; rw [wr_id (by omega) (by omega)]; omega
      · simp only; rw [List.take_add_one, hx]; simp only [Tide.of, Option.toList_some, List.foldl_append, List.foldl_cons, List.foldl_nil]
      · simp only; rw [wr_id (by omega) (by omega)]; omega
    · have hge : k = xs.length := by have := of_decide_eq_false hb; simp only at this; omega
      intro w2 ha
      subst hge
      exact ⟨by rw [List.take_length], rfl⟩
end TI
end Go.Sx
namespace Go.Sx
open Go.RowKit
theorem TT_row {P : Program} {B : Nat} {R : Value → BS → World → Prop} {Γ : List Again} {Λ : Lam} {S : BS} {w : World} {t e : TypeId} {len : Nat} {parts : Array (Nat × Value)} {cs : List Value} {k : Sl → Tree} (h : rowCells P t len parts.toList = some (cs.toArray, e)) (hΓ : ClosedΓ B Γ) (hS : ∀ b, S b → b < w.heap.size)
    (hk : ∀ b w1, w1.heap[b]? = some (.cells cs.toArray e (0, 0)) → ¬ S b → (∀ b', S b' → w1.heap[b']? = w.heap[b']?) → w.heap.size ≤ w1.heap.size → w.heap.size ≤ b → TT P B R (k ⟨some ⟨b, 0, none⟩, len, len⟩) Γ Lam.none (fun b' => b' = b ∨ S b') w1) :
    TT P B R (.prim (Instr.buildSlice t len parts) [] eSl k) Γ Λ S w := by
  intro w' ha
  have hlt : ∀ b, S b → b < w'.heap.size := fun b hb => Nat.lt_of_lt_of_le (hS b hb) ha.size
  have hold : ∀ b, b < w'.heap.size → (w'.alloc (.cells cs.toArray e)).heap[b]? = w'.heap[b]? := fun b hb => Below.heap_alloc w' _ b hb
  have hsz : (w'.alloc (.cells cs.toArray e)).heap.size = w'.heap.size + 1 := World.size_alloc w' _
  refine ⟨⟨some ⟨w'.heap.size, 0, none⟩, len, len⟩, fun b' => b' = w'.heap.size ∨ S b', w'.alloc (.cells cs.toArray e), run_row h, ⟨⟨rfl, rfl, rfl, by rw [hsz]; exact Nat.le_succ _, fun b hb _ => hold b hb⟩, fun b hb => ?_, fun b hb => ?_⟩, ?_, ?_⟩
  · rcases hb with rfl | hb
    · exact .inr (Nat.le_refl _)
    · exact .inl hb
  · rw [hsz]
    rcases hb with rfl | hb
    · exact Nat.lt_succ_self _
    · exact Nat.lt_succ_of_lt (hlt b hb)
  · rw [lam_cut_nil]; exact lam_none_ok
  · rw [lam_cut_nil]
    exact hk _ _ (heap_new w' _) (fun h => Nat.lt_irrefl _ (hlt _ h)) (fun b' hb' => (hold b' (hlt b' hb')).trans (ha.block b' (.inr hb'))) (by rw [hsz]; exact Nat.le_succ_of_le ha.size) ha.size

theorem RowAt.fresh {T : Type} {w : World} {e : TypeId} {C : Codec T} {b : Nat} {xs : List T} (h : w.heap[b]? = some (.cells (flat C xs).toArray e (0, 0))) (hl : xs.length ≤ maxLen) : RowAt w e C ⟨some ⟨b, 0, none⟩, xs.length, xs.length⟩ xs :=
  ⟨rfl, flat_len C xs, .inr ⟨b, xs.length, (flat C xs).toArray, rfl, Nat.zero_le _, h, Nat.le_refl _, hl, by simp [flat_len], by simp [← flat_len C xs]⟩⟩
end Go.Sx
