import Derived.Test.YtbanmblbgoajdaaWhJ2
import Derived.Deep.Upon
import Derived.KernelRfl
import Derived.Laws.StructEq
import Derived.LaidEql
import Derived.WalkKit
import Derived.ProofKit
import Derived.OpenShut
import Derived.ShutString
import Derived.ChangeOld
import Derived.Below
import Derived.SizedLaws
import Derived.Deep.Slices
import Derived.Deep.Fields
import Derived.ChangeSame
import Derived.ChangeArms
import Derived.Test.YtbanmblbgoajdaaRows
set_option linter.unusedVariables false
set_option maxHeartbeats 4000000
namespace Go.Sx
open GI Go.RowKit

theorem run_s {s : Sl} {xs : List ActE} {m : Int} {w0 w : World} (B : Nat) (h : ArgRow w0 actCd s xs) (hlen : xs.length ≤ 60) (hk : ∀ b, argG s b → w.heap[b]? = w0.heap[b]?) (hlt : ∀ b, argG s b → b < w.heap.size) : TT Go.Proofs.Try.prog B (RH s w0) (runT s m) [] Lam.none (argG s) w := by
  unfold runT
  have hG0 := argG_lt h
  refine TT_call (H := eBlk) (F := none0) (G := argG s) (X := fun (x : Nat) F1 w1 => ∃ q, eI.GAt x (px q) ⟨0, 0⟩ (pool0 El Tide 400) 0 F1 w1) closed_nil (fun b => by simp [none0]) hlt (fun b _ hb => hb) (fun w' _ _ => (New_g e_ty e_t4 400 0 (by omega) w').mono fun v F1 w1 _ ⟨x, q, h1, h2⟩ => ⟨x, h1, q, h2⟩) ?_
  rintro t F1 w1 ⟨q, hG⟩ hlt1 hnew hGk hsz
  rw [lam_cut_nil]
  refine ⟨lam_none_ok, ?_⟩
  have hk1 : ∀ b, argG s b → w1.heap[b]? = w0.heap[b]? := fun b hb => (hGk b hb).trans (hk b hb)
  have hG1 := GAt.beside hG0 hG (fun b hb hF => by
    rcases hnew b hF with h1 | h1
    · exact h1
    · exact Nat.lt_irrefl _ (Nat.lt_of_lt_of_le (hlt b hb) h1)) hk1
  refine (?_ : eI.LT t (pxA q w0 (argG s) hG0) ⟨0, 0⟩ (pool0 El Tide 400) 0 B [] (RH s w0) _) _ w1 hG1
  have hn := h.n
  refine LT.loop (fun l r σ n => 0 ≤ l ∧ l ≤ 6 * (xs.length : Int) ∧ ∃ tr, HInv l r σ n tr) (fun l => (6 * (xs.length : Int) - l).toNat) (0 : Int) rfl ⟨by omega, by omega, .nil, ⟨rfl, trivial, List.nodup_nil, trivial, by simp [BT.size], rfl, by omega⟩⟩ ?_
  rintro Γ l r1 σ1 n1 ⟨hl0, hl1, tr, hi⟩ hcl hag
  have hw : wr (6 * (s.n : Int)) = 6 * (xs.length : Int) := by rw [hn, wr_id (by omega) (by omega)]
  rw [hw]
  refine LT.ite (fun hb => ?_) (fun _ => LT.ret fun F w hGA => ?_)
  · have hl := of_decide_eq_true hb
    refine step_s hcl (fun w hK => h.keep hK) (fun b hb => hb) hlen hl0 hl hi (fun r2 σ2 n2 tr2 hi2 => hag (l + 1) r2 σ2 n2 _ rfl ⟨by omega, by omega, tr2, hi2⟩ (by omega)) ⟨w0, fun b hb => rfl⟩
  · obtain ⟨Fp, rfl, h1, ⟨h2, hx1, hx2, hx3⟩, h3⟩ := hGA
    exact ⟨rfl, hx3⟩

theorem heights_s {s : Sl} {xs : List ActE} {m : Int} {w0 : World} (h : ArgRow w0 actCd s xs) : Spec Go.Proofs.Try.prog 4 [slV s, iV m] (argG s) w0 (RH s w0) := by
  have hG0 := argG_lt h
  refine (heights_t s m).spec l7_ok try_mix hG0 ?_
  unfold heightsT
  refine TT_quiet (x := true) awake_q closed_nil hG0 fun w1 h1 hs1 => ?_
  have hlt1 : ∀ b, argG s b → b < w1.heap.size := fun b hb => Nat.lt_of_lt_of_le (hG0 b hb) hs1
  refine ⟨fun hb => absurd hb (by simp), fun _ => ?_⟩
  refine TT_callN (H := eBool) (X := fun (b : Bool) F1 w2 => F1 = argG s ∧ (∀ q, argG s q → w2.heap[q]? = w0.heap[q]?) ∧ (b = true → (xs.length : Int) ≤ 60)) closed_nil hlt1 (fun w' hk _ => (small_s (m := 60) (h.keep fun q hq => (hk q hq).trans (h1 q hq)) (by omega)).mono fun v F1 w2 _ ⟨b, e1, e2, e3, e4⟩ => ⟨b, e1, e2, fun q hq => (e3 q hq).trans ((hk q hq).trans (h1 q hq)), e4⟩) ?_
  rintro b F1 w2 ⟨rfl, h2, h3⟩ hlt2 _ _
  refine ⟨fun _ => awakeC_s hlt2 (fun _ hb => hb) h2, fun hb => ?_⟩
  have hb' : b = true := by revert hb; cases b with | true => exact fun _ => rfl | false => exact fun h => absurd h (by simp)
  have := h3 hb'
  exact run_s _ h (by omega) h2 hlt2

/-- The law, as a call. -/
theorem heights_calls {s : Sl} {xs : List ActE} {m : Int} {w0 : World} (h : ArgRow w0 actCd s xs) : Calls Go.Proofs.Try.prog 4 #[slV s, iV m] w0 fun e w' => e = .returned (.bool true) ∧ Below w0.heap.size w0 w' :=
  (heights_s (m := m) h).2.mono fun e w' ⟨v, F1, he, hs, hv, hk⟩ => ⟨by rw [he, hv], ⟨hs.fr.os, hs.fr.tape, hs.fr.output, hs.fr.size, fun b hb => by
    by_cases hg : argG s b
    · exact hk b hg
    · exact hs.fr.block b hb hg⟩⟩
end Go.Sx

set_option linter.unusedVariables false
set_option maxHeartbeats 1000000
namespace Go.Sx
open Go.RowKit

/-! ### What is said of some memory -/
structure Asn where
  at_ : BS → World → Prop
  keep : ∀ {F : BS} {w w' : World}, at_ F w → (∀ b, F b → w'.heap[b]? = w.heap[b]?) → at_ F w'
  lt : ∀ {F : BS} {w : World}, at_ F w → ∀ b, F b → b < w.heap.size

namespace Asn
def emp : Asn := ⟨fun F _ => F = none0, fun h _ => h, fun h b hb => by subst h; exact hb.elim⟩
def sep (A C : Asn) : Asn where
  at_ F w := ∃ F1 F2, F = (fun b => F1 b ∨ F2 b) ∧ (∀ b, F1 b → ¬ F2 b) ∧ A.at_ F1 w ∧ C.at_ F2 w
  keep := by
    rintro F w w' ⟨F1, F2, rfl, hd, h1, h2⟩ hk
    exact ⟨F1, F2, rfl, hd, A.keep h1 fun b hb => hk b (.inl hb), C.keep h2 fun b hb => hk b (.inr hb)⟩
  lt := by
    rintro F w ⟨F1, F2, rfl, hd, h1, h2⟩ b (hb | hb)
    · exact A.lt h1 b hb
    · exact C.lt h2 b hb
def wh (A : Asn) (p : Prop) : Asn := ⟨fun F w => A.at_ F w ∧ p, fun h hk => ⟨A.keep h.1 hk, h.2⟩, fun h => A.lt h.1⟩
universe u
def ex {ι : Sort u} (A : ι → Asn) : Asn := ⟨fun F w => ∃ i, (A i).at_ F w, fun ⟨i, h⟩ hk => ⟨i, (A i).keep h hk⟩, fun ⟨i, h⟩ => (A i).lt h⟩
def Imp (A C : Asn) : Prop := ∀ F w, A.at_ F w → C.at_ F w

section
variable {A C D E : Asn}
theorem Imp.refl (A : Asn) : A.Imp A := fun _ _ h => h
theorem Imp.trans (h : A.Imp C) (k : C.Imp D) : A.Imp D := fun F w ha => k F w (h F w ha)
theorem Imp.sep (h : A.Imp C) (k : D.Imp E) : (A.sep D).Imp (C.sep E) := fun F w ⟨F1, F2, e, hd, h1, h2⟩ => ⟨F1, F2, e, hd, h F1 w h1, k F2 w h2⟩
theorem sep_comm : (A.sep C).Imp (C.sep A) := fun F w ⟨F1, F2, e, hd, h1, h2⟩ => ⟨F2, F1, by rw [e]; funext b; exact propext Or.comm, fun b hb hb' => hd b hb' hb, h2, h1⟩
theorem sep_assoc : ((A.sep C).sep D).Imp (A.sep (C.sep D)) := by
  rintro F w ⟨F0, F3, rfl, hd, ⟨F1, F2, rfl, hd2, h1, h2⟩, h3⟩
  exact ⟨F1, fun b => F2 b ∨ F3 b, by funext b; exact propext or_assoc, fun b hb hb' => hb'.elim (hd2 b hb) (hd b (.inl hb)), h1, F2, F3, rfl, fun b hb => hd b (.inr hb), h2, h3⟩
theorem sep_assoc' : (A.sep (C.sep D)).Imp ((A.sep C).sep D) := by
  rintro F w ⟨F1, F0, rfl, hd, h1, F2, F3, rfl, hd2, h2, h3⟩
  exact ⟨fun b => F1 b ∨ F2 b, F3, by funext b; exact propext or_assoc.symm, fun b hb hb' => hb.elim (fun h => hd b h (.inr hb')) (fun h => hd2 b h hb'), ⟨F1, F2, rfl, fun b hb hb' => hd b hb (.inl hb'), h1, h2⟩, h3⟩
theorem sep_emp : (A.sep emp).Imp A := by
  rintro F w ⟨F1, F2, rfl, hd, h1, h2⟩
  have : F2 = none0 := h2
  subst this
  have e : (fun b => F1 b ∨ none0 b) = F1 := by funext b; simp [none0]
  rw [e]; exact h1
theorem emp_sep : (emp.sep A).Imp A := sep_comm.trans sep_emp
theorem sep_emp' : A.Imp (A.sep emp) := fun F w h => ⟨F, none0, by funext b; simp [none0], fun b _ hb => hb, h, rfl⟩
theorem sep_swap : (A.sep (C.sep D)).Imp (C.sep (A.sep D)) := sep_assoc'.trans ((Imp.sep sep_comm (Imp.refl _)).trans sep_assoc)
theorem imp_ex {ι : Sort u} {G : ι → Asn} (i : ι) (h : A.Imp (G i)) : A.Imp (ex G) := fun F w ha => ⟨i, h F w ha⟩
theorem imp_wh {p : Prop} (hp : p) (h : A.Imp C) : A.Imp (C.wh p) := fun F w ha => ⟨h F w ha, hp⟩
end
end Asn
open Asn

/-! ### A walk's frame -/
structure Jc where
  P : Program
  B : Nat
  Γ : List Again
  R : Value → BS → World → Prop
def AT (J : Jc) (Λ : Lam) (A : Asn) (T : Tree) : Prop := ClosedΓ J.B J.Γ → ∀ F w, A.at_ F w → Λ.ok J.P J.B F w → TT J.P J.B J.R T J.Γ Λ F w
def RQ (H : Enc) (Y : Type) (φ : H.T → Y → Prop) (Q : H.T → Y → Asn) : Value → BS → World → Prop := fun v F w => ∃ x y, v = H.enc x ∧ φ x y ∧ (Q x y).at_ F w
/-- A function's contract: what it needs, what it gives (a value x and words y), what is known of these. -/
def Fn (P : Program) (f : FuncId) (args : List Value) (A : Asn) (H : Enc) (Y : Type) (φ : H.T → Y → Prop) (Q : H.T → Y → Asn) : Prop :=
  ∀ F w, A.at_ F w → Spec P f args F w (RQ H Y φ Q)

theorem Fn.of {P : Program} {c : Cfg} {f : FuncId} {args : List Value} {T : Tree} {A : Asn} {H : Enc} {Y : Type} {φ : H.T → Y → Prop} {Q : H.T → Y → Asn} (hP : c.P = P) (hc : c.Ok) (hmix : P.follows .mixedOrders = true) (hf : FnT c f args T)
    (h : ∀ B, AT ⟨P, B, [], RQ H Y φ Q⟩ Lam.none A T) : Fn P f args A H Y φ Q := fun F w hA => by
  subst hP
  exact hf.spec hc hmix (A.lt hA) (h _ closed_nil F w hA lam_none_ok)

section
variable {P : Program} {f : FuncId} {args : List Value} {A C D : Asn} {H : Enc} {Y : Type} {φ : H.T → Y → Prop} {Q : H.T → Y → Asn}
theorem Fn.imp (h : Fn P f args A H Y φ Q) (hA : C.Imp A) : Fn P f args C H Y φ Q := fun F w hC => h F w (hA F w hC)
theorem Fn.post {Y' : Type} {φ' : H.T → Y' → Prop} {Q' : H.T → Y' → Asn} (h : Fn P f args A H Y φ Q) (hq : ∀ x y, φ x y → ∃ y', φ' x y' ∧ (Q x y).Imp (Q' x y')) : Fn P f args A H Y' φ' Q' := fun F w hA =>
  (h F w hA).mono fun v F1 w1 _ ⟨x, y, hv, hp, hQ⟩ => let ⟨y', h1, h2⟩ := hq x y hp; ⟨x, y', hv, h1, h2 _ _ hQ⟩
theorem Fn.frame (C : Asn) (h : Fn P f args A H Y φ Q) : Fn P f args (A.sep C) H Y φ fun x y => (Q x y).sep C := by
  rintro F w ⟨F1, F2, rfl, hd, h1, h2⟩
  have hs := h F1 w h1
  refine ⟨hs.1, hs.2.mono ?_⟩
  rintro e w1 ⟨v, F3, he, hst, x, y, hv, hp, hQ⟩
  refine ⟨v, fun b => F3 b ∨ F2 b, he, hst.frame (C.lt h2), x, y, hv, hp, F3, F2, rfl, fun b hb hb2 => ?_, hQ, C.keep h2 fun b hb => hst.fr.block b (C.lt h2 b hb) fun h => hd b h hb⟩
  rcases hst.new b hb with h' | h'
  · exact hd b h' hb2
  · exact Nat.lt_irrefl _ (Nat.lt_of_lt_of_le (C.lt h2 b hb2) h')
theorem Fn.frameL (C : Asn) (h : Fn P f args A H Y φ Q) : Fn P f args (C.sep A) H Y φ fun x y => C.sep (Q x y) := ((h.frame C).imp sep_comm).post fun x y hp => ⟨y, hp, sep_comm⟩
end

section
variable {J : Jc} {Λ : Lam} {A C D X : Asn}
theorem AT.imp {T : Tree} (hA : A.Imp C) (h : AT J Λ C T) : AT J Λ A T := fun hΓ F w ha hl => h hΓ F w (hA F w ha) hl
theorem AT.ret {P : Program} {B : Nat} {Γ : List Again} {H : Enc} {Y : Type} {φ : H.T → Y → Prop} {Q : H.T → Y → Asn} {v : Value} (x : H.T) (y : Y) (hv : v = H.enc x) (hp : φ x y) (hA : A.Imp (Q x y)) : AT ⟨P, B, Γ, RQ H Y φ Q⟩ Λ A (.ret v) := fun _ F w ha _ w' hag =>
  ⟨x, y, hv, hp, hA F w' (A.keep ha fun b hb => hag.block b (.inr hb))⟩
theorem AT.ite {b : Bool} {T1 T2 : Tree} (h1 : b = true → AT J Λ A T1) (h2 : b = false → AT J Λ A T2) : AT J Λ A (.ite b T1 T2) := fun hΓ F w ha hl => ⟨fun hb => h1 hb hΓ F w ha hl, fun hb => h2 hb hΓ F w ha hl⟩
theorem AT.iteD {p : Prop} [Decidable p] {T1 T2 : Tree} (h1 : p → AT J Λ A T1) (h2 : ¬ p → AT J Λ A T2) : AT J Λ A (.ite (decide p) T1 T2) := AT.ite (fun h => h1 (of_decide_eq_true h)) (fun h => h2 (of_decide_eq_false h))
theorem AT.iteN {b : Bool} {T1 T2 : Tree} (h1 : b = false → AT J Λ A T1) (h2 : b = true → AT J Λ A T2) : AT J Λ A (.ite (!b) T1 T2) := AT.ite (fun h => h1 (by simpa using h)) (fun h => h2 (by simpa using h))
theorem AT.iteE {x y : Int} {T1 T2 : Tree} (h1 : x = y → AT J Λ A T1) (h2 : x ≠ y → AT J Λ A T2) : AT J Λ A (.ite (x == y) T1 T2) := AT.ite (fun h => h1 (eq_of_beq h)) (fun h => h2 fun e => by subst e; simp at h)
theorem AT.endS {T : Tree} (h : AT J Lam.none A T) : AT J Λ A (.endS T) := fun hΓ F w ha _ => h hΓ F w ha lam_none_ok

/-- A call; what is owned beside is kept. -/
theorem AT.callK {f : FuncId} {args : List Value} {keep : List Nat} {H : Enc} {Y : Type} {φ : H.T → Y → Prop} {Q : H.T → Y → Asn} {k : H.T → Tree} (hf : Fn J.P f args A H Y φ Q) (hΛ : ∀ x y F w, (Q x y).at_ F w → (Λ.cut keep).ok J.P J.B F w)
    (hk : ∀ x y, φ x y → AT J (Λ.cut keep) (Q x y) (k x)) : AT J Λ A (.call f args.toArray keep H k) := by
  intro hΓ F w ha hl
  refine ⟨(hf F w ha).1, fun w' hag => ?_⟩
  refine (hf F w' (A.keep ha fun b hb => hag.block b (.inr hb))).2.mono ?_
  rintro e w1 ⟨v, F1, he, hst, x, y, hv, hp, hQ⟩
  exact ⟨x, F1, by rw [he, hv], hst, hΛ x y F1 w1 hQ, hk x y hp hΓ F1 w1 hQ (hΛ x y F1 w1 hQ)⟩
theorem cut_none {keep : List Nat} : Lam.none.cut keep = Lam.none := by funext d m v; simp [Lam.cut, Lam.none]
theorem AT.call {f : FuncId} {args : List Value} {keep : List Nat} {H : Enc} {Y : Type} {φ : H.T → Y → Prop} {Q : H.T → Y → Asn} {k : H.T → Tree} (hf : Fn J.P f args A H Y φ Q) (hk : ∀ x y, φ x y → AT J Lam.none (Q x y) (k x)) : AT J Lam.none A (.call f args.toArray keep H k) :=
  AT.callK hf (fun x y F w _ => by rw [cut_none]; exact lam_none_ok) fun x y hp => by rw [cut_none]; exact hk x y hp
theorem AT.call0 {f : FuncId} {args : List Value} {H : Enc} {Y : Type} {φ : H.T → Y → Prop} {Q : H.T → Y → Asn} {k : H.T → Tree} (hf : Fn J.P f args A H Y φ Q) (hk : ∀ x y, φ x y → AT J Lam.none (Q x y) (k x)) : AT J Λ A (.call f args.toArray [] H k) :=
  AT.callK hf (fun x y F w _ => by rw [lam_cut_nil]; exact lam_none_ok) fun x y hp => by rw [lam_cut_nil]; exact hk x y hp

/-- A look. -/
theorem AT.ld {m : Sem Value} {H : Enc} {k : H.T → Tree} (x : H.T) (hl : ∀ F w, A.at_ F w → Ld J.P F w m (H.enc x)) (hk : AT J Lam.none A (k x)) : AT J Λ A (.prim m [] H k) := fun hΓ F w ha _ =>
  TT_prim_ld hΓ (A.lt ha) (hl F w ha) (hk hΓ F w ha lam_none_ok)
theorem AT.ldS {d : Nat} {m : Sem Value} {H : Enc} {k : H.T → Tree} (x : H.T) (hl : ∀ F w, A.at_ F w → Ld J.P F w m (H.enc x)) (hk : AT J (Λ.add d m (H.enc x)) A (k x)) : AT J Λ A (.loadS d m H k) := fun hΓ F w ha hΛ =>
  TT_loadS_ld (hl F w ha) (hk hΓ F w ha fun d' m' v' h => by
    rcases h with h | ⟨rfl, rfl, rfl⟩
    · exact hΛ d' m' v' h
    · exact (hl F w ha).stab _)
/-- A look that any memory answers alike may be kept through calls. -/
theorem lamOk_pure {P : Program} {B : Nat} {keep : List Nat} {d : Nat} {m : Sem Value} {v : Value} (hl : ∀ S w, Ld P S w m v) {F' : BS} {w' : World} (h' : (Λ.cut keep).ok P B F' w') : ((Λ.add d m v).cut keep).ok P B F' w' := by
  rintro d' m' v' ⟨h1, h2⟩
  rcases h1 with h1 | ⟨rfl, rfl, rfl⟩
  · exact h' d' m' v' ⟨h1, h2⟩
  · exact (hl F' w').stab _

/-- A loop. -/
theorem AT.loop {L : Type} {emb : L → List SV} {body : L → Tree} {init : List SV} {Y : Type} (I : L → Y → Prop) (N : L → Y → Asn) (μ : L → Nat) (l0 : L) (y0 : Y) (hi : init = emb l0) (h0 : I l0 y0) (hA : A.Imp (N l0 y0))
    (hb : ∀ G l y, I l y → (∀ l' y', I l' y' → μ l' < μ l → ∀ F w, (N l' y').at_ F w → G (emb l') F w) → AT ⟨J.P, J.B, G :: J.Γ, J.R⟩ Lam.none (N l y) (body l)) : AT J Λ A (.loop init L emb body) := by
  intro hΓ F w ha _
  refine ⟨fun l S w => ∃ y, I l y ∧ (N l y).at_ S w, fun l _ _ => μ l, ?_, ⟨l0, hi, y0, h0, hA F w ha⟩, ?_⟩
  · rintro l S w w' ⟨y, h1, h2⟩ hag
    exact ⟨⟨y, h1, (N l y).keep h2 fun b hb => hag.block b (.inr hb)⟩, rfl⟩
  · rintro l S1 w1 ⟨y, h1, h2⟩ _
    refine hb _ l y h1 (fun l' y' hi' hm F w hN => ⟨l', rfl, ⟨y', hi', hN⟩, hm⟩) ?_ S1 w1 h2 lam_none_ok
    intro A' hA' vals S w w' h hag
    rcases List.mem_cons.1 hA' with rfl | hA'
    · obtain ⟨l', e, ⟨y', h3, h4⟩, h5⟩ := h
      exact ⟨l', e, ⟨y', h3, (N l' y').keep h4 fun b hb => hag.block b (.inr hb)⟩, h5⟩
    · exact hΓ A' hA' vals S w w' h hag
theorem AT.again {d : Nat} {G : Again} {vals : List SV} (hd : J.Γ[d]? = some G) (h : ∀ F w, A.at_ F w → G vals F w) : AT J Λ A (.again d vals) := fun _ F w ha _ => ⟨G, hd, h F w ha⟩
end

/-! ### Memory that stays -/
structure Zn where
  Z : BS
  w : World
  lt : ∀ b, Z b → b < w.heap.size
def fz (z : Zn) : Asn where
  at_ F w := (∀ b, z.Z b → F b ∧ w.heap[b]? = z.w.heap[b]?) ∧ ∀ b, F b → b < w.heap.size
  keep := by
    rintro F w w' ⟨h, hl⟩ hk
    refine ⟨fun b hb => ⟨(h b hb).1, (hk b (h b hb).1).trans (h b hb).2⟩, fun b hb => ?_⟩
    have h1 := hk b hb
    rw [Array.getElem?_eq_getElem (hl b hb)] at h1
    exact heap_lt h1
  lt := fun h => h.2
def Zn.le (z z' : Zn) : Prop := ∀ b, z.Z b → z'.Z b ∧ z'.w.heap[b]? = z.w.heap[b]?
theorem Zn.le_refl (z : Zn) : z.le z := fun b hb => ⟨hb, rfl⟩
theorem Zn.le_trans {a b c : Zn} (h : a.le b) (k : b.le c) : a.le c := fun i hi => ⟨(k i (h i hi).1).1, (k i (h i hi).1).2.trans (h i hi).2⟩
class HasZ (A : Asn) (z : Zn) : Prop where
  out : ∀ F w, A.at_ F w → ∀ b, z.Z b → F b ∧ w.heap[b]? = z.w.heap[b]?
instance hasZ_self {z : Zn} : HasZ (fz z) z := ⟨fun F w h b hb => h.1 b hb⟩
/-- What else there is may be forgotten. -/
theorem fz_of {A : Asn} {z : Zn} [h : HasZ A z] : A.Imp (fz z) := fun F w ha => ⟨h.out F w ha, A.lt ha⟩
instance hasZ_left {A C : Asn} {z : Zn} [h : HasZ A z] : HasZ (A.sep C) z := ⟨fun F w ⟨F1, F2, e, _, h1, _⟩ b hb => ⟨by rw [e]; exact .inl (h.out F1 w h1 b hb).1, (h.out F1 w h1 b hb).2⟩⟩
instance hasZ_right {A C : Asn} {z : Zn} [h : HasZ C z] : HasZ (A.sep C) z := ⟨fun F w ⟨F1, F2, e, _, _, h2⟩ b hb => ⟨by rw [e]; exact .inr (h.out F2 w h2 b hb).1, (h.out F2 w h2 b hb).2⟩⟩
/-- These cells, somewhere in memory that stays. -/
structure CellsAt (z : Zn) (a : Addr) (cs : List Value) : Prop where
  spot : a.spot = none
  at_ : ∀ j u, cs[j]? = some u → z.Z a.block ∧ z.w.cell? ⟨a.block, a.off + j, none⟩ = some u
structure RowIn {T : Type} (z : Zn) (C : Codec T) (s : Sl) (xs : List T) : Prop where
  n : s.n = xs.length
  c : s.n ≤ s.c
  m : s.c ≤ maxLen
  at_ : xs = [] ∨ ∃ a, s.a = some a ∧ CellsAt z a (flat C xs)
/-- A row that grows. -/
def own {T : Type} (ty : TypeId) (C : Codec T) (s : Sl) (xs : List T) : Asn where
  at_ F w := F = (fun b => (slV s).ownBlock = some b) ∧ RowAt w ty C s xs
  keep := by rintro F w w' ⟨rfl, h⟩ hk; exact ⟨rfl, h.keep hk⟩
  lt := by rintro F w ⟨rfl, h⟩ b hb; exact h.lt hb
/-- One block, known whole. -/
def blk (b : Nat) (ty : TypeId) (cs : List Value) : Asn where
  at_ F w := F = (fun b' => b' = b) ∧ w.heap[b]? = some (.cells cs.toArray ty (0, 0))
  keep := by rintro F w w' ⟨rfl, h⟩ hk; exact ⟨rfl, (hk b rfl).trans h⟩
  lt := by rintro F w ⟨rfl, h⟩ b' rfl; exact heap_lt h

section
variable {T : Type} {z z' : Zn} {C : Codec T} {s : Sl} {xs : List T} {a : Addr} {cs : List Value}
theorem cell_heap {w w' : World} {a : Addr} (h : w'.heap[a.block]? = w.heap[a.block]?) : w'.cell? a = w.cell? a := by unfold World.cell?; rw [h]
theorem CellsAt.mono (h : CellsAt z a cs) (hz : z.le z') : CellsAt z' a cs := ⟨h.spot, fun j u hu => ⟨(hz _ (h.at_ j u hu).1).1, (cell_heap (a := ⟨a.block, a.off + j, none⟩) (hz _ (h.at_ j u hu).1).2).trans (h.at_ j u hu).2⟩⟩
theorem RowIn.mono (h : RowIn z C s xs) (hz : z.le z') : RowIn z' C s xs := ⟨h.n, h.c, h.m, h.at_.imp_right fun ⟨a, h1, h2⟩ => ⟨a, h1, h2.mono hz⟩⟩
theorem RowIn.nil (z : Zn) (C : Codec T) : RowIn z C ⟨none, 0, 0⟩ [] := ⟨rfl, Nat.le_refl _, Nat.zero_le _, .inl rfl⟩
theorem RowIn.len (h : RowIn z C s xs) : xs.length ≤ maxLen := by have := h.n; have := h.c; have := h.m; omega
theorem CellsAt.sub (h : CellsAt z a cs) (k : Nat) (part : List Value) (hp : ∀ j u, part[j]? = some u → cs[k + j]? = some u) : CellsAt z ⟨a.block, a.off + k, none⟩ part :=
  ⟨rfl, fun j u hu => by have := h.at_ (k + j) u (hp j u hu); rw [← Nat.add_assoc] at this; exact this⟩
theorem aa_eq {a : Addr} (h : a.spot = none) (k : Nat) : aa a k = .pointer (some ⟨a.block, a.off + k, none⟩) := by
  cases a with
  | mk b o sp => cases h; exact congrArg (fun x => Value.pointer (some x)) (Addr.add_mid b o k)

theorem ldIndex {P : Program} {t e : TypeId} {i : Int} {x : T} (h : RowIn z C s xs) (hu : P.underlying t = some (.slice e)) (hs : sizeT P e = some C.size) (h0 : 0 ≤ i) (hx : xs[i.toNat]? = some x) :
    ∃ a, (∀ F w, Ld P F w (Instr.indexAt t (slV s) (iV i)) (eAddr.enc a)) ∧ CellsAt z a (C.enc x) := by
  have hlt := (List.getElem?_eq_some_iff.1 hx).1
  rcases h.at_ with rfl | ⟨a, ha, hc⟩
  · simp at hlt
  obtain ⟨b, o, sp⟩ := a
  have hsp : sp = none := hc.spot
  subst hsp
  have hn := h.n
  refine ⟨⟨b, o + i.toNat * C.size, none⟩, fun F w w' _ => ?_, hc.sub (i.toNat * C.size) _ fun j u hu => ?_⟩
  · have h1 : i < s.n := by omega
    simp only [Instr.indexAt, slV, iV, asIntOf, ha, Sem.run_bind, Sem.run_pure, Result.andThen_ok, run_underlying hu w']
    simp only [h0, h1, and_self, if_true, Sem.run_bind, run_sizeOf hs, Result.andThen_ok, Sem.run_pure, Addr.add_mid]
    rfl
  · have hj : j < C.size := by have := (List.getElem?_eq_some_iff.1 hu).1; rw [C.len] at this; exact this
    rw [← List.getElem?_drop, flat_drop, List.drop_eq_getElem_cons hlt, flat_cons]
    have : xs[i.toNat] = x := by rw [List.getElem?_eq_getElem hlt] at hx; injection hx
    rw [this, List.getElem?_append_left (by rw [C.len]; exact hj)]; exact hu
theorem ldCell {P : Program} {A : Asn} [hz : HasZ A z] {t : TypeId} {v : Value} (hc : CellsAt z a cs) (k : Nat) (ha : isAggT P t = some false) (hv : cs[k]? = some v) : ∀ F w, A.at_ F w → Ld P F w (Instr.loadAt t (aa a k)) v := fun F w hA => by
  rw [aa_eq hc.spot]
  obtain ⟨h1, h2⟩ := hc.at_ k v hv
  obtain ⟨h3, h4⟩ := hz.out F w hA _ h1
  exact ld_cell ha h3 ((cell_heap (a := ⟨a.block, a.off + k, none⟩) h4).trans h2)
theorem ldCell0 {P : Program} {A : Asn} [hz : HasZ A z] {t : TypeId} {v : Value} (hc : CellsAt z a cs) (ha : isAggT P t = some false) (hv : cs[0]? = some v) : ∀ F w, A.at_ F w → Ld P F w (Instr.loadAt t (.pointer (some a))) v := fun F w hA => by
  have := ldCell (P := P) (A := A) hc 0 ha hv F w hA
  rw [aa_eq hc.spot] at this
  obtain ⟨b, o, sp⟩ := a
  have hsp : sp = none := hc.spot
  subst hsp; exact this
theorem ldAgg {P : Program} {A : Asn} [hz : HasZ A z] {t : TypeId} {n : Nat} {part : List Value} (hc : CellsAt z a cs) (k : Nat) (ha : isAggT P t = some true) (hs : sizeT P t = some n) (hp : (cs.drop k).take n = part) (hl : part.length = n) (h0 : 0 < n) :
    ∀ F w, A.at_ F w → Ld P F w (Instr.loadAt t (aa a k)) (ag part) := fun F w hA => by
  rw [aa_eq hc.spot]
  have hat : ∀ j u, part[j]? = some u → cs[k + j]? = some u := fun j u hu => by
    have hj := (List.getElem?_eq_some_iff.1 hu).1
    rw [← hp, List.getElem?_take_of_lt (by omega), List.getElem?_drop] at hu; exact hu
  have hblk : z.Z a.block := by
    cases part with
    | nil => simp at hl; omega
    | cons v vs => exact (hc.at_ _ v (hat 0 v rfl)).1
  obtain ⟨h3, h4⟩ := hz.out F w hA _ hblk
  refine ld_cells ha hs hl h3 fun j u hu => ?_
  obtain ⟨_, h2⟩ := hc.at_ _ u (hat j u hu)
  rw [Nat.add_assoc]
  exact (cell_heap (a := ⟨a.block, a.off + (k + j), none⟩) h4).trans h2
theorem ldAgg0 {P : Program} {A : Asn} [hz : HasZ A z] {t : TypeId} (hc : CellsAt z a cs) (ha : isAggT P t = some true) (hs : sizeT P t = some cs.length) (h0 : 0 < cs.length) : ∀ F w, A.at_ F w → Ld P F w (Instr.loadAt t (.pointer (some a))) (ag cs) := fun F w hA => by
  have := ldAgg (P := P) (A := A) hc 0 ha hs (by simp) rfl h0 F w hA
  rw [aa_eq hc.spot] at this
  obtain ⟨b, o, sp⟩ := a
  have hsp : sp = none := hc.spot
  subst hsp; exact this

/-- A row that grew, from now on as it is. -/
theorem own_freeze {ty : TypeId} {F : BS} {w : World} (h : ((fz z).sep (own ty C s xs)).at_ F w) : ∃ z', z.le z' ∧ RowIn z' C s xs ∧ (fz z').at_ F w := by
  obtain ⟨F1, F2, rfl, hd, ⟨h1, hlt1⟩, rfl, h2⟩ := h
  refine ⟨⟨fun b => z.Z b ∨ (slV s).ownBlock = some b, w, fun b hb => ?_⟩, fun b hb => ⟨.inl hb, (h1 b hb).2⟩, ?_, fun b hb => ⟨?_, rfl⟩, fun b hb => ?_⟩
  · rcases hb with hb | hb
    · exact hlt1 b (h1 b hb).1
    · exact h2.lt hb
  · obtain ⟨hn, hlen, hh⟩ := h2
    rcases hh with ⟨e1, e2⟩ | ⟨g, cap, cur, hv, h0, hg, h3, h4, h5, h6⟩
    · have : xs = [] := List.eq_nil_of_length_eq_zero (by omega)
      subst this
      unfold slV at e1
      injection e1 with e1 e3 e4
      exact ⟨by simp [e3], by omega, by omega, .inl rfl⟩
    · unfold slV at hv
      injection hv with hv1 hv2 hv3
      refine ⟨hn, by omega, by omega, .inr ⟨_, hv1, rfl, fun j u hu => ?_⟩⟩
      refine ⟨.inr (by simp [slV, Value.ownBlock, hv1]), ?_⟩
      unfold World.cell?
      simp only [hg]
      have hj := (List.getElem?_eq_some_iff.1 hu).1
      rw [← h6, List.getElem?_take_of_lt (by rw [flat_len, ← hn] at hj; exact hj)] at hu
      simpa using hu
  · rcases hb with hb | hb
    · exact .inl (h1 b hb).1
    · exact .inr hb
  · rcases hb with hb | hb
    · exact hlt1 b hb
    · exact h2.lt hb
theorem AT.freeze {J : Jc} {Λ : Lam} {X : Asn} {ty : TypeId} {tr : Tree} (h : ∀ z', z.le z' → RowIn z' C s xs → AT J Λ ((fz z').sep X) tr) : AT J Λ ((fz z).sep ((own ty C s xs).sep X)) tr := by
  intro hΓ F w ha hl
  obtain ⟨F1, F2, rfl, hd, h1, h2⟩ := Asn.sep_assoc' F w ha
  obtain ⟨z', k1, k2, k3⟩ := own_freeze h1
  exact h z' k1 k2 hΓ _ w ⟨F1, F2, rfl, hd, k3, h2⟩ hl
end
end Go.Sx

set_option linter.unusedVariables false
set_option maxHeartbeats 1000000
namespace Go.Sx
open Go.RowKit Asn

/-- A type of slices, and of their elements. -/
structure SlTy {T : Type} (P : Program) (t e : TypeId) (C : Codec T) : Prop where
  u : P.underlying t = some (.slice e)
  s : sizeT P e = some C.size
  pos : 0 < C.size
  info : ∃ i z, P.info? e = some i ∧ i.zero = some z ∧ i.size = C.size ∧ z.cells.size = C.size ∧ i.bytes ≤ 65536

section
variable {J : Jc} {Λ : Lam} {A C D X : Asn} {T : Type} {z z' : Zn} {K : Codec T} {s y : Sl} {xs ys : List T} {t e : TypeId}

/-! ### Parts of a row that stays -/
def Sl.cut (s : Sl) (sz l h : Nat) : Sl := ⟨if s.c = l then s.a else s.a.map (·.add (l * sz)), h - l, s.c - l⟩
theorem RowIn.cut (h : RowIn z K s xs) {l k : Nat} (hl : l ≤ k) (hk : k ≤ xs.length) : RowIn z K (s.cut K.size l k) ((xs.take k).drop l) := by
  have hn := h.n
  have hc := h.c
  have hm := h.m
  refine ⟨by simp [Sl.cut]; omega, by simp only [Sl.cut]; omega, by simp only [Sl.cut]; omega, ?_⟩
  by_cases e : s.c = l
  · left; apply List.eq_nil_of_length_eq_zero; simp; omega
  · rcases h.at_ with rfl | ⟨⟨b, o, sp⟩, ha, hcs⟩
    · left; simp
    have hsp : sp = none := hcs.spot
    subst hsp
    right
    refine ⟨⟨b, o + l * K.size, none⟩, by simp only [Sl.cut, if_neg e, ha, Option.map_some, Addr.add_mid], hcs.sub (l * K.size) _ fun j u hu => ?_⟩
    have h1 : flat K xs = flat K (xs.take l) ++ (flat K ((xs.take k).drop l) ++ flat K (xs.drop k)) := by
      rw [← flat_append, ← flat_append]
      congr 1
      have e1 : xs.take l = (xs.take k).take l := by rw [List.take_take, Nat.min_eq_left hl]
      rw [e1, ← List.append_assoc, List.take_append_drop, List.take_append_drop]
    have hj := (List.getElem?_eq_some_iff.1 hu).1
    rw [h1, List.getElem?_append_right (by rw [flat_len, List.length_take, Nat.min_eq_left (by omega)]; omega), flat_len, List.length_take, Nat.min_eq_left (by omega), Nat.add_sub_cancel_left, List.getElem?_append_left hj]
    exact hu
theorem ldCutH {P : Program} (h : RowIn z K s xs) (hu : P.underlying t = some (.slice e)) (hs : sizeT P e = some K.size) {k : Int} (h0 : 0 ≤ k) (h1 : k ≤ xs.length) (F : BS) (w : World) : Ld P F w (Instr.sliceAt t (slV s) none (some (iV k)) none) (eSl.enc (s.cut K.size 0 k.toNat)) := fun w' _ => by
  have he : P.elem t = e := by simp [Program.elem, hu]
  have ht' : P.underlying t = some (.slice (P.elem t)) := by rw [he]; exact hu
  have hn := h.n
  have hc := h.c
  unfold slV iV
  rw [run_sliceAt_slice w' t _ _ _ _ ht', run_slice_h w' t s.a s.n s.c ht' _ k h0 (by omega), he, run_sizeOf hs]
  simp [sliced, Result.andThen, eSl, slV, Sl.cut]
theorem ldCutL {P : Program} (h : RowIn z K s xs) (hu : P.underlying t = some (.slice e)) (hs : sizeT P e = some K.size) {k : Int} (h0 : 0 ≤ k) (h1 : k ≤ xs.length) (F : BS) (w : World) : Ld P F w (Instr.sliceAt t (slV s) (some (iV k)) none none) (eSl.enc (s.cut K.size k.toNat xs.length)) := fun w' _ => by
  have he : P.elem t = e := by simp [Program.elem, hu]
  have ht' : P.underlying t = some (.slice (P.elem t)) := by rw [he]; exact hu
  have hn := h.n
  have hc := h.c
  unfold slV iV
  rw [run_sliceAt_slice w' t _ _ _ _ ht', run_slice_l w' t s.a s.n s.c ht' _ k h0 (by omega), he, run_sizeOf hs]
  simp [sliced, Result.andThen, eSl, slV, Sl.cut, hn]
theorem ldCutLH {P : Program} (h : RowIn z K s xs) (hu : P.underlying t = some (.slice e)) (hs : sizeT P e = some K.size) {l k : Int} (h0 : 0 ≤ l) (hl : l ≤ k) (h1 : k ≤ xs.length) (F : BS) (w : World) : Ld P F w (Instr.sliceAt t (slV s) (some (iV l)) (some (iV k)) none) (eSl.enc (s.cut K.size l.toNat k.toNat)) := fun w' _ => by
  have he : P.elem t = e := by simp [Program.elem, hu]
  have ht' : P.underlying t = some (.slice (P.elem t)) := by rw [he]; exact hu
  have hn := h.n
  have hc := h.c
  unfold slV iV
  rw [run_sliceAt_slice w' t _ _ _ _ ht', run_slice_lh w' t s.a s.n s.c ht' _ _ l k h0 hl (by omega), he, run_sizeOf hs]
  simp [sliced, Result.andThen, eSl, slV, Sl.cut]

/-! ### What is made -/
theorem AT.keepApp {tys : Array TypeId} {ty : TypeId} {x : Value} {n : Nat} {cells : List Value} {keep : List Nat} {H : Enc} {k : H.T → Tree} (h : AT J Λ A (.append tys ty x e n cells [] H k)) (hc : Λ.cut keep = Lam.none) : AT J Λ A (.append tys ty x e n cells keep H k) := by
  intro hΓ F w ha hl
  have := h hΓ F w ha hl
  unfold TT at this ⊢
  rw [lam_cut_nil] at this
  rw [hc]; exact this
theorem AT.keepPrim {m : Sem Value} {keep : List Nat} {H : Enc} {k : H.T → Tree} (h : AT J Λ A (.prim m [] H k)) (hc : Λ.cut keep = Lam.none) : AT J Λ A (.prim m keep H k) := by
  intro hΓ F w ha hl
  have := h hΓ F w ha hl
  unfold TT at this ⊢
  rw [lam_cut_nil] at this
  rw [hc]; exact this
theorem AT.keepU {m : Sem Unit} {keep : List Nat} {k : Tree} (h : AT J Λ A (.primU m [] k)) (hc : Λ.cut keep = Lam.none) : AT J Λ A (.primU m keep k) := by
  intro hΓ F w ha hl
  have := h hΓ F w ha hl
  unfold TT at this ⊢
  rw [lam_cut_nil] at this
  rw [hc]; exact this

theorem AT.row {len : Nat} {parts : Array (Nat × Value)} {k : Sl → Tree} (hr : rowCells J.P t len parts.toList = some ((flat K xs).toArray, e)) (hl : len = xs.length) (hm : xs.length ≤ maxLen) (hk : ∀ s, AT J Lam.none (A.sep (own e K s xs)) (k s)) : AT J Λ A (.prim (Instr.buildSlice t len parts) [] eSl k) := by
  intro hΓ F w ha _
  refine TT_row hr hΓ (A.lt ha) fun b w1 hb hnb hkeep _ _ => ?_
  subst hl
  refine hk _ hΓ _ w1 ⟨F, fun b' => (slV ⟨some ⟨b, 0, none⟩, xs.length, xs.length⟩).ownBlock = some b', ?_, fun b' h1 h2 => ?_, A.keep ha hkeep, rfl, RowAt.fresh hb hm⟩ lam_none_ok
  · funext b'; simp [slV, Value.ownBlock]; constructor
    · rintro (rfl | h)
      · exact .inr rfl
      · exact .inl h
    · rintro (h | rfl)
      · exact .inr h
      · exact .inl rfl
  · simp [slV, Value.ownBlock] at h2; subst h2; exact hnb h1
theorem AT.box {ty : TypeId} {cs : List Value} {k : Nat → Tree} (hk : ∀ b, AT J Lam.none (A.sep (blk b ty cs)) (k b)) : AT J Λ A (.prim (Instr.box ty (ag cs)) [] eBlk k) := by
  intro hΓ F w ha _
  refine TT_box hΓ (A.lt ha) fun b w1 hb hnb hkeep _ _ => ?_
  refine hk b hΓ _ w1 ⟨F, fun b' => b' = b, ?_, fun b' h1 h2 => ?_, A.keep ha hkeep, rfl, hb⟩ lam_none_ok
  · funext b'; exact propext Or.comm
  · subst h2; exact hnb h1
theorem AT.store {b off : Nat} {ty ety : TypeId} {cs : List Value} {v : Value} {k : Tree} (hs : sizeT J.P ty = some v.cells.size) (hle : off + v.cells.size ≤ cs.length) (h1 : v.cells.all (·.oneCell') = true)
    (hk : AT J Lam.none ((blk b ety (splice cs off v.cells.toList)).sep A) k) : AT J Λ ((blk b ety cs).sep A) (.primU (Instr.storeAt ty (pa b off) v) [] k) := by
  rintro hΓ F w ⟨F1, F2, rfl, hd, ⟨rfl, hb⟩, ha⟩ _
  refine TT_store hΓ (fun b' hb' => ?_) (.inl rfl) hb hs hle h1 fun w1 hp hoth hsz => ?_
  · rcases hb' with rfl | hb'
    · exact heap_lt hb
    · exact A.lt ha b' hb'
  · exact hk hΓ _ w1 ⟨_, F2, rfl, hd, ⟨rfl, hp⟩, A.keep ha fun b' hb' => hoth b' (fun e => hd b' e hb') (.inr hb')⟩ lam_none_ok
theorem ldBlk {P : Program} {b off : Nat} {ty ety : TypeId} {cs : List Value} {v : Value} (ha : isAggT P ty = some false) (hv : cs[off]? = some v) : ∀ F w, ((blk b ety cs).sep A).at_ F w → Ld P F w (Instr.loadAt ty (pa b off)) v := by
  rintro F w ⟨F1, F2, rfl, hd, ⟨rfl, hb⟩, _⟩
  exact ld_one (S := fun b' => b' = b ∨ F2 b') (.inl rfl) hb ha hv
theorem ldBlkAgg {P : Program} {b off n : Nat} {ty ety : TypeId} {cs part : List Value} (ha : isAggT P ty = some true) (hs : sizeT P ty = some n) (hle : off + n ≤ cs.length) (hp : (cs.drop off).take n = part) : ∀ F w, ((blk b ety cs).sep A).at_ F w → Ld P F w (Instr.loadAt ty (pa b off)) (ag part) := by
  rintro F w ⟨F1, F2, rfl, hd, ⟨rfl, hb⟩, _⟩
  rw [← hp]
  exact ld_agg (S := fun b' => b' = b ∨ F2 b') (.inl rfl) hb ha hs hle

/-- Some more elements. -/
theorem AT.app {n : Nat} {cells : List Value} {k : Sl → Tree} (hT : SlTy J.P t e K) (hn : n = ys.length) (hc : cells = flat K ys) (hb : xs.length + ys.length ≤ 2147483648)
    (hk : ∀ y, AT J Lam.none ((own e K y (xs ++ ys)).sep A) (k y)) : AT J Λ ((own e K s xs).sep A) (.append #[t, t] t (slV s) e n cells [] eSl k) := by
  rintro hΓ F w ⟨F1, F2, rfl, hd, ⟨rfl, hr⟩, ha⟩ _
  obtain ⟨i, zv, hi, hz, his, hzs, hby⟩ := hT.info
  refine TT_append (C := K) (xs := xs) (news := ys) (G := F2) hΓ (fun b => Iff.rfl) hd (fun b hb => hb.elim hr.lt (A.lt ha b)) hr hT.u hi hz his hzs hT.pos hn hc (by simp [maxLen]; omega) ?_ fun y w1 h1 h2 h3 h4 => ?_
  · have := Nat.mul_le_mul hb hby; omega
  · refine hk y hΓ _ w1 ⟨_, F2, rfl, fun b hb hb2 => ?_, ⟨rfl, h1⟩, A.keep ha h2⟩ lam_none_ok
    rcases h4 with h4 | ⟨b', h4, h5⟩
    · exact hd b (by rw [← h4]; exact hb) hb2
    · rw [hb] at h4; injection h4 with h4; subst h4
      exact Nat.lt_irrefl _ (Nat.lt_of_lt_of_le (A.lt ha b hb2) h5)

/-- Kept looks that are as they were. -/
def LOk (P : Program) (B : Nat) (Λ : Lam) (A : Asn) : Prop := ∀ F w, A.at_ F w → Λ.ok P B F w
theorem LOk.none {P : Program} {B : Nat} {keep : List Nat} : LOk P B (Lam.none.cut keep) A := fun F w _ => by rw [cut_none]; exact lam_none_ok
theorem LOk.add {P : Program} {B : Nat} {keep : List Nat} {d : Nat} {m : Sem Value} {v : Value} (h : LOk P B (Λ.cut keep) A) (hl : d ∈ keep → ∀ F w, A.at_ F w → Ld P F w m v) : LOk P B ((Λ.add d m v).cut keep) A := by
  rintro F w ha d' m' v' ⟨h1 | ⟨rfl, rfl, rfl⟩, h2⟩
  · exact h F w ha d' m' v' ⟨h1, h2⟩
  · exact (hl h2 F w ha).stab _
/-- A row that stays, behind one that grows. -/
theorem AT.appRK {k : Sl → Tree} {keep : List Nat} [hzA : HasZ A z] (hT : SlTy J.P t e K) (hy : RowIn z K y ys) (hb : xs.length + ys.length ≤ 2147483648)
    (hΛ : ∀ v, LOk J.P J.B (Λ.cut keep) ((own e K v (xs ++ ys)).sep A)) (hk : ∀ v, AT J (Λ.cut keep) ((own e K v (xs ++ ys)).sep A) (k v)) : AT J Λ ((own e K s xs).sep A) (.prim (Builtin.append_ #[t, t] t #[slV s, slV y]) keep eSl k) := by
  rintro hΓ F w ⟨F1, F2, rfl, hd, ⟨rfl, hr⟩, ha⟩ _
  obtain ⟨i, zv, hi, hz, his, hzs, hby⟩ := hT.info
  intro w' hag
  have hr' : RowAt w' e K s xs := hr.keep fun b hb => hag.block b (.inr (.inl hb))
  have ha' : A.at_ F2 w' := A.keep ha fun b hb => hag.block b (.inr (.inr hb))
  have hyn := hy.n
  have hbytes : (s.n + ys.length) * i.bytes ≤ 140737488355328 := by rw [hr.1]; have := Nat.mul_le_mul hb hby; omega
  have h63 : s.n + ys.length ≤ maxLen := by rw [hr.1]; simp [maxLen]; omega
  have fin : ∀ v' w1, (Builtin.append_ #[t, t] t #[slV s, slV y]).run J.P w' = .ok v' w1 → w1.ownsRow 0 e K.size v' (s.n + ys.length) (flat K xs ++ flat K ys) → w'.grownBy w1 (slV s).ownBlock → (v'.ownBlock = (slV s).ownBlock ∨ v'.ownBlock = some w'.heap.size) →
      ∃ x S1 w1, (Builtin.append_ #[t, t] t #[slV s, slV y]).run J.P w' = .ok (eSl.enc x) w1 ∧ Step (fun b => (slV s).ownBlock = some b ∨ F2 b) w' S1 w1 ∧ (Λ.cut keep).ok J.P J.B S1 w1 ∧ TT J.P J.B J.R (k x) J.Γ (Λ.cut keep) S1 w1 := by
    intro v' w1 hrun hown hgr hat
    obtain ⟨v, rfl, hvn⟩ := ownsRow_sl hown
    have hrow : RowAt w1 e K v (xs ++ ys) := ⟨by rw [hvn, hr.1, List.length_append], by rw [hvn, flat_append]; exact hown⟩
    have ha1 : A.at_ F2 w1 := A.keep ha' fun b hb => hgr.block b (A.lt ha' b hb) fun e => hd b e.symm hb
    have hdis : ∀ b, (slV v).ownBlock = some b → ¬ F2 b := fun b hb hb2 => by
      rcases hat with h | h
      · exact hd b (by rw [← h]; exact hb) hb2
      · rw [hb] at h; injection h with h; subst h
        exact Nat.lt_irrefl _ (A.lt ha' _ hb2)
    refine ⟨v, fun b => (slV v).ownBlock = some b ∨ F2 b, w1, hrun, ⟨⟨hgr.os, hgr.tape, hgr.output, hgr.size, fun b hb hn => hgr.block b hb fun e => hn (.inl e.symm)⟩, fun b hb => ?_, fun b hb => ?_⟩, ?_, ?_⟩
    · rcases hb with hb | hb
      · rcases hat with h | h
        · exact .inl (.inl (by rw [← h]; exact hb))
        · right; rw [hb] at h; injection h with h; omega
      · exact .inl (.inr hb)
    · rcases hb with hb | hb
      · exact hrow.lt hb
      · exact A.lt ha1 b hb
    · exact hΛ v _ w1 ⟨_, F2, rfl, hdis, ⟨rfl, hrow⟩, ha1⟩
    · exact hk v hΓ _ w1 ⟨_, F2, rfl, hdis, ⟨rfl, hrow⟩, ha1⟩ (hΛ v _ w1 ⟨_, F2, rfl, hdis, ⟨rfl, hrow⟩, ha1⟩)
  cases hya : y.a with
  | none =>
    have h0 : ys = [] := by
      rcases hy.at_ with h | ⟨a, h, _⟩
      · exact h
      · rw [hya] at h; cases h
    subst h0
    have hslv : slV y = .slice none 0 y.c := by unfold slV; rw [hya]; simp at hyn; rw [hyn]
    have hle : s.n ≤ s.c := by
      rcases hr'.2.2 with ⟨h1, h2⟩ | ⟨g, cap, cur, hv, _, _, h1, _⟩
      · unfold slV at h1; injection h1 with _ h3 h4; omega
      · unfold slV at hv; injection hv with _ _ h4; omega
    refine fin (slV s) w' ?_ ?_ ⟨rfl, rfl, rfl, Nat.le_refl _, fun _ _ _ => rfl⟩ (.inl rfl)
    · rw [hslv]
      exact run_append_nothing w' t t t e i hT.u hi s.a s.n s.c hle _ (Src.ofNil w' hT.u y.c)
    · simp only [flat_nil, List.append_nil, List.length_nil, Nat.add_zero]; exact hr'.2
  | some a =>
    have hcells : ∀ j u, (flat K ys)[j]? = some u → w'.cell? (a.add j) = some u := by
      intro j u hu
      rcases hy.at_ with h | ⟨a', h, hc⟩
      · subst h; simp [flat] at hu
      · rw [hya] at h; injection h with h; subst h
        obtain ⟨h1, h2⟩ := hc.at_ j u hu
        have h3 := (hzA.out F2 w' ha' _ h1).2
        obtain ⟨b, o, sp⟩ := a
        have hsp : sp = none := hc.spot
        subst hsp
        rw [Addr.add_mid]
        exact (cell_heap (a := ⟨b, o + j, none⟩) h3).trans h2
    obtain ⟨v', w1, hrun, hown, hgr, _, hat⟩ := run_append_own_at (P := J.P) w' 0 t t e i zv K.size i.bytes hT.u hi hz his rfl hzs hT.pos (slV s) s.n (flat K xs) hr'.2 a ys.length y.c (flat K ys) (flat_len K ys) hcells (flat_one K ys) h63 hbytes (Nat.zero_le _)
    have hslv : slV y = .slice (some a) ys.length y.c := by unfold slV; rw [hya, hyn]
    exact fin v' w1 (by rw [hslv]; exact hrun) hown hgr hat
theorem AT.appR {k : Sl → Tree} [hzA : HasZ A z] (hT : SlTy J.P t e K) (hy : RowIn z K y ys) (hb : xs.length + ys.length ≤ 2147483648)
    (hk : ∀ v, AT J Lam.none ((own e K v (xs ++ ys)).sep A) (k v)) : AT J Λ ((own e K s xs).sep A) (.prim (Builtin.append_ #[t, t] t #[slV s, slV y]) [] eSl k) :=
  AT.appRK hT hy hb (fun v F w _ => by rw [lam_cut_nil]; exact lam_none_ok) fun v => by rw [lam_cut_nil]; exact hk v
theorem AT.freezeR {tr : Tree} (h : ∀ z', z.le z' → RowIn z' K s xs → AT J Λ (fz z') tr) : AT J Λ ((own e K s xs).sep (fz z)) tr :=
  AT.imp (sep_comm.trans (Imp.sep (Imp.refl _) sep_emp')) (AT.freeze fun z' h1 h2 => AT.imp sep_emp (h z' h1 h2))
theorem AT.iteNe {x y : Int} {T1 T2 : Tree} (h1 : x ≠ y → AT J Λ A T1) (h2 : x = y → AT J Λ A T2) : AT J Λ A (.ite (x != y) T1 T2) := AT.ite (fun h => h1 fun e => by subst e; simp at h) (fun h => h2 (by simpa using h))
theorem own_nil {A : Asn} {e : TypeId} {K : Codec T} : A.Imp ((own e K ⟨none, 0, 0⟩ []).sep A) := fun F w ha => ⟨fun b => (slV ⟨none, 0, 0⟩).ownBlock = some b, F, by funext b; simp [slV, Value.ownBlock], fun b hb => by simp [slV, Value.ownBlock] at hb, ⟨rfl, RowAt.nil w e K⟩, ha⟩
end
end Go.Sx

set_option linter.unusedVariables false
set_option maxHeartbeats 1000000
namespace Go.Sx
open GI
noncomputable def l7b : Cfg where
  P := Go.Proofs.Try.prog
  hint t := lookup t [(3, Hint.ofE eInt), (4, Hint.ofE eBool), (34, Hint.ofE eBlk), (37, Hint.ofE eI.eE), (39, Hint.ofE eI.eA), (41, Hint.ofE eAct), (22, Hint.ofE eSl), (32, Hint.ofE eSl), (50, Hint.ofE eSl), (111, Hint.ofE eSl), (57, Hint.ofE eI.eE)]
  res f := lookup f [(13, Hint.ofE eBool), (14, Hint.ofE eBool), (15, Hint.ofE eBlk), (16, Hint.ofE eInt), (17, Hint.ofE eInt), (18, Hint.ofE eInt), (19, Hint.ofE (eEB eI)), (20, Hint.ofE eBool), (21, Hint.ofE eInt), (22, Hint.ofE eInt), (23, Hint.ofE eInt), (24, Hint.ofE (eEB eI)), (25, Hint.ofE eI.eA), (50, Hint.ofE eInt),
   (27, Hint.ofE eInt), (28, Hint.ofE eBlk), (29, Hint.ofE eBool), (30, Hint.ofE eBool), (31, Hint.ofE (eTup2 eSl eBool)), (60, Hint.ofE (eTup3 eSl eI.eE eBool)), (63, Hint.ofE eBool), (33, Hint.ofE eSl), (32, Hint.ofE eInt), (62, Hint.ofE eSl), (26, Hint.ofE (eTup3 eBlk eSl eBool))]
  pure _ := none
  meth _ _ := none
def emb2 (x : Sl × Int) : List SV := [.v (slV x.1), .v (iV x.2)]
def embII (x : Int × Int) : List SV := [.v (iV x.1), .v (iV x.2)]
def fcL (l : List (Nat × LHint)) : Fc := { lh := l }

noncomputable def rank7T (s : Sl) (k : Int) : Tree :=
  .loop [.v (iV 0)] (Int) (fun i1 => [.v (iV i1)]) fun i1 =>
  .ite (decide (i1 < (↑s.n : Int)))
  (.prim (Instr.indexAt 50 (slV s) (iV i1)) [] eAddr fun (a1 : Addr) =>
   .prim (Instr.loadAt 3 (aa a1 0)) [] eInt fun (i2 : Int) =>
   .ite (decide (i2 < k))
   (.again 0 [.v (iV (wr (i1 + 1)))])
   (.ret (iV i1)))
  (.ret (iV i1))
theorem rank7_t (s : Sl) (k : Int) : FnT l7b 27 [slV s, iV k] (rank7T s k) := fnT (fn := Go.Proofs.Try.f27) (fc := (fcI 5)) (by kernel_rfl) (by kernel_rfl) (by kernel_rfl)
noncomputable def put7T_1 (s : Sl) (e : El) (k : Int) (i1 : Int) (s2 : Sl) : Tree :=
  .ite (decide ((↑s.n : Int) ≥ k))
  (.ret (.tuple #[slV s, .bool false]))
  (.append #[50, 50] 50 (slV s2) 57 1 [(iV e.k), (iV e.w)] [] eSl fun (s3 : Sl) =>
   .prim (Instr.sliceAt 50 (slV s) (some (iV i1)) none none) [] eSl fun (s4 : Sl) =>
   .prim (Builtin.append_ #[50, 50] 50 #[(slV s3), (slV s4)]) [] eSl fun (s5 : Sl) =>
   .ret (.tuple #[slV s5, .bool true]))
noncomputable def put7T (s : Sl) (e : El) (k : Int) : Tree :=
  .call 27 [slV s, iV e.k].toArray [] eInt fun (i1 : Int) =>
  .prim (Instr.sliceAt 50 (slV s) none (some (iV i1)) none) [] eSl fun (s1 : Sl) =>
  .prim (Builtin.append_ #[50, 50] 50 #[(slV ⟨none, 0, 0⟩), (slV s1)]) [] eSl fun (s2 : Sl) =>
  .ite (decide (i1 < (↑s.n : Int)))
  (.loadS 7 (Instr.indexAt 50 (slV s) (iV i1)) eAddr fun (a1 : Addr) =>
   .loadS 9 (Instr.loadAt 3 (aa a1 0)) eInt fun (i2 : Int) =>
   .endS (.ite (i2 == e.k)
   (.append #[50, 50] 50 (slV s2) 57 1 [(iV e.k), (iV e.w)] [] eSl fun (s3 : Sl) =>
    .prim (Instr.sliceAt 50 (slV s) (some (iV (wr (i1 + 1)))) none none) [] eSl fun (s4 : Sl) =>
    .prim (Builtin.append_ #[50, 50] 50 #[(slV s3), (slV s4)]) [] eSl fun (s5 : Sl) =>
    .ret (.tuple #[slV s5, .bool true]))
   (put7T_1 s e k i1 s2)))
  (.endS (put7T_1 s e k i1 s2))
theorem put7_t (s : Sl) (e : El) (k : Int) : FnT l7b 31 [slV s, ag (elC e), iV k] (put7T s e k) := fnT (fn := Go.Proofs.Try.f31) (fc := {}) (by kernel_rfl) (by kernel_rfl) (by kernel_rfl)
noncomputable def drop7T (s : Sl) (k : Int) : Tree :=
  .call 27 [slV s, iV k].toArray [] eInt fun (i1 : Int) =>
  .ite (i1 == (↑s.n : Int))
  (.ret (.tuple #[slV s, ag [iV 0, iV 0], .bool false]))
  (.prim (Instr.indexAt 50 (slV s) (iV i1)) [] eAddr fun (a1 : Addr) =>
   .prim (Instr.loadAt 3 (aa a1 0)) [] eInt fun (i2 : Int) =>
   .ite (i2 != k)
   (.ret (.tuple #[slV s, ag [iV 0, iV 0], .bool false]))
   (.prim (Instr.sliceAt 50 (slV s) none (some (iV i1)) none) [] eSl fun (s1 : Sl) =>
    .prim (Builtin.append_ #[50, 50] 50 #[(slV ⟨none, 0, 0⟩), (slV s1)]) [] eSl fun (s2 : Sl) =>
    .loadS 4 (Instr.sliceAt 50 (slV s) (some (iV (wr (i1 + 1)))) none none) eSl fun (s3 : Sl) =>
    .loadS 8 (Instr.indexAt 50 (slV s) (iV i1)) eAddr fun (a2 : Addr) =>
    .loadS 9 (Instr.loadAt 57 (.pointer (some a2))) (GI.eE eI) fun (x1 : El) =>
    .prim (Builtin.append_ #[50, 50] 50 #[(slV s2), (slV s3)]) [8, 9] eSl fun (s4 : Sl) =>
    .endS (.ret (.tuple #[slV s4, ag [iV x1.k, iV x1.w], .bool true]))))
theorem drop7_t (s : Sl) (k : Int) : FnT l7b 60 [slV s, iV k] (drop7T s k) := fnT (fn := Go.Proofs.Try.f60) (fc := {}) (by kernel_rfl) (by kernel_rfl) (by kernel_rfl)
noncomputable def same7T (s u : Sl) : Tree :=
  .ite ((↑s.n : Int) != (↑u.n : Int))
  (.ret (.bool false))
  (.loop [.v (iV 0)] (Int) (fun i1 => [.v (iV i1)]) fun i1 =>
   .ite (decide (i1 < (↑s.n : Int)))
   (.loadS 2 (Instr.indexAt 50 (slV s) (iV i1)) eAddr fun (a1 : Addr) =>
    .loadS 3 (Instr.loadAt 57 (.pointer (some a1))) (GI.eE eI) fun (x1 : El) =>
    .loadS 6 (Instr.indexAt 50 (slV u) (iV i1)) eAddr fun (a2 : Addr) =>
    .loadS 7 (Instr.loadAt 57 (.pointer (some a2))) (GI.eE eI) fun (x2 : El) =>
    .loadS 8 (do eqGuard BinOp.neq 57 (Operand.tmp 20) (Operand.tmp 24) (ag [iV x1.k, iV x1.w]) (ag [iV x2.k, iV x2.w]); binOp BinOp.neq 57 (ag [iV x1.k, iV x1.w]) (ag [iV x2.k, iV x2.w])) eBool fun (b1 : Bool) =>
    .endS (.ite b1
    (.ret (.bool false))
    (.again 0 [.v (iV (wr (i1 + 1)))])))
   (.ret (.bool true)))
theorem same7_t (s u : Sl) : FnT l7b 63 [slV s, slV u] (same7T s u) := fnT (fn := Go.Proofs.Try.f63) (fc := (fcI 5)) (by kernel_rfl) (by kernel_rfl) (by kernel_rfl)
noncomputable def ws7T (s : Sl) (a b : Int) : Tree :=
  .prim (Builtin.max_ #[3, 3] 3 #[(iV a), (iV 0)]) [] eInt fun (i1 : Int) =>
  .loop [.v (slV ⟨none, 0, 0⟩), .v (iV i1)] (Sl × Int) (fun r1 => [.v (slV r1.fst), .v (iV r1.snd)]) fun r1 =>
  .ite (decide (r1.snd < (↑s.n : Int)))
  (.ite (decide (r1.snd < b))
   (.prim (Instr.indexAt 50 (slV s) (iV r1.snd)) [] eAddr fun (a1 : Addr) =>
    .prim (Instr.loadAt 3 (aa a1 1)) [] eInt fun (i2 : Int) =>
    .append #[22, 22] 22 (slV r1.fst) 3 1 [(iV i2)] [] eSl fun (s1 : Sl) =>
    .again 0 [.v (slV s1), .v (iV (wr (r1.snd + 1)))])
   (.ret (slV r1.fst)))
  (.ret (slV r1.fst))
theorem ws7_t (s : Sl) (a b : Int) : FnT l7b 33 [slV s, iV a, iV b] (ws7T s a b) := fnT (fn := Go.Proofs.Try.f33) (fc := { lh := [(0, { slots := [7, 8], L := Sl × Int, emb := emb2 })] }) (by kernel_rfl) (by kernel_rfl) (by kernel_rfl)
noncomputable def sum6T (s : Sl) (k : Int) : Tree :=
  .loop [.v (iV 0), .v (iV 0)] (Int × Int) (fun r1 => [.v (iV r1.fst), .v (iV r1.snd)]) fun r1 =>
  .ite (decide (r1.snd < k))
  (.prim (Instr.indexAt 22 (slV s) (iV r1.snd)) [] eAddr fun (a1 : Addr) =>
   .prim (Instr.loadAt 3 (.pointer (some a1))) [] eInt fun (i1 : Int) =>
   .again 0 [.v (iV (wr (r1.fst + i1))), .v (iV (wr (r1.snd + 1)))])
  (.ret (iV r1.fst))
theorem sum6_t (s : Sl) (k : Int) : FnT l7b 32 [slV s, iV k] (sum6T s k) := fnT (fn := Go.Proofs.Try.f32) (fc := { lh := [(0, { slots := [5, 6], L := Int × Int, emb := embII })] }) (by kernel_rfl) (by kernel_rfl) (by kernel_rfl)
noncomputable def alike7T (t : Nat) (s : Sl) : Tree :=
  .call 62 [pa t 0].toArray [] eSl fun (s1 : Sl) =>
  .loop [.v (slV ⟨none, 0, 0⟩), .v (iV 0)] (Sl × Int) (fun r1 => [.v (slV r1.fst), .v (iV r1.snd)]) fun r1 =>
  .ite (decide (r1.snd < (↑s1.n : Int)))
  (.loadS 3 (Instr.indexAt 111 (slV s1) (iV r1.snd)) eAddr fun (a1 : Addr) =>
   .loadS 5 (Instr.loadAt 3 (aa a1 0)) eInt fun (i1 : Int) =>
   .loadS 8 (Instr.indexAt 111 (slV s1) (iV r1.snd)) eAddr fun (a2 : Addr) =>
   .loadS 10 (Instr.loadAt 3 (aa a2 1)) eInt fun (i2 : Int) =>
   .append #[50, 50] 50 (slV r1.fst) 57 1 [(iV i1), (iV i2)] [] eSl fun (s2 : Sl) =>
   .endS (.again 0 [.v (slV s2), .v (iV (wr (r1.snd + 1)))]))
  (.call 17 [pa t 0].toArray [] eInt fun (i1 : Int) =>
   .ite (i1 == (↑s.n : Int))
   (.call 63 [slV r1.fst, slV s].toArray [] eBool fun (b1 : Bool) =>
    .ret (.bool b1))
   (.ret (.bool false)))
theorem alike7_t (t : Nat) (s : Sl) : FnT l7b 29 [pa t 0, slV s] (alike7T t s) := fnT (fn := Go.Proofs.Try.f29) (fc := { lh := [(0, { slots := [5, 7], L := Sl × Int, emb := emb2 })] }) (by kernel_rfl) (by kernel_rfl) (by kernel_rfl)
noncomputable def made7T (s : Sl) (k : Int) : Tree :=
  .call 15 [iV k].toArray [] eBlk fun (p1 : Nat) =>
  .loop [.v (slV ⟨none, 0, 0⟩), .v (iV 0)] (Sl × Int) (fun r1 => [.v (slV r1.fst), .v (iV r1.snd)]) fun r1 =>
  .ite (decide (r1.snd < (↑s.n : Int)))
  (.prim (Instr.indexAt 32 (slV s) (iV r1.snd)) [] eAddr fun (a1 : Addr) =>
   .prim (Instr.loadAt 41 (.pointer (some a1))) [] eAct fun (x1 : ActE) =>
   .ite (x1.kind.tmod 3 == 1)
   (.call 19 [pa p1 0, ag [iV x1.k, iV 0]].toArray [] (GI.eEB eI) fun (r2 : El × Bool) =>
    .call 60 [slV r1.fst, iV x1.k].toArray [] (eTup3 eSl (GI.eE eI) eBool) fun (r3 : Sl × El × Bool) =>
    .again 0 [.v (slV r3.fst), .v (iV (wr (r1.snd + 1)))])
   (.call 20 [pa p1 0, ag [iV x1.k, iV x1.w]].toArray [] eBool fun (b1 : Bool) =>
    .call 31 [slV r1.fst, ag [iV x1.k, iV x1.w], iV k].toArray [] (eTup2 eSl eBool) fun (r2 : Sl × Bool) =>
    .ite (!b1 == r2.snd)
    (.ret (.tuple #[pa p1 0, slV r1.fst, .bool false]))
    (.again 0 [.v (slV r2.fst), .v (iV (wr (r1.snd + 1)))])))
  (.call 29 [pa p1 0, slV r1.fst].toArray [] eBool fun (b1 : Bool) =>
   .ret (.tuple #[pa p1 0, slV r1.fst, .bool b1]))
theorem made7_t (s : Sl) (k : Int) : FnT l7b 26 [slV s, iV k] (made7T s k) := fnT (fn := Go.Proofs.Try.f26) (fc := { lh := [(0, { slots := [8, 9], L := Sl × Int, emb := emb2 })] }) (by kernel_rfl) (by kernel_rfl) (by kernel_rfl)
noncomputable def parts7T_1 (k : Int) (u : Sl) (r1 : Nat × Sl × Bool) (i1 : Int) (p1 : Nat) : Tree :=
  .loadS 2 (Instr.sliceAt 50 (slV r1.snd.fst) none (some (iV i1)) none) eSl fun (s3 : Sl) =>
  .loadS 5 (Instr.sliceAt 50 (slV r1.snd.fst) (some (iV i1)) none none) eSl fun (s4 : Sl) =>
  .endS (.loop [.v (slV s3), .v (slV s4), .v (iV 0)] (Sl × Sl × Int) (fun r2 => [.v (slV r2.fst), .v (slV r2.snd.fst), .v (iV r2.snd.snd)]) fun r2 =>
  .ite (decide (r2.snd.snd < (↑u.n : Int)))
  (.loadS 2 (Instr.indexAt 32 (slV u) (iV r2.snd.snd)) eAddr fun (a1 : Addr) =>
   .loadS 4 (Instr.loadAt 3 (aa a1 1)) eInt fun (i2 : Int) =>
   .loadS 7 (Instr.indexAt 32 (slV u) (iV r2.snd.snd)) eAddr fun (a2 : Addr) =>
   .loadS 9 (Instr.loadAt 3 (aa a2 2)) eInt fun (i3 : Int) =>
   .endS (.ite (decide (i2 < k))
   (.call 20 [pa r1.fst 0, ag [iV i2, iV i3]].toArray [] eBool fun (b10 : Bool) =>
    .call 31 [slV r2.fst, ag [iV i2, iV i3], iV 1000].toArray [] (eTup2 eSl eBool) fun (r3 : Sl × Bool) =>
    .again 0 [.v (slV r3.fst), .v (slV r2.snd.fst), .v (iV (wr (r2.snd.snd + 1)))])
   (.call 20 [pa p1 0, ag [iV i2, iV i3]].toArray [] eBool fun (b10 : Bool) =>
    .call 31 [slV r2.snd.fst, ag [iV i2, iV i3], iV 1000].toArray [] (eTup2 eSl eBool) fun (r3 : Sl × Bool) =>
    .again 0 [.v (slV r2.fst), .v (slV r3.fst), .v (iV (wr (r2.snd.snd + 1)))])))
  (.call 29 [pa r1.fst 0, slV r2.fst].toArray [] eBool fun (b10 : Bool) =>
   .ite (!b10)
   (.ret (.bool false))
   (.call 29 [pa p1 0, slV r2.snd.fst].toArray [] eBool fun (b11 : Bool) =>
    .ite (!b11)
    (.ret (.bool false))
    (.call 30 [pa r1.fst 0, pa p1 0].toArray [] eBool fun (b12 : Bool) =>
     .ite (!b12)
     (.ret (.bool false))
     (.prim (Builtin.append_ #[50, 50] 50 #[(slV ⟨none, 0, 0⟩), (slV r2.fst)]) [] eSl fun (s5 : Sl) =>
      .prim (Builtin.append_ #[50, 50] 50 #[(slV s5), (slV r2.snd.fst)]) [] eSl fun (s6 : Sl) =>
      .call 29 [pa r1.fst 0, slV s6].toArray [] eBool fun (b13 : Bool) =>
      .ite b13
      (.call 29 [pa p1 0, slV ⟨none, 0, 0⟩].toArray [] eBool fun (b14 : Bool) =>
       .ite b14
       (.call 25 [pa r1.fst 0, iV 0, iV ((↑s6.n : Int))].toArray [] (GI.eA eI) fun (x1 : Tide) =>
        .call 33 [slV s6, iV 0, iV ((↑s6.n : Int))].toArray [] eSl fun (s7 : Sl) =>
        .call 32 [slV s7, iV ((↑s6.n : Int))].toArray [] eInt fun (i2 : Int) =>
        .ret (.bool (x1.sum == i2)))
       (.ret (.bool false)))
      (.ret (.bool false)))))))
noncomputable def parts7T (s : Sl) (k : Int) (u : Sl) : Tree :=
  .call 13 [].toArray [] eBool fun (b1 : Bool) =>
  .ite (!b1)
  (.call 13 [].toArray [] eBool fun (b2 : Bool) =>
   .ret (.bool b2))
  (.call 14 [slV s, iV 50].toArray [] eBool fun (b2 : Bool) =>
   .ite (!b2)
   (.call 13 [].toArray [] eBool fun (b3 : Bool) =>
    .ret (.bool b3))
   (.call 14 [slV u, iV 20].toArray [] eBool fun (b3 : Bool) =>
    .ite (!b3)
    (.call 13 [].toArray [] eBool fun (b4 : Bool) =>
     .ret (.bool b4))
    (.call 26 [slV s, iV 200].toArray [] (eTup3 eBlk eSl eBool) fun (r1 : Nat × Sl × Bool) =>
     .ite (!r1.snd.snd)
     (.ret (.bool false))
     (.call 27 [slV r1.snd.fst, iV k].toArray [] eInt fun (i1 : Int) =>
      .call 28 [pa r1.fst 0, ag [iV k, iV 0]].toArray [] eBlk fun (p1 : Nat) =>
      .prim (Instr.sliceAt 50 (slV r1.snd.fst) none (some (iV i1)) none) [] eSl fun (s1 : Sl) =>
      .call 29 [pa r1.fst 0, slV s1].toArray [] eBool fun (b4 : Bool) =>
      .ite (!b4)
      (.ret (.bool false))
      (.prim (Instr.sliceAt 50 (slV r1.snd.fst) (some (iV i1)) none none) [] eSl fun (s2 : Sl) =>
       .call 29 [pa p1 0, slV s2].toArray [] eBool fun (b5 : Bool) =>
       .ite (!b5)
       (.ret (.bool false))
       (.call 30 [pa r1.fst 0, pa r1.fst 0].toArray [] eBool fun (b6 : Bool) =>
        .ite b6
        (.ret (.bool false))
        (.call 30 [pa r1.fst 0, .pointer none].toArray [] eBool fun (b7 : Bool) =>
         .ite b7
         (.ret (.bool false))
         (.call 15 [iV 9].toArray [] eBlk fun (p2 : Nat) =>
          .call 30 [pa r1.fst 0, pa p2 0].toArray [] eBool fun (b8 : Bool) =>
          .ite b8
          (.ret (.bool false))
          (.ite (decide (i1 > 0))
           (.ite (decide (i1 < (↑r1.snd.fst.n : Int)))
            (.call 30 [pa p1 0, pa r1.fst 0].toArray [] eBool fun (b9 : Bool) =>
             .ite b9
             (.ret (.bool false))
             (parts7T_1 k u r1 i1 p1))
            (parts7T_1 k u r1 i1 p1))
           (parts7T_1 k u r1 i1 p1))))))))))
theorem parts7_t (s : Sl) (k : Int) (u : Sl) : FnT l7b 5 [slV s, iV k, slV u] (parts7T s k u) := fnT (fn := Go.Proofs.Try.f5) (fc := { lh := [(0, { slots := [12, 13, 14], L := Sl × Sl × Int, emb := fun x => [.v (slV x.1), .v (slV x.2.1), .v (iV x.2.2)] })] }) (by kernel_rfl) (by kernel_rfl) (by kernel_rfl)
end Go.Sx

set_option linter.unusedVariables false
namespace Go.Sx

/-! ### Structs that are alike -/
section
variable {P : Program} {w : World} {d : Nat} {xs ys : Array Value} {f : Field} {fs : List Field} {a b : Value} {r s : Bool}
theorem eqF_nil : (Op.eqFields d xs ys []).run P w = .ok true w := by simp [Op.eqFields]
theorem eqF_cons (hn : (f.name == "_") = false) (ha : (part f.type xs f.offset).run P w = .ok a w) (hb : (part f.type ys f.offset).run P w = .ok b w) (he : (Op.equalIn d f.type a b).run P w = .ok r w) (hr : (Op.eqFields d xs ys fs).run P w = .ok s w) :
    (Op.eqFields d xs ys (f :: fs)).run P w = .ok (r && s) w := by
  have hn' : f.name ≠ "_" := by simpa using hn
  unfold Op.eqFields
  simp only [if_pos hn', Sem.run_bind, ha, hb, he, Result.andThen_ok]
  cases r with
  | false => simp
  | true => simpa using hr
theorem eqS {t : TypeId} {fs : Array Field} (hu : P.underlying t = some (.struct fs)) (hp : P.stoodInHeld t = false) (h : (Op.eqFields d xs ys fs.toList).run P w = .ok r w) : (Op.equalIn (d + 1) t (.agg xs) (.agg ys)).run P w = .ok r w := by
  have hf : P.fieldsOf t = fs := by simp [Program.fieldsOf, hu]
  rw [run_equalIn_struct (P := P) w d t xs ys (by rw [hf]; exact hu) hp, hf]
  exact h
theorem ld_eqS {F : BS} {t : TypeId} {x y : Operand} (hm : P.eqGuardType P.depth t = false) (h : ∀ w, (Op.equalIn 10000 t (.agg xs) (.agg ys)).run P w = .ok r w) : Ld P F w (do eqGuard BinOp.eql t x y (.agg xs) (.agg ys); binOp BinOp.eql t (.agg xs) (.agg ys)) (.bool r) := fun w' _ => by
  have h1 := run_eqGuard_agg (P := P) w' .eql t x y xs ys hm
  have h2 : (Op.equal t (.agg xs) (.agg ys)).run P w' = .ok r w' := h w'
  simp [binOp, h1, h2]
theorem ld_neS {F : BS} {t : TypeId} {x y : Operand} (hm : P.eqGuardType P.depth t = false) (h : ∀ w, (Op.equalIn 10000 t (.agg xs) (.agg ys)).run P w = .ok r w) : Ld P F w (do eqGuard BinOp.neq t x y (.agg xs) (.agg ys); binOp BinOp.neq t (.agg xs) (.agg ys)) (.bool (!r)) := fun w' _ => by
  have h1 := run_eqGuard_agg (P := P) w' .neq t x y xs ys hm
  have h2 : (Op.equal t (.agg xs) (.agg ys)).run P w' = .ok r w' := h w'
  simp [binOp, h1, h2]
end
end Go.Sx

set_option linter.unusedVariables false
set_option maxHeartbeats 1000000
namespace Go.Sx
open GI Asn Go.RowKit

/-! ### The document's lists of law 07 -/
theorem l7b_ok : l7b.Ok := ⟨fun f g args v h _ => (by cases h), fun t n f h => (by cases h)⟩
theorem l7b_P : l7b.P = Go.Proofs.Try.prog := rfl
theorem slE : SlTy Go.Proofs.Try.prog 50 57 elCd := ⟨by kernel_rfl, by kernel_rfl, by decide, ⟨(Go.Proofs.Try.prog.info? 57).get (by kernel_rfl), ((Go.Proofs.Try.prog.info? 57).get (by kernel_rfl)).zero.get (by kernel_rfl), by kernel_rfl, by kernel_rfl, by kernel_rfl, by kernel_rfl, Nat.le_of_ble_eq_true (by kernel_rfl)⟩⟩
theorem slI : SlTy Go.Proofs.Try.prog 22 3 intCd := ⟨by kernel_rfl, by kernel_rfl, by decide, ⟨(Go.Proofs.Try.prog.info? 3).get (by kernel_rfl), ((Go.Proofs.Try.prog.info? 3).get (by kernel_rfl)).zero.get (by kernel_rfl), by kernel_rfl, by kernel_rfl, by kernel_rfl, by kernel_rfl, Nat.le_of_ble_eq_true (by kernel_rfl)⟩⟩
theorem slS : SlTy Go.Proofs.Try.prog 111 37 elCd := ⟨by kernel_rfl, by kernel_rfl, by decide, ⟨(Go.Proofs.Try.prog.info? 37).get (by kernel_rfl), ((Go.Proofs.Try.prog.info? 37).get (by kernel_rfl)).zero.get (by kernel_rfl), by kernel_rfl, by kernel_rfl, by kernel_rfl, by kernel_rfl, Nat.le_of_ble_eq_true (by kernel_rfl)⟩⟩
theorem a57 : isAggT Go.Proofs.Try.prog 57 = some true := by kernel_rfl
theorem s57 : sizeT Go.Proofs.Try.prog 57 = some 2 := by kernel_rfl

def rk (k : Int) : List El → Nat
  | [] => 0
  | e :: l => if e.k < k then rk k l + 1 else 0
theorem rk_le (k : Int) : ∀ l, rk k l ≤ l.length
  | [] => Nat.le_refl _
  | e :: l => by unfold rk; have := rk_le k l; split <;> simp <;> omega

section
variable {z : Zn} {s u : Sl} {xs ys : List El}
theorem rank7_s (h : RowIn z elCd s xs) (k : Int) : Fn Go.Proofs.Try.prog 27 [slV s, iV k] (fz z) eInt Unit (fun (x : Int) _ => x = (rk k xs : Int)) fun _ _ => fz z := by
  refine Fn.of l7b_P l7b_ok try_mix (rank7_t s k) fun B => ?_
  unfold rank7T
  have hsn := h.n
  have hl63 := h.len
  refine AT.loop (Y := Unit) (fun (i : Int) _ => ∃ n : Nat, i = n ∧ n ≤ xs.length ∧ n + rk k (xs.drop n) = rk k xs) (fun _ _ => fz z) (fun i => xs.length - i.toNat) (0 : Int) () rfl ⟨0, rfl, Nat.zero_le _, by simp⟩ (Imp.refl _) ?_
  rintro G l y ⟨n, rfl, hn, hr⟩ hag
  refine AT.iteD (fun hb => ?_) (fun hb => ?_)
  · have hlt : n < xs.length := by omega
    have hd : xs.drop n = xs[n] :: xs.drop (n + 1) := List.drop_eq_getElem_cons hlt
    obtain ⟨a, hl, hc⟩ := ldIndex (x := xs[n]) h slE.u slE.s (Int.natCast_nonneg n) (by simp)
    refine AT.ld (H := eAddr) a (fun F w _ => hl F w) ?_
    refine AT.ld (H := eInt) xs[n].k (ldCell hc 0 a3 rfl) ?_
    rw [hd] at hr
    refine AT.iteD (fun h1 => ?_) (fun h1 => ?_)
    · rw [rk, if_pos h1] at hr
      have hw : wr ((n : Int) + 1) = ((n + 1 : Nat) : Int) := by rw [wr_id (by omega) (by simp [maxLen] at hl63; omega)]; omega
      rw [hw]
      exact AT.again rfl (hag ((n + 1 : Nat) : Int) () ⟨n + 1, rfl, hlt, by omega⟩ (by omega))
    · rw [rk, if_neg h1] at hr
      exact AT.ret (H := eInt) (n : Int) () rfl (by rw [← hr]; simp) (Imp.refl _)
  · have hge : n = xs.length := by omega
    refine AT.ret (H := eInt) (n : Int) () rfl ?_ (Imp.refl _)
    rw [← hr, hge]; simp [rk]

/-- A list with one more, or another one in its place. -/
def putL (xs : List El) (e : El) (m : Int) : List El × Bool :=
  match xs[rk e.k xs]? with
  | some f => if f.k = e.k then (xs.take (rk e.k xs) ++ e :: xs.drop (rk e.k xs + 1), true) else if (xs.length : Int) ≥ m then (xs, false) else (xs.take (rk e.k xs) ++ e :: xs.drop (rk e.k xs), true)
  | none => if (xs.length : Int) ≥ m then (xs, false) else (xs.take (rk e.k xs) ++ e :: xs.drop (rk e.k xs), true)
def dropL (xs : List El) (k : Int) : List El × El × Bool :=
  match xs[rk k xs]? with
  | some f => if f.k = k then (xs.take (rk k xs) ++ xs.drop (rk k xs + 1), f, true) else (xs, ⟨0, 0⟩, false)
  | none => (xs, ⟨0, 0⟩, false)

theorem put7_s (h : RowIn z elCd s xs) (e : El) (m : Int) (hb : xs.length ≤ 1000000000) : Fn Go.Proofs.Try.prog 31 [slV s, ag (elC e), iV m] (fz z) (eTup2 eSl eBool) Zn (fun (x : Sl × Bool) z' => z.le z' ∧ x.2 = (putL xs e m).2 ∧ RowIn z' elCd x.1 (putL xs e m).1) fun _ z' => fz z' := by
  refine Fn.of l7b_P l7b_ok try_mix (put7_t s e m) fun B => ?_
  unfold put7T
  have hsn := h.n
  have hrk := rk_le e.k xs
  refine AT.call0 (rank7_s h e.k) ?_
  rintro x - rfl
  refine AT.ld (H := eSl) (s.cut 2 0 (rk e.k xs)) (fun F w _ => ldCutH h slE.u slE.s (Int.natCast_nonneg _) (by omega) F w) ?_
  refine AT.imp own_nil (AT.appR (z := z) slE (h.cut (Nat.zero_le _) hrk) (by simp; omega) fun v => ?_)
  rw [List.nil_append, List.drop_zero]
  have hcutL : ∀ k : Nat, k ≤ xs.length → ∀ F w, Ld Go.Proofs.Try.prog F w (Instr.sliceAt 50 (slV s) (some (iV k)) none none) (eSl.enc (s.cut 2 k xs.length)) := fun k hk F w => ldCutL h slE.u slE.s (Int.natCast_nonneg _) (by omega) F w
  have hrow : ∀ k : Nat, k ≤ xs.length → RowIn z elCd (s.cut 2 k xs.length) (xs.drop k) := fun k hk => by have := h.cut hk (Nat.le_refl _); rw [List.take_length] at this; exact this
  -- one more
  have hmore : ∀ {J : Jc} (hJ : J = ⟨Go.Proofs.Try.prog, B, [], RQ (eTup2 eSl eBool) Zn (fun (x : Sl × Bool) z' => z.le z' ∧ x.2 = (putL xs e m).2 ∧ RowIn z' elCd x.1 (putL xs e m).1) fun _ z' => fz z'⟩),
      putL xs e m = (if (xs.length : Int) ≥ m then (xs, false) else (xs.take (rk e.k xs) ++ e :: xs.drop (rk e.k xs), true)) → AT J Lam.none ((own 57 elCd v (xs.take (rk e.k xs))).sep (fz z)) (put7T_1 s e m (rk e.k xs) v) := by
    rintro J rfl hp
    unfold put7T_1
    refine AT.iteD (fun h1 => ?_) (fun h1 => ?_)
    · rw [hsn] at h1
      rw [if_pos h1] at hp
      refine AT.freezeR fun z' hz hr => ?_
      exact AT.ret (H := eTup2 eSl eBool) (s, false) z' rfl ⟨hz, by rw [hp], by rw [hp]; exact h.mono hz⟩ (Imp.refl _)
    · rw [hsn] at h1
      rw [if_neg h1] at hp
      refine AT.app (ys := [e]) slE rfl rfl (by simp; omega) fun v2 => ?_
      refine AT.ld (H := eSl) (s.cut 2 (rk e.k xs) xs.length) (fun F w _ => hcutL _ hrk F w) ?_
      refine AT.appR (z := z) slE (hrow _ hrk) (by simp; omega) fun v3 => ?_
      refine AT.freezeR fun z' hz hr => ?_
      exact AT.ret (H := eTup2 eSl eBool) (v3, true) z' rfl ⟨hz, by rw [hp], by rw [hp]; simpa using hr⟩ (Imp.refl _)
  refine AT.iteD (fun hb => ?_) (fun hb => ?_)
  · have hlt : rk e.k xs < xs.length := by omega
    have hg : xs[rk e.k xs]? = some xs[rk e.k xs] := List.getElem?_eq_getElem hlt
    obtain ⟨a, hl, hc⟩ := ldIndex (x := xs[rk e.k xs]) h slE.u slE.s (Int.natCast_nonneg (rk e.k xs)) (by simp)
    refine AT.ldS (H := eAddr) a (fun F w _ => hl F w) ?_
    refine AT.ldS (H := eInt) xs[rk e.k xs].k (ldCell hc 0 a3 rfl) ?_
    refine AT.endS (AT.iteE (fun h1 => ?_) (fun h1 => ?_))
    · have hp : putL xs e m = (xs.take (rk e.k xs) ++ e :: xs.drop (rk e.k xs + 1), true) := by unfold putL; rw [hg]; simp only; rw [if_pos h1]
      refine AT.app (ys := [e]) slE rfl rfl (by simp; omega) fun v2 => ?_
      have hw : wr ((rk e.k xs : Int) + 1) = ((rk e.k xs + 1 : Nat) : Int) := by rw [wr_id (by omega) (by omega)]; omega
      rw [hw]
      refine AT.ld (H := eSl) (s.cut 2 (rk e.k xs + 1) xs.length) (fun F w _ => hcutL _ hlt F w) ?_
      refine AT.appR (z := z) slE (hrow _ hlt) (by simp; omega) fun v3 => ?_
      refine AT.freezeR fun z' hz hr => ?_
      exact AT.ret (H := eTup2 eSl eBool) (v3, true) z' rfl ⟨hz, by rw [hp], by rw [hp]; simpa using hr⟩ (Imp.refl _)
    · exact hmore rfl (by unfold putL; rw [hg]; simp only; rw [if_neg h1])
  · have hge : xs.length ≤ rk e.k xs := by omega
    exact AT.endS (hmore rfl (by unfold putL; rw [List.getElem?_eq_none hge]))

theorem drop7_s (h : RowIn z elCd s xs) (k : Int) (hb : xs.length ≤ 1000000000) : Fn Go.Proofs.Try.prog 60 [slV s, iV k] (fz z) (eTup3 eSl eI.eE eBool) Zn (fun (x : Sl × El × Bool) z' => z.le z' ∧ x.2 = (dropL xs k).2 ∧ RowIn z' elCd x.1 (dropL xs k).1) fun _ z' => fz z' := by
  refine Fn.of l7b_P l7b_ok try_mix (drop7_t s k) fun B => ?_
  unfold drop7T
  have hsn := h.n
  have hrk := rk_le k xs
  refine AT.call0 (rank7_s h k) ?_
  rintro x - rfl
  have hno : dropL xs k = (xs, ⟨0, 0⟩, false) → AT ⟨Go.Proofs.Try.prog, B, [], RQ (eTup3 eSl eI.eE eBool) Zn (fun (x : Sl × El × Bool) z' => z.le z' ∧ x.2 = (dropL xs k).2 ∧ RowIn z' elCd x.1 (dropL xs k).1) fun _ z' => fz z'⟩ Lam.none (fz z) (.ret (.tuple #[slV s, ag [iV 0, iV 0], .bool false])) := fun hp =>
    AT.ret (H := eTup3 eSl eI.eE eBool) (s, (⟨0, 0⟩ : El), false) z rfl ⟨Zn.le_refl z, by rw [hp]; rfl, by rw [hp]; exact h⟩ (Imp.refl _)
  refine AT.iteE (fun h1 => hno ?_) (fun h1 => ?_)
  · unfold dropL; rw [List.getElem?_eq_none (by omega)]
  have hlt : rk k xs < xs.length := by omega
  have hg : xs[rk k xs]? = some xs[rk k xs] := List.getElem?_eq_getElem hlt
  obtain ⟨a, hl, hc⟩ := ldIndex (x := xs[rk k xs]) h slE.u slE.s (Int.natCast_nonneg (rk k xs)) (by simp)
  refine AT.ld (H := eAddr) a (fun F w _ => hl F w) ?_
  refine AT.ld (H := eInt) xs[rk k xs].k (ldCell hc 0 a3 rfl) ?_
  refine AT.iteNe (fun h2 => hno ?_) (fun h2 => ?_)
  · unfold dropL; rw [hg]; simp only; rw [if_neg h2]
  have hp : dropL xs k = (xs.take (rk k xs) ++ xs.drop (rk k xs + 1), xs[rk k xs], true) := by unfold dropL; rw [hg]; simp only; rw [if_pos h2]
  refine AT.ld (H := eSl) (s.cut 2 0 (rk k xs)) (fun F w _ => ldCutH h slE.u slE.s (Int.natCast_nonneg _) (by omega) F w) ?_
  refine AT.imp own_nil (AT.appR (z := z) slE (h.cut (Nat.zero_le _) hrk) (by simp; omega) fun v => ?_)
  rw [List.nil_append, List.drop_zero]
  have hw : wr ((rk k xs : Int) + 1) = ((rk k xs + 1 : Nat) : Int) := by rw [wr_id (by omega) (by omega)]; omega
  rw [hw]
  have hrow : RowIn z elCd (s.cut 2 (rk k xs + 1) xs.length) (xs.drop (rk k xs + 1)) := by have := h.cut hlt (Nat.le_refl _); rw [List.take_length] at this; exact this
  refine AT.ldS (H := eSl) (s.cut 2 (rk k xs + 1) xs.length) (fun F w _ => ldCutL h slE.u slE.s (Int.natCast_nonneg _) (by omega) F w) ?_
  refine AT.ldS (H := eAddr) a (fun F w _ => hl F w) ?_
  refine AT.ldS (H := eI.eE) xs[rk k xs] (ldAgg0 hc a57 s57 (by rw [elCd.len]; decide)) ?_
  refine AT.appRK (z := z) slE hrow (by simp; omega) (fun v => ?_) fun v => AT.endS ?_
  · refine LOk.add (LOk.add (LOk.add LOk.none fun hd => ?_) fun _ F w _ => hl F w) fun _ => ldAgg0 hc a57 s57 (by rw [elCd.len]; decide)
    simp at hd
  refine AT.freezeR fun z' hz hr => ?_
  exact AT.ret (H := eTup3 eSl eI.eE eBool) (v, xs[rk k xs], true) z' rfl ⟨hz, by rw [hp]; rfl, by rw [hp]; exact hr⟩ (Imp.refl _)

theorem eq57 (d : Nat) (w : World) (x y : El) : (Op.equalIn (d + 2) 57 (ag (elC x)) (ag (elC y))).run Go.Proofs.Try.prog w = .ok (x.k == y.k && (x.w == y.w && true)) w := by
  refine eqS (fs := #[⟨"K", 3, 0, false, "", "", 0⟩, ⟨"W", 3, 1, false, "", "", 8⟩]) (by kernel_rfl) (by kernel_rfl) ?_
  refine eqF_cons (a := iV x.k) (b := iV y.k) (by rfl) (by kernel_rfl) (by kernel_rfl) (run_equalIn_int (k' := .i64) w d 3 .i64 _ _ (by kernel_rfl)) ?_
  refine eqF_cons (a := iV x.w) (b := iV y.w) (by rfl) (by kernel_rfl) (by kernel_rfl) (run_equalIn_int (k' := .i64) w d 3 .i64 _ _ (by kernel_rfl)) eqF_nil
theorem el_beq (x y : El) : (x.k == y.k && (x.w == y.w && true)) = true ↔ x = y := by
  cases x; cases y; simp
theorem same7_s (h : RowIn z elCd s xs) (h' : RowIn z elCd u ys) : Fn Go.Proofs.Try.prog 63 [slV s, slV u] (fz z) eBool Unit (fun (b : Bool) _ => b = true ↔ xs = ys) fun _ _ => fz z := by
  refine Fn.of l7b_P l7b_ok try_mix (same7_t s u) fun B => ?_
  unfold same7T
  have hsn := h.n
  have hun := h'.n
  have hl63 := h.len
  refine AT.iteNe (fun hne => ?_) (fun heq => ?_)
  · exact AT.ret (H := eBool) false () rfl (by simp; rintro rfl; omega) (Imp.refl _)
  have hlen : xs.length = ys.length := by omega
  refine AT.loop (Y := Unit) (fun (i : Int) _ => ∃ n : Nat, i = n ∧ n ≤ xs.length ∧ xs.take n = ys.take n) (fun _ _ => fz z) (fun i => xs.length - i.toNat) (0 : Int) () rfl ⟨0, rfl, Nat.zero_le _, by simp⟩ (Imp.refl _) ?_
  rintro G l y ⟨n, rfl, hn, hr⟩ hag
  refine AT.iteD (fun hb => ?_) (fun hb => ?_)
  · have hlt : n < xs.length := by omega
    have hlt' : n < ys.length := by omega
    obtain ⟨a, hl, hc⟩ := ldIndex (x := xs[n]) h slE.u slE.s (Int.natCast_nonneg n) (by simp)
    obtain ⟨a', hl', hc'⟩ := ldIndex (x := ys[n]) h' slE.u slE.s (Int.natCast_nonneg n) (by simp)
    refine AT.ldS (H := eAddr) a (fun F w _ => hl F w) ?_
    refine AT.ldS (H := eI.eE) xs[n] (ldAgg0 hc a57 s57 (by rw [elCd.len]; decide)) ?_
    refine AT.ldS (H := eAddr) a' (fun F w _ => hl' F w) ?_
    refine AT.ldS (H := eI.eE) ys[n] (ldAgg0 hc' a57 s57 (by rw [elCd.len]; decide)) ?_
    refine AT.ldS (H := eBool) (!(xs[n].k == ys[n].k && (xs[n].w == ys[n].w && true))) (fun F w _ => ld_neS (by kernel_rfl) fun w => eq57 9998 w _ _) ?_
    refine AT.endS (AT.iteN (fun hd => ?_) (fun hd => ?_))
    · refine AT.ret (H := eBool) false () rfl ?_ (Imp.refl _)
      have : ¬ xs[n] = ys[n] := fun e => by rw [← el_beq, hd] at e; cases e
      simp only [Bool.false_eq_true, false_iff]
      intro e; subst e; exact this rfl
    · have he : xs[n] = ys[n] := (el_beq _ _).1 hd
      have hw : wr ((n : Int) + 1) = ((n + 1 : Nat) : Int) := by rw [wr_id (by omega) (by simp [maxLen] at hl63; omega)]; omega
      rw [hw]
      refine AT.again rfl (hag ((n + 1 : Nat) : Int) () ⟨n + 1, rfl, hlt, ?_⟩ (by omega))
      rw [List.take_add_one, List.take_add_one, hr, List.getElem?_eq_getElem hlt, List.getElem?_eq_getElem hlt', he]
  · refine AT.ret (H := eBool) true () rfl ?_ (Imp.refl _)
    have : n = xs.length := by omega
    subst this
    rw [List.take_length, hlen, List.take_length] at hr
    simp [hr]

/-- The numbers of some places, from 0 on. -/
theorem ws7_s (h : RowIn z elCd s xs) (hb : xs.length ≤ 1000000000) : Fn Go.Proofs.Try.prog 33 [slV s, iV 0, iV xs.length] (fz z) eSl Zn (fun (x : Sl) z' => z.le z' ∧ RowIn z' intCd x (xs.map (·.w))) fun _ z' => fz z' := by
  refine Fn.of l7b_P l7b_ok try_mix (ws7_t s 0 xs.length) fun B => ?_
  unfold ws7T
  have hsn := h.n
  refine AT.ld (H := eInt) (0 : Int) (fun F w _ => ld_max) ?_
  refine AT.imp own_nil (AT.loop (Y := Unit) (fun (r : Sl × Int) _ => ∃ n : Nat, r.2 = n ∧ n ≤ xs.length) (fun r _ => (own 3 intCd r.1 ((xs.take r.2.toNat).map (·.w))).sep (fz z)) (fun r => xs.length - r.2.toNat) ((⟨none, 0, 0⟩ : Sl), (0 : Int)) () rfl ⟨0, rfl, Nat.zero_le _⟩ (Imp.refl _) ?_)
  rintro G ⟨v, l⟩ y ⟨n, rfl, hn⟩ hag
  refine AT.iteD (fun hb1 => AT.iteD (fun hb2 => ?_) (fun hb2 => ?_)) (fun hb1 => ?_)
  · have hlt : n < xs.length := by omega
    obtain ⟨a, hl, hc⟩ := ldIndex (x := xs[n]) h slE.u slE.s (Int.natCast_nonneg n) (by simp)
    refine AT.ld (H := eAddr) a (fun F w _ => hl F w) ?_
    refine AT.ld (H := eInt) xs[n].w (ldCell hc 1 a3 rfl) ?_
    refine AT.app (ys := [xs[n].w]) slI rfl rfl (by simp; omega) fun v2 => ?_
    have hw : wr ((n : Int) + 1) = ((n + 1 : Nat) : Int) := by rw [wr_id (by omega) (by omega)]; omega
    rw [hw]
    have hmap : (xs.take ((n : Int)).toNat).map (·.w) ++ [xs[n].w] = (xs.take (((n + 1 : Nat) : Int)).toNat).map (·.w) := by
      simp only [Int.toNat_natCast]
      rw [List.take_add_one, List.map_append, List.getElem?_eq_getElem hlt]; rfl
    rw [hmap]
    exact AT.again rfl (hag (v2, ((n + 1 : Nat) : Int)) () ⟨n + 1, rfl, hlt⟩ (by simp only; omega))
  · omega
  · have : n = xs.length := by simp only at hb1; omega
    subst this
    simp only [Int.toNat_natCast, List.take_length]
    exact AT.freezeR fun z' hz hr => AT.ret (H := eSl) v z' rfl ⟨hz, hr⟩ (Imp.refl _)

def sumL (l : List Int) : Int := l.foldl (fun a b => wr (a + b)) 0
theorem sum6_s {xs : List Int} (h : RowIn z intCd s xs) : Fn Go.Proofs.Try.prog 32 [slV s, iV xs.length] (fz z) eInt Unit (fun (x : Int) _ => x = sumL xs) fun _ _ => fz z := by
  refine Fn.of l7b_P l7b_ok try_mix (sum6_t s xs.length) fun B => ?_
  unfold sum6T
  have hl63 := h.len
  refine AT.loop (Y := Unit) (fun (r : Int × Int) _ => ∃ n : Nat, r.2 = n ∧ n ≤ xs.length ∧ r.1 = sumL (xs.take n)) (fun _ _ => fz z) (fun r => xs.length - r.2.toNat) ((0 : Int), (0 : Int)) () rfl ⟨0, rfl, Nat.zero_le _, rfl⟩ (Imp.refl _) ?_
  rintro G ⟨v, l⟩ y ⟨n, rfl, hn, rfl⟩ hag
  refine AT.iteD (fun hb => ?_) (fun hb => ?_)
  · have hlt : n < xs.length := by simp only at hb; omega
    obtain ⟨a, hl, hc⟩ := ldIndex (x := xs[n]) h slI.u slI.s (Int.natCast_nonneg n) (by simp)
    refine AT.ld (H := eAddr) a (fun F w _ => hl F w) ?_
    refine AT.ld (H := eInt) xs[n] (ldCell0 hc a3 rfl) ?_
    have hw : wr ((n : Int) + 1) = ((n + 1 : Nat) : Int) := by rw [wr_id (by omega) (by simp [maxLen] at hl63; omega)]; omega
    rw [hw]
    refine AT.again rfl (hag (wr (sumL (xs.take n) + xs[n]), ((n + 1 : Nat) : Int)) () ⟨n + 1, rfl, hlt, ?_⟩ (by simp only; omega))
    simp only [sumL]
    rw [List.take_add_one, List.foldl_append, List.getElem?_eq_getElem hlt]; rfl
  · have : n = xs.length := by simp only at hb; omega
    subst this
    exact AT.ret (H := eInt) (sumL (xs.take xs.length)) () rfl (by rw [List.take_length]) (Imp.refl _)
end
end Go.Sx

set_option linter.unusedVariables false
set_option linter.unusedSimpArgs false
namespace Go.Sx

/-! ### Trees as lists in order -/
structure CmpOk {E : Type} (cmp : E → E → Int) : Prop where
  swap : ∀ a b, cmp a b < 0 ↔ 0 < cmp b a
  trans : ∀ a b c, cmp a b < 0 → cmp b c < 0 → cmp a c < 0
  eqL : ∀ a b c, cmp a b = 0 → (cmp a c < 0 ↔ cmp b c < 0)
  eqR : ∀ a b c, cmp a b = 0 → (cmp c a < 0 ↔ cmp c b < 0)

section
variable {E : Type} {cmp : E → E → Int}
def Srt (cmp : E → E → Int) (l : List E) : Prop := l.Pairwise fun a b => cmp a b < 0
def insL (cmp : E → E → Int) (e : E) : List E → List E
  | [] => [e]
  | f :: l => if cmp e f < 0 then e :: f :: l else if 0 < cmp e f then f :: insL cmp e l else e :: l
def hasL (cmp : E → E → Int) (e : E) : List E → Bool
  | [] => false
  | f :: l => if cmp e f = 0 then true else hasL cmp e l
def delL (cmp : E → E → Int) (e : E) : List E → Option (List E × E)
  | [] => none
  | f :: l => if cmp e f = 0 then some (l, f) else (delL cmp e l).map fun x => (f :: x.1, x.2)
def findL (cmp : E → E → Int) (e : E) : List E → Option E
  | [] => none
  | f :: l => if cmp e f = 0 then some f else findL cmp e l
/-- How many stand ahead. -/
def rankL (cmp : E → E → Int) (e : E) : List E → Nat
  | [] => 0
  | f :: l => if 0 < cmp e f then rankL cmp e l + 1 else 0

variable (hc : CmpOk cmp)
include hc
theorem CmpOk.irr (a : E) : cmp a a = 0 := by
  have := hc.swap a a
  omega
theorem CmpOk.eq_symm {a b : E} (h : cmp a b = 0) : cmp b a = 0 := by
  have h1 := hc.swap a b
  have h2 := hc.swap b a
  omega
/-- All ahead of something that is ahead of e (or alike) are ahead of e. -/
theorem CmpOk.lt_of {a f e : E} (h1 : cmp a f < 0) (h2 : 0 ≤ cmp e f) : 0 < cmp e a := by
  rw [← hc.swap]
  by_cases h : cmp e f = 0
  · exact (hc.eqR e f a h).2 h1
  · exact hc.trans a f e h1 ((hc.swap f e).2 (by omega))
theorem CmpOk.gt_of {a f e : E} (h1 : cmp f a < 0) (h2 : cmp e f ≤ 0) : cmp e a < 0 := by
  by_cases h : cmp e f = 0
  · exact (hc.eqL e f a h).2 h1
  · exact hc.trans e f a (by omega) h1

omit hc in
theorem Srt.parts {A B : List E} {f : E} (h : Srt cmp (A ++ f :: B)) : Srt cmp A ∧ Srt cmp B ∧ (∀ a ∈ A, cmp a f < 0) ∧ (∀ b ∈ B, cmp f b < 0) ∧ ∀ a ∈ A, ∀ b ∈ B, cmp a b < 0 := by
  unfold Srt at h ⊢
  rw [List.pairwise_append, List.pairwise_cons] at h
  exact ⟨h.1, h.2.1.2, fun a ha => h.2.2 a ha f (by simp), h.2.1.1, fun a ha b hb => h.2.2 a ha b (by simp [hb])⟩
theorem Srt.join {A B : List E} {f : E} (hA : Srt cmp A) (hB : Srt cmp B) (h1 : ∀ a ∈ A, cmp a f < 0) (h2 : ∀ b ∈ B, cmp f b < 0) : Srt cmp (A ++ f :: B) := by
  unfold Srt at *
  rw [List.pairwise_append, List.pairwise_cons]
  refine ⟨hA, ⟨h2, hB⟩, fun a ha b hb => ?_⟩
  rcases List.mem_cons.1 hb with rfl | hb
  · exact h1 a ha
  · exact hc.trans a f b (h1 a ha) (h2 b hb)
omit hc in
theorem insL_mem {e x : E} : ∀ {l : List E}, x ∈ insL cmp e l → x = e ∨ x ∈ l
  | [], h => by simp [insL] at h; exact .inl h
  | f :: l, h => by
    unfold insL at h
    split at h
    · simpa using h
    · split at h
      · rcases List.mem_cons.1 h with rfl | h
        · simp
        · rcases insL_mem h with h | h <;> simp [h]
      · rcases List.mem_cons.1 h with rfl | h <;> simp [*]
theorem insL_srt {e : E} : ∀ {l : List E}, Srt cmp l → Srt cmp (insL cmp e l)
  | [], _ => by simp [insL, Srt]
  | f :: l, h => by
    have hp := Srt.parts (A := []) h
    unfold insL
    split
    · rename_i h1
      refine Srt.join hc (A := []) List.Pairwise.nil h (by simp) fun b hb => ?_
      rcases List.mem_cons.1 hb with rfl | hb
      · exact h1
      · exact hc.trans e f b h1 (hp.2.2.2.1 b hb)
    · split
      · rename_i h1 h2
        refine Srt.join hc (A := []) List.Pairwise.nil (insL_srt hp.2.1) (by simp) fun b hb => ?_
        rcases insL_mem hb with rfl | hb
        · exact (hc.swap f b).2 h2
        · exact hp.2.2.2.1 b hb
      · rename_i h1 h2
        have h0 : cmp e f = 0 := by omega
        exact Srt.join hc (A := []) List.Pairwise.nil hp.2.1 (by simp) fun b hb => (hc.eqL e f b h0).2 (hp.2.2.2.1 b hb)

theorem insL_app {e f : E} {A B : List E} (hA : ∀ a ∈ A, cmp a f < 0) : insL cmp e (A ++ f :: B) = if cmp e f < 0 then insL cmp e A ++ f :: B else if 0 < cmp e f then A ++ f :: insL cmp e B else A ++ e :: B := by
  induction A with
  | nil =>
    simp only [List.nil_append]
    by_cases h1 : cmp e f < 0
    · rw [if_pos h1]; show insL cmp e (f :: B) = e :: f :: B; rw [insL, if_pos h1]
    · by_cases h2 : 0 < cmp e f
      · rw [if_neg h1, if_pos h2, insL, if_neg h1, if_pos h2]
      · rw [if_neg h1, if_neg h2, insL, if_neg h1, if_neg h2]
  | cons a A ih =>
    have ih := ih fun x hx => hA x (List.mem_cons_of_mem _ hx)
    have haf := hA a (by simp)
    simp only [List.cons_append]
    by_cases h1 : cmp e f < 0
    · rw [if_pos h1] at ih ⊢
      conv => lhs; rw [insL]
      conv => rhs; rw [insL]
      split
      · rfl
      · split
        · rw [ih]; rfl
        · rfl
    · have ha : 0 < cmp e a := hc.lt_of haf (by omega)
      rw [if_neg h1] at ih ⊢
      rw [insL, if_neg (by omega), if_pos ha, ih]
      split <;> rfl
theorem hasL_app {e f : E} {A B : List E} (hA : ∀ a ∈ A, cmp a f < 0) (hB : ∀ b ∈ B, cmp f b < 0) : hasL cmp e (A ++ f :: B) = if cmp e f < 0 then hasL cmp e A else if 0 < cmp e f then hasL cmp e B else true := by
  have hBno : cmp e f < 0 → hasL cmp e B = false := fun h => by
    clear hA
    induction B with
    | nil => rfl
    | cons b B ih =>
      have : cmp e b < 0 := hc.gt_of (hB b (by simp)) (by omega)
      rw [hasL, if_neg (by omega)]; exact ih fun x hx => hB x (List.mem_cons_of_mem _ hx)
  induction A with
  | nil =>
    simp only [List.nil_append, hasL]
    by_cases h1 : cmp e f < 0
    · rw [if_neg (by omega), if_pos h1]; exact hBno h1
    · by_cases h2 : 0 < cmp e f
      · rw [if_neg (by omega), if_neg h1, if_pos h2]
      · rw [if_pos (by omega), if_neg h1, if_neg h2]
  | cons a A ih =>
    have ih := ih fun x hx => hA x (List.mem_cons_of_mem _ hx)
    have haf := hA a (by simp)
    simp only [List.cons_append]
    rw [hasL, ih]
    by_cases h1 : cmp e f < 0
    · simp only [if_pos h1, hasL]
    · have ha : 0 < cmp e a := hc.lt_of haf (by omega)
      simp only [if_neg h1]; rw [if_neg (by omega)]
theorem delL_app {e f : E} {A B : List E} (hA : ∀ a ∈ A, cmp a f < 0) (hB : ∀ b ∈ B, cmp f b < 0) : delL cmp e (A ++ f :: B) = if cmp e f < 0 then (delL cmp e A).map (fun x => (x.1 ++ f :: B, x.2)) else if 0 < cmp e f then (delL cmp e B).map (fun x => (A ++ f :: x.1, x.2)) else some (A ++ B, f) := by
  have hBno : cmp e f < 0 → delL cmp e B = none := fun h => by
    clear hA
    induction B with
    | nil => rfl
    | cons b B ih =>
      have : cmp e b < 0 := hc.gt_of (hB b (by simp)) (by omega)
      rw [delL, if_neg (by omega), ih fun x hx => hB x (List.mem_cons_of_mem _ hx)]; rfl
  induction A with
  | nil =>
    simp only [List.nil_append, delL]
    by_cases h1 : cmp e f < 0
    · rw [if_neg (by omega), if_pos h1, hBno h1]; rfl
    · by_cases h2 : 0 < cmp e f
      · rw [if_neg (by omega), if_neg h1, if_pos h2]
      · rw [if_pos (by omega), if_neg h1, if_neg h2]
  | cons a A ih =>
    have ih := ih fun x hx => hA x (List.mem_cons_of_mem _ hx)
    have haf := hA a (by simp)
    simp only [List.cons_append]
    rw [delL, ih]
    by_cases h1 : cmp e f < 0
    · simp only [if_pos h1, delL]
      split
      · rfl
      · cases delL cmp e A <;> rfl
    · have ha : 0 < cmp e a := hc.lt_of haf (by omega)
      simp only [if_neg h1]; rw [if_neg (by omega)]
      split
      · cases delL cmp e B <;> rfl
      · rfl
theorem findL_app {e f : E} {A B : List E} (hA : ∀ a ∈ A, cmp a f < 0) (hB : ∀ b ∈ B, cmp f b < 0) : findL cmp e (A ++ f :: B) = if cmp e f = 0 then some f else if cmp e f < 0 then findL cmp e A else findL cmp e B := by
  have hBno : cmp e f < 0 → findL cmp e B = none := fun h => by
    clear hA
    induction B with
    | nil => rfl
    | cons b B ih =>
      have : cmp e b < 0 := hc.gt_of (hB b (by simp)) (by omega)
      rw [findL, if_neg (by omega), ih fun x hx => hB x (List.mem_cons_of_mem _ hx)]
  induction A with
  | nil =>
    simp only [List.nil_append, findL]
    split
    · rfl
    · split
      · rename_i h1; rw [hBno h1]
      · rfl
  | cons a A ih =>
    have ih := ih fun x hx => hA x (List.mem_cons_of_mem _ hx)
    have haf := hA a (by simp)
    simp only [List.cons_append]
    rw [findL, ih]
    by_cases h1 : cmp e f < 0
    · rw [if_neg (show ¬ cmp e f = 0 by omega), if_pos h1, if_neg (show ¬ cmp e f = 0 by omega), if_pos h1, findL]
    · have ha : 0 < cmp e a := hc.lt_of haf (by omega)
      rw [if_neg (show ¬ cmp e a = 0 by omega)]
      split
      · rfl
      · first | rfl | rw [if_neg h1, if_neg h1]
theorem rankL_app {e f : E} {A B : List E} (hA : ∀ a ∈ A, cmp a f < 0) : rankL cmp e (A ++ f :: B) = if cmp e f ≤ 0 then rankL cmp e A else A.length + 1 + rankL cmp e B := by
  induction A with
  | nil =>
    simp only [List.nil_append, rankL]
    by_cases h1 : cmp e f ≤ 0
    · rw [if_neg (by omega), if_pos h1]
    · rw [if_pos (by omega), if_neg h1]; simp; omega
  | cons a A ih =>
    have ih := ih fun x hx => hA x (List.mem_cons_of_mem _ hx)
    have haf := hA a (by simp)
    simp only [List.cons_append]
    rw [rankL, ih]
    by_cases h1 : cmp e f ≤ 0
    · simp only [if_pos h1, rankL]
    · have ha : 0 < cmp e a := hc.lt_of haf (by omega)
      simp only [if_neg h1]; rw [if_pos ha]; simp; omega

namespace BT
theorem ins_elems {m : Rf} {e : E} : ∀ {s : BT E}, Srt cmp s.elems → (s.ins cmp m e).elems = insL cmp e s.elems
  | nil, _ => rfl
  | node r l f h, hs => by
    obtain ⟨h1, h2, h3, h4, _⟩ := Srt.parts hs
    rw [elems, insL_app hc h3, ins]
    split
    · rw [link_elems, ins_elems h1]
    · split
      · rw [link_elems, ins_elems h2]
      · rfl
theorem has_elems {e : E} : ∀ {s : BT E}, Srt cmp s.elems → s.has cmp e = hasL cmp e s.elems
  | nil, _ => rfl
  | node r l f h, hs => by
    obtain ⟨h1, h2, h3, h4, _⟩ := Srt.parts hs
    rw [elems, hasL_app hc h3 h4, has, has_elems h1, has_elems h2]
theorem del_elems {e : E} : ∀ {s : BT E}, Srt cmp s.elems → (s.del cmp e).map (fun x => (x.1.elems, x.2)) = delL cmp e s.elems
  | nil, _ => rfl
  | node r l f h, hs => by
    obtain ⟨h1, h2, h3, h4, _⟩ := Srt.parts hs
    rw [elems, delL_app hc h3 h4, del, ← del_elems h1, ← del_elems h2]
    split
    · cases l.del cmp e <;> simp [link_elems]
    · split
      · cases h.del cmp e <;> simp [link_elems]
      · simp [merge_elems]
theorem find_elems {e : E} : ∀ {s : BT E}, Srt cmp s.elems → s.find cmp e = findL cmp e s.elems
  | nil, _ => rfl
  | node r l f h, hs => by
    obtain ⟨h1, h2, h3, h4, _⟩ := Srt.parts hs
    rw [elems, findL_app hc h3 h4, find, find_elems h1, find_elems h2]
theorem rank_elems {e : E} : ∀ {s : BT E}, Srt cmp s.elems → s.rank cmp e = rankL cmp e s.elems
  | nil, _ => rfl
  | node r l f h, hs => by
    obtain ⟨h1, h2, h3, h4, _⟩ := Srt.parts hs
    rw [elems, rankL_app hc h3, rank, rank_elems h1, rank_elems h2, w, size_elems]
end BT
omit hc in
theorem BT.at_elems {E : Type} : ∀ (s : BT E) (i : Nat), s.at_ i = s.elems[i]?
  | .nil, i => by simp [BT.at_, BT.elems]
  | .node r l f h, i => by
    rw [BT.at_, BT.elems, BT.size_elems, BT.at_elems l, BT.at_elems h]
    by_cases h1 : i = l.elems.length
    · rw [if_pos h1, h1, List.getElem?_append_right (Nat.le_refl _)]; simp
    · rw [if_neg h1]
      by_cases h2 : i < l.elems.length
      · rw [if_pos h2, List.getElem?_append_left h2]
      · rw [if_neg h2, List.getElem?_append_right (by omega)]
        obtain ⟨k, hk⟩ : ∃ k, i - l.elems.length = k + 1 := ⟨i - l.elems.length - 1, by omega⟩
        rw [hk, List.getElem?_cons_succ]; congr 1; omega
theorem delL_srt {e : E} : ∀ {l : List E} {x : List E × E}, Srt cmp l → delL cmp e l = some x → Srt cmp x.1 ∧ (∀ y ∈ x.1, y ∈ l) ∧ x.2 ∈ l ∧ cmp e x.2 = 0 ∧ l.length = x.1.length + 1
  | [], x, _, h => by cases h
  | f :: l, x, hs, h => by
    have hp := Srt.parts (A := []) hs
    rw [delL] at h
    split at h
    · rename_i h0; injection h with h; subst h; exact ⟨hp.2.1, fun y hy => by simp [hy], by simp, h0, rfl⟩
    · cases hd : delL cmp e l with
      | none => rw [hd] at h; cases h
      | some y =>
        rw [hd] at h; injection h with h; subst h
        obtain ⟨k1, k2, k3, k4, k5⟩ := delL_srt hp.2.1 hd
        refine ⟨Srt.join hc (A := []) List.Pairwise.nil k1 (by simp) fun b hb => hp.2.2.2.1 b (k2 b hb), fun y' hy' => ?_, by simp [k3], k4, by simp [k5]⟩
        rcases List.mem_cons.1 hy' with rfl | hy'
        · simp
        · simp [k2 _ hy']
omit hc in
theorem insL_len {e : E} : ∀ (l : List E), Srt cmp l → CmpOk cmp → (insL cmp e l).length = l.length + (if hasL cmp e l then 0 else 1)
  | [], _, _ => rfl
  | f :: l, hs, hc => by
    have hp := Srt.parts (A := []) hs
    unfold insL hasL
    by_cases h1 : cmp e f < 0
    · rw [if_pos h1, if_neg (show ¬ cmp e f = 0 by omega)]
      have : hasL cmp e l = false := by
        have := hasL_app hc (e := e) (f := f) (A := []) (B := l) (by simp) hp.2.2.2.1
        rw [if_pos h1] at this
        simp only [List.nil_append, hasL] at this
        rw [if_neg (by omega)] at this; exact this
      simp [this]
    · rw [if_neg h1]
      by_cases h2 : 0 < cmp e f
      · rw [if_pos h2, if_neg (show ¬ cmp e f = 0 by omega), List.length_cons, insL_len l hp.2.1 hc, List.length_cons]; omega
      · rw [if_neg h2, if_pos (show cmp e f = 0 by omega)]; simp
end
end Go.Sx

set_option linter.unusedVariables false
set_option linter.unusedSimpArgs false
set_option maxHeartbeats 2000000
namespace Go.Sx
open Go.RowKit Asn
namespace GI
variable {E A : Type} {I : GI E A} {t q : Nat} {p : Px} {r0 : Rf} {σ σ' σ2 : Pool (Nd E A)} {n n1 n' : Nat}

/-! ### At, all, split, Join -/
structure Trees5 (I : GI E A) : Prop where
  base : I.Trees3
  At : ∀ t i, FnT I.cfg I.gAt [pa t 0, iV i] (I.atT t i)
  all : ∀ t r o, FnT I.cfg I.gall [pa t 0, ar r, slV o] (I.allT t r o)
  All : ∀ t, FnT I.cfg I.gAll [pa t 0] (I.AllT t)
  row : SlTy I.P I.tES I.tEl I.tE.C

def atO (I : GI E A) (l : List E) (i : Int) : E × Bool := optE I (if i < 0 then none else l[i.toNat]?)
theorem At_g (hI : I.Ty) (hG : I.Trees5) (i : Int) {s : BT E} (hs : I.Rep σ.look s) (hi : i < 4611686018427387904) : I.GS t p s.ref n n σ I.gAt [pa t 0, iV i] (eEB I) fun (x : E × Bool) σ' => x = atO I s.elems i ∧ Tch σ σ' No (2 * s.height) 0 := by
  refine GS.ok fun hO hv hn => GS.of hI (hG.At t i) (fun B => ?_)
  unfold atT
  refine GT.ite (fun hb => ?_) (fun hb => ?_)
  · have hb := of_decide_eq_true hb
    exact GT.ret (H := eEB I) (I.zE, false) rfl ⟨by unfold atO; rw [if_pos hb]; rfl, Tch.refl hv _ _⟩
  have hb := of_decide_eq_false hb
  have hat : atO I s.elems i = optE I (s.at_ i.toNat) := by unfold atO; rw [if_neg hb, BT.at_elems]
  rw [hat]
  refine GT.root hI closed_nil ?_
  refine GT.loop (fun x σ' => I.Rep σ'.look x.2 ∧ 0 ≤ x.1 ∧ x.1 ≤ i ∧ x.2.at_ x.1.toNat = s.at_ i.toNat ∧ ∃ k, k + 2 * x.2.height ≤ 2 * s.height ∧ Tch σ σ' No k 0) (fun x => x.2.size) ((i : Int), s) rfl ⟨hs, by simp only; omega, by simp, rfl, 0, by simp, Tch.refl hv _ _⟩ ?_
  rintro Γ ⟨j, s'⟩ σ1 ⟨k1, k0, k5, k2, k, k3, k4⟩ hcl hag
  simp only at k1 k0 k5 k2 k3 hag
  refine GT.ite (fun hb => ?_) (fun hb => ?_)
  · have hb : ¬ s'.ref.gen = 0 := by simpa using hb
    cases s' with
    | nil => exact absurd rfl hb
    | node r l f h =>
    refine GT.call hcl (get_g hI hG.base.base.base k1) ?_
    rintro x σ2 ⟨rfl, h2⟩
    have h12 := (k4.trans h2).no2
    have hr2 := h2.rep k1 No.rep
    refine GT.call hcl (get_g hI hG.base.base.base (s := l) hr2.2.2.1) ?_
    rintro x σ3 ⟨rfl, h3⟩
    have h13 := (h12.trans h3).no2
    have hr3 := h3.rep hr2 No.rep
    have hls : (I.ndOf l).size = (l.size : Int) := ndOf_size I _
    rw [hls]
    simp only [BT.height] at k3
    rw [BT.at_] at k2
    refine GT.ite (fun hb => ?_) (fun hb => ?_)
    · have hc : j = (l.size : Int) := eq_of_beq hb
      refine GT.ret (H := eEB I) (f, true) rfl ⟨?_, h13.mono (fun _ h => h) (by omega) (by omega)⟩
      rw [if_pos (by omega)] at k2
      rw [← k2]; rfl
    · have hc : ¬ j = (l.size : Int) := fun hh => by rw [hh] at hb; simp at hb
      rw [if_neg (by omega)] at k2
      refine GT.ite (fun hb2 => ?_) (fun hb2 => ?_)
      · have hc2 : j < (l.size : Int) := of_decide_eq_true hb2
        rw [if_pos (by omega)] at k2
        exact hag (j, l) _ _ rfl ⟨hr3.2.2.1, k0, k5, k2, k + 2, by simp only; omega, h13⟩ (by simp only [BT.size]; omega)
      · have hc2 : ¬ j < (l.size : Int) := of_decide_eq_false hb2
        rw [if_neg (by omega)] at k2
        have hwr : wr (j - wr ((l.size : Int) + 1)) = j - ((l.size : Int) + 1) := by rw [wr_id (n := (l.size : Int) + 1) (by omega) (by omega)]; exact wr_id (by omega) (by omega)
        rw [hwr]
        have hjn : (j - ((l.size : Int) + 1)).toNat = j.toNat - (l.size + 1) := by omega
        exact hag (j - ((l.size : Int) + 1), h) _ _ rfl ⟨hr3.2.2.2, by simp only; omega, by simp only; omega, by simp only; rw [hjn]; exact k2, k + 2, by simp only; omega, h13⟩ (by simp only [BT.size]; omega)
  · have hb : s'.ref.gen = 0 := by simpa using hb
    obtain rfl := (Rep.ref_gen I k1).1 hb
    refine GT.ret (H := eEB I) (I.zE, false) rfl ⟨?_, k4.mono (fun _ h => h) (by omega) rfl⟩
    rw [← k2]; rfl

/-- A tree's head and its pool, as an assertion. -/
def trx (I : GI E A) (t : Nat) (p : Px) (r0 : Rf) (σ : Pool (Nd E A)) (n : Nat) : Asn := ⟨fun F w => I.GAt t p r0 σ n F w, fun h hk => h.keep hk, fun h => h.lt⟩
theorem GS.fn {f : FuncId} {args : List Value} {H : Enc} {Q : H.T → Pool (Nd E A) → Prop} (h : I.GS t p r0 n n' σ f args H Q) : Fn I.P f args (I.trx t p r0 σ n) H (Pool (Nd E A)) Q fun _ σ' => I.trx t p r0 σ' n' := fun F w hG =>
  (h F w hG).mono fun v F1 w1 _ ⟨x, hv, σ', h1, h2⟩ => ⟨x, σ', hv, h2, h1⟩
theorem GR.fn {f : FuncId} {args : List Value} {H : Enc} {Q : H.T → Rf → Pool (Nd E A) → Prop} (h : I.GR t p r0 n n' σ f args H Q) : Fn I.P f args (I.trx t p r0 σ n) H (Rf × Pool (Nd E A)) (fun x y => Q x y.1 y.2) fun _ y => I.trx t p y.1 y.2 n' := fun F w hG =>
  (h F w hG).mono fun v F1 w1 _ ⟨x, hv, r', σ', h1, h2⟩ => ⟨x, (r', σ'), hv, h2, h1⟩
theorem Fn.gs {f : FuncId} {args : List Value} {H : Enc} {Q : H.T → Pool (Nd E A) → Prop} (h : Fn I.P f args (I.trx t p r0 σ n) H (Pool (Nd E A)) Q fun _ σ' => I.trx t p r0 σ' n') : I.GS t p r0 n n' σ f args H Q := fun F w hG =>
  (h F w hG).mono fun v F1 w1 _ ⟨x, σ', hv, h2, h1⟩ => ⟨x, hv, σ', h1, h2⟩
theorem cfg_P : I.cfg.P = I.P := rfl

theorem all_fn (hI : I.Ty) (hG : I.Trees5) : ∀ {s : BT E} {σ : Pool (Nd E A)} {o : Sl} {xs : List E}, I.Rep σ.look s → xs.length + s.size ≤ 2147483648 →
    Fn I.P I.gall [pa t 0, ar s.ref, slV o] ((own I.tEl I.tE.C o xs).sep (I.trx t p r0 σ n)) eSl (Pool (Nd E A)) (fun _ σ' => Tch σ σ' No s.size 0) fun y σ' => (own I.tEl I.tE.C y (xs ++ s.elems)).sep (I.trx t p r0 σ' n) := by
  intro s
  induction s with
  | nil =>
    intro σ o xs hs hb
    refine Fn.of cfg_P hI.pool.good.ok hI.pool.good.mix (hG.all t _ o) (fun B => ?_)
    unfold allT
    refine AT.ite (fun _ => ?_) (fun hb => absurd hb (by simp [BT.ref]))
    intro hΓ F w hA hl
    have hA0 := hA
    obtain ⟨F1, F2, _, hd, h1, h2⟩ := hA
    have hv : wr σ.visits = σ.visits := by obtain ⟨_, _, _, _, _, _, h⟩ := h2; exact h
    exact AT.ret (A := (own I.tEl I.tE.C o xs).sep (I.trx t p r0 σ n)) (H := eSl) o σ rfl (Tch.refl hv _ _) (by rw [BT.elems, List.append_nil]; exact Imp.refl _) hΓ F w hA0 hl
  | node r l e h ihl ihh =>
    intro σ o xs hs hb
    simp only [BT.size] at hb
    refine Fn.of cfg_P hI.pool.good.ok hI.pool.good.mix (hG.all t _ o) (fun B => ?_)
    unfold allT
    refine AT.ite (fun hb => absurd hb (by simp [BT.ref, hs.2.1])) (fun _ => ?_)
    refine AT.call0 ((get_g hI hG.base.base.base hs).fn.frameL _) ?_
    rintro x σ1 ⟨rfl, h1⟩
    obtain ⟨k1, k2, k3, k4⟩ := h1.rep hs No.rep
    refine AT.call (ihl k3 (by omega)) fun s1 σ2 h2 => ?_
    refine AT.keepApp (AT.app (ys := [e]) hG.row rfl (by simp [flat, ndOf]) (by simp; rw [← BT.size_elems]; omega) fun y => ?_) cut_none
    refine AT.call (ihh (h2.rep k4 No.rep) (by simp; rw [← BT.size_elems]; omega)) fun y2 σ3 h3 => ?_
    refine AT.endS (AT.ret (H := eSl) y2 σ3 rfl (((h1.trans h2).no2.trans h3).no2.mono (fun _ h => h) (by simp only [BT.size]; omega) rfl) ?_)
    rw [BT.elems, List.append_assoc, List.append_assoc]; exact Imp.refl _
theorem All_fn (hI : I.Ty) (hG : I.Trees5) {s : BT E} (hs : I.Rep σ.look s) (hb : s.size ≤ 2147483648) : Fn I.P I.gAll [pa t 0] (I.trx t p s.ref σ n) eSl (Pool (Nd E A)) (fun _ σ' => Tch σ σ' No s.size 0) fun y σ' => (own I.tEl I.tE.C y s.elems).sep (I.trx t p s.ref σ' n) := by
  refine Fn.of cfg_P hI.pool.good.ok hI.pool.good.mix (hG.All t) (fun B => ?_)
  unfold AllT
  refine AT.ld (H := eRef) s.ref (fun F w hA => ld_root hI hA) ?_
  refine AT.imp own_nil (AT.call0 (all_fn hI hG hs (by simpa using hb)) fun y σ' h => ?_)
  exact AT.ret (H := eSl) y σ' rfl h (Imp.refl _)
end GI

/-! Parting a tree -/
namespace BT
variable {E : Type} (cmp : E → E → Int)
def split (e : E) : BT E → BT E × BT E
  | nil => (nil, nil)
  | node r l f h => if cmp f e < 0 then (link l r f (h.split e).1, (h.split e).2) else ((l.split e).1, link (l.split e).2 r f h)
variable {cmp}
theorem split_elems (e : E) : ∀ s : BT E, (s.split cmp e).1.elems ++ (s.split cmp e).2.elems = s.elems
  | nil => rfl
  | node r l f h => by
    have h1 := split_elems e l
    have h2 := split_elems e h
    rw [split]
    split
    · simp only [link_elems, elems, List.append_assoc, List.cons_append, h2]
    · simp only [link_elems, elems]
      rw [← List.append_assoc, h1]
theorem split_refs (e : E) : ∀ s : BT E, (s.split cmp e).1.refs ++ (s.split cmp e).2.refs = s.refs
  | nil => rfl
  | node r l f h => by
    have h1 := split_refs e l
    have h2 := split_refs e h
    rw [split]
    split
    · simp only [link_refs, refs, List.append_assoc, List.cons_append, h2]
    · simp only [link_refs, refs]
      rw [← List.append_assoc, h1]
theorem split_size (e : E) (s : BT E) : (s.split cmp e).1.size + (s.split cmp e).2.size = s.size := by
  have := congrArg List.length (split_refs (cmp := cmp) e s)
  rw [List.length_append] at this
  rw [size_refs, size_refs (s.split cmp e).2, size_refs s]; omega
end BT
namespace GI
variable {E A : Type} {I : GI E A} {t q : Nat} {p : Px} {r0 : Rf} {σ σ' σ2 : Pool (Nd E A)} {n n1 n' : Nat}
structure Trees6 (I : GI E A) : Prop where
  base : I.Trees5
  split : ∀ t r e, FnT I.cfg I.gsplit [pa t 0, ar r, I.tE.val e] (I.splitT t r e)
  Split : ∀ t e, FnT I.cfg I.gSplit [pa t 0, I.tE.val e] (I.SplitT t e)
  Join : ∀ t o, FnT I.cfg I.gJoin [pa t 0, pa o 0] (I.JoinT t o)

theorem split_g (hI : I.Ty) (hG : I.Trees6) (e : E) : ∀ {s : BT E} {σ : Pool (Nd E A)}, I.Rep σ.look s → s.refs.Nodup → s.size < 288230376151711744 →
    I.GS t p r0 n n σ I.gsplit [pa t 0, ar s.ref, I.tE.val e] (eTup2 eRef eRef) fun (x : Rf × Rf) σ' => x = ((s.split I.cmp e).1.ref, (s.split I.cmp e).2.ref) ∧ (∃ c, Tch σ σ' (fun q => q ∈ s.refs) c 0) ∧ I.Rep σ'.look (s.split I.cmp e).1 ∧ I.Rep σ'.look (s.split I.cmp e).2 := by
  intro s
  induction s with
  | nil =>
    intro σ hs _ _
    refine GS.ok fun hO hv hn => GS.of hI (hG.split t _ e) (fun B => ?_)
    unfold splitT
    refine GT.ite (fun _ => ?_) (fun hb => absurd hb (by simp [BT.ref]))
    exact GT.endS (GT.ret (H := eTup2 eRef eRef) ((⟨0, 0⟩ : Rf), (⟨0, 0⟩ : Rf)) rfl ⟨rfl, ⟨0, Tch.refl hv _ _⟩, trivial, trivial⟩)
  | node r l f h ihl ihh =>
    intro σ hs hnd hsz
    refine GS.of hI (hG.split t _ e) (fun B => ?_)
    unfold splitT
    simp only [BT.size] at hsz
    have hnd' := hnd
    rw [BT.refs, List.nodup_append, List.nodup_cons] at hnd'
    obtain ⟨n1, ⟨n2, n3⟩, n4⟩ := hnd'
    refine GT.ite (fun hb => absurd hb (by simp [BT.ref, hs.2.1])) (fun _ => ?_)
    refine GT.call closed_nil (get_g hI hG.base.base.base.base hs) ?_
    rintro x σ1 ⟨rfl, h1⟩
    obtain ⟨k1, k2, k3, k4⟩ := h1.rep hs No.rep
    refine GT.ite (fun hb => ?_) (fun hb => ?_)
    · have hc : I.cmp f e < 0 := of_decide_eq_true hb
      refine GT.call closed_nil (ihh k4 n3 (by omega)) ?_
      rintro ⟨x1, x2⟩ σ2 ⟨hx, ⟨c2, h2⟩, a1, a2⟩
      injection hx with hx1 hx2
      subst hx1 hx2
      have hrl : r ∉ l.refs := fun hm => n4 r hm r (by simp) rfl
      have hsr := BT.split_refs (cmp := I.cmp) e h
      have hss := BT.split_size (cmp := I.cmp) e h
      have hr2 : σ2.look r = some (I.ndOf (.node r l f h)) := by rw [h2.look r n2]; exact k1
      have hlk : (l.refs ++ r :: (h.split I.cmp e).1.refs).Nodup := by
        rw [List.nodup_append, List.nodup_cons]
        have hsub : ∀ q, q ∈ (h.split I.cmp e).1.refs → q ∈ h.refs := fun q hq => by rw [← hsr]; exact List.mem_append_left _ hq
        refine ⟨n1, ⟨fun hm => n2 (hsub r hm), ?_⟩, fun a ha b hb => ?_⟩
        · rw [← hsr, List.nodup_append] at n3; exact n3.1
        · rcases List.mem_cons.1 hb with rfl | hb
          · exact n4 a ha b (by simp)
          · exact n4 a ha b (by simp [hsub b hb])
      refine GT.callR closed_nil (link_g hI hG.base.base.base.base _ (Nat.le_refl _) (h2.rep k3 fun q hq hq2 => n4 q hq q (by simp [hq2]) rfl) a1 hr2 k2 hlk (by omega)) ?_
      rintro y σ3 ⟨rfl, h3, h4⟩
      have hb2 : ∀ q ∈ (h.split I.cmp e).2.refs, ¬ q ∈ l.refs ++ r :: (h.split I.cmp e).1.refs := fun q hq hm => by
        have hqh : q ∈ h.refs := by rw [← hsr]; exact List.mem_append_right _ hq
        rcases List.mem_append.1 hm with hm | hm
        · exact n4 q hm q (by simp [hqh]) rfl
        · rcases List.mem_cons.1 hm with rfl | hm
          · exact n2 hqh
          · rw [← hsr, List.nodup_append] at n3
            exact n3.2.2 q hm q hq rfl
      refine GT.endS (GT.ret (H := eTup2 eRef eRef) ((BT.link l r f (h.split I.cmp e).1).ref, (h.split I.cmp e).2.ref) rfl ⟨?_, ⟨_, ((h1.trans h2).trans h3).mono (fun q hq => ?_) (Nat.le_refl _) (by omega)⟩, ?_, ?_⟩)
      · rw [BT.split, if_pos hc]; rfl
      · rcases hq with (hq | hq) | hq
        · exact hq.elim
        · rw [BT.refs]; simp [hq]
        · rcases List.mem_append.1 hq with hq | hq
          · rw [BT.refs]; simp [hq]
          · rcases List.mem_cons.1 hq with rfl | hq
            · rw [BT.refs]; simp
            · have : q ∈ h.refs := by rw [← hsr]; exact List.mem_append_left _ hq
              rw [BT.refs]; simp [this]
      · rw [BT.split, if_pos hc]; exact h4
      · rw [BT.split, if_pos hc]; exact h3.rep a2 hb2
    · have hc : ¬ I.cmp f e < 0 := of_decide_eq_false hb
      refine GT.call closed_nil (ihl k3 n1 (by omega)) ?_
      rintro ⟨x1, x2⟩ σ2 ⟨hx, ⟨c2, h2⟩, a1, a2⟩
      injection hx with hx1 hx2
      subst hx1 hx2
      have hrl : r ∉ l.refs := fun hm => n4 r hm r (by simp) rfl
      have hsr := BT.split_refs (cmp := I.cmp) e l
      have hss := BT.split_size (cmp := I.cmp) e l
      have hr2 : σ2.look r = some (I.ndOf (.node r l f h)) := by rw [h2.look r hrl]; exact k1
      have hsub : ∀ q, q ∈ (l.split I.cmp e).2.refs → q ∈ l.refs := fun q hq => by rw [← hsr]; exact List.mem_append_right _ hq
      have hlk : ((l.split I.cmp e).2.refs ++ r :: h.refs).Nodup := by
        rw [List.nodup_append, List.nodup_cons]
        refine ⟨?_, ⟨n2, n3⟩, fun a ha b hb => n4 a (hsub a ha) b hb⟩
        rw [← hsr, List.nodup_append] at n1; exact n1.2.1
      refine GT.callR closed_nil (link_g hI hG.base.base.base.base _ (Nat.le_refl _) a2 (h2.rep k4 fun q hq hq2 => n4 q hq2 q (by simp [hq]) rfl) hr2 k2 hlk (by omega)) ?_
      rintro y σ3 ⟨rfl, h3, h4⟩
      have hb2 : ∀ q ∈ (l.split I.cmp e).1.refs, ¬ q ∈ (l.split I.cmp e).2.refs ++ r :: h.refs := fun q hq hm => by
        have hql : q ∈ l.refs := by rw [← hsr]; exact List.mem_append_left _ hq
        rcases List.mem_append.1 hm with hm | hm
        · rw [← hsr, List.nodup_append] at n1
          exact n1.2.2 q hq q hm rfl
        · exact n4 q hql q hm rfl
      refine GT.endS (GT.ret (H := eTup2 eRef eRef) ((l.split I.cmp e).1.ref, (BT.link (l.split I.cmp e).2 r f h).ref) rfl ⟨?_, ⟨_, ((h1.trans h2).trans h3).mono (fun q hq => ?_) (Nat.le_refl _) (by omega)⟩, ?_, ?_⟩)
      · rw [BT.split, if_neg hc]; rfl
      · rcases hq with (hq | hq) | hq
        · exact hq.elim
        · rw [BT.refs]; simp [hq]
        · rcases List.mem_append.1 hq with hq | hq
          · rw [BT.refs]; simp [hsub q hq]
          · rw [BT.refs]; exact List.mem_append_right _ hq
      · rw [BT.split, if_neg hc]; exact h3.rep a1 hb2
      · rw [BT.split, if_neg hc]; exact h4
end GI
end Go.Sx

set_option linter.unusedVariables false
set_option linter.unusedSimpArgs false
set_option maxHeartbeats 2000000
namespace Go.Sx
open Go.RowKit Asn

/-! ### Pointers that are alike -/
section
variable {P : Program} {S : BS} {w : World} {t e : TypeId} {x y : Operand} {a b k : Nat}
theorem run_ptrEqIn (d : Nat) (ht : P.underlying t = some (.pointer e)) (hs : sizeT P e = some (k + 1)) {r : Bool} (h : (sameAddr ⟨a, 0, none⟩ ⟨b, 0, none⟩).run P w = .ok r w) : (Op.equalIn (d + 1) t (.pointer (some ⟨a, 0, none⟩)) (.pointer (some ⟨b, 0, none⟩))).run P w = .ok r w := by
  simp only [Op.equalIn, Sem.run_bind, run_underlying ht, Result.andThen_ok, run_sizeOf hs]
  rw [if_pos (by simp)]; exact h
theorem run_ptrEq (ht : P.underlying t = some (.pointer e)) (hs : sizeT P e = some (k + 1)) {r : Bool} (h : (sameAddr ⟨a, 0, none⟩ ⟨b, 0, none⟩).run P w = .ok r w) : (Op.equal t (pa a 0) (pa b 0)).run P w = .ok r w := run_ptrEqIn 9999 ht hs h
theorem ld_ptrEql (ht : P.underlying t = some (.pointer e)) (hs : sizeT P e = some (k + 1)) {r : Bool} (h : ∀ w', (∀ b, S b → w'.heap[b]? = w.heap[b]?) → (sameAddr ⟨a, 0, none⟩ ⟨b, 0, none⟩).run P w' = .ok r w') : Ld P S w (do eqGuard BinOp.eql t x y (pa a 0) (pa b 0); binOp BinOp.eql t (pa a 0) (pa b 0)) (.bool r) := fun w' hk => by
  have h1 : eqGuard .eql t x y (pa a 0) (pa b 0) = pure () := rfl
  have h2 := run_ptrEq ht hs (h w' hk)
  rw [h1]
  have h3 : binOp .eql t (pa a 0) (pa b 0) = (do pure (.bool (← Op.equal t (pa a 0) (pa b 0)))) := rfl
  simp [h3, h2]
theorem ld_ptrNeq (ht : P.underlying t = some (.pointer e)) (hs : sizeT P e = some (k + 1)) {r : Bool} (h : ∀ w', (∀ b, S b → w'.heap[b]? = w.heap[b]?) → (sameAddr ⟨a, 0, none⟩ ⟨b, 0, none⟩).run P w' = .ok r w') : Ld P S w (do eqGuard BinOp.neq t x y (pa a 0) (pa b 0); binOp BinOp.neq t (pa a 0) (pa b 0)) (.bool (!r)) := fun w' hk => by
  have h1 : eqGuard .neq t x y (pa a 0) (pa b 0) = pure () := rfl
  have h2 := run_ptrEq ht hs (h w' hk)
  rw [h1]
  have h3 : binOp .neq t (pa a 0) (pa b 0) = (do pure (.bool (!(← Op.equal t (pa a 0) (pa b 0))))) := rfl
  simp [h3, h2]
theorem same_other {ca cb : Array Value} {ta tb : TypeId} (hne : a ≠ b) (hSa : S a) (hSb : S b) (ha : w.heap[a]? = some (.cells ca ta (0, 0))) (hb : w.heap[b]? = some (.cells cb tb (0, 0))) : ∀ w', (∀ b, S b → w'.heap[b]? = w.heap[b]?) → (sameAddr ⟨a, 0, none⟩ ⟨b, 0, none⟩).run P w' = .ok false w' := fun w' hk =>
  run_sameAddr_other w' (fun e => hne (by injection e)) (by rw [hk a hSa]; exact ha) (by rw [hk b hSb]; exact hb)
end

namespace GI
variable {E A : Type} {I : GI E A} {t o q p : Nat} {px0 : Px} {r0 r1 r2 : Rf} {σ σ' σ2 : Pool (Nd E A)} {n n1 n' : Nat}

/-! ### Two heads over one pool -/
def pxH (I : GI E A) (p o : Nat) (r2 : Rf) : Px where
  p := p
  G b := b = o
  K w := w.heap[o]? = some (.cells (headC p r2).toArray I.tTree (0, 0))
  stab w w' h hk := (h o rfl).trans hk
  lt w hk b hb := by subst hb; exact heap_lt hk
theorem trx_up (h1 : n ≤ n') (h2 : n' < 4294967296) : (I.trx t px0 r0 σ n).Imp (I.trx t px0 r0 σ n') := fun F w h => GAt.up h h1 h2
theorem swapH (hI : I.Ty) : (I.trx t (pxH I p o r2) r1 σ n).Imp (I.trx o (pxH I p t r1) r2 σ n) := by
  rintro F w ⟨Fp, rfl, h1, ⟨h2, hx1, hx2, hx3⟩, h3⟩
  refine ⟨Fp, ?_, h1, ⟨hx3, fun h => hx1 h.symm, fun b hb hF => ?_, h2⟩, h3⟩
  · funext b
    simp only [pxH, eq_iff_iff]
    constructor
    · rintro (h | h | h)
      · exact .inl h
      · exact .inr (.inr h)
      · exact .inr (.inl h)
    · rintro (h | h | h)
      · exact .inl h
      · exact .inr (.inr h)
      · exact .inr (.inl h)
  · have : b = t := hb
    subst this; exact head_not hI h1 h2 hF

section
variable {J : Jc} {Λ : Lam} {k : Tree}
theorem AT.setRoot {B : Nat} {Γ : List Again} {R : Value → BS → World → Prop} (hI : I.Ty) (r : Rf) (hk : AT ⟨I.P, B, Γ, R⟩ Lam.none (I.trx t px0 r σ n) k) : AT ⟨I.P, B, Γ, R⟩ Λ (I.trx t px0 r0 σ n) (.primU (Instr.storeAt I.tRef (pa t 1) (ar r)) [] k) := fun hΓ F w ha _ =>
  TT_root hI hΓ ha fun w1 h1 => hk hΓ F w1 h1 lam_none_ok
end
theorem ld_pool (hI : I.Ty) {F : BS} {w : World} (h : I.GAt t px0 r0 σ n F w) : Ld I.P F w (Instr.loadAt I.tPoolP (pa t 0)) (eBlk.enc px0.p) := by
  obtain ⟨Fp, rfl, h1, ⟨h2, hx⟩, h3⟩ := h
  exact ld_one (S := fun b => Fp b ∨ b = t ∨ px0.G b) (cs := headC px0.p r0) (.inr (.inl rfl)) h2 hI.aTP rfl

theorem Split_fn (hI : I.Ty) (hG : I.Trees6) (e : E) {s : BT E} (hs : I.Rep σ.look s) (hnd : s.refs.Nodup) (hsz : s.size < 288230376151711744) :
    Fn I.P I.gSplit [pa t 0, I.tE.val e] (I.trx t (px p) s.ref σ n) eBlk (Pool (Nd E A)) (fun _ σ' => (∃ c, Tch σ σ' (fun q => q ∈ s.refs) c 0) ∧ I.Rep σ'.look (s.split I.cmp e).1 ∧ I.Rep σ'.look (s.split I.cmp e).2)
      fun o σ' => I.trx t (pxH I p o (s.split I.cmp e).2.ref) (s.split I.cmp e).1.ref σ' n := by
  refine Fn.of cfg_P hI.pool.good.ok hI.pool.good.mix (hG.Split t e) fun B => ?_
  unfold SplitT
  refine AT.ldS (H := eRef) s.ref (fun F w hA => ld_root hI hA) ?_
  refine AT.call0 (split_g (p := px p) hI hG e hs hnd hsz).fn ?_
  rintro ⟨x1, x2⟩ σ' ⟨hx, h2⟩
  injection hx with hx1 hx2
  subst hx1 hx2
  refine AT.endS (AT.setRoot hI _ ?_)
  refine AT.ldS (H := eBlk) p (fun F w hA => ld_pool hI hA) ?_
  refine AT.box (cs := headC p (s.split I.cmp e).2.ref) fun b => AT.endS (AT.ret (H := eBlk) b σ' rfl h2 ?_)
  rintro F w ⟨F1, F2, rfl, hd, ⟨Fp, rfl, h1, ⟨h3, hx⟩, h4⟩, rfl, h5⟩
  have hbt : ∀ c, (Fp c ∨ c = t ∨ False) → ¬ c = b := hd
  refine ⟨Fp, ?_, h1, ⟨h3, fun e => hbt t (.inr (.inl rfl)) e, fun c hc hF => ?_, h5⟩, h4⟩
  · funext c
    simp only [px, pxH, or_false, or_assoc]
  · have : c = b := hc
    exact hbt c (.inl hF) this

/-- Trees one behind the other are joined. -/
theorem Join_fn (hI : I.Ty) (hG : I.Trees6) {e1 e2 k1 k2} (uT : I.P.underlying I.tTreeP = some (.pointer e1)) (sT : sizeT I.P e1 = some (k1 + 1)) (uP : I.P.underlying I.tPoolP = some (.pointer e2)) (sP : sizeT I.P e2 = some (k2 + 1))
    {a b : BT E} (ha : I.Rep σ.look a) (hb : I.Rep σ.look b) (hnd : (a.refs ++ b.refs).Nodup) (hsz : a.size + b.size < 1000000000) :
    Fn I.P I.gJoin [pa t 0, pa o 0] (I.trx t (pxH I p o b.ref) a.ref σ n) eBool (Pool (Nd E A) × Bool) (fun (x : Bool) y => x = y.2 ∧ (y.2 = true → (∃ c, Tch σ y.1 (fun q => q ∈ a.refs ++ b.refs) c 0) ∧ I.Rep y.1.look (BT.merge a b)) ∧ (y.2 = false → ∃ c, Tch σ y.1 No c 0) ∧
        (y.2 = false ↔ ∃ x y, a.elems[a.size - 1]? = some x ∧ b.elems[0]? = some y ∧ 0 < a.size ∧ I.cmp x y ≥ 0))
      fun _ y => if y.2 then I.trx t (pxH I p o ⟨0, 0⟩) (BT.merge a b).ref y.1 n else I.trx t (pxH I p o b.ref) a.ref y.1 n := by
  refine Fn.of cfg_P hI.pool.good.ok hI.pool.good.mix (hG.Join t o) fun B => ?_
  unfold JoinT
  refine AT.ldS (H := eBool) false (fun F w hA => ?_) ?_
  · obtain ⟨Fp, rfl, h1, ⟨h2, hx1, hx2, hx3⟩, h3⟩ := hA
    exact ld_ptrEql uT sT (same_other (fun e => hx1 e.symm) (.inr (.inr rfl)) (.inr (.inl rfl)) hx3 h2)
  refine AT.ite (fun h => by cases h) (fun _ => ?_)
  refine AT.ldS (H := eBlk) p (fun F w hA => ld_pool hI (swapH hI F w hA)) ?_
  refine AT.ldS (H := eBlk) p (fun F w hA => ld_pool hI hA) ?_
  refine AT.ldS (H := eBool) false (fun F w hA => ld_ptrNeq uP sP (r := true) fun w' _ => run_sameAddr_same (w := w') _) ?_
  refine AT.endS (AT.ite (fun h => by cases h) (fun _ => ?_))
  refine AT.call0 (len_g (p := pxH I p o b.ref) hI hG.base.base ha).fn ?_
  rintro x σ1 ⟨rfl, h1⟩
  have ha1 := h1.rep ha No.rep
  have hb1 := h1.rep hb No.rep
  have hw : wr ((a.size : Int) - 1) = (a.size : Int) - 1 := wr_id (by omega) (by omega)
  rw [hw]
  refine AT.call0 (At_g (p := pxH I p o b.ref) hI hG.base ((a.size : Int) - 1) ha1 (by omega)).fn ?_
  rintro x σ2 ⟨rfl, h2⟩
  have ha2 := h2.rep ha1 No.rep
  have hb2 := h2.rep hb1 No.rep
  refine AT.imp (swapH hI) (AT.call0 (At_g (t := o) (p := pxH I p t a.ref) hI hG.base 0 hb2 (by omega)).fn ?_)
  rintro y σ3 ⟨rfl, h3⟩
  refine AT.imp (swapH hI) ?_
  have ha3 := h3.rep ha2 No.rep
  have hb3 := h3.rep hb2 No.rep
  have h13 := ((h1.trans h2).no2.trans h3).no2
  have fin : ∀ {J : Jc}, J = ⟨I.P, B, [], RQ eBool (Pool (Nd E A) × Bool) (fun (x : Bool) y => x = y.2 ∧ (y.2 = true → (∃ c, Tch σ y.1 (fun q => q ∈ a.refs ++ b.refs) c 0) ∧ I.Rep y.1.look (BT.merge a b)) ∧ (y.2 = false → ∃ c, Tch σ y.1 No c 0) ∧
        (y.2 = false ↔ ∃ x y, a.elems[a.size - 1]? = some x ∧ b.elems[0]? = some y ∧ 0 < a.size ∧ I.cmp x y ≥ 0))
      fun _ y => if y.2 then I.trx t (pxH I p o ⟨0, 0⟩) (BT.merge a b).ref y.1 n else I.trx t (pxH I p o b.ref) a.ref y.1 n⟩ →
      (¬ ∃ x y, a.elems[a.size - 1]? = some x ∧ b.elems[0]? = some y ∧ 0 < a.size ∧ I.cmp x y ≥ 0) →
      AT J Lam.none (I.trx t (pxH I p o b.ref) a.ref σ3 n) (.loadS 6 (Instr.loadAt I.tRef (pa t 1)) eRef fun (r : Rf) => .loadS 10 (Instr.loadAt I.tRef (pa o 1)) eRef fun (r2 : Rf) => cRef I.gMerge [pa t 0, ar r, ar r2] [] fun y =>
        .primU (Instr.storeAt I.tRef (pa t 1) (ar y)) [] (.primU (Instr.storeAt I.tRef (pa o 1) (ag [iV 0, iV 0])) [] (.endS (.ret (.bool true))))) := by
    rintro J rfl hno
    refine AT.ldS (H := eRef) a.ref (fun F w hA => ld_root hI hA) ?_
    refine AT.ldS (H := eRef) b.ref (fun F w hA => ld_root hI (swapH hI F w hA)) ?_
    refine AT.call0 (merge_g (p := pxH I p o b.ref) hI hG.base.base.base ha3 hb3 hnd (by omega)).fn ?_
    rintro y σ4 ⟨rfl, h4, h5⟩
    refine AT.setRoot hI _ (AT.imp (swapH hI) ?_)
    refine AT.setRoot (r := ⟨0, 0⟩) hI (AT.endS (AT.imp (swapH hI) ?_))
    refine AT.ret (H := eBool) true (σ4, true) rfl ⟨rfl, fun _ => ⟨⟨_, (h13.trans h4).mono (fun q hq => hq.elim (fun h => h.elim) id) (Nat.le_refl _) (by omega)⟩, h5⟩, fun h => (by cases h), ⟨fun h => (by cases h), fun h => absurd h hno⟩⟩ ?_
    exact Imp.refl _
  have hx : ∀ {x : E × Bool}, x = atO I a.elems ((a.size : Int) - 1) → x.2 = true → 0 < a.size ∧ a.elems[a.size - 1]? = some x.1 := by
    rintro x rfl hx
    unfold atO at hx ⊢
    split at hx
    · simp [optE] at hx
    · rename_i h0
      rw [if_neg h0]
      have hn : ((a.size : Int) - 1).toNat = a.size - 1 := by omega
      rw [hn] at hx ⊢
      cases hg : a.elems[a.size - 1]? with
      | none => rw [hg] at hx; simp [optE] at hx
      | some e => exact ⟨by omega, rfl⟩
  have hy : ∀ {x : E × Bool}, x = atO I b.elems 0 → x.2 = true → b.elems[0]? = some x.1 := by
    rintro x rfl hx
    unfold atO at hx ⊢
    rw [if_neg (by omega)] at hx ⊢
    cases hg : b.elems[(0 : Int).toNat]? with
    | none => rw [hg] at hx; simp [optE] at hx
    | some e => exact hg
  have hx0 : (atO I a.elems ((a.size : Int) - 1)).2 = false → ¬ ∃ x y, a.elems[a.size - 1]? = some x ∧ b.elems[0]? = some y ∧ 0 < a.size ∧ I.cmp x y ≥ 0 := by
    rintro h ⟨x, y, h1, h2, h3, h4⟩
    unfold atO at h
    rw [if_neg (by omega), show ((a.size : Int) - 1).toNat = a.size - 1 by omega, h1] at h
    cases h
  have hy0 : (atO I b.elems 0).2 = false → ¬ ∃ x y, a.elems[a.size - 1]? = some x ∧ b.elems[0]? = some y ∧ 0 < a.size ∧ I.cmp x y ≥ 0 := by
    rintro h ⟨x, y, h1, h2, h3, h4⟩
    unfold atO at h
    rw [if_neg (by omega), show ((0 : Int)).toNat = 0 from rfl, h2] at h
    cases h
  refine AT.ite (fun b1 => AT.ite (fun b2 => AT.iteD (fun hc => ?_) (fun hc => fin rfl ?_)) (fun b2 => fin rfl (hy0 b2))) (fun b1 => fin rfl (hx0 b1))
  · refine AT.ret (H := eBool) false (σ3, false) rfl ⟨rfl, fun h => (by cases h), fun _ => ⟨_, h13⟩, ⟨fun _ => ⟨_, _, (hx rfl b1).2, hy rfl b2, (hx rfl b1).1, hc⟩, fun _ => rfl⟩⟩ (Imp.refl _)
  · rintro ⟨x, y, h1, h2, h3, h4⟩
    have e1 := (hx rfl b1).2
    have e2 := hy rfl b2
    rw [h1] at e1; rw [h2] at e2
    injection e1 with e1; injection e2 with e2
    rw [e1, e2] at h4
    exact hc h4
end GI
end Go.Sx

set_option linter.unusedVariables false
set_option linter.unusedSimpArgs false
set_option maxHeartbeats 2000000
namespace Go.Sx
open GI Asn Go.RowKit

/-! ### Law 07's elements -/
theorem elOk : CmpOk El.cmp where
  swap a b := by unfold El.cmp; split <;> split <;> (try split) <;> (try split) <;> omega
  trans a b c := by unfold El.cmp; intro h1 h2; split at h1 <;> split at h2 <;> (try split at h1) <;> (try split at h2) <;> split <;> (try split) <;> omega
  eqL a b c := by unfold El.cmp; intro h; split at h <;> (try split at h) <;> split <;> split <;> (try split) <;> (try split) <;> omega
  eqR a b c := by unfold El.cmp; intro h; split at h <;> (try split at h) <;> split <;> split <;> (try split) <;> (try split) <;> omega
theorem El.cmp_lt {a b : El} : El.cmp a b < 0 ↔ a.k < b.k := by unfold El.cmp; split <;> (try split) <;> omega
theorem El.cmp_gt {a b : El} : 0 < El.cmp a b ↔ b.k < a.k := by unfold El.cmp; split <;> (try split) <;> omega
theorem El.cmp_eq {a b : El} : El.cmp a b = 0 ↔ a.k = b.k := by unfold El.cmp; split <;> (try split) <;> omega

theorem ins_at {e : El} : ∀ (l : List El), insL El.cmp e l = l.take (rk e.k l) ++ e :: l.drop (rk e.k l + (if (l[rk e.k l]?).map (·.k) = some e.k then 1 else 0))
  | [] => by simp [insL, rk]
  | f :: l => by
    have ih := ins_at (e := e) l
    rw [insL, rk]
    by_cases h : f.k < e.k
    · rw [if_neg (by rw [El.cmp_lt]; omega), if_pos (El.cmp_gt.2 h), if_pos h, ih, List.take_succ_cons, List.getElem?_cons_succ, Nat.add_right_comm, List.drop_succ_cons]; rfl
    · rw [if_neg h]
      simp only [List.take_zero, List.nil_append, List.getElem?_cons_zero, Option.map_some, Option.some.injEq, Nat.zero_add]
      by_cases h2 : f.k = e.k
      · rw [if_neg (by rw [El.cmp_lt]; omega), if_neg (by rw [El.cmp_gt]; omega), if_pos h2]; rfl
      · rw [if_pos (El.cmp_lt.2 (by omega)), if_neg h2]; rfl
theorem has_at {e : El} : ∀ {l : List El}, Srt El.cmp l → (hasL El.cmp e l = true ↔ (l[rk e.k l]?).map (·.k) = some e.k)
  | [], _ => by simp [hasL, rk]
  | f :: l, hs => by
    have hp := Srt.parts (A := []) hs
    have ih := has_at (e := e) hp.2.1
    have happ := hasL_app elOk (e := e) (f := f) (A := []) (B := l) (by simp) hp.2.2.2.1
    rw [List.nil_append] at happ
    rw [happ, rk]
    by_cases h : f.k < e.k
    · rw [if_neg (by rw [El.cmp_lt]; omega), if_pos (El.cmp_gt.2 h), if_pos h, List.getElem?_cons_succ]; exact ih
    · rw [if_neg h]
      by_cases h2 : f.k = e.k
      · rw [if_neg (by rw [El.cmp_lt]; omega), if_neg (by rw [El.cmp_gt]; omega)]; simp [h2]
      · rw [if_pos (El.cmp_lt.2 (by omega))]; simp [hasL, h2]
theorem del_at {k : Int} : ∀ {l : List El}, Srt El.cmp l → delL El.cmp ⟨k, 0⟩ l = (match l[rk k l]? with | some f => if f.k = k then some (l.take (rk k l) ++ l.drop (rk k l + 1), f) else none | none => none)
  | [], _ => rfl
  | f :: l, hs => by
    have hp := Srt.parts (A := []) hs
    have ih := del_at (k := k) hp.2.1
    have happ := delL_app elOk (e := ⟨k, 0⟩) (f := f) (A := []) (B := l) (by simp) hp.2.2.2.1
    rw [List.nil_append] at happ
    rw [happ, rk]
    by_cases h : f.k < k
    · rw [if_neg (by rw [El.cmp_lt]; simp; omega), if_pos (El.cmp_gt.2 h), if_pos h, List.getElem?_cons_succ, ih]
      cases l[rk k l]? with
      | none => rfl
      | some g => simp only; split <;> simp
    · rw [if_neg h]
      by_cases h2 : f.k = k
      · rw [if_neg (by rw [El.cmp_lt]; simp; omega), if_neg (by rw [El.cmp_gt]; simp; omega)]; simp [h2]
      · rw [if_pos (El.cmp_lt.2 (by simp; omega))]; simp [delL, h2]
theorem putL_ins {e : El} {m : Int} {l : List El} (hs : Srt El.cmp l) : putL l e m = if hasL El.cmp e l = true ∨ (l.length : Int) < m then (insL El.cmp e l, true) else (l, false) := by
  unfold putL
  simp only [ins_at, has_at hs]
  cases l[rk e.k l]? with
  | none => simp only [Option.map_none]; by_cases h : (l.length : Int) < m <;> simp [h] <;> omega
  | some f =>
    simp only [Option.map_some, Option.some.injEq]
    by_cases h1 : f.k = e.k
    · simp [h1]
    · by_cases h : (l.length : Int) < m <;> simp [h, h1] <;> omega
theorem dropL_del {k : Int} {l : List El} (hs : Srt El.cmp l) : dropL l k = (match delL El.cmp ⟨k, 0⟩ l with | some x => (x.1, x.2, true) | none => (l, ⟨0, 0⟩, false)) := by
  unfold dropL
  rw [del_at hs]
  cases l[rk k l]? with
  | none => rfl
  | some f => simp only; split <;> rfl
theorem rk_app {k : Int} {A B : List El} (hA : ∀ a ∈ A, a.k < k) (hB : ∀ b ∈ B, ¬ b.k < k) : rk k (A ++ B) = A.length := by
  induction A with
  | nil =>
    cases B with
    | nil => rfl
    | cons b B => rw [List.nil_append, rk, if_neg (hB b (by simp))]; rfl
  | cons a A ih => rw [List.cons_append, rk, if_pos (hA a (by simp)), ih fun x hx => hA x (by simp [hx])]; rfl
theorem split_parts {k : Int} : ∀ {s : BT El}, Srt El.cmp s.elems → (∀ a ∈ (s.split El.cmp ⟨k, 0⟩).1.elems, a.k < k) ∧ (∀ b ∈ (s.split El.cmp ⟨k, 0⟩).2.elems, ¬ b.k < k)
  | .nil, _ => by simp [BT.split, BT.elems]
  | .node r l f h, hs => by
    obtain ⟨h1, h2, h3, h4, _⟩ := Srt.parts hs
    obtain ⟨a1, a2⟩ := split_parts (k := k) h1
    obtain ⟨b1, b2⟩ := split_parts (k := k) h2
    rw [BT.split]
    split
    · rename_i hc
      have hc := El.cmp_lt.1 hc
      refine ⟨fun a ha => ?_, b2⟩
      rw [BT.link_elems] at ha
      rcases List.mem_append.1 ha with ha | ha
      · have := El.cmp_lt.1 (h3 a ha); simp only at hc; omega
      · rcases List.mem_cons.1 ha with rfl | ha
        · exact hc
        · exact b1 a ha
    · rename_i hc
      rw [El.cmp_lt] at hc
      refine ⟨a1, fun b hb => ?_⟩
      rw [BT.link_elems] at hb
      rcases List.mem_append.1 hb with hb | hb
      · exact a2 b hb
      · rcases List.mem_cons.1 hb with rfl | hb
        · exact hc
        · have := El.cmp_lt.1 (h4 b hb); simp only at hc; omega

theorem e_t5 : eI.Trees5 where
  base := e_t3
  At t i := fnT (fn := Go.Proofs.Try.f64) (fc := eI.fcAt) (by kernel_rfl) (by kernel_rfl) (by kernel_rfl)
  all t r o := fnT (fn := Go.Proofs.Try.f87) (fc := {}) (by kernel_rfl) (by kernel_rfl) (by kernel_rfl)
  All t := fnT (fn := Go.Proofs.Try.f62) (fc := {}) (by kernel_rfl) (by kernel_rfl) (by kernel_rfl)
  row := slS
theorem e_t6 : eI.Trees6 where
  base := e_t5
  split t r e := fnT (fn := Go.Proofs.Try.f61) (fc := {}) (by kernel_rfl) (by kernel_rfl) (by kernel_rfl)
  Split t e := fnT (fn := Go.Proofs.Try.f28) (fc := { esc := [27] }) (by kernel_rfl) (by kernel_rfl) (by kernel_rfl)
  Join t o := fnT (fn := Go.Proofs.Try.f30) (fc := {}) (by kernel_rfl) (by kernel_rfl) (by kernel_rfl)

/-- Has a tree just these elements? -/
theorem alike7_s {z : Zn} {s : Sl} {ys : List El} {t n : Nat} {p : Px} {a : BT El} {σ : Pool (Nd El Tide)} (ha : eI.Rep σ.look a) (hb : a.size ≤ 1000000) (hr : RowIn z elCd s ys) :
    Fn Go.Proofs.Try.prog 29 [pa t 0, slV s] ((eI.trx t p a.ref σ n).sep (fz z)) eBool (Pool (Nd El Tide) × Zn) (fun (b : Bool) y => (∃ c, Tch σ y.1 No c 0) ∧ z.le y.2 ∧ (b = true ↔ a.elems = ys)) fun _ y => (eI.trx t p a.ref y.1 n).sep (fz y.2) := by
  refine Fn.of l7b_P l7b_ok try_mix (alike7_t t s) fun B => ?_
  unfold alike7T
  refine AT.call0 ((All_fn e_ty e_t5 ha (by omega)).frame (fz z)) fun s1 σ1 h1 => ?_
  refine AT.imp sep_comm (AT.freeze fun z1 hz1 hr1 => ?_)
  have hel : a.elems.length = a.size := (BT.size_elems a).symm
  have hsn := hr1.n
  refine AT.imp own_nil (AT.loop (Y := Unit) (fun (r : Sl × Int) _ => ∃ m : Nat, r.2 = m ∧ m ≤ a.elems.length) (fun r _ => (own 57 elCd r.1 (a.elems.take r.2.toNat)).sep ((fz z1).sep (eI.trx t p a.ref σ1 n))) (fun r => a.elems.length - r.2.toNat) ((⟨none, 0, 0⟩ : Sl), (0 : Int)) () rfl ⟨0, rfl, Nat.zero_le _⟩ (Imp.refl _) ?_)
  rintro G ⟨v, l⟩ y ⟨m, rfl, hm⟩ hag
  refine AT.iteD (fun hb1 => ?_) (fun hb1 => ?_)
  · have hlt : m < a.elems.length := by simp only at hb1; omega
    obtain ⟨ad, hl, hc⟩ := ldIndex (x := a.elems[m]) hr1 slS.u slS.s (Int.natCast_nonneg m) (by simp)
    refine AT.ldS (H := eAddr) ad (fun F w _ => hl F w) ?_
    refine AT.ldS (H := eInt) a.elems[m].k (ldCell (z := z1) hc 0 a3 rfl) ?_
    refine AT.ldS (H := eAddr) ad (fun F w _ => hl F w) ?_
    refine AT.ldS (H := eInt) a.elems[m].w (ldCell (z := z1) hc 1 a3 rfl) ?_
    refine AT.app (ys := [a.elems[m]]) slE rfl rfl (by simp; omega) fun v2 => AT.endS ?_
    have hw : wr ((m : Int) + 1) = ((m + 1 : Nat) : Int) := by rw [wr_id (by omega) (by omega)]; omega
    rw [hw]
    have hmap : a.elems.take ((m : Int)).toNat ++ [a.elems[m]] = a.elems.take (((m + 1 : Nat) : Int)).toNat := by
      simp only [Int.toNat_natCast]
      rw [List.take_add_one, List.getElem?_eq_getElem hlt]; rfl
    rw [hmap]
    exact AT.again rfl (hag (v2, ((m + 1 : Nat) : Int)) () ⟨m + 1, rfl, hlt⟩ (by simp only; omega))
  · have : m = a.elems.length := by simp only at hb1; omega
    subst this
    simp only [Int.toNat_natCast, List.take_length]
    have ha1 := h1.rep ha No.rep
    refine AT.call0 (((len_g (t := t) (p := p) (n := n) e_ty e_t3 ha1).fn.frameL (fz z1)).frameL _) ?_
    rintro x σ2 ⟨rfl, h2⟩
    refine AT.iteE (fun hc => ?_) (fun hc => ?_)
    · refine AT.imp sep_swap (AT.freeze fun z2 hz2 hr2 => ?_)
      refine AT.call0 ((same7_s hr2 (hr.mono (Zn.le_trans hz1 hz2))).frame _) fun b _ hb => ?_
      exact AT.ret (H := eBool) b (σ2, z2) rfl ⟨⟨_, (h1.trans h2).no2⟩, Zn.le_trans hz1 hz2, hb⟩ sep_comm
    · refine AT.imp sep_swap (AT.freeze fun z2 hz2 hr2 => ?_)
      refine AT.ret (H := eBool) false (σ2, z2) rfl ⟨⟨_, (h1.trans h2).no2⟩, Zn.le_trans hz1 hz2, ?_⟩ sep_comm
      simp only [Bool.false_eq_true, false_iff]
      rintro rfl
      have := hr.n
      omega
end Go.Sx

set_option linter.unusedVariables false
set_option linter.unusedSimpArgs false
set_option maxHeartbeats 2000000
namespace Go.Sx
open GI Asn Go.RowKit

theorem l7_P : l7.P = Go.Proofs.Try.prog := rfl
def okW (a : ActE) : Prop := -1000000 ≤ a.w ∧ a.w ≤ 1000000
theorem small7_s {z : Zn} {s : Sl} {xs : List ActE} {m : Int} (h : RowIn z actCd s xs) (hm62 : m < 4611686018427387904) : Fn Go.Proofs.Try.prog 14 [slV s, iV m] (fz z) eBool Unit (fun (b : Bool) _ => b = true → (xs.length : Int) ≤ m ∧ ∀ a ∈ xs, okW a) fun _ _ => fz z := by
  refine Fn.of l7_P l7_ok try_mix (small_t s m) fun B => ?_
  unfold smallT
  have hn := h.n
  refine AT.iteD (fun _ => AT.ret (H := eBool) false () rfl (by simp) (Imp.refl _)) (fun hb0 => ?_)
  have hm : (xs.length : Int) ≤ m := by omega
  refine AT.loop (Y := Unit) (fun (i : Int) _ => ∃ k : Nat, i = k ∧ k ≤ xs.length ∧ ∀ a ∈ xs.take k, okW a) (fun _ _ => fz z) (fun i => xs.length - i.toNat) (0 : Int) () rfl ⟨0, rfl, Nat.zero_le _, by simp⟩ (Imp.refl _) ?_
  rintro G l y ⟨k, rfl, hk, hok⟩ hag
  refine AT.iteD (fun hb => ?_) (fun hb => ?_)
  · have hlt : k < xs.length := by omega
    obtain ⟨a, hl, hc⟩ := ldIndex (x := xs[k]) h u32 s41 (Int.natCast_nonneg k) (by simp)
    refine AT.ld (H := eAddr) a (fun F w _ => hl F w) (AT.ld (H := eInt) xs[k].w (ldCell (z := z) hc 2 a3 rfl) ?_)
    refine AT.iteD (fun _ => AT.ret (H := eBool) false () rfl (by simp) (Imp.refl _)) (fun h1 => ?_)
    refine AT.ld (H := eAddr) a (fun F w _ => hl F w) (AT.ld (H := eInt) xs[k].w (ldCell (z := z) hc 2 a3 rfl) ?_)
    refine AT.iteD (fun _ => AT.ret (H := eBool) false () rfl (by simp) (Imp.refl _)) (fun h2 => ?_)
    have hw : wr ((k : Int) + 1) = ((k + 1 : Nat) : Int) := by rw [wr_id (by omega) (by omega)]; omega
    rw [hw]
    refine AT.again rfl (hag ((k + 1 : Nat) : Int) () ⟨k + 1, rfl, hlt, fun b hb => ?_⟩ (by omega))
    rw [List.take_add_one, List.getElem?_eq_getElem hlt] at hb
    rcases List.mem_append.1 hb with hb | hb
    · exact hok b hb
    · simp at hb; subst hb; exact ⟨by omega, by omega⟩
  · refine AT.ret (H := eBool) true () rfl (fun _ => ⟨hm, ?_⟩) (Imp.refl _)
    have : k = xs.length := by omega
    subst this
    rw [List.take_length] at hok; exact hok

/-- A tree, and its list. -/
structure PInv (a : BT El) (σ : Pool (Nd El Tide)) (l : List El) : Prop where
  rep : eI.Rep σ.look a
  nd : a.refs.Nodup
  el : a.elems = l
  srt : Srt El.cmp l
  ok : ∀ e ∈ l, -1000000 ≤ e.w ∧ e.w ≤ 1000000
structure PNum (σ : Pool (Nd El Tide)) (len : Nat) : Prop where
  held : σ.held = len
  cap : σ.cap = 200

theorem put_step {a b : BT El} {σ σ' : Pool (Nd El Tide)} {l : List El} {e : El} {x : Rf × Bool} {m : Nat} (h : PInv a σ l) (hn : PNum σ m) (hm : l.length ≤ m) (hl : m < 200) (he : -1000000 ≤ e.w ∧ e.w ≤ 1000000) (hb : eI.Rep σ.look b) (hd : ∀ q ∈ b.refs, q ∉ a.refs) (hr : PutR eI σ σ' a e x) :
    x.2 = true ∧ hasL El.cmp e l = a.has El.cmp e ∧ ∃ a', x.1 = a'.ref ∧ PInv a' σ' (insL El.cmp e l) ∧ eI.Rep σ'.look b ∧ (∀ q ∈ b.refs, q ∉ a'.refs) ∧ ∃ m', PNum σ' m' ∧ m ≤ m' ∧ m' ≤ m + 1 ∧ m' + l.length = m + (insL El.cmp e l).length := by
  have hs : Srt El.cmp a.elems := by rw [h.el]; exact h.srt
  have hhas : hasL El.cmp e l = a.has El.cmp e := by rw [BT.has_elems elOk hs, h.el]
  have hlen := insL_len (e := e) l h.srt elOk
  have hok : ∀ f ∈ insL El.cmp e l, -1000000 ≤ f.w ∧ f.w ≤ 1000000 := fun f hf => by
    rcases insL_mem hf with rfl | hf
    · exact he
    · exact h.ok f hf
  cases hr with
  | old a1 a2 a3 =>
    have a1' : hasL El.cmp e l = true := hhas.trans a1
    rw [a1'] at hlen
    refine ⟨rfl, hhas, _, rfl, ⟨a2, BT.ins_nodup _ h.nd (by rw [a1]; simp), ?_, insL_srt elOk h.srt, hok⟩, a3.rep hb fun q hq hm => hd q hq hm, fun q hq hm => ?_, m, ⟨by rw [a3.held, hn.held]; omega, by rw [a3.cap]; exact hn.cap⟩, Nat.le_refl _, Nat.le_succ _, by simp at hlen; omega⟩
    · show ((a.ins El.cmp _ e)).elems = _
      rw [BT.ins_elems elOk hs, h.el]
    · rcases BT.ins_mem _ hm with hm | ⟨_, hm⟩
      · exact hd q hq hm
      · rw [a1] at hm; cases hm
  | full a1 a2 a3 => rw [hn.held, hn.cap] at a2; omega
  | new q0 a1 a2 a3 a4 a5 a6 =>
    have a1' : hasL El.cmp e l = false := hhas.trans a1
    rw [a1'] at hlen
    have hq0 : ∀ s : BT El, eI.Rep σ.look s → q0 ∉ s.refs := fun s hs hq => by obtain ⟨v, hv⟩ := rep_some hs q0 hq; rw [a4] at hv; cases hv
    refine ⟨rfl, hhas, _, rfl, ⟨a5, BT.ins_nodup _ h.nd (fun _ => hq0 a h.rep), ?_, insL_srt elOk h.srt, hok⟩, a6.rep hb fun q hq hm => ?_, fun q hq hm => ?_, m + 1, ⟨by rw [a6.held, hn.held]; omega, by rw [a6.cap]; exact hn.cap⟩, Nat.le_succ _, Nat.le_refl _, by simp at hlen; omega⟩
    · show ((a.ins El.cmp _ e)).elems = _
      rw [BT.ins_elems elOk hs, h.el]
    · rcases hm with hm | rfl
      · exact hd q hq hm
      · exact hq0 b hb hq
    · rcases BT.ins_mem _ hm with hm | ⟨rfl, _⟩
      · exact hd q hq hm
      · exact hq0 b hb hq

theorem made7_s {z : Zn} {s : Sl} {xs : List ActE} (h : RowIn z actCd s xs) (hl : xs.length ≤ 50) (hok : ∀ a ∈ xs, okW a) :
    Fn Go.Proofs.Try.prog 26 [slV s, iV 200] (fz z) (eTup3 eBlk eSl eBool) (Nat × BT El × Pool (Nd El Tide) × Nat × Nat × Zn × List El) (fun (x : Nat × Sl × Bool) (y : Nat × BT El × Pool (Nd El Tide) × Nat × Nat × Zn × List El) => x.2.2 = true ∧ PInv y.2.1 y.2.2.1 y.2.2.2.2.2.2 ∧ PNum y.2.2.1 y.2.2.2.2.2.2.length ∧ y.2.2.2.1 ≤ 50 ∧ y.2.2.2.2.2.2.length ≤ 50 ∧ z.le y.2.2.2.2.2.1 ∧ RowIn y.2.2.2.2.2.1 elCd x.2.1 y.2.2.2.2.2.2)
      fun x y => (eI.trx x.1 (px y.1) y.2.1.ref y.2.2.1 y.2.2.2.1).sep (fz y.2.2.2.2.2.1) := by
  refine Fn.of l7b_P l7b_ok try_mix (made7_t s 200) fun B => ?_
  unfold made7T
  have hnew : Fn Go.Proofs.Try.prog 15 [iV 200] emp eBlk Nat (fun _ _ => True) fun t p => eI.trx t (px p) ⟨0, 0⟩ (pool0 El Tide 200) 0 := fun F w hF => by
    have : F = none0 := hF
    subst this
    exact (New_g e_ty e_t4 200 0 (by omega) w).mono fun v F1 w1 _ ⟨x, p, h1, h2⟩ => ⟨x, p, h1, trivial, h2⟩
  refine AT.imp (sep_emp'.trans sep_comm) (AT.call0 (hnew.frame (fz z)) fun t p _ => ?_)
  have hsn := h.n
  refine AT.loop (Y := BT El × Pool (Nd El Tide) × Nat × Zn × List El) (fun (r : Sl × Int) y => ∃ m : Nat, r.2 = m ∧ m ≤ xs.length ∧ PInv y.1 y.2.1 y.2.2.2.2 ∧ PNum y.2.1 y.2.2.2.2.length ∧ y.2.2.1 = m ∧ y.2.2.2.2.length ≤ m ∧ z.le y.2.2.2.1 ∧ RowIn y.2.2.2.1 elCd r.1 y.2.2.2.2)
    (fun r y => (eI.trx t (px p) y.1.ref y.2.1 y.2.2.1).sep (fz y.2.2.2.1)) (fun r => xs.length - r.2.toNat) ((⟨none, 0, 0⟩ : Sl), (0 : Int)) (.nil, pool0 El Tide 200, 0, z, []) rfl
    ⟨0, rfl, Nat.zero_le _, ⟨trivial, List.nodup_nil, rfl, List.Pairwise.nil, by simp⟩, ⟨rfl, rfl⟩, rfl, Nat.le_refl _, Zn.le_refl z, RowIn.nil z elCd⟩ (Imp.refl _) ?_
  rintro G ⟨v, l⟩ ⟨a, σ, n, z1, L⟩ ⟨m, rfl, hm, hi, hnum, rfl, hLm, hz, hr⟩ hag
  simp only at hi hnum hLm hz hr hm
  have hsz : a.size = L.length := by rw [BT.size_elems, hi.el]
  refine AT.iteD (fun hb => ?_) (fun hb => ?_)
  · have hlt : n < xs.length := by simp only at hb; omega
    obtain ⟨ad, hld, hc⟩ := ldIndex (x := xs[n]) (h.mono hz) u32 s41 (Int.natCast_nonneg n) (by simp)
    refine AT.ld (H := eAddr) ad (fun F w _ => hld F w) ?_
    refine AT.ld (H := eAct) xs[n] (ldAgg0 (z := z1) hc a41 s41 (by show 0 < 3; decide)) ?_
    have hxok := hok xs[n] (List.getElem_mem hlt)
    generalize xs[n] = x at hxok
    have hw : wr ((n : Int) + 1) = ((n + 1 : Nat) : Int) := by rw [wr_id (by omega) (by omega)]; omega
    refine AT.iteE (fun hk => ?_) (fun hk => ?_)
    · refine AT.call0 ((Drop_g (t := t) (p := px p) (n := n) e_ty e_t3 ⟨x.k, 0⟩ hi.rep hi.nd (by omega)).fn.frame (fz z1)) ?_
      rintro ⟨x1, x2⟩ ⟨r', σ1⟩ hR
      refine AT.imp sep_comm (AT.call0 ((drop7_s hr x.k (by omega)).frame _) ?_)
      rintro ⟨v3, x3⟩ z3 ⟨hz3, _, hr3⟩
      rw [dropL_del hi.srt] at hr3
      rw [hw]
      have hdel : (a.del El.cmp ⟨x.k, 0⟩).map (fun x => (x.1.elems, x.2)) = delL El.cmp ⟨x.k, 0⟩ L := by rw [BT.del_elems elOk (by rw [hi.el]; exact hi.srt), hi.el]
      refine AT.imp sep_comm ?_
      cases hR with
      | none b1 b2 =>
        have b1 : a.del El.cmp ⟨x.k, 0⟩ = none := b1
        rw [b1] at hdel
        rw [← hdel] at hr3
        refine AT.imp (fun F w hA => ?_) (AT.again rfl (hag (v3, ((n + 1 : Nat) : Int)) (a, σ1, n + 1, z3, L) ⟨n + 1, rfl, hlt, ⟨b2.rep hi.rep No.rep, hi.nd, hi.el, hi.srt, hi.ok⟩, ⟨by rw [b2.held, hnum.held]; simp, by rw [b2.cap]; exact hnum.cap⟩, rfl, by simp only; omega, Zn.le_trans hz hz3, hr3⟩ (by simp only; omega)))
        exact Imp.sep (trx_up (Nat.le_succ n) (by omega)) (Imp.refl _) F w hA
      | some y b1 b2 b3 =>
        have b1 : a.del El.cmp ⟨x.k, 0⟩ = some y := b1
        rw [b1] at hdel
        rw [← hdel] at hr3
        obtain ⟨d1, d2, d3, d4, d5⟩ := delL_srt elOk hi.srt hdel.symm
        refine AT.imp (fun F w hA => ?_) (AT.again rfl (hag (v3, ((n + 1 : Nat) : Int)) (y.1, σ1, n + 1, z3, y.1.elems) ⟨n + 1, rfl, hlt, ⟨b2, BT.del_nodup _ b1 hi.nd, rfl, d1, fun e he => hi.ok e (d2 e he)⟩, ⟨by rw [b3.held, hnum.held]; simp only at d5 ⊢; omega, by rw [b3.cap]; exact hnum.cap⟩, rfl, by simp only at d5 ⊢; omega, Zn.le_trans hz hz3, hr3⟩ (by simp only; omega)))
        exact Imp.sep (trx_up (Nat.le_succ n) (by omega)) (Imp.refl _) F w hA
    · refine AT.call0 ((Put_g (t := t) (p := px p) (n := n) e_ty e_t3 e_laws ⟨x.k, x.w⟩ (by omega) hi.rep hi.nd (by omega)).fn.frame (fz z1)) ?_
      rintro b ⟨r', σ1⟩ hR
      obtain ⟨hb1, hhas, a', rfl, hi', _, _, m', hn', hm1, hm2, hm3⟩ := put_step (b := .nil) (e := ⟨x.k, x.w⟩) hi hnum (Nat.le_refl _) (by omega) hxok trivial (fun q hq => by cases hq) hR
      have hb1 : b = true := hb1
      subst hb1
      refine AT.imp sep_comm (AT.call0 ((put7_s hr ⟨x.k, x.w⟩ 200 (by omega)).frame _) ?_)
      rintro ⟨v3, x3⟩ z3 ⟨hz3, hx3, hr3⟩
      rw [putL_ins hi.srt, if_pos (.inr (by omega))] at hr3 hx3
      have hx3 : x3 = true := hx3
      subst hx3
      refine AT.ite (fun hc => absurd hc (by simp)) (fun _ => ?_)
      rw [hw]
      have hm' : m' = (insL El.cmp ⟨x.k, x.w⟩ L).length := by omega
      subst hm'
      refine AT.imp sep_comm (AT.again rfl (hag (v3, ((n + 1 : Nat) : Int)) (a', σ1, n + 1, z3, insL El.cmp ⟨x.k, x.w⟩ L) ⟨n + 1, rfl, hlt, hi', hn', rfl, by simp only; omega, Zn.le_trans hz hz3, hr3⟩ (by simp only; omega)))
  · have : n = xs.length := by simp only at hb; omega
    subst this
    refine AT.call0 (alike7_s hi.rep (by show a.size ≤ _; omega) hr) ?_
    rintro b ⟨σ1, z1'⟩ ⟨⟨c, hT⟩, hz1, hb1⟩
    have hbt : b = true := hb1.2 hi.el
    subst hbt
    refine AT.ret (H := eTup3 eBlk eSl eBool) (t, v, true) (p, a, σ1, xs.length, 0, z1', L) rfl ⟨rfl, ⟨hT.rep hi.rep No.rep, hi.nd, hi.el, hi.srt, hi.ok⟩, ⟨by rw [hT.held, hnum.held]; simp, by rw [hT.cap]; exact hnum.cap⟩, hl, by simp only; omega, Zn.le_trans hz hz1, hr.mono hz1⟩ (Imp.refl _)
end Go.Sx

set_option linter.unusedVariables false
set_option linter.unusedSimpArgs false
set_option maxHeartbeats 4000000
namespace Go.Sx
open GI Asn Go.RowKit

/-! ### Sums of small numbers -/
theorem bsum_t : ∀ (s : BT El), s.size ≤ 1000 → (∀ e ∈ s.elems, -1000000 ≤ e.w ∧ e.w ≤ 1000000) →
    (bsum eI s).n = s.size ∧ (bsum eI s).sum = (s.elems.map (·.w)).sum ∧ -1000000 * (s.size : Int) ≤ (s.elems.map (·.w)).sum ∧ (s.elems.map (·.w)).sum ≤ 1000000 * (s.size : Int)
  | .nil, _, _ => by simp [bsum, BT.size, BT.elems, eI]
  | .node r l e h, hb, hok => by
    simp only [BT.size] at hb
    obtain ⟨a1, a2, a3, a4⟩ := bsum_t l (by omega) fun x hx => hok x (by simp [BT.elems, hx])
    obtain ⟨b1, b2, b3, b4⟩ := bsum_t h (by omega) fun x hx => hok x (by simp [BT.elems, hx])
    have he := hok e (by simp [BT.elems])
    have hbs : bsum eI (.node r l e h) = Tide.plus (Tide.plus (bsum eI l) ⟨1, e.w, e.w⟩) (bsum eI h) := rfl
    have hsum : ((BT.node r l e h).elems.map (·.w)).sum = (l.elems.map (·.w)).sum + e.w + (h.elems.map (·.w)).sum := by
      simp only [BT.elems, List.map_append, List.map_cons, List.sum_append, List.sum_cons]; omega
    have hin : (Tide.plus (bsum eI l) ⟨1, e.w, e.w⟩).n = (l.size : Int) + 1 ∧ (Tide.plus (bsum eI l) ⟨1, e.w, e.w⟩).sum = (l.elems.map (·.w)).sum + e.w := by
      unfold Tide.plus
      by_cases h0 : (bsum eI l).n = 0
      · rw [if_pos h0]
        have hs0 : l.size = 0 := by rw [a1] at h0; omega
        have hl0 : l.elems = [] := List.eq_nil_of_length_eq_zero (by rw [← BT.size_elems]; exact hs0)
        simp [hs0, hl0]
      · rw [if_neg h0, if_neg (by simp)]
        simp only
        rw [a1, a2]
        exact ⟨wr_id (by omega) (by omega), wr_id (by omega) (by omega)⟩
    have fin : (bsum eI (.node r l e h)).n = ((BT.node r l e h).size : Int) ∧ (bsum eI (.node r l e h)).sum = ((BT.node r l e h).elems.map (·.w)).sum := by
      rw [hbs, hsum]
      generalize Tide.plus (bsum eI l) ⟨1, e.w, e.w⟩ = X at hin
      obtain ⟨e1, e2⟩ := hin
      unfold Tide.plus
      rw [if_neg (by omega)]
      by_cases h0 : (bsum eI h).n = 0
      · rw [if_pos h0]
        have hs0 : h.size = 0 := by rw [b1] at h0; omega
        have hl0 : h.elems = [] := List.eq_nil_of_length_eq_zero (by rw [← BT.size_elems]; exact hs0)
        rw [e1, e2, hl0]; simp only [BT.size, hs0]; simp
      · rw [if_neg h0]
        simp only
        rw [e1, e2, b1, b2, wr_id (n := (l.size : Int) + 1 + h.size) (by omega) (by omega), wr_id (by omega) (by omega)]
        exact ⟨by simp only [BT.size]; omega, rfl⟩
    refine ⟨fin.1, fin.2, ?_, ?_⟩
    · rw [hsum]; simp only [BT.size]; omega
    · rw [hsum]; simp only [BT.size]; omega
theorem btw_all (s : BT El) : btw eI s 0 s.size = bsum eI s := by
  cases s with
  | nil => rfl
  | node r l e h =>
    have : 0 < (BT.node r l e h).size := by simp only [BT.size]; omega
    rw [btw, if_neg (by omega), if_pos ⟨Int.le_refl _, Int.le_refl _⟩]
theorem sumL_eq : ∀ (l : List Int) (acc : Int) (m : Nat), (∀ x ∈ l, -1000000 ≤ x ∧ x ≤ 1000000) → l.length + m ≤ 1000000 → -1000000 * (m : Int) ≤ acc → acc ≤ 1000000 * (m : Int) → l.foldl (fun a b => wr (a + b)) acc = acc + l.sum
  | [], acc, m, _, _, _, _ => by simp
  | x :: l, acc, m, h, hl, h1, h2 => by
    have hx := h x (by simp)
    simp only [List.length_cons] at hl
    rw [List.foldl_cons, wr_id (n := acc + x) (by omega) (by omega), sumL_eq l (acc + x) (m + 1) (fun y hy => h y (by simp [hy])) (by omega) (by omega) (by omega), List.sum_cons]; omega

theorem Quiet.fn {P : Program} {f : FuncId} {args : List Value} {H : Enc} {x : H.T} (h : Quiet P f args (H.enc x)) (A : Asn) : Fn P f args A H Unit (fun y _ => y = x) fun _ _ => A := fun F w hA =>
  (h.spec (A.lt hA)).mono fun v F1 w1 _ ⟨h1, h2, h3⟩ => ⟨x, (), h1, rfl, by rw [h2]; exact A.keep hA h3⟩

/-! ### Joins that are refused -/
theorem uT34 : Go.Proofs.Try.prog.underlying 34 = some (.pointer 99) := by kernel_rfl
theorem s99 : sizeT Go.Proofs.Try.prog 99 = some (2 + 1) := by kernel_rfl
theorem uP92 : Go.Proofs.Try.prog.underlying 92 = some (.pointer 139) := by kernel_rfl
theorem s139 : ∃ k, sizeT Go.Proofs.Try.prog 139 = some (k + 1) := ⟨(sizeT Go.Proofs.Try.prog 139).getD 1 - 1, by kernel_rfl⟩
theorem joinSame (t : Nat) (A : Asn) : Fn Go.Proofs.Try.prog 30 [pa t 0, pa t 0] A eBool Unit (fun (b : Bool) _ => b = false) fun _ _ => A := by
  refine Fn.of (c := eI.cfg) rfl eI_ok try_mix (e_t6.Join t t) fun B => ?_
  unfold JoinT
  refine AT.ldS (H := eBool) true (fun F w hA => ld_ptrEql uT34 s99 fun w' _ => run_sameAddr_same (w := w') _) ?_
  exact AT.ite (fun _ => AT.endS (AT.ret (H := eBool) false () rfl rfl (Imp.refl _))) (fun h => by cases h)
theorem joinNil (t : Nat) (A : Asn) : Fn Go.Proofs.Try.prog 30 [pa t 0, .pointer none] A eBool Unit (fun (b : Bool) _ => b = false) fun _ _ => A := by
  refine Fn.of (c := eI.cfg) rfl eI_ok try_mix (T := .endS (.ret (.bool false))) (fnT (fn := Go.Proofs.Try.f30) (fc := {}) (by kernel_rfl) (by kernel_rfl) (by kernel_rfl)) fun B => ?_
  exact AT.endS (AT.ret (H := eBool) false () rfl rfl (Imp.refl _))
theorem joinOther {t o : Nat} {p q : Px} {r1 r2 : Rf} {σ1 σ2 : Pool (Nd El Tide)} {n1 n2 : Nat} : Fn Go.Proofs.Try.prog 30 [pa t 0, pa o 0] ((eI.trx t p r1 σ1 n1).sep (eI.trx o q r2 σ2 n2)) eBool Unit (fun (b : Bool) _ => b = false) fun _ _ => (eI.trx t p r1 σ1 n1).sep (eI.trx o q r2 σ2 n2) := by
  refine Fn.of (c := eI.cfg) rfl eI_ok try_mix (e_t6.Join t o) fun B => ?_
  unfold JoinT
  obtain ⟨k, hk⟩ := s139
  refine AT.ldS (H := eBool) false (fun F w hA => ?_) ?_
  · obtain ⟨F1, F2, rfl, hd, ⟨Fp1, rfl, h1, ⟨h2, _⟩, _⟩, ⟨Fp2, rfl, h4, ⟨h5, _⟩, _⟩⟩ := hA
    exact ld_ptrEql uT34 s99 (same_other (fun e => hd t (.inr (.inl rfl)) (.inr (.inl e.symm))) (.inr (.inr (.inl rfl))) (.inl (.inr (.inl rfl))) h5 h2)
  refine AT.ite (fun h => by cases h) (fun _ => ?_)
  refine AT.ldS (H := eBlk) q.p (fun F w hA => ?_) ?_
  · obtain ⟨F1, F2, rfl, hd, h1, h2⟩ := hA
    exact (ld_pool e_ty h2).more fun b hb => .inr hb
  refine AT.ldS (H := eBlk) p.p (fun F w hA => ?_) ?_
  · obtain ⟨F1, F2, rfl, hd, h1, h2⟩ := hA
    exact (ld_pool e_ty h1).more fun b hb => .inl hb
  refine AT.ldS (H := eBool) true (fun F w hA => ?_) ?_
  · obtain ⟨F1, F2, rfl, hd, ⟨Fp1, rfl, ⟨sc1, sf1, rfl, hX1⟩, _⟩, ⟨Fp2, rfl, ⟨sc2, sf2, rfl, hX2⟩, _⟩⟩ := hA
    exact ld_ptrNeq (r := false) uP92 hk (same_other (fun e => hd p.p (.inl (.inl rfl)) (.inl (.inl e.symm))) (.inr (.inl (.inl rfl))) (.inl (.inl (.inl rfl))) hX2.blk hX1.blk)
  exact AT.endS (AT.ite (fun _ => AT.ret (H := eBool) false () rfl rfl (Imp.refl _)) (fun h => by cases h))
end Go.Sx

set_option linter.unusedVariables false
set_option linter.unusedSimpArgs false
set_option maxHeartbeats 4000000
namespace Go.Sx
open GI Asn Go.RowKit

abbrev RPa (z : Zn) : Value → BS → World → Prop := RQ eBool Unit (fun (b : Bool) _ => b = true) fun _ _ => fz z

theorem PInv.keep {a : BT El} {σ σ' : Pool (Nd El Tide)} {l : List El} {c : Nat} {d : Int} (h : PInv a σ l) (hT : Tch σ σ' No c d) : PInv a σ' l := ⟨hT.rep h.rep No.rep, h.nd, h.el, h.srt, h.ok⟩
theorem PNum.keep {σ σ' : Pool (Nd El Tide)} {m c : Nat} (h : PNum σ m) (hT : Tch σ σ' No c 0) : PNum σ' m := ⟨by rw [hT.held, h.held]; simp, by rw [hT.cap]; exact h.cap⟩

/-- What holds between the two trees. -/
structure Two (key : Int) (a b : BT El) (σ : Pool (Nd El Tide)) (l1 l2 : List El) : Prop where
  pa : PInv a σ l1
  pb : PInv b σ l2
  d : ∀ q ∈ a.refs, q ∉ b.refs
  lo : ∀ e ∈ l1, e.k < key
  hi : ∀ e ∈ l2, ¬ e.k < key
theorem Two.keep {key : Int} {a b : BT El} {σ σ' : Pool (Nd El Tide)} {l1 l2 : List El} {c : Nat} {d : Int} (h : Two key a b σ l1 l2) (hT : Tch σ σ' No c d) : Two key a b σ' l1 l2 := ⟨h.pa.keep hT, h.pb.keep hT, h.d, h.lo, h.hi⟩
theorem Two.nd {key : Int} {a b : BT El} {σ : Pool (Nd El Tide)} {l1 l2 : List El} (h : Two key a b σ l1 l2) : (a.refs ++ b.refs).Nodup := by
  rw [List.nodup_append]; exact ⟨h.pa.nd, h.pb.nd, fun x hx y hy e => h.d x hx (e ▸ hy)⟩
theorem Two.szA {key : Int} {a b : BT El} {σ : Pool (Nd El Tide)} {l1 l2 : List El} (h : Two key a b σ l1 l2) : a.size = l1.length := by rw [BT.size_elems, h.pa.el]
theorem Two.szB {key : Int} {a b : BT El} {σ : Pool (Nd El Tide)} {l1 l2 : List El} (h : Two key a b σ l1 l2) : b.size = l2.length := by rw [BT.size_elems, h.pb.el]

theorem parts1_s {B : Nat} {z0 z : Zn} {k : Int} {u : Sl} {acts : List ActE} {t o p : Nat} {lf : Sl} {L : List El} {a b : BT El} {σ : Pool (Nd El Tide)} {n : Nat} (hz0 : z0.le z) (hu : RowIn z actCd u acts) (hul : acts.length ≤ 20) (huo : ∀ a ∈ acts, okW a)
    (hlf : RowIn z elCd lf L) (hL : L.length ≤ 50) (h2 : Two k a b σ (L.take (rk k L)) (L.drop (rk k L))) (hnum : PNum σ L.length) (hn : n ≤ 100) :
    AT ⟨Go.Proofs.Try.prog, B, [], RPa z0⟩ Lam.none ((eI.trx t (pxH eI p o b.ref) a.ref σ n).sep (fz z)) (parts7T_1 k u (t, lf, true) (rk k L) o) := by
  unfold parts7T_1
  have hrk := rk_le k L
  have hun := hu.n
  refine AT.ldS (H := eSl) (lf.cut 2 0 (rk k L)) (fun F w _ => ldCutH hlf slE.u slE.s (Int.natCast_nonneg _) (by omega) F w) ?_
  refine AT.ldS (H := eSl) (lf.cut 2 (rk k L) L.length) (fun F w _ => ldCutL hlf slE.u slE.s (Int.natCast_nonneg _) (by omega) F w) (AT.endS ?_)
  have hr1 : RowIn z elCd (lf.cut 2 0 (rk k L)) (L.take (rk k L)) := by have := hlf.cut (Nat.zero_le _) hrk; rw [List.drop_zero] at this; exact this
  have hr2 : RowIn z elCd (lf.cut 2 (rk k L) L.length) (L.drop (rk k L)) := by have := hlf.cut hrk (Nat.le_refl _); rw [List.take_length] at this; exact this
  refine AT.loop (Y := BT El × BT El × Pool (Nd El Tide) × Zn × List El × List El) (fun (r : Sl × Sl × Int) y => ∃ m : Nat, r.2.2 = m ∧ m ≤ acts.length ∧ Two k y.1 y.2.1 y.2.2.1 y.2.2.2.2.1 y.2.2.2.2.2 ∧ PNum y.2.2.1 (y.2.2.2.2.1.length + y.2.2.2.2.2.length) ∧ y.2.2.2.2.1.length + y.2.2.2.2.2.length ≤ 50 + m ∧ z.le y.2.2.2.1 ∧ RowIn y.2.2.2.1 elCd r.1 y.2.2.2.2.1 ∧ RowIn y.2.2.2.1 elCd r.2.1 y.2.2.2.2.2)
    (fun r y => (eI.trx t (pxH eI p o y.2.1.ref) y.1.ref y.2.2.1 (100 + r.2.2.toNat)).sep (fz y.2.2.2.1)) (fun r => acts.length - r.2.2.toNat) (lf.cut 2 0 (rk k L), lf.cut 2 (rk k L) L.length, (0 : Int)) (a, b, σ, z, L.take (rk k L), L.drop (rk k L)) rfl
    ⟨0, rfl, Nat.zero_le _, h2, by simp only [List.length_take, List.length_drop]; rw [show min (rk k L) L.length + (L.length - rk k L) = L.length by omega]; exact hnum, by simp; omega, Zn.le_refl z, hr1, hr2⟩ (Imp.sep (trx_up (n' := 100) hn (by omega)) (Imp.refl _)) ?_
  rintro G ⟨v1, v2, l⟩ ⟨a, b, σ, z1, l1, l2⟩ ⟨m, rfl, hm, h2, hnum, hlen, hz1, hr1, hr2⟩ hag
  simp only at h2 hnum hlen hz1 hr1 hr2 hm
  have hsa := h2.szA
  have hsb := h2.szB
  refine AT.iteD (fun hb => ?_) (fun hb => ?_)
  · have hlt : m < acts.length := by simp only at hb; omega
    obtain ⟨ad, hld, hc⟩ := ldIndex (x := acts[m]) (hu.mono hz1) u32 s41 (Int.natCast_nonneg m) (by simp)
    refine AT.ldS (H := eAddr) ad (fun F w _ => hld F w) ?_
    refine AT.ldS (H := eInt) acts[m].k (ldCell (z := z1) hc 1 a3 rfl) ?_
    refine AT.ldS (H := eAddr) ad (fun F w _ => hld F w) ?_
    refine AT.ldS (H := eInt) acts[m].w (ldCell (z := z1) hc 2 a3 rfl) (AT.endS ?_)
    have hxok := huo acts[m] (List.getElem_mem hlt)
    generalize acts[m] = x at hxok
    have hw : wr ((m : Int) + 1) = ((m + 1 : Nat) : Int) := by rw [wr_id (by omega) (by omega)]; omega
    have hput : ∀ l : List El, l.length ≤ 70 → Srt El.cmp l → putL l ⟨x.k, x.w⟩ 1000 = (insL El.cmp ⟨x.k, x.w⟩ l, true) := fun l hl hs => by rw [putL_ins hs, if_pos (.inr (by omega))]
    refine AT.iteD (fun hk => ?_) (fun hk => ?_)
    · refine AT.call0 ((Put_g (t := t) (p := pxH eI p o b.ref) (n := 100 + m) e_ty e_t3 e_laws ⟨x.k, x.w⟩ (by omega) h2.pa.rep h2.pa.nd (by omega)).fn.frame (fz z1)) ?_
      rintro bb ⟨r', σ1⟩ hR
      obtain ⟨-, hhas, a', rfl, hi', hb', hd', m', hn', hm1, hm2, hm3⟩ := put_step (b := b) (e := ⟨x.k, x.w⟩) h2.pa hnum (by omega) (by omega) hxok h2.pb.rep (fun q hq hq2 => h2.d q hq2 hq) hR
      refine AT.imp sep_comm (AT.call0 ((put7_s hr1 ⟨x.k, x.w⟩ 1000 (by omega)).frame _) ?_)
      rintro ⟨v3, x3⟩ z3 ⟨hz3, -, hr3⟩
      rw [hput l1 (by omega) h2.pa.srt] at hr3
      rw [hw]
      refine AT.imp sep_comm (AT.again rfl (hag (v3, v2, ((m + 1 : Nat) : Int)) (a', b, σ1, z3, insL El.cmp ⟨x.k, x.w⟩ l1, l2) ⟨m + 1, rfl, hlt, ⟨hi', ⟨hb', h2.pb.nd, h2.pb.el, h2.pb.srt, h2.pb.ok⟩, fun q hq hq2 => hd' q hq2 hq, fun e he => ?_, h2.hi⟩, ?_, by simp only; omega, Zn.le_trans hz1 hz3, hr3, hr2.mono hz3⟩ (by simp only; omega)))
      · rcases insL_mem he with rfl | he
        · exact hk
        · exact h2.lo e he
      · simp only
        rw [show (insL El.cmp ⟨x.k, x.w⟩ l1).length + l2.length = m' by omega]; exact hn'
    · refine AT.imp (Imp.sep (swapH e_ty) (Imp.refl _)) (AT.call0 ((Put_g (t := o) (p := pxH eI p t a.ref) (n := 100 + m) e_ty e_t3 e_laws ⟨x.k, x.w⟩ (by omega) h2.pb.rep h2.pb.nd (by omega)).fn.frame (fz z1)) ?_)
      rintro bb ⟨r', σ1⟩ hR
      obtain ⟨-, hhas, b', rfl, hi', ha', hd', m', hn', hm1, hm2, hm3⟩ := put_step (b := a) (e := ⟨x.k, x.w⟩) h2.pb hnum (by omega) (by omega) hxok h2.pa.rep h2.d hR
      refine AT.imp ((Imp.sep (swapH e_ty) (Imp.refl _)).trans sep_comm) (AT.call0 ((put7_s hr2 ⟨x.k, x.w⟩ 1000 (by omega)).frame _) ?_)
      rintro ⟨v3, x3⟩ z3 ⟨hz3, -, hr3⟩
      rw [hput l2 (by omega) h2.pb.srt] at hr3
      rw [hw]
      refine AT.imp sep_comm (AT.again rfl (hag (v1, v3, ((m + 1 : Nat) : Int)) (a, b', σ1, z3, l1, insL El.cmp ⟨x.k, x.w⟩ l2) ⟨m + 1, rfl, hlt, ⟨⟨ha', h2.pa.nd, h2.pa.el, h2.pa.srt, h2.pa.ok⟩, hi', hd', h2.lo, fun e he => ?_⟩, ?_, by simp only; omega, Zn.le_trans hz1 hz3, hr1.mono hz3, hr3⟩ (by simp only; omega)))
      · rcases insL_mem he with rfl | he
        · exact hk
        · exact h2.hi e he
      · simp only
        rw [show l1.length + (insL El.cmp ⟨x.k, x.w⟩ l2).length = m' by omega]; exact hn'
  · have hm' : m = acts.length := by simp only at hb; omega
    refine AT.call0 (alike7_s h2.pa.rep (by show a.size ≤ _; omega) hr1) ?_
    rintro b1 ⟨σ1, z2⟩ ⟨⟨c1, hT1⟩, hz2, hb1⟩
    refine AT.iteN (fun hf => absurd (hb1.2 h2.pa.el) (by simp [hf])) (fun _ => ?_)
    have h3 := h2.keep hT1
    have hnum3 := hnum.keep hT1
    refine AT.imp (Imp.sep (swapH e_ty) (Imp.refl _)) (AT.call0 (alike7_s h3.pb.rep (by show b.size ≤ _; omega) (hr2.mono hz2)) ?_)
    rintro b2 ⟨σ2, z3⟩ ⟨⟨c2, hT2⟩, hz3, hb2⟩
    refine AT.iteN (fun hf => absurd (hb2.2 h3.pb.el) (by simp [hf])) (fun _ => ?_)
    have h4 := h3.keep hT2
    obtain ⟨kk, hkk⟩ := s139
    refine AT.imp (Imp.sep (swapH e_ty) (Imp.refl _)) (AT.call0 ((Join_fn (t := t) (o := o) (p := p) (n := 100 + m) e_ty e_t6 uT34 s99 uP92 hkk h4.pa.rep h4.pb.rep h4.nd (by omega)).frame (fz z3)) ?_)
    rintro (b3 : Bool) ⟨σ3, y3⟩ ⟨hbe, hy1, hy2, hy3⟩
    simp only at hbe hy1 hy2 hy3
    have hyt : y3 = true := by
      cases y3 with
      | true => rfl
      | false =>
        obtain ⟨x, y, e1, e2, e3, e4⟩ := hy3.1 rfl
        have hx := h4.lo x (by rw [← h4.pa.el]; exact List.mem_of_getElem? e1)
        have hy := h4.hi y (by rw [← h4.pb.el]; exact List.mem_of_getElem? e2)
        have : El.cmp x y < 0 := El.cmp_lt.2 (by omega)
        have e4 : El.cmp x y ≥ 0 := e4
        omega
    subst hyt
    refine AT.iteN (fun hf => by rw [hbe] at hf; cases hf) (fun _ => ?_)
    obtain ⟨⟨c3, hT3⟩, hrep⟩ := hy1 rfl
    simp only [if_true]
    have hmel : (BT.merge a b).elems = l1 ++ l2 := by rw [BT.merge_elems, h4.pa.el, h4.pb.el]
    have hmsz : (BT.merge a b).size = l1.length + l2.length := by rw [BT.size_elems, hmel, List.length_append]
    have hr1' := hr1.mono (Zn.le_trans hz2 hz3)
    have hr2' := hr2.mono (Zn.le_trans hz2 hz3)
    refine AT.imp own_nil (AT.appR (z := z3) slE hr1' (by simp; omega) fun v5 => AT.appR (z := z3) slE hr2' (by simp; omega) fun v6 => ?_)
    rw [List.nil_append]
    refine AT.imp ((Imp.sep (Imp.refl _) sep_comm).trans sep_swap) (AT.freeze fun z4 hz4 hr6 => ?_)
    have h6n := hr6.n
    rw [List.length_append] at h6n
    refine AT.imp sep_comm (AT.call0 (alike7_s (t := t) (p := pxH eI p o ⟨0, 0⟩) hrep (by omega) hr6) ?_)
    rintro b4 ⟨σ4, z5⟩ ⟨⟨c4, hT4⟩, hz5, hb4⟩
    refine AT.ite (fun _ => ?_) (fun hf => absurd (hb4.2 hmel) (by simp [hf]))
    refine AT.imp (Imp.sep (swapH e_ty) (Imp.refl _)) (AT.call0 (alike7_s (t := o) (a := .nil) (ys := []) trivial (Nat.zero_le _) (RowIn.nil z5 elCd)) ?_)
    rintro b5 ⟨σ5, z6⟩ ⟨⟨c5, hT5⟩, hz6, hb5⟩
    refine AT.ite (fun _ => ?_) (fun hf => absurd (hb5.2 rfl) (by simp [hf]))
    have hrep5 := hT5.rep (hT4.rep hrep No.rep) No.rep
    refine AT.imp (Imp.sep (swapH e_ty) (Imp.refl _)) (AT.call0 ((Between_g (t := t) (p := pxH eI p o ⟨0, 0⟩) (n := 100 + m) e_ty e_t4 (i := 0) (j := (v6.n : Int)) hrep5 (by omega)).fn.frame (fz z6)) ?_)
    rintro x1 σ6 ⟨rfl, hT6⟩
    have hr6' := hr6.mono (Zn.le_trans hz5 hz6)
    refine AT.imp sep_comm ?_
    have hv6 : (v6.n : Int) = ((l1 ++ l2).length : Int) := by rw [hr6.n]
    rw [hv6]
    refine AT.call0 ((ws7_s hr6' (by simp; omega)).frame _) ?_
    rintro s7 z7 ⟨hz7, hr7⟩
    have hml : ((l1 ++ l2).length : Int) = (((l1 ++ l2).map (·.w)).length : Int) := by simp
    rw [hml]
    refine AT.call0 ((sum6_s hr7).frame _) ?_
    rintro i2 - rfl
    refine AT.ret (H := eBool) true () ?_ rfl ((fz_of (z := z7)).trans fun F w hA => ⟨fun b hb => ?_, hA.2⟩)
    · have hok12 : ∀ e ∈ l1 ++ l2, -1000000 ≤ e.w ∧ e.w ≤ 1000000 := fun e he => (List.mem_append.1 he).elim (h2.pa.ok e) (h2.pb.ok e)
      have hc : clampI ((((l1 ++ l2).map (·.w)).length : Nat) : Int) (BT.merge a b).size = (BT.merge a b).size := by unfold clampI; simp only [List.length_map, List.length_append]; omega
      have hc0 : clampI 0 (BT.merge a b).size = 0 := by unfold clampI; omega
      rw [hc, hc0, btw_all]
      have hbs := bsum_t (BT.merge a b) (by omega) (by rw [hmel]; exact hok12)
      have hsl : sumL ((l1 ++ l2).map (·.w)) = ((l1 ++ l2).map (·.w)).sum := by
        have := sumL_eq ((l1 ++ l2).map (·.w)) 0 0 (fun x hx => by obtain ⟨e, he, rfl⟩ := List.mem_map.1 hx; exact hok12 e he) (by simp; omega) (by simp) (by simp)
        unfold sumL; rw [this]; simp
      rw [hsl, hbs.2.1, hmel]
      simp [eBool]
    · have hzz2 := Zn.le_trans hz0 (Zn.le_trans hz1 (Zn.le_trans hz2 (Zn.le_trans hz3 (Zn.le_trans hz4 (Zn.le_trans hz5 (Zn.le_trans hz6 hz7))))))
      exact ⟨(hA.1 b (hzz2 b hb).1).1, (hA.1 b (hzz2 b hb).1).2.trans (hzz2 b hb).2⟩
end Go.Sx

set_option linter.unusedVariables false
set_option linter.unusedSimpArgs false
set_option maxHeartbeats 4000000
namespace Go.Sx
open GI Asn Go.RowKit

theorem awakeF {z0 z : Zn} {B : Nat} {Λ : Lam} {b : Bool → Tree} (hz : z0.le z) (hb : b = fun b => .ret (.bool b)) : AT ⟨Go.Proofs.Try.prog, B, [], RPa z0⟩ Λ (fz z) (.call 13 ([] : List Value).toArray [] eBool b) := by
  subst hb
  refine AT.call0 (H := eBool) (awake_q.fn (H := eBool) (x := true) (fz z)) ?_
  rintro b - rfl
  exact AT.ret (H := eBool) true () rfl rfl fun F w hA => ⟨fun b hb => ⟨(hA.1 b (hz b hb).1).1, (hA.1 b (hz b hb).1).2.trans (hz b hb).2⟩, hA.2⟩

theorem split_two {k : Int} {a : BT El} {σ σ' : Pool (Nd El Tide)} {L : List El} (h : PInv a σ L) (h1 : eI.Rep σ'.look (a.split El.cmp ⟨k, 0⟩).1) (h2 : eI.Rep σ'.look (a.split El.cmp ⟨k, 0⟩).2) :
    Two k (a.split El.cmp ⟨k, 0⟩).1 (a.split El.cmp ⟨k, 0⟩).2 σ' (L.take (rk k L)) (L.drop (rk k L)) := by
  have hs : Srt El.cmp a.elems := by rw [h.el]; exact h.srt
  obtain ⟨p1, p2⟩ := split_parts (k := k) hs
  have he := BT.split_elems (cmp := El.cmp) ⟨k, 0⟩ a
  have hr := BT.split_refs (cmp := El.cmp) ⟨k, 0⟩ a
  rw [h.el] at he
  generalize a.split El.cmp ⟨k, 0⟩ = x at *
  have hk : rk k L = x.1.elems.length := by rw [← he]; exact rk_app p1 p2
  have e1 : L.take (rk k L) = x.1.elems := by rw [hk, ← he, List.take_left' rfl]
  have e2 : L.drop (rk k L) = x.2.elems := by rw [hk, ← he, List.drop_left' rfl]
  have hnd := h.nd
  rw [← hr, List.nodup_append] at hnd
  have hss := h.srt
  unfold Srt at hss
  rw [← he, List.pairwise_append] at hss
  rw [e1, e2]
  exact ⟨⟨h1, hnd.1, rfl, hss.1, fun e hx => h.ok e (by rw [← he]; exact List.mem_append_left _ hx)⟩, ⟨h2, hnd.2.1, rfl, hss.2.1, fun e hx => h.ok e (by rw [← he]; exact List.mem_append_right _ hx)⟩, fun q hq hq2 => hnd.2.2 q hq q hq2 rfl, p1, p2⟩

theorem parts7_s {z : Zn} {s u : Sl} {k : Int} {xs ys : List ActE} (hs : RowIn z actCd s xs) (hu : RowIn z actCd u ys) : Fn Go.Proofs.Try.prog 5 [slV s, iV k, slV u] (fz z) eBool Unit (fun (b : Bool) _ => b = true) fun _ _ => fz z := by
  refine Fn.of l7b_P l7b_ok try_mix (parts7_t s k u) fun B => ?_
  unfold parts7T
  refine AT.call0 (H := eBool) (awake_q.fn (H := eBool) (x := true) (fz z)) ?_
  rintro b - rfl
  refine AT.iteN (fun h => by cases h) (fun _ => ?_)
  refine AT.call0 (small7_s hs (by omega)) fun b _ hb => ?_
  refine AT.iteN (fun _ => awakeF (Zn.le_refl z) rfl) (fun ht => ?_)
  obtain ⟨hl, hok⟩ := hb ht
  refine AT.call0 (small7_s hu (by omega)) fun b _ hb => ?_
  refine AT.iteN (fun _ => awakeF (Zn.le_refl z) rfl) (fun ht => ?_)
  obtain ⟨hl2, hok2⟩ := hb ht
  refine AT.call0 (made7_s hs (by omega) hok) ?_
  rintro ⟨t, lf, b⟩ ⟨p, a, σ, n, n0, z1, L⟩ ⟨hb, hi, hnum, hn, hL, hz1, hlf⟩
  simp only at hb hi hnum hn hL hz1 hlf
  subst hb
  refine AT.iteN (fun h => by cases h) (fun _ => ?_)
  have hrk := rk_le k L
  have hln := hlf.n
  have hsz : a.size = L.length := by rw [BT.size_elems, hi.el]
  refine AT.call0 ((rank7_s hlf k).frameL _) ?_
  rintro i1 - rfl
  refine AT.call0 ((Split_fn (t := t) (p := p) (n := n) e_ty e_t6 ⟨k, 0⟩ hi.rep hi.nd (by omega)).frame (fz z1)) ?_
  rintro o σ1 ⟨⟨c1, hT1⟩, hrep1, hrep2⟩
  have h2 := split_two (k := k) hi hrep1 hrep2
  have hnum1 : PNum σ1 L.length := ⟨by rw [hT1.held, hnum.held]; simp, by rw [hT1.cap]; exact hnum.cap⟩
  show AT _ Lam.none ((eI.trx t (pxH eI p o (a.split El.cmp ⟨k, 0⟩).2.ref) (a.split El.cmp ⟨k, 0⟩).1.ref σ1 n).sep (fz z1)) _
  generalize a.split El.cmp ⟨k, 0⟩ = ab at h2
  obtain ⟨a1, b1⟩ := ab
  simp only at h2 ⊢
  have hsa := h2.szA
  have hsb := h2.szB
  simp only [List.length_take, List.length_drop] at hsa hsb
  refine AT.ld (H := eSl) (lf.cut 2 0 (rk k L)) (fun F w _ => ldCutH hlf slE.u slE.s (Int.natCast_nonneg _) (by omega) F w) ?_
  have hr1 : RowIn z1 elCd (lf.cut 2 0 (rk k L)) (L.take (rk k L)) := by have := hlf.cut (Nat.zero_le _) hrk; rw [List.drop_zero] at this; exact this
  have hr2 : RowIn z1 elCd (lf.cut 2 (rk k L) L.length) (L.drop (rk k L)) := by have := hlf.cut hrk (Nat.le_refl _); rw [List.take_length] at this; exact this
  refine AT.call0 (alike7_s h2.pa.rep (by omega) hr1) ?_
  rintro b4 ⟨σ2, z2⟩ ⟨⟨c2, hT2⟩, hz2, hb4⟩
  refine AT.iteN (fun hf => absurd (hb4.2 h2.pa.el) (by simp [hf])) (fun _ => ?_)
  have h3 := h2.keep hT2
  have hnum3 := hnum1.keep hT2
  refine AT.ld (H := eSl) (lf.cut 2 (rk k L) L.length) (fun F w _ => ldCutL hlf slE.u slE.s (Int.natCast_nonneg _) (by omega) F w) ?_
  refine AT.imp (Imp.sep (swapH e_ty) (Imp.refl _)) (AT.call0 (alike7_s h3.pb.rep (by omega) (hr2.mono hz2)) ?_)
  rintro b5 ⟨σ3, z3⟩ ⟨⟨c3, hT3⟩, hz3, hb5⟩
  refine AT.iteN (fun hf => absurd (hb5.2 h3.pb.el) (by simp [hf])) (fun _ => ?_)
  have h4 := h3.keep hT3
  have hnum4 := hnum3.keep hT3
  refine AT.imp (Imp.sep (swapH e_ty) (Imp.refl _)) (AT.call0 (joinSame t _) ?_)
  rintro b6 - rfl
  refine AT.ite (fun h => by cases h) (fun _ => ?_)
  refine AT.call0 (joinNil t _) ?_
  rintro b7 - rfl
  refine AT.ite (fun h => by cases h) (fun _ => ?_)
  have hnew : Fn Go.Proofs.Try.prog 15 [iV 9] emp eBlk Nat (fun _ _ => True) fun t p => eI.trx t (px p) ⟨0, 0⟩ (pool0 El Tide 9) 0 := fun F w hF => by
    have : F = none0 := hF
    subst this
    exact (New_g e_ty e_t4 9 0 (by omega) w).mono fun v F1 w1 _ ⟨x, p, h1, h2⟩ => ⟨x, p, h1, trivial, h2⟩
  refine AT.imp (sep_emp'.trans sep_comm) (AT.call0 (hnew.frame _) fun p2 q2 _ => ?_)
  refine AT.imp (sep_assoc'.trans (Imp.sep sep_comm (Imp.refl _))) (AT.call0 (joinOther.frame (fz z3)) ?_)
  rintro b8 - rfl
  refine AT.ite (fun h => by cases h) (fun _ => ?_)
  refine AT.imp (sep_assoc.trans (Imp.sep (Imp.refl _) (fz_of (z := z3)))) ?_
  have hzz := Zn.le_trans hz1 (Zn.le_trans hz2 hz3)
  have fin : ∀ σ4, Two k a1 b1 σ4 (L.take (rk k L)) (L.drop (rk k L)) → PNum σ4 L.length → AT ⟨Go.Proofs.Try.prog, B, [], RPa z⟩ Lam.none ((eI.trx t (pxH eI p o b1.ref) a1.ref σ4 n).sep (fz z3)) (parts7T_1 k u (t, lf, true) (rk k L) o) := fun σ4 g1 g2 =>
    parts1_s hzz (hu.mono hzz) (by omega) hok2 (hlf.mono (Zn.le_trans hz2 hz3)) hL g1 g2 (by omega)
  refine AT.iteD (fun hk0 => AT.iteD (fun hkl => ?_) (fun _ => fin σ3 h4 hnum4)) (fun _ => fin σ3 h4 hnum4)
  obtain ⟨kk, hkk⟩ := s139
  refine AT.imp (Imp.sep (swapH e_ty) (Imp.refl _)) (AT.call0 ((Join_fn (t := o) (o := t) (p := p) (n := n) (a := b1) (b := a1) e_ty e_t6 uT34 s99 uP92 hkk h4.pb.rep h4.pa.rep (by
    rw [List.nodup_append]; exact ⟨h4.pb.nd, h4.pa.nd, fun x hx y hy e => h4.d y hy (e ▸ hx)⟩) (by omega)).frame (fz z3)) ?_)
  rintro (b9 : Bool) ⟨σ5, y9⟩ ⟨hbe, hy1, hy2, hy3⟩
  simp only at hbe hy1 hy2 hy3
  have hyf : y9 = false := by
    refine hy3.2 ?_
    have hsb' : b1.elems.length = b1.size := (BT.size_elems b1).symm
    have hsa' : a1.elems.length = a1.size := (BT.size_elems a1).symm
    have l1 : b1.size - 1 < b1.elems.length := by omega
    have l2 : 0 < a1.elems.length := by omega
    refine ⟨b1.elems[b1.size - 1], a1.elems[0], List.getElem?_eq_getElem l1, List.getElem?_eq_getElem l2, by omega, ?_⟩
    have g1 := h4.hi _ (by rw [← h4.pb.el]; exact List.getElem_mem l1)
    have g2 := h4.lo _ (by rw [← h4.pa.el]; exact List.getElem_mem l2)
    have : ¬ El.cmp b1.elems[b1.size - 1] a1.elems[0] < 0 := by rw [El.cmp_lt]; omega
    show El.cmp _ _ ≥ 0
    omega
  subst hyf
  refine AT.ite (fun h => by rw [hbe] at h; cases h) (fun _ => ?_)
  obtain ⟨c5, hT5⟩ := hy2 rfl
  simp only [Bool.false_eq_true, if_false]
  exact AT.imp (Imp.sep (swapH e_ty) (Imp.refl _)) (fin σ5 (h4.keep hT5) (hnum4.keep hT5))

/-- The law, as a call: memory that its arguments have is as it was. -/
theorem law_calls {P : Program} {f : FuncId} {args : List Value} {z : Zn} (h : Fn P f args (fz z) eBool Unit (fun (b : Bool) _ => b = true) fun _ _ => fz z) : Calls P f args.toArray z.w fun e w' => e = .returned (.bool true) ∧ Below z.w.heap.size z.w w' :=
  (h z.Z z.w ⟨fun b hb => ⟨hb, rfl⟩, z.lt⟩).2.mono fun e w' ⟨v, F1, he, hs, x, _, hv, hx, hA⟩ => by
    subst hx
    refine ⟨by rw [he, hv]; rfl, hs.fr.os, hs.fr.tape, hs.fr.output, hs.fr.size, fun b hb => ?_⟩
    by_cases hg : z.Z b
    · exact (hA.1 b hg).2
    · exact hs.fr.block b hb hg
end Go.Sx

set_option linter.unusedVariables false
set_option maxHeartbeats 1000000
namespace Go.Sx
open Go.RowKit Asn

/-! ### Arguments, as lists of typed elements -/
/-- All elder memory. -/
def zAll (w : World) : Zn := ⟨fun b => b < w.heap.size, w, fun _ h => h⟩
theorem cell_lt {w : World} {a : Addr} {v : Value} (h : w.cell? a = some v) : a.block < w.heap.size ∧ a.spot = none := by
  unfold World.cell? at h
  rcases Nat.lt_or_ge a.block w.heap.size with h1 | h1
  · refine ⟨h1, ?_⟩
    split at h
    · cases hs : a.spot with
      | none => rfl
      | some q => rw [hs] at h; simp at h
    · cases h
  · rw [Array.getElem?_eq_none h1] at h; cases h
section
variable {H : Type} {enc : TypeId × Value → H} {P : Program} {w : World} {base : Nat} {spare : Nat → Bool} {held : Bool}
/-- A type whose cells read as a typed word. -/
def RdTy (P : Program) (t : TypeId) {T : Type} (C : Codec T) : Prop :=
  P.cellsOf t = C.size ∧ ∀ {H : Type} {enc : TypeId × Value → H} {w : World} {base : Nat} {spare : Nat → Bool} {held : Bool} {n : Nat} {cs : List Value} {x : DataW H × List MemPlace}, DataW.trod enc P w base spare held n t cs = some x → ∃ v : T, cs = C.enc v

theorem RdTy.int {t : TypeId} (h : P.underlying t = some (.int .i64)) (hc : P.cellsOf t = 1) : RdTy P t intCd := ⟨hc, fun h2 => by
  obtain ⟨z, hz, _⟩ := DataW.trod_int h h2
  exact ⟨z, hz⟩⟩

theorem rd_slice {T : Type} {C : Codec T} {t e : TypeId} {fuel : Nat} {a : Option Addr} {n c : Nat} {x : DataW H × List MemPlace} (ht : P.underlying t = some (.slice e)) (hC : P.cellsOf e = C.size) (hpos : 0 < C.size) (Good : T → Prop)
    (hrd : ∀ {m : Nat} {cs : List Value} {x : DataW H × List MemPlace}, DataW.trod enc P w base spare held m e cs = some x → ∃ v : T, cs = C.enc v ∧ Good v) (h : DataW.trod enc P w base spare held fuel t [.slice a n c] = some x) :
    ∃ xs : List T, RowIn (zAll w) C ⟨a, n, c⟩ xs ∧ ∀ v ∈ xs, Good v := by
  rcases Go.Deep.open_slice ht h with h0 | ⟨b, len, cap, m, k, D, Pl, hcs, hb, hl, hm, hmm, hx, hi⟩
  · have h0 := h0.1
    simp only [List.cons.injEq, Value.slice.injEq, and_true] at h0
    obtain ⟨rfl, rfl, rfl⟩ := h0
    exact ⟨[], RowIn.nil _ _, by simp⟩
  · simp only [List.cons.injEq, Value.slice.injEq, and_true] at hcs
    obtain ⟨rfl, rfl, rfl⟩ := hcs
    have hnm : n ≤ m := by rw [hmm]; split <;> omega
    have hpick : ∀ i, ∃ o : Option T, i < n → ∃ v, o = some v ∧ Good v ∧ w.cells? base (b.add (i * C.size)) C.size = some (C.enc v) := by
      intro i
      by_cases hlt : i < n
      · obtain ⟨cs', hc, ht'⟩ := hi i (by omega)
        obtain ⟨v, rfl, hg⟩ := hrd ht'
        rw [hC] at hc
        exact ⟨some v, fun _ => ⟨v, rfl, hg, hc⟩⟩
      · exact ⟨none, fun h => absurd h hlt⟩
    let f : Nat → Option T := fun i => (hpick i).choose
    have hf : ∀ i, i < n → ∃ v, f i = some v ∧ Good v ∧ w.cells? base (b.add (i * C.size)) C.size = some (C.enc v) := fun i hlt => (hpick i).choose_spec hlt
    have hlen : ∀ k, k ≤ n → ((List.range k).filterMap f).length = k := by
      intro k hk
      induction k with
      | zero => rfl
      | succ k ih =>
        obtain ⟨v, hv, _⟩ := hf k (by omega)
        rw [List.range_succ, List.filterMap_append, List.length_append, ih (by omega)]
        simp [hv]
    have hat : ∀ k, k ≤ n → ∀ i, i < k → ((List.range k).filterMap f)[i]? = f i := by
      intro k hk
      induction k with
      | zero => intro i hi; omega
      | succ k ih =>
        intro i hi
        obtain ⟨v, hv, _⟩ := hf k (by omega)
        rw [List.range_succ, List.filterMap_append]
        by_cases hik : i < k
        · rw [List.getElem?_append_left (by rw [hlen k (by omega)]; exact hik)]; exact ih (by omega) i hik
        · have : i = k := by omega
          subst this
          rw [List.getElem?_append_right (by rw [hlen i (by omega)]; exact Nat.le_refl _), hlen i (by omega)]
          simp [hv]
    have hxl := hlen n (Nat.le_refl _)
    have hxa := hat n (Nat.le_refl _)
    generalize hxs : (List.range n).filterMap f = xs at hxl hxa
    refine ⟨xs, ⟨hxl.symm, hl, hm, ?_⟩, fun v hv => ?_⟩
    · rcases Nat.eq_zero_or_pos n with h0 | h0
      · left; exact List.eq_nil_of_length_eq_zero (by omega)
      · right
        have hcell : ∀ i, i < n → ∀ j, j < C.size → ∃ v, xs[i]? = some v ∧ w.cell? (b.add (i * C.size + j)) = (C.enc v)[j]? := by
          intro i hi j hj
          obtain ⟨v, hv, _, hc⟩ := hf i hi
          obtain ⟨_, _, h2⟩ := World.cells?_some hc
          refine ⟨v, by rw [hxa i hi, hv], ?_⟩
          rw [← h2 j hj, ← Go.Deep.add_add]
        have hsp : b.spot = none := by
          obtain ⟨v, hv, hc⟩ := hcell 0 h0 0 hpos
          rw [List.getElem?_eq_getElem (by rw [C.len]; exact hpos)] at hc
          have := (cell_lt hc).2
          simpa [Addr.add] using this
        have hadd : ∀ k, b.add k = ⟨b.block, b.off + k, none⟩ := fun k => by
          obtain ⟨bb, bo, bs⟩ := b
          simp only at hsp; subst hsp
          exact Addr.add_mid _ _ _
        refine ⟨b, rfl, hsp, fun j u hu => ?_⟩
        have hj := (List.getElem?_eq_some_iff.1 hu).1
        rw [flat_len] at hj
        have hq : j / C.size < xs.length := (Nat.div_lt_iff_lt_mul hpos).2 hj
        have hr : j % C.size < C.size := Nat.mod_lt _ hpos
        have hdm : j / C.size * C.size + j % C.size = j := by rw [Nat.mul_comm]; exact Nat.div_add_mod j C.size
        obtain ⟨v, hv, hc⟩ := hcell (j / C.size) (by omega) (j % C.size) hr
        have hlt2 : j / C.size < xs.length := hq
        have hfl : (flat C xs)[j]? = (C.enc v)[j % C.size]? := by
          conv => lhs; rw [← hdm]
          rw [← List.getElem?_drop, flat_drop, List.drop_eq_getElem_cons hlt2, flat_cons, List.getElem?_append_left (by rw [C.len]; exact hr)]
          have : xs[j / C.size] = v := by rw [List.getElem?_eq_getElem hlt2] at hv; injection hv
          rw [this]
        rw [hdm, ← hfl, hu, hadd] at hc
        exact ⟨(cell_lt hc).1, hc⟩
    · rw [← hxs] at hv
      obtain ⟨i, hi, hfi⟩ := List.mem_filterMap.1 hv
      obtain ⟨v', hv', hg, _⟩ := hf i (List.mem_range.1 hi)
      rw [hfi] at hv'; injection hv' with hv'; subst hv'; exact hg
theorem RdTy.row {T : Type} {C : Codec T} {t e : TypeId} {fuel : Nat} {a : Option Addr} {n c : Nat} {x : DataW H × List MemPlace} (hR : RdTy P e C) (hpos : 0 < C.size) (ht : P.underlying t = some (.slice e)) (h : DataW.trod enc P w base spare held fuel t [.slice a n c] = some x) :
    ∃ xs : List T, RowIn (zAll w) C ⟨a, n, c⟩ xs := by
  obtain ⟨xs, h1, _⟩ := rd_slice (Good := fun _ => True) ht hR.1 hpos (fun h => let ⟨v, hv⟩ := hR.2 h; ⟨v, hv, trivial⟩) h
  exact ⟨xs, h1⟩
end
end Go.Sx
namespace Go.Sx
section
variable {H : Type} {enc : TypeId × Value → H} {P : Program} {w : World} {base : Nat} {spare : Nat → Bool} {held : Bool}
/-- A field of a struct. -/
theorem rd_field {T : Type} {C : Codec T} {n k : Nat} {f : Field} {fs : Array Field} {cs : List Value} {xs : List (DataW H × List MemPlace)} (hf : ∀ (i : Nat) (f : Field), fs[i]? = some f → DataW.trod enc P w base spare held n f.type ((cs.drop f.offset).take (P.cellsOf f.type)) = xs[i]?) (hl : xs.length = fs.size)
    (hk : fs[k]? = some f) (hR : RdTy P f.type C) : ∃ v : T, (cs.drop f.offset).take C.size = C.enc v := by
  have h1 := hf k f hk
  have hkl : k < xs.length := by rw [hl]; exact (Array.getElem?_eq_some_iff.1 hk).1
  rw [List.getElem?_eq_getElem hkl, hR.1] at h1
  exact hR.2 h1
end
theorem list2 {T : Type} {l : List T} (h : l.length = 2) : ∃ a b, l = [a, b] := by
  match l, h with
  | [a, b], _ => exact ⟨a, b, rfl⟩
theorem list3 {T : Type} {l : List T} (h : l.length = 3) : ∃ a b c, l = [a, b, c] := by
  match l, h with
  | [a, b, c], _ => exact ⟨a, b, c, rfl⟩
end Go.Sx

set_option linter.unusedVariables false
namespace Go.Proofs.Ytbanmblbgoajdaa.GrovePartsRow
open Go.ChangeShapes Go.WideShapes Go.ChangeAt Go.RowKit Go.Sx Go.Deep
theorem own : ownKnob Try.prog.godebug = none := by kernel_rfl
theorem laidOut : laidOutB Try.prog = true := by kernel_rfl
theorem rdInt : RdTy Try.prog 3 intCd := RdTy.int (by kernel_rfl) (by kernel_rfl)
theorem rdAct : RdTy Try.prog 41 actCd := ⟨by kernel_rfl, fun {H enc w base spare held n cs x} h => by
  obtain ⟨xs, m, _, _, hlen, hxl, hf⟩ := DataW.trod_struct (fs := #[⟨"Kind", 3, 0, false, "", "", 0⟩, ⟨"K", 3, 1, false, "", "", 8⟩, ⟨"W", 3, 2, false, "", "", 16⟩]) (by kernel_rfl) h
  have hl3 : cs.length = 3 := by rw [hlen]; kernel_rfl
  obtain ⟨z0, h0⟩ := rd_field (k := 0) (f := ⟨"Kind", 3, 0, false, "", "", 0⟩) hf hxl rfl rdInt
  obtain ⟨z1, h1⟩ := rd_field (k := 1) (f := ⟨"K", 3, 1, false, "", "", 8⟩) hf hxl rfl rdInt
  obtain ⟨z2, h2⟩ := rd_field (k := 2) (f := ⟨"W", 3, 2, false, "", "", 16⟩) hf hxl rfl rdInt
  clear hf hlen h hxl
  obtain ⟨c0, c1, c2, rfl⟩ := list3 hl3
  have e0 : c0 = iV z0 := by simpa [intCd] using h0
  have e1 : c1 = iV z1 := by simpa [intCd] using h1
  have e2 : c2 = iV z2 := by simpa [intCd] using h2
  exact ⟨⟨z0, z1, z2⟩, by rw [e0, e1, e2]; rfl⟩⟩
set_option maxRecDepth 100000 in
theorem lifted (os : Os) (started : os.Started) (H : Type) (enc : TypeId × Value → H) :
    ReturnsInHanded {} Try.checked os 5 .any (Rows.grovePartsSpec.pre6 enc Try.prog Try.f5 Rows.grovePartsRow.domain false) (Rows.grovePartsSpec.post enc Try.prog Try.f5 false true false false) := by
  refine returnsInHanded_of_change_sized (C := Try.checked) own started (by kernel_rfl) Try.func5
    (ChangeSpec.witness6 (enc := enc) (C := Try.checked) false ⟨#[], #[.slice none 0 0, .int .i64 0, .slice none 0 0], []⟩ 8 (by kernel_rfl) (by kernel_rfl) (by kernel_rfl) (by kernel_rfl)) ?_
  intro W base args ds gs before hval0 hW hcnd hsz0 _
  have hval : ∀ (j : Nat) t v, Try.f5.params[j]? = some t → args[j]? = some v → Value.okWide Try.prog W .any base t v := hval0
  have hW' := hW
  obtain ⟨p, q, hA0, hV, rfl, hfz, hnd⟩ := hW
  have hA : DataW.TrodAll enc Try.prog W 0 (fun _ => true) true Try.f5.params.toList args.toList ds p := hA0
  rw [Try.params5] at hA hval
  obtain ⟨v0, vs0, d0, ds0, p0, q0, hargs, rfl, rfl, h0, r0⟩ := trodAll_cons hA
  obtain ⟨v1, vs1, d1, ds1, p1, q1, rfl, rfl, rfl, h1, r1⟩ := trodAll_cons r0
  obtain ⟨v2, vs2, d2, ds2, p2, q2, rfl, rfl, rfl, h2, r2⟩ := trodAll_cons r1
  obtain ⟨rfl, rfl, rfl⟩ := trodAll_nil r2
  obtain rfl : args = #[v0, v1, v2] := by cases args; simp_all
  obtain ⟨rfl, rfl⟩ := trodVars_none hV
  obtain ⟨a0, len0, cap0, rfl⟩ := okWide_slice Try.underlying32 (hval 0 32 v0 rfl rfl)
  obtain ⟨a2, len2, cap2, rfl⟩ := okWide_slice Try.underlying32 (hval 2 32 v2 rfl rfl)
  have k0 := h0
  have k2 := h2
  have lt0 : ∀ x ∈ p0, x.block < W.heap.size := by obtain ⟨m, hm⟩ := k0; exact DataW.trod_lt m _ _ _ hm
  have lt2 : ∀ x ∈ p2, x.block < W.heap.size := by obtain ⟨m, hm⟩ := k2; exact DataW.trod_lt m _ _ _ hm
  obtain ⟨xs, hxs⟩ : ∃ xs : List ActE, RowIn (zAll W) actCd ⟨a0, len0, cap0⟩ xs := by
    obtain ⟨fuel, hf⟩ := h0
    exact RdTy.row rdAct (by decide) Try.underlying32 hf
  obtain ⟨ys, hys⟩ : ∃ xs : List ActE, RowIn (zAll W) actCd ⟨a2, len2, cap2⟩ xs := by
    obtain ⟨fuel, hf⟩ := h2
    exact RdTy.row rdAct (by decide) Try.underlying32 hf
  obtain ⟨a1, rfl, rfl, rfl, w1⟩ := open_int Try.underlying3 (hval 1 3 v1 rfl rfl) h1
  clear hA0 hval0 hsz0
  refine (law_calls (z := zAll W) (parts7_s (k := a1) hxs hys)).mono fun e W' ⟨he, bel⟩ => ?_
  subst he
  exact ⟨_, rfl, _, _, _, [], _, [], hW', trodAll_mk1 (shut_bool Try.underlying4 _), (trodAll_cons_mk (Below.trod laidOut (by kernel_rfl) (of_decide_eq_true (by kernel_rfl)) k0 bel lt0) (trodAll_cons_mk (shut_int Try.underlying3 w1) (trodAll_cons_mk (Below.trod laidOut (by kernel_rfl) (of_decide_eq_true (by kernel_rfl)) k2 bel lt2) trodAll_mk0))), rfl, bel.frame _, fun h => by cases h⟩
theorem over : Rows.grovePartsRow.holds Try.pinned (OpenSpec.ofChange Rows.grovePartsSpec) :=
  OpenClaim.holds_of_wide 5 Try.f5 rfl rfl rfl rfl rfl rfl rfl ⟨rfl, rfl, rfl, rfl, rfl⟩ rfl rfl rfl rfl rfl (by kernel_rfl) Try.func5 (by kernel_rfl)
    (of_decide_eq_true (by kernel_rfl)) (by unfold Func.isWrapper; first | (rw [if_pos (by decide +kernel)]; kernel_rfl) | (rw [if_neg (by decide +kernel)]; exact ⟨rfl, rfl⟩))
    (fun os started H enc _ => lifted os started H enc)
theorem proved : Rows.GrovePartsSaid := over
#print axioms proved
end Go.Proofs.Ytbanmblbgoajdaa.GrovePartsRow
