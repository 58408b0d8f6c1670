import Derived.Below
import Derived.Calls
import Derived.Orders
import Derived.Laws.World
import Derived.Deep.MidRow
import Derived.Laws.CopyRow
import Derived.Deep.LoopGhost
import Derived.Maps.AppendAt
import Derived.Deep.AppendLies
import Derived.Laws.Slices
namespace Go.Sx
open Go.RowKit

/-! ### What a slot holds -/
inductive SV where
  | any
  | v (x : Value)
  | lit (b : Bool)
  | box (ty : TypeId) (cells : List Value)
  | loc (j off : Nat)
  | row (ty : TypeId) (len : Nat) (cells : List Value)

structure Enc where
  T : Type
  enc : T → Value

structure LHint where
  slots : List Nat
  L : Type
  emb : L → List SV

inductive Tree : Type 1 where
  | ret (v : Value)
  | ite (b : Bool) (t e : Tree)
  | call (f : FuncId) (args : Array Value) (keep : List Nat) (H : Enc) (k : H.T → Tree)
  | prim (m : Sem Value) (keep : List Nat) (H : Enc) (k : H.T → Tree)
  | primU (m : Sem Unit) (keep : List Nat) (k : Tree)
  | append (tys : Array TypeId) (ty : TypeId) (x : Value) (e : TypeId) (len : Nat) (cells : List Value) (keep : List Nat) (H : Enc) (k : H.T → Tree)
  | loadS (d : Nat) (m : Sem Value) (H : Enc) (k : H.T → Tree)
  | endS (k : Tree)
  | loop (init : List SV) (L : Type) (emb : L → List SV) (body : L → Tree)
  | again (d : Nat) (vals : List SV)
  | stuck

/-! ### Frames -/
abbrev BS := Nat → Prop

structure Ag (B : Nat) (S : BS) (w w' : World) : Prop where
  os : w'.os = w.os
  tape : w'.tape = w.tape
  output : w'.output = w.output
  size : w.heap.size ≤ w'.heap.size
  block : ∀ b, (b < B ∨ S b) → w'.heap[b]? = w.heap[b]?

theorem Ag.refl (B : Nat) (S : BS) (w : World) : Ag B S w w := ⟨rfl, rfl, rfl, Nat.le_refl _, fun _ _ => rfl⟩
theorem Ag.trans {B : Nat} {S : BS} {a b c : World} (h : Ag B S a b) (k : Ag B S b c) : Ag B S a c :=
  ⟨k.os.trans h.os, k.tape.trans h.tape, k.output.trans h.output, Nat.le_trans h.size k.size, fun i hi => (k.block i hi).trans (h.block i hi)⟩

/-- Only blocks of S, and new ones, have turned. -/
structure Fr (S : BS) (w w' : World) : Prop where
  os : w'.os = w.os
  tape : w'.tape = w.tape
  output : w'.output = w.output
  size : w.heap.size ≤ w'.heap.size
  block : ∀ b, b < w.heap.size → ¬ S b → w'.heap[b]? = w.heap[b]?

theorem Fr.refl (S : BS) (w : World) : Fr S w w := ⟨rfl, rfl, rfl, Nat.le_refl _, fun _ _ _ => rfl⟩

/-- A step: what was owned (S), what is owned behind it (S1). -/
structure Step (S : BS) (w : World) (S1 : BS) (w1 : World) : Prop where
  fr : Fr S w w1
  new : ∀ b, S1 b → S b ∨ w.heap.size ≤ b
  lt : ∀ b, S1 b → b < w1.heap.size

theorem Step.refl {S : BS} {w : World} (h : ∀ b, S b → b < w.heap.size) : Step S w S w := ⟨Fr.refl S w, fun _ h => .inl h, h⟩
theorem Step.trans {S S1 S2 : BS} {w w1 w2 : World} (h : Step S w S1 w1) (k : Step S1 w1 S2 w2) : Step S w S2 w2 := by
  refine ⟨⟨k.fr.os.trans h.fr.os, k.fr.tape.trans h.fr.tape, k.fr.output.trans h.fr.output, Nat.le_trans h.fr.size k.fr.size, fun b hb hs => ?_⟩, fun b hb => ?_, k.lt⟩
  · rw [k.fr.block b (Nat.lt_of_lt_of_le hb h.fr.size) (fun h1 => ?_), h.fr.block b hb hs]
    rcases h.new b h1 with h2 | h2
    · exact hs h2
    · omega
  · rcases k.new b hb with h1 | h1
    · exact h.new b h1
    · exact .inr (Nat.le_trans h.fr.size h1)
theorem Step.of_below {S : BS} {w w1 : World} (hS : ∀ b, S b → b < w.heap.size) (h : Below w.heap.size w w1) : Step S w S w1 :=
  ⟨⟨h.os, h.tape, h.output, h.size, fun b hb _ => h.block b hb⟩, fun _ h => .inl h, fun b hb => Nat.lt_of_lt_of_le (hS b hb) h.size⟩

theorem Ag.of_below {B : Nat} {S : BS} {w w1 : World} (hB : B ≤ w.heap.size) (hS : ∀ b, S b → b < w.heap.size) (h : Below w.heap.size w w1) : Ag B S w w1 :=
  ⟨h.os, h.tape, h.output, h.size, fun b hb => h.block b (by rcases hb with hb | hb; exact Nat.lt_of_lt_of_le hb hB; exact hS b hb)⟩

/-! ### What a tree means -/
def callB (P : Program) (f : FuncId) : Bool :=
  match P.funcs[f]? with
  | some fn => fn.name != "runtime.NumGoroutine" && fn.body.isSome
  | none => false

def Stab (P : Program) (B : Nat) (S : BS) (w : World) (m : Sem Value) (v : Value) : Prop := ∀ w', Ag B S w w' → m.run P w' = .ok v w'

theorem Stab.ag {P : Program} {B : Nat} {S : BS} {w w' : World} {m : Sem Value} {v : Value} (h : Stab P B S w m v) (hag : Ag B S w w') : Stab P B S w' m v :=
  fun w2 h2 => h w2 (hag.trans h2)

abbrev Lam := Nat → Sem Value → Value → Prop
def Lam.none : Lam := fun _ _ _ => False
def Lam.add (Λ : Lam) (d : Nat) (m : Sem Value) (v : Value) : Lam := fun d' m' v' => Λ d' m' v' ∨ (d' = d ∧ m' = m ∧ v' = v)
def Lam.cut (Λ : Lam) (keep : List Nat) : Lam := fun d m v => Λ d m v ∧ d ∈ keep
def Lam.ok (P : Program) (B : Nat) (Λ : Lam) (S : BS) (w : World) : Prop := ∀ d m v, Λ d m v → Stab P B S w m v

/-- A loop's word: what holds at its head. -/
abbrev Again := List SV → BS → World → Prop

def TT (P : Program) (B : Nat) (R : Value → BS → World → Prop) : Tree → List Again → Lam → BS → World → Prop
  | .ret v, _, _, S, w => ∀ w', Ag B S w w' → R v S w'
  | .ite b t e, Γ, Λ, S, w => (b = true → TT P B R t Γ Λ S w) ∧ (b = false → TT P B R e Γ Λ S w)
  | .call f args keep H k, Γ, Λ, S, w => callB P f = true ∧ ∀ w', Ag B S w w' → Calls P f args w' fun e w1 =>
      ∃ x S1, e = .returned (H.enc x) ∧ Step S w' S1 w1 ∧ (Λ.cut keep).ok P B S1 w1 ∧ TT P B R (k x) Γ (Λ.cut keep) S1 w1
  | .prim m keep H k, Γ, Λ, S, w => ∀ w', Ag B S w w' → ∃ x S1 w1, m.run P w' = .ok (H.enc x) w1 ∧ Step S w' S1 w1 ∧ (Λ.cut keep).ok P B S1 w1 ∧ TT P B R (k x) Γ (Λ.cut keep) S1 w1
  | .primU m keep k, Γ, Λ, S, w => ∀ w', Ag B S w w' → ∃ S1 w1, m.run P w' = .ok () w1 ∧ Step S w' S1 w1 ∧ (Λ.cut keep).ok P B S1 w1 ∧ TT P B R k Γ (Λ.cut keep) S1 w1
  | .append tys ty x e n cells keep H k, Γ, Λ, S, w => ∀ w', Ag B S w w' → ∀ b, ¬ S b → B ≤ b → w'.heap[b]? = some (.cells cells.toArray e (0, 0)) →
      ∃ y S1 w1, (Builtin.append_ tys ty #[x, .slice (some ⟨b, 0, none⟩) n n]).run P w' = .ok (H.enc y) w1 ∧ Step S w' S1 w1 ∧ (Λ.cut keep).ok P B S1 w1 ∧ TT P B R (k y) Γ (Λ.cut keep) S1 w1
  | .loadS d m H k, Γ, Λ, S, w => ∃ x, Stab P B S w m (H.enc x) ∧ TT P B R (k x) Γ (Λ.add d m (H.enc x)) S w
  | .endS k, Γ, _, S, w => TT P B R k Γ Lam.none S w
  | .loop init L emb body, Γ, _, S, w => ∃ (Inv : L → BS → World → Prop) (μ : L → BS → World → Nat),
      (∀ l S w w', Inv l S w → Ag B S w w' → Inv l S w' ∧ μ l S w' = μ l S w) ∧
      (∃ l, init = emb l ∧ Inv l S w) ∧
      ∀ l S1 w1, Inv l S1 w1 → (∀ b, S1 b → b < w1.heap.size) → TT P B R (body l) ((fun vals S2 w2 => ∃ l', vals = emb l' ∧ Inv l' S2 w2 ∧ μ l' S2 w2 < μ l S1 w1) :: Γ) Lam.none S1 w1
  | .again d vals, Γ, _, S, w => ∃ A, Γ[d]? = some A ∧ A vals S w
  | .stuck, _, _, _, _ => False

def ClosedΓ (B : Nat) (Γ : List Again) : Prop := ∀ A ∈ Γ, ∀ vals S w w', A vals S w → Ag B S w w' → A vals S w'

theorem TT_ag {P : Program} {B : Nat} {R : Value → BS → World → Prop} : ∀ (T : Tree) {Γ : List Again} {Λ : Lam} {S : BS} {w w' : World},
    ClosedΓ B Γ → Ag B S w w' → TT P B R T Γ Λ S w → TT P B R T Γ Λ S w' := by
  intro T
  induction T with
  | ret v => exact fun _ ha h w2 h2 => h w2 (ha.trans h2)
  | ite b t e iht ihe => exact fun hc ha h => ⟨fun hb => iht hc ha (h.1 hb), fun hb => ihe hc ha (h.2 hb)⟩
  | call f args keep H k ih => exact fun _ ha h => ⟨h.1, fun w2 h2 => h.2 w2 (ha.trans h2)⟩
  | prim m keep H k ih => exact fun _ ha h w2 h2 => h w2 (ha.trans h2)
  | primU m keep k ih => exact fun _ ha h w2 h2 => h w2 (ha.trans h2)
  | append tys ty x e n cells keep H k ih => exact fun _ ha h w2 h2 => h w2 (ha.trans h2)
  | loadS d m H k ih => exact fun hc ha ⟨x, hs, h⟩ => ⟨x, hs.ag ha, ih x hc ha h⟩
  | endS k ih => exact fun hc ha h => ih hc ha h
  | loop init L emb body ih =>
    rintro Γ Λ S w w' hc ha ⟨Inv, μ, hcl, ⟨l, hl, hI⟩, h⟩
    exact ⟨Inv, μ, hcl, ⟨l, hl, (hcl l S w w' hI ha).1⟩, h⟩
  | again d vals => exact fun hc ha ⟨A, hA, h⟩ => ⟨A, hA, hc A (List.mem_of_getElem? hA) _ _ _ _ h ha⟩
  | stuck => exact fun _ _ h => h

/-- One tree serves for another. -/
def Rfn (P : Program) (B : Nat) (R : Value → BS → World → Prop) (T T' : Tree) : Prop := ∀ Γ Λ S w, TT P B R T Γ Λ S w → TT P B R T' Γ Λ S w

theorem Rfn.refl {P : Program} {B : Nat} {R : Value → BS → World → Prop} (T : Tree) : Rfn P B R T T := fun _ _ _ _ h => h
theorem Rfn.trans {P : Program} {B : Nat} {R : Value → BS → World → Prop} {T U V : Tree} (h : Rfn P B R T U) (k : Rfn P B R U V) : Rfn P B R T V := fun _ _ _ _ x => k _ _ _ _ (h _ _ _ _ x)

section
variable {P : Program} {B : Nat} {R : Value → BS → World → Prop}
theorem Rfn.ite {b : Bool} {t t' e e' : Tree} (h1 : Rfn P B R t t') (h2 : Rfn P B R e e') : Rfn P B R (.ite b t e) (.ite b t' e') :=
  fun _ _ _ _ h => ⟨fun hb => h1 _ _ _ _ (h.1 hb), fun hb => h2 _ _ _ _ (h.2 hb)⟩
theorem Rfn.call {f : FuncId} {args : Array Value} {keep : List Nat} {H : Enc} {k k' : H.T → Tree} (h : ∀ x, Rfn P B R (k x) (k' x)) : Rfn P B R (.call f args keep H k) (.call f args keep H k') :=
  fun _ _ _ _ hh => ⟨hh.1, fun w' ha => (hh.2 w' ha).mono fun _ _ ⟨x, S1, he, hs, ho, ht⟩ => ⟨x, S1, he, hs, ho, h x _ _ _ _ ht⟩⟩
theorem Rfn.prim {m : Sem Value} {keep : List Nat} {H : Enc} {k k' : H.T → Tree} (h : ∀ x, Rfn P B R (k x) (k' x)) : Rfn P B R (.prim m keep H k) (.prim m keep H k') :=
  fun _ _ _ _ hh w' ha => let ⟨x, S1, w1, he, hs, ho, ht⟩ := hh w' ha; ⟨x, S1, w1, he, hs, ho, h x _ _ _ _ ht⟩
theorem Rfn.primU {m : Sem Unit} {keep : List Nat} {k k' : Tree} (h : Rfn P B R k k') : Rfn P B R (.primU m keep k) (.primU m keep k') :=
  fun _ _ _ _ hh w' ha => let ⟨S1, w1, he, hs, ho, ht⟩ := hh w' ha; ⟨S1, w1, he, hs, ho, h _ _ _ _ ht⟩
theorem Rfn.append {tys : Array TypeId} {ty : TypeId} {x : Value} {e : TypeId} {n : Nat} {cells : List Value} {keep : List Nat} {H : Enc} {k k' : H.T → Tree} (h : ∀ x, Rfn P B R (k x) (k' x)) :
    Rfn P B R (.append tys ty x e n cells keep H k) (.append tys ty x e n cells keep H k') :=
  fun _ _ _ _ hh w' ha b h1 h2 h3 => let ⟨y, S1, w1, he, hs, ho, ht⟩ := hh w' ha b h1 h2 h3; ⟨y, S1, w1, he, hs, ho, h y _ _ _ _ ht⟩
theorem Rfn.loadS {d : Nat} {m : Sem Value} {H : Enc} {k k' : H.T → Tree} (h : ∀ x, Rfn P B R (k x) (k' x)) : Rfn P B R (.loadS d m H k) (.loadS d m H k') :=
  fun _ _ _ _ ⟨x, hs, ht⟩ => ⟨x, hs, h x _ _ _ _ ht⟩

theorem Lam.ok_cut_add {Λ : Lam} {d : Nat} {m : Sem Value} {v : Value} {keep : List Nat} {S : BS} {w : World} (h : ((Λ.add d m v).cut keep).ok P B S w) (hd : d ∈ keep) :
    (Λ.cut keep).ok P B S w ∧ Stab P B S w m v :=
  ⟨fun d' m' v' hh => h d' m' v' ⟨.inl hh.1, hh.2⟩, h d m v ⟨.inr ⟨rfl, rfl, rfl⟩, hd⟩⟩
theorem Lam.cut_add {Λ : Lam} {d : Nat} {m : Sem Value} {v : Value} {keep : List Nat} (hd : d ∈ keep) : (Λ.add d m v).cut keep = (Λ.cut keep).add d m v := by
  funext d' m' v'
  simp only [Lam.cut, Lam.add, eq_iff_iff]
  constructor
  · rintro ⟨h | h, hk⟩
    · exact .inl ⟨h, hk⟩
    · exact .inr h
  · rintro (h | h)
    · exact ⟨.inl h.1, h.2⟩
    · exact ⟨.inr h, by rw [h.1]; exact hd⟩

/-! A load that may come later does so. -/
theorem delay_call {d : Nat} {m : Sem Value} {H H' : Enc} {f : FuncId} {args : Array Value} {keep : List Nat} (hd : d ∈ keep) (k : H.T → H'.T → Tree) :
    Rfn P B R (.loadS d m H fun x => .call f args keep H' fun y => k x y) (.call f args keep H' fun y => .loadS d m H fun x => k x y) := by
  rintro Γ Λ S w ⟨x, hs, hb, h⟩
  refine ⟨hb, fun w' ha => (h w' ha).mono fun e w1 ⟨y, S1, he, hst, ho, ht⟩ => ?_⟩
  have := Lam.ok_cut_add ho hd
  exact ⟨y, S1, he, hst, this.1, x, this.2, by rw [← Lam.cut_add hd]; exact ht⟩
theorem delay_prim {d : Nat} {m : Sem Value} {H H' : Enc} {m' : Sem Value} {keep : List Nat} (hd : d ∈ keep) (k : H.T → H'.T → Tree) :
    Rfn P B R (.loadS d m H fun x => .prim m' keep H' fun y => k x y) (.prim m' keep H' fun y => .loadS d m H fun x => k x y) := by
  rintro Γ Λ S w ⟨x, hs, h⟩
  intro w' ha
  obtain ⟨y, S1, w1, he, hst, ho, ht⟩ := h w' ha
  have := Lam.ok_cut_add ho hd
  exact ⟨y, S1, w1, he, hst, this.1, x, this.2, by rw [← Lam.cut_add hd]; exact ht⟩
theorem delay_primU {d : Nat} {m : Sem Value} {H : Enc} {m' : Sem Unit} {keep : List Nat} (hd : d ∈ keep) (k : H.T → Tree) :
    Rfn P B R (.loadS d m H fun x => .primU m' keep (k x)) (.primU m' keep (.loadS d m H fun x => k x)) := by
  rintro Γ Λ S w ⟨x, hs, h⟩
  intro w' ha
  obtain ⟨S1, w1, he, hst, ho, ht⟩ := h w' ha
  have := Lam.ok_cut_add ho hd
  exact ⟨S1, w1, he, hst, this.1, x, this.2, by rw [← Lam.cut_add hd]; exact ht⟩
theorem delay_append {d : Nat} {m : Sem Value} {H H' : Enc} {tys : Array TypeId} {ty : TypeId} {v : Value} {e : TypeId} {n : Nat} {cells : List Value} {keep : List Nat} (hd : d ∈ keep) (k : H.T → H'.T → Tree) :
    Rfn P B R (.loadS d m H fun x => .append tys ty v e n cells keep H' fun y => k x y) (.append tys ty v e n cells keep H' fun y => .loadS d m H fun x => k x y) := by
  rintro Γ Λ S w ⟨x, hs, h⟩
  intro w' ha b h1 h2 h3
  obtain ⟨y, S1, w1, he, hst, ho, ht⟩ := h w' ha b h1 h2 h3
  have := Lam.ok_cut_add ho hd
  exact ⟨y, S1, w1, he, hst, this.1, x, this.2, by rw [← Lam.cut_add hd]; exact ht⟩
theorem delay_ite {d : Nat} {m : Sem Value} {H : Enc} {b : Bool} (k k' : H.T → Tree) :
    Rfn P B R (.loadS d m H fun x => .ite b (k x) (k' x)) (.ite b (.loadS d m H k) (.loadS d m H k')) := by
  rintro Γ Λ S w ⟨x, hs, h1, h2⟩
  exact ⟨fun hb => ⟨x, hs, h1 hb⟩, fun hb => ⟨x, hs, h2 hb⟩⟩
theorem swap_loadS {d d' : Nat} {m m' : Sem Value} {H H' : Enc} (k : H.T → H'.T → Tree) :
    Rfn P B R (.loadS d m H fun x => .loadS d' m' H' fun y => k x y) (.loadS d' m' H' fun y => .loadS d m H fun x => k x y) := by
  rintro Γ Λ S w ⟨x, hs, y, hs', ht⟩
  refine ⟨y, hs', x, hs, ?_⟩
  have : (Λ.add d m (H.enc x)).add d' m' (H'.enc y) = (Λ.add d' m' (H'.enc y)).add d m (H.enc x) := by
    funext a b c
    simp only [Lam.add, eq_iff_iff]
    constructor
    · rintro ((h | h) | h)
      · exact .inl (.inl h)
      · exact .inr h
      · exact .inl (.inr h)
    · rintro ((h | h) | h)
      · exact .inl (.inl h)
      · exact .inr h
      · exact .inl (.inr h)
  rw [← this]; exact ht
end
end Go.Sx

namespace Go.Sx
open Go.RowKit

/-- How a result is read: its type, its value, and the cases in which it is handed on. -/
structure Hint : Type 2 where
  E : Enc
  cs : {β : Type 1} → E.T → (SV → β) → β
  law : ∀ {β : Type 1} (x : E.T) (K : SV → β), cs x K = K (.v (E.enc x))

def Hint.of (T : Type) (enc : T → Value) : Hint := ⟨⟨T, enc⟩, fun x K => K (.v (enc x)), fun _ _ => rfl⟩
def optCase {T : Type} {β : Type 1} (x : Option T) (n : β) (s : T → β) : β :=
  match x with
  | none => n
  | some a => s a
/-- A pointer that may be nil: both cases apart. -/
def Hint.opt (T : Type) (enc : T → Addr) : Hint :=
  ⟨⟨Option T, fun x => .pointer (x.map enc)⟩, fun x K => optCase x (K (.v (.pointer none))) fun a => K (.v (.pointer (some (enc a)))), fun x _ => by cases x <;> rfl⟩

def hAddr : Hint := Hint.of Addr fun a => .pointer (some a)
def hBlk : Hint := Hint.of Nat fun b => .pointer (some ⟨b, 0, none⟩)

structure Cfg : Type 2 where
  P : Program
  hint : TypeId → Option Hint
  res : FuncId → Option Hint
  pure : FuncId → Option (List Value → Option Value)
  meth : TypeId → String → Option FuncId
  /-- What a function makes of a row that is written out ahead of it, its cells alone. -/
  pureR : FuncId → Option (TypeId → Nat → List Value → Option Value) := fun _ => none

/-- What belongs to one function: slots whose memory is handed out; its loops' words, by the number of the block around each. -/
structure Fc where
  esc : List Nat := []
  lh : List (Nat × LHint) := []

def pureRun {α : Type} (P : Program) : Sem α → Option α
  | .pure a => some a
  | .program k => pureRun P (k P)
  | _ => none

theorem pureRun_run {α : Type} {P : Program} : ∀ (m : Sem α) (a : α), pureRun P m = some a → ∀ w, m.run P w = .ok a w := by
  intro m
  induction m with
  | pure a => intro b h w; simp only [pureRun, Option.some.injEq] at h; subst h; rfl
  | program k ih => intro b h w; exact ih P b h w
  | _ => intro b h; simp [pureRun] at h

def svO (s : List SV) : Operand → SV
  | .tmp t => match s[t]? with
    | some (.box _ _) => .loc t 0
    | some (.row _ _ _) => .any
    | some x => x
    | none => .any
  | .const (.bool b) => .lit b
  | .const v => .v v
  | .global g => .v (.pointer (some ⟨g, 0, none⟩))
  | .func f => .v (.func (.func f) #[] #[])

def plain : SV → Option Value
  | .v x => some x
  | .lit b => some (.bool b)
  | _ => none

def plains (s : List SV) (xs : List Operand) : Option (List Value) := xs.mapM fun x => plain (svO s x)

inductive Out : Type 2 where
  | upd (d : Nat) (v : SV)
  | nop
  | scrub (d : Nat) (v : SV)
  | split (d : Nat) (b : Bool)
  | pcall (f : FuncId) (args : List Value) (v : Value)
  | call (f : FuncId) (args : List Value) (H : Hint)
  | prim (m : Sem Value) (H : Hint)
  | primU (m : Sem Unit)
  | append (tys : Array TypeId) (ty : TypeId) (x : Value) (e : TypeId) (n : Nat) (cells : List Value) (H : Hint)
  | loadS (m : Sem Value) (H : Hint)

def isBox : SV → Bool
  | .box _ _ | .row _ _ _ => true
  | _ => false

def isAggT (P : Program) (t : TypeId) : Option Bool :=
  match P.underlying t with
  | some (.struct _) | some (.array _ _) => some true
  | some _ => some false
  | none => none

def isIntT (P : Program) (t : TypeId) : Bool :=
  match P.underlying t with
  | some (.int _) => true
  | _ => false
def isScalT (P : Program) (t : TypeId) : Bool :=
  match P.underlying t with
  | some (.int _) | some .bool | some .string => true
  | _ => false
def isPtrT (P : Program) (t : TypeId) : Bool :=
  match P.underlying t with
  | some (.pointer _) => true
  | _ => false
def isMapT (P : Program) (t : TypeId) : Bool :=
  match P.underlying t with
  | some (.map _ _) => true
  | _ => false
def isNilC : Operand → Bool
  | .const (.pointer none) => true
  | _ => false
def isConstO : Operand → Bool
  | .const _ => true
  | _ => false

def opOk (op : BinOp) (y : Operand) : Bool := match op with
  | .quo | .rem | .shl | .shr => isConstO y
  | _ => true

def sizeT (P : Program) (t : TypeId) : Option Nat := (P.info? t).map (·.size)
def zeroT (P : Program) (t : TypeId) : Option Value := (P.info? t).bind (·.zero)

/-- The operation done on plain values alone. -/
def runPure (P : Program) (s : List SV) (o : Oper) : Option Value :=
  match plains s o.op.operands.toList with
  | none => none
  | some _ => match pureRun P (execOp (fun x => (plain (svO s x)).getD undef) o) with
    | some (.value v) => some v
    | _ => none

def mkUpd (dst : Option Nat) (v : SV) : Out := match dst with
  | some d => .upd d v
  | none => .nop

/-- What only looks: in a region of open order it may come later. -/
def rd (drawn : Bool) (m : Sem Value) (H : Hint) : Out := if drawn then .loadS m H else .prim m H

def goCall (c : Cfg) (f : FuncId) (args : List Value) : Option Out :=
  match c.pure f with
  | some g => (g args).map (.pcall f args)
  | none => (c.res f).map (.call f args)

/-- The cells of a slice that is written out. -/
def rowCells (P : Program) (t : TypeId) (len : Nat) (parts : List (Nat × Value)) : Option (Array Value × TypeId) :=
  match P.underlying t with
  | some (.slice e) => match sizeT P e with
    | some size => if Nat.ble (len * size) (2 ^ 24) then
        match (if Nat.beq (len * size) 0 then some #[] else (zeroT P e).map Value.cells) with
        | some zero => match Instr.fill (fun i => some (i * size, size)) ((Array.range (len * size)).map (zero[· % zero.size]!)) parts with
          | some cells => some (cells, e)
          | none => none
        | none => none
      else none
    | none => none
  | _ => none

/-- A call with a row that was written out: by its cells alone. -/
def rowCall (c : Cfg) (s : List SV) (fv : Value) (args : List Operand) : Option Out :=
  match fv with
  | .func (.func fid) first cap =>
    if first.toList.isEmpty && cap.toList.isEmpty then match args with
      | [.tmp t] => match s[t]? with
        | some (.row e n cells) => match c.pureR fid with
          | some g => (g e n cells).map (.pcall fid [])
          | none => none
        | _ => none
      | _ => none
    else none
  | _ => none

def callOut (c : Cfg) (drawn : Bool) (s : List SV) (o : Oper) (cl : Call) : Option Out :=
  match cl.callee with
  | .builtin .len => if isMapT c.P (cl.argTypes.getD 0 0) then (match plains s cl.args.toList with
        | some xs => (c.hint o.type).map (rd drawn (Builtin.len_ cl.argTypes o.type xs.toArray))
        | none => none)
      else (runPure c.P s o).map fun v => mkUpd o.dst (.v v)
  | .builtin .append => match cl.args.toList with
    | [x, y] => match plain (svO s x) with
      | none => none
      | some xv =>
        match (match y with | .tmp t => s[t]? | _ => none) with
        | some (.row e n cells) => (c.hint o.type).map (.append cl.argTypes o.type xv e n cells)
        | _ => match plain (svO s y) with
          | some yv => (c.hint o.type).map (.prim (Builtin.append_ cl.argTypes o.type #[xv, yv]))
          | none => none
    | _ => none
  | .builtin .min => match plains s cl.args.toList with
    | some xs => (c.hint o.type).map (rd drawn (Builtin.min_ cl.argTypes o.type xs.toArray))
    | none => none
  | .builtin .max => match plains s cl.args.toList with
    | some xs => (c.hint o.type).map (rd drawn (Builtin.max_ cl.argTypes o.type xs.toArray))
    | none => none
  | .builtin .copy => match plains s cl.args.toList with
    | some xs => (c.hint o.type).map (.prim (Builtin.copy_ cl.argTypes o.type xs.toArray))
    | none => none
  | .builtin .delete => match plains s cl.args.toList with
    | some xs => (c.hint o.type).map (.prim (Builtin.delete_ cl.argTypes o.type xs.toArray))
    | none => none
  | .builtin .clear => match plains s cl.args.toList with
    | some xs => (c.hint o.type).map (.prim (Builtin.clear_ cl.argTypes o.type xs.toArray))
    | none => none
  | .builtin _ => none
  | .value f => match plain (svO s f), plains s cl.args.toList with
    | some (.func (.func fid) first cap), some xs => goCall c fid (first.toList ++ xs ++ cap.toList)
    | some fv, none => rowCall c s fv cl.args.toList
    | _, _ => none
  | .invoke r name => match plain (svO s r), plains s cl.args.toList with
    | some (.iface t v), some xs => match c.meth t name with
      | some fid => goCall c fid (v :: xs)
      | none => none
    | _, _ => none

def splice (cells : List Value) (off : Nat) (vs : List Value) : List Value := cells.take off ++ vs ++ cells.drop (off + vs.length)

/-- What an operation comes to (its guard let by). root: the slot whose box it may look into. drawn: in a region of open order. -/
def mainOut (c : Cfg) (fc : Fc) (drawn : Bool) (root : Nat) (s : List SV) (o : Oper) : Option Out :=
  match o.op with
  | .box ty x => match o.dst, plain (svO s x) with
    | some d, some v =>
      if fc.esc.contains d then some (.prim (Instr.box ty v) hBlk)
      else match s[d]? with
        | some (.box _ _) => if drawn then none else some (.scrub d (.box ty v.cells.toList))
        | some (.row _ _ _) => none
        | some _ => some (.upd d (.box ty v.cells.toList))
        | none => none
    | _, _ => none
  | .alloc ty => match o.dst with
    | some d =>
      if fc.esc.contains d then some (.prim (Instr.alloc ty true (.tuple #[])) hBlk)
      else match zeroT c.P ty with
        | some z => match s[d]? with
          | some (.box _ _) => if drawn then none else some (.scrub d (.box ty z.cells.toList))
          | some (.row _ _ _) => none
          | some _ => some (.upd d (.box ty z.cells.toList))
          | none => none
        | none => none
    | none => none
  | .load t a => match svO s a with
    | .loc j off => if j == root then match s[j]? with
        | some (.box _ cells) => match isAggT c.P t, sizeT c.P t with
          | some true, some n => if off + n ≤ cells.length then some (mkUpd o.dst (.v (.agg ((cells.drop off).take n).toArray))) else none
          | some false, some 1 => match cells[off]? with
            | some v => some (mkUpd o.dst (.v v))
            | none => none
          | _, _ => none
        | _ => none
      else none
    | .v p => match c.hint t with
      | some H => some (rd drawn (Instr.loadAt t p) H)
      | none => none
    | _ => none
  | .store t a x => match svO s a, plain (svO s x) with
    | .loc j off, some v => if j == root then match s[j]? with
        | some (.box ty cells) =>
          if v.cells.size == (sizeT c.P t).getD 0 && (sizeT c.P t).isSome && Nat.ble (off + v.cells.size) cells.length && v.cells.all (·.oneCell') then some (.upd j (.box ty (splice cells off v.cells.toList))) else none
        | _ => none
      else none
    | .v p, some v => some (.primU (Instr.storeAt t p v))
    | _, _ => none
  | .fieldAddr st a f => match svO s a with
    | .loc j off => match c.P.underlying st with
      | some (.struct fs) => match fs[f]? with
        | some fd => match sizeT c.P fd.type with
          | some (_ + 1) => some (mkUpd o.dst (.loc j (off + fd.offset)))
          | _ => none
        | none => none
      | _ => none
    | .v _ => (runPure c.P s o).map fun v => mkUpd o.dst (.v v)
    | _ => none
  | .move x | .assign x => match svO s x with
    | .any => none
    | sv => some (mkUpd o.dst sv)
  | .nilCheck x => match svO s x with
    | .loc j off => some (mkUpd o.dst (.loc j off))
    | .v _ => (runPure c.P s o).map fun v => mkUpd o.dst (.v v)
    | _ => none
  | .pick x a b => match svO s x with
    | .lit true => match svO s a with
      | .any => none
      | sv => some (mkUpd o.dst sv)
    | .lit false => match svO s b with
      | .any => none
      | sv => some (mkUpd o.dst sv)
    | _ => none
  | .unOp .not _ x => match svO s x with
    | .lit b => some (mkUpd o.dst (.lit (match b with | true => false | false => true)))
    | _ => (runPure c.P s o).map fun v => mkUpd o.dst (.v v)
  | .binOp op t x y _ =>
    if isNilC y && isPtrT c.P t then
      match op, plain (svO s x) with
      | .eql, some (.pointer none) => some (mkUpd o.dst (.lit true))
      | .eql, some (.pointer (some _)) => some (mkUpd o.dst (.lit false))
      | .neq, some (.pointer none) => some (mkUpd o.dst (.lit false))
      | .neq, some (.pointer (some _)) => some (mkUpd o.dst (.lit true))
      | _, _ => none
    else if isScalT c.P t && opOk op y then (runPure c.P s o).map fun v => mkUpd o.dst (.v v)
    else match plain (svO s x), plain (svO s y) with
      | some a, some b => match c.hint o.type with
        | some H => some (rd drawn (do eqGuard op t x y a b; binOp op t a b) H)
        | none => none
      | _, _ => none
  | .convert a b x => if isIntT c.P a && isIntT c.P b then (runPure c.P s o).map fun v => mkUpd o.dst (.v v)
    else match plain (svO s x) with
      | some v => (c.hint o.type).map (.prim (convert a b v))
      | none => none
  | .makeMap t none => (c.hint o.type).map (.prim (Instr.makeMap t none))
  | .makeSlice t l n => match plain (svO s l), plain (svO s n) with
    | some a, some b => (c.hint o.type).map (.prim (Instr.makeSlice t a b))
    | _, _ => none
  | .slice t x lo hi none => match plain (svO s x), (match lo with | none => some none | some l => (plain (svO s l)).map some), (match hi with | none => some none | some l => (plain (svO s l)).map some) with
    | some v, some a, some b => (c.hint o.type).map (rd drawn (Instr.sliceAt t v a b none))
    | _, _, _ => none
  | .indexAddr t x i => match plain (svO s x), plain (svO s i) with
    | some a, some b => some (rd drawn (Instr.indexAt t a b) hAddr)
    | _, _ => none
  | .index t x i => match plain (svO s x), plain (svO s i) with
    | some a, some b => (c.hint o.type).map (rd drawn (Instr.index t a b))
    | _, _ => none
  | .lookup t x i ok => match plain (svO s x), plain (svO s i) with
    | some a, some b => (c.hint o.type).map (rd drawn (Instr.lookup t a b ok))
    | _, _ => none
  | .mapUpdate t m k x | .insert t m k x => match plain (svO s m), plain (svO s k), plain (svO s x) with
    | some a, some b, some v => some (.primU (Instr.mapUpdate t a b v))
    | _, _, _ => none
  | .buildSlice t len parts => match o.dst, plains s (parts.toList.map (·.2)) with
    | some d, some _ =>
      if fc.esc.contains d then (c.hint o.type).map (.prim (Instr.buildSlice t len (parts.map fun p => (p.1, (plain (svO s p.2)).getD undef))))
      else match rowCells c.P t len (parts.map fun p => (p.1, (plain (svO s p.2)).getD undef)).toList with
        | some (cs, e) => match s[d]? with
          | some sv => if isBox sv then none else some (.upd d (.row e len cs.toList))
          | none => none
        | none => none
    | _, _ => none
  | .call cl => callOut c drawn s o cl
  | .build _ _ | .makeInterface _ _ | .extract _ _ | .field _ _ _ | .makeFunc _ _ _ | .unOp _ _ _ => (runPure c.P s o).map fun v => mkUpd o.dst (.v v)
  | _ => none

/-! ### What an operation looks at, and writes -/
def tmpsOf (xs : List Operand) : List Nat := xs.filterMap fun | .tmp t => some t | _ => none
def dstOf (ops : Array Oper) (j : Nat) : Option Nat := (ops[j]?).bind (·.dst)
def wOf (root : Nat) (o : Oper) : List Nat :=
  (match o.dst with | some d => [d] | none => []) ++ (match o.op with | .store _ _ _ => [root] | _ => [])
def rOf (ops : Array Oper) (root : Nat) (o : Oper) : List Nat :=
  (tmpsOf o.op.operands.toList ++ wOf root o) ++ ((match o.op with | .load _ _ | .store _ _ _ => [root] | _ => []) ++ (match o.guard with | some (j, _) => (dstOf ops j).toList | none => []))

def imap (f : Nat → SV → SV) : Nat → List SV → List SV
  | _, [] => []
  | i, x :: l => f i x :: imap f (i + 1) l
theorem imap_get (f : Nat → SV → SV) : ∀ (s : List SV) (i t : Nat), (imap f i s)[t]? = (s[t]?).map (f (i + t))
  | [], i, t => by simp [imap]
  | x :: l, i, 0 => by simp [imap]
  | x :: l, i, t + 1 => by rw [imap, List.getElem?_cons_succ, List.getElem?_cons_succ, imap_get f l (i + 1) t, show i + 1 + t = i + (t + 1) by omega]
theorem imap_len (f : Nat → SV → SV) : ∀ (s : List SV) (i : Nat), (imap f i s).length = s.length
  | [], i => rfl
  | x :: l, i => by rw [imap, List.length_cons, List.length_cons, imap_len f l]
def mask (r : List Nat) (s : List SV) : List SV := imap (fun i x => if r.contains i then x else .any) 0 s

/-- The result's slot may be written: it is none that holds a box. -/
def dstOk (s : List SV) (o : Oper) : Bool :=
  match o.dst with
  | none => true
  | some d => match s[d]? with
    | some sv => !isBox sv
    | none => false

def outWrites (o : Oper) : Out → List Nat
  | .upd d _ => [d]
  | .split d _ => [d]
  | .scrub d _ => [d]
  | .nop | .primU _ => []
  | _ => o.dst.toList

/-- Has a store, an allocation or another operation that writes its own slot. -/
def ownSlot (o : Oper) (u : Out) : Bool :=
  match u with
  | .upd d v => match o.op with
    | .store _ _ _ => o.dst.isNone
    | .box _ _ | .alloc _ | .buildSlice _ _ _ => o.dst == some d && isBox v
    | _ => o.dst == some d && !isBox v
  | .scrub d v => o.dst == some d && isBox v
  | .split d _ => o.dst == some d
  | .nop => o.dst.isNone
  | .primU _ => o.dst.isNone
  | _ => true

/-- Addresses within box d stand in slots alone that may be written. -/
def noLoc (M : Nat → Bool) (d : Nat) (s : List SV) : Bool := s.zipIdx.all fun x => match x.1 with | .loc j _ => j != d || M x.2 | _ => true

def srcOut (src : Bool) : Option Out → Option Out
  | none => none
  | some u => if src then match u with
      | .upd d (.v (.bool b)) => some (.split d b)
      | .upd d (.lit b) => some (.upd d (.lit b))
      | _ => none
    else some u

def guardOut (ops : Array Oper) (s : List SV) (o : Oper) (main : Option Out) : Option Out :=
  match o.guard with
  | none => main
  | some (j, want) => match dstOf ops j with
    | none => none
    | some tj => match s[tj]? with
      | some (.lit b) => if b == want then main else some (mkUpd o.dst (.v undef))
      | some (.v (.tuple _)) => some (mkUpd o.dst (.v undef))
      | _ => none

def isApp (o : Oper) : Bool := match o.op with
  | .call cl => match cl.callee with
    | .builtin .append => true
    | _ => false
  | _ => false

def appOk (o : Oper) : Out → Bool
  | .append _ _ _ _ _ _ _ => isApp o
  | _ => true

def chkOut (M : Nat → Bool) (drawn : Bool) (root : Nat) (s : List SV) (o : Oper) (u : Out) : Bool :=
  (outWrites o u).all (fun d => M d && (wOf root o).contains d) && ownSlot o u && appOk o u && (match u with | .scrub d _ => !drawn && noLoc M d s && Nat.blt d s.length | _ => dstOk s o)

def seen (drawn : Bool) (r : List Nat) (s : List SV) : List SV := if drawn then mask r s else s

/-- With the guard; over the slots that it looks at alone; what it writes is let by. -/
def outOf (c : Cfg) (fc : Fc) (ops : Array Oper) (drawn : Bool) (M : Nat → Bool) (src : Bool) (root : Nat) (o : Oper) (s0 : List SV) : Option Out :=
  match guardOut ops (seen drawn (rOf ops root o) s0) o (srcOut src (mainOut c fc drawn root (seen drawn (rOf ops root o) s0) o)) with
  | none => none
  | some u => if chkOut M drawn root (seen drawn (rOf ops root o) s0) o u then some u else none

def scrub1 (d : Nat) : SV → SV
  | .loc j off => if j == d then .any else .loc j off
  | x => x
def scrubbed (d : Nat) (s : List SV) : List SV := s.map (scrub1 d)

def put (d : Option Nat) (v : SV) (s : List SV) : List SV := match d with
  | some d => s.set d v
  | none => s

def treeOf (o : Oper) (i : Nat) (keep : List Nat) (s : List SV) (K : List SV → Tree) : Option Out → Tree
  | none => .stuck
  | some (.upd d v) => K (s.set d v)
  | some .nop => K s
  | some (.scrub d v) => K ((scrubbed d s).set d v)
  | some (.split d b) => .ite b (K (s.set d (.lit true))) (K (s.set d (.lit false)))
  | some (.pcall _ _ v) => K (put o.dst (.v v) s)
  | some (.call f args H) => .call f args.toArray keep H.E fun x => H.cs x fun sv => K (put o.dst sv s)
  | some (.prim m H) => .prim m keep H.E fun x => H.cs x fun sv => K (put o.dst sv s)
  | some (.primU m) => .primU m keep (K s)
  | some (.append tys ty x e n cells H) => .append tys ty x e n cells keep H.E fun y => H.cs y fun sv => K (put o.dst sv s)
  | some (.loadS m H) => .loadS i m H.E fun x => H.cs x fun sv => K (put o.dst sv s)

end Go.Sx

namespace Go.Sx
open Go.RowKit

/-! ### Regions -/
/-- The box that an address belongs to: along field addresses, moves and nil checks of the same region. -/
def rootIn (ops : List Oper) : Nat → Nat → Nat
  | 0, t => t
  | n + 1, t => match ops.find? (fun o => o.dst == some t) with
    | some o => match o.op with
      | .fieldAddr _ (.tmp x) _ => rootIn ops n x
      | .move (.tmp x) => rootIn ops n x
      | .nilCheck (.tmp x) => rootIn ops n x
      | _ => t
    | none => t
def rootOf (ops : Array Oper) (o : Oper) : Nat :=
  match o.op with
  | .load _ (.tmp t) | .store _ (.tmp t) _ => rootIn ops.toList 8 t
  | _ => 0

def isSrc (ops : Array Oper) (i : Nat) : Bool := ops.any fun o => match o.guard with | some (j, _) => j == i | none => false

structure Rc where
  c : Cfg
  fc : Fc
  M : Nat → Bool

def outAt (r : Rc) (drawn : Bool) (ops : Array Oper) (i : Nat) (o : Oper) (s : List SV) : Option Out :=
  outOf r.c r.fc ops drawn r.M (isSrc ops i) (rootOf ops o) o s

/-- The state, gone through once (so that no later look goes back). -/
def forceV (x : SV) (k : SV → Tree) : Tree := match x with
  | .any => k .any
  | .v y => k (.v y)
  | .lit b => k (.lit b)
  | .box ty cells => k (.box ty cells)
  | .loc j off => k (.loc j off)
  | .row ty len cells => k (.row ty len cells)
theorem forceV_eq (x : SV) (k : SV → Tree) : forceV x k = k x := by cases x <;> rfl
def forceL : List SV → (List SV → Tree) → Tree
  | [], k => k []
  | x :: l, k => forceV x fun x => forceL l fun l => k (x :: l)
theorem forceL_eq : ∀ (s : List SV) (k : List SV → Tree), forceL s k = k s
  | [], _ => rfl
  | x :: l, k => by rw [forceL, forceV_eq, forceL_eq l]
/-- The order of the text. -/
def sxOps (r : Rc) (ops : Array Oper) : List Nat → List SV → (List SV → Tree) → Tree
  | [], s, K => K s
  | i :: l, s, K => match ops[i]? with
    | none => .stuck
    | some o => treeOf o i [] s (fun s' => forceL s' fun s' => sxOps r ops l s' K) (outAt r false ops i o s)

def depsOf (o : Oper) : List Nat := (o.after.toList.filter (Region.binds .any)).map (·.on)

/-- Bit j of number i: j comes ahead of i in every order. -/
def ancTab (ops : Array Oper) : List Nat :=
  ops.toList.foldl (fun T o => T ++ [(depsOf o).foldl (fun m d => m ||| (T.getD d 0) ||| (1 <<< d)) 0]) []

def tabOk (ops : Array Oper) (T : List Nat) : Bool :=
  (List.range ops.size).all fun i => match ops[i]? with
    | none => false
    | some o => ((depsOf o).all fun d => Nat.blt d i && (T.getD i 0).testBit d) && (List.range ops.size).all fun j => !((T.getD i 0).testBit j) || (depsOf o).any fun d => Nat.blt d i && (d == j || (T.getD d 0).testBit j)

inductive Cls where
  | quiet | look | eff
  deriving DecidableEq

def clsOf (r : Rc) (ops : Array Oper) (i : Nat) (o : Oper) : Cls :=
  if isSrc ops i then .eff else
  match o.op with
  | .load _ _ | .indexAddr _ _ _ | .index _ _ _ | .slice _ _ _ _ _ | .lookup _ _ _ _ | .binOp _ _ _ _ _ => .look
  | .store _ _ _ => .eff
  | .box _ _ | .alloc _ | .buildSlice _ _ _ => if (match o.dst with | some d => r.fc.esc.contains d | none => true) then .eff else .quiet
  | .call cl => match cl.callee with
    | .builtin .len | .builtin .min | .builtin .max => .look
    | .builtin _ => .eff
    | .value (.func f) => if (r.c.pure f).isSome || (r.c.pureR f).isSome then .quiet else .eff
    | .value _ => .eff
    | .invoke _ _ => .quiet
  | .move _ | .assign _ | .nilCheck _ | .fieldAddr _ _ _ | .field _ _ _ | .extract _ _ | .build _ _ | .makeInterface _ _ | .unOp _ _ _ | .pick _ _ _ | .makeFunc _ _ _ => .quiet
  | _ => .eff

/-- Is what came up of that class? (A store into an own box is quiet, whatever its class says.) -/
def clsFits : Cls → Out → Bool
  | .quiet, .upd _ _ | .quiet, .nop | .quiet, .pcall _ _ _ => true
  | .look, .upd _ _ | .look, .nop | .look, .pcall _ _ _ | .look, .loadS _ _ => true
  | .eff, .scrub _ _ => false
  | .eff, _ => true
  | _, _ => false

def disjL (xs ys : List Nat) : Bool := xs.all fun x => !ys.contains x

def keepOf (r : Rc) (ops : Array Oper) (T : List Nat) (i : Nat) : List Nat :=
  (List.range ops.size).filter fun d => match ops[d]? with
    | none => false
    | some o => decide (clsOf r ops d o = .look) && !((T.getD i 0).testBit d) && !((T.getD d 0).testBit i)

/-- u stands ahead of i in the order gone through; i may come first. -/
def comm (r : Rc) (ops : Array Oper) (T : List Nat) (u i : Nat) : Bool :=
  match ops[u]?, ops[i]? with
  | some ou, some oi =>
    disjL (wOf (rootOf ops ou) ou) (rOf ops (rootOf ops oi) oi) && disjL (wOf (rootOf ops oi) oi) (rOf ops (rootOf ops ou) ou) &&
    !isApp ou && (match clsOf r ops u ou, clsOf r ops i oi with
      | .quiet, _ | _, .quiet => true
      | .look, .look => decide (u ≠ i)
      | .look, .eff => (keepOf r ops T i).contains u
      | .eff, _ => false)
  | _, _ => false

def pairsOk (f : Nat → Nat → Bool) : List Nat → Bool
  | [] => true
  | u :: l => l.all (f u) && pairsOk f l

/-- The order l may stand for all orders. -/
def drawOk (r : Rc) (ops : Array Oper) (T : List Nat) (l : List Nat) : Bool :=
  tabOk ops T && decide l.Nodup && l.all (fun i => Nat.blt i ops.size) && Nat.beq l.length ops.size &&
    pairsOk (fun u i => !((T.getD u 0).testBit i) && ((T.getD i 0).testBit u || comm r ops T u i)) l

def oneD (r : Rc) (ops : Array Oper) (T : List Nat) (i : Nat) (s : List SV) (K : List SV → Tree) : Tree :=
  match ops[i]? with
  | none => .stuck
  | some o => match outAt r true ops i o s with
    | none => .stuck
    | some u => if clsFits (clsOf r ops i o) u then treeOf o i (keepOf r ops T i) s K (some u) else .stuck

def sxDrawn (r : Rc) (ops : Array Oper) (T : List Nat) : List Nat → List SV → (List SV → Tree) → Tree
  | [], s, K => .endS (K s)
  | i :: l, s, K => forceL s fun s => oneD r ops T i s fun s' => sxDrawn r ops T l s' K
theorem sxDrawn_cons (r : Rc) (ops : Array Oper) (T : List Nat) (i : Nat) (l : List Nat) (s : List SV) (K : List SV → Tree) : sxDrawn r ops T (i :: l) s K = oneD r ops T i s fun s' => sxDrawn r ops T l s' K := by rw [sxDrawn, forceL_eq]

/-- Looks first, where nothing that they wait for stands behind. -/
def hoist (r : Rc) (ops : Array Oper) (T : List Nat) : List Nat :=
  let l := List.range ops.size
  let early := l.filter fun i => l.all fun j => match ops[j]? with
    | some o => !(decide (clsOf r ops j o = .eff)) || !(Nat.beq i j || (T.getD i 0).testBit j)
    | none => false
  early ++ l.filter fun i => !early.contains i

def sxRegion (r : Rc) (ops : Array Oper) (draw : Bool) (s : List SV) (K : List SV → Tree) : Tree :=
  forceL s fun s =>
  if draw then
    let T := ancTab ops
    let l := hoist r ops T
    if drawOk r ops T l then sxDrawn r ops T l s K else .stuck
  else sxOps r ops (List.range ops.size) s K

/-! ### Code -/
inductive Ex where
  | normal
  | exit (id : Nat)
  | ret

def wCode : Code → List Nat
  | .region _ ops _ => ops.toList.flatMap fun o => wOf (rootOf ops o) o
  | .seq a b => wCode a ++ wCode b
  | .cond _ a b => wCode a ++ wCode b
  | .block _ a => wCode a
  | .loop a => wCode a
  | .scope a => wCode a
  | _ => []

/-- The slots at a loop's head. -/
def headOf (W : List Nat) (slots : List Nat) (vals : List SV) (s : List SV) : List SV :=
  imap (fun i x =>
    match slots.idxOf? i with
    | some k => vals.getD k .any
    | none => if W.contains i then .any else match x with
      | .loc j off => if W.contains j || slots.contains j then .any else .loc j off
      | x => x) 0 s

def notLoc : SV → Bool
  | .loc _ _ => false
  | _ => true

def svAt (s : List SV) (i : Nat) : SV := s.getD i .any

def sxCode (c : Cfg) (fc : Fc) : Code → (M : Nat → Bool) → (depth : Nat) → (blk : Nat) → (Ex → (depth : Nat) → List SV → Tree) → List SV → Tree
  | .skip, _, dp, _, K, s => K .normal dp s
  | .region _ ops draw, M, dp, _, K, s => sxRegion ⟨c, fc, M⟩ ops draw s (K .normal dp)
  | .seq a b, M, dp, blk, K, s => sxCode c fc a M dp blk (fun e dp' s' => match e with | .normal => sxCode c fc b M dp' blk K s' | e => K e dp' s') s
  | .cond x a b, M, dp, blk, K, s => match svO s x with
    | .lit true => sxCode c fc a M dp blk K s
    | .lit false => sxCode c fc b M dp blk K s
    | .v (.bool t) => .ite t (sxCode c fc a M dp blk K s) (sxCode c fc b M dp blk K s)
    | _ => .stuck
  | .block id a, M, dp, _, K, s => sxCode c fc a M dp id (fun e dp' s' => match e with | .exit i => if Nat.beq i id then K .normal dp' s' else K (.exit i) dp' s' | e => K e dp' s') s
  | .exit id, _, dp, _, K, s => K (.exit id) dp s
  | .ret, _, dp, _, K, s => K .ret dp s
  | .loop a, M, dp, blk, K, s => match fc.lh.lookup blk with
    | none => .stuck
    | some H =>
      let W := wCode a
      if H.slots.all (fun i => M i && W.contains i && Nat.blt i s.length) && W.all M then
        .loop (H.slots.map (svAt s)) H.L H.emb fun l =>
          if Nat.beq (H.emb l).length H.slots.length && (H.emb l).all notLoc then
            sxCode c fc a (fun i => M i && W.contains i) (dp + 1) blk (fun e dp' s' => match e with
              | .normal => .again (dp' - (dp + 1)) (H.slots.map (svAt s'))
              | e => K e dp' s') (headOf W H.slots (H.emb l) s)
          else .stuck
      else .stuck
  | _, _, _, _, _, _ => .stuck

def resOf (P : Program) (s : List SV) : ResultVar → Option Value
  | .tmp t => match s[t]? with
    | some (.v x) => some x
    | some (.lit b) => some (.bool b)
    | _ => none
  | .cell a t => match s[a]? with
    | some (.box _ cells) => match isAggT P t, sizeT P t with
      | some true, some n => if Nat.beq n cells.length then some (.agg cells.toArray) else none
      | some false, some 1 => cells[0]?
      | _, _ => none
    | _ => none

def resultsOf (P : Program) (fn : Func) (s : List SV) : Option Value :=
  match fn.results.toList.mapM (resOf P s) with
  | none => none
  | some [v] => some v
  | some vs => some (.tuple vs.toArray)

def sxFn (c : Cfg) (fc : Fc) (fn : Func) (args : List Value) : Tree :=
  match fn.body with
  | none => .stuck
  | some code => sxCode c fc code (fun _ => true) 0 0 (fun e _ s => match e with
      | .normal | .ret => match resultsOf c.P fn s with
        | some v => .ret v
        | none => .stuck
      | .exit _ => .stuck) (args.map .v ++ List.replicate (fn.ntmps - args.length) (.v undef))

end Go.Sx

namespace Go.Sx
open Go.RowKit

/-! ### What the slots stand for -/
def den (ρ : Nat → Nat) (t : Nat) : SV → Value → Prop
  | .any, _ => True
  | .v x, y => y = x
  | .lit b, y => y = .bool b
  | .box _ _, y => y = .pointer (some ⟨ρ t, 0, none⟩)
  | .loc j off, y => y = .pointer (some ⟨ρ j, off, none⟩)
  | .row _ n _, y => y = .slice (some ⟨ρ t, 0, none⟩) n n

def BoxAt (s : List SV) (j : Nat) : Prop := ∃ sv, s[j]? = some sv ∧ isBox sv = true

structure Gam (B : Nat) (S : BS) (s : List SV) (a : Act) (w : World) (ρ : Nat → Nat) : Prop where
  defers : a.defers = []
  size : a.tmps.size = s.length
  slot : ∀ t sv, s[t]? = some sv → den ρ t sv (a.tmps.getD t undef)
  box : ∀ t ty cells, s[t]? = some (.box ty cells) → w.heap[ρ t]? = some (.cells cells.toArray ty (0, 0))
  row : ∀ t e n cells, s[t]? = some (.row e n cells) → w.heap[ρ t]? = some (.cells cells.toArray e (0, 0))
  out : ∀ t, BoxAt s t → ¬ S (ρ t) ∧ B ≤ ρ t
  inj : ∀ t t', BoxAt s t → BoxAt s t' → ρ t = ρ t' → t = t'
  loc : ∀ (t j off : Nat), s[t]? = some (SV.loc j off) → BoxAt s j
  lt : ∀ b, S b → b < w.heap.size
  base : B ≤ w.heap.size

theorem heap_new (w : World) (o : Obj) : (w.alloc o).heap[w.heap.size]? = some o := by
  unfold World.alloc; simp only [Array.getElem?_push_size]
theorem heap_lt {w : World} {b : Nat} {o : Obj} (h : w.heap[b]? = some o) : b < w.heap.size := by
  rcases Nat.lt_or_ge b w.heap.size with h1 | h1
  · exact h1
  · rw [Array.getElem?_eq_none h1] at h; cases h

section
variable {B : Nat} {S : BS} {s : List SV} {a : Act} {w : World} {ρ : Nat → Nat}
theorem Gam.boxlt (h : Gam B S s a w ρ) {t : Nat} (hb : BoxAt s t) : ρ t < w.heap.size := by
  obtain ⟨sv, hs, hi⟩ := hb
  cases sv <;> simp [isBox] at hi
  · exact heap_lt (h.box _ _ _ hs)
  · exact heap_lt (h.row _ _ _ _ hs)

theorem Gam.world {S1 : BS} {w1 : World} (h : Gam B S s a w ρ) (hs : Step S w S1 w1) : Gam B S1 s a w1 ρ := by
  refine ⟨h.defers, h.size, h.slot, fun t ty cells ht => ?_, fun t e n cells ht => ?_, fun t hb => ⟨fun h1 => ?_, (h.out t hb).2⟩, h.inj, h.loc, hs.lt, Nat.le_trans h.base hs.fr.size⟩
  · have hb : BoxAt s t := ⟨_, ht, rfl⟩
    rw [hs.fr.block _ (h.boxlt hb) (h.out t hb).1]; exact h.box t ty cells ht
  · have hb : BoxAt s t := ⟨_, ht, rfl⟩
    rw [hs.fr.block _ (h.boxlt hb) (h.out t hb).1]; exact h.row t e n cells ht
  · rcases hs.new _ h1 with h2 | h2
    · exact (h.out t hb).1 h2
    · have := h.boxlt hb; omega

theorem getD_put_same {d : Nat} {x : Value} {a : Act} (hd : d < a.tmps.size) : (a.put (some d) x).tmps.getD d undef = x := by
  simp [Act.put, Array.getD_eq_getD_getElem?, hd]
theorem getD_put_other {d t : Nat} {x : Value} {a : Act} (h : t ≠ d) : (a.put (some d) x).tmps.getD t undef = a.tmps.getD t undef := by
  simp [Act.put, Array.getD_eq_getD_getElem?, Array.getElem?_setIfInBounds_ne (Ne.symm h)]
theorem put_size {d : Option Nat} {x : Value} {a : Act} : (a.put d x).tmps.size = a.tmps.size := by
  cases d <;> simp [Act.put]
theorem put_defers {d : Option Nat} {x : Value} {a : Act} : (a.put d x).defers = a.defers := by
  cases d <;> simp [Act.put]

theorem BoxAt.lt {j : Nat} (h : BoxAt s j) : j < s.length := by
  obtain ⟨sv, h, _⟩ := h
  exact (List.getElem?_eq_some_iff.1 h).1

theorem boxAt_set {d j : Nat} {v : SV} (hd : d < s.length) (hnb : ∀ sv, s[d]? = some sv → isBox sv = false) (hv : isBox v = false) : BoxAt (s.set d v) j ↔ BoxAt s j := by
  constructor
  · rintro ⟨sv, h, hb⟩
    by_cases e : d = j
    · subst e
      rw [List.getElem?_set_self hd] at h
      injection h with h; subst h; rw [hv] at hb; cases hb
    · rw [List.getElem?_set_ne e] at h; exact ⟨sv, h, hb⟩
  · rintro ⟨sv, h, hb⟩
    by_cases e : d = j
    · subst e; rw [hnb sv h] at hb; cases hb
    · exact ⟨sv, by rw [List.getElem?_set_ne e]; exact h, hb⟩

theorem Gam.put (h : Gam B S s a w ρ) {d : Nat} {v : SV} {x : Value} (hd : d < s.length) (hnb : ∀ sv, s[d]? = some sv → isBox sv = false) (hv : isBox v = false)
    (hx : den ρ d v x) (hl : ∀ j off, v = .loc j off → BoxAt s j) : Gam B S (s.set d v) (a.put (some d) x) w ρ := by
  have hbx : ∀ j, BoxAt (s.set d v) j ↔ BoxAt s j := fun j => boxAt_set hd hnb hv
  refine ⟨by rw [put_defers]; exact h.defers, by rw [put_size, List.length_set]; exact h.size, fun t sv ht => ?_, fun t ty cells ht => ?_, fun t e n cells ht => ?_, fun t hb => h.out t ((hbx t).1 hb), fun t t' hb hb' => h.inj t t' ((hbx t).1 hb) ((hbx t').1 hb'), fun t j off ht => ?_, h.lt, h.base⟩
  · by_cases e : d = t
    · subst e
      rw [List.getElem?_set_self hd] at ht
      injection ht with ht; subst ht
      rw [getD_put_same (by rw [h.size]; exact hd)]; exact hx
    · rw [List.getElem?_set_ne e] at ht
      rw [getD_put_other (Ne.symm e)]; exact h.slot t sv ht
  · by_cases e : d = t
    · subst e
      rw [List.getElem?_set_self hd] at ht
      injection ht with ht; subst ht; cases hv
    · rw [List.getElem?_set_ne e] at ht; exact h.box t ty cells ht
  · by_cases e' : d = t
    · subst e'
      rw [List.getElem?_set_self hd] at ht
      injection ht with ht; subst ht; cases hv
    · rw [List.getElem?_set_ne e'] at ht; exact h.row t e n cells ht
  · rw [hbx]
    by_cases e : d = t
    · subst e
      rw [List.getElem?_set_self hd] at ht
      injection ht with ht; exact hl j off ht
    · rw [List.getElem?_set_ne e] at ht; exact h.loc t j off ht

/-- A new box in a slot that holds none. -/
theorem Gam.new (h : Gam B S s a w ρ) {d : Nat} {v : SV} {x : Value} {ty : TypeId} {cells : List Value} (hd : d < s.length) (hnb : ∀ sv, s[d]? = some sv → isBox sv = false)
    (hv : v = .box ty cells ∧ x = .pointer (some ⟨w.heap.size, 0, none⟩) ∨ ∃ n, v = .row ty n cells ∧ x = .slice (some ⟨w.heap.size, 0, none⟩) n n) :
    Gam B S (s.set d v) (a.put (some d) x) (w.alloc (.cells cells.toArray ty)) (fun t => if t = d then w.heap.size else ρ t) := by
  have hbv : isBox v = true := by rcases hv with ⟨rfl, _⟩ | ⟨n, rfl, _⟩ <;> rfl
  have hbx : ∀ j, j ≠ d → (BoxAt (s.set d v) j ↔ BoxAt s j) := fun j hj => by
    unfold BoxAt; rw [List.getElem?_set_ne (Ne.symm hj)]
  have hnd : ¬ BoxAt s d := fun ⟨sv, hs, hb⟩ => by rw [hnb sv hs] at hb; cases hb
  have hnew : (w.alloc (.cells cells.toArray ty)).heap[w.heap.size]? = some (.cells cells.toArray ty (0, 0)) := heap_new w _
  have hold : ∀ b, b < w.heap.size → (w.alloc (.cells cells.toArray ty)).heap[b]? = w.heap[b]? := fun b hb => Below.heap_alloc w _ b hb
  refine ⟨by rw [put_defers]; exact h.defers, by rw [put_size, List.length_set]; exact h.size, fun t sv ht => ?_, fun t ty' cells' ht => ?_, fun t e n cells' ht => ?_, fun t hb => ?_, fun t t' hb hb' => ?_, fun t j off ht => ?_, fun b hb => ?_, by rw [World.size_alloc]; exact Nat.le_succ_of_le h.base⟩
  · by_cases e : d = t
    · subst e
      rw [List.getElem?_set_self hd] at ht
      injection ht with ht; subst ht
      rw [getD_put_same (by rw [h.size]; exact hd)]
      rcases hv with ⟨rfl, rfl⟩ | ⟨n, rfl, rfl⟩ <;> simp [den]
    · rw [List.getElem?_set_ne e] at ht
      rw [getD_put_other (Ne.symm e)]
      have := h.slot t sv ht
      cases sv with
      | loc j off =>
        have hj : j ≠ d := fun e => hnd (e ▸ h.loc t j off ht)
        simpa only [den, if_neg hj] using this
      | box => simpa only [den, if_neg (Ne.symm e)] using this
      | row => simpa only [den, if_neg (Ne.symm e)] using this
      | _ => exact this
  · by_cases e : t = d
    · subst e
      rw [List.getElem?_set_self hd] at ht
      injection ht with ht
      simp only [if_true]
      rcases hv with ⟨rfl, rfl⟩ | ⟨n, rfl, rfl⟩
      · injection ht with h1 h2; subst h1 h2; exact hnew
      · cases ht
    · rw [List.getElem?_set_ne (Ne.symm e)] at ht
      simp only [if_neg e]
      rw [hold _ (h.boxlt ⟨_, ht, rfl⟩)]; exact h.box t ty' cells' ht
  · by_cases e' : t = d
    · subst e'
      rw [List.getElem?_set_self hd] at ht
      injection ht with ht
      simp only [if_true]
      rcases hv with ⟨rfl, rfl⟩ | ⟨m, rfl, rfl⟩
      · cases ht
      · injection ht with h1 h2 h3; subst h1 h3; exact hnew
    · rw [List.getElem?_set_ne (Ne.symm e')] at ht
      simp only [if_neg e']
      rw [hold _ (h.boxlt ⟨_, ht, rfl⟩)]; exact h.row t e n cells' ht
  · by_cases e : t = d
    · simp only [if_pos e]
      exact ⟨fun hs => absurd (h.lt _ hs) (Nat.lt_irrefl _), h.base⟩
    · simp only [if_neg e]; exact h.out t ((hbx t e).1 hb)
  · by_cases e : t = d
    · by_cases e' : t' = d
      · intro _; rw [e, e']
      · simp only [if_pos e, if_neg e']
        intro hh; have := h.boxlt ((hbx t' e').1 hb'); omega
    · by_cases e' : t' = d
      · simp only [if_pos e', if_neg e]
        intro hh; have := h.boxlt ((hbx t e).1 hb); omega
      · simp only [if_neg e, if_neg e']; exact h.inj t t' ((hbx t e).1 hb) ((hbx t' e').1 hb')
  · by_cases e : d = t
    · subst e
      rw [List.getElem?_set_self hd] at ht
      injection ht with ht; subst ht
      rcases hv with ⟨hv, _⟩ | ⟨n, hv, _⟩ <;> cases hv
    · rw [List.getElem?_set_ne e] at ht
      have hj : j ≠ d := fun e => hnd (e ▸ h.loc t j off ht)
      exact (hbx j hj).2 (h.loc t j off ht)
  · rw [World.size_alloc]; exact Nat.lt_succ_of_lt (h.lt b hb)

theorem Gam.forget (h : Gam B S s a w ρ) (d : Nat) : Gam B S ((scrubbed d s).set d .any) a w ρ := by
  have hg : ∀ t, ((scrubbed d s).set d .any)[t]? = if t = d then (if d < s.length then some .any else none) else (s[t]?).map (scrub1 d) := fun t => by
    by_cases e : t = d
    · subst e
      by_cases hl : t < s.length
      · rw [List.getElem?_set_self (by simpa [scrubbed] using hl)]; simp [hl]
      · simp [scrubbed, hl]
    · rw [List.getElem?_set_ne (Ne.symm e)]; simp [scrubbed, e]
  have hbx : ∀ t, BoxAt ((scrubbed d s).set d .any) t → t ≠ d ∧ BoxAt s t := fun t ⟨sv, ht, hb⟩ => by
    rw [hg] at ht
    by_cases e : t = d
    · rw [if_pos e] at ht
      split at ht
      · injection ht with ht; subst ht; cases hb
      · cases ht
    · rw [if_neg e] at ht
      refine ⟨e, ?_⟩
      cases hs : s[t]? with
      | none => rw [hs] at ht; cases ht
      | some sv0 =>
        rw [hs] at ht
        refine ⟨sv0, hs, ?_⟩
        cases sv0 <;> simp [scrub1] at ht
        all_goals first
          | (subst ht; exact hb)
          | (split at ht <;> subst ht <;> cases hb)
  have hbx2 : ∀ t, t ≠ d → BoxAt s t → BoxAt ((scrubbed d s).set d .any) t := fun t e ⟨sv, ht, hb⟩ => by
    refine ⟨sv, ?_, hb⟩
    rw [hg, if_neg e, ht]
    cases sv <;> simp [isBox] at hb <;> rfl
  have hkeep : ∀ t sv, isBox sv = true → ((scrubbed d s).set d .any)[t]? = some sv → s[t]? = some sv := fun t sv hb ht => by
    rw [hg] at ht
    by_cases e : t = d
    · rw [if_pos e] at ht
      split at ht
      · injection ht with ht; subst ht; cases hb
      · cases ht
    · rw [if_neg e] at ht
      cases hs : s[t]? with
      | none => rw [hs] at ht; cases ht
      | some sv0 =>
        rw [hs] at ht
        cases sv0 <;> simp [scrub1] at ht
        all_goals first
          | (subst ht; rfl)
          | (split at ht <;> subst ht <;> cases hb)
  refine ⟨h.defers, by simpa [scrubbed] using h.size, fun t sv ht => ?_, fun t ty cells ht => h.box t ty cells (hkeep t _ rfl ht), fun t e n cells ht => h.row t e n cells (hkeep t _ rfl ht), fun t hb => h.out t (hbx t hb).2, fun t t' hb hb' => h.inj t t' (hbx t hb).2 (hbx t' hb').2, fun t j off ht => ?_, h.lt, h.base⟩
  · rw [hg] at ht
    by_cases e : t = d
    · rw [if_pos e] at ht
      split at ht
      · injection ht with ht; subst ht; trivial
      · cases ht
    · rw [if_neg e] at ht
      cases hs : s[t]? with
      | none => rw [hs] at ht; cases ht
      | some sv0 =>
        rw [hs] at ht
        have := h.slot t sv0 hs
        cases sv0 <;> simp [scrub1] at ht
        all_goals first
          | (subst ht; exact this)
          | (split at ht <;> subst ht <;> first | trivial | exact this)
  · rw [hg] at ht
    by_cases e : t = d
    · rw [if_pos e] at ht
      split at ht
      · injection ht with ht; cases ht
      · cases ht
    · rw [if_neg e] at ht
      cases hs : s[t]? with
      | none => rw [hs] at ht; cases ht
      | some sv0 =>
        rw [hs] at ht
        cases sv0 <;> simp [scrub1] at ht
        rename_i j0 off0
        split at ht
        · cases ht
        · rename_i hne
          injection ht with h1 h2; subst h1 h2
          exact hbx2 j0 hne (h.loc t j0 off0 hs)

theorem Gam.store (h : Gam B S s a w ρ) {j : Nat} {ty : TypeId} {cells cells' : List Value} (hj : s[j]? = some (.box ty cells)) :
    Gam B S (s.set j (.box ty cells')) a (w.setRow (ρ j) cells'.toArray) ρ := by
  have hjl : j < s.length := (List.getElem?_eq_some_iff.1 hj).1
  have hbj : BoxAt s j := ⟨_, hj, rfl⟩
  have hbx : ∀ t, BoxAt (s.set j (.box ty cells')) t ↔ BoxAt s t := fun t => by
    by_cases e : j = t
    · subst e
      refine ⟨fun _ => hbj, fun _ => ⟨_, List.getElem?_set_self hjl, rfl⟩⟩
    · unfold BoxAt; rw [List.getElem?_set_ne e]
  have hoth : ∀ t, BoxAt s t → t ≠ j → (w.setRow (ρ j) cells'.toArray).heap[ρ t]? = w.heap[ρ t]? := fun t hb e => setRow_other w _ _ _ (fun hh => e (h.inj t j hb hbj hh))
  refine ⟨h.defers, by rw [List.length_set]; exact h.size, fun t sv ht => ?_, fun t ty' cs ht => ?_, fun t e n cs ht => ?_, fun t hb => h.out t ((hbx t).1 hb), fun t t' hb hb' => h.inj t t' ((hbx t).1 hb) ((hbx t').1 hb'), fun t k off ht => ?_, fun b hb => by rw [setRow_size]; exact h.lt b hb, by rw [setRow_size]; exact h.base⟩
  · by_cases e : j = t
    · subst e
      rw [List.getElem?_set_self hjl] at ht
      injection ht with ht; subst ht
      have := h.slot j _ hj
      exact this
    · rw [List.getElem?_set_ne e] at ht; exact h.slot t sv ht
  · by_cases e : j = t
    · subst e
      rw [List.getElem?_set_self hjl] at ht
      injection ht with ht; injection ht with h1 h2; subst h1 h2
      exact setRow_heap w _ _ _ _ _ (h.box j _ _ hj)
    · rw [List.getElem?_set_ne e] at ht
      rw [hoth t ⟨_, ht, rfl⟩ (Ne.symm e)]; exact h.box t ty' cs ht
  · by_cases e' : j = t
    · subst e'
      rw [List.getElem?_set_self hjl] at ht
      injection ht with ht; cases ht
    · rw [List.getElem?_set_ne e'] at ht
      rw [hoth t ⟨_, ht, rfl⟩ (Ne.symm e')]; exact h.row t e n cs ht
  · rw [hbx]
    by_cases e : j = t
    · subst e
      rw [List.getElem?_set_self hjl] at ht
      injection ht with ht; cases ht
    · rw [List.getElem?_set_ne e] at ht; exact h.loc t k off ht

theorem Ag.alloc (h : Gam B S s a w ρ) (o : Obj) : Ag B S w (w.alloc o) :=
  ⟨rfl, rfl, rfl, by simp, fun b hb => Below.heap_alloc w o b (by rcases hb with hb | hb; exact Nat.lt_of_lt_of_le hb h.base; exact h.lt b hb)⟩
theorem Ag.setRow (h : Gam B S s a w ρ) {j : Nat} (hj : BoxAt s j) (cs : Array Value) : Ag B S w (w.setRow (ρ j) cs) :=
  ⟨rfl, rfl, rfl, by simp, fun b hb => setRow_other w _ _ _ (by
    have := h.out j hj
    rintro rfl
    rcases hb with hb | hb
    · omega
    · exact this.1 hb)⟩
end
end Go.Sx

set_option linter.unusedVariables false
namespace Go.Sx
open Go.RowKit

/-- s tells of each slot what s0 does, or nothing. -/
structure Le (s s0 : List SV) : Prop where
  at_ : ∀ (t : Nat) (x : SV), s[t]? = some x → x = SV.any ∨ s0[t]? = some x

/-- What the configuration is trusted for. -/
structure Cfg.Ok (c : Cfg) : Prop where
  pure : ∀ f g args v, c.pure f = some g → g args = some v → callB c.P f = true ∧ ∀ w, Calls c.P f args.toArray w fun e w' => e = .returned v ∧ Below w.heap.size w w'
  meth : ∀ t n f, c.meth t n = some f → ∀ v w, (method (c.P.types.size + Made.depth) t v n).run c.P w = .ok (f, v) w
  pureR : ∀ f g e n cells v, c.pureR f = some g → g e n cells = some v → callB c.P f = true ∧ ∀ w b, w.heap[b]? = some (.cells (List.toArray cells) e (0, 0)) → Calls c.P f #[.slice (some ⟨b, 0, none⟩) n n] w fun e w' => e = .returned v ∧ Below w.heap.size w w'

inductive Eff (P : Program) (B : Nat) (S : BS) (s0 : List SV) (a : Act) (w : World) (ρ : Nat → Nat) (o : Oper) : Out → Prop where
  | val (d : Nat) (v : SV) (x : Value) : o.dst = some d → (execOp a.eval o).run P w = .ok (.value x) w → (∀ t, den ρ t v x) → isBox v = false → (∀ j off, v = .loc j off → BoxAt s0 j) → Eff P B S s0 a w ρ o (.upd d v)
  | nop (x : Value) : o.dst = none → (execOp a.eval o).run P w = .ok (.value x) w → Eff P B S s0 a w ρ o .nop
  | alloc (d : Nat) (ty : TypeId) (cells : List Value) : o.dst = some d → (∀ t a x, o.op ≠ .store t a x) → (execOp a.eval o).run P w = .ok (.value (.pointer (some ⟨w.heap.size, 0, none⟩))) (w.alloc (.cells cells.toArray ty)) →
      Eff P B S s0 a w ρ o (.upd d (.box ty cells))
  | scrub (d : Nat) (ty : TypeId) (cells : List Value) : o.dst = some d → (execOp a.eval o).run P w = .ok (.value (.pointer (some ⟨w.heap.size, 0, none⟩))) (w.alloc (.cells cells.toArray ty)) →
      Eff P B S s0 a w ρ o (.scrub d (.box ty cells))
  | row (d : Nat) (ty : TypeId) (n : Nat) (cells : List Value) : o.dst = some d → (∀ t a x, o.op ≠ .store t a x) → (execOp a.eval o).run P w = .ok (.value (.slice (some ⟨w.heap.size, 0, none⟩) n n)) (w.alloc (.cells cells.toArray ty)) →
      Eff P B S s0 a w ρ o (.upd d (.row ty n cells))
  | store (j : Nat) (ty : TypeId) (cells cells' : List Value) : s0[j]? = some (.box ty cells) → (execOp a.eval o).run P w = .ok .skip (w.setRow (ρ j) cells'.toArray) → (∃ t a x, o.op = .store t a x) → Eff P B S s0 a w ρ o (.upd j (.box ty cells'))
  | pcall (f : FuncId) (args : List Value) (v : Value) (f' : FuncId) (args' : Array Value) : (execOp a.eval o).run P w = .ok (.enter f' args') w → (Calls P f' args' w fun e w' => e = .returned v ∧ Below w.heap.size w w') → Eff P B S s0 a w ρ o (.pcall f args v)
  | call (f : FuncId) (args : List Value) (H : Hint) : (callB P f = true → (execOp a.eval o).run P w = .ok (.enter f args.toArray) w) → Eff P B S s0 a w ρ o (.call f args H)
  | prim (m : Sem Value) (H : Hint) : (∀ x w1, m.run P w = .ok x w1 → (execOp a.eval o).run P w = .ok (.value x) w1) → Eff P B S s0 a w ρ o (.prim m H)
  | primU (m : Sem Unit) : (∀ w1, m.run P w = .ok () w1 → (execOp a.eval o).run P w = .ok .skip w1) → Eff P B S s0 a w ρ o (.primU m)
  | append (tys : Array TypeId) (ty : TypeId) (x : Value) (e : TypeId) (n : Nat) (cells : List Value) (H : Hint) (t : Nat) : s0[t]? = some (.row e n cells) →
      (∀ y w1, (Builtin.append_ tys ty #[x, .slice (some ⟨ρ t, 0, none⟩) n n]).run P w = .ok y w1 → (execOp a.eval o).run P w = .ok (.value y) w1) → Eff P B S s0 a w ρ o (.append tys ty x e n cells H)
  | loadS (m : Sem Value) (H : Hint) : (∀ x w1, m.run P w = .ok x w1 → (execOp a.eval o).run P w = .ok (.value x) w1) → Eff P B S s0 a w ρ o (.loadS m H)

section
variable {c : Cfg} {fc : Fc} {B : Nat} {S : BS} {s s0 : List SV} {a : Act} {w : World} {ρ : Nat → Nat} {o : Oper}

theorem svO_den (hG : Gam B S s0 a w ρ) (hl : Le s s0) (x : Operand) (sv : SV) (h : svO s x = sv) (hsv : sv ≠ .any) :
    (∀ t, den ρ t sv (a.eval x)) ∧ isBox sv = false ∧ (∀ j off, sv = .loc j off → BoxAt s0 j) ∧ (∀ j off, sv = .loc j off → a.eval x = .pointer (some ⟨ρ j, off, none⟩)) ∧ (∀ v, plain sv = some v → a.eval x = v) := by
  have key : (∀ t, den ρ t sv (a.eval x)) ∧ isBox sv = false ∧ (∀ j off, sv = .loc j off → BoxAt s0 j) := by
    cases x with
    | tmp t =>
      simp only [svO] at h
      cases hs : s[t]? with
      | none => rw [hs] at h; exact absurd h.symm hsv
      | some y =>
        rw [hs] at h
        rcases hl.at_ t y hs with rfl | h0
        · exact absurd h.symm hsv
        · have hd := hG.slot t y h0
          have he : a.eval (.tmp t) = a.tmps.getD t undef := rfl
          cases y with
          | any => exact absurd h.symm hsv
          | v x => subst h; exact ⟨fun _ => by rw [he]; exact hd, rfl, fun _ _ e => by cases e⟩
          | lit b => subst h; exact ⟨fun _ => by rw [he]; exact hd, rfl, fun _ _ e => by cases e⟩
          | box ty cells => subst h; exact ⟨fun _ => by rw [he]; exact hd, rfl, fun _ _ e => by injection e with e1 e2; subst e1; exact ⟨_, h0, rfl⟩⟩
          | loc j off => subst h; exact ⟨fun _ => by rw [he]; exact hd, rfl, fun _ _ e => by injection e with e1 e2; subst e1; exact hG.loc t _ _ h0⟩
          | row e n cells => exact absurd h.symm hsv
    | const v =>
      cases v <;> (simp only [svO] at h; subst h; exact ⟨fun _ => rfl, rfl, fun _ _ e => by cases e⟩)
    | global g => simp only [svO] at h; subst h; exact ⟨fun _ => rfl, rfl, fun _ _ e => by cases e⟩
    | func f => simp only [svO] at h; subst h; exact ⟨fun _ => rfl, rfl, fun _ _ e => by cases e⟩
  refine ⟨key.1, key.2.1, key.2.2, fun j off e => by subst e; exact key.1 0, fun v hv => ?_⟩
  cases sv <;> simp [plain] at hv
  · subst hv; exact key.1 0
  · subst hv; exact key.1 0

theorem plain_eval (hG : Gam B S s0 a w ρ) (hl : Le s s0) {x : Operand} {v : Value} (h : plain (svO s x) = some v) : a.eval x = v :=
  (svO_den hG hl x _ rfl (by intro e; rw [e] at h; cases h)).2.2.2.2 v h

theorem plains_eval (hG : Gam B S s0 a w ρ) (hl : Le s s0) : ∀ {xs : List Operand} {vs : List Value}, plains s xs = some vs → xs.map a.eval = vs
  | [], vs, h => by simp [plains] at h; simp [h]
  | x :: xs, vs, h => by
    simp only [plains, List.mapM_cons, Option.bind_eq_bind, Option.bind_eq_some_iff, Option.pure_def, Option.some.injEq] at h
    obtain ⟨v, hv, vs', hvs, rfl⟩ := h
    rw [List.map_cons, plain_eval hG hl hv, plains_eval hG hl hvs]

theorem plains_mem {xs : List Operand} {vs : List Value} (h : plains s xs = some vs) : ∀ x ∈ xs, ∃ v, plain (svO s x) = some v := by
  induction xs generalizing vs with
  | nil => intro x hx; cases hx
  | cons y ys ih =>
    simp only [plains, List.mapM_cons, Option.bind_eq_bind, Option.bind_eq_some_iff, Option.pure_def, Option.some.injEq] at h
    obtain ⟨v, hv, vs', hvs, rfl⟩ := h
    intro x hx
    rcases List.mem_cons.1 hx with rfl | hx
    · exact ⟨v, hv⟩
    · exact ih hvs x hx

theorem runPure_run (hG : Gam B S s0 a w ρ) (hl : Le s s0) {P : Program} {v : Value} (hs : ∀ cs b, o.op ≠ .select cs b) (h : runPure P s o = some v) : (execOp a.eval o).run P w = .ok (.value v) w := by
  simp only [runPure] at h
  cases hp : plains s o.op.operands.toList with
  | none => rw [hp] at h; cases h
  | some vs =>
    rw [hp] at h
    simp only at h
    have hc : execOp a.eval o = execOp (fun x => (plain (svO s x)).getD undef) o := execOp_congr o hs (fun x hx => by
      obtain ⟨v, hv⟩ := plains_mem hp x (by simpa using hx)
      rw [plain_eval hG hl hv, hv]; rfl)
    split at h
    · rename_i v' hr
      injection h with h; subst h
      rw [hc]; exact pureRun_run _ _ hr w
    · cases h

theorem mkUpd_val {P : Program} {v : SV} {x : Value} (hr : (execOp a.eval o).run P w = .ok (.value x) w) (hd : ∀ t, den ρ t v x) (hb : isBox v = false) (hl : ∀ j off, v = .loc j off → BoxAt s0 j) :
    Eff P B S s0 a w ρ o (mkUpd o.dst v) := by
  unfold mkUpd
  cases h : o.dst with
  | none => exact .nop x h hr
  | some d => exact .val d v x h hr hd hb hl

theorem eff_pure (hG : Gam B S s0 a w ρ) (hl : Le s s0) {P : Program} {u : Out} (hs : ∀ cs b, o.op ≠ .select cs b) (h : ((runPure P s o).map fun v => mkUpd o.dst (.v v)) = some u) : Eff P B S s0 a w ρ o u := by
  rw [Option.map_eq_some_iff] at h
  obtain ⟨v, hv, rfl⟩ := h
  exact mkUpd_val (runPure_run hG hl hs hv) (fun _ => rfl) rfl (fun _ _ e => by cases e)

theorem run_box_new {P : Program} (ty : TypeId) (v : Value) : (Instr.box ty v).run P w = .ok (.pointer (some ⟨w.heap.size, 0, none⟩)) (w.alloc (.cells v.cells ty)) := by
  simp only [Instr.box, newVar, newRow, newObj, Sem.run_bind, Sem.run, Result.andThen_ok]; rfl
theorem run_alloc_new {P : Program} (ty : TypeId) (z : Value) (hz : zeroT P ty = some z) : (Instr.alloc ty true (.tuple #[])).run P w = .ok (.pointer (some ⟨w.heap.size, 0, none⟩)) (w.alloc (.cells z.cells ty)) := by
  unfold zeroT at hz
  cases hi : P.info? ty with
  | none => rw [hi] at hz; cases hz
  | some i =>
    rw [hi] at hz
    simp only [Option.bind_some] at hz
    simp only [Instr.alloc, zeroValue, typeInfo, program, newVar, newRow, newObj, Sem.run_bind, Sem.run_pure, Sem.run, Result.andThen_ok, hi, hz]; rfl

theorem run_isAgg {P : Program} {t : TypeId} {b : Bool} (h : isAggT P t = some b) : (isAgg t).run P w = .ok b w := by
  unfold isAggT at h
  unfold isAgg
  cases hu : P.underlying t with
  | none => rw [hu] at h; cases h
  | some d =>
    rw [hu] at h
    rw [Sem.run_bind, run_underlying hu w]
    cases d <;> simp at h <;> subst h <;> rfl
theorem run_sizeOf {P : Program} {t : TypeId} {n : Nat} (h : sizeT P t = some n) : (sizeOf t).run P w = .ok n w := by
  unfold sizeT at h
  cases hi : P.info? t with
  | none => rw [hi] at h; cases h
  | some i =>
    rw [hi] at h
    simp only [Option.map_some, Option.some.injEq] at h
    simp only [sizeOf, typeInfo, program, Sem.run_bind, Sem.run, Result.andThen_ok, hi]
    rw [← h]; rfl

theorem run_row {P : Program} {t : TypeId} {len : Nat} {parts : Array (Nat × Value)} {cs : Array Value} {e : TypeId} (h : rowCells P t len parts.toList = some (cs, e)) :
    (Instr.buildSlice t len parts).run P w = .ok (.slice (some ⟨w.heap.size, 0, none⟩) len len) (w.alloc (.cells cs e)) := by
  unfold rowCells at h
  split at h
  case h_2 => cases h
  rename_i e0 hu
  split at h
  case h_2 => cases h
  rename_i size hs
  split at h
  case isFalse => cases h
  rename_i hle
  have hle' : ¬ len * size > 2 ^ 24 := by have := Nat.le_of_ble_eq_true hle; omega
  split at h
  case h_2 => cases h
  rename_i zero hz
  split at h
  case h_2 => cases h
  rename_i cells hf
  injection h with h; injection h with h1 h2; subst h1 h2
  simp only [Instr.buildSlice, Sem.run_bind, run_underlying hu w, Result.andThen_ok, run_sizeOf hs, if_neg hle']
  by_cases h0 : len * size = 0
  · have hb : Nat.beq (len * size) 0 = true := by simp [h0]
    rw [if_pos hb] at hz
    injection hz with hz; subst hz
    simp only [if_pos h0, Sem.run_pure, Result.andThen_ok, hf, newRow, newObj, Sem.run_bind, Sem.run]; rfl
  · have hb : ¬ Nat.beq (len * size) 0 = true := by intro hh; exact h0 (Nat.eq_of_beq_eq_true hh)
    rw [if_neg hb, Option.map_eq_some_iff] at hz
    obtain ⟨z, hz1, hz2⟩ := hz
    unfold zeroT at hz1
    cases hi : P.info? e0 with
    | none => rw [hi] at hz1; cases hz1
    | some i =>
      rw [hi] at hz1
      simp only [Option.bind_some] at hz1
      subst hz2
      simp only [if_neg h0, zeroValue, typeInfo, program, Sem.run_bind, Sem.run_pure, Sem.run, Result.andThen_ok, hi, hz1, hf, newRow, newObj]; rfl

theorem run_load_agg {P : Program} {t : TypeId} {b off n : Nat} {cells : List Value} {ty : TypeId} (hh : w.heap[b]? = some (.cells cells.toArray ty (0, 0))) (ha : isAggT P t = some true) (hs : sizeT P t = some n) (hle : off + n ≤ cells.length) :
    (Instr.loadAt t (.pointer (some ⟨b, off, none⟩))).run P w = .ok (.agg ((cells.drop off).take n).toArray) w := by
  have hlen : ((cells.drop off).take n).length = n := by simp; omega
  have hl : (loadCells ⟨b, off, none⟩ n).run P w = .ok ((cells.drop off).take n).toArray w := by
    have := run_loadCells_list (P := P) w ⟨b, off, none⟩ ((cells.drop off).take n) (fun j v hv => by
      rw [Addr.add_mid]
      have hj : j < n := by have := (List.getElem?_eq_some_iff.1 hv).1; omega
      rw [List.getElem?_take_of_lt hj, List.getElem?_drop] at hv
      simp [World.cell?, hh, hv])
    rw [hlen] at this; exact this
  simp only [Instr.loadAt, Instr.sureAddr, loadVar, Sem.run_bind, Sem.run_pure, Result.andThen_ok, run_isAgg ha, if_true, run_sizeOf hs, hl]
theorem run_load_one {P : Program} {t : TypeId} {b off : Nat} {cells : List Value} {ty : TypeId} {v : Value} (hh : w.heap[b]? = some (.cells cells.toArray ty (0, 0))) (ha : isAggT P t = some false) (hv : cells[off]? = some v) :
    (Instr.loadAt t (.pointer (some ⟨b, off, none⟩))).run P w = .ok v w := by
  simp only [Instr.loadAt, Instr.sureAddr, loadVar, Sem.run_bind, Sem.run_pure, Result.andThen_ok, run_isAgg ha, Bool.false_eq_true, if_false, load, Sem.run]
  simp [World.cell?, hh, hv]
theorem run_store_box {P : Program} {t : TypeId} {b off : Nat} {cells : List Value} {ty : TypeId} {v : Value} (hh : w.heap[b]? = some (.cells cells.toArray ty (0, 0))) (hs : sizeT P t = some v.cells.size) (hle : off + v.cells.size ≤ cells.length) (h1 : v.cells.all (·.oneCell') = true) :
    (Instr.storeAt t (.pointer (some ⟨b, off, none⟩)) v).run P w = .ok () (w.setRow b (splice cells off v.cells.toList).toArray) := by
  have := run_storeCells_at (P := P) b off ty v.cells.toList 0 cells.toArray w hh (by simpa using hle) (fun u hu => (Array.all_eq_true_iff_forall_mem.1 h1) u (by simpa using hu))
  simp only [Nat.add_zero, Array.length_toList] at this
  simp only [Instr.storeAt, Instr.sureAddr, storeVar, Sem.run_bind, Sem.run_pure, Result.andThen_ok, run_sizeOf hs, ne_eq, not_true, if_false, this]
  simp [splice]
end
end Go.Sx

set_option linter.unusedVariables false
set_option maxHeartbeats 1000000
namespace Go.Sx
open Go.RowKit

section
variable {c : Cfg} {fc : Fc} {B : Nat} {S : BS} {s s0 : List SV} {a : Act} {w : World} {ρ : Nat → Nat} {o : Oper}

theorem arr_map {xs : Array Operand} {f : Operand → Value} {ys : List Value} (h : xs.toList.map f = ys) : xs.map f = ys.toArray := by
  apply Array.ext'; simp [h]
theorem run_v {P : Program} {m : Sem Value} {x : Value} {w1 : World} (h : m.run P w = .ok x w1) : ((do pure (.value (← m)) : Sem Next)).run P w = .ok (.value x) w1 := by
  simp only [Sem.run_bind, h, Result.andThen_ok, Sem.run_pure]
theorem run_u {P : Program} {m : Sem Unit} {w1 : World} (h : m.run P w = .ok () w1) : ((do m; pure .skip : Sem Next)).run P w = .ok .skip w1 := by
  simp only [Sem.run_bind, h, Result.andThen_ok, Sem.run_pure]

theorem callB_run {P : Program} {f : FuncId} {args : Array Value} (h : callB P f = true) : (callFunc f args).run P w = .ok (.enter f args) w := by
  unfold callB at h
  cases hf : P.funcs[f]? with
  | none => rw [hf] at h; cases h
  | some fn =>
    rw [hf] at h
    simp only [Bool.and_eq_true, bne_iff_ne, ne_eq] at h
    obtain ⟨h1, h2⟩ := h
    have h3 : (fn.name == "runtime.NumGoroutine") = false := by simpa using h1
    have h4 : fn.body.isNone = false := by cases hb : fn.body <;> simp [hb] at h2 ⊢
    simp only [callFunc, program, Sem.run_bind, Sem.run, Result.andThen_ok, hf, h3, h4]
    simp [Sem.run_pure]

theorem goCall_eff (hc : c.Ok) {f : FuncId} {args : List Value} {u : Out} (h : goCall c f args = some u) (hr : ∀ (w : World), callB c.P f = true → (execOp a.eval o).run c.P w = .ok (.enter f args.toArray) w) :
    Eff c.P B S s0 a w ρ o u := by
  unfold goCall at h
  split at h
  · rename_i g hg
    rw [Option.map_eq_some_iff] at h
    obtain ⟨v, hv, rfl⟩ := h
    have := hc.pure f g args v hg hv
    exact .pcall f args v f args.toArray (hr w this.1) (this.2 w)
  · rw [Option.map_eq_some_iff] at h
    obtain ⟨H, hH, rfl⟩ := h
    exact .call f args H (hr w)

theorem rd_eff {P : Program} {drawn : Bool} {m : Sem Value} {H : Hint} (h : ∀ x w1, m.run P w = .ok x w1 → (execOp a.eval o).run P w = .ok (.value x) w1) : Eff P B S s0 a w ρ o (rd drawn m H) := by
  unfold rd
  split
  · exact .loadS m H h
  · exact .prim m H h

theorem call_eff (hc : c.Ok) (hG : Gam B S s0 a w ρ) (hl : Le s s0) {drawn : Bool} {cl : Call} {u : Out} (ho : o.op = .call cl) (h : callOut c drawn s o cl = some u) : Eff c.P B S s0 a w ρ o u := by
  have hns : ∀ cs b, o.op ≠ .select cs b := fun cs b e => by rw [ho] at e; cases e
  have hb : ∀ (b : Builtin) (xs : List Value) (m : Sem Value), cl.callee = .builtin b → plains s cl.args.toList = some xs → (∀ cn, builtin b cl.argTypes o.type cn xs.toArray = (do pure (.value (← m)) : Sem Next)) →
      ∀ x w1, m.run c.P w = .ok x w1 → (execOp a.eval o).run c.P w = .ok (.value x) w1 := by
    intro b xs m hcb hx hm x w1 hr
    have hx' := plains_eval hG hl hx
    have he : cl.args.map a.eval = xs.toArray := arr_map hx'
    simp only [execOp, ho, resolve, hcb, invoke, Sem.run_bind, Sem.run_pure, Result.andThen_ok, he, hm, hr]
  unfold callOut at h
  split at h
  · -- len
    rename_i hcb
    split at h
    · split at h
      · rename_i xs hx
        rw [Option.map_eq_some_iff] at h
        obtain ⟨H, hH, rfl⟩ := h
        exact rd_eff (hb _ xs _ hcb hx (fun _ => rfl))
      · cases h
    · exact eff_pure hG hl hns h
  · -- append
    rename_i hcb
    split at h
    · rename_i x y hxy
      split at h
      · cases h
      · rename_i xv hxv
        have hargs : cl.args.map a.eval = #[a.eval x, a.eval y] := by
          rw [arr_map (ys := [a.eval x, a.eval y]) (by rw [hxy]; rfl)]
        split at h
        · rename_i e n cells hrow
          rw [Option.map_eq_some_iff] at h
          obtain ⟨H, hH, rfl⟩ := h
          cases y with
          | tmp t =>
            simp only at hrow
            rcases hl.at_ t _ hrow with h1 | h1
            · cases h1
            · refine .append _ _ xv e n cells H t h1 (fun v w1 hr => ?_)
              have hd : a.eval (.tmp t) = .slice (some ⟨ρ t, 0, none⟩) n n := hG.slot t _ h1
              simp only [execOp, ho, resolve, hcb, invoke, builtin, Sem.run_bind, Sem.run_pure, Result.andThen_ok, hargs, plain_eval hG hl hxv, hd, hr]
          | const v => cases hrow
          | global g => cases hrow
          | func f => cases hrow
        · split at h
          · rename_i yv hyv
            rw [Option.map_eq_some_iff] at h
            obtain ⟨H, hH, rfl⟩ := h
            refine .prim _ H (fun v w1 hr => ?_)
            simp only [execOp, ho, resolve, hcb, invoke, builtin, Sem.run_bind, Sem.run_pure, Result.andThen_ok, hargs, plain_eval hG hl hxv, plain_eval hG hl hyv, hr]
          · cases h
    · cases h
  all_goals (try (
    rename_i hcb
    split at h
    · rename_i xs hx
      rw [Option.map_eq_some_iff] at h
      obtain ⟨H, hH, rfl⟩ := h
      first
        | exact rd_eff (hb _ xs _ hcb hx (fun _ => rfl))
        | exact .prim _ H (hb _ xs _ hcb hx (fun _ => rfl))
    · cases h))
  · cases h
  · -- value
    rename_i f hcb
    split at h
    · rename_i fid first cap xs hf hx
      refine goCall_eff hc h (fun w' hB => ?_)
      have he : cl.args.map a.eval = xs.toArray := arr_map (plains_eval hG hl hx)
      have hfe := plain_eval hG hl hf
      simp only [execOp, ho, resolve, hcb, Deferred.ofValue, hfe, invoke, Sem.run_bind, Sem.run_pure, Result.andThen_ok, he]
      rw [callB_run hB]
      simp
    · rename_i fv hf hx
      unfold rowCall at h
      split at h
      · rename_i fid first cap
        split at h
        · rename_i he
          split at h
          · rename_i t hargs
            split at h
            · rename_i e n cells hrow
              split at h
              · rename_i g hg
                rw [Option.map_eq_some_iff] at h
                obtain ⟨v, hv, rfl⟩ := h
                obtain ⟨k1, k2⟩ := hc.pureR fid g e n cells v hg hv
                have h0 : s0[t]? = some (.row e n cells) := (hl.at_ t _ hrow).resolve_left (by simp)
                have hcell := hG.row t e n cells h0
                have hval : a.eval (.tmp t) = .slice (some ⟨ρ t, 0, none⟩) n n := hG.slot t _ h0
                have hfe := plain_eval hG hl hf
                simp only [Bool.and_eq_true, List.isEmpty_iff] at he
                have hfe' : first = #[] := by apply Array.ext'; exact he.1
                have hce' : cap = #[] := by apply Array.ext'; exact he.2
                subst hfe' hce'
                have hargs' : cl.args.map a.eval = #[.slice (some ⟨ρ t, 0, none⟩) n n] := by
                  apply Array.ext'
                  rw [Array.toList_map, hargs]; simp [hval]
                refine .pcall fid [] v fid #[.slice (some ⟨ρ t, 0, none⟩) n n] ?_ (k2 w (ρ t) hcell)
                simp only [execOp, ho, resolve, hcb, Deferred.ofValue, hfe, invoke, Sem.run_bind, Sem.run_pure, Result.andThen_ok, hargs']
                rw [callB_run k1]
                simp
              · cases h
            · cases h
          · cases h
        · cases h
      · cases h
    · cases h
  · -- invoke
    rename_i r name hcb
    split at h
    · rename_i t v xs hr hx
      split at h
      · rename_i fid hm
        refine goCall_eff hc h (fun w' hB => ?_)
        have he : cl.args.map a.eval = xs.toArray := arr_map (plains_eval hG hl hx)
        have hre := plain_eval hG hl hr
        simp only [execOp, ho, resolve, hcb, invoke, Sem.run_bind, Sem.run_pure, Result.andThen_ok, he, hre]
        have h0 : (#[Value.iface t v] ++ xs.toArray)[0]? = some (Value.iface t v) := by simp
        have h1 : (#[Value.iface t v] ++ xs.toArray).extract 1 (#[Value.iface t v] ++ xs.toArray).size = xs.toArray := by
          apply Array.ext'; simp
        simp only [h0, h1, callMethod, program, Sem.run_bind, Sem.run, Result.andThen_ok]
        rw [hc.meth t name fid hm v w']
        simp only [Result.andThen_ok]
        rw [callB_run hB]
        simp
      · cases h
    · cases h
end
end Go.Sx

set_option linter.unusedVariables false
set_option maxHeartbeats 2000000
namespace Go.Sx
open Go.RowKit

section
variable {c : Cfg} {fc : Fc} {B : Nat} {S : BS} {s s0 : List SV} {a : Act} {w : World} {ρ : Nat → Nat} {o : Oper}

/-- A slot's box, as both tell it. -/
theorem Le.some_ (hl : Le s s0) {t : Nat} {x : SV} (h : s[t]? = some x) (hx : x ≠ .any) : s0[t]? = some x := (hl.at_ t x h).resolve_left hx

theorem svO_loc (hG : Gam B S s0 a w ρ) (hl : Le s s0) {x : Operand} {j off : Nat} (h : svO s x = .loc j off) : a.eval x = .pointer (some ⟨ρ j, off, none⟩) ∧ BoxAt s0 j :=
  have k := svO_den hG hl x _ h (by simp)
  ⟨k.2.2.2.1 j off rfl, k.2.2.1 j off rfl⟩
theorem svO_v (hG : Gam B S s0 a w ρ) (hl : Le s s0) {x : Operand} {v : Value} (h : svO s x = .v v) : a.eval x = v :=
  (svO_den hG hl x _ h (by simp)).2.2.2.2 v rfl

theorem move_eff (hG : Gam B S s0 a w ρ) (hl : Le s s0) {P : Program} {x : Operand} {sv : SV} (h : svO s x = sv) (hsv : sv ≠ .any) (hr : (execOp a.eval o).run P w = .ok (.value (a.eval x)) w) : Eff P B S s0 a w ρ o (mkUpd o.dst sv) :=
  have k := svO_den hG hl x sv h hsv
  mkUpd_val hr k.1 k.2.1 k.2.2.1

theorem loc_eff {P : Program} {j off : Nat} (hb : BoxAt s0 j) (hr : (execOp a.eval o).run P w = .ok (.value (.pointer (some ⟨ρ j, off, none⟩))) w) : Eff P B S s0 a w ρ o (mkUpd o.dst (.loc j off)) :=
  mkUpd_val hr (fun _ => rfl) rfl (fun j' off' e => by injection e with e1 e2; subst e1; exact hb)
theorem v_eff {P : Program} {v : Value} (hr : (execOp a.eval o).run P w = .ok (.value v) w) : Eff P B S s0 a w ρ o (mkUpd o.dst (.v v)) :=
  mkUpd_val hr (fun _ => rfl) rfl (fun j' off' e => by cases e)
theorem lit_eff {P : Program} {b : Bool} (hr : (execOp a.eval o).run P w = .ok (.value (.bool b)) w) : Eff P B S s0 a w ρ o (mkUpd o.dst (.lit b)) :=
  mkUpd_val hr (fun _ => rfl) rfl (fun j' off' e => by cases e)

theorem run_eq_nil {P : Program} {t : TypeId} (hp : isPtrT P t = true) (p : Option Addr) : (Op.equal t (.pointer p) (.pointer none)).run P w = .ok p.isNone w := by
  unfold isPtrT at hp
  cases hu : P.underlying t with
  | none => rw [hu] at hp; cases hp
  | some d =>
    rw [hu] at hp
    cases d <;> simp at hp
    rename_i e
    have key : ∀ d : Nat, (Op.equalIn (d + 1) t (.pointer p) (.pointer none)).run P w = .ok p.isNone w := fun d => by
      simp only [Op.equalIn, Sem.run_bind, run_underlying hu w, Result.andThen_ok]
      cases p with
      | none => rfl
      | some q => rfl
    exact key 9999
theorem run_binop_nil {P : Program} {t : TypeId} (hp : isPtrT P t = true) (p : Option Addr) (x y : Operand) :
    ((do eqGuard .eql t x y (.pointer p) (.pointer none); binOp .eql t (.pointer p) (.pointer none) : Sem Value)).run P w = .ok (.bool p.isNone) w ∧
    ((do eqGuard .neq t x y (.pointer p) (.pointer none); binOp .neq t (.pointer p) (.pointer none) : Sem Value)).run P w = .ok (.bool !p.isNone) w := by
  constructor <;> simp only [eqGuard, binOp, Sem.run_bind, Sem.run_pure, Result.andThen_ok, run_eq_nil hp p, Bool.not_true, Bool.false_eq_true, if_false] <;> rfl

theorem main_eff (hc : c.Ok) (hG : Gam B S s0 a w ρ) (hl : Le s s0) {drawn : Bool} {root : Nat} {u : Out} (h : mainOut c fc drawn root s o = some u) : Eff c.P B S s0 a w ρ o u := by
  unfold mainOut at h
  split at h
  · -- box
    rename_i ty x ho
    split at h
    · rename_i d v hd hv
      have hr : (execOp a.eval o).run c.P w = .ok (.value (.pointer (some ⟨w.heap.size, 0, none⟩))) (w.alloc (.cells v.cells.toList.toArray ty)) := by
        simp only [execOp, ho, plain_eval hG hl hv]
        rw [run_v (run_box_new ty v)]
      have hnst : ∀ t a x, o.op ≠ .store t a x := fun t a x e => by rw [ho] at e; cases e
      split at h
      · injection h with h; subst h
        refine .prim _ _ (fun y w1 hr => ?_)
        simp only [execOp, ho, plain_eval hG hl hv]
        exact run_v hr
      · split at h
        · split at h
          · cases h
          · injection h with h; subst h
            exact .scrub d ty v.cells.toList hd hr
        · cases h
        · injection h with h; subst h
          exact .alloc d ty v.cells.toList hd hnst hr
        · cases h
    · cases h
  · -- alloc
    rename_i ty ho
    split at h
    · rename_i d hd
      have hnst : ∀ t a x, o.op ≠ .store t a x := fun t a x e => by rw [ho] at e; cases e
      split at h
      · injection h with h; subst h
        refine .prim _ _ (fun y w1 hr => ?_)
        simp only [execOp, ho]
        exact run_v hr
      · split at h
        · rename_i z hz
          have hr : (execOp a.eval o).run c.P w = .ok (.value (.pointer (some ⟨w.heap.size, 0, none⟩))) (w.alloc (.cells z.cells.toList.toArray ty)) := by
            simp only [execOp, ho]
            rw [run_v (run_alloc_new ty z hz)]
          split at h
          · split at h
            · cases h
            · injection h with h; subst h
              exact .scrub d ty z.cells.toList hd hr
          · cases h
          · injection h with h; subst h
            exact .alloc d ty z.cells.toList hd hnst hr
          · cases h
        · cases h
    · cases h
  · -- load
    rename_i t x ho
    split at h
    · rename_i j off hx
      obtain ⟨hev, hbx⟩ := svO_loc hG hl hx
      split at h
      · split at h
        · rename_i ty cells hs
          have hs0 := hl.some_ hs (by simp)
          have hh := hG.box _ _ _ hs0
          split at h
          · rename_i n ha hn
            split at h
            · rename_i hle
              injection h with h; subst h
              refine v_eff ?_
              simp only [execOp, ho, hev]
              exact run_v (run_load_agg hh ha hn hle)
            · cases h
          · rename_i ha hn
            split at h
            · rename_i v hv
              injection h with h; subst h
              refine v_eff ?_
              simp only [execOp, ho, hev]
              exact run_v (run_load_one hh ha hv)
            · cases h
          · cases h
        · cases h
      · cases h
    · rename_i p hx
      split at h
      · rename_i H hH
        injection h with h; subst h
        refine rd_eff (fun y w1 hr => ?_)
        simp only [execOp, ho, svO_v hG hl hx]
        exact run_v hr
      · cases h
    · cases h
  · -- store
    rename_i t x y ho
    split at h
    · rename_i j off v hx hv
      obtain ⟨hev, hbx⟩ := svO_loc hG hl hx
      split at h
      · split at h
        · rename_i ty cells hs
          have hs0 := hl.some_ hs (by simp)
          have hh := hG.box _ _ _ hs0
          split at h
          · rename_i hck
            injection h with h; subst h
            simp only [Bool.and_eq_true, beq_iff_eq] at hck
            obtain ⟨⟨⟨h1, h2⟩, h3⟩, h4⟩ := hck
            obtain ⟨n, hn⟩ := Option.isSome_iff_exists.1 h2
            rw [hn] at h1
            simp only [Option.getD_some] at h1
            refine .store j ty cells _ hs0 ?_ ⟨t, x, y, ho⟩
            simp only [execOp, ho, hev, plain_eval hG hl hv]
            exact run_u (run_store_box hh (by rw [hn, h1]) (Nat.le_of_ble_eq_true h3) h4)
          · cases h
        · cases h
      · cases h
    · rename_i p v hx hv
      injection h with h; subst h
      refine .primU _ (fun w1 hr => ?_)
      simp only [execOp, ho, svO_v hG hl hx, plain_eval hG hl hv]
      exact run_u hr
    · cases h
  · -- fieldAddr
    rename_i st x f ho
    split at h
    · rename_i j off hx
      obtain ⟨hev, hbx⟩ := svO_loc hG hl hx
      split at h
      · rename_i fs hu
        split at h
        · rename_i fd hf
          split at h
          · rename_i n hn
            injection h with h; subst h
            refine loc_eff hbx ?_
            simp only [execOp, ho, hev]
            refine run_v ?_
            simp only [Instr.fieldAt, Instr.sureAddr, Sem.run_bind, run_underlying hu w, Result.andThen_ok, hf, Sem.run_pure, fieldPlace, run_sizeOf hn, Nat.add_one_ne_zero, if_false, Addr.add_mid]
          · cases h
        · cases h
      · cases h
    · exact eff_pure hG hl (fun cs b e => by rw [ho] at e; cases e) h
    · cases h
  · -- move
    rename_i x ho
    split at h
    · cases h
    · rename_i sv hsv
      injection h with h; subst h
      exact move_eff hG hl rfl hsv (by simp only [execOp, ho, Sem.run_pure])
  · -- assign
    rename_i x ho
    split at h
    · cases h
    · rename_i sv hsv
      injection h with h; subst h
      exact move_eff hG hl rfl hsv (by simp only [execOp, ho, Sem.run_pure])
  · -- nilCheck
    rename_i x ho
    split at h
    · rename_i j off hx
      obtain ⟨hev, hbx⟩ := svO_loc hG hl hx
      injection h with h; subst h
      refine loc_eff hbx ?_
      simp only [execOp, ho, hev, Sem.run_pure]
    · exact eff_pure hG hl (fun cs b e => by rw [ho] at e; cases e) h
    · cases h
  · -- pick
    rename_i x y z ho
    split at h
    · rename_i hx
      have hev := (svO_den hG hl x _ hx (by simp)).2.2.2.2 _ rfl
      split at h
      · cases h
      · rename_i sv hsv
        injection h with h; subst h
        exact move_eff hG hl rfl hsv (by simp only [execOp, ho, hev, asBool, Sem.run_bind, Sem.run_pure, Result.andThen_ok, if_true])
    · rename_i hx
      have hev := (svO_den hG hl x _ hx (by simp)).2.2.2.2 _ rfl
      split at h
      · cases h
      · rename_i sv hsv
        injection h with h; subst h
        exact move_eff hG hl rfl hsv (by simp only [execOp, ho, hev, asBool, Sem.run_bind, Sem.run_pure, Result.andThen_ok, Bool.false_eq_true, if_false])
    · cases h
  · -- not
    rename_i t x ho
    split at h
    · rename_i b hx
      have hev := (svO_den hG hl x _ hx (by simp)).2.2.2.2 _ rfl
      injection h with h; subst h
      refine lit_eff ?_
      simp only [execOp, ho, hev]
      refine run_v ?_
      cases b <;> rfl
    · exact eff_pure hG hl (fun cs b e => by rw [ho] at e; cases e) h
  · -- binOp
    rename_i op t x y yt ho
    split at h
    · rename_i hn
      simp only [Bool.and_eq_true] at hn
      have hy : a.eval y = .pointer none := by
        have h1 := hn.1
        unfold isNilC at h1
        split at h1
        · rfl
        · cases h1
      split at h
      all_goals try (cases h; done)
      all_goals
        rename_i hx
        injection h with h; subst h
        refine lit_eff ?_
        simp only [execOp, ho, hy, plain_eval hG hl hx]
        first
          | exact run_v (run_binop_nil hn.2 none x y).1
          | exact run_v (run_binop_nil hn.2 none x y).2
          | exact run_v (run_binop_nil hn.2 (some _) x y).1
          | exact run_v (run_binop_nil hn.2 (some _) x y).2
    · split at h
      · exact eff_pure hG hl (fun cs b e => by rw [ho] at e; cases e) h
      · split at h
        · rename_i p q hx hy
          split at h
          · rename_i H hH
            injection h with h; subst h
            refine rd_eff (fun z w1 hr => ?_)
            simp only [execOp, ho, plain_eval hG hl hx, plain_eval hG hl hy]
            exact run_v hr
          · cases h
        · cases h
  · -- convert
    rename_i p q x ho
    split at h
    · exact eff_pure hG hl (fun cs b e => by rw [ho] at e; cases e) h
    · split at h
      · rename_i v hx
        rw [Option.map_eq_some_iff] at h
        obtain ⟨H, hH, rfl⟩ := h
        refine .prim _ _ (fun z w1 hr => ?_)
        simp only [execOp, ho, plain_eval hG hl hx]
        exact run_v hr
      · cases h
  · -- makeMap
    rename_i t ho
    rw [Option.map_eq_some_iff] at h
    obtain ⟨H, hH, rfl⟩ := h
    refine .prim _ _ (fun z w1 hr => ?_)
    simp only [execOp, ho]
    exact run_v hr
  · -- makeSlice
    rename_i t l n ho
    split at h
    · rename_i p q hx hy
      rw [Option.map_eq_some_iff] at h
      obtain ⟨H, hH, rfl⟩ := h
      refine .prim _ _ (fun z w1 hr => ?_)
      simp only [execOp, ho, plain_eval hG hl hx, plain_eval hG hl hy]
      exact run_v hr
    · cases h
  · -- slice
    rename_i t x lo hi ho
    split at h
    · rename_i v p q hx hlo hhi
      rw [Option.map_eq_some_iff] at h
      obtain ⟨H, hH, rfl⟩ := h
      refine rd_eff (fun z w1 hr => ?_)
      have h1 : lo.map a.eval = p := by
        cases lo with
        | none => simp at hlo; simp [hlo]
        | some l => simp only [Option.map_eq_some_iff] at hlo; obtain ⟨b, hb, rfl⟩ := hlo; simp [plain_eval hG hl hb]
      have h2 : hi.map a.eval = q := by
        cases hi with
        | none => simp at hhi; simp [hhi]
        | some l => simp only [Option.map_eq_some_iff] at hhi; obtain ⟨b, hb, rfl⟩ := hhi; simp [plain_eval hG hl hb]
      simp only [execOp, ho, plain_eval hG hl hx, h1, h2, Option.map_none]
      exact run_v hr
    · cases h
  · -- indexAddr
    rename_i t x i ho
    split at h
    · rename_i p q hx hy
      injection h with h; subst h
      refine rd_eff (fun z w1 hr => ?_)
      simp only [execOp, ho, plain_eval hG hl hx, plain_eval hG hl hy]
      exact run_v hr
    · cases h
  · -- index
    rename_i t x i ho
    split at h
    · rename_i p q hx hy
      rw [Option.map_eq_some_iff] at h
      obtain ⟨H, hH, rfl⟩ := h
      refine rd_eff (fun z w1 hr => ?_)
      simp only [execOp, ho, plain_eval hG hl hx, plain_eval hG hl hy]
      exact run_v hr
    · cases h
  · -- lookup
    rename_i t x i ok ho
    split at h
    · rename_i p q hx hy
      rw [Option.map_eq_some_iff] at h
      obtain ⟨H, hH, rfl⟩ := h
      refine rd_eff (fun z w1 hr => ?_)
      simp only [execOp, ho, plain_eval hG hl hx, plain_eval hG hl hy]
      exact run_v hr
    · cases h
  · -- mapUpdate
    rename_i t m k x ho
    split at h
    · rename_i p q v hm hk hx
      injection h with h; subst h
      refine .primU _ (fun w1 hr => ?_)
      simp only [execOp, ho, plain_eval hG hl hx, plain_eval hG hl hm, plain_eval hG hl hk]
      exact run_u hr
    · cases h
  · -- insert
    rename_i t m k x ho
    split at h
    · rename_i p q v hm hk hx
      injection h with h; subst h
      refine .primU _ (fun w1 hr => ?_)
      simp only [execOp, ho, plain_eval hG hl hx, plain_eval hG hl hm, plain_eval hG hl hk]
      exact run_u hr
    · cases h
  · -- buildSlice
    rename_i t len parts ho
    split at h
    · rename_i d vs hd hvs
      have hparts : (parts.map fun (i, x) => (i, a.eval x)) = parts.map fun p => (p.1, (plain (svO s p.2)).getD undef) := by
        apply Array.map_congr_left
        intro p hp
        obtain ⟨v, hv⟩ := plains_mem hvs p.2 (by simp; exact ⟨p.1, by simpa using hp⟩)
        simp [hv, plain_eval hG hl hv]
      split at h
      · rw [Option.map_eq_some_iff] at h
        obtain ⟨H, hH, rfl⟩ := h
        refine .prim _ _ (fun z w1 hr => ?_)
        simp only [execOp, ho, hparts]
        exact run_v hr
      · split at h
        · rename_i cs e hrow
          split at h
          · split at h
            · cases h
            · injection h with h; subst h
              refine .row d e len cs.toList hd (fun t a x e => by rw [ho] at e; cases e) ?_
              simp only [execOp, ho, hparts]
              rw [run_v (run_row hrow)]
          · cases h
        · cases h
    · cases h
  · -- call
    rename_i cl ho
    exact call_eff hc hG hl ho h
  all_goals first
    | (rename_i ho; exact eff_pure hG hl (fun cs b e => by rw [ho] at e; cases e) h)
    | (cases h)
end
end Go.Sx

set_option linter.unusedVariables false
set_option maxHeartbeats 2000000
namespace Go.Sx
open Go.RowKit

theorem mask_get (r : List Nat) (s : List SV) (t : Nat) : (mask r s)[t]? = (s[t]?).map fun x => if r.contains t then x else .any := by
  rw [mask, imap_get]; simp
theorem le_mask (r : List Nat) (s : List SV) : Le (mask r s) s := ⟨fun t x h => by
  rw [mask_get] at h
  cases hs : s[t]? with
  | none => rw [hs] at h; cases h
  | some y =>
    rw [hs] at h
    simp only [Option.map_some, Option.some.injEq] at h
    split at h
    · right; rw [h]
    · left; exact h.symm⟩
theorem le_refl (s : List SV) : Le s s := ⟨fun _ _ h => .inr h⟩
theorem mask_at {r : List Nat} {s : List SV} {t : Nat} (h : t ∈ r) : (mask r s)[t]? = s[t]? := by
  rw [mask_get]
  have hc : r.contains t = true := by simpa using h
  rw [hc]
  cases s[t]? <;> rfl

structure Agr (M : Nat → Bool) (s s' : List SV) : Prop where
  len : s'.length = s.length
  at_ : ∀ t, M t = false → s'[t]? = s[t]?
theorem Agr.refl (M : Nat → Bool) (s : List SV) : Agr M s s := ⟨rfl, fun _ _ => rfl⟩
theorem Agr.trans {M : Nat → Bool} {a b c : List SV} (h : Agr M a b) (k : Agr M b c) : Agr M a c := ⟨k.len.trans h.len, fun t ht => (k.at_ t ht).trans (h.at_ t ht)⟩
theorem Agr.set {M : Nat → Bool} {s : List SV} {d : Nat} (h : M d = true) (v : SV) : Agr M s (s.set d v) :=
  ⟨by simp, fun t ht => by rw [List.getElem?_set_ne]; rintro rfl; rw [h] at ht; cases ht⟩
theorem Agr.put {M : Nat → Bool} {s : List SV} {d : Option Nat} (h : ∀ x, d = some x → M x = true) (v : SV) : Agr M s (put d v s) := by
  cases d with
  | none => exact Agr.refl M s
  | some x => exact Agr.set (h x rfl) v
theorem Agr.scrub {M : Nat → Bool} {s : List SV} {d : Nat} (h : noLoc M d s = true) : Agr M s (scrubbed d s) :=
  ⟨by simp [scrubbed], fun t ht => by
    simp only [scrubbed, List.getElem?_map]
    cases hs : s[t]? with
    | none => rfl
    | some x =>
      simp only [Option.map_some, Option.some.injEq]
      cases x with
      | loc j off =>
        unfold noLoc at h
        have hm : ((SV.loc j off), t) ∈ s.zipIdx := by
          rw [List.mem_zipIdx_iff_getElem?]; exact hs
        have := (List.all_eq_true.1 h) _ hm
        simp only [ht, Bool.or_false, bne_iff_ne, ne_eq] at this
        simp [scrub1, this]
      | _ => rfl⟩

/-- What an operation leaves: the slots, what is owned, the world. -/
def Next1 (P : Program) (B : Nat) (R : Value → BS → World → Prop) (Γ : List Again) (M : Nat → Bool) (s : List SV) (S0 : BS) (w0 : World) (K : List SV → Tree) (a' : Act) (w' : World) : Prop :=
  ∃ s' S' Λ' ρ', Gam B S' s' a' w' ρ' ∧ Step S0 w0 S' w' ∧ Agr M s s' ∧ TT P B R (K s') Γ Λ' S' w'

/-- What is checked of what comes up, as facts on the slots. -/
structure Chk (M : Nat → Bool) (s : List SV) (o : Oper) (u : Out) : Prop where
  nb : (∀ d v, u ≠ .scrub d v) → ∀ d, o.dst = some d → ∃ sv, s[d]? = some sv ∧ isBox sv = false
  wr : ∀ d, d ∈ outWrites o u → M d = true
  own : ownSlot o u = true
  scr : ∀ d v, u = .scrub d v → noLoc M d s = true ∧ d < s.length

section
variable {P : Program} {B : Nat} {R : Value → BS → World → Prop} {Γ : List Again} {M : Nat → Bool} {S0 S : BS} {s : List SV} {a : Act} {w0 w : World} {ρ : Nat → Nat} {o : Oper} {Λ : Lam} {K : List SV → Tree} {Q : Exit → Act → World → Prop} {i : Nat} {keep : List Nat}

theorem step_alloc (hS : Step S0 w0 S w) (o : Obj) : Step S0 w0 S (w.alloc o) :=
  hS.trans ⟨⟨rfl, rfl, rfl, by simp, fun b hb _ => Below.heap_alloc w o b hb⟩, fun b hb => .inl hb, fun b hb => by rw [World.size_alloc]; exact Nat.lt_succ_of_lt (hS.lt b hb)⟩

/-- A value that came up goes into its slot. -/
theorem put_next (hΓ : ClosedΓ B Γ) {S1 : BS} {w1 : World} (hG : Gam B S1 s a w1 ρ) (hS : Step S0 w0 S1 w1) (hnb : ∀ d, o.dst = some d → ∃ sv, s[d]? = some sv ∧ isBox sv = false)
    (hM : ∀ d, o.dst = some d → M d = true) {x : Value} (ht : TT P B R (K (put o.dst (.v x) s)) Γ Λ S1 w1) : Next1 P B R Γ M s S0 w0 K (a.put o.dst x) w1 := by
  cases hd : o.dst with
  | none =>
    rw [hd] at ht
    exact ⟨s, S1, Λ, ρ, hG, hS, Agr.refl M s, ht⟩
  | some d =>
    rw [hd] at ht
    obtain ⟨sv, hs, hb⟩ := hnb d hd
    exact ⟨_, S1, Λ, ρ, hG.put (v := .v x) (List.getElem?_eq_some_iff.1 hs).1 (fun sv' hs' => by rw [hs] at hs'; injection hs' with hs'; subst hs'; exact hb) rfl rfl (fun _ _ e => by cases e), hS, Agr.set (hM d hd) _, ht⟩

theorem one_sound (hΓ : ClosedΓ B Γ) (hB : B = w0.heap.size) (hG : Gam B S s a w ρ) (hS : Step S0 w0 S w) {u : Out} (he : Eff P B S s a w ρ o u) (hC : Chk M s o u)
    (hsp : ∀ d b, u ≠ .split d b)
    (ht : TT P B R (treeOf o i keep s K (some u)) Γ Λ S w) :
    o.wp P a w (Next1 P B R Γ M s S0 w0 K) Q := by
  have nb : (∀ d v, u ≠ .scrub d v) → ∀ d, o.dst = some d → ∀ sv, s[d]? = some sv → isBox sv = false := fun h1 d hd sv hs => by
    obtain ⟨sv', hs', hb⟩ := hC.nb h1 d hd
    rw [hs] at hs'; injection hs' with hs'; subst hs'; exact hb
  have lt : (∀ d v, u ≠ .scrub d v) → ∀ d, o.dst = some d → d < s.length := fun h1 d hd => by
    obtain ⟨sv', hs', hb⟩ := hC.nb h1 d hd
    exact (List.getElem?_eq_some_iff.1 hs').1
  unfold Oper.wp
  cases he with
  | val d v x hd hr hden hnb hloc =>
    rw [hr]
    show Next1 P B R Γ M s S0 w0 K (a.put o.dst x) w
    rw [hd]
    exact ⟨_, S, Λ, ρ, hG.put (lt (fun _ _ => by simp) d hd) (nb (fun _ _ => by simp) d hd) hnb (hden d) hloc, hS, Agr.set (hC.wr d (by simp [outWrites])) v, ht⟩
  | nop x hd hr =>
    rw [hr]
    show Next1 P B R Γ M s S0 w0 K (a.put o.dst x) w
    rw [hd]
    exact ⟨s, S, Λ, ρ, hG, hS, Agr.refl M s, ht⟩
  | alloc d ty cells hd hns hr =>
    rw [hr]
    show Next1 P B R Γ M s S0 w0 K (a.put o.dst _) _
    rw [hd]
    have hg := hG.new (v := .box ty cells) (x := .pointer (some ⟨w.heap.size, 0, none⟩)) (lt (fun _ _ => by simp) d hd) (nb (fun _ _ => by simp) d hd) (.inl ⟨rfl, rfl⟩)
    exact ⟨_, S, Λ, _, hg, step_alloc hS _, Agr.set (hC.wr d (by simp [outWrites])) _, TT_ag _ hΓ (Ag.alloc hG _) ht⟩
  | row d ty n cells hd hns hr =>
    rw [hr]
    show Next1 P B R Γ M s S0 w0 K (a.put o.dst _) _
    rw [hd]
    have hg := hG.new (v := .row ty n cells) (x := .slice (some ⟨w.heap.size, 0, none⟩) n n) (lt (fun _ _ => by simp) d hd) (nb (fun _ _ => by simp) d hd) (.inr ⟨n, rfl, rfl⟩)
    exact ⟨_, S, Λ, _, hg, step_alloc hS _, Agr.set (hC.wr d (by simp [outWrites])) _, TT_ag _ hΓ (Ag.alloc hG _) ht⟩
  | scrub d ty cells hd hr =>
    rw [hr]
    show Next1 P B R Γ M s S0 w0 K (a.put o.dst _) _
    rw [hd]
    have h0 := hG.forget d
    have hdl : d < s.length := (hC.scr d _ rfl).2
    have hd' : d < ((scrubbed d s).set d .any).length := by simpa [scrubbed] using hdl
    have hg := h0.new (v := .box ty cells) (x := .pointer (some ⟨w.heap.size, 0, none⟩)) hd' (fun sv hs => by
      rw [List.getElem?_set_self (by simpa using hd')] at hs; injection hs with hs; subst hs; rfl) (.inl ⟨rfl, rfl⟩)
    rw [List.set_set] at hg
    exact ⟨_, S, Λ, _, hg, step_alloc hS _, (Agr.scrub (hC.scr d _ rfl).1).trans (Agr.set (hC.wr d (by simp [outWrites])) _), TT_ag _ hΓ (Ag.alloc hG _) ht⟩
  | store j ty cells cells' hj hr hst =>
    rw [hr]
    show Next1 P B R Γ M s S0 w0 K (a.put o.dst undef) _
    have hdn : o.dst = none := by
      have := hC.own
      obtain ⟨t, y, z, ho⟩ := hst
      simpa [ownSlot, ho] using this
    rw [hdn]
    have hbj : BoxAt s j := ⟨_, hj, rfl⟩
    have hst2 : Step S0 w0 S (w.setRow (ρ j) cells'.toArray) := by
      refine ⟨⟨hS.fr.os, hS.fr.tape, hS.fr.output, by rw [setRow_size]; exact hS.fr.size, fun b hb hs => ?_⟩, hS.new, fun b hb => by rw [setRow_size]; exact hS.lt b hb⟩
      rw [setRow_other w _ _ _ (by have := (hG.out j hbj).2; omega)]
      exact hS.fr.block b hb hs
    exact ⟨_, S, Λ, ρ, hG.store hj, hst2, Agr.set (hC.wr j (by simp [outWrites])) _, TT_ag _ hΓ (Ag.setRow hG hbj _) ht⟩
  | pcall f args v f' args' hr hcall =>
    rw [hr]
    show Calls P f' args' w _
    refine hcall.mono ?_
    rintro e w1 ⟨rfl, hb⟩
    have hst := Step.of_below hG.lt hb
    exact put_next hΓ (hG.world hst) (hS.trans hst) (hC.nb (fun _ _ => by simp)) (fun d hd => hC.wr d (by simp [outWrites, hd])) (TT_ag _ hΓ (Ag.of_below hG.base hG.lt hb) ht)
  | call f args H hr =>
    obtain ⟨hcb, hcall⟩ := ht
    rw [hr hcb]
    show Calls P f args.toArray w _
    refine (hcall w (Ag.refl B S w)).mono ?_
    rintro e w1 ⟨x, S1, rfl, hst, _, ht⟩
    simp only [H.law] at ht
    exact put_next hΓ (hG.world hst) (hS.trans hst) (hC.nb (fun _ _ => by simp)) (fun d hd => hC.wr d (by simp [outWrites, hd])) ht
  | prim m H hr =>
    obtain ⟨x, S1, w1, hm, hst, _, ht⟩ := ht w (Ag.refl B S w)
    rw [hr _ _ hm]
    simp only [H.law] at ht
    exact put_next hΓ (hG.world hst) (hS.trans hst) (hC.nb (fun _ _ => by simp)) (fun d hd => hC.wr d (by simp [outWrites, hd])) ht
  | primU m hr =>
    obtain ⟨S1, w1, hm, hst, _, ht⟩ := ht w (Ag.refl B S w)
    rw [hr _ hm]
    show Next1 P B R Γ M s S0 w0 K (a.put o.dst undef) _
    have hdn : o.dst = none := by
      have := hC.own
      simpa [ownSlot] using this
    rw [hdn]
    exact ⟨s, S1, _, ρ, hG.world hst, hS.trans hst, Agr.refl M s, ht⟩
  | append tys ty x e n cells H t hrow hr =>
    have hb : BoxAt s t := ⟨_, hrow, rfl⟩
    obtain ⟨y, S1, w1, hm, hst, _, ht⟩ := ht w (Ag.refl B S w) (ρ t) (hG.out t hb).1 (hG.out t hb).2 (hG.row _ _ _ _ hrow)
    rw [hr _ _ hm]
    simp only [H.law] at ht
    exact put_next hΓ (hG.world hst) (hS.trans hst) (hC.nb (fun _ _ => by simp)) (fun d hd => hC.wr d (by simp [outWrites, hd])) ht
  | loadS m H hr =>
    obtain ⟨x, hs, ht⟩ := ht
    rw [hr _ _ (hs w (Ag.refl B S w))]
    simp only [H.law] at ht
    exact put_next hΓ hG hS (hC.nb (fun _ _ => by simp)) (fun d hd => hC.wr d (by simp [outWrites, hd])) ht

theorem yielded_of {ops : Array Oper} {j tj : Nat} {b : Bool} (hG : Gam B S s a w ρ) (hj : dstOf ops j = some tj) (hs : s[tj]? = some (.lit b)) : yielded ops a.tmps j = some b := by
  have hd := hG.slot tj _ hs
  have hlt : tj < a.tmps.size := by rw [hG.size]; exact (List.getElem?_eq_some_iff.1 hs).1
  have h1 : a.tmps[tj]? = some (.bool b) := by
    rw [Array.getElem?_eq_getElem hlt]
    simp only [den, Array.getD_eq_getD_getElem?, Array.getElem?_eq_getElem hlt, Option.getD_some] at hd
    rw [hd]
  unfold dstOf at hj
  simp only [yielded, hj, Option.bind_some, h1]

theorem yielded_no {ops : Array Oper} {j tj : Nat} {x : Array Value} (hG : Gam B S s a w ρ) (hj : dstOf ops j = some tj) (hs : s[tj]? = some (.v (.tuple x))) : yielded ops a.tmps j = none := by
  have hd := hG.slot tj _ hs
  have hlt : tj < a.tmps.size := by rw [hG.size]; exact (List.getElem?_eq_some_iff.1 hs).1
  have h1 : a.tmps[tj]? = some (.tuple x) := by
    rw [Array.getElem?_eq_getElem hlt]
    simp only [den, Array.getD_eq_getD_getElem?, Array.getElem?_eq_getElem hlt, Option.getD_some] at hd
    rw [hd]
  unfold dstOf at hj
  simp only [yielded, hj, Option.bind_some, h1]

theorem undef_next (hΓ : ClosedΓ B Γ) (hG : Gam B S s a w ρ) (hS : Step S0 w0 S w) (hC : Chk M s o (mkUpd o.dst (.v undef))) (ht : TT P B R (treeOf o i keep s K (some (mkUpd o.dst (.v undef)))) Γ Λ S w) :
    Next1 P B R Γ M s S0 w0 K (a.put o.dst undef) w := by
  have hnsc : ∀ d v, mkUpd o.dst (.v undef) ≠ Out.scrub d v := fun d v e => by unfold mkUpd at e; split at e <;> cases e
  have hnb := hC.nb hnsc
  refine put_next hΓ hG hS hnb (fun d hd => hC.wr d (by simp [mkUpd, hd, outWrites])) (Λ := Λ) ?_
  revert ht
  unfold mkUpd
  cases hd : o.dst with
  | none => exact id
  | some d => exact id

theorem mem_rOf_dst {ops : Array Oper} {root : Nat} {d : Nat} (hd : o.dst = some d) : d ∈ rOf ops root o := by
  unfold rOf wOf
  simp [hd]
theorem mem_rOf_guard {ops : Array Oper} {root j tj : Nat} {want : Bool} (hg : o.guard = some (j, want)) (hj : dstOf ops j = some tj) : tj ∈ rOf ops root o := by
  unfold rOf
  simp [hg, hj]

theorem Chk.of {c : Cfg} {fc : Fc} {ops : Array Oper} {drawn : Bool} {root : Nat} {s1 : List SV} {u : Out} (h1 : s1 = seen drawn (rOf ops root o) s)
    (h : chkOut M drawn root s1 o u = true) : Chk M s o u := by
  unfold chkOut at h
  simp only [Bool.and_eq_true, List.all_eq_true] at h
  obtain ⟨⟨⟨ha, hb⟩, _⟩, hc⟩ := h
  have hnb : dstOk s1 o = true → ∀ d, o.dst = some d → ∃ sv, s[d]? = some sv ∧ isBox sv = false := fun hk d hd => by
    unfold dstOk at hk
    rw [hd] at hk
    simp only at hk
    have he : s1[d]? = s[d]? := by
      subst h1
      cases drawn
      · rfl
      · exact mask_at (mem_rOf_dst hd)
    rw [he] at hk
    cases hs : s[d]? with
    | none => rw [hs] at hk; cases hk
    | some sv => rw [hs] at hk; exact ⟨sv, rfl, by simpa using hk⟩
  refine ⟨fun hns d hd => ?_, fun d hd => ((ha d hd).1), hb, fun d v e => ?_⟩
  · refine hnb ?_ d hd
    cases u <;> first | exact hc | exact absurd rfl (hns _ _)
  · subst e
    simp only [Bool.and_eq_true, Bool.not_eq_true'] at hc
    obtain ⟨⟨hd, hn⟩, hlt⟩ := hc
    subst hd
    simp only [seen, Bool.false_eq_true, if_false] at h1
    subst h1
    exact ⟨hn, Nat.le_of_ble_eq_true hlt⟩

theorem op_sound {r : Rc} {ops : Array Oper} {drawn : Bool} (hP : P = r.c.P) (hc : r.c.Ok) (hΓ : ClosedΓ B Γ) (hB : B = w0.heap.size) (hG : Gam B S s a w ρ) (hS : Step S0 w0 S w)
    (ht : TT P B R (treeOf o i keep s K (outAt r drawn ops i o s)) Γ Λ S w) :
    if Region.wanted o (yielded ops a.tmps) = true then o.wp P a w (Next1 P B R Γ r.M s S0 w0 K) Q else Next1 P B R Γ r.M s S0 w0 K (a.put o.dst undef) w := by
  subst hP
  cases hout : outAt r drawn ops i o s with
  | none => rw [hout] at ht; exact ht.elim
  | some u =>
    rw [hout] at ht
    unfold outAt outOf at hout
    generalize hs1 : seen drawn (rOf ops (rootOf ops o) o) s = s1 at hout
    have hle : Le s1 s := by
      rw [← hs1]
      cases drawn
      · exact le_refl s
      · exact le_mask _ _
    cases hgo : guardOut ops s1 o (srcOut (isSrc ops i) (mainOut r.c r.fc drawn (rootOf ops o) s1 o)) with
    | none => rw [hgo] at hout; cases hout
    | some u0 =>
      rw [hgo] at hout
      simp only at hout
      split at hout
      case isFalse => cases hout
      rename_i hck
      injection hout with hout; subst hout
      have hC : Chk r.M s o u0 := Chk.of (c := r.c) (fc := r.fc) hs1.symm hck
      -- the operation itself
      have hmain : srcOut (isSrc ops i) (mainOut r.c r.fc drawn (rootOf ops o) s1 o) = some u0 → o.wp r.c.P a w (Next1 r.c.P B R Γ r.M s S0 w0 K) Q := by
        intro hm
        cases hu1 : mainOut r.c r.fc drawn (rootOf ops o) s1 o with
        | none => rw [hu1] at hm; cases hm
        | some u1 =>
          rw [hu1] at hm
          unfold srcOut at hm
          simp only at hm
          have he := main_eff hc hG hle hu1
          split at hm
          · split at hm
            · -- split
              rename_i d b
              injection hm with hm; subst hm
              cases he with
              | val d v x hd hr hden hnb hloc =>
                have hx : x = .bool b := hden 0
                subst hx
                unfold Oper.wp
                rw [hr]
                show Next1 r.c.P B R Γ r.M s S0 w0 K (a.put o.dst _) w
                rw [hd]
                obtain ⟨sv, hsv, hbv⟩ := hC.nb (fun _ _ => by simp) d hd
                have hdl := (List.getElem?_eq_some_iff.1 hsv).1
                have hG2 := hG.put (v := .lit b) (x := .bool b) hdl (fun sv' hs' => by rw [hsv] at hs'; injection hs' with hs'; subst hs'; exact hbv) rfl rfl (fun _ _ e => by cases e)
                cases b with
                | true => exact ⟨_, S, Λ, ρ, hG2, hS, Agr.set (hC.wr d (by simp [outWrites])) _, ht.1 rfl⟩
                | false => exact ⟨_, S, Λ, ρ, hG2, hS, Agr.set (hC.wr d (by simp [outWrites])) _, ht.2 rfl⟩
            · injection hm with hm; subst hm
              exact one_sound hΓ hB hG hS he hC (fun _ _ => by simp) ht
            · cases hm
          · injection hm with hm; subst hm
            refine one_sound hΓ hB hG hS he hC (fun d b e => ?_) ht
            subst e; cases he
      unfold guardOut at hgo
      cases hg : o.guard with
      | none =>
        rw [hg] at hgo
        simp only at hgo
        have hw : Region.wanted o (yielded ops a.tmps) = true := by simp [Region.wanted, hg]
        rw [if_pos hw]
        exact hmain hgo
      | some p =>
        obtain ⟨j, want⟩ := p
        rw [hg] at hgo
        simp only at hgo
        split at hgo
        · cases hgo
        · rename_i tj hj
          split at hgo
          · rename_i b hb
            have hsb : s[tj]? = some (.lit b) := hle.some_ hb (by simp)
            have hy := yielded_of hG hj hsb
            split at hgo
            · rename_i hbw
              have hw : Region.wanted o (yielded ops a.tmps) = true := by simp [Region.wanted, hg, hy]; simpa using hbw
              rw [if_pos hw]
              exact hmain hgo
            · rename_i hbw
              have hw : ¬ Region.wanted o (yielded ops a.tmps) = true := by simp [Region.wanted, hg, hy]; simpa using hbw
              rw [if_neg hw]
              injection hgo with hgo; subst hgo
              exact undef_next hΓ hG hS hC ht
          · rename_i x hb
            have hsb : s[tj]? = some (.v (.tuple x)) := hle.some_ hb (by simp)
            have hy := yielded_no hG hj hsb
            have hw : ¬ Region.wanted o (yielded ops a.tmps) = true := by simp [Region.wanted, hg, hy]
            rw [if_neg hw]
            injection hgo with hgo; subst hgo
            exact undef_next hΓ hG hS hC ht
          · cases hgo
end
end Go.Sx

set_option linter.unusedVariables false
set_option maxHeartbeats 2000000
namespace Go.Sx
open Go.RowKit

section
variable {P : Program} {B : Nat} {R : Value → BS → World → Prop} {Γ : List Again} {S0 S : BS} {s : List SV} {a : Act} {w0 w : World} {ρ : Nat → Nat} {Λ : Lam} {K : List SV → Tree} {Q : Exit → Act → World → Prop} {r : Rc} {ops : Array Oper}

theorem ops_sound (hP : P = r.c.P) (hc : r.c.Ok) (hΓ : ClosedΓ B Γ) (hB : B = w0.heap.size) {sI : List SV} (hQ : ∀ a' w', Next1 P B R Γ r.M sI S0 w0 K a' w' → Q .normal a' w') :
    ∀ (l : List Nat) (s : List SV) (a : Act) (w : World) (S : BS) (Λ : Lam) (ρ : Nat → Nat), Gam B S s a w ρ → Step S0 w0 S w → Agr r.M sI s → TT P B R (sxOps r ops l s K) Γ Λ S w → wpOps P ops Q l a w := by
  intro l
  induction l with
  | nil => exact fun s a w S Λ ρ hG hS hA ht => hQ a w ⟨s, S, Λ, ρ, hG, hS, hA, ht⟩
  | cons i l ih =>
    intro s a w S Λ ρ hG hS hA ht
    simp only [sxOps, forceL_eq] at ht
    simp only [wpOps]
    cases ho : ops[i]? with
    | none => rw [ho] at ht; exact ht.elim
    | some o =>
      rw [ho] at ht
      simp only at ht ⊢
      have h1 := op_sound (Q := Q) hP hc hΓ hB hG hS ht
      have hk : ∀ a' w', Next1 P B R Γ r.M s S0 w0 (fun s' => sxOps r ops l s' K) a' w' → wpOps P ops Q l a' w' := fun a' w' ⟨s', S', Λ', ρ', hG', hS', hA', ht'⟩ => ih s' a' w' S' Λ' ρ' hG' hS' (hA.trans hA') ht'
      by_cases hw : Region.wanted o (yielded ops a.tmps) = true
      · rw [if_pos hw] at h1
        rw [if_pos hw]
        exact .inl (Oper.wp_mono hk h1)
      · rw [if_neg hw] at h1
        rw [if_neg hw]
        exact hk _ _ h1

/-! ### Regions of open order -/
theorem treeOf_mono {o : Oper} {i : Nat} {keep : List Nat} {K K' : List SV → Tree} (h : ∀ s', Rfn P B R (K s') (K' s')) (u : Option Out) : Rfn P B R (treeOf o i keep s K u) (treeOf o i keep s K' u) := by
  cases u with
  | none => exact Rfn.refl _
  | some u =>
    cases u <;> simp only [treeOf, Hint.law]
    · exact h _
    · exact h _
    · exact h _
    · exact Rfn.ite (h _) (h _)
    · exact h _
    · exact Rfn.call fun _ => h _
    · exact Rfn.prim fun _ => h _
    · exact Rfn.primU (h _)
    · exact Rfn.append fun _ => h _
    · exact Rfn.loadS fun _ => h _

theorem calls_false {P : Program} {f : FuncId} {args : Array Value} {w : World} {X : Ending → World → Prop} (h : Calls P f args w X) (hx : ∀ e w', ¬ X e w') : False := by
  obtain ⟨e, w', fr, hX, _⟩ := h []
  exact hx e w' hX

theorem treeOf_stuck {o : Oper} {i : Nat} {keep : List Nat} (u : Option Out) {T' : Tree} (hcl : ∀ e n cells tys ty x H, u ≠ some (.append tys ty x e n cells H)) : Rfn P B R (treeOf o i keep s (fun _ => .stuck) u) T' := by
  intro Γ Λ S w h
  cases u with
  | none => exact h.elim
  | some u =>
    cases u <;> simp only [treeOf, Hint.law] at h
    · exact h.elim
    · exact h.elim
    · exact h.elim
    · rename_i d b
      cases b
      · exact (h.2 rfl).elim
      · exact (h.1 rfl).elim
    · exact h.elim
    · exact (calls_false (h.2 w (Ag.refl B S w)) (fun e w' ⟨x, S1, _, _, _, ht⟩ => ht)).elim
    · obtain ⟨x, S1, w1, _, _, _, ht⟩ := h w (Ag.refl B S w); exact ht.elim
    · obtain ⟨S1, w1, _, _, _, ht⟩ := h w (Ag.refl B S w); exact ht.elim
    · exact absurd rfl (hcl _ _ _ _ _ _ _)
    · obtain ⟨x, _, ht⟩ := h; exact ht.elim

def Vary (o : Oper) (root : Nat) (s s' : List SV) : Prop := s' = s ∨ ∃ d x, d ∈ wOf root o ∧ s' = s.set d x

theorem put_vary {o : Oper} {root : Nat} {s : List SV} (x : SV) : Vary o root s (put o.dst x s) := by
  cases hd : o.dst with
  | none => exact .inl rfl
  | some d => exact .inr ⟨d, x, by simp [wOf, hd], rfl⟩

theorem treeOf_congr {o : Oper} {i root : Nat} {keep : List Nat} {K K' : List SV → Tree} {u : Out} (hw : ∀ d ∈ outWrites o u, d ∈ wOf root o) (hns : ∀ d v, u ≠ .scrub d v) (h : ∀ s', Vary o root s s' → K s' = K' s') :
    treeOf o i keep s K (some u) = treeOf o i keep s K' (some u) := by
  cases u <;> simp only [treeOf, Hint.law]
  · exact h _ (.inr ⟨_, _, hw _ (by simp [outWrites]), rfl⟩)
  · exact h _ (.inl rfl)
  · exact absurd rfl (hns _ _)
  · rw [h _ (.inr ⟨_, _, hw _ (by simp [outWrites]), rfl⟩), h _ (.inr ⟨_, _, hw _ (by simp [outWrites]), rfl⟩)]
  · exact h _ (put_vary _)
  · congr 1; funext x; exact h _ (put_vary _)
  · congr 1; funext x; exact h _ (put_vary _)
  · rw [h _ (.inl rfl)]
  · congr 1; funext x; exact h _ (put_vary _)
  · congr 1; funext x; exact h _ (put_vary _)

theorem set_put {d : Nat} {v x : SV} {d' : Option Nat} (h : ∀ e, d' = some e → e ≠ d) : put d' x (s.set d v) = (put d' x s).set d v := by
  cases d' with
  | none => rfl
  | some e => exact List.set_comm _ _ (Ne.symm (h e rfl))

theorem treeOf_set {o : Oper} {i : Nat} {keep : List Nat} {K : List SV → Tree} {u : Out} {d : Nat} {v : SV} (hw : d ∉ outWrites o u) (hdst : ∀ e, o.dst = some e → e ≠ d) (hns : ∀ d v, u ≠ .scrub d v) :
    treeOf o i keep (s.set d v) K (some u) = treeOf o i keep s (fun s' => K (s'.set d v)) (some u) := by
  cases u <;> simp only [treeOf, Hint.law, set_put hdst]
  · rename_i e x
    rw [List.set_comm _ _ (fun h => hw (by simp [outWrites, h]))]
  · exact absurd rfl (hns _ _)
  · rename_i e b
    have e1 : ∀ x : SV, (s.set d v).set e x = (s.set e x).set d v := fun x => List.set_comm _ _ (fun h => hw (by simp [outWrites, h]))
    rw [e1, e1]

theorem mask_set {rr : List Nat} {d : Nat} {v : SV} (h : d ∉ rr) : mask rr (s.set d v) = mask rr s := by
  apply List.ext_getElem?
  intro t
  rw [mask_get, mask_get]
  by_cases e : d = t
  · subst e
    have hc : rr.contains d = false := by simpa using h
    rw [hc]
    by_cases hl : d < s.length
    · rw [List.getElem?_set_self hl, List.getElem?_eq_getElem hl]; rfl
    · rw [List.getElem?_eq_none (by simpa using hl), List.getElem?_eq_none (by simpa using hl)]
  · rw [List.getElem?_set_ne e]

theorem outAt_set {i : Nat} {o : Oper} {d : Nat} {v : SV} (h : d ∉ rOf ops (rootOf ops o) o) : outAt r true ops i o (s.set d v) = outAt r true ops i o s := by
  simp only [outAt, outOf, seen, if_true, mask_set h]

theorem outAt_writes {i : Nat} {o : Oper} {u : Out} {drawn : Bool} (h : outAt r drawn ops i o s = some u) : ∀ d ∈ outWrites o u, d ∈ wOf (rootOf ops o) o := by
  unfold outAt outOf at h
  split at h
  · cases h
  · split at h
    · rename_i u0 _ hck
      injection h with h; subst h
      unfold chkOut at hck
      simp only [Bool.and_eq_true, List.all_eq_true] at hck
      intro d hd
      have := (hck.1.1.1 d hd).2
      simpa using this
    · cases h

theorem wOf_sub {o : Oper} {root : Nat} {d : Nat} (h : d ∈ wOf root o) : d ∈ rOf ops root o := by
  unfold rOf
  simp [h]

theorem outAt_vary {u : Oper} {i : Nat} {o : Oper} {rt : Nat} {s' : List SV} (hv : Vary u rt s s') (hd : ∀ d ∈ wOf rt u, d ∉ rOf ops (rootOf ops o) o) : outAt r true ops i o s' = outAt r true ops i o s := by
  rcases hv with rfl | ⟨d, x, hdw, rfl⟩
  · rfl
  · exact outAt_set (hd d hdw)

/-- What is quiet comes to a change of the slots. -/
def quietF (o : Oper) : Out → Option (List SV → List SV)
  | .upd d v => some fun s => s.set d v
  | .nop => some fun s => s
  | .pcall _ _ v => some fun s => put o.dst (.v v) s
  | _ => none

theorem treeOf_quiet {o : Oper} {i : Nat} {keep : List Nat} {u : Out} {g : List SV → List SV} (h : quietF o u = some g) (s : List SV) (K : List SV → Tree) : treeOf o i keep s K (some u) = K (g s) := by
  cases u <;> simp [quietF] at h <;> subst h <;> rfl

theorem treeOf_quiet_set {o ou : Oper} {i : Nat} {keep : List Nat} {u v : Out} {root rootu : Nat} {g : List SV → List SV} (h : quietF ou v = some g) (hwv : ∀ d ∈ outWrites ou v, d ∈ wOf rootu ou) (hw : ∀ d ∈ outWrites o u, d ∈ wOf root o)
    (hns : ∀ d v, u ≠ .scrub d v) (hd : ∀ d ∈ wOf rootu ou, d ∉ wOf root o) (s : List SV) (K : List SV → Tree) :
    treeOf o i keep (g s) K (some u) = treeOf o i keep s (fun s' => K (g s')) (some u) := by
  have hdst : ∀ e, o.dst = some e → e ∈ wOf root o := fun e he => by simp [wOf, he]
  have key : ∀ d x, d ∈ wOf rootu ou → treeOf o i keep (s.set d x) K (some u) = treeOf o i keep s (fun s' => K (s'.set d x)) (some u) := fun d x hdw =>
    treeOf_set (fun hh => hd d hdw (hw d hh)) (fun e he hh => hd d hdw (hh ▸ hdst e he)) hns
  cases v <;> simp [quietF] at h <;> subst h
  · exact key _ _ (hwv _ (by simp [outWrites]))
  · rfl
  · cases hd' : ou.dst with
    | none => rfl
    | some e => exact key e _ (hwv e (by simp [outWrites, hd']))

theorem disjL_spec {xs ys : List Nat} (h : disjL xs ys = true) : ∀ d ∈ xs, d ∉ ys := fun d hd => by
  have := (List.all_eq_true.1 h) d hd
  simpa using this

theorem app_only {i : Nat} {o : Oper} {tys : Array TypeId} {ty : TypeId} {x : Value} {e : TypeId} {n : Nat} {cells : List Value} {H : Hint} {drawn : Bool} (h : outAt r drawn ops i o s = some (.append tys ty x e n cells H)) (ha : isApp o = false) : False := by
  unfold outAt outOf at h
  split at h
  · cases h
  · rename_i u hg
    split at h
    case isFalse => cases h
    injection h with h; subst h
    rename_i hck
    unfold chkOut at hck
    simp only [Bool.and_eq_true] at hck
    have := hck.1.2
    simp only [appOk, ha] at this
    cases this

theorem swap_adj {T : List Nat} {u i : Nat} (hcm : comm r ops T u i = true) (s : List SV) (K : List SV → Tree) :
    Rfn P B R (oneD r ops T u s fun s' => oneD r ops T i s' K) (oneD r ops T i s fun s' => oneD r ops T u s' K) := by
  unfold comm at hcm
  cases hou : ops[u]? with
  | none => rw [hou] at hcm; cases hcm
  | some ou =>
    cases hoi : ops[i]? with
    | none => rw [hou, hoi] at hcm; cases hcm
    | some oi =>
      rw [hou, hoi] at hcm
      simp only [Bool.and_eq_true] at hcm
      obtain ⟨⟨⟨hd1, hd2⟩, hna⟩, hcl⟩ := hcm
      have hdu := disjL_spec hd1
      have hdi := disjL_spec hd2
      cases hu : outAt r true ops u ou s with
      | none =>
        have : (oneD r ops T u s fun s' => oneD r ops T i s' K) = .stuck := by simp only [oneD, hou, hu]
        rw [this]; exact fun _ _ _ _ h => h.elim
      | some xu =>
        by_cases hfu : clsFits (clsOf r ops u ou) xu = true
        case neg =>
          have : (oneD r ops T u s fun s' => oneD r ops T i s' K) = .stuck := by simp only [oneD, hou, hu, if_neg hfu]
          rw [this]; exact fun _ _ _ _ h => h.elim
        have hnsu : ∀ d v, xu ≠ .scrub d v := fun d v e => by subst e; cases hc : clsOf r ops u ou <;> rw [hc] at hfu <;> cases hfu
        have hwu := outAt_writes hu
        have hiv : ∀ s', Vary ou (rootOf ops ou) s s' → outAt r true ops i oi s' = outAt r true ops i oi s := fun s' hv => outAt_vary hv hdu
        have huv : ∀ s', Vary oi (rootOf ops oi) s s' → outAt r true ops u ou s' = outAt r true ops u ou s := fun s' hv => outAt_vary hv hdi
        have hL : (oneD r ops T u s fun s' => oneD r ops T i s' K) = treeOf ou u (keepOf r ops T u) s (fun s' => match outAt r true ops i oi s with
            | none => .stuck
            | some x => if clsFits (clsOf r ops i oi) x then treeOf oi i (keepOf r ops T i) s' K (some x) else .stuck) (some xu) := by
          simp only [oneD, hou, hu, if_pos hfu]
          refine treeOf_congr hwu hnsu (fun s' hv => ?_)
          simp only [hoi, hiv s' hv]
          try rfl
        have hnapp : ∀ e n cells tys ty x H, some xu ≠ some (.append tys ty x e n cells H) := fun e n cells tys ty x H he => by
          injection he with he; subst he
          exact app_only hu (by simpa using hna)
        rw [hL]
        cases hi : outAt r true ops i oi s with
        | none =>
          exact treeOf_stuck _ hnapp
        | some xi =>
          simp only
          by_cases hfi : clsFits (clsOf r ops i oi) xi = true
          case neg => simp only [hfi]; exact treeOf_stuck _ hnapp
          simp only [hfi, if_true]
          have hnsi : ∀ d v, xi ≠ .scrub d v := fun d v e => by subst e; cases hc : clsOf r ops i oi <;> rw [hc] at hfi <;> cases hfi
          have hwi := outAt_writes hi
          have hRr : (oneD r ops T i s fun s' => oneD r ops T u s' K) = treeOf oi i (keepOf r ops T i) s (fun s' => treeOf ou u (keepOf r ops T u) s' K (some xu)) (some xi) := by
            simp only [oneD, hoi, hi, if_pos hfi]
            refine treeOf_congr hwi hnsi (fun s' hv => ?_)
            simp only [hou, huv s' hv, hu, if_pos hfu]
          rw [hRr]
          have hduw : ∀ d ∈ wOf (rootOf ops ou) ou, d ∉ wOf (rootOf ops oi) oi := fun d hd hh => hdu d hd (wOf_sub hh)
          have hdiw : ∀ d ∈ wOf (rootOf ops oi) oi, d ∉ wOf (rootOf ops ou) ou := fun d hd hh => hdi d hd (wOf_sub hh)
          cases hqu : quietF ou xu with
          | some g =>
            rw [treeOf_quiet hqu, treeOf_quiet_set hqu hwu hwi hnsi hduw]
            have : (fun s' => treeOf ou u (keepOf r ops T u) s' K (some xu)) = fun s' => K (g s') := by funext s'; exact treeOf_quiet hqu s' K
            rw [this]; exact Rfn.refl _
          | none =>
            cases hqi : quietF oi xi with
            | some g =>
              rw [treeOf_quiet hqi, treeOf_quiet_set hqi hwi hwu hnsu hdiw]
              have : (fun s' => treeOf oi i (keepOf r ops T i) s' K (some xi)) = fun s' => K (g s') := by funext s'; exact treeOf_quiet hqi s' K
              rw [this]; exact Rfn.refl _
            | none =>
              -- u looks
              have hu2 : ∃ m H, xu = .loadS m H ∧ clsOf r ops u ou = .look := by
                cases hcu : clsOf r ops u ou <;> rw [hcu] at hfu hcl
                · cases xu <;> simp [clsFits, quietF] at hfu hqu
                · cases xu <;> simp [clsFits, quietF] at hfu hqu
                  exact ⟨_, _, rfl, rfl⟩
                · cases hci : clsOf r ops i oi <;> rw [hci] at hcl hfi
                  · cases xi <;> simp [clsFits, quietF] at hfi hqi
                  · cases hcl
                  · cases hcl
              obtain ⟨m, H, rfl, hcu⟩ := hu2
              rw [hcu] at hcl
              have hdst : ∀ e, oi.dst = some e → ∀ e', ou.dst = some e' → e' ≠ e := fun e he e' he' hh => hduw e' (by simp [wOf, he']) (by rw [hh]; simp [wOf, he])
              have hpp : ∀ x y : SV, put oi.dst x (put ou.dst y s) = put ou.dst y (put oi.dst x s) := fun x y => by
                cases h1 : oi.dst with
                | none => rfl
                | some e => exact (set_put (fun e' he' => hdst e h1 e' he')).symm
              have hsp : ∀ (e : Nat) (x y : SV), e ∈ wOf (rootOf ops oi) oi → (put ou.dst y s).set e x = put ou.dst y (s.set e x) := fun e x y he =>
                (set_put (fun e' he' hh => hduw e' (by simp [wOf, he']) (hh ▸ he))).symm
              cases hci : clsOf r ops i oi with
              | quiet =>
                rw [hci] at hfi
                cases xi <;> simp [clsFits, quietF] at hfi hqi
              | look =>
                rw [hci] at hfi
                cases xi <;> simp [clsFits, quietF] at hfi hqi
                rename_i m' H'
                simp only [treeOf, Hint.law]
                have := swap_loadS (P := P) (B := B) (R := R) (d := u) (d' := i) (m := m) (m' := m') (H := H.E) (H' := H'.E) (fun x y => K (put oi.dst (.v (H'.E.enc y)) (put ou.dst (.v (H.E.enc x)) s)))
                refine this.trans ?_
                simp only [hpp]
                exact Rfn.refl _
              | eff =>
                rw [hci] at hcl
                simp only at hcl
                have hk : u ∈ keepOf r ops T i := by simpa using hcl
                cases xi with
                | upd d v => simp [quietF] at hqi
                | nop => simp [quietF] at hqi
                | pcall f args v => simp [quietF] at hqi
                | scrub d v => exact absurd rfl (hnsi _ _)
                | split d b =>
                  simp only [treeOf, Hint.law]
                  refine (delay_ite _ _).trans ?_
                  have hde : d ∈ wOf (rootOf ops oi) oi := hwi d (by simp [outWrites])
                  simp only [hsp d _ _ hde]
                  exact Rfn.refl _
                | call f args H' =>
                  simp only [treeOf, Hint.law]
                  refine (delay_call hk (fun x y => K (put oi.dst (.v (H'.E.enc y)) (put ou.dst (.v (H.E.enc x)) s)))).trans ?_
                  simp only [hpp]
                  exact Rfn.refl _
                | prim m' H' =>
                  simp only [treeOf, Hint.law]
                  refine (delay_prim hk (fun x y => K (put oi.dst (.v (H'.E.enc y)) (put ou.dst (.v (H.E.enc x)) s)))).trans ?_
                  simp only [hpp]
                  exact Rfn.refl _
                | primU m' =>
                  simp only [treeOf, Hint.law]
                  exact delay_primU hk _
                | append tys ty x e n cells H' =>
                  simp only [treeOf, Hint.law]
                  refine (delay_append hk (fun x y => K (put oi.dst (.v (H'.E.enc y)) (put ou.dst (.v (H.E.enc x)) s)))).trans ?_
                  simp only [hpp]
                  exact Rfn.refl _
                | loadS m' H' =>
                  simp only [treeOf, Hint.law]
                  have := swap_loadS (P := P) (B := B) (R := R) (d := u) (d' := i) (m := m) (m' := m') (H := H.E) (H' := H'.E) (fun x y => K (put oi.dst (.v (H'.E.enc y)) (put ou.dst (.v (H.E.enc x)) s)))
                  refine this.trans ?_
                  simp only [hpp]
                  exact Rfn.refl _

theorem oneD_mono {T : List Nat} {i : Nat} {K K' : List SV → Tree} (h : ∀ s', Rfn P B R (K s') (K' s')) : Rfn P B R (oneD r ops T i s K) (oneD r ops T i s K') := by
  unfold oneD
  split
  · exact Rfn.refl _
  · split
    · exact Rfn.refl _
    · split
      · exact treeOf_mono h _
      · exact Rfn.refl _

theorem bubble {T : List Nat} {i : Nat} {r2 : List Nat} : ∀ (r1 : List Nat) (s : List SV), (∀ u ∈ r1, comm r ops T u i = true) →
    Rfn P B R (sxDrawn r ops T (r1 ++ i :: r2) s K) (sxDrawn r ops T (i :: (r1 ++ r2)) s K)
  | [], s, _ => Rfn.refl _
  | u :: r1, s, h => by
    have ih := fun s' => bubble (r2 := r2) r1 s' (fun v hv => h v (by simp [hv]))
    rw [List.cons_append, List.cons_append, sxDrawn_cons, sxDrawn_cons]
    simp only [sxDrawn_cons] at ih ⊢
    refine (oneD_mono ih).trans ?_
    exact swap_adj (K := fun s' => sxDrawn r ops T (r1 ++ r2) s' K) (h u (by simp)) s
end
end Go.Sx

set_option linter.unusedVariables false
set_option maxHeartbeats 2000000
namespace Go.Sx
open Go.RowKit

section
variable {P : Program} {B : Nat} {R : Value → BS → World → Prop} {Γ : List Again} {S0 S : BS} {s : List SV} {a : Act} {w0 w : World} {ρ : Nat → Nat} {Λ : Lam} {K : List SV → Tree} {Q : Exit → Act → World → Prop} {r : Rc} {ops : Array Oper} {T : List Nat}

theorem tabOk_row (h : tabOk ops T = true) {i : Nat} {o : Oper} (ho : ops[i]? = some o) :
    (∀ d ∈ depsOf o, d < i ∧ (T.getD i 0).testBit d = true) ∧ ∀ j, j < ops.size → (T.getD i 0).testBit j = true → ∃ d ∈ depsOf o, d < i ∧ (d = j ∨ (T.getD d 0).testBit j = true) := by
  have hi : i < ops.size := (Array.getElem?_eq_some_iff.1 ho).1
  have h1 := (List.all_eq_true.1 h) i (List.mem_range.2 hi)
  rw [ho] at h1
  simp only [Bool.and_eq_true, List.all_eq_true] at h1
  refine ⟨fun d hd => ⟨Nat.le_of_ble_eq_true (h1.1 d hd).1, (h1.1 d hd).2⟩, fun j hj hb => ?_⟩
  have h2 := h1.2 j (List.mem_range.2 hj)
  rw [hb] at h2
  simp only [Bool.not_true, Bool.false_or, List.any_eq_true, Bool.and_eq_true, Bool.or_eq_true, beq_iff_eq] at h2
  obtain ⟨d, hd, hlt, hh⟩ := h2
  exact ⟨d, hd, Nat.le_of_ble_eq_true hlt, hh⟩

theorem mem_ready {listed : Array Bool} {i : Nat} : i ∈ Region.ready .any ops listed ↔ i < ops.size ∧ listed.getD i true = false ∧ ∃ o, ops[i]? = some o ∧ ∀ d ∈ depsOf o, listed.getD d false = true := by
  unfold Region.ready
  rw [List.mem_filter, List.mem_range]
  constructor
  · rintro ⟨h1, h2⟩
    simp only [Bool.and_eq_true, Bool.not_eq_true'] at h2
    obtain ⟨h2, h3⟩ := h2
    refine ⟨h1, h2, ops[i], Array.getElem?_eq_getElem h1, fun d hd => ?_⟩
    rw [Array.getElem?_eq_getElem h1] at h3
    simp only [Option.map_some, Option.getD_some, Array.all_eq_true_iff_forall_mem] at h3
    unfold depsOf at hd
    rw [List.mem_map] at hd
    obtain ⟨e, he, rfl⟩ := hd
    rw [List.mem_filter] at he
    have := h3 e (by simpa using he.1)
    simpa [he.2] using this
  · rintro ⟨h1, h2, o, ho, h3⟩
    refine ⟨h1, ?_⟩
    rw [h2, ho]
    simp only [Bool.not_false, Option.map_some, Option.getD_some, Bool.true_and, Array.all_eq_true_iff_forall_mem]
    intro e he
    by_cases hb : Region.binds .any e = true
    · have := h3 e.on (by unfold depsOf; rw [List.mem_map]; exact ⟨e, by rw [List.mem_filter]; exact ⟨by simpa using he, hb⟩, rfl⟩)
      simp [this]
    · simp [hb]

theorem pairsOk_spec {f : Nat → Nat → Bool} : ∀ {l : List Nat}, pairsOk f l = true → ∀ (r1 : List Nat) (u : Nat) (r2 : List Nat), l = r1 ++ u :: r2 → ∀ i ∈ r2, f u i = true
  | [], _, r1, u, r2, e => by cases r1 <;> cases e
  | x :: l, h, r1, u, r2, e => by
    simp only [pairsOk, Bool.and_eq_true, List.all_eq_true] at h
    cases r1 with
    | nil => injection e with e1 e2; subst e1 e2; exact h.1
    | cons y r1 => injection e with e1 e2; subst e1; exact pairsOk_spec h.2 r1 u r2 e2

theorem pairsOk_sub {f : Nat → Nat → Bool} {i : Nat} {r2 : List Nat} : ∀ {r1 : List Nat}, pairsOk f (r1 ++ i :: r2) = true → pairsOk f (r1 ++ r2) = true
  | [], h => by simp only [List.nil_append, pairsOk, Bool.and_eq_true] at h; exact h.2
  | x :: r1, h => by
    simp only [List.cons_append, pairsOk, Bool.and_eq_true, List.all_eq_true] at h ⊢
    exact ⟨fun y hy => h.1 y (by simp at hy ⊢; rcases hy with hy | hy; exact .inl hy; exact .inr (.inr hy)), pairsOk_sub h.2⟩

theorem getD_set {listed : Array Bool} {i j : Nat} {d : Bool} (hi : i < listed.size) : (listed.setIfInBounds i true).getD j d = if j = i then true else listed.getD j d := by
  by_cases h : j = i
  · subst h; simp [Array.getD_eq_getD_getElem?, hi]
  · simp [Array.getD_eq_getD_getElem?, Array.getElem?_setIfInBounds_ne (Ne.symm h), h]

theorem nd_len : ∀ (n : Nat) (l : List Nat), l.Nodup → (∀ x ∈ l, x < n) → l.length ≤ n
  | 0, l, _, h => by
    cases l with
    | nil => simp
    | cons x l => exact absurd (h x (by simp)) (by omega)
  | n + 1, l, hn, h => by
    by_cases hm : n ∈ l
    · have h1 := nd_len n (l.erase n) (hn.erase n) (fun x hx => by
        have := (hn.mem_erase_iff).1 hx
        have := h x this.2
        omega)
      rw [List.length_erase_of_mem hm] at h1
      omega
    · have h1 := nd_len n l hn (fun x hx => by
        have := h x hx
        have : x ≠ n := fun e => hm (e ▸ hx)
        omega)
      omega
theorem nd_mem {n : Nat} {l : List Nat} (hn : l.Nodup) (h : ∀ x ∈ l, x < n) (hl : l.length = n) {i : Nat} (hi : i < n) : i ∈ l := by
  refine Classical.byContradiction fun hm => ?_
  have := nd_len n (i :: l) (List.nodup_cons.2 ⟨hm, hn⟩) (fun x hx => by
    rcases List.mem_cons.1 hx with rfl | hx
    · exact hi
    · exact h x hx)
  simp at this; omega
theorem nd_mid {i : Nat} {r1 r2 : List Nat} (h : (r1 ++ i :: r2).Nodup) : i ∉ r1 ++ r2 ∧ (r1 ++ r2).Nodup := by
  rw [List.nodup_append] at h
  obtain ⟨h1, h2, h3⟩ := h
  rw [List.nodup_cons] at h2
  refine ⟨fun hm => ?_, ?_⟩
  · rcases List.mem_append.1 hm with hm | hm
    · exact h3 i hm i (by simp) rfl
    · exact h2.1 hm
  · rw [List.nodup_append]
    exact ⟨h1, h2.2, fun a ha b hb => h3 a ha b (by simp [hb])⟩

theorem drawn_any (hP : P = r.c.P) (hc : r.c.Ok) (hΓ : ClosedΓ B Γ) (hB : B = w0.heap.size) {sI : List SV} (hQ : ∀ a' w', Next1 P B R Γ r.M sI S0 w0 K a' w' → Q .normal a' w') (hT : tabOk ops T = true) :
    ∀ (fuel : Nat) (rem : List Nat) (listed : Array Bool) (s : List SV) (a : Act) (w : World) (S : BS) (Λ : Lam) (ρ : Nat → Nat),
      rem.length = fuel → rem.Nodup → listed.size = ops.size → (∀ i, i ∈ rem ↔ i < ops.size ∧ listed.getD i true = false) →
      (∀ i, i < ops.size → i ∉ rem → ∀ j, j < ops.size → (T.getD i 0).testBit j = true → j ∉ rem) →
      pairsOk (fun u i => !((T.getD u 0).testBit i) && ((T.getD i 0).testBit u || comm r ops T u i)) rem = true →
      Gam B S s a w ρ → Step S0 w0 S w → Agr r.M sI s → TT P B R (sxDrawn r ops T rem s K) Γ Λ S w → wpAny P .any ops Q fuel listed a w := by
  intro fuel
  induction fuel with
  | zero =>
    intro rem listed s a w S Λ ρ hlen hnd hsz hrem hcl hpo hG hS hA ht
    have hr : rem = [] := List.eq_nil_of_length_eq_zero hlen
    subst hr
    refine ⟨?_, hQ a w ⟨s, S, Lam.none, ρ, hG, hS, hA, ht⟩⟩
    apply List.eq_nil_iff_forall_not_mem.2
    intro i hi
    rw [mem_ready] at hi
    have := (hrem i).2 ⟨hi.1, hi.2.1⟩
    cases this
  | succ fuel ih =>
    intro rem listed s a w S Λ ρ hlen hnd hsz hrem hcl hpo hG hS hA ht
    have hdep : ∀ i o, ops[i]? = some o → (∀ d ∈ depsOf o, d ∉ rem) → ∀ j, j < ops.size → (T.getD i 0).testBit j = true → j ∉ rem := by
      intro i o ho hd j hj hb
      obtain ⟨d, hdm, hlt, hh⟩ := (tabOk_row hT ho).2 j hj hb
      have hi : i < ops.size := (Array.getElem?_eq_some_iff.1 ho).1
      rcases hh with rfl | hh
      · exact hd _ hdm
      · exact hcl d (by omega) (hd d hdm) j hj hh
    refine ⟨fun hr => ?_, fun i hi => ?_⟩
    · exfalso
      cases rem with
      | nil => cases hlen
      | cons u l =>
        have hu := (hrem u).1 (by simp)
        have hu2 : u ∈ Region.ready .any ops listed := by
          rw [mem_ready]
          refine ⟨hu.1, hu.2, ops[u], Array.getElem?_eq_getElem hu.1, fun d hd => ?_⟩
          have hrow := (tabOk_row hT (Array.getElem?_eq_getElem hu.1)).1 d hd
          have hnr : d ∉ u :: l := by
            intro hm
            rcases List.mem_cons.1 hm with rfl | hm
            · omega
            · have := pairsOk_spec hpo [] u l rfl d hm
              simp only [Bool.and_eq_true, hrow.2, Bool.not_true] at this
              exact absurd this.1 (by simp)
          have hds : d < ops.size := by omega
          have h3 : ¬ listed.getD d true = false := fun hh => hnr ((hrem d).2 ⟨hds, hh⟩)
          have h4 : listed.getD d false = listed.getD d true := by
            simp [Array.getD_eq_getD_getElem?, Array.getElem?_eq_getElem (show d < listed.size by omega)]
          rw [h4]; simpa using h3
        rw [hr] at hu2; cases hu2
    · rw [mem_ready] at hi
      obtain ⟨hil, hif, o, ho, hdeps⟩ := hi
      have him : i ∈ rem := (hrem i).2 ⟨hil, hif⟩
      have hdn : ∀ d ∈ depsOf o, d ∉ rem := fun d hd hm => by
        have h1 := (hrem d).1 hm
        have h2 := hdeps d hd
        have h4 : listed.getD d false = listed.getD d true := by
          simp [Array.getD_eq_getD_getElem?, Array.getElem?_eq_getElem (show d < listed.size by omega)]
        rw [h4, h1.2] at h2; cases h2
      obtain ⟨r1, r2, rfl⟩ := List.append_of_mem him
      have hcm : ∀ u ∈ r1, comm r ops T u i = true := fun u hu => by
        obtain ⟨p1, p2, rfl⟩ := List.append_of_mem hu
        have := pairsOk_spec hpo p1 u (p2 ++ i :: r2) (by simp) i (by simp)
        simp only [Bool.and_eq_true, Bool.or_eq_true] at this
        rcases this.2 with hb | hb
        · exact absurd (show u ∈ p1 ++ u :: p2 ++ i :: r2 by simp) (hdep i o ho hdn u ((hrem u).1 (by simp)).1 hb)
        · exact hb
      have ht2 := bubble (P := P) (B := B) (R := R) (K := K) (r := r) (ops := ops) (T := T) (i := i) (r2 := r2) r1 s hcm _ _ _ _ ht
      rw [sxDrawn_cons] at ht2
      have ht3 : TT P B R (oneD r ops T i s fun s' => sxDrawn r ops T (r1 ++ r2) s' K) Γ Λ S w := ht2
      unfold oneD at ht3
      rw [ho] at ht3
      simp only at ht3
      have hk : ∀ a' w', Next1 P B R Γ r.M s S0 w0 (fun s' => sxDrawn r ops T (r1 ++ r2) s' K) a' w' → wpAny P .any ops Q fuel (listed.setIfInBounds i true) a' w' := by
        rintro a' w' ⟨s', S', Λ', ρ', hG', hS', hA', ht'⟩
        have hnd2 := nd_mid hnd
        have hils : i < listed.size := by omega
        refine ih (r1 ++ r2) _ s' a' w' S' Λ' ρ' (by simp at hlen ⊢; omega) hnd2.2 (by simpa using hsz) (fun j => ?_) (fun j hj hnj k hk hb => ?_) (pairsOk_sub hpo) hG' hS' (hA.trans hA') ht'
        · rw [getD_set hils]
          by_cases hji : j = i
          · subst hji; simp only [if_true]
            exact ⟨fun hh => absurd hh hnd2.1, fun hh => by cases hh.2⟩
          · rw [if_neg hji, ← hrem j]
            simp [hji]
        · have hsub : ∀ x, x ∉ r1 ++ i :: r2 → x ∉ r1 ++ r2 := fun x hx hh => hx (by simp at hh ⊢; rcases hh with hh | hh; exact .inl hh; exact .inr (.inr hh))
          by_cases hji : j = i
          · subst hji
            exact hsub k (hdep j o ho hdn k hk hb)
          · refine hsub k (hcl j hj (fun hh => hnj ?_) k hk hb)
            simp at hh ⊢
            rcases hh with hh | hh | hh
            · exact .inl hh
            · exact absurd hh hji
            · exact .inr hh
      cases hout : outAt r true ops i o s with
      | none => rw [hout] at ht3; exact ht3.elim
      | some u =>
        rw [hout] at ht3
        simp only at ht3
        split at ht3
        case isFalse => exact ht3.elim
        rw [← hout] at ht3
        have h1 := op_sound (Q := Q) hP hc hΓ hB hG hS ht3
        simp only [wpOp, ho]
        by_cases hw : Region.wanted o (yielded ops a.tmps) = true
        · rw [if_pos hw] at h1
          rw [if_pos hw]
          exact .inl (Oper.wp_mono hk h1)
        · rw [if_neg hw] at h1
          rw [if_neg hw]
          exact hk _ _ h1

theorem region_sound (hP : P = r.c.P) (hmix : P.follows .mixedOrders = true) (hc : r.c.Ok) (hΓ : ClosedΓ B Γ) (hB : B = w0.heap.size) {id : Nat} {draw : Bool}
    (hQ : ∀ a' w', Next1 P B R Γ r.M s S0 w0 K a' w' → Q .normal a' w') (hG : Gam B S s a w ρ) (hS : Step S0 w0 S w) (ht : TT P B R (sxRegion r ops draw s K) Γ Λ S w) :
    (Code.region id ops draw).wp P Q a w := by
  unfold sxRegion at ht
  rw [forceL_eq] at ht
  cases draw with
  | false =>
    simp only [Bool.false_eq_true, if_false] at ht
    exact wp_region (ops_sound hP hc hΓ hB hQ _ s a w S Λ ρ hG hS (Agr.refl _ _) ht)
  | true =>
    simp only [if_true] at ht
    split at ht
    case isFalse => exact ht.elim
    rename_i hd
    simp only [drawOk, Bool.and_eq_true, decide_eq_true_eq, List.all_eq_true] at hd
    obtain ⟨⟨⟨⟨h1, h2⟩, h3⟩, h4⟩, h5⟩ := hd
    have hlen : (hoist r ops (ancTab ops)).length = ops.size := Nat.eq_of_beq_eq_true h4
    have hmem : ∀ i, i ∈ hoist r ops (ancTab ops) ↔ i < ops.size := by
      intro i
      refine ⟨fun hi => Nat.le_of_ble_eq_true (h3 i hi), fun hi => ?_⟩
      exact nd_mem h2 (fun j hj => Nat.le_of_ble_eq_true (h3 j hj)) hlen hi
    have hSd : Step S0 w0 S { w with drawn := w.drawn + 1 } := ⟨⟨hS.fr.os, hS.fr.tape, hS.fr.output, hS.fr.size, hS.fr.block⟩, hS.new, hS.lt⟩
    have hGd : Gam B S s a { w with drawn := w.drawn + 1 } ρ := ⟨hG.defers, hG.size, hG.slot, hG.box, hG.row, hG.out, hG.inj, hG.loc, hG.lt, hG.base⟩
    have hagd : Ag B S w { w with drawn := w.drawn + 1 } := ⟨rfl, rfl, rfl, Nat.le_refl _, fun _ _ => rfl⟩
    refine wp_region_any hmix (drawn_any hP hc hΓ hB hQ h1 ops.size _ _ s a _ S Λ ρ hlen h2 (by simp) (fun i => ?_) (fun i hi hn => absurd ((hmem i).2 hi) hn) h5 hGd hSd (Agr.refl _ _) (TT_ag _ hΓ hagd ht))
    rw [hmem]
    constructor
    · intro hi; exact ⟨hi, by simp [Array.getD_eq_getD_getElem?, hi]⟩
    · exact fun hh => hh.1
end
end Go.Sx

set_option linter.unusedVariables false
set_option maxHeartbeats 2000000
namespace Go.Sx
open Go.RowKit

def exOf : Ex → Exit
  | .normal => .normal
  | .exit id => .exit id
  | .ret => .ret

section
variable {P : Program} {B : Nat} {R : Value → BS → World → Prop} {S0 S : BS} {s h : List SV} {a : Act} {w0 w : World} {ρ : Nat → Nat}

theorem Gam.weak (hG : Gam B S s a w ρ) (hl : Le h s) (hlen : h.length = s.length) (hloc : ∀ (t j off : Nat), h[t]? = some (SV.loc j off) → BoxAt h j) : Gam B S h a w ρ := by
  have hb : ∀ t, BoxAt h t → BoxAt s t := fun t ⟨sv, hs, hi⟩ => ⟨sv, hl.some_ hs (by intro e; subst e; cases hi), hi⟩
  refine ⟨hG.defers, by rw [hlen]; exact hG.size, fun t sv ht => ?_, fun t ty cells ht => hG.box t ty cells (hl.some_ ht (by simp)), fun t e n cells ht => hG.row t e n cells (hl.some_ ht (by simp)), fun t ht => hG.out t (hb t ht), fun t t' ht ht' => hG.inj t t' (hb t ht) (hb t' ht'), hloc, hG.lt, hG.base⟩
  rcases hl.at_ t sv ht with rfl | h1
  · trivial
  · exact hG.slot t sv h1

theorem head_get {W slots : List Nat} {vals : List SV} {sH : List SV} (t : Nat) : (headOf W slots vals sH)[t]? = (sH[t]?).map fun x =>
    match slots.idxOf? t with
    | some k => vals.getD k .any
    | none => if W.contains t then .any else match x with
      | .loc j off => if W.contains j || slots.contains j then .any else .loc j off
      | x => x := by
  rw [headOf, imap_get, Nat.zero_add]
  try rfl

theorem idxOf?_spec {slots : List Nat} {t k : Nat} (h : slots.idxOf? t = some k) : slots[k]? = some t := by
  unfold List.idxOf? at h
  rw [List.findIdx?_eq_some_iff_getElem] at h
  obtain ⟨hk, h1, _⟩ := h
  rw [List.getElem?_eq_getElem hk]
  simpa using h1
theorem idxOf?_none {slots : List Nat} {t : Nat} (h : slots.idxOf? t = none) : slots.contains t = false := by
  unfold List.idxOf? at h
  rw [List.findIdx?_eq_none_iff] at h
  cases hc : slots.contains t with
  | false => rfl
  | true =>
    have : t ∈ slots := by simpa using hc
    have := h t this
    simp at this

theorem Gam.head (hG : Gam B S s a w ρ) {sH : List SV} {W slots : List Nat} {vals : List SV} (hlen0 : s.length = sH.length)
    (hA : ∀ t, slots.idxOf? t = none → W.contains t = false → s[t]? = sH[t]? ∨ s[t]? = (headOf W slots vals sH)[t]?) (hv : slots.map (svAt s) = vals)
    (hs : ∀ i ∈ slots, i < s.length) (hn : vals.all notLoc = true) : Gam B S (headOf W slots vals sH) a w ρ := by
  have hlen : (headOf W slots vals sH).length = s.length := by rw [headOf, imap_len]; exact hlen0.symm
  have hval : ∀ t k, slots.idxOf? t = some k → s[t]? = some (vals.getD k .any) := fun t k hk => by
    have h1 := idxOf?_spec hk
    have hm : t ∈ slots := List.mem_of_getElem? h1
    have h2 : vals[k]? = some (svAt s t) := by rw [← hv, List.getElem?_map, h1]; rfl
    rw [List.getD_eq_getElem?_getD, h2, Option.getD_some, svAt, List.getD_eq_getElem?_getD, List.getElem?_eq_getElem (hs t hm)]; rfl
  -- what the head tells of the rest
  have hrest : ∀ t x, slots.idxOf? t = none → (headOf W slots vals sH)[t]? = some x → x ≠ .any → W.contains t = false ∧ sH[t]? = some x ∧ ∀ j off, x = .loc j off → W.contains j = false ∧ slots.contains j = false := by
    intro t x hk ht hx
    rw [head_get] at ht
    cases hsh : sH[t]? with
    | none => rw [hsh] at ht; cases ht
    | some y =>
      rw [hsh] at ht
      simp only [Option.map_some, Option.some.injEq, hk] at ht
      split at ht
      · exact absurd ht.symm hx
      · rename_i hw
        refine ⟨by simpa using hw, ?_⟩
        cases y <;> simp only at ht
        all_goals first
          | (split at ht
             · exact absurd ht.symm hx
             · rename_i hj
               simp only [Bool.or_eq_true, not_or, Bool.not_eq_true] at hj
               subst ht
               exact ⟨rfl, fun j off e => by injection e with e1 e2; subst e1; exact hj⟩)
          | (subst ht; exact ⟨rfl, fun j off e => by cases e⟩)
  have hbox : ∀ j sv, slots.idxOf? j = none → W.contains j = false → s[j]? = some sv → isBox sv = true → (headOf W slots vals sH)[j]? = some sv := by
    intro j sv hk hw hs1 hb
    rcases hA j hk hw with h1 | h1
    · rw [hs1] at h1
      rw [head_get, ← h1]
      simp only [Option.map_some, hk, hw, Bool.false_eq_true, if_false]
      cases sv <;> simp [isBox] at hb <;> rfl
    · rw [← h1]; exact hs1
  refine hG.weak ⟨fun t x ht => ?_⟩ hlen (fun t j off ht => ?_)
  · by_cases hx : x = .any
    · exact .inl hx
    · right
      cases hk : slots.idxOf? t with
      | some k =>
        rw [head_get] at ht
        cases hsh : sH[t]? with
        | none => rw [hsh] at ht; cases ht
        | some y =>
          rw [hsh] at ht
          simp only [Option.map_some, Option.some.injEq, hk] at ht
          rw [hval t k hk, ht]
      | none =>
        obtain ⟨h1, h2, _⟩ := hrest t x hk ht hx
        rcases hA t hk h1 with h3 | h3
        · rw [h3, h2]
        · rw [h3, ht]
  · cases hk : slots.idxOf? t with
    | some k =>
      rw [head_get] at ht
      cases hsh : sH[t]? with
      | none => rw [hsh] at ht; cases ht
      | some y =>
        rw [hsh] at ht
        simp only [Option.map_some, Option.some.injEq, hk] at ht
        have h1 := idxOf?_spec hk
        have hkl : k < vals.length := by rw [← hv, List.length_map]; exact (List.getElem?_eq_some_iff.1 h1).1
        have := (List.all_eq_true.1 hn) (vals.getD k .any) (by rw [List.getD_eq_getElem?_getD, List.getElem?_eq_getElem hkl]; simp)
        rw [ht] at this; cases this
    | none =>
      obtain ⟨h1, h2, h3⟩ := hrest t _ hk ht (by simp)
      obtain ⟨hjw, hjs⟩ := h3 j off rfl
      have hst : s[t]? = some (.loc j off) := by
        rcases hA t hk h1 with h4 | h4
        · rw [h4, h2]
        · rw [h4, ht]
      obtain ⟨sv, hs1, hs2⟩ := hG.loc t j off hst
      have hj0 : slots.idxOf? j = none := by
        cases hq : slots.idxOf? j with
        | none => rfl
        | some q =>
          have := List.mem_of_getElem? (idxOf?_spec hq)
          have hc : slots.contains j = true := by simpa using this
          rw [hjs] at hc; cases hc
      exact ⟨sv, hbox j sv hj0 hjw hs1 hs2, hs2⟩

/-- Slots that point into a box that may be written may be written. -/
def NoL (M : Nat → Bool) (s : List SV) : Prop := ∀ (t j off : Nat), s[t]? = some (SV.loc j off) → M j = true → M t = true
theorem NoL.agr {M : Nat → Bool} {s s' : List SV} (h : NoL M s) (hA : Agr M s s') : NoL M s' := fun t j off ht hj => by
  cases hm : M t with
  | true => rfl
  | false =>
    rw [hA.at_ t hm] at ht
    rw [h t j off ht hj] at hm; cases hm

theorem code_sound {c : Cfg} {fc : Fc} (hP : P = c.P) (hmix : P.follows .mixedOrders = true) (hc : c.Ok) (hB : B = w0.heap.size) :
    ∀ (code : Code) (M : Nat → Bool) (dp blk : Nat) (K : Ex → Nat → List SV → Tree) (Q : Exit → Act → World → Prop) (s : List SV) (a : Act) (w : World) (S : BS) (Λ : Lam) (ρ : Nat → Nat) (Γ : List Again),
      Γ.length = dp → ClosedΓ B Γ → NoL M s → Gam B S s a w ρ → Step S0 w0 S w → TT P B R (sxCode c fc code M dp blk K s) Γ Λ S w →
      (∀ e Δ s' a' w' S' Λ' ρ', Gam B S' s' a' w' ρ' → Step S0 w0 S' w' → Agr M s s' → ClosedΓ B (Δ ++ Γ) → TT P B R (K e (Δ.length + dp) s') (Δ ++ Γ) Λ' S' w' → Q (exOf e) a' w') →
      code.wp P Q a w := by
  intro code
  induction code with
  | skip =>
    intro M dp blk K Q s a w S Λ ρ Γ hd hΓ hN hG hS ht hQ
    exact wp_skip (hQ .normal [] s a w S Λ ρ hG hS (Agr.refl _ _) hΓ (by simpa [sxCode] using ht))
  | region id ops draw =>
    intro M dp blk K Q s a w S Λ ρ Γ hd hΓ hN hG hS ht hQ
    simp only [sxCode] at ht
    refine region_sound (r := ⟨c, fc, M⟩) hP hmix hc hΓ hB (fun a' w' hn => ?_) hG hS ht
    obtain ⟨s', S', Λ', ρ', hG', hS', hA', ht'⟩ := hn
    exact hQ .normal [] s' a' w' S' Λ' ρ' hG' hS' hA' hΓ (by simpa using ht')
  | seq x y ihx ihy =>
    intro M dp blk K Q s a w S Λ ρ Γ hd hΓ hN hG hS ht hQ
    simp only [sxCode] at ht
    refine wp_seq (ihx M dp blk _ _ s a w S Λ ρ Γ hd hΓ hN hG hS ht (fun e Δ s' a' w' S' Λ' ρ' hG' hS' hA' hΓ' ht' => ?_))
    cases e with
    | normal =>
      show Code.wp P y Q a' w'
      refine ihy M (Δ.length + dp) blk K Q s' a' w' S' Λ' ρ' (Δ ++ Γ) (by simp [hd]) hΓ' (hN.agr hA') hG' hS' ht' (fun e2 Δ2 s2 a2 w2 S2 Λ2 ρ2 hG2 hS2 hA2 hΓ2 ht2 => ?_)
      refine hQ e2 (Δ2 ++ Δ) s2 a2 w2 S2 Λ2 ρ2 hG2 hS2 (hA'.trans hA2) (by rw [List.append_assoc]; exact hΓ2) ?_
      rw [List.append_assoc, List.length_append, Nat.add_assoc]; exact ht2
    | exit id => exact hQ (.exit id) Δ s' a' w' S' Λ' ρ' hG' hS' hA' hΓ' ht'
    | ret => exact hQ .ret Δ s' a' w' S' Λ' ρ' hG' hS' hA' hΓ' ht'
  | cond x y z ihy ihz =>
    intro M dp blk K Q s a w S Λ ρ Γ hd hΓ hN hG hS ht hQ
    simp only [sxCode] at ht
    split at ht
    · rename_i hx
      have hev := (svO_den hG (le_refl s) x _ hx (by simp)).2.2.2.2 _ rfl
      exact wp_cond_true hev (ihy M dp blk K Q s a w S Λ ρ Γ hd hΓ hN hG hS ht hQ)
    · rename_i hx
      have hev := (svO_den hG (le_refl s) x _ hx (by simp)).2.2.2.2 _ rfl
      exact wp_cond_false hev (ihz M dp blk K Q s a w S Λ ρ Γ hd hΓ hN hG hS ht hQ)
    · rename_i t hx
      have hev := (svO_den hG (le_refl s) x _ hx (by simp)).2.2.2.2 _ rfl
      exact wp_cond_split hev (fun h => ihy M dp blk K Q s a w S Λ ρ Γ hd hΓ hN hG hS (ht.1 h) hQ) (fun h => ihz M dp blk K Q s a w S Λ ρ Γ hd hΓ hN hG hS (ht.2 h) hQ)
    · exact ht.elim
  | block id x ih =>
    intro M dp blk K Q s a w S Λ ρ Γ hd hΓ hN hG hS ht hQ
    simp only [sxCode] at ht
    refine wp_block (ih M dp id _ _ s a w S Λ ρ Γ hd hΓ hN hG hS ht (fun e Δ s' a' w' S' Λ' ρ' hG' hS' hA' hΓ' ht' => ?_))
    cases e with
    | normal => exact hQ .normal Δ s' a' w' S' Λ' ρ' hG' hS' hA' hΓ' ht'
    | exit i =>
      simp only at ht'
      show if i = id then Q .normal a' w' else Q (.exit i) a' w'
      by_cases hi : i = id
      · rw [if_pos hi]
        subst hi
        rw [if_pos (by simp)] at ht'
        exact hQ .normal Δ s' a' w' S' Λ' ρ' hG' hS' hA' hΓ' ht'
      · rw [if_neg hi]
        rw [if_neg (by simpa using hi)] at ht'
        exact hQ (.exit i) Δ s' a' w' S' Λ' ρ' hG' hS' hA' hΓ' ht'
    | ret => exact hQ .ret Δ s' a' w' S' Λ' ρ' hG' hS' hA' hΓ' ht'
  | exit id =>
    intro M dp blk K Q s a w S Λ ρ Γ hd hΓ hN hG hS ht hQ
    exact wp_exit (hQ (.exit id) [] s a w S Λ ρ hG hS (Agr.refl _ _) hΓ (by simpa [sxCode] using ht))
  | ret =>
    intro M dp blk K Q s a w S Λ ρ Γ hd hΓ hN hG hS ht hQ
    exact wp_ret (hQ .ret [] s a w S Λ ρ hG hS (Agr.refl _ _) hΓ (by simpa [sxCode] using ht))
  | loop x ih =>
    intro M dp blk K Q s a w S Λ ρ Γ hd hΓ hN hG hS ht hQ
    simp only [sxCode] at ht
    cases hlk : fc.lh.lookup blk with
    | none => rw [hlk] at ht; exact ht.elim
    | some H =>
      rw [hlk] at ht
      simp only at ht
      split at ht
      case isFalse => exact ht.elim
      rename_i hck
      simp only [Bool.and_eq_true, List.all_eq_true] at hck
      obtain ⟨hsl, hWM⟩ := hck
      obtain ⟨Inv, μ, hcl, ⟨l0, hl0, hI0⟩, hbody⟩ := ht
      have hlt : ∀ i ∈ H.slots, i < s.length := fun i hi => Nat.le_of_ble_eq_true (hsl i hi).2
      have hslW : ∀ i ∈ H.slots, (wCode x).contains i = true := fun i hi => (hsl i hi).1.2
      generalize hM' : (fun i => M i && (wCode x).contains i) = M' at hbody
      have hM1 : ∀ t, M' t = true → M t = true := fun t ht => by subst hM'; simp only [Bool.and_eq_true] at ht; exact ht.1
      have hM2 : ∀ t, (wCode x).contains t = true → M' t = true := fun t ht => by subst hM'; simp only [Bool.and_eq_true]; exact ⟨hWM t (by simpa using ht), ht⟩
      have hM3 : ∀ t, M' t = true → (wCode x).contains t = true := fun t ht => by subst hM'; simp only [Bool.and_eq_true] at ht; exact ht.2
      have hns : ∀ t, (wCode x).contains t = false → H.slots.idxOf? t = none := fun t ht => by
        cases hq : H.slots.idxOf? t with
        | none => rfl
        | some q => rw [hslW t (List.mem_of_getElem? (idxOf?_spec hq))] at ht; cases ht
      have hnl : ∀ l S1 w1, Inv l S1 w1 → (∀ b, S1 b → b < w1.heap.size) → (H.emb l).all notLoc = true ∧ TT P B R (sxCode c fc x M' (dp + 1) blk (fun e dp' s' => match e with
              | .normal => .again (dp' - (dp + 1)) (H.slots.map (svAt s'))
              | e => K e dp' s') (headOf (wCode x) H.slots (H.emb l) s)) ((fun vals S2 w2 => ∃ l', vals = H.emb l' ∧ Inv l' S2 w2 ∧ μ l' S2 w2 < μ l S1 w1) :: Γ) Lam.none S1 w1 := fun l S1 w1 hi hS1 => by
        have hb := hbody l S1 w1 hi hS1
        simp only at hb
        split at hb
        · rename_i hk
          simp only [Bool.and_eq_true] at hk
          exact ⟨hk.2, hb⟩
        · exact hb.elim
      -- the head's frame
      have hfr : ∀ vals t, M' t = false → (headOf (wCode x) H.slots vals s)[t]? = s[t]? ∨ ∃ j off, s[t]? = some (.loc j off) ∧ M j = true := by
        intro vals t ht
        have hw : (wCode x).contains t = false := by
          cases hc : (wCode x).contains t with
          | false => rfl
          | true => rw [hM2 t hc] at ht; cases ht
        rw [head_get]
        cases hst : s[t]? with
        | none => exact .inl rfl
        | some y =>
          simp only [Option.map_some, hns t hw, hw, Bool.false_eq_true, if_false]
          cases y with
          | loc j off =>
            simp only
            split
            · rename_i hj
              refine .inr ⟨j, off, rfl, ?_⟩
              rw [Bool.or_eq_true] at hj
              rcases hj with hj | hj
              · exact hM1 j (hM2 j hj)
              · exact hM1 j (hM2 j (hslW j (by simpa using hj)))
            · exact .inl rfl
          | _ => exact .inl rfl
      have hNh : ∀ vals, (vals.all notLoc = true) → NoL M' (headOf (wCode x) H.slots vals s) := by
        intro vals hn t j off ht hj
        cases hmt : M' t with
        | true => rfl
        | false =>
          have hw : (wCode x).contains t = false := by
            cases hc : (wCode x).contains t with
            | false => rfl
            | true => rw [hM2 t hc] at hmt; cases hmt
          rw [head_get] at ht
          cases hst : s[t]? with
          | none => rw [hst] at ht; cases ht
          | some y =>
            rw [hst] at ht
            simp only [Option.map_some, hns t hw, hw, Bool.false_eq_true, if_false, Option.some.injEq] at ht
            cases y <;> simp only at ht
            all_goals first
              | (cases ht; done)
              | skip
            split at ht
            · cases ht
            · rename_i hjw
              injection ht with e1 e2; subst e1
              simp only [Bool.or_eq_true, not_or, Bool.not_eq_true] at hjw
              rw [hM3 _ hj] at hjw
              exact absurd hjw.1 (by simp)
      have hlenh : ∀ vals, (headOf (wCode x) H.slots vals s).length = s.length := fun vals => imap_len _ _ _
      let J : Nat → Act → World → Prop := fun n a w => ∃ l S1 ρ1, Inv l S1 w ∧ μ l S1 w = n ∧ Gam B S1 (headOf (wCode x) H.slots (H.emb l) s) a w ρ1 ∧ Step S0 w0 S1 w
      refine wp_loop_ghost J (μ l0 S w) ⟨l0, S, ρ, hI0, rfl, ?_, hS⟩ ?_
      · exact hG.head rfl (fun _ _ _ => .inl rfl) hl0 hlt (hnl l0 S w hI0 hG.lt).1
      · rintro n a1 w1 ⟨l, S1, ρ1, hI, hμ, hG1, hS1⟩
        obtain ⟨hnl1, ht1⟩ := hnl l S1 w1 hI hG1.lt
        refine ih M' (dp + 1) blk _ _ _ a1 w1 S1 Lam.none ρ1 _ (by simp [hd]) ?_ (hNh _ hnl1) hG1 hS1 ht1 (fun e Δ s' a' w' S' Λ' ρ' hG' hS' hA' hΓ' ht' => ?_)
        · intro A hA vals S2 w2 w3 hAv hag
          rcases List.mem_cons.1 hA with rfl | hA
          · obtain ⟨l', h1, h2, h3⟩ := hAv
            have := hcl l' S2 w2 w3 h2 hag
            exact ⟨l', h1, this.1, by rw [this.2]; exact h3⟩
          · exact hΓ A hA vals S2 w2 w3 hAv hag
        · have hlen' : s'.length = s.length := by rw [hA'.len, hlenh]
          have hAs : Agr M s s' := ⟨hlen', fun t ht => by
            have hm : M' t = false := by
              cases hc : M' t with
              | false => rfl
              | true => rw [hM1 t hc] at ht; cases ht
            rw [hA'.at_ t hm]
            rcases hfr (H.emb l) t hm with h1 | ⟨j, off, h1, h2⟩
            · exact h1
            · rw [hN t j off h1 h2] at ht; cases ht⟩
          have hcons : Δ ++ (fun vals S2 w2 => ∃ l', vals = H.emb l' ∧ Inv l' S2 w2 ∧ μ l' S2 w2 < μ l S1 w1) :: Γ = (Δ ++ [fun vals S2 w2 => ∃ l', vals = H.emb l' ∧ Inv l' S2 w2 ∧ μ l' S2 w2 < μ l S1 w1]) ++ Γ := by simp
          have hdl : Δ.length + (dp + 1) = (Δ ++ [fun vals S2 w2 => ∃ l', vals = H.emb l' ∧ Inv l' S2 w2 ∧ μ l' S2 w2 < μ l S1 w1]).length + dp := by simp; omega
          cases e with
          | normal =>
            show ∃ m, m < n ∧ J m a' w'
            simp only at ht'
            obtain ⟨A, hA, hAv⟩ := ht'
            have hidx : Δ.length + (dp + 1) - (dp + 1) = Δ.length := by omega
            rw [hidx] at hA
            rw [List.getElem?_append_right (Nat.le_refl _)] at hA
            simp only [Nat.sub_self, List.getElem?_cons_zero, Option.some.injEq] at hA
            subst hA
            obtain ⟨l', hv, hI', hlt'⟩ := hAv
            refine ⟨_, by rw [← hμ]; exact hlt', l', S', ρ', hI', rfl, ?_, hS'⟩
            refine hG'.head hlen' (fun t hk hw => ?_) hv (fun i hi => by rw [hlen']; exact hlt i hi) (hnl l' S' w' hI' hG'.lt).1
            right
            have hm : M' t = false := by
              cases hc : M' t with
              | false => rfl
              | true => rw [hM3 t hc] at hw; cases hw
            rw [hA'.at_ t hm, head_get, head_get]
            simp only [hk, hw, Bool.false_eq_true, if_false]
          | exit id =>
            refine hQ (.exit id) _ s' a' w' S' Λ' ρ' hG' hS' hAs (by rw [← hcons]; exact hΓ') ?_
            rw [← hcons, ← hdl]; exact ht'
          | ret =>
            refine hQ .ret _ s' a' w' S' Λ' ρ' hG' hS' hAs (by rw [← hcons]; exact hΓ') ?_
            rw [← hcons, ← hdl]; exact ht'
  | _ => intro M dp blk K Q s a w S Λ ρ Γ hd hΓ hN hG hS ht hQ; exact ht.elim
end
end Go.Sx

set_option linter.unusedVariables false
set_option maxHeartbeats 2000000
namespace Go.Sx
open Go.RowKit

section
variable {P : Program} {B : Nat} {R : Value → BS → World → Prop} {S0 S : BS} {s : List SV} {a : Act} {w0 w : World} {ρ : Nat → Nat}

theorem res_run (hG : Gam B S s a w ρ) (f : ResultVar → Sem Value) (hf : ∀ u, f (.tmp u) = pure (a.tmps.getD u undef)) (hc : ∀ x t, f (.cell x t) = (do loadVar t (← asAddr (a.tmps.getD x undef)))) :
    ∀ (rs : List ResultVar) (vs : List Value), rs.mapM (resOf P s) = some vs → (rs.mapM f).run P w = .ok vs w := by
  intro rs
  induction rs with
  | nil => intro vs h; simp at h; subst h; simp
  | cons x rs ih =>
    intro vs h
    simp only [List.mapM_cons, Option.bind_eq_bind, Option.bind_eq_some_iff, Option.pure_def, Option.some.injEq] at h
    obtain ⟨v, hv, vs', hvs, rfl⟩ := h
    have ih' := ih vs' hvs
    cases x with
    | tmp t =>
      have hval : a.tmps.getD t undef = v := by
        simp only [resOf] at hv
        split at hv
        · rename_i y hs; injection hv with hv; subst hv; exact hG.slot t _ hs
        · rename_i b hs; injection hv with hv; subst hv; exact hG.slot t _ hs
        · cases hv
      simp [List.mapM_cons, hf, ih', hval]
    | cell x t =>
      simp only [resOf] at hv
      split at hv
      · rename_i ty cells hs
        have hp : a.tmps.getD x undef = .pointer (some ⟨ρ x, 0, none⟩) := hG.slot x _ hs
        have hh := hG.box _ _ _ hs
        have hrun : (loadVar t ⟨ρ x, 0, none⟩).run P w = .ok v w := by
          have key : ∀ v', (Instr.loadAt t (.pointer (some ⟨ρ x, 0, none⟩))).run P w = .ok v' w → (loadVar t ⟨ρ x, 0, none⟩).run P w = .ok v' w := fun v' h => by
            simpa only [Instr.loadAt, Instr.sureAddr, Sem.run_bind, Sem.run_pure, Result.andThen_ok] using h
          split at hv
          · rename_i n ha hn
            split at hv
            · rename_i hle
              injection hv with hv; subst hv
              have hle := Nat.eq_of_beq_eq_true hle
              have := run_load_agg (off := 0) hh ha hn (by omega)
              rw [List.drop_zero, List.take_of_length_le (by omega)] at this
              exact key _ this
            · cases hv
          · rename_i ha hn
            exact key _ (run_load_one (off := 0) hh ha hv)
          · cases hv
        rw [List.mapM_cons, hc, hp]
        simp [asAddr, hrun, ih']
      · cases hv

theorem results_sound (hG : Gam B S s a w ρ) {fn : Func} {v : Value} (h : resultsOf P fn s = some v) : (results fn a.tmps).run P w = .ok v w := by
  unfold resultsOf at h
  have hl : fn.results = fn.results.toList.toArray := rfl
  unfold results
  rw [hl, List.mapM_toArray]
  simp only [Sem.run_bind, Sem.run_map]
  split at h
  · cases h
  · rename_i v0 hm
    rw [res_run hG _ (fun u => rfl) (fun x t => rfl) _ _ hm]
    injection h with h; subst h
    simp
  · rename_i vs hne hm
    rw [res_run hG _ (fun u => rfl) (fun x t => rfl) _ _ hm]
    injection h with h; subst h
    have : vs.length ≠ 1 := by
      intro h1
      match vs, h1 with
      | [x], _ => exact hne x rfl
    simp [this]

theorem fn_calls {c : Cfg} {fc : Fc} {f : FuncId} {fn : Func} {args : List Value} (hc : c.Ok) (hmix : c.P.follows .mixedOrders = true) (hf : c.P.funcs[f]? = some fn)
    (hS : ∀ b, S b → b < w.heap.size) (ht : TT c.P w.heap.size R (sxFn c fc fn args) [] Lam.none S w) :
    Calls c.P f args.toArray w fun e w' => ∃ v S1, e = .returned v ∧ Step S w S1 w' ∧ R v S1 w' := by
  unfold sxFn at ht
  cases hb : fn.body with
  | none => rw [hb] at ht; exact ht.elim
  | some code =>
    rw [hb] at ht
    simp only at ht
    refine calls_of_wp hf hb ?_
    have hG : Gam w.heap.size S (args.map .v ++ List.replicate (fn.ntmps - args.length) (.v undef)) { tmps := args.toArray ++ Array.replicate (fn.ntmps - args.toArray.size) undef, defers := [] } w (fun _ => 0) := by
      have hnb : ∀ (t : Nat) (sv : SV), (args.map SV.v ++ List.replicate (fn.ntmps - args.length) (SV.v undef))[t]? = some sv → ∃ x, sv = .v x := fun t sv h => by
        have hm := List.mem_of_getElem? h
        rcases List.mem_append.1 hm with hm | hm
        · obtain ⟨x, _, rfl⟩ := List.mem_map.1 hm; exact ⟨x, rfl⟩
        · exact ⟨_, (List.mem_replicate.1 hm).2⟩
      have hbx : ∀ t, ¬ BoxAt (args.map SV.v ++ List.replicate (fn.ntmps - args.length) (SV.v undef)) t := fun t ⟨sv, h1, h2⟩ => by
        obtain ⟨x, rfl⟩ := hnb t sv h1; cases h2
      refine ⟨rfl, by simp, fun t sv ht => ?_, fun t ty cells ht => (by obtain ⟨x, h⟩ := hnb t _ ht; cases h), fun t e n cells ht => (by obtain ⟨x, h⟩ := hnb t _ ht; cases h), fun t hb => absurd hb (hbx t), fun t t' hb _ => absurd hb (hbx t), fun t j off ht => (by obtain ⟨x, h⟩ := hnb t _ ht; cases h), hS, Nat.le_refl _⟩
      have hlist : (args.toArray ++ Array.replicate (fn.ntmps - args.toArray.size) undef).toList = args ++ List.replicate (fn.ntmps - args.length) undef := by simp
      obtain ⟨x, rfl⟩ := hnb t sv ht
      show _ = x
      have h2 : (args ++ List.replicate (fn.ntmps - args.length) undef)[t]? = some x := by
        have : (args.map SV.v ++ List.replicate (fn.ntmps - args.length) (SV.v undef)) = (args ++ List.replicate (fn.ntmps - args.length) undef).map SV.v := by simp
        rw [this, List.getElem?_map, Option.map_eq_some_iff] at ht
        obtain ⟨y, hy, he⟩ := ht
        injection he with he; subst he; exact hy
      rw [← hlist, Array.getElem?_toList] at h2
      simp only [Array.getD_eq_getD_getElem?, h2, Option.getD_some]
    refine code_sound rfl hmix hc rfl code (fun _ => true) 0 0 _ _ _ _ w S Lam.none _ [] rfl (fun A hA => by cases hA) (fun t j off ht => by simp) hG (Step.refl hS) ht (fun e Δ s' a' w' S' Λ' ρ' hG' hS' hA' hΓ' ht' => ?_)
    have key : ∀ v, resultsOf c.P fn s' = some v → (∀ w2, Ag w.heap.size S' w' w2 → R v S' w2) → a'.defers = [] ∧ ∃ v, (results fn a'.tmps).run c.P w' = .ok v w' ∧ ∃ v1 S1, Ending.returned v = .returned v1 ∧ Step S w S1 w' ∧ R v1 S1 w' := fun v hv hR =>
      ⟨hG'.defers, v, results_sound hG' hv, v, S', rfl, hS', hR w' (Ag.refl _ _ _)⟩
    cases e with
    | normal =>
      simp only at ht'
      show bodyPost _ _ _ .normal a' w'
      split at ht'
      · rename_i v hv; exact key v hv ht'
      · exact ht'.elim
    | ret =>
      simp only at ht'
      show bodyPost _ _ _ .ret a' w'
      split at ht'
      · rename_i v hv; exact key v hv ht'
      · exact ht'.elim
    | exit id => exact ht'.elim
end
end Go.Sx

set_option linter.unusedVariables false
namespace Go.Sx
open Go.RowKit

/-! ### Rules for trees -/
def pa (b k : Nat) : Value := .pointer (some ⟨b, k, none⟩)
def iV (n : Int) : Value := .int .i64 n
structure Sl where
  a : Option Addr
  n : Nat
  c : Nat
def slV (s : Sl) : Value := .slice s.a s.n s.c
def ag (l : List Value) : Value := .agg l.toArray
def eInt : Enc := ⟨Int, .int .i64⟩
def eBool : Enc := ⟨Bool, .bool⟩
def eSl : Enc := ⟨Sl, slV⟩
def eAddr : Enc := ⟨Addr, fun a => .pointer (some a)⟩
def eBlk : Enc := ⟨Nat, fun b => .pointer (some ⟨b, 0, none⟩)⟩
def eUnit : Enc := ⟨Unit, fun _ => .tuple #[]⟩
def eAg (T : Type) (c : T → List Value) : Enc := ⟨T, fun x => ag (c x)⟩
def eTup2 (A B : Enc) : Enc := ⟨A.T × B.T, fun x => .tuple #[A.enc x.1, B.enc x.2]⟩
def eTup3 (A B C : Enc) : Enc := ⟨A.T × B.T × C.T, fun x => .tuple #[A.enc x.1, B.enc x.2.1, C.enc x.2.2]⟩
def Hint.ofE (E : Enc) : Hint := ⟨E, fun x K => K (.v (E.enc x)), fun _ _ => rfl⟩

/-- What a call gives: a value, what is owned behind it, and facts. -/
def Spec (P : Program) (f : FuncId) (args : List Value) (F : BS) (w : World) (R : Value → BS → World → Prop) : Prop :=
  callB P f = true ∧ Calls P f args.toArray w fun e w' => ∃ v F1, e = .returned v ∧ Step F w F1 w' ∧ R v F1 w'

theorem Spec.mono {P : Program} {f : FuncId} {args : List Value} {F : BS} {w : World} {R R' : Value → BS → World → Prop} (h : Spec P f args F w R) (hr : ∀ v F1 w', Step F w F1 w' → R v F1 w' → R' v F1 w') : Spec P f args F w R' :=
  ⟨h.1, h.2.mono fun _ _ ⟨v, F1, he, hs, hR⟩ => ⟨v, F1, he, hs, hr _ _ _ hs hR⟩⟩

/-- A function's tree. -/
structure FnT (c : Cfg) (f : FuncId) (args : List Value) (T : Tree) : Prop where
  cb : callB c.P f = true
  tree : ∃ fn fc, c.P.funcs[f]? = some fn ∧ sxFn c fc fn args = T

theorem fnT {c : Cfg} {f : FuncId} {args : List Value} {T : Tree} {fn : Func} {fc : Fc} (hcb : callB c.P f = true) (hf : c.P.funcs[f]? = some fn) (ht : sxFn c fc fn args = T) : FnT c f args T := ⟨hcb, fn, fc, hf, ht⟩
theorem FnT.spec {c : Cfg} {f : FuncId} {args : List Value} {T : Tree} {F : BS} {w : World} {R : Value → BS → World → Prop} (h : FnT c f args T) (hc : c.Ok) (hmix : c.P.follows .mixedOrders = true) (hF : ∀ b, F b → b < w.heap.size)
    (ht : TT c.P w.heap.size R T [] Lam.none F w) : Spec c.P f args F w R := by
  obtain ⟨hcb, fn, fc, hf, rfl⟩ := h
  exact ⟨hcb, fn_calls hc hmix hf hF ht⟩

theorem closed_nil {B : Nat} : ClosedΓ B [] := fun A hA => by cases hA

/-- A look: whatever the world that agrees, it gives v. -/
def Ld (P : Program) (S : BS) (w : World) (m : Sem Value) (v : Value) : Prop := ∀ w', (∀ b, S b → w'.heap[b]? = w.heap[b]?) → m.run P w' = .ok v w'
theorem Ld.stab {P : Program} {S : BS} {w : World} {m : Sem Value} {v : Value} (h : Ld P S w m v) (B : Nat) : Stab P B S w m v := fun w' ha => h w' fun b hb => ha.block b (.inr hb)
theorem Ld.keep {P : Program} {S : BS} {w w' : World} {m : Sem Value} {v : Value} (h : Ld P S w m v) (hb : ∀ b, S b → w'.heap[b]? = w.heap[b]?) : Ld P S w' m v := fun w2 h2 => h w2 fun b hs => (h2 b hs).trans (hb b hs)
theorem Ld.more {P : Program} {S S' : BS} {w : World} {m : Sem Value} {v : Value} (h : Ld P S w m v) (hb : ∀ b, S b → S' b) : Ld P S' w m v := fun w2 h2 => h w2 fun b hs => h2 b (hb b hs)

theorem ld_one {P : Program} {S : BS} {w : World} {b off : Nat} {ty e : TypeId} {cs : List Value} {v : Value} (hS : S b) (hh : w.heap[b]? = some (.cells cs.toArray e (0, 0))) (ha : isAggT P ty = some false) (hv : cs[off]? = some v) :
    Ld P S w (Instr.loadAt ty (pa b off)) v := fun w' h => run_load_one (by rw [h b hS]; exact hh) ha hv
theorem ld_agg {P : Program} {S : BS} {w : World} {b off n : Nat} {ty e : TypeId} {cs : List Value} (hS : S b) (hh : w.heap[b]? = some (.cells cs.toArray e (0, 0))) (ha : isAggT P ty = some true) (hn : sizeT P ty = some n) (hle : off + n ≤ cs.length) :
    Ld P S w (Instr.loadAt ty (pa b off)) (ag ((cs.drop off).take n)) := fun w' h => run_load_agg (by rw [h b hS]; exact hh) ha hn hle

section
variable {P : Program} {B : Nat} {R : Value → BS → World → Prop} {Γ : List Again} {Λ : Lam} {S : BS} {w : World}

theorem lam_none_cut : Lam.none.cut [] = Lam.none := by funext d m v; simp [Lam.cut, Lam.none]
theorem lam_cut_nil (Λ : Lam) : Λ.cut [] = Lam.none := by funext d m v; simp [Lam.cut, Lam.none]
theorem lam_none_ok {S : BS} {w : World} : Lam.none.ok P B S w := fun _ _ _ h => h.elim

theorem TT_prim_ld {m : Sem Value} {H : Enc} {k : H.T → Tree} {x : H.T} (hΓ : ClosedΓ B Γ) (hS : ∀ b, S b → b < w.heap.size) (h : Ld P S w m (H.enc x)) (hk : TT P B R (k x) Γ Lam.none S w) : TT P B R (.prim m [] H k) Γ Λ S w := by
  intro w' ha
  refine ⟨x, S, w', h.stab B w' ha, Step.refl (fun b hb => Nat.lt_of_lt_of_le (hS b hb) ha.size), ?_, ?_⟩
  · rw [lam_cut_nil]; exact lam_none_ok
  · rw [lam_cut_nil]; exact TT_ag _ hΓ ha hk

theorem TT_loadS_ld {d : Nat} {m : Sem Value} {H : Enc} {k : H.T → Tree} {x : H.T} (h : Ld P S w m (H.enc x)) (hk : TT P B R (k x) Γ (Λ.add d m (H.enc x)) S w) : TT P B R (.loadS d m H k) Γ Λ S w :=
  ⟨x, h.stab B, hk⟩

/-- A store into a block that is owned and known. -/
theorem TT_store {b off : Nat} {ty e : TypeId} {cs : List Value} {v : Value} {k : Tree} (hΓ : ClosedΓ B Γ) (hS : ∀ b, S b → b < w.heap.size) (hb : S b) (hh : w.heap[b]? = some (.cells cs.toArray e (0, 0)))
    (hs : sizeT P ty = some v.cells.size) (hle : off + v.cells.size ≤ cs.length) (h1 : v.cells.all (·.oneCell') = true)
    (hk : ∀ w1, w1.heap[b]? = some (.cells (splice cs off v.cells.toList).toArray e (0, 0)) → (∀ b', b' ≠ b → S b' → w1.heap[b']? = w.heap[b']?) → w.heap.size ≤ w1.heap.size → TT P B R k Γ Lam.none S w1) :
    TT P B R (.primU (Instr.storeAt ty (pa b off) v) [] k) Γ Λ S w := by
  intro w' ha
  have hh' : w'.heap[b]? = some (.cells cs.toArray e (0, 0)) := by rw [ha.block b (.inr hb)]; exact hh
  refine ⟨S, _, run_store_box hh' hs hle h1, ⟨⟨rfl, rfl, rfl, by simp, fun b' hb' hn => setRow_other w' _ _ _ (fun e => hn (e ▸ hb))⟩, fun _ h => .inl h, fun b' hb' => by rw [setRow_size]; exact Nat.lt_of_lt_of_le (hS b' hb') ha.size⟩, ?_, ?_⟩
  · rw [lam_cut_nil]; exact lam_none_ok
  · rw [lam_cut_nil]
    exact hk _ (setRow_heap w' _ _ _ _ _ hh') (fun b' hne hb' => by rw [setRow_other w' _ _ _ hne]; exact ha.block b' (.inr hb')) (by rw [setRow_size]; exact ha.size)

theorem Step.frame {F F1 G : BS} {w w1 : World} (h : Step F w F1 w1) (hG : ∀ b, G b → b < w.heap.size) : Step (fun b => F b ∨ G b) w (fun b => F1 b ∨ G b) w1 :=
  ⟨⟨h.fr.os, h.fr.tape, h.fr.output, h.fr.size, fun b hb hn => h.fr.block b hb (fun hf => hn (.inl hf))⟩, fun b hb => by
    rcases hb with hb | hb
    · rcases h.new b hb with h1 | h1
      · exact .inl (.inl h1)
      · exact .inr h1
    · exact .inl (.inr hb), fun b hb => by
    rcases hb with hb | hb
    · exact h.lt b hb
    · exact Nat.lt_of_lt_of_le (hG b hb) h.fr.size⟩

/-- A call over a part of what is owned. -/
theorem TT_call {f : FuncId} {args : List Value} {keep : List Nat} {H : Enc} {k : H.T → Tree} {F G : BS} {X : H.T → BS → World → Prop} (hΓ : ClosedΓ B Γ) (hFG : ∀ b, S b ↔ F b ∨ G b) (hS : ∀ b, S b → b < w.heap.size) (hd : ∀ b, G b → ¬ F b)
    (hsp : ∀ w', (∀ b, S b → w'.heap[b]? = w.heap[b]?) → w.heap.size ≤ w'.heap.size → Spec P f args F w' fun v F1 w1 => ∃ x, v = H.enc x ∧ X x F1 w1)
    (hk : ∀ x F1 w1, X x F1 w1 → (∀ b, F1 b → b < w1.heap.size) → (∀ b, F1 b → F b ∨ w.heap.size ≤ b) → (∀ b, G b → w1.heap[b]? = w.heap[b]?) → w.heap.size ≤ w1.heap.size → (Λ.cut keep).ok P B (fun b => F1 b ∨ G b) w1 ∧ TT P B R (k x) Γ (Λ.cut keep) (fun b => F1 b ∨ G b) w1) :
    TT P B R (.call f args.toArray keep H k) Γ Λ S w := by
  have h0 := hsp w (fun _ _ => rfl) (Nat.le_refl _)
  refine ⟨h0.1, fun w' ha => ?_⟩
  have hSF : S = fun b => F b ∨ G b := by funext b; exact propext (hFG b)
  have h1 := hsp w' (fun b hb => ha.block b (.inr hb)) ha.size
  refine h1.2.mono ?_
  rintro e w1 ⟨v, F1, rfl, hst, x, rfl, hX⟩
  have hGlt : ∀ b, G b → b < w'.heap.size := fun b hb => Nat.lt_of_lt_of_le (hS b ((hFG b).2 (.inr hb))) ha.size
  have hGk : ∀ b, G b → w1.heap[b]? = w.heap[b]? := fun b hb => by
    rw [hst.fr.block b (hGlt b hb) (hd b hb)]
    exact ha.block b (.inr ((hFG b).2 (.inr hb)))
  have hk' := hk x F1 w1 hX hst.lt (fun b hb => by
    rcases hst.new b hb with h | h
    · exact .inl h
    · exact .inr (Nat.le_trans ha.size h)) hGk (Nat.le_trans ha.size hst.fr.size)
  refine ⟨x, fun b => F1 b ∨ G b, rfl, ?_, hk'.1, hk'.2⟩
  rw [hSF]
  exact hst.frame hGlt

/-- A call over all that is owned; nothing kept. -/
theorem TT_call0 {f : FuncId} {args : List Value} {H : Enc} {k : H.T → Tree} {X : H.T → BS → World → Prop} (hΓ : ClosedΓ B Γ) (hS : ∀ b, S b → b < w.heap.size)
    (hsp : ∀ w', (∀ b, S b → w'.heap[b]? = w.heap[b]?) → w.heap.size ≤ w'.heap.size → Spec P f args S w' fun v F1 w1 => ∃ x, v = H.enc x ∧ X x F1 w1)
    (hk : ∀ x F1 w1, X x F1 w1 → (∀ b, F1 b → b < w1.heap.size) → (∀ b, F1 b → S b ∨ w.heap.size ≤ b) → w.heap.size ≤ w1.heap.size → TT P B R (k x) Γ Lam.none F1 w1) :
    TT P B R (.call f args.toArray [] H k) Γ Λ S w := by
  have h0 := hsp w (fun _ _ => rfl) (Nat.le_refl _)
  refine ⟨h0.1, fun w' ha => ?_⟩
  have h1 := hsp w' (fun b hb => ha.block b (.inr hb)) ha.size
  refine h1.2.mono ?_
  rintro e w1 ⟨v, F1, rfl, hst, x, rfl, hX⟩
  refine ⟨x, F1, rfl, hst, by rw [lam_cut_nil]; exact lam_none_ok, ?_⟩
  rw [lam_cut_nil]
  exact hk x F1 w1 hX hst.lt (fun b hb => by
    rcases hst.new b hb with h | h
    · exact .inl h
    · exact .inr (Nat.le_trans ha.size h)) (Nat.le_trans ha.size hst.fr.size)
end
end Go.Sx

set_option linter.unusedVariables false
namespace Go.Sx
open Go.RowKit

/-! ### Slices that read as lists of typed elements -/
structure Codec (T : Type) where
  size : Nat
  enc : T → List Value
  len : ∀ x, (enc x).length = size
  one : ∀ x, ∀ v ∈ enc x, v.oneCell' = true

def flat {T : Type} (C : Codec T) (xs : List T) : List Value := xs.flatMap C.enc
theorem flat_nil {T : Type} (C : Codec T) : flat C [] = [] := rfl
theorem flat_cons {T : Type} (C : Codec T) (x : T) (xs : List T) : flat C (x :: xs) = C.enc x ++ flat C xs := rfl
theorem flat_append {T : Type} (C : Codec T) (xs ys : List T) : flat C (xs ++ ys) = flat C xs ++ flat C ys := by simp [flat]
theorem flat_len {T : Type} (C : Codec T) : ∀ (xs : List T), (flat C xs).length = xs.length * C.size
  | [] => by simp [flat]
  | x :: xs => by rw [flat_cons, List.length_append, flat_len C xs, C.len, List.length_cons, Nat.add_mul]; omega
theorem flat_one {T : Type} (C : Codec T) (xs : List T) : ∀ v ∈ flat C xs, v.oneCell' = true := fun v hv => by
  obtain ⟨x, hx, hv⟩ := List.mem_flatMap.1 hv
  exact C.one x v hv
theorem flat_drop {T : Type} (C : Codec T) : ∀ (xs : List T) (i : Nat), (flat C xs).drop (i * C.size) = flat C (xs.drop i)
  | [], i => by simp [flat]
  | x :: xs, 0 => by simp
  | x :: xs, i + 1 => by
    rw [flat_cons, List.drop_append, List.drop_of_length_le (by rw [C.len, Nat.add_mul]; omega), List.nil_append, C.len,
      show (i + 1) * C.size - C.size = i * C.size by rw [Nat.add_mul]; omega, flat_drop C xs i, List.drop_succ_cons]
theorem flat_take {T : Type} (C : Codec T) (xs : List T) (i : Nat) (h : i ≤ xs.length) : (flat C xs).take (i * C.size) = flat C (xs.take i) := by
  have h1 : flat C xs = flat C (xs.take i) ++ flat C (xs.drop i) := by rw [← flat_append, List.take_append_drop]
  rw [h1, List.take_append_of_le_length (by rw [flat_len, List.length_take, Nat.min_eq_left h]; exact Nat.le_refl _), List.take_of_length_le (by rw [flat_len, List.length_take, Nat.min_eq_left h]; exact Nat.le_refl _)]

def RowAt {T : Type} (w : World) (ty : TypeId) (C : Codec T) (s : Sl) (xs : List T) : Prop := s.n = xs.length ∧ w.ownsRow 0 ty C.size (slV s) s.n (flat C xs)

section
variable {T : Type} {w w1 : World} {ty : TypeId} {C : Codec T} {s : Sl} {xs : List T}

theorem RowAt.nil (w : World) (ty : TypeId) (C : Codec T) : RowAt w ty C ⟨none, 0, 0⟩ [] := ⟨rfl, World.ownsRow_nil w 0 ty C.size⟩

theorem RowAt.keep (h : RowAt w ty C s xs) (hb : ∀ b, (slV s).ownBlock = some b → w1.heap[b]? = w.heap[b]?) : RowAt w1 ty C s xs := by
  refine ⟨h.1, h.2.1, ?_⟩
  rcases h.2.2 with h2 | ⟨g, cap, cur, hv, h0, hg, h1, h2, h3, h4⟩
  · exact .inl h2
  · exact .inr ⟨g, cap, cur, hv, h0, by rw [hb g (by rw [hv]; rfl)]; exact hg, h1, h2, h3, h4⟩

theorem RowAt.lt (h : RowAt w ty C s xs) {b : Nat} (hb : (slV s).ownBlock = some b) : b < w.heap.size := (h.2.lt b hb).2

theorem RowAt.typed (h : RowAt w ty C s xs) {b : Nat} (hb : (slV s).ownBlock = some b) : ∃ cur, w.heap[b]? = some (.cells cur ty (0, 0)) := by
  rcases h.2.2 with ⟨h1, h2⟩ | ⟨g, cap, cur, hv, h0, hg, h1, h2, h3, h4⟩
  · rw [h1] at hb; cases hb
  · rw [hv] at hb; injection hb with hb; subst hb; exact ⟨cur, hg⟩

/-- An element's cells. -/
theorem RowAt.cell (h : RowAt w ty C s xs) {i : Nat} {x : T} (hi : xs[i]? = some x) : ∃ g cur, s.a = some ⟨g, 0, none⟩ ∧ (slV s).ownBlock = some g ∧ w.heap[g]? = some (.cells (List.toArray cur) ty (0, 0)) ∧ (cur.drop (i * C.size)).take C.size = C.enc x ∧
    i * C.size + C.size ≤ cur.length ∧ cur.take (xs.length * C.size) = flat C xs := by
  have hil : i < xs.length := (List.getElem?_eq_some_iff.1 hi).1
  obtain ⟨hn, hlen, hh⟩ := h
  rcases hh with ⟨h1, h2⟩ | ⟨g, cap, cur, hv, h0, hg, h1, h2, h3, h4⟩
  · omega
  · have hle : xs.length * C.size ≤ cur.toList.length := by
      have e : cur.toList.length = cap * C.size := by rw [← h3]; simp
      rw [e]; exact Nat.mul_le_mul_right _ (by omega)
    have hie : i * C.size + C.size ≤ xs.length * C.size := by rw [← Nat.succ_mul]; exact Nat.mul_le_mul_right _ hil
    rw [hn] at h4
    refine ⟨g, cur.toList, by unfold slV at hv; injection hv, by rw [hv]; rfl, by simpa using hg, ?_, by omega, h4⟩
    have e1 : (cur.toList.drop (i * C.size)).take C.size = ((flat C xs).drop (i * C.size)).take C.size := by
      rw [← h4, List.drop_take, List.take_take, Nat.min_eq_left (by omega)]
    rw [e1, flat_drop, List.drop_eq_getElem_cons hil, flat_cons]
    have : xs[i] = x := by rw [List.getElem?_eq_getElem hil] at hi; injection hi
    rw [this, List.take_append_of_le_length (by rw [C.len]; exact Nat.le_refl _), List.take_of_length_le (by rw [C.len]; exact Nat.le_refl _)]

theorem splice_at {T : Type} (C : Codec T) {cur : List Value} {i off : Nat} {part e : List Value} (he : (cur.drop (i * C.size)).take C.size = e) (hel : e.length = C.size) (hp : off + part.length ≤ C.size) (hle : i * C.size + C.size ≤ cur.length) :
    splice cur (i * C.size + off) part = splice cur (i * C.size) (splice e off part) := by
  have hcur : cur = cur.take (i * C.size) ++ (e ++ cur.drop (i * C.size + C.size)) := by
    rw [← he, ← List.drop_drop, List.take_append_drop, List.take_append_drop]
  generalize hA : cur.take (i * C.size) = A at hcur
  generalize hD : cur.drop (i * C.size + C.size) = D at hcur
  have hAl : A.length = i * C.size := by rw [← hA, List.length_take]; omega
  subst hcur
  unfold splice
  have e1 : (A ++ (e ++ D)).take (i * C.size + off) = A ++ e.take off := by
    rw [List.take_append, List.take_of_length_le (by omega), hAl, Nat.add_sub_cancel_left, List.take_append_of_le_length (by omega)]
  have e2 : (A ++ (e ++ D)).drop (i * C.size + off + part.length) = e.drop (off + part.length) ++ D := by
    rw [List.drop_append, List.drop_of_length_le (by omega), List.nil_append, hAl, show i * C.size + off + part.length - i * C.size = off + part.length by omega, List.drop_append_of_le_length (by omega)]
  have e3 : (A ++ (e ++ D)).take (i * C.size) = A := by rw [List.take_append_of_le_length (by omega), List.take_of_length_le (by omega)]
  have hsl : (List.take off e ++ part ++ List.drop (off + part.length) e).length = C.size := by simp; omega
  have e4 : (A ++ (e ++ D)).drop (i * C.size + (List.take off e ++ part ++ List.drop (off + part.length) e).length) = D := by
    rw [hsl, List.drop_append, List.drop_of_length_le (by omega), List.nil_append, hAl, Nat.add_sub_cancel_left, List.drop_append, List.drop_of_length_le (by omega), hel]; simp
  rw [e1, e2, e3, e4]
  simp

theorem flat_set {T : Type} (C : Codec T) : ∀ (xs : List T) (i : Nat) (y : T), i < xs.length → splice (flat C xs) (i * C.size) (C.enc y) = flat C (xs.set i y)
  | [], i, y, h => absurd h (by simp)
  | x :: xs, 0, y, h => by
    simp only [splice, Nat.zero_mul, List.take_zero, List.nil_append, Nat.zero_add, List.set_cons_zero, flat_cons]
    rw [C.len, List.drop_append, List.drop_of_length_le (by rw [C.len]; exact Nat.le_refl _), C.len]; simp
  | x :: xs, i + 1, y, h => by
    have ih := flat_set C xs i y (by simpa using h)
    rw [List.set_cons_succ, flat_cons, flat_cons, ← ih]
    unfold splice
    rw [List.take_append, List.take_of_length_le (by rw [C.len, Nat.add_mul]; omega), C.len, show (i + 1) * C.size - C.size = i * C.size by rw [Nat.add_mul]; omega, List.drop_append, List.drop_of_length_le (by rw [C.len, C.len, Nat.add_mul]; omega), C.len, C.len,
      show (i + 1) * C.size + C.size - C.size = i * C.size + C.size by rw [Nat.add_mul]; omega]
    simp

/-- Another element, in place. -/
theorem RowAt.update (h : RowAt w ty C s xs) {i off : Nat} {x y : T} {part : List Value} (hi : xs[i]? = some x) {g : Nat} (hg : (slV s).ownBlock = some g) {cur : List Value} (hcur : w.heap[g]? = some (.cells cur.toArray ty (0, 0)))
    (hy : splice (C.enc x) off part = C.enc y) (hp : off + part.length ≤ C.size) (hw1 : w1.heap[g]? = some (.cells (splice cur (i * C.size + off) part).toArray ty (0, 0))) : RowAt w1 ty C s (xs.set i y) := by
  obtain ⟨g', cur', ha, hg', hc', hel, hle, htk⟩ := h.cell hi
  rw [hg] at hg'; injection hg' with hg'; subst hg'
  rw [hcur] at hc'
  have hcc : cur' = cur := by injection hc' with e; injection e with e; exact (List.toArray_inj e).symm
  subst hcc
  have hil : i < xs.length := (List.getElem?_eq_some_iff.1 hi).1
  have hs2 := splice_at C hel (C.len x) hp hle
  rw [hy] at hs2
  have hie : i * C.size + C.size ≤ xs.length * C.size := by rw [← Nat.succ_mul]; exact Nat.mul_le_mul_right _ hil
  have hlen2 : (splice cur' (i * C.size) (C.enc y)).length = cur'.length := by simp [splice, C.len]; omega
  obtain ⟨hn, hlen, hh⟩ := h
  refine ⟨by simpa using hn, by rw [flat_len]; simp; rw [hn], .inr ?_⟩
  rcases hh with ⟨h1, h2⟩ | ⟨g2, cap, cur2, hv, h0, hg2, h1, h2, h3, h4⟩
  · omega
  · have : g2 = g := by rw [hv] at hg; injection hg
    subst this
    rw [hcur] at hg2
    have hc2 : cur2.toList = cur' := by injection hg2 with e; injection e with e; rw [← e]
    refine ⟨g2, cap, _, hv, h0, by rw [hs2] at hw1; exact hw1, h1, h2, ?_, ?_⟩
    · simp only [List.size_toArray, hlen2]; rw [← h3, ← Array.length_toList, hc2]
    · have hxl : s.n * C.size = xs.length * C.size := by rw [hn]
      rw [hxl]
      show (splice cur' (i * C.size) (C.enc y)).take (xs.length * C.size) = _
      have hA : cur' = flat C xs ++ cur'.drop (xs.length * C.size) := by rw [← htk, List.take_append_drop]
      have hfl := flat_len C xs
      generalize cur'.drop (xs.length * C.size) = D at hA
      subst hA
      rw [← flat_set C xs i y hil]
      unfold splice
      have e1 : (flat C xs ++ D).take (i * C.size) = (flat C xs).take (i * C.size) := List.take_append_of_le_length (by omega)
      have e2 : (flat C xs ++ D).drop (i * C.size + (C.enc y).length) = (flat C xs).drop (i * C.size + (C.enc y).length) ++ D := List.drop_append_of_le_length (by rw [C.len]; omega)
      rw [e1, e2, ← List.append_assoc, List.take_append_of_le_length (by simp [C.len]; omega), List.take_of_length_le (by simp [C.len]; omega)]
theorem RowAt.take (h : RowAt w ty C s xs) {k : Nat} (hk : k ≤ xs.length) (hsz : 0 < C.size) (hne : 0 < xs.length) : RowAt w ty C ⟨s.a, k, s.c⟩ (xs.take k) := by
  obtain ⟨hn, hlen, hh⟩ := h
  refine ⟨by simp; omega, by rw [flat_len, List.length_take, Nat.min_eq_left hk], ?_⟩
  rcases hh with ⟨h1, h2⟩ | ⟨g, cap, cur, hv, h0, hg, h1, h2, h3, h4⟩
  · omega
  · right
    refine ⟨g, cap, cur, ?_, h0, hg, by simp; omega, h2, h3, ?_⟩
    · unfold slV at hv ⊢; simp at hv ⊢; exact hv
    · simp only
      rw [← flat_take C xs k hk, ← h4, List.take_take, Nat.min_eq_left (by rw [hn]; exact Nat.mul_le_mul_right _ hk)]
end
end Go.Sx

set_option linter.unusedVariables false
namespace Go.Sx
open Go.RowKit

abbrev wr (n : Int) : Int := IntKind.i64.wrap n

/-! ### The pool of cells, as plain data -/
structure Rf where
  ix : Int
  gen : Int
  deriving DecidableEq
def rfC (r : Rf) : List Value := [iV r.ix, iV r.gen]
structure Cell (T : Type) where
  v : T
  gen : Int
  live : Bool
structure Pool (T : Type) where
  cells : List (Cell T)
  free : List Int
  cap : Int
  held : Int
  visits : Int

def cellCd {T : Type} (C : Codec T) : Codec (Cell T) where
  size := C.size + 2
  enc c := C.enc c.v ++ [iV c.gen, .bool c.live]
  len c := by simp [C.len]
  one c v hv := by
    rcases List.mem_append.1 hv with h | h
    · exact C.one _ v h
    · simp at h; rcases h with rfl | rfl <;> rfl
def intCd : Codec Int where
  size := 1
  enc n := [iV n]
  len _ := rfl
  one n v hv := by simp at hv; subst hv; rfl

namespace Pool
variable {T : Type}
def find (σ : Pool T) (r : Rf) : Option Nat :=
  if r.ix < 0 then none else match σ.cells[r.ix.toNat]? with
    | none => none
    | some c => if c.live = true ∧ c.gen = r.gen then some r.ix.toNat else none
def visit (σ : Pool T) : Pool T := { σ with visits := wr (σ.visits + 1) }
def get (σ : Pool T) (z : T) (r : Rf) : (T × Bool) × Pool T :=
  match σ.find r with
  | none => ((z, false), σ)
  | some i => ((((σ.cells[i]?).map (·.v)).getD z, true), σ.visit)
def setAt (σ : Pool T) (i : Nat) (f : Cell T → Cell T) : Pool T := { σ with cells := σ.cells.modify i f }
def set (σ : Pool T) (r : Rf) (v : T) : Bool × Pool T :=
  match σ.find r with
  | none => (false, σ)
  | some i => (true, (σ.visit).setAt i fun c => { c with v := v })
def drop (σ : Pool T) (z : T) (r : Rf) : (T × Bool) × Pool T :=
  match σ.find r with
  | none => ((z, false), σ)
  | some i =>
    let σ1 := (σ.visit).setAt i fun c => { v := z, gen := c.gen, live := false }
    (((((σ.cells[i]?).map (·.v)).getD z), true), { σ1 with held := wr (σ.held - 1), free := if r.gen < 4294967295 then σ.free ++ [r.ix] else σ.free })
/-- The cell that is used next. -/
def next (σ : Pool T) (z : T) : Int × Pool T :=
  match σ.free.getLast? with
  | some i => (i, { σ with free := σ.free.dropLast })
  | none => ((σ.cells.length : Int), { σ with cells := σ.cells ++ [⟨z, 0, false⟩] })
def put (σ : Pool T) (z v : T) : (Rf × Bool) × Pool T :=
  if σ.held = σ.cap then ((⟨0, 0⟩, false), σ) else
    let n := σ.next z
    let g := wr (((n.2.cells[n.1.toNat]?).map (·.gen)).getD 0 + 1)
    ((⟨n.1, g⟩, true), { (n.2.setAt n.1.toNat fun _ => { v := v, gen := g, live := true }) with held := wr (σ.held + 1) })
end Pool

/-! ### Its functions' trees -/
structure PI (T : Type) where
  c : Cfg
  C : Codec T
  z : T
  tI : TypeId
  tB : TypeId
  tIS : TypeId
  tS : TypeId
  tN : TypeId
  tC : TypeId
  tP : TypeId
  fFind : FuncId
  fGet : FuncId
  fSet : FuncId
  fNext : FuncId
  fPut : FuncId
  fDrop : FuncId
  fVisits : FuncId
  fNew : FuncId

def eN {T : Type} (I : PI T) : Enc := eAg T I.C.enc
def eOA : Enc := ⟨Option Addr, fun x => .pointer (x.map id)⟩
def aa (a : Addr) (k : Nat) : Value := .pointer (some (a.add k))

section
variable {T : Type} (I : PI T)
def findT (t : Nat) (r : Rf) : Tree :=
  .ite (decide (r.ix < 0)) (.endS (.ret (.pointer none)))
    (.loadS 9 (Instr.loadAt I.tS (pa t 0)) eSl fun (s : Sl) => .endS (.ite (decide (r.ix ≥ (s.n : Int))) (.ret (.pointer none))
      (.loadS 3 (Instr.loadAt I.tS (pa t 0)) eSl fun (s : Sl) => .loadS 6 (Instr.indexAt I.tS (slV s) (iV r.ix)) eAddr fun (a : Addr) => .endS
        (.loadS 3 (Instr.loadAt I.tB (aa a (I.C.size + 1))) eBool fun (lv : Bool) => .ite (!lv) (.endS (.ret (.pointer none)))
          (.loadS 9 (Instr.loadAt I.tI (aa a I.C.size)) eInt fun (g : Int) => .endS (.ite (g != r.gen) (.ret (.pointer none))
            (.prim (Instr.loadAt I.tI (pa t 4)) [] eInt fun (x : Int) => .primU (Instr.storeAt I.tI (pa t 4) (iV (wr (x + 1)))) [] (.ret (.pointer (some a))))))))))
def getT (t : Nat) (r : Rf) : Tree :=
  .call I.fFind [pa t 0, ag (rfC r)].toArray [] eOA fun (x : Option Addr) => optCase x (.ret (.tuple #[ag (I.C.enc I.z), .bool false])) fun a =>
    .prim (Instr.loadAt I.tN (aa a 0)) [] (eN I) fun (v : T) => .ret (.tuple #[ag (I.C.enc v), .bool true])
def setT (t : Nat) (r : Rf) (v : T) : Tree :=
  .call I.fFind [pa t 0, ag (rfC r)].toArray [] eOA fun (x : Option Addr) => optCase x (.ret (.bool false)) fun a =>
    .primU (Instr.storeAt I.tN (aa a 0) (ag (I.C.enc v))) [] (.ret (.bool true))
def nextT (t : Nat) : Tree :=
  .prim (Instr.loadAt I.tIS (pa t 1)) [] eSl fun (s : Sl) => .ite (decide (wr ((s.n : Int) - 1) ≥ 0))
    (.prim (Instr.loadAt I.tIS (pa t 1)) [] eSl fun (s1 : Sl) => .prim (Instr.indexAt I.tIS (slV s1) (iV (wr ((s.n : Int) - 1)))) [] eAddr fun (a : Addr) =>
      .prim (Instr.loadAt I.tI (.pointer (some a))) [] eInt fun (i : Int) => .prim (Instr.loadAt I.tIS (pa t 1)) [] eSl fun (s2 : Sl) =>
      .prim (Instr.sliceAt I.tIS (slV s2) none (some (iV (wr ((s.n : Int) - 1)))) none) [] eSl fun (s3 : Sl) => .primU (Instr.storeAt I.tIS (pa t 1) (slV s3)) [] (.ret (iV i)))
    (.prim (Instr.loadAt I.tS (pa t 0)) [] eSl fun (s : Sl) => .append #[I.tS, I.tS] I.tS (slV s) I.tC 1 (I.C.enc I.z ++ [iV 0, .bool false]) [] eSl fun (y : Sl) =>
      .primU (Instr.storeAt I.tS (pa t 0) (slV y)) [] (.prim (Instr.loadAt I.tS (pa t 0)) [] eSl fun (s : Sl) => .ret (iV (wr ((s.n : Int) - 1)))))
def putT (t : Nat) (v : T) : Tree :=
  .loadS 3 (Instr.loadAt I.tI (pa t 3)) eInt fun (h : Int) => .loadS 7 (Instr.loadAt I.tI (pa t 2)) eInt fun (cp : Int) => .endS (.ite (h == cp) (.ret (.tuple #[ag [iV 0, iV 0], .bool false]))
    (.call I.fNext [pa t 0].toArray [] eInt fun (i : Int) => .prim (Instr.loadAt I.tS (pa t 0)) [] eSl fun (s : Sl) => .prim (Instr.indexAt I.tS (slV s) (iV i)) [] eAddr fun (a : Addr) =>
      .primU (Instr.storeAt I.tN (aa a 0) (ag (I.C.enc v))) [] (.primU (Instr.storeAt I.tB (aa a (I.C.size + 1)) (.bool true)) []
      (.prim (Instr.loadAt I.tI (aa a I.C.size)) [] eInt fun (g : Int) => .primU (Instr.storeAt I.tI (aa a I.C.size) (iV (wr (g + 1)))) []
      (.prim (Instr.loadAt I.tI (pa t 3)) [] eInt fun (h : Int) => .primU (Instr.storeAt I.tI (pa t 3) (iV (wr (h + 1)))) []
      (.prim (Instr.loadAt I.tI (aa a I.C.size)) [] eInt fun (g : Int) => .ret (.tuple #[ag [iV i, iV g], .bool true])))))))
def dropT (t : Nat) (r : Rf) : Tree :=
  .call I.fFind [pa t 0, ag (rfC r)].toArray [] eOA fun (x : Option Addr) => optCase x (.ret (.tuple #[ag (I.C.enc I.z), .bool false])) fun a =>
    .prim (Instr.loadAt I.tN (aa a 0)) [] (eN I) fun (v : T) => .prim (Instr.loadAt I.tI (aa a I.C.size)) [] eInt fun (g : Int) =>
    .primU (Instr.storeAt I.tC (.pointer (some a)) (ag (I.C.enc I.z ++ [iV g, .bool false]))) []
    (.prim (Instr.loadAt I.tI (pa t 3)) [] eInt fun (h : Int) => .primU (Instr.storeAt I.tI (pa t 3) (iV (wr (h - 1)))) []
    (.prim (Instr.loadAt I.tI (aa a I.C.size)) [] eInt fun (g : Int) => .ite (decide (g < 4294967295))
      (.loadS 4 (Instr.loadAt I.tIS (pa t 1)) eSl fun (s : Sl) => .append #[I.tIS, I.tIS] I.tIS (slV s) I.tI 1 [iV r.ix] [] eSl fun (y : Sl) =>
        .primU (Instr.storeAt I.tIS (pa t 1) (slV y)) [] (.endS (.ret (.tuple #[ag (I.C.enc v), .bool true]))))
      (.ret (.tuple #[ag (I.C.enc v), .bool true]))))
def visitsT (t : Nat) : Tree := .prim (Instr.loadAt I.tI (pa t 4)) [] eInt fun (x : Int) => .ret (iV x)
end
end Go.Sx

set_option linter.unusedVariables false
set_option maxHeartbeats 1000000
namespace Go.Sx
open Go.RowKit

theorem one_int {n : Int} : (iV n).cells.all (·.oneCell') = true := by simp [iV, Value.cells, Value.oneCell']
theorem one_bool {b : Bool} : (Value.bool b).cells.all (·.oneCell') = true := by simp [Value.cells, Value.oneCell']
theorem one_sl {s : Sl} : (slV s).cells.all (·.oneCell') = true := by simp [slV, Value.cells, Value.oneCell']
theorem one_list {l : List Value} (h : ∀ v ∈ l, v.oneCell' = true) : (ag l).cells.all (·.oneCell') = true := by
  rw [Array.all_eq_true_iff_forall_mem]
  intro v hv
  exact h v (by simpa [ag, Value.cells] using hv)

/-- What the types are. -/
structure Cfg.Good (c : Cfg) : Prop where
  ok : c.Ok
  mix : c.P.follows .mixedOrders = true

structure PI.Ty {T : Type} (I : PI T) : Prop where
  good : I.c.Good
  aI : isAggT I.c.P I.tI = some false
  aB : isAggT I.c.P I.tB = some false
  aIS : isAggT I.c.P I.tIS = some false
  aS : isAggT I.c.P I.tS = some false
  aN : isAggT I.c.P I.tN = some true
  sI : sizeT I.c.P I.tI = some 1
  sB : sizeT I.c.P I.tB = some 1
  sIS : sizeT I.c.P I.tIS = some 1
  sS : sizeT I.c.P I.tS = some 1
  sN : sizeT I.c.P I.tN = some I.C.size
  sC : sizeT I.c.P I.tC = some (I.C.size + 2)
  uS : I.c.P.underlying I.tS = some (.slice I.tC)
  uIS : I.c.P.underlying I.tIS = some (.slice I.tI)
  zC : ∃ i z b, I.c.P.info? I.tC = some i ∧ i.zero = some z ∧ z.cells.size = I.C.size + 2 ∧ i.bytes = b ∧ b ≤ 1024
  zI : ∃ i z, I.c.P.info? I.tI = some i ∧ i.zero = some z ∧ z.cells.size = 1 ∧ i.bytes = 8
  d1 : I.tP ≠ I.tC
  d2 : I.tP ≠ I.tI
  d3 : I.tC ≠ I.tI

structure PI.Trees {T : Type} (I : PI T) : Prop where
  find : ∀ t r, FnT I.c I.fFind [pa t 0, ag (rfC r)] (findT I t r)
  get : ∀ t r, FnT I.c I.fGet [pa t 0, ag (rfC r)] (getT I t r)
  set : ∀ t r v, FnT I.c I.fSet [pa t 0, ag (rfC r), ag (I.C.enc v)] (setT I t r v)
  next : ∀ t, FnT I.c I.fNext [pa t 0] (nextT I t)
  put : ∀ t v, FnT I.c I.fPut [pa t 0, ag (I.C.enc v)] (putT I t v)
  visits : ∀ t, FnT I.c I.fVisits [pa t 0] (visitsT I t)

def poolC {T : Type} (σ : Pool T) (sc sf : Sl) : List Value := [slV sc, slV sf, iV σ.cap, iV σ.held, iV σ.visits]

structure PoolX {T : Type} (I : PI T) (p : Nat) (σ : Pool T) (sc sf : Sl) (w : World) : Prop where
  blk : w.heap[p]? = some (.cells (poolC σ sc sf).toArray I.tP (0, 0))
  cells : RowAt w I.tC (cellCd I.C) sc σ.cells
  free : RowAt w I.tI intCd sf σ.free

def PoolF (p : Nat) (sc sf : Sl) : BS := fun b => b = p ∨ (slV sc).ownBlock = some b ∨ (slV sf).ownBlock = some b

section
variable {T : Type} {I : PI T} {p : Nat} {σ : Pool T} {sc sf : Sl} {w w1 : World}

theorem PoolX.keep (h : PoolX I p σ sc sf w) (hb : ∀ b, PoolF p sc sf b → w1.heap[b]? = w.heap[b]?) : PoolX I p σ sc sf w1 :=
  ⟨by rw [hb p (.inl rfl)]; exact h.blk, h.cells.keep fun b hb' => hb b (.inr (.inl hb')), h.free.keep fun b hb' => hb b (.inr (.inr hb'))⟩

theorem PoolX.lt (h : PoolX I p σ sc sf w) : ∀ b, PoolF p sc sf b → b < w.heap.size := by
  rintro b (rfl | hb | hb)
  · exact heap_lt h.blk
  · exact h.cells.lt hb
  · exact h.free.lt hb

theorem PoolX.ne (hT : I.Ty) (h : PoolX I p σ sc sf w) : (∀ b, (slV sc).ownBlock = some b → b ≠ p) ∧ (∀ b, (slV sf).ownBlock = some b → b ≠ p) ∧ (∀ b b', (slV sc).ownBlock = some b → (slV sf).ownBlock = some b' → b ≠ b') := by
  refine ⟨fun b hb e => ?_, fun b hb e => ?_, fun b b' hb hb' e => ?_⟩
  · subst e
    obtain ⟨cur, hc⟩ := h.cells.typed hb
    rw [h.blk] at hc; injection hc with hc; injection hc with _ h2; exact hT.d1 h2
  · subst e
    obtain ⟨cur, hc⟩ := h.free.typed hb
    rw [h.blk] at hc; injection hc with hc; injection hc with _ h2; exact hT.d2 h2
  · subst e
    obtain ⟨cur, hc⟩ := h.cells.typed hb
    obtain ⟨cur', hc'⟩ := h.free.typed hb'
    rw [hc] at hc'; injection hc' with hc'; injection hc' with _ h2; exact hT.d3 h2

/-- Numbers of the pool that have turned. -/
theorem PoolX.nums (hT : I.Ty) (h : PoolX I p σ sc sf w) {σ' : Pool T} (hc : σ'.cells = σ.cells) (hf : σ'.free = σ.free) (h1 : w1.heap[p]? = some (.cells (poolC σ' sc sf).toArray I.tP (0, 0)))
    (hb : ∀ b, b ≠ p → PoolF p sc sf b → w1.heap[b]? = w.heap[b]?) : PoolX I p σ' sc sf w1 := by
  obtain ⟨n1, n2, _⟩ := h.ne hT
  exact ⟨h1, by rw [hc]; exact h.cells.keep fun b hb' => hb b (n1 b hb') (.inr (.inl hb')), by rw [hf]; exact h.free.keep fun b hb' => hb b (n2 b hb') (.inr (.inr hb'))⟩

theorem ld_cap (hT : I.Ty) (h : PoolX I p σ sc sf w) : Ld I.c.P (PoolF p sc sf) w (Instr.loadAt I.tI (pa p 2)) (eInt.enc σ.cap) := ld_one (cs := poolC σ sc sf) (.inl rfl) h.blk hT.aI rfl
theorem ld_held (hT : I.Ty) (h : PoolX I p σ sc sf w) : Ld I.c.P (PoolF p sc sf) w (Instr.loadAt I.tI (pa p 3)) (eInt.enc σ.held) := ld_one (cs := poolC σ sc sf) (.inl rfl) h.blk hT.aI rfl
theorem ld_visits (hT : I.Ty) (h : PoolX I p σ sc sf w) : Ld I.c.P (PoolF p sc sf) w (Instr.loadAt I.tI (pa p 4)) (eInt.enc σ.visits) := ld_one (cs := poolC σ sc sf) (.inl rfl) h.blk hT.aI rfl
theorem ld_sc (hT : I.Ty) (h : PoolX I p σ sc sf w) : Ld I.c.P (PoolF p sc sf) w (Instr.loadAt I.tS (pa p 0)) (eSl.enc sc) := ld_one (cs := poolC σ sc sf) (.inl rfl) h.blk hT.aS rfl
theorem ld_sf (hT : I.Ty) (h : PoolX I p σ sc sf w) : Ld I.c.P (PoolF p sc sf) w (Instr.loadAt I.tIS (pa p 1)) (eSl.enc sf) := ld_one (cs := poolC σ sc sf) (.inl rfl) h.blk hT.aIS rfl

/-- A cell's address. -/
theorem run_index {P : Program} {t e : TypeId} {g : Nat} {s : Sl} {sz : Nat} {i : Int} (hu : P.underlying t = some (.slice e)) (hs : sizeT P e = some sz) (ha : s.a = some ⟨g, 0, none⟩) (h0 : 0 ≤ i) (h1 : i < s.n) (w : World) :
    (Instr.indexAt t (slV s) (iV i)).run P w = .ok (.pointer (some ⟨g, i.toNat * sz, none⟩)) w := by
  simp only [Instr.indexAt, slV, iV, asIntOf, ha, Sem.run_bind, Sem.run_pure, Result.andThen_ok, run_underlying hu w]
  simp only [h0, h1, and_self, if_true, Sem.run_bind, run_sizeOf hs, Result.andThen_ok, Sem.run_pure, Addr.add_mid]
  simp
theorem ld_index {S : BS} {P : Program} {t e : TypeId} {g : Nat} {s : Sl} {sz : Nat} {i : Int} (hu : P.underlying t = some (.slice e)) (hs : sizeT P e = some sz) (ha : s.a = some ⟨g, 0, none⟩) (h0 : 0 ≤ i) (h1 : i < s.n) :
    Ld P S w (Instr.indexAt t (slV s) (iV i)) (eAddr.enc ⟨g, i.toNat * sz, none⟩) := fun w' _ => run_index hu hs ha h0 h1 w'

theorem aa_mid (g o k : Nat) : aa ⟨g, o, none⟩ k = pa g (o + k) := by unfold aa pa; rw [Addr.add_mid]

/-- What a cell holds. -/
theorem cell_ld {i : Nat} {x : Cell T} (hT : I.Ty) (h : PoolX I p σ sc sf w) (hi : σ.cells[i]? = some x) : ∃ g cur, sc.a = some ⟨g, 0, none⟩ ∧ (slV sc).ownBlock = some g ∧ w.heap[g]? = some (.cells (List.toArray cur) I.tC (0, 0)) ∧
    (cur.drop (i * (I.C.size + 2))).take (I.C.size + 2) = (cellCd I.C).enc x ∧ i * (I.C.size + 2) + (I.C.size + 2) ≤ cur.length ∧
    Ld I.c.P (PoolF p sc sf) w (Instr.loadAt I.tB (aa ⟨g, i * (I.C.size + 2), none⟩ (I.C.size + 1))) (eBool.enc x.live) ∧
    Ld I.c.P (PoolF p sc sf) w (Instr.loadAt I.tI (aa ⟨g, i * (I.C.size + 2), none⟩ I.C.size)) (eInt.enc x.gen) ∧
    Ld I.c.P (PoolF p sc sf) w (Instr.loadAt I.tN (aa ⟨g, i * (I.C.size + 2), none⟩ 0)) ((eN I).enc x.v) := by
  obtain ⟨g, cur, ha, hg, hh, he, hle, _⟩ := h.cells.cell hi
  have he' : (cur.drop (i * (I.C.size + 2))).take (I.C.size + 2) = I.C.enc x.v ++ [iV x.gen, .bool x.live] := he
  have hle' : i * (I.C.size + 2) + (I.C.size + 2) ≤ cur.length := hle
  have hat : ∀ k, k < I.C.size + 2 → cur[i * (I.C.size + 2) + k]? = (I.C.enc x.v ++ [iV x.gen, .bool x.live])[k]? := fun k hk => by
    rw [← he', List.getElem?_take_of_lt hk, List.getElem?_drop]
  refine ⟨g, cur, ha, hg, hh, he, hle, ?_, ?_, ?_⟩
  · rw [aa_mid]
    refine ld_one (.inr (.inl hg)) hh hT.aB ?_
    rw [hat _ (by omega), List.getElem?_append_right (by rw [I.C.len]; omega), I.C.len]
    simp [eBool]
  · rw [aa_mid]
    refine ld_one (.inr (.inl hg)) hh hT.aI ?_
    rw [hat _ (by omega), List.getElem?_append_right (by rw [I.C.len]; omega), I.C.len]
    simp [eInt, iV]
  · rw [aa_mid, Nat.add_zero]
    have := ld_agg (P := I.c.P) (S := PoolF p sc sf) (w := w) (b := g) (off := i * (I.C.size + 2)) (.inr (.inl hg)) hh hT.aN hT.sN (by omega)
    have e2 : (cur.drop (i * (I.C.size + 2))).take I.C.size = I.C.enc x.v := by
      have : (cur.drop (i * (I.C.size + 2))).take I.C.size = ((cur.drop (i * (I.C.size + 2))).take (I.C.size + 2)).take I.C.size := by rw [List.take_take, Nat.min_eq_left (by omega)]
      rw [this, he', List.take_append_of_le_length (by rw [I.C.len]; exact Nat.le_refl _), List.take_of_length_le (by rw [I.C.len]; exact Nat.le_refl _)]
    rw [e2] at this
    exact this

theorem poolC_visit (σ : Pool T) (sc sf : Sl) : splice (poolC σ sc sf) 4 (iV (wr (σ.visits + 1))).cells.toList = poolC σ.visit sc sf := rfl

/-- What find leaves. -/
def FindR (I : PI T) (p : Nat) (σ : Pool T) (sc sf : Sl) (r : Rf) (x : Option Addr) (F1 : BS) (w1 : World) : Prop :=
  F1 = PoolF p sc sf ∧ match σ.find r with
    | none => x = none ∧ PoolX I p σ sc sf w1
    | some i => (∃ g, sc.a = some ⟨g, 0, none⟩ ∧ x = some ⟨g, i * (I.C.size + 2), none⟩) ∧ PoolX I p σ.visit sc sf w1

theorem find_spec (hT : I.Ty) (hF : I.Trees) (h : PoolX I p σ sc sf w) (r : Rf) : Spec I.c.P I.fFind [pa p 0, ag (rfC r)] (PoolF p sc sf) w fun v F1 w1 => ∃ x, v = eOA.enc x ∧ FindR I p σ sc sf r x F1 w1 := by
  refine (hF.find p r).spec hT.good.ok hT.good.mix h.lt ?_
  have hnone : σ.find r = none → ∀ w', Ag w.heap.size (PoolF p sc sf) w w' → ∃ x, Value.pointer none = eOA.enc x ∧ FindR I p σ sc sf r x (PoolF p sc sf) w' := fun hn w' ha =>
    ⟨none, rfl, rfl, by rw [hn]; exact ⟨rfl, h.keep fun b hb => ha.block b (.inr hb)⟩⟩
  unfold findT
  refine ⟨fun hb => ?_, fun hb => ?_⟩
  · exact hnone (by unfold Pool.find; rw [if_pos (by simpa using hb)])
  · have h0 : 0 ≤ r.ix := by simpa using hb
    have h0' : ¬ r.ix < 0 := by omega
    have hn0 : sc.n = σ.cells.length := h.cells.1
    refine TT_loadS_ld (ld_sc hT h) ?_
    refine ⟨fun hb => ?_, fun hb => ?_⟩
    · have hge : σ.cells.length ≤ r.ix.toNat := by simp at hb; omega
      exact hnone (by unfold Pool.find; rw [if_neg h0', List.getElem?_eq_none hge])
    · have hlt : r.ix.toNat < σ.cells.length := by simp at hb; omega
      have hc : σ.cells[r.ix.toNat]? = some σ.cells[r.ix.toNat] := List.getElem?_eq_getElem hlt
      obtain ⟨g, cur, ha, hg, hh, he, hle, l1, l2, l3⟩ := cell_ld hT h hc
      refine TT_loadS_ld (ld_sc hT h) ?_
      refine TT_loadS_ld (ld_index (s := sc) (i := r.ix) hT.uS hT.sC ha h0 (by omega)) ?_
      show TT _ _ _ (.loadS 3 _ _ _) _ _ _ _
      refine TT_loadS_ld l1 ?_
      refine ⟨fun hb => ?_, fun hb => ?_⟩
      · exact hnone (by unfold Pool.find; rw [if_neg h0', hc]; simp only; rw [if_neg (by intro hh; rw [hh.1] at hb; cases hb)])
      · refine TT_loadS_ld l2 ?_
        refine ⟨fun hb2 => ?_, fun hb2 => ?_⟩
        · exact hnone (by unfold Pool.find; rw [if_neg h0', hc]; simp only; rw [if_neg (by intro hh; rw [hh.2] at hb2; simp at hb2)])
        · have hfind : σ.find r = some r.ix.toNat := by
            unfold Pool.find; rw [if_neg h0', hc]; simp only
            rw [if_pos ⟨by simpa using hb, by simpa using hb2⟩]
          refine TT_prim_ld closed_nil h.lt (ld_visits hT h) ?_
          refine TT_store (cs := poolC σ sc sf) (e := I.tP) closed_nil h.lt (.inl rfl) h.blk hT.sI (by simp [Value.cells, iV, poolC]) one_int ?_
          intro w1 hp hoth hsz w2 ha2
          have hX : PoolX I p σ.visit sc sf w1 := h.nums hT rfl rfl (by rw [hp, poolC_visit]) hoth
          exact ⟨some ⟨g, r.ix.toNat * (I.C.size + 2), none⟩, rfl, rfl, by rw [hfind]; exact ⟨⟨g, ha, rfl⟩, hX.keep fun b hb => ha2.block b (.inr hb)⟩⟩

def PoolAt (I : PI T) (p : Nat) (σ : Pool T) (F : BS) (w : World) : Prop := ∃ sc sf, F = PoolF p sc sf ∧ PoolX I p σ sc sf w

theorem PoolAt.keep {F : BS} (h : PoolAt I p σ F w) (hb : ∀ b, F b → w1.heap[b]? = w.heap[b]?) : PoolAt I p σ F w1 := by
  obtain ⟨sc, sf, rfl, hX⟩ := h
  exact ⟨sc, sf, rfl, hX.keep hb⟩
theorem PoolAt.lt {F : BS} (h : PoolAt I p σ F w) : ∀ b, F b → b < w.heap.size := by
  obtain ⟨sc, sf, rfl, hX⟩ := h
  exact hX.lt
theorem PoolAt.self {F : BS} (h : PoolAt I p σ F w) : F p := by
  obtain ⟨sc, sf, rfl, hX⟩ := h
  exact .inl rfl

theorem get_spec (hT : I.Ty) (hF : I.Trees) {F : BS} (h : PoolAt I p σ F w) (r : Rf) : Spec I.c.P I.fGet [pa p 0, ag (rfC r)] F w fun v F1 w1 => ∃ x, v = (eTup2 (eN I) eBool).enc x ∧ x = (σ.get I.z r).1 ∧ F1 = F ∧ PoolAt I p (σ.get I.z r).2 F w1 := by
  obtain ⟨sc, sf, rfl, hX⟩ := h
  refine (hF.get p r).spec hT.good.ok hT.good.mix hX.lt ?_
  unfold getT
  refine TT_call0 closed_nil hX.lt (fun w' hk hs => find_spec hT hF (hX.keep hk) r) ?_
  rintro x F1 w1 ⟨rfl, hR⟩ hlt hnew hsz
  cases hf : σ.find r with
  | none =>
    rw [hf] at hR
    obtain ⟨rfl, hX1⟩ := hR
    intro w2 ha
    refine ⟨(I.z, false), rfl, ?_, rfl, sc, sf, rfl, ?_⟩
    · unfold Pool.get; rw [hf]; rfl
    · unfold Pool.get; rw [hf]; exact hX1.keep fun b hb => ha.block b (.inr hb)
  | some i =>
    rw [hf] at hR
    obtain ⟨⟨g, ha, rfl⟩, hX1⟩ := hR
    have hi : i < σ.cells.length := by
      unfold Pool.find at hf
      split at hf
      · cases hf
      · split at hf
        · cases hf
        · rename_i c hc
          split at hf
          · injection hf with hf; subst hf; exact (List.getElem?_eq_some_iff.1 hc).1
          · cases hf
    have hc : (σ.visit).cells[i]? = some σ.cells[i] := List.getElem?_eq_getElem hi
    obtain ⟨g', cur, ha', hg, hh, he, hle, l1, l2, l3⟩ := cell_ld hT hX1 hc
    have : g' = g := by rw [ha] at ha'; injection ha' with e; injection e with e; exact e.symm
    subst this
    refine TT_prim_ld closed_nil hX1.lt l3 ?_
    intro w2 ha2
    refine ⟨(σ.cells[i].v, true), rfl, ?_, rfl, sc, sf, rfl, ?_⟩
    · unfold Pool.get; rw [hf]; simp only [List.getElem?_eq_getElem hi]; rfl
    · unfold Pool.get; rw [hf]; exact hX1.keep fun b hb => ha2.block b (.inr hb)
end
end Go.Sx

set_option linter.unusedVariables false
set_option maxHeartbeats 1000000
namespace Go.Sx
open Go.RowKit

/-! ### append, as a step of a tree -/
theorem ownsRow_sl {w : World} {base : Nat} {e : TypeId} {size : Nat} {v : Value} {n : Nat} {xs : List Value} (h : w.ownsRow base e size v n xs) : ∃ s : Sl, v = slV s ∧ s.n = n := by
  rcases h.2 with ⟨h1, h2⟩ | ⟨g, cap, cur, hv, _⟩
  · exact ⟨⟨none, 0, 0⟩, h1, h2.symm⟩
  · exact ⟨⟨some ⟨g, 0, none⟩, n, cap⟩, hv, rfl⟩

section
variable {P : Program} {B : Nat} {R : Value → BS → World → Prop} {Γ : List Again} {Λ : Lam} {S : BS} {w : World}

theorem TT_append {T : Type} {t e : TypeId} {C : Codec T} {s : Sl} {xs news : List T} {G : BS} {i : TypeInfo} {z : Value} {k : Sl → Tree} {n : Nat} {cells : List Value} (hΓ : ClosedΓ B Γ) (hS : ∀ b, S b ↔ (slV s).ownBlock = some b ∨ G b) (hd : ∀ b, (slV s).ownBlock = some b → ¬ G b) (hlt : ∀ b, S b → b < w.heap.size)
    (hrow : RowAt w e C s xs) (ht : P.underlying t = some (.slice e)) (hi : P.info? e = some i) (hz : i.zero = some z) (his : i.size = C.size) (hzs : z.cells.size = C.size) (hsz : 0 < C.size) (hn : n = news.length) (hc : cells = flat C news)
    (h63 : xs.length + news.length ≤ maxLen) (hb : (xs.length + news.length) * i.bytes ≤ 140737488355328)
    (hk : ∀ y w1, RowAt w1 e C y (xs ++ news) → (∀ b, G b → w1.heap[b]? = w.heap[b]?) → w.heap.size ≤ w1.heap.size → ((slV y).ownBlock = (slV s).ownBlock ∨ ∃ b, (slV y).ownBlock = some b ∧ w.heap.size ≤ b) → TT P B R (k y) Γ Lam.none (fun b => (slV y).ownBlock = some b ∨ G b) w1) :
    TT P B R (.append #[t, t] t (slV s) e n cells [] eSl k) Γ Λ S w := by
  subst hn hc
  intro w' ha b hbS hbB hbh
  have hrow' : RowAt w' e C s xs := hrow.keep fun b hb => ha.block b (.inr ((hS b).2 (.inl hb)))
  have hlt' : ∀ b, S b → b < w'.heap.size := fun b hb => Nat.lt_of_lt_of_le (hlt b hb) ha.size
  obtain ⟨v', w1, hr, hown, hgr, hnil, hat⟩ := run_append_own_at (P := P) w' 0 t t e i z C.size i.bytes ht hi hz his rfl hzs hsz (slV s) s.n (flat C xs) hrow'.2 ⟨b, 0, none⟩ news.length news.length (flat C news) (flat_len C news)
    (World.news_of_block (cs := (flat C news).toArray) hbh) (flat_one C news) (by rw [hrow'.1]; exact h63) (by rw [hrow'.1]; exact hb) (Nat.zero_le _)
  obtain ⟨y, rfl, hyn⟩ := ownsRow_sl hown
  have hG1 : ∀ b, G b → w1.heap[b]? = w'.heap[b]? := fun b hb => hgr.block b (hlt' b ((hS b).2 (.inr hb))) (fun e => hd b e.symm hb)
  have hrowy : RowAt w1 e C y (xs ++ news) := ⟨by rw [hyn, hrow'.1, List.length_append], by rw [hyn, flat_append]; exact hown⟩
  have hwhere : (slV y).ownBlock = (slV s).ownBlock ∨ ∃ b, (slV y).ownBlock = some b ∧ w.heap.size ≤ b := hat.imp_right fun h => ⟨_, h, ha.size⟩
  refine ⟨y, fun b => (slV y).ownBlock = some b ∨ G b, w1, hr, ⟨⟨hgr.os, hgr.tape, hgr.output, hgr.size, fun b hb hn => hgr.block b hb (fun e => hn ((hS b).2 (.inl e.symm)))⟩, fun b hb => ?_, fun b hb => ?_⟩, ?_, ?_⟩
  · rcases hb with hb | hb
    · rcases hat with h | h
      · exact .inl ((hS b).2 (.inl (by rw [← h]; exact hb)))
      · right; rw [h] at hb; injection hb with hb; omega
    · exact .inl ((hS b).2 (.inr hb))
  · rcases hb with hb | hb
    · exact hrowy.lt hb
    · exact Nat.lt_of_lt_of_le (hlt' b ((hS b).2 (.inr hb))) hgr.size
  · rw [lam_cut_nil]; exact lam_none_ok
  · rw [lam_cut_nil]
    exact hk y w1 hrowy (fun b hb => (hG1 b hb).trans (ha.block b (.inr ((hS b).2 (.inr hb))))) (Nat.le_trans ha.size hgr.size) hwhere

theorem ld_slice_h {t e : TypeId} {s : Sl} {sz : Nat} {h : Int} (ht : P.underlying t = some (.slice e)) (hs : sizeT P e = some sz) (h0 : 0 ≤ h) (h1 : h ≤ s.c) : Ld P S w (Instr.sliceAt t (slV s) none (some (iV h)) none) (slV ⟨if s.c = 0 then s.a else s.a.map (·.add 0), h.toNat, s.c⟩) := fun w' _ => by
  have he : P.elem t = e := by simp [Program.elem, ht]
  have ht' : P.underlying t = some (.slice (P.elem t)) := by rw [he]; exact ht
  unfold slV iV
  rw [run_sliceAt_slice w' t _ _ _ _ ht', run_slice_h w' t s.a s.n s.c ht' _ h h0 h1, he, run_sizeOf hs]
  simp [sliced, Result.andThen]
end
end Go.Sx

set_option linter.unusedVariables false
set_option maxHeartbeats 1000000
namespace Go.Sx
open Go.RowKit

section
variable {T : Type} {I : PI T} {p : Nat} {σ : Pool T} {sc sf : Sl} {w w1 : World}

theorem find_lt {r : Rf} {i : Nat} (hf : σ.find r = some i) : i = r.ix.toNat ∧ 0 ≤ r.ix ∧ ∃ c, σ.cells[i]? = some c ∧ c.live = true ∧ c.gen = r.gen := by
  unfold Pool.find at hf
  split at hf
  · cases hf
  · split at hf
    · cases hf
    · rename_i hn c hc
      split at hf
      · rename_i hl
        injection hf with hf; subst hf
        exact ⟨rfl, by omega, c, hc, hl.1, hl.2⟩
      · cases hf

/-- One cell has turned. -/
theorem PoolX.turn (hT : I.Ty) (h : PoolX I p σ sc sf w) {i off : Nat} {x y : Cell T} {part : List Value} {g : Nat} {cur : List Value} (hi : σ.cells[i]? = some x) (hg : (slV sc).ownBlock = some g) (hcur : w.heap[g]? = some (.cells cur.toArray I.tC (0, 0)))
    (hy : splice ((cellCd I.C).enc x) off part = (cellCd I.C).enc y) (hp : off + part.length ≤ I.C.size + 2) (hw1 : w1.heap[g]? = some (.cells (splice cur (i * (I.C.size + 2) + off) part).toArray I.tC (0, 0)))
    (hb : ∀ b, b ≠ g → PoolF p sc sf b → w1.heap[b]? = w.heap[b]?) : PoolX I p { σ with cells := σ.cells.set i y } sc sf w1 := by
  obtain ⟨n1, n2, n3⟩ := h.ne hT
  exact ⟨by rw [hb p (fun e => n1 g hg e.symm) (.inl rfl)]; exact h.blk, h.cells.update hi hg hcur hy hp hw1, h.free.keep fun b hb' => hb b (fun e => n3 g b hg hb' e.symm) (.inr (.inr hb'))⟩

theorem splice_all {A B' : List Value} {part : List Value} (h : A.length = part.length) : splice (A ++ B') 0 part = part ++ B' := by
  simp [splice, ← h]
theorem splice_mid {A M B' part : List Value} {off : Nat} (hA : A.length = off) (h : M.length = part.length) : splice (A ++ (M ++ B')) off part = A ++ (part ++ B') := by
  subst hA
  unfold splice
  rw [List.take_left' rfl, ← h]
  simp

theorem modify_eq_set {l : List T} {i : Nat} {f : T → T} {x : T} (h : l[i]? = some x) : l.modify i f = l.set i (f x) := by
  apply List.ext_getElem?
  intro k
  rw [List.getElem?_modify, List.getElem?_set]
  by_cases e : i = k
  · subst e
    obtain ⟨hlt, he⟩ := List.getElem?_eq_some_iff.1 h
    simp [hlt, he]
  · simp [e]

theorem set_spec (hT : I.Ty) (hF : I.Trees) {F : BS} (h : PoolAt I p σ F w) (r : Rf) (v : T) : Spec I.c.P I.fSet [pa p 0, ag (rfC r), ag (I.C.enc v)] F w fun u F1 w1 => ∃ x, u = eBool.enc x ∧ x = (σ.set r v).1 ∧ F1 = F ∧ PoolAt I p (σ.set r v).2 F w1 := by
  obtain ⟨sc, sf, rfl, hX⟩ := h
  refine (hF.set p r v).spec hT.good.ok hT.good.mix hX.lt ?_
  unfold setT
  refine TT_call0 closed_nil hX.lt (fun w' hk hs => find_spec hT hF (hX.keep hk) r) ?_
  rintro x F1 w1 ⟨rfl, hR⟩ hlt hnew hsz
  cases hf : σ.find r with
  | none =>
    rw [hf] at hR
    obtain ⟨rfl, hX1⟩ := hR
    intro w2 ha
    refine ⟨false, rfl, ?_, rfl, sc, sf, rfl, ?_⟩
    · unfold Pool.set; rw [hf]
    · unfold Pool.set; rw [hf]; exact hX1.keep fun b hb => ha.block b (.inr hb)
  | some i =>
    rw [hf] at hR
    obtain ⟨⟨g, ha, rfl⟩, hX1⟩ := hR
    obtain ⟨hi, h0, c, hc, hlv, hgn⟩ := find_lt hf
    obtain ⟨g', cur, ha', hg, hh, he, hle, l1, l2, l3⟩ := cell_ld hT hX1 (show (σ.visit).cells[i]? = some c from hc)
    have : g' = g := by rw [ha] at ha'; injection ha' with e; injection e with e; exact e.symm
    subst this
    simp only [optCase, aa_mid]
    refine TT_store (cs := cur) (e := I.tC) closed_nil hX1.lt (.inr (.inl hg)) hh (by rw [hT.sN]; simp [ag, Value.cells, I.C.len]) (by simp [ag, Value.cells, I.C.len]; omega) (one_list (I.C.one v)) ?_
    intro w2 hp hoth hsz2 w3 ha3
    have hX2 := hX1.turn hT (y := { c with v := v }) (part := I.C.enc v) (off := 0) (show (σ.visit).cells[i]? = some c from hc) hg hh (splice_all (by rw [I.C.len, I.C.len])) (by rw [I.C.len]; omega) (by rw [hp]; simp [ag, Value.cells]) hoth
    refine ⟨true, rfl, ?_, rfl, sc, sf, rfl, ?_⟩
    · unfold Pool.set; rw [hf]
    · unfold Pool.set; rw [hf]
      show PoolX I p ((σ.visit).setAt i _) sc sf w3
      unfold Pool.setAt
      rw [modify_eq_set (show (σ.visit).cells[i]? = some c from hc)]
      exact hX2.keep fun b hb => ha3.block b (.inr hb)

theorem visits_spec (hT : I.Ty) (hF : I.Trees) {F : BS} (h : PoolAt I p σ F w) : Spec I.c.P I.fVisits [pa p 0] F w fun u F1 w1 => u = iV σ.visits ∧ F1 = F ∧ PoolAt I p σ F w1 := by
  obtain ⟨sc, sf, rfl, hX⟩ := h
  refine (hF.visits p).spec hT.good.ok hT.good.mix hX.lt ?_
  unfold visitsT
  refine TT_prim_ld closed_nil hX.lt (ld_visits hT hX) ?_
  intro w2 ha
  exact ⟨rfl, rfl, sc, sf, rfl, hX.keep fun b hb => ha.block b (.inr hb)⟩

/-! ### What holds of a pool -/
def Pool.lives (σ : Pool T) : Nat := σ.cells.countP (·.live)
structure Pool.Ok (n : Nat) (σ : Pool T) : Prop where
  len : σ.cells.length ≤ n
  free : ∀ i ∈ σ.free, 0 ≤ i ∧ ∃ c, σ.cells[i.toNat]? = some c ∧ c.live = false ∧ c.gen < 4294967295
  nodup : σ.free.Nodup
  gen : ∀ c ∈ σ.cells, 0 ≤ c.gen ∧ c.gen ≤ 4294967295
  held : σ.held = (σ.lives : Int)
  room : σ.free.length + σ.lives ≤ σ.cells.length
  cap0 : 0 ≤ σ.cap
  cap : σ.cap ≤ 16777216
  le : σ.held ≤ σ.cap

theorem wr_id {n : Int} (h1 : -9223372036854775808 ≤ n) (h2 : n ≤ 9223372036854775807) : wr n = n := by
  unfold wr IntKind.wrap
  simp only [IntKind.bits, IntKind.signed]
  simp
  omega
end
end Go.Sx

set_option linter.unusedVariables false
set_option maxHeartbeats 1000000
namespace Go.Sx
open Go.RowKit

section
variable {T : Type} {I : PI T} {p : Nat} {σ : Pool T} {sc sf : Sl} {w w1 : World}

theorem ownBlock_n (a : Option Addr) (n m c : Nat) : (slV ⟨a, n, c⟩).ownBlock = (slV ⟨a, m, c⟩).ownBlock := by
  cases a <;> rfl
theorem PoolF_n (p : Nat) (sc : Sl) (sf : Sl) (k : Nat) : PoolF p sc ⟨sf.a, k, sf.c⟩ = PoolF p sc sf := by
  unfold PoolF
  rw [ownBlock_n sf.a k sf.n sf.c]

theorem splice_f (σ : Pool T) (sc sf sf' : Sl) : splice (poolC σ sc sf) 1 (slV sf').cells.toList = poolC σ sc sf' := rfl
theorem splice_c (σ : Pool T) (sc sf sc' : Sl) : splice (poolC σ sc sf) 0 (slV sc').cells.toList = poolC σ sc' sf := rfl
theorem splice_h (σ : Pool T) (sc sf : Sl) (n : Int) : splice (poolC σ sc sf) 3 (iV n).cells.toList = poolC { σ with held := n } sc sf := rfl

theorem next_spec (hT : I.Ty) (hF : I.Trees) {F : BS} (h : PoolAt I p σ F w) {n : Nat} (hO : σ.Ok n) (hn : n < 4294967296) : Spec I.c.P I.fNext [pa p 0] F w fun u F1 w1 => ∃ x, u = eInt.enc x ∧ x = (σ.next I.z).1 ∧ PoolAt I p (σ.next I.z).2 F1 w1 := by
  obtain ⟨sc, sf, rfl, hX⟩ := h
  refine (hF.next p).spec hT.good.ok hT.good.mix hX.lt ?_
  have hfn : sf.n = σ.free.length := hX.free.1
  have hcn : sc.n = σ.cells.length := hX.cells.1
  have hfl : σ.free.length ≤ n := Nat.le_trans (Nat.le_trans (Nat.le_add_right _ _) hO.room) hO.len
  have hlen := hO.len
  have hwr : wr ((sf.n : Int) - 1) = (sf.n : Int) - 1 := wr_id (by omega) (by omega)
  obtain ⟨n1, n2, n3⟩ := hX.ne hT
  unfold nextT
  refine TT_prim_ld closed_nil hX.lt (ld_sf hT hX) ?_
  refine ⟨fun hb => ?_, fun hb => ?_⟩
  · have hpos : 0 < σ.free.length := by simp [hwr] at hb; omega
    have hk : σ.free[σ.free.length - 1]? = some σ.free[σ.free.length - 1] := List.getElem?_eq_getElem (by omega)
    generalize hx : σ.free[σ.free.length - 1] = x at hk
    have hlast : σ.free.getLast? = some x := by rw [List.getLast?_eq_getElem?]; exact hk
    obtain ⟨g, cur, ha, hg, hh, he, hle, htk⟩ := hX.free.cell hk
    simp only [hwr]
    refine TT_prim_ld closed_nil hX.lt (ld_sf hT hX) ?_
    refine TT_prim_ld closed_nil hX.lt (ld_index (s := sf) (i := (sf.n : Int) - 1) hT.uIS hT.sI ha (by omega) (by omega)) ?_
    refine TT_prim_ld (H := eInt) (x := x) closed_nil hX.lt (ld_one (.inr (.inr hg)) hh hT.aI ?_) ?_
    · have he' : (cur.drop ((σ.free.length - 1) * 1)).take 1 = [iV x] := he
      have h2 := congrArg (·[0]?) he'
      simp only [List.getElem?_cons_zero] at h2
      rw [List.getElem?_take_of_lt (by omega), List.getElem?_drop, Nat.add_zero] at h2
      rw [show ((sf.n : Int) - 1).toNat * 1 = (σ.free.length - 1) * 1 by omega, h2]
      rfl
    refine TT_prim_ld closed_nil hX.lt (ld_sf hT hX) ?_
    have hcap : sf.n ≤ sf.c := by
      rcases hX.free.2.2 with ⟨h1, h2⟩ | ⟨g2, cap, cur2, hv, h0, hg2, h1, h2, h3, h4⟩
      · omega
      · unfold slV at hv; injection hv with _ _ hv; omega
    refine TT_prim_ld (H := eSl) (x := ⟨sf.a, σ.free.length - 1, sf.c⟩) closed_nil hX.lt ?_ ?_
    · have := ld_slice_h (S := PoolF p sc sf) (w := w) (s := sf) (h := (sf.n : Int) - 1) hT.uIS hT.sI (by omega) (by omega)
      have e : (⟨if sf.c = 0 then sf.a else sf.a.map (·.add 0), ((sf.n : Int) - 1).toNat, sf.c⟩ : Sl) = ⟨sf.a, σ.free.length - 1, sf.c⟩ := by
        rw [if_neg (by omega), ha]
        simp [Addr.add_mid]; omega
      rw [e] at this; exact this
    refine TT_store (cs := poolC σ sc sf) (e := I.tP) closed_nil hX.lt (.inl rfl) hX.blk hT.sIS (by simp [Value.cells, slV, poolC]) one_sl ?_
    intro w1 hp hoth hsz w2 ha2
    have htake : RowAt w I.tI intCd ⟨sf.a, σ.free.length - 1, sf.c⟩ (σ.free.take (σ.free.length - 1)) := hX.free.take (by omega) (by decide) hpos
    have hX1 : PoolX I p { σ with free := σ.free.dropLast } sc ⟨sf.a, σ.free.length - 1, sf.c⟩ w1 := by
      refine ⟨by rw [hp, splice_f]; rfl, hX.cells.keep fun b hb => hoth b (n1 b hb) (.inr (.inl hb)), ?_⟩
      rw [show ({ σ with free := σ.free.dropLast } : Pool T).free = σ.free.take (σ.free.length - 1) from List.dropLast_eq_take]
      exact htake.keep fun b hb => by
        rw [ownBlock_n sf.a _ sf.n sf.c] at hb
        exact hoth b (n2 b hb) (.inr (.inr hb))
    refine ⟨x, rfl, ?_, sc, ⟨sf.a, σ.free.length - 1, sf.c⟩, (PoolF_n p sc sf _).symm, ?_⟩
    · unfold Pool.next; rw [hlast]
    · unfold Pool.next; rw [hlast]
      exact hX1.keep fun b hb => ha2.block b (.inr (by rw [PoolF_n] at hb; exact hb))
  · have h0 : σ.free = [] := by
      simp [hwr] at hb
      exact List.eq_nil_of_length_eq_zero (by omega)
    have hlast : σ.free.getLast? = none := by rw [h0]; rfl
    refine TT_prim_ld closed_nil hX.lt (ld_sc hT hX) ?_
    obtain ⟨i, z, b, hi, hz, hzs, hib, hbl⟩ := hT.zC
    obtain ⟨i', z', hi', hz', hzs', hcs⟩ : ∃ i' z', I.c.P.info? I.tC = some i' ∧ i'.zero = some z' ∧ z'.cells.size = I.C.size + 2 ∧ i'.size = I.C.size + 2 := ⟨i, z, hi, hz, hzs, by
      have := hT.sC; unfold sizeT at this; rw [hi] at this; simpa using this⟩
    rw [hi] at hi'; injection hi' with hi'; subst hi'
    refine TT_append (C := cellCd I.C) (xs := σ.cells) (news := [⟨I.z, 0, false⟩]) (G := fun b => b = p ∨ (slV sf).ownBlock = some b) (i := i) (z := z) closed_nil (fun b => ?_) (fun b hb hG => ?_) hX.lt hX.cells hT.uS hi hz hcs hzs (by simp [cellCd]) rfl (by simp [flat, cellCd]) (by simp [maxLen]; omega) ?_ ?_
    · unfold PoolF; constructor
      · rintro (h | h | h)
        · exact .inr (.inl h)
        · exact .inl h
        · exact .inr (.inr h)
      · rintro (h | h | h)
        · exact .inr (.inl h)
        · exact .inl h
        · exact .inr (.inr h)
    · rcases hG with hG | hG
      · exact n1 b hb hG
      · exact n3 b b hb hG rfl
    · rw [hib]
      have : (σ.cells.length + 1) * b ≤ 4294967296 * 1024 := Nat.mul_le_mul (by omega) hbl
      simp only [List.length_singleton]; omega
    · intro y w1 hrow hG hsz hwh
      have hblk : w1.heap[p]? = some (.cells (poolC σ sc sf).toArray I.tP (0, 0)) := by rw [hG p (.inl rfl)]; exact hX.blk
      have hfree1 : RowAt w1 I.tI intCd sf σ.free := hX.free.keep fun b hb => hG b (.inr hb)
      have hyp : ∀ b, (slV y).ownBlock = some b → b ≠ p := fun b hb e => by
        subst e
        obtain ⟨cur, hc⟩ := hrow.typed hb
        rw [hblk] at hc; injection hc with hc; injection hc with _ h2; exact hT.d1 h2
      have hlt1 : ∀ b, ((slV y).ownBlock = some b ∨ b = p ∨ (slV sf).ownBlock = some b) → b < w1.heap.size := by
        rintro b (h | rfl | h)
        · exact hrow.lt h
        · exact heap_lt hblk
        · exact hfree1.lt h
      refine TT_store (cs := poolC σ sc sf) (e := I.tP) closed_nil hlt1 (.inr (.inl rfl)) hblk hT.sS (by simp [Value.cells, slV, poolC]) one_sl ?_
      intro w2 hp hoth hsz2
      have hX2 : PoolX I p { σ with cells := σ.cells ++ [⟨I.z, 0, false⟩] } y sf w2 := by
        refine ⟨by rw [hp, splice_c]; rfl, hrow.keep fun b hb => hoth b (hyp b hb) (.inl hb), hfree1.keep fun b hb => hoth b (n2 b hb) (.inr (.inr hb))⟩
      have hSeq : (fun b => (slV y).ownBlock = some b ∨ b = p ∨ (slV sf).ownBlock = some b) = PoolF p y sf := by
        funext b; unfold PoolF; apply propext; constructor
        · rintro (h | h | h)
          · exact .inr (.inl h)
          · exact .inl h
          · exact .inr (.inr h)
        · rintro (h | h | h)
          · exact .inr (.inl h)
          · exact .inl h
          · exact .inr (.inr h)
      rw [hSeq]
      refine TT_prim_ld closed_nil hX2.lt (ld_sc hT hX2) ?_
      intro w3 ha3
      have hyn : y.n = σ.cells.length + 1 := by have := hX2.cells.1; simpa using this
      refine ⟨(σ.cells.length : Int), ?_, ?_, y, sf, rfl, ?_⟩
      · rw [hyn, wr_id (by omega) (by omega)]
        simp [eInt, iV]
      · unfold Pool.next; rw [hlast]
      · unfold Pool.next; rw [hlast]; exact hX2.keep fun b hb => ha3.block b (.inr hb)
end
end Go.Sx

set_option linter.unusedVariables false
set_option maxHeartbeats 1000000
namespace Go.Sx
open Go.RowKit

section
variable {T : Type} {I : PI T} {p : Nat} {σ : Pool T} {sc sf : Sl} {w w1 : World} {B : Nat} {R : Value → BS → World → Prop} {Γ : List Again} {Λ : Lam}

/-- A store into a cell. -/
theorem TT_cell_store (hT : I.Ty) (hX : PoolX I p σ sc sf w) {i off : Nat} {x y : Cell T} {g : Nat} {ty : TypeId} {u : Value} {k : Tree} (hΓ : ClosedΓ B Γ) (hi : σ.cells[i]? = some x) (ha : sc.a = some ⟨g, 0, none⟩)
    (hs : sizeT I.c.P ty = some u.cells.size) (h1 : u.cells.all (·.oneCell') = true) (hy : splice ((cellCd I.C).enc x) off u.cells.toList = (cellCd I.C).enc y) (hp : off + u.cells.size ≤ I.C.size + 2)
    (hk : ∀ w1, PoolX I p { σ with cells := σ.cells.set i y } sc sf w1 → w.heap.size ≤ w1.heap.size → TT I.c.P B R k Γ Lam.none (PoolF p sc sf) w1) :
    TT I.c.P B R (.primU (Instr.storeAt ty (aa ⟨g, i * (I.C.size + 2), none⟩ off) u) [] k) Γ Λ (PoolF p sc sf) w := by
  obtain ⟨g', cur, ha', hg, hh, he, hle, _⟩ := cell_ld hT hX hi
  have : g' = g := by rw [ha] at ha'; injection ha' with e; injection e with e; exact e.symm
  subst this
  rw [aa_mid]
  refine TT_store (cs := cur) (e := I.tC) hΓ hX.lt (.inr (.inl hg)) hh hs (by omega) h1 ?_
  intro w2 hp2 hoth hsz2
  exact hk w2 (hX.turn hT (part := u.cells.toList) (off := off) hi hg hh hy (by simpa using hp) hp2 hoth) hsz2

theorem TT_held_store (hT : I.Ty) (hX : PoolX I p σ sc sf w) {n : Int} {k : Tree} (hΓ : ClosedΓ B Γ)
    (hk : ∀ w1, PoolX I p { σ with held := n } sc sf w1 → w.heap.size ≤ w1.heap.size → TT I.c.P B R k Γ Lam.none (PoolF p sc sf) w1) :
    TT I.c.P B R (.primU (Instr.storeAt I.tI (pa p 3) (iV n)) [] k) Γ Λ (PoolF p sc sf) w := by
  refine TT_store (cs := poolC σ sc sf) (e := I.tP) hΓ hX.lt (.inl rfl) hX.blk hT.sI (by simp [Value.cells, iV, poolC]) one_int ?_
  intro w1 hp hoth hsz
  exact hk w1 (hX.nums hT rfl rfl (by rw [hp, splice_h]) hoth) hsz

theorem next_ok {n : Nat} (hO : σ.Ok n) (z : T) : 0 ≤ (σ.next z).1 ∧ ∃ c, (σ.next z).2.cells[(σ.next z).1.toNat]? = some c ∧ c.live = false ∧ 0 ≤ c.gen ∧ c.gen < 4294967295 := by
  unfold Pool.next
  cases hl : σ.free.getLast? with
  | some i =>
    obtain ⟨h0, c, hc, h1, h2⟩ := hO.free i (List.mem_of_getLast? hl)
    exact ⟨h0, c, hc, h1, (hO.gen c (List.mem_of_getElem? hc)).1, h2⟩
  | none => exact ⟨Int.natCast_nonneg _, ⟨z, 0, false⟩, by simp, rfl, by simp, by simp⟩
theorem next_held (z : T) : (σ.next z).2.held = σ.held ∧ (σ.next z).2.cap = σ.cap ∧ (σ.next z).2.visits = σ.visits := by
  unfold Pool.next
  cases hl : σ.free.getLast? <;> exact ⟨rfl, rfl, rfl⟩
theorem next_len {n : Nat} (hO : σ.Ok n) (z : T) : (σ.next z).2.cells.length ≤ n + 1 := by
  have := hO.len
  unfold Pool.next
  cases hl : σ.free.getLast? <;> simp <;> omega

theorem put_spec (hT : I.Ty) (hF : I.Trees) {F : BS} (h : PoolAt I p σ F w) {n : Nat} (hO : σ.Ok n) (hn : n < 4294967296) (v : T) :
    Spec I.c.P I.fPut [pa p 0, ag (I.C.enc v)] F w fun u F1 w1 => ∃ x, u = (eTup2 (eAg Rf rfC) eBool).enc x ∧ x = (σ.put I.z v).1 ∧ PoolAt I p (σ.put I.z v).2 F1 w1 := by
  obtain ⟨sc, sf, rfl, hX⟩ := h
  refine (hF.put p v).spec hT.good.ok hT.good.mix hX.lt ?_
  unfold putT
  refine TT_loadS_ld (ld_held hT hX) ?_
  refine TT_loadS_ld (ld_cap hT hX) ?_
  refine ⟨fun hb => ?_, fun hb => ?_⟩
  · have he : σ.held = σ.cap := by simpa using hb
    intro w2 ha
    refine ⟨(⟨0, 0⟩, false), rfl, ?_, sc, sf, rfl, ?_⟩
    · unfold Pool.put; rw [if_pos he]; try rfl
    · unfold Pool.put; rw [if_pos he]; exact hX.keep fun b hb => ha.block b (.inr hb)
  · have he : ¬ σ.held = σ.cap := by simpa using hb
    refine TT_call0 closed_nil hX.lt (fun w' hk hs => next_spec hT hF ⟨sc, sf, rfl, hX.keep hk⟩ hO hn) ?_
    rintro x F1 w1 ⟨rfl, sc1, sf1, rfl, hX1⟩ hlt hnew hsz
    obtain ⟨h0, c, hc, hcl, hg0, hg1⟩ := next_ok hO I.z
    have hnl := next_len hO I.z
    have hnh := next_held (σ := σ) I.z
    generalize hnx : σ.next I.z = nx at *
    obtain ⟨i, σ1⟩ := nx
    simp only at h0 hc hnl hnh hX1 ⊢
    have hil : i.toNat < σ1.cells.length := (List.getElem?_eq_some_iff.1 hc).1
    obtain ⟨g, cur, ha, _⟩ := hX1.cells.cell hc
    have hscn : sc1.n = σ1.cells.length := hX1.cells.1
    refine TT_prim_ld closed_nil hX1.lt (ld_sc hT hX1) ?_
    refine TT_prim_ld closed_nil hX1.lt (ld_index (s := sc1) (i := i) hT.uS hT.sC ha h0 (by omega)) ?_
    refine TT_cell_store hT hX1 (y := { c with v := v }) closed_nil hc ha (by rw [hT.sN]; simp [ag, Value.cells, I.C.len]) (one_list (I.C.one v)) (by simp only [ag, Value.cells]; exact splice_all (by rw [I.C.len, I.C.len])) (by simp [ag, Value.cells, I.C.len]) ?_
    intro w2 hX2 hs2
    refine TT_cell_store hT hX2 (x := { c with v := v }) (y := { c with v := v, live := true }) closed_nil (by simp [hil]) ha hT.sB one_bool ?_ (by simp [Value.cells]) ?_
    · show splice (I.C.enc v ++ [iV c.gen, .bool c.live]) _ [_] = I.C.enc v ++ [iV c.gen, .bool true]
      have e : (I.C.enc v ++ [iV c.gen, Value.bool c.live]) = (I.C.enc v ++ [iV c.gen]) ++ ([Value.bool c.live] ++ []) := by simp
      rw [e, splice_mid (M := [Value.bool c.live]) (part := [.bool true]) (by simp [I.C.len]) rfl]; simp
    intro w3 hX3 hs3
    have hc3 : (({ σ1 with cells := (σ1.cells.set i.toNat { c with v := v }).set i.toNat { c with v := v, live := true } } : Pool T)).cells[i.toNat]? = some { c with v := v, live := true } := by simp [hil]
    obtain ⟨g', cur3, ha3, hg3, hh3, he3, hle3, l1, l2, l3⟩ := cell_ld hT hX3 hc3
    have : g' = g := by rw [ha] at ha3; injection ha3 with e; injection e with e; exact e.symm
    subst this
    refine TT_prim_ld closed_nil hX3.lt l2 ?_
    refine TT_cell_store hT hX3 (y := { v := v, gen := wr (c.gen + 1), live := true }) closed_nil hc3 ha hT.sI one_int ?_ (by simp [Value.cells, iV]) ?_
    · show splice (I.C.enc v ++ [iV c.gen, .bool true]) _ [iV (wr (c.gen + 1))] = I.C.enc v ++ [iV (wr (c.gen + 1)), .bool true]
      have e : (I.C.enc v ++ [iV c.gen, Value.bool true]) = I.C.enc v ++ ([iV c.gen] ++ [.bool true]) := by simp
      rw [e, splice_mid (M := [iV c.gen]) (part := [iV (wr (c.gen + 1))]) (by simp [I.C.len]) rfl]; simp
    intro w4 hX4 hs4
    refine TT_prim_ld closed_nil hX4.lt (ld_held hT hX4) ?_
    refine TT_held_store hT hX4 closed_nil ?_
    intro w5 hX5 hs5
    have hc5 : (((σ1.cells.set i.toNat { c with v := v }).set i.toNat { c with v := v, live := true }).set i.toNat { v := v, gen := wr (c.gen + 1), live := true })[i.toNat]? = some { v := v, gen := wr (c.gen + 1), live := true } := by simp [hil]
    obtain ⟨g5, cur5, ha5, hg5, hh5, he5, hle5, k1, k2, k3⟩ := cell_ld hT hX5 hc5
    have : g5 = g' := by rw [ha] at ha5; injection ha5 with e; injection e with e; exact e.symm
    subst this
    refine TT_prim_ld closed_nil hX5.lt k2 ?_
    intro w6 ha6
    have hput : σ.put I.z v = ((⟨i, wr (c.gen + 1)⟩, true), { (σ1.setAt i.toNat fun _ => { v := v, gen := wr (c.gen + 1), live := true }) with held := wr (σ.held + 1) }) := by
      unfold Pool.put; rw [if_neg he, hnx]; simp [hc]
    refine ⟨(⟨i, wr (c.gen + 1)⟩, true), rfl, ?_, sc1, sf1, rfl, ?_⟩
    · rw [hput]; try rfl
    · rw [hput]
      simp only [Pool.setAt]
      rw [modify_eq_set hc]
      have : PoolX I p _ sc1 sf1 w6 := hX5.keep fun b hb => ha6.block b (.inr hb)
      simp only [List.set_set] at this
      rw [hnh.1] at this
      exact this

theorem drop_spec (hT : I.Ty) (hF : I.Trees) (hD : ∀ t r, FnT I.c I.fDrop [pa t 0, ag (rfC r)] (dropT I t r)) {F : BS} (h : PoolAt I p σ F w) {n : Nat} (hO : σ.Ok n) (hn : n < 4294967296) (r : Rf) :
    Spec I.c.P I.fDrop [pa p 0, ag (rfC r)] F w fun u F1 w1 => ∃ x, u = (eTup2 (eN I) eBool).enc x ∧ x = (σ.drop I.z r).1 ∧ PoolAt I p (σ.drop I.z r).2 F1 w1 := by
  obtain ⟨sc, sf, rfl, hX⟩ := h
  refine (hD p r).spec hT.good.ok hT.good.mix hX.lt ?_
  unfold dropT
  refine TT_call0 closed_nil hX.lt (fun w' hk hs => find_spec hT hF (hX.keep hk) r) ?_
  rintro x F1 w1 ⟨rfl, hR⟩ hlt hnew hsz
  cases hf : σ.find r with
  | none =>
    rw [hf] at hR
    obtain ⟨rfl, hX1⟩ := hR
    intro w2 ha
    refine ⟨(I.z, false), rfl, ?_, sc, sf, rfl, ?_⟩
    · unfold Pool.drop; rw [hf]; try rfl
    · unfold Pool.drop; rw [hf]; exact hX1.keep fun b hb => ha.block b (.inr hb)
  | some i =>
    rw [hf] at hR
    obtain ⟨⟨g, ha, rfl⟩, hX1⟩ := hR
    obtain ⟨hi, h0, c, hc, hlv, hgn⟩ := find_lt hf
    have hil : i < σ.cells.length := (List.getElem?_eq_some_iff.1 hc).1
    obtain ⟨g', cur, ha', hg, hh, he, hle, l1, l2, l3⟩ := cell_ld hT hX1 (show (σ.visit).cells[i]? = some c from hc)
    have : g' = g := by rw [ha] at ha'; injection ha' with e; injection e with e; exact e.symm
    subst this
    simp only [optCase]
    refine TT_prim_ld closed_nil hX1.lt l3 ?_
    refine TT_prim_ld closed_nil hX1.lt l2 ?_
    rw [show (Value.pointer (some ⟨g', i * (I.C.size + 2), none⟩)) = aa ⟨g', i * (I.C.size + 2), none⟩ 0 by rw [aa_mid]; rfl]
    refine TT_cell_store hT hX1 (y := { v := I.z, gen := c.gen, live := false }) closed_nil (show (σ.visit).cells[i]? = some c from hc) ha (by rw [hT.sC]; simp [ag, Value.cells, I.C.len]) (one_list fun v hv => ?_) ?_ (by simp [ag, Value.cells, I.C.len]) ?_
    · rcases List.mem_append.1 hv with h | h
      · exact I.C.one _ v h
      · simp at h; rcases h with rfl | rfl <;> rfl
    · simp only [ag, Value.cells]
      have := splice_all (A := (cellCd I.C).enc c) (B' := []) (part := I.C.enc I.z ++ [iV c.gen, .bool false]) (by rw [(cellCd I.C).len]; simp [cellCd, I.C.len])
      simp only [List.append_nil] at this
      exact this
    intro w2 hX2 hs2
    refine TT_prim_ld closed_nil hX2.lt (ld_held hT hX2) ?_
    refine TT_held_store hT hX2 closed_nil ?_
    intro w3 hX3 hs3
    have hc3 : (((σ.visit).cells.set i { v := I.z, gen := c.gen, live := false }))[i]? = some { v := I.z, gen := c.gen, live := false } := by
      have : i < σ.visit.cells.length := hil
      simp [this]
    obtain ⟨g3, cur3, ha3, hg3, hh3, he3, hle3, k1, k2, k3⟩ := cell_ld hT hX3 hc3
    have : g3 = g' := by rw [ha] at ha3; injection ha3 with e; injection e with e; exact e.symm
    subst this
    refine TT_prim_ld closed_nil hX3.lt k2 ?_
    have hfl : σ.free.length ≤ n := Nat.le_trans (Nat.le_trans (Nat.le_add_right _ _) hO.room) hO.len
    have hdrop : σ.drop I.z r = ((c.v, true), { cells := (σ.visit).cells.set i { v := I.z, gen := c.gen, live := false }, free := if r.gen < 4294967295 then σ.free ++ [r.ix] else σ.free, cap := σ.cap, held := wr (σ.held - 1), visits := (σ.visit).visits }) := by
      unfold Pool.drop; rw [hf]; simp only [hc, Pool.setAt]
      rw [modify_eq_set (show (σ.visit).cells[i]? = some c from hc)]
      rfl
    refine ⟨fun hb => ?_, fun hb => ?_⟩
    · have hgl : r.gen < 4294967295 := by rw [← hgn]; simpa using hb
      refine TT_loadS_ld (ld_sf hT hX3) ?_
      obtain ⟨n1, n2, n3⟩ := hX3.ne hT
      obtain ⟨ii, z, hi', hz, hzs, hib⟩ := hT.zI
      have his : ii.size = 1 := by have := hT.sI; unfold sizeT at this; rw [hi'] at this; simpa using this
      refine TT_append (C := intCd) (xs := σ.free) (news := [r.ix]) (G := fun b => b = p ∨ (slV sc).ownBlock = some b) (i := ii) (z := z) closed_nil (fun b => ?_) (fun b hb hG => ?_) hX3.lt hX3.free hT.uIS hi' hz his hzs (by decide) rfl (by simp [flat, intCd]) (by simp [maxLen]; omega) ?_ ?_
      · unfold PoolF; constructor
        · rintro (h | h | h)
          · exact .inr (.inl h)
          · exact .inr (.inr h)
          · exact .inl h
        · rintro (h | h | h)
          · exact .inr (.inr h)
          · exact .inl h
          · exact .inr (.inl h)
      · rcases hG with hG | hG
        · exact n2 b hb hG
        · exact n3 b b hG hb rfl
      · rw [hib]; simp only [List.length_singleton]; omega
      · intro y w4 hrow hG hsz4 hwh
        have hblk : w4.heap[p]? = some (.cells (poolC (⟨(σ.visit).cells.set i ⟨I.z, c.gen, false⟩, σ.free, σ.cap, wr (σ.held - 1), (σ.visit).visits⟩ : Pool T) sc sf).toArray I.tP (0, 0)) := by rw [hG p (.inl rfl)]; exact hX3.blk
        have hcells4 : RowAt w4 I.tC (cellCd I.C) sc _ := hX3.cells.keep fun b hb => hG b (.inr hb)
        have hyp : ∀ b, (slV y).ownBlock = some b → b ≠ p := fun b hb e => by
          subst e
          obtain ⟨cur, hc⟩ := hrow.typed hb
          rw [hblk] at hc; injection hc with hc; injection hc with _ h2; exact hT.d2 h2
        have hlt4 : ∀ b, ((slV y).ownBlock = some b ∨ b = p ∨ (slV sc).ownBlock = some b) → b < w4.heap.size := by
          rintro b (h | rfl | h)
          · exact hrow.lt h
          · exact heap_lt hblk
          · exact hcells4.lt h
        refine TT_store (cs := poolC _ sc sf) (e := I.tP) closed_nil hlt4 (.inr (.inl rfl)) hblk hT.sIS (by simp [Value.cells, slV, poolC]) one_sl ?_
        intro w5 hp hoth hsz5
        rw [splice_f] at hp
        have hSeq : (fun b => (slV y).ownBlock = some b ∨ b = p ∨ (slV sc).ownBlock = some b) = PoolF p sc y := by
          funext b; unfold PoolF; apply propext; constructor
          · rintro (h | h | h)
            · exact .inr (.inr h)
            · exact .inl h
            · exact .inr (.inl h)
          · rintro (h | h | h)
            · exact .inr (.inl h)
            · exact .inr (.inr h)
            · exact .inl h
        rw [hSeq]
        intro w6 ha6
        refine ⟨(c.v, true), rfl, ?_, sc, y, rfl, ?_⟩
        · rw [hdrop]; try rfl
        · rw [hdrop, if_pos hgl]
          have : PoolX I p { cells := (σ.visit).cells.set i { v := I.z, gen := c.gen, live := false }, free := σ.free ++ [r.ix], cap := σ.cap, held := wr (σ.held - 1), visits := (σ.visit).visits } sc y w5 :=
            ⟨hp, hcells4.keep fun b hb => hoth b (n1 b hb) (.inr (.inr hb)), hrow.keep fun b hb => hoth b (hyp b hb) (.inl hb)⟩
          exact this.keep fun b hb => ha6.block b (.inr hb)
    · have hgl : ¬ r.gen < 4294967295 := by rw [← hgn]; simpa using hb
      intro w6 ha6
      refine ⟨(c.v, true), rfl, ?_, sc, sf, rfl, ?_⟩
      · rw [hdrop]; try rfl
      · rw [hdrop, if_neg hgl]
        exact hX3.keep fun b hb => ha6.block b (.inr hb)
end
end Go.Sx
