import Derived.Below
import Derived.Calls
import Derived.Orders
import Derived.Laws.World
namespace Go.Sx
open Go.RowKit

/-! ### What a slot holds -/
inductive SV where
  | any
  | v (x : Value)
  | lit (b : Bool)
  | box (ty : TypeId) (cells : List Value)
  | loc (j off : Nat)
  | row (ty : TypeId) (len : Nat) (cells : List Value)

structure Enc where
  T : Type
  enc : T → Value

structure LHint where
  slots : List Nat
  L : Type
  emb : L → List SV

inductive Tree : Type 1 where
  | ret (v : Value)
  | ite (b : Bool) (t e : Tree)
  | call (f : FuncId) (args : Array Value) (keep : List Nat) (H : Enc) (k : H.T → Tree)
  | prim (m : Sem Value) (keep : List Nat) (H : Enc) (k : H.T → Tree)
  | primU (m : Sem Unit) (keep : List Nat) (k : Tree)
  | append (tys : Array TypeId) (ty : TypeId) (x : Value) (e : TypeId) (len : Nat) (cells : List Value) (keep : List Nat) (H : Enc) (k : H.T → Tree)
  | loadS (d : Nat) (m : Sem Value) (H : Enc) (k : H.T → Tree)
  | endS (k : Tree)
  | loop (init : List SV) (L : Type) (emb : L → List SV) (body : L → Tree)
  | again (d : Nat) (vals : List SV)
  | stuck

/-! ### Frames -/
abbrev BS := Nat → Prop

structure Ag (B : Nat) (S : BS) (w w' : World) : Prop where
  os : w'.os = w.os
  tape : w'.tape = w.tape
  output : w'.output = w.output
  size : w.heap.size ≤ w'.heap.size
  block : ∀ b, (b < B ∨ S b) → w'.heap[b]? = w.heap[b]?

theorem Ag.refl (B : Nat) (S : BS) (w : World) : Ag B S w w := ⟨rfl, rfl, rfl, Nat.le_refl _, fun _ _ => rfl⟩
theorem Ag.trans {B : Nat} {S : BS} {a b c : World} (h : Ag B S a b) (k : Ag B S b c) : Ag B S a c :=
  ⟨k.os.trans h.os, k.tape.trans h.tape, k.output.trans h.output, Nat.le_trans h.size k.size, fun i hi => (k.block i hi).trans (h.block i hi)⟩

/-- Only blocks of S, and new ones, have turned. -/
structure Fr (S : BS) (w w' : World) : Prop where
  os : w'.os = w.os
  tape : w'.tape = w.tape
  output : w'.output = w.output
  size : w.heap.size ≤ w'.heap.size
  block : ∀ b, b < w.heap.size → ¬ S b → w'.heap[b]? = w.heap[b]?

theorem Fr.refl (S : BS) (w : World) : Fr S w w := ⟨rfl, rfl, rfl, Nat.le_refl _, fun _ _ _ => rfl⟩

/-- A step: what was owned (S), what is owned behind it (S1). -/
structure Step (S : BS) (w : World) (S1 : BS) (w1 : World) : Prop where
  fr : Fr S w w1
  new : ∀ b, S1 b → S b ∨ w.heap.size ≤ b
  lt : ∀ b, S1 b → b < w1.heap.size

theorem Step.refl {S : BS} {w : World} (h : ∀ b, S b → b < w.heap.size) : Step S w S w := ⟨Fr.refl S w, fun _ h => .inl h, h⟩
theorem Step.trans {S S1 S2 : BS} {w w1 w2 : World} (h : Step S w S1 w1) (k : Step S1 w1 S2 w2) : Step S w S2 w2 := by
  refine ⟨⟨k.fr.os.trans h.fr.os, k.fr.tape.trans h.fr.tape, k.fr.output.trans h.fr.output, Nat.le_trans h.fr.size k.fr.size, fun b hb hs => ?_⟩, fun b hb => ?_, k.lt⟩
  · rw [k.fr.block b (Nat.lt_of_lt_of_le hb h.fr.size) (fun h1 => ?_), h.fr.block b hb hs]
    rcases h.new b h1 with h2 | h2
    · exact hs h2
    · omega
  · rcases k.new b hb with h1 | h1
    · exact h.new b h1
    · exact .inr (Nat.le_trans h.fr.size h1)
theorem Step.of_below {S : BS} {w w1 : World} (hS : ∀ b, S b → b < w.heap.size) (h : Below w.heap.size w w1) : Step S w S w1 :=
  ⟨⟨h.os, h.tape, h.output, h.size, fun b hb _ => h.block b hb⟩, fun _ h => .inl h, fun b hb => Nat.lt_of_lt_of_le (hS b hb) h.size⟩

theorem Ag.of_below {B : Nat} {S : BS} {w w1 : World} (hB : B ≤ w.heap.size) (hS : ∀ b, S b → b < w.heap.size) (h : Below w.heap.size w w1) : Ag B S w w1 :=
  ⟨h.os, h.tape, h.output, h.size, fun b hb => h.block b (by rcases hb with hb | hb; exact Nat.lt_of_lt_of_le hb hB; exact hS b hb)⟩

/-! ### What a tree means -/
def callB (P : Program) (f : FuncId) : Bool :=
  match P.funcs[f]? with
  | some fn => fn.name != "runtime.NumGoroutine" && fn.body.isSome
  | none => false

def Stab (P : Program) (B : Nat) (S : BS) (w : World) (m : Sem Value) (v : Value) : Prop := ∀ w', Ag B S w w' → m.run P w' = .ok v w'

theorem Stab.ag {P : Program} {B : Nat} {S : BS} {w w' : World} {m : Sem Value} {v : Value} (h : Stab P B S w m v) (hag : Ag B S w w') : Stab P B S w' m v :=
  fun w2 h2 => h w2 (hag.trans h2)

abbrev Lam := Nat → Sem Value → Value → Prop
def Lam.none : Lam := fun _ _ _ => False
def Lam.add (Λ : Lam) (d : Nat) (m : Sem Value) (v : Value) : Lam := fun d' m' v' => Λ d' m' v' ∨ (d' = d ∧ m' = m ∧ v' = v)
def Lam.cut (Λ : Lam) (keep : List Nat) : Lam := fun d m v => Λ d m v ∧ d ∈ keep
def Lam.ok (P : Program) (B : Nat) (Λ : Lam) (S : BS) (w : World) : Prop := ∀ d m v, Λ d m v → Stab P B S w m v

/-- A loop's word: what holds at its head. -/
abbrev Again := List SV → BS → World → Prop

def TT (P : Program) (B : Nat) (R : Value → BS → World → Prop) : Tree → List Again → Lam → BS → World → Prop
  | .ret v, _, _, S, w => ∀ w', Ag B S w w' → R v S w'
  | .ite b t e, Γ, Λ, S, w => (b = true → TT P B R t Γ Λ S w) ∧ (b = false → TT P B R e Γ Λ S w)
  | .call f args keep H k, Γ, Λ, S, w => callB P f = true ∧ ∀ w', Ag B S w w' → Calls P f args w' fun e w1 =>
      ∃ x S1, e = .returned (H.enc x) ∧ Step S w' S1 w1 ∧ (Λ.cut keep).ok P B S1 w1 ∧ TT P B R (k x) Γ (Λ.cut keep) S1 w1
  | .prim m keep H k, Γ, Λ, S, w => ∀ w', Ag B S w w' → ∃ x S1 w1, m.run P w' = .ok (H.enc x) w1 ∧ Step S w' S1 w1 ∧ (Λ.cut keep).ok P B S1 w1 ∧ TT P B R (k x) Γ (Λ.cut keep) S1 w1
  | .primU m keep k, Γ, Λ, S, w => ∀ w', Ag B S w w' → ∃ S1 w1, m.run P w' = .ok () w1 ∧ Step S w' S1 w1 ∧ (Λ.cut keep).ok P B S1 w1 ∧ TT P B R k Γ (Λ.cut keep) S1 w1
  | .append tys ty x e n cells keep H k, Γ, Λ, S, w => ∀ w', Ag B S w w' → ∀ b, ¬ S b → B ≤ b → w'.heap[b]? = some (.cells cells.toArray e (0, 0)) →
      ∃ y S1 w1, (Builtin.append_ tys ty #[x, .slice (some ⟨b, 0, none⟩) n n]).run P w' = .ok (H.enc y) w1 ∧ Step S w' S1 w1 ∧ (Λ.cut keep).ok P B S1 w1 ∧ TT P B R (k y) Γ (Λ.cut keep) S1 w1
  | .loadS d m H k, Γ, Λ, S, w => ∃ x, Stab P B S w m (H.enc x) ∧ TT P B R (k x) Γ (Λ.add d m (H.enc x)) S w
  | .endS k, Γ, _, S, w => TT P B R k Γ Lam.none S w
  | .loop init L emb body, Γ, _, S, w => ∃ (Inv : L → BS → World → Prop) (μ : L → BS → World → Nat),
      (∀ l S w w', Inv l S w → Ag B S w w' → Inv l S w' ∧ μ l S w' = μ l S w) ∧
      (∃ l, init = emb l ∧ Inv l S w) ∧
      ∀ l S1 w1, Inv l S1 w1 → (∀ b, S1 b → b < w1.heap.size) → TT P B R (body l) ((fun vals S2 w2 => ∃ l', vals = emb l' ∧ Inv l' S2 w2 ∧ μ l' S2 w2 < μ l S1 w1) :: Γ) Lam.none S1 w1
  | .again d vals, Γ, _, S, w => ∃ A, Γ[d]? = some A ∧ A vals S w
  | .stuck, _, _, _, _ => False

def ClosedΓ (B : Nat) (Γ : List Again) : Prop := ∀ A ∈ Γ, ∀ vals S w w', A vals S w → Ag B S w w' → A vals S w'

theorem TT_ag {P : Program} {B : Nat} {R : Value → BS → World → Prop} : ∀ (T : Tree) {Γ : List Again} {Λ : Lam} {S : BS} {w w' : World},
    ClosedΓ B Γ → Ag B S w w' → TT P B R T Γ Λ S w → TT P B R T Γ Λ S w' := by
  intro T
  induction T with
  | ret v => exact fun _ ha h w2 h2 => h w2 (ha.trans h2)
  | ite b t e iht ihe => exact fun hc ha h => ⟨fun hb => iht hc ha (h.1 hb), fun hb => ihe hc ha (h.2 hb)⟩
  | call f args keep H k ih => exact fun _ ha h => ⟨h.1, fun w2 h2 => h.2 w2 (ha.trans h2)⟩
  | prim m keep H k ih => exact fun _ ha h w2 h2 => h w2 (ha.trans h2)
  | primU m keep k ih => exact fun _ ha h w2 h2 => h w2 (ha.trans h2)
  | append tys ty x e n cells keep H k ih => exact fun _ ha h w2 h2 => h w2 (ha.trans h2)
  | loadS d m H k ih => exact fun hc ha ⟨x, hs, h⟩ => ⟨x, hs.ag ha, ih x hc ha h⟩
  | endS k ih => exact fun hc ha h => ih hc ha h
  | loop init L emb body ih =>
    rintro Γ Λ S w w' hc ha ⟨Inv, μ, hcl, ⟨l, hl, hI⟩, h⟩
    exact ⟨Inv, μ, hcl, ⟨l, hl, (hcl l S w w' hI ha).1⟩, h⟩
  | again d vals => exact fun hc ha ⟨A, hA, h⟩ => ⟨A, hA, hc A (List.mem_of_getElem? hA) _ _ _ _ h ha⟩
  | stuck => exact fun _ _ h => h

/-- One tree serves for another. -/
def Rfn (P : Program) (B : Nat) (R : Value → BS → World → Prop) (T T' : Tree) : Prop := ∀ Γ Λ S w, TT P B R T Γ Λ S w → TT P B R T' Γ Λ S w

theorem Rfn.refl {P : Program} {B : Nat} {R : Value → BS → World → Prop} (T : Tree) : Rfn P B R T T := fun _ _ _ _ h => h
theorem Rfn.trans {P : Program} {B : Nat} {R : Value → BS → World → Prop} {T U V : Tree} (h : Rfn P B R T U) (k : Rfn P B R U V) : Rfn P B R T V := fun _ _ _ _ x => k _ _ _ _ (h _ _ _ _ x)

section
variable {P : Program} {B : Nat} {R : Value → BS → World → Prop}
theorem Rfn.ite {b : Bool} {t t' e e' : Tree} (h1 : Rfn P B R t t') (h2 : Rfn P B R e e') : Rfn P B R (.ite b t e) (.ite b t' e') :=
  fun _ _ _ _ h => ⟨fun hb => h1 _ _ _ _ (h.1 hb), fun hb => h2 _ _ _ _ (h.2 hb)⟩
theorem Rfn.call {f : FuncId} {args : Array Value} {keep : List Nat} {H : Enc} {k k' : H.T → Tree} (h : ∀ x, Rfn P B R (k x) (k' x)) : Rfn P B R (.call f args keep H k) (.call f args keep H k') :=
  fun _ _ _ _ hh => ⟨hh.1, fun w' ha => (hh.2 w' ha).mono fun _ _ ⟨x, S1, he, hs, ho, ht⟩ => ⟨x, S1, he, hs, ho, h x _ _ _ _ ht⟩⟩
theorem Rfn.prim {m : Sem Value} {keep : List Nat} {H : Enc} {k k' : H.T → Tree} (h : ∀ x, Rfn P B R (k x) (k' x)) : Rfn P B R (.prim m keep H k) (.prim m keep H k') :=
  fun _ _ _ _ hh w' ha => let ⟨x, S1, w1, he, hs, ho, ht⟩ := hh w' ha; ⟨x, S1, w1, he, hs, ho, h x _ _ _ _ ht⟩
theorem Rfn.primU {m : Sem Unit} {keep : List Nat} {k k' : Tree} (h : Rfn P B R k k') : Rfn P B R (.primU m keep k) (.primU m keep k') :=
  fun _ _ _ _ hh w' ha => let ⟨S1, w1, he, hs, ho, ht⟩ := hh w' ha; ⟨S1, w1, he, hs, ho, h _ _ _ _ ht⟩
theorem Rfn.append {tys : Array TypeId} {ty : TypeId} {x : Value} {e : TypeId} {n : Nat} {cells : List Value} {keep : List Nat} {H : Enc} {k k' : H.T → Tree} (h : ∀ x, Rfn P B R (k x) (k' x)) :
    Rfn P B R (.append tys ty x e n cells keep H k) (.append tys ty x e n cells keep H k') :=
  fun _ _ _ _ hh w' ha b h1 h2 h3 => let ⟨y, S1, w1, he, hs, ho, ht⟩ := hh w' ha b h1 h2 h3; ⟨y, S1, w1, he, hs, ho, h y _ _ _ _ ht⟩
theorem Rfn.loadS {d : Nat} {m : Sem Value} {H : Enc} {k k' : H.T → Tree} (h : ∀ x, Rfn P B R (k x) (k' x)) : Rfn P B R (.loadS d m H k) (.loadS d m H k') :=
  fun _ _ _ _ ⟨x, hs, ht⟩ => ⟨x, hs, h x _ _ _ _ ht⟩

theorem Lam.ok_cut_add {Λ : Lam} {d : Nat} {m : Sem Value} {v : Value} {keep : List Nat} {S : BS} {w : World} (h : ((Λ.add d m v).cut keep).ok P B S w) (hd : d ∈ keep) :
    (Λ.cut keep).ok P B S w ∧ Stab P B S w m v :=
  ⟨fun d' m' v' hh => h d' m' v' ⟨.inl hh.1, hh.2⟩, h d m v ⟨.inr ⟨rfl, rfl, rfl⟩, hd⟩⟩
theorem Lam.cut_add {Λ : Lam} {d : Nat} {m : Sem Value} {v : Value} {keep : List Nat} (hd : d ∈ keep) : (Λ.add d m v).cut keep = (Λ.cut keep).add d m v := by
  funext d' m' v'
  simp only [Lam.cut, Lam.add, eq_iff_iff]
  constructor
  · rintro ⟨h | h, hk⟩
    · exact .inl ⟨h, hk⟩
    · exact .inr h
  · rintro (h | h)
    · exact ⟨.inl h.1, h.2⟩
    · exact ⟨.inr h, by rw [h.1]; exact hd⟩

/-! A load that may come later does so. -/
theorem delay_call {d : Nat} {m : Sem Value} {H H' : Enc} {f : FuncId} {args : Array Value} {keep : List Nat} (hd : d ∈ keep) (k : H.T → H'.T → Tree) :
    Rfn P B R (.loadS d m H fun x => .call f args keep H' fun y => k x y) (.call f args keep H' fun y => .loadS d m H fun x => k x y) := by
  rintro Γ Λ S w ⟨x, hs, hb, h⟩
  refine ⟨hb, fun w' ha => (h w' ha).mono fun e w1 ⟨y, S1, he, hst, ho, ht⟩ => ?_⟩
  have := Lam.ok_cut_add ho hd
  exact ⟨y, S1, he, hst, this.1, x, this.2, by rw [← Lam.cut_add hd]; exact ht⟩
theorem delay_prim {d : Nat} {m : Sem Value} {H H' : Enc} {m' : Sem Value} {keep : List Nat} (hd : d ∈ keep) (k : H.T → H'.T → Tree) :
    Rfn P B R (.loadS d m H fun x => .prim m' keep H' fun y => k x y) (.prim m' keep H' fun y => .loadS d m H fun x => k x y) := by
  rintro Γ Λ S w ⟨x, hs, h⟩
  intro w' ha
  obtain ⟨y, S1, w1, he, hst, ho, ht⟩ := h w' ha
  have := Lam.ok_cut_add ho hd
  exact ⟨y, S1, w1, he, hst, this.1, x, this.2, by rw [← Lam.cut_add hd]; exact ht⟩
theorem delay_primU {d : Nat} {m : Sem Value} {H : Enc} {m' : Sem Unit} {keep : List Nat} (hd : d ∈ keep) (k : H.T → Tree) :
    Rfn P B R (.loadS d m H fun x => .primU m' keep (k x)) (.primU m' keep (.loadS d m H fun x => k x)) := by
  rintro Γ Λ S w ⟨x, hs, h⟩
  intro w' ha
  obtain ⟨S1, w1, he, hst, ho, ht⟩ := h w' ha
  have := Lam.ok_cut_add ho hd
  exact ⟨S1, w1, he, hst, this.1, x, this.2, by rw [← Lam.cut_add hd]; exact ht⟩
theorem delay_append {d : Nat} {m : Sem Value} {H H' : Enc} {tys : Array TypeId} {ty : TypeId} {v : Value} {e : TypeId} {n : Nat} {cells : List Value} {keep : List Nat} (hd : d ∈ keep) (k : H.T → H'.T → Tree) :
    Rfn P B R (.loadS d m H fun x => .append tys ty v e n cells keep H' fun y => k x y) (.append tys ty v e n cells keep H' fun y => .loadS d m H fun x => k x y) := by
  rintro Γ Λ S w ⟨x, hs, h⟩
  intro w' ha b h1 h2 h3
  obtain ⟨y, S1, w1, he, hst, ho, ht⟩ := h w' ha b h1 h2 h3
  have := Lam.ok_cut_add ho hd
  exact ⟨y, S1, w1, he, hst, this.1, x, this.2, by rw [← Lam.cut_add hd]; exact ht⟩
theorem delay_ite {d : Nat} {m : Sem Value} {H : Enc} {b : Bool} (k k' : H.T → Tree) :
    Rfn P B R (.loadS d m H fun x => .ite b (k x) (k' x)) (.ite b (.loadS d m H k) (.loadS d m H k')) := by
  rintro Γ Λ S w ⟨x, hs, h1, h2⟩
  exact ⟨fun hb => ⟨x, hs, h1 hb⟩, fun hb => ⟨x, hs, h2 hb⟩⟩
theorem swap_loadS {d d' : Nat} {m m' : Sem Value} {H H' : Enc} (k : H.T → H'.T → Tree) :
    Rfn P B R (.loadS d m H fun x => .loadS d' m' H' fun y => k x y) (.loadS d' m' H' fun y => .loadS d m H fun x => k x y) := by
  rintro Γ Λ S w ⟨x, hs, y, hs', ht⟩
  refine ⟨y, hs', x, hs, ?_⟩
  have : (Λ.add d m (H.enc x)).add d' m' (H'.enc y) = (Λ.add d' m' (H'.enc y)).add d m (H.enc x) := by
    funext a b c
    simp only [Lam.add, eq_iff_iff]
    constructor
    · rintro ((h | h) | h)
      · exact .inl (.inl h)
      · exact .inr h
      · exact .inl (.inr h)
    · rintro ((h | h) | h)
      · exact .inl (.inl h)
      · exact .inr h
      · exact .inl (.inr h)
  rw [← this]; exact ht
end
end Go.Sx
