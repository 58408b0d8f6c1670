import Derived.Test.YtbanmblbgoajdaaWhSx3
namespace Go.Sx
open Go.RowKit

/-! ### What the slots stand for -/
def den (ρ : Nat → Nat) (t : Nat) : SV → Value → Prop
  | .any, _ => True
  | .v x, y => y = x
  | .lit b, y => y = .bool b
  | .box _ _, y => y = .pointer (some ⟨ρ t, 0, none⟩)
  | .loc j off, y => y = .pointer (some ⟨ρ j, off, none⟩)
  | .row _ n _, y => y = .slice (some ⟨ρ t, 0, none⟩) n n

def BoxAt (s : List SV) (j : Nat) : Prop := ∃ sv, s[j]? = some sv ∧ isBox sv = true

structure Gam (B : Nat) (S : BS) (s : List SV) (a : Act) (w : World) (ρ : Nat → Nat) : Prop where
  defers : a.defers = []
  size : a.tmps.size = s.length
  slot : ∀ t sv, s[t]? = some sv → den ρ t sv (a.tmps.getD t undef)
  box : ∀ t ty cells, s[t]? = some (.box ty cells) → w.heap[ρ t]? = some (.cells cells.toArray ty (0, 0))
  row : ∀ t e n cells, s[t]? = some (.row e n cells) → w.heap[ρ t]? = some (.cells cells.toArray e (0, 0))
  out : ∀ t, BoxAt s t → ¬ S (ρ t) ∧ B ≤ ρ t
  inj : ∀ t t', BoxAt s t → BoxAt s t' → ρ t = ρ t' → t = t'
  loc : ∀ (t j off : Nat), s[t]? = some (SV.loc j off) → BoxAt s j
  lt : ∀ b, S b → b < w.heap.size
  base : B ≤ w.heap.size

theorem heap_new (w : World) (o : Obj) : (w.alloc o).heap[w.heap.size]? = some o := by
  unfold World.alloc; simp only [Array.getElem?_push_size]
theorem heap_lt {w : World} {b : Nat} {o : Obj} (h : w.heap[b]? = some o) : b < w.heap.size := by
  rcases Nat.lt_or_ge b w.heap.size with h1 | h1
  · exact h1
  · rw [Array.getElem?_eq_none h1] at h; cases h

section
variable {B : Nat} {S : BS} {s : List SV} {a : Act} {w : World} {ρ : Nat → Nat}
theorem Gam.boxlt (h : Gam B S s a w ρ) {t : Nat} (hb : BoxAt s t) : ρ t < w.heap.size := by
  obtain ⟨sv, hs, hi⟩ := hb
  cases sv <;> simp [isBox] at hi
  · exact heap_lt (h.box _ _ _ hs)
  · exact heap_lt (h.row _ _ _ _ hs)

theorem Gam.world {S1 : BS} {w1 : World} (h : Gam B S s a w ρ) (hs : Step S w S1 w1) : Gam B S1 s a w1 ρ := by
  refine ⟨h.defers, h.size, h.slot, fun t ty cells ht => ?_, fun t e n cells ht => ?_, fun t hb => ⟨fun h1 => ?_, (h.out t hb).2⟩, h.inj, h.loc, hs.lt, Nat.le_trans h.base hs.fr.size⟩
  · have hb : BoxAt s t := ⟨_, ht, rfl⟩
    rw [hs.fr.block _ (h.boxlt hb) (h.out t hb).1]; exact h.box t ty cells ht
  · have hb : BoxAt s t := ⟨_, ht, rfl⟩
    rw [hs.fr.block _ (h.boxlt hb) (h.out t hb).1]; exact h.row t e n cells ht
  · rcases hs.new _ h1 with h2 | h2
    · exact (h.out t hb).1 h2
    · have := h.boxlt hb; omega

theorem getD_put_same {d : Nat} {x : Value} {a : Act} (hd : d < a.tmps.size) : (a.put (some d) x).tmps.getD d undef = x := by
  simp [Act.put, Array.getD_eq_getD_getElem?, hd]
theorem getD_put_other {d t : Nat} {x : Value} {a : Act} (h : t ≠ d) : (a.put (some d) x).tmps.getD t undef = a.tmps.getD t undef := by
  simp [Act.put, Array.getD_eq_getD_getElem?, Array.getElem?_setIfInBounds_ne (Ne.symm h)]
theorem put_size {d : Option Nat} {x : Value} {a : Act} : (a.put d x).tmps.size = a.tmps.size := by
  cases d <;> simp [Act.put]
theorem put_defers {d : Option Nat} {x : Value} {a : Act} : (a.put d x).defers = a.defers := by
  cases d <;> simp [Act.put]

theorem BoxAt.lt {j : Nat} (h : BoxAt s j) : j < s.length := by
  obtain ⟨sv, h, _⟩ := h
  exact (List.getElem?_eq_some_iff.1 h).1

theorem boxAt_set {d j : Nat} {v : SV} (hd : d < s.length) (hnb : ∀ sv, s[d]? = some sv → isBox sv = false) (hv : isBox v = false) : BoxAt (s.set d v) j ↔ BoxAt s j := by
  constructor
  · rintro ⟨sv, h, hb⟩
    by_cases e : d = j
    · subst e
      rw [List.getElem?_set_self hd] at h
      injection h with h; subst h; rw [hv] at hb; cases hb
    · rw [List.getElem?_set_ne e] at h; exact ⟨sv, h, hb⟩
  · rintro ⟨sv, h, hb⟩
    by_cases e : d = j
    · subst e; rw [hnb sv h] at hb; cases hb
    · exact ⟨sv, by rw [List.getElem?_set_ne e]; exact h, hb⟩

theorem Gam.put (h : Gam B S s a w ρ) {d : Nat} {v : SV} {x : Value} (hd : d < s.length) (hnb : ∀ sv, s[d]? = some sv → isBox sv = false) (hv : isBox v = false)
    (hx : den ρ d v x) (hl : ∀ j off, v = .loc j off → BoxAt s j) : Gam B S (s.set d v) (a.put (some d) x) w ρ := by
  have hbx : ∀ j, BoxAt (s.set d v) j ↔ BoxAt s j := fun j => boxAt_set hd hnb hv
  refine ⟨by rw [put_defers]; exact h.defers, by rw [put_size, List.length_set]; exact h.size, fun t sv ht => ?_, fun t ty cells ht => ?_, fun t e n cells ht => ?_, fun t hb => h.out t ((hbx t).1 hb), fun t t' hb hb' => h.inj t t' ((hbx t).1 hb) ((hbx t').1 hb'), fun t j off ht => ?_, h.lt, h.base⟩
  · by_cases e : d = t
    · subst e
      rw [List.getElem?_set_self hd] at ht
      injection ht with ht; subst ht
      rw [getD_put_same (by rw [h.size]; exact hd)]; exact hx
    · rw [List.getElem?_set_ne e] at ht
      rw [getD_put_other (Ne.symm e)]; exact h.slot t sv ht
  · by_cases e : d = t
    · subst e
      rw [List.getElem?_set_self hd] at ht
      injection ht with ht; subst ht; cases hv
    · rw [List.getElem?_set_ne e] at ht; exact h.box t ty cells ht
  · by_cases e' : d = t
    · subst e'
      rw [List.getElem?_set_self hd] at ht
      injection ht with ht; subst ht; cases hv
    · rw [List.getElem?_set_ne e'] at ht; exact h.row t e n cells ht
  · rw [hbx]
    by_cases e : d = t
    · subst e
      rw [List.getElem?_set_self hd] at ht
      injection ht with ht; exact hl j off ht
    · rw [List.getElem?_set_ne e] at ht; exact h.loc t j off ht

/-- A new box in a slot that holds none. -/
theorem Gam.new (h : Gam B S s a w ρ) {d : Nat} {v : SV} {x : Value} {ty : TypeId} {cells : List Value} (hd : d < s.length) (hnb : ∀ sv, s[d]? = some sv → isBox sv = false)
    (hv : v = .box ty cells ∧ x = .pointer (some ⟨w.heap.size, 0, none⟩) ∨ ∃ n, v = .row ty n cells ∧ x = .slice (some ⟨w.heap.size, 0, none⟩) n n) :
    Gam B S (s.set d v) (a.put (some d) x) (w.alloc (.cells cells.toArray ty)) (fun t => if t = d then w.heap.size else ρ t) := by
  have hbv : isBox v = true := by rcases hv with ⟨rfl, _⟩ | ⟨n, rfl, _⟩ <;> rfl
  have hbx : ∀ j, j ≠ d → (BoxAt (s.set d v) j ↔ BoxAt s j) := fun j hj => by
    unfold BoxAt; rw [List.getElem?_set_ne (Ne.symm hj)]
  have hnd : ¬ BoxAt s d := fun ⟨sv, hs, hb⟩ => by rw [hnb sv hs] at hb; cases hb
  have hnew : (w.alloc (.cells cells.toArray ty)).heap[w.heap.size]? = some (.cells cells.toArray ty (0, 0)) := heap_new w _
  have hold : ∀ b, b < w.heap.size → (w.alloc (.cells cells.toArray ty)).heap[b]? = w.heap[b]? := fun b hb => Below.heap_alloc w _ b hb
  refine ⟨by rw [put_defers]; exact h.defers, by rw [put_size, List.length_set]; exact h.size, fun t sv ht => ?_, fun t ty' cells' ht => ?_, fun t e n cells' ht => ?_, fun t hb => ?_, fun t t' hb hb' => ?_, fun t j off ht => ?_, fun b hb => ?_, by rw [World.size_alloc]; exact Nat.le_succ_of_le h.base⟩
  · by_cases e : d = t
    · subst e
      rw [List.getElem?_set_self hd] at ht
      injection ht with ht; subst ht
      rw [getD_put_same (by rw [h.size]; exact hd)]
      rcases hv with ⟨rfl, rfl⟩ | ⟨n, rfl, rfl⟩ <;> simp [den]
    · rw [List.getElem?_set_ne e] at ht
      rw [getD_put_other (Ne.symm e)]
      have := h.slot t sv ht
      cases sv with
      | loc j off =>
        have hj : j ≠ d := fun e => hnd (e ▸ h.loc t j off ht)
        simpa only [den, if_neg hj] using this
      | box => simpa only [den, if_neg (Ne.symm e)] using this
      | row => simpa only [den, if_neg (Ne.symm e)] using this
      | _ => exact this
  · by_cases e : t = d
    · subst e
      rw [List.getElem?_set_self hd] at ht
      injection ht with ht
      simp only [if_true]
      rcases hv with ⟨rfl, rfl⟩ | ⟨n, rfl, rfl⟩
      · injection ht with h1 h2; subst h1 h2; exact hnew
      · cases ht
    · rw [List.getElem?_set_ne (Ne.symm e)] at ht
      simp only [if_neg e]
      rw [hold _ (h.boxlt ⟨_, ht, rfl⟩)]; exact h.box t ty' cells' ht
  · by_cases e' : t = d
    · subst e'
      rw [List.getElem?_set_self hd] at ht
      injection ht with ht
      simp only [if_true]
      rcases hv with ⟨rfl, rfl⟩ | ⟨m, rfl, rfl⟩
      · cases ht
      · injection ht with h1 h2 h3; subst h1 h3; exact hnew
    · rw [List.getElem?_set_ne (Ne.symm e')] at ht
      simp only [if_neg e']
      rw [hold _ (h.boxlt ⟨_, ht, rfl⟩)]; exact h.row t e n cells' ht
  · by_cases e : t = d
    · simp only [if_pos e]
      exact ⟨fun hs => absurd (h.lt _ hs) (Nat.lt_irrefl _), h.base⟩
    · simp only [if_neg e]; exact h.out t ((hbx t e).1 hb)
  · by_cases e : t = d
    · by_cases e' : t' = d
      · intro _; rw [e, e']
      · simp only [if_pos e, if_neg e']
        intro hh; have := h.boxlt ((hbx t' e').1 hb'); omega
    · by_cases e' : t' = d
      · simp only [if_pos e', if_neg e]
        intro hh; have := h.boxlt ((hbx t e).1 hb); omega
      · simp only [if_neg e, if_neg e']; exact h.inj t t' ((hbx t e).1 hb) ((hbx t' e').1 hb')
  · by_cases e : d = t
    · subst e
      rw [List.getElem?_set_self hd] at ht
      injection ht with ht; subst ht
      rcases hv with ⟨hv, _⟩ | ⟨n, hv, _⟩ <;> cases hv
    · rw [List.getElem?_set_ne e] at ht
      have hj : j ≠ d := fun e => hnd (e ▸ h.loc t j off ht)
      exact (hbx j hj).2 (h.loc t j off ht)
  · rw [World.size_alloc]; exact Nat.lt_succ_of_lt (h.lt b hb)

theorem Gam.forget (h : Gam B S s a w ρ) (d : Nat) : Gam B S ((scrubbed d s).set d .any) a w ρ := by
  have hg : ∀ t, ((scrubbed d s).set d .any)[t]? = if t = d then (if d < s.length then some .any else none) else (s[t]?).map (scrub1 d) := fun t => by
    by_cases e : t = d
    · subst e
      by_cases hl : t < s.length
      · rw [List.getElem?_set_self (by simpa [scrubbed] using hl)]; simp [hl]
      · simp [scrubbed, hl]
    · rw [List.getElem?_set_ne (Ne.symm e)]; simp [scrubbed, e]
  have hbx : ∀ t, BoxAt ((scrubbed d s).set d .any) t → t ≠ d ∧ BoxAt s t := fun t ⟨sv, ht, hb⟩ => by
    rw [hg] at ht
    by_cases e : t = d
    · rw [if_pos e] at ht
      split at ht
      · injection ht with ht; subst ht; cases hb
      · cases ht
    · rw [if_neg e] at ht
      refine ⟨e, ?_⟩
      cases hs : s[t]? with
      | none => rw [hs] at ht; cases ht
      | some sv0 =>
        rw [hs] at ht
        refine ⟨sv0, hs, ?_⟩
        cases sv0 <;> simp [scrub1] at ht
        all_goals first
          | (subst ht; exact hb)
          | (split at ht <;> subst ht <;> cases hb)
  have hbx2 : ∀ t, t ≠ d → BoxAt s t → BoxAt ((scrubbed d s).set d .any) t := fun t e ⟨sv, ht, hb⟩ => by
    refine ⟨sv, ?_, hb⟩
    rw [hg, if_neg e, ht]
    cases sv <;> simp [isBox] at hb <;> rfl
  have hkeep : ∀ t sv, isBox sv = true → ((scrubbed d s).set d .any)[t]? = some sv → s[t]? = some sv := fun t sv hb ht => by
    rw [hg] at ht
    by_cases e : t = d
    · rw [if_pos e] at ht
      split at ht
      · injection ht with ht; subst ht; cases hb
      · cases ht
    · rw [if_neg e] at ht
      cases hs : s[t]? with
      | none => rw [hs] at ht; cases ht
      | some sv0 =>
        rw [hs] at ht
        cases sv0 <;> simp [scrub1] at ht
        all_goals first
          | (subst ht; rfl)
          | (split at ht <;> subst ht <;> cases hb)
  refine ⟨h.defers, by simpa [scrubbed] using h.size, fun t sv ht => ?_, fun t ty cells ht => h.box t ty cells (hkeep t _ rfl ht), fun t e n cells ht => h.row t e n cells (hkeep t _ rfl ht), fun t hb => h.out t (hbx t hb).2, fun t t' hb hb' => h.inj t t' (hbx t hb).2 (hbx t' hb').2, fun t j off ht => ?_, h.lt, h.base⟩
  · rw [hg] at ht
    by_cases e : t = d
    · rw [if_pos e] at ht
      split at ht
      · injection ht with ht; subst ht; trivial
      · cases ht
    · rw [if_neg e] at ht
      cases hs : s[t]? with
      | none => rw [hs] at ht; cases ht
      | some sv0 =>
        rw [hs] at ht
        have := h.slot t sv0 hs
        cases sv0 <;> simp [scrub1] at ht
        all_goals first
          | (subst ht; exact this)
          | (split at ht <;> subst ht <;> first | trivial | exact this)
  · rw [hg] at ht
    by_cases e : t = d
    · rw [if_pos e] at ht
      split at ht
      · injection ht with ht; cases ht
      · cases ht
    · rw [if_neg e] at ht
      cases hs : s[t]? with
      | none => rw [hs] at ht; cases ht
      | some sv0 =>
        rw [hs] at ht
        cases sv0 <;> simp [scrub1] at ht
        rename_i j0 off0
        split at ht
        · cases ht
        · rename_i hne
          injection ht with h1 h2; subst h1 h2
          exact hbx2 j0 hne (h.loc t j0 off0 hs)

theorem Gam.store (h : Gam B S s a w ρ) {j : Nat} {ty : TypeId} {cells cells' : List Value} (hj : s[j]? = some (.box ty cells)) :
    Gam B S (s.set j (.box ty cells')) a (w.setRow (ρ j) cells'.toArray) ρ := by
  have hjl : j < s.length := (List.getElem?_eq_some_iff.1 hj).1
  have hbj : BoxAt s j := ⟨_, hj, rfl⟩
  have hbx : ∀ t, BoxAt (s.set j (.box ty cells')) t ↔ BoxAt s t := fun t => by
    by_cases e : j = t
    · subst e
      refine ⟨fun _ => hbj, fun _ => ⟨_, List.getElem?_set_self hjl, rfl⟩⟩
    · unfold BoxAt; rw [List.getElem?_set_ne e]
  have hoth : ∀ t, BoxAt s t → t ≠ j → (w.setRow (ρ j) cells'.toArray).heap[ρ t]? = w.heap[ρ t]? := fun t hb e => setRow_other w _ _ _ (fun hh => e (h.inj t j hb hbj hh))
  refine ⟨h.defers, by rw [List.length_set]; exact h.size, fun t sv ht => ?_, fun t ty' cs ht => ?_, fun t e n cs ht => ?_, fun t hb => h.out t ((hbx t).1 hb), fun t t' hb hb' => h.inj t t' ((hbx t).1 hb) ((hbx t').1 hb'), fun t k off ht => ?_, fun b hb => by rw [setRow_size]; exact h.lt b hb, by rw [setRow_size]; exact h.base⟩
  · by_cases e : j = t
    · subst e
      rw [List.getElem?_set_self hjl] at ht
      injection ht with ht; subst ht
      have := h.slot j _ hj
      exact this
    · rw [List.getElem?_set_ne e] at ht; exact h.slot t sv ht
  · by_cases e : j = t
    · subst e
      rw [List.getElem?_set_self hjl] at ht
      injection ht with ht; injection ht with h1 h2; subst h1 h2
      exact setRow_heap w _ _ _ _ _ (h.box j _ _ hj)
    · rw [List.getElem?_set_ne e] at ht
      rw [hoth t ⟨_, ht, rfl⟩ (Ne.symm e)]; exact h.box t ty' cs ht
  · by_cases e' : j = t
    · subst e'
      rw [List.getElem?_set_self hjl] at ht
      injection ht with ht; cases ht
    · rw [List.getElem?_set_ne e'] at ht
      rw [hoth t ⟨_, ht, rfl⟩ (Ne.symm e')]; exact h.row t e n cs ht
  · rw [hbx]
    by_cases e : j = t
    · subst e
      rw [List.getElem?_set_self hjl] at ht
      injection ht with ht; cases ht
    · rw [List.getElem?_set_ne e] at ht; exact h.loc t k off ht

theorem Ag.alloc (h : Gam B S s a w ρ) (o : Obj) : Ag B S w (w.alloc o) :=
  ⟨rfl, rfl, rfl, by simp, fun b hb => Below.heap_alloc w o b (by rcases hb with hb | hb; exact Nat.lt_of_lt_of_le hb h.base; exact h.lt b hb)⟩
theorem Ag.setRow (h : Gam B S s a w ρ) {j : Nat} (hj : BoxAt s j) (cs : Array Value) : Ag B S w (w.setRow (ρ j) cs) :=
  ⟨rfl, rfl, rfl, by simp, fun b hb => setRow_other w _ _ _ (by
    have := h.out j hj
    rintro rfl
    rcases hb with hb | hb
    · omega
    · exact this.1 hb)⟩
end
end Go.Sx
