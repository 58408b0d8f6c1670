import Derived.Test.YtbanmblbgoajdaaWhTT
import Derived.Maps.AppendAt
import Derived.Deep.AppendLies
set_option linter.unusedVariables false
namespace Go.Sx
open Go.RowKit

/-! ### Slices that read as lists of typed elements -/
structure Codec (T : Type) where
  size : Nat
  enc : T → List Value
  len : ∀ x, (enc x).length = size
  one : ∀ x, ∀ v ∈ enc x, v.oneCell' = true

def flat {T : Type} (C : Codec T) (xs : List T) : List Value := xs.flatMap C.enc
theorem flat_nil {T : Type} (C : Codec T) : flat C [] = [] := rfl
theorem flat_cons {T : Type} (C : Codec T) (x : T) (xs : List T) : flat C (x :: xs) = C.enc x ++ flat C xs := rfl
theorem flat_append {T : Type} (C : Codec T) (xs ys : List T) : flat C (xs ++ ys) = flat C xs ++ flat C ys := by simp [flat]
theorem flat_len {T : Type} (C : Codec T) : ∀ (xs : List T), (flat C xs).length = xs.length * C.size
  | [] => by simp [flat]
  | x :: xs => by rw [flat_cons, List.length_append, flat_len C xs, C.len, List.length_cons, Nat.add_mul]; omega
theorem flat_one {T : Type} (C : Codec T) (xs : List T) : ∀ v ∈ flat C xs, v.oneCell' = true := fun v hv => by
  obtain ⟨x, hx, hv⟩ := List.mem_flatMap.1 hv
  exact C.one x v hv
theorem flat_drop {T : Type} (C : Codec T) : ∀ (xs : List T) (i : Nat), (flat C xs).drop (i * C.size) = flat C (xs.drop i)
  | [], i => by simp [flat]
  | x :: xs, 0 => by simp
  | x :: xs, i + 1 => by
    rw [flat_cons, List.drop_append, List.drop_of_length_le (by rw [C.len, Nat.add_mul]; omega), List.nil_append, C.len,
      show (i + 1) * C.size - C.size = i * C.size by rw [Nat.add_mul]; omega, flat_drop C xs i, List.drop_succ_cons]
theorem flat_take {T : Type} (C : Codec T) (xs : List T) (i : Nat) (h : i ≤ xs.length) : (flat C xs).take (i * C.size) = flat C (xs.take i) := by
  have h1 : flat C xs = flat C (xs.take i) ++ flat C (xs.drop i) := by rw [← flat_append, List.take_append_drop]
  rw [h1, List.take_append_of_le_length (by rw [flat_len, List.length_take, Nat.min_eq_left h]; exact Nat.le_refl _), List.take_of_length_le (by rw [flat_len, List.length_take, Nat.min_eq_left h]; exact Nat.le_refl _)]

def RowAt {T : Type} (w : World) (ty : TypeId) (C : Codec T) (s : Sl) (xs : List T) : Prop := s.n = xs.length ∧ w.ownsRow 0 ty C.size (slV s) s.n (flat C xs)

section
variable {T : Type} {w w1 : World} {ty : TypeId} {C : Codec T} {s : Sl} {xs : List T}

theorem RowAt.nil (w : World) (ty : TypeId) (C : Codec T) : RowAt w ty C ⟨none, 0, 0⟩ [] := ⟨rfl, World.ownsRow_nil w 0 ty C.size⟩

theorem RowAt.keep (h : RowAt w ty C s xs) (hb : ∀ b, (slV s).ownBlock = some b → w1.heap[b]? = w.heap[b]?) : RowAt w1 ty C s xs := by
  refine ⟨h.1, h.2.1, ?_⟩
  rcases h.2.2 with h2 | ⟨g, cap, cur, hv, h0, hg, h1, h2, h3, h4⟩
  · exact .inl h2
  · exact .inr ⟨g, cap, cur, hv, h0, by rw [hb g (by rw [hv]; rfl)]; exact hg, h1, h2, h3, h4⟩

theorem RowAt.lt (h : RowAt w ty C s xs) {b : Nat} (hb : (slV s).ownBlock = some b) : b < w.heap.size := (h.2.lt b hb).2

theorem RowAt.typed (h : RowAt w ty C s xs) {b : Nat} (hb : (slV s).ownBlock = some b) : ∃ cur, w.heap[b]? = some (.cells cur ty (0, 0)) := by
  rcases h.2.2 with ⟨h1, h2⟩ | ⟨g, cap, cur, hv, h0, hg, h1, h2, h3, h4⟩
  · rw [h1] at hb; cases hb
  · rw [hv] at hb; injection hb with hb; subst hb; exact ⟨cur, hg⟩

/-- An element's cells. -/
theorem RowAt.cell (h : RowAt w ty C s xs) {i : Nat} {x : T} (hi : xs[i]? = some x) : ∃ g cur, s.a = some ⟨g, 0, none⟩ ∧ (slV s).ownBlock = some g ∧ w.heap[g]? = some (.cells (List.toArray cur) ty (0, 0)) ∧ (cur.drop (i * C.size)).take C.size = C.enc x ∧
    i * C.size + C.size ≤ cur.length ∧ cur.take (xs.length * C.size) = flat C xs := by
  have hil : i < xs.length := (List.getElem?_eq_some_iff.1 hi).1
  obtain ⟨hn, hlen, hh⟩ := h
  rcases hh with ⟨h1, h2⟩ | ⟨g, cap, cur, hv, h0, hg, h1, h2, h3, h4⟩
  · omega
  · have hle : xs.length * C.size ≤ cur.toList.length := by
      have e : cur.toList.length = cap * C.size := by rw [← h3]; simp
      rw [e]; exact Nat.mul_le_mul_right _ (by omega)
    have hie : i * C.size + C.size ≤ xs.length * C.size := by rw [← Nat.succ_mul]; exact Nat.mul_le_mul_right _ hil
    rw [hn] at h4
    refine ⟨g, cur.toList, by unfold slV at hv; injection hv, by rw [hv]; rfl, by simpa using hg, ?_, by omega, h4⟩
    have e1 : (cur.toList.drop (i * C.size)).take C.size = ((flat C xs).drop (i * C.size)).take C.size := by
      rw [← h4, List.drop_take, List.take_take, Nat.min_eq_left (by omega)]
    rw [e1, flat_drop, List.drop_eq_getElem_cons hil, flat_cons]
    have : xs[i] = x := by rw [List.getElem?_eq_getElem hil] at hi; injection hi
    rw [this, List.take_append_of_le_length (by rw [C.len]; exact Nat.le_refl _), List.take_of_length_le (by rw [C.len]; exact Nat.le_refl _)]

theorem splice_at {T : Type} (C : Codec T) {cur : List Value} {i off : Nat} {part e : List Value} (he : (cur.drop (i * C.size)).take C.size = e) (hel : e.length = C.size) (hp : off + part.length ≤ C.size) (hle : i * C.size + C.size ≤ cur.length) :
    splice cur (i * C.size + off) part = splice cur (i * C.size) (splice e off part) := by
  have hcur : cur = cur.take (i * C.size) ++ (e ++ cur.drop (i * C.size + C.size)) := by
    rw [← he, ← List.drop_drop, List.take_append_drop, List.take_append_drop]
  generalize hA : cur.take (i * C.size) = A at hcur
  generalize hD : cur.drop (i * C.size + C.size) = D at hcur
  have hAl : A.length = i * C.size := by rw [← hA, List.length_take]; omega
  subst hcur
  unfold splice
  have e1 : (A ++ (e ++ D)).take (i * C.size + off) = A ++ e.take off := by
    rw [List.take_append, List.take_of_length_le (by omega), hAl, Nat.add_sub_cancel_left, List.take_append_of_le_length (by omega)]
  have e2 : (A ++ (e ++ D)).drop (i * C.size + off + part.length) = e.drop (off + part.length) ++ D := by
    rw [List.drop_append, List.drop_of_length_le (by omega), List.nil_append, hAl, show i * C.size + off + part.length - i * C.size = off + part.length by omega, List.drop_append_of_le_length (by omega)]
  have e3 : (A ++ (e ++ D)).take (i * C.size) = A := by rw [List.take_append_of_le_length (by omega), List.take_of_length_le (by omega)]
  have hsl : (List.take off e ++ part ++ List.drop (off + part.length) e).length = C.size := by simp; omega
  have e4 : (A ++ (e ++ D)).drop (i * C.size + (List.take off e ++ part ++ List.drop (off + part.length) e).length) = D := by
    rw [hsl, List.drop_append, List.drop_of_length_le (by omega), List.nil_append, hAl, Nat.add_sub_cancel_left, List.drop_append, List.drop_of_length_le (by omega), hel]; simp
  rw [e1, e2, e3, e4]
  simp

theorem flat_set {T : Type} (C : Codec T) : ∀ (xs : List T) (i : Nat) (y : T), i < xs.length → splice (flat C xs) (i * C.size) (C.enc y) = flat C (xs.set i y)
  | [], i, y, h => absurd h (by simp)
  | x :: xs, 0, y, h => by
    simp only [splice, Nat.zero_mul, List.take_zero, List.nil_append, Nat.zero_add, List.set_cons_zero, flat_cons]
    rw [C.len, List.drop_append, List.drop_of_length_le (by rw [C.len]; exact Nat.le_refl _), C.len]; simp
  | x :: xs, i + 1, y, h => by
    have ih := flat_set C xs i y (by simpa using h)
    rw [List.set_cons_succ, flat_cons, flat_cons, ← ih]
    unfold splice
    rw [List.take_append, List.take_of_length_le (by rw [C.len, Nat.add_mul]; omega), C.len, show (i + 1) * C.size - C.size = i * C.size by rw [Nat.add_mul]; omega, List.drop_append, List.drop_of_length_le (by rw [C.len, C.len, Nat.add_mul]; omega), C.len, C.len,
      show (i + 1) * C.size + C.size - C.size = i * C.size + C.size by rw [Nat.add_mul]; omega]
    simp

/-- Another element, in place. -/
theorem RowAt.update (h : RowAt w ty C s xs) {i off : Nat} {x y : T} {part : List Value} (hi : xs[i]? = some x) {g : Nat} (hg : (slV s).ownBlock = some g) {cur : List Value} (hcur : w.heap[g]? = some (.cells cur.toArray ty (0, 0)))
    (hy : splice (C.enc x) off part = C.enc y) (hp : off + part.length ≤ C.size) (hw1 : w1.heap[g]? = some (.cells (splice cur (i * C.size + off) part).toArray ty (0, 0))) : RowAt w1 ty C s (xs.set i y) := by
  obtain ⟨g', cur', ha, hg', hc', hel, hle, htk⟩ := h.cell hi
  rw [hg] at hg'; injection hg' with hg'; subst hg'
  rw [hcur] at hc'
  have hcc : cur' = cur := by injection hc' with e; injection e with e; exact (List.toArray_inj e).symm
  subst hcc
  have hil : i < xs.length := (List.getElem?_eq_some_iff.1 hi).1
  have hs2 := splice_at C hel (C.len x) hp hle
  rw [hy] at hs2
  have hie : i * C.size + C.size ≤ xs.length * C.size := by rw [← Nat.succ_mul]; exact Nat.mul_le_mul_right _ hil
  have hlen2 : (splice cur' (i * C.size) (C.enc y)).length = cur'.length := by simp [splice, C.len]; omega
  obtain ⟨hn, hlen, hh⟩ := h
  refine ⟨by simpa using hn, by rw [flat_len]; simp; rw [hn], .inr ?_⟩
  rcases hh with ⟨h1, h2⟩ | ⟨g2, cap, cur2, hv, h0, hg2, h1, h2, h3, h4⟩
  · omega
  · have : g2 = g := by rw [hv] at hg; injection hg
    subst this
    rw [hcur] at hg2
    have hc2 : cur2.toList = cur' := by injection hg2 with e; injection e with e; rw [← e]
    refine ⟨g2, cap, _, hv, h0, by rw [hs2] at hw1; exact hw1, h1, h2, ?_, ?_⟩
    · simp only [List.size_toArray, hlen2]; rw [← h3, ← Array.length_toList, hc2]
    · have hxl : s.n * C.size = xs.length * C.size := by rw [hn]
      rw [hxl]
      show (splice cur' (i * C.size) (C.enc y)).take (xs.length * C.size) = _
      have hA : cur' = flat C xs ++ cur'.drop (xs.length * C.size) := by rw [← htk, List.take_append_drop]
      have hfl := flat_len C xs
      generalize cur'.drop (xs.length * C.size) = D at hA
      subst hA
      rw [← flat_set C xs i y hil]
      unfold splice
      have e1 : (flat C xs ++ D).take (i * C.size) = (flat C xs).take (i * C.size) := List.take_append_of_le_length (by omega)
      have e2 : (flat C xs ++ D).drop (i * C.size + (C.enc y).length) = (flat C xs).drop (i * C.size + (C.enc y).length) ++ D := List.drop_append_of_le_length (by rw [C.len]; omega)
      rw [e1, e2, ← List.append_assoc, List.take_append_of_le_length (by simp [C.len]; omega), List.take_of_length_le (by simp [C.len]; omega)]
theorem RowAt.take (h : RowAt w ty C s xs) {k : Nat} (hk : k ≤ xs.length) (hsz : 0 < C.size) (hne : 0 < xs.length) : RowAt w ty C ⟨s.a, k, s.c⟩ (xs.take k) := by
  obtain ⟨hn, hlen, hh⟩ := h
  refine ⟨by simp; omega, by rw [flat_len, List.length_take, Nat.min_eq_left hk], ?_⟩
  rcases hh with ⟨h1, h2⟩ | ⟨g, cap, cur, hv, h0, hg, h1, h2, h3, h4⟩
  · omega
  · right
    refine ⟨g, cap, cur, ?_, h0, hg, by simp; omega, h2, h3, ?_⟩
    · unfold slV at hv ⊢; simp at hv ⊢; exact hv
    · simp only
      rw [← flat_take C xs k hk, ← h4, List.take_take, Nat.min_eq_left (by rw [hn]; exact Nat.mul_le_mul_right _ hk)]
end
end Go.Sx
