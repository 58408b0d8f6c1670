import Derived.Test.YtbanmblbgoajdaaWhBT
set_option linter.unusedVariables false
set_option linter.unusedSimpArgs false
namespace Go.Sx
namespace BT
variable {E : Type} (cmp : E → E → Int)

/-! ### last, merge, put, drop -/
def lastN : BT E → Rf → BT E → E → BT E × Rf × E
  | nil, r, l, e => (l, r, e)
  | node r2 l2 e2 h2, r, l, e => (link l r e (lastN h2 r2 l2 e2).1, (lastN h2 r2 l2 e2).2)
def lastC : BT E → BT E → Nat
  | nil, _ => 1
  | node r2 l2 e2 h2, l => 1 + lastC h2 l2 + (6 + 37 * linkD l (lastN h2 r2 l2 e2).1)
def merge : BT E → BT E → BT E
  | nil, b => b
  | node r l e h, nil => node r l e h
  | node r l e h, node r2 l2 e2 h2 => link (lastN h r l e).1 (lastN h r l e).2.1 (lastN h r l e).2.2 (node r2 l2 e2 h2)
def mergeC : BT E → BT E → Nat
  | nil, _ => 0
  | node _ _ _ _, nil => 0
  | node r l e h, node r2 l2 e2 h2 => lastC h l + (6 + 37 * linkD (lastN h r l e).1 (node r2 l2 e2 h2))
def has (e : E) : BT E → Bool
  | nil => false
  | node _ l f h => if cmp e f < 0 then l.has e else if 0 < cmp e f then h.has e else true
def ins (m : Rf) (e : E) : BT E → BT E
  | nil => node m nil e nil
  | node r l f h => if cmp e f < 0 then link (l.ins m e) r f h else if 0 < cmp e f then link l r f (h.ins m e) else node r l e h
/-- What put visits at most, whether a node comes in or not. -/
def insC (m : Rf) (e : E) : BT E → Nat
  | nil => 0
  | node r l f h => if cmp e f < 0 then 1 + l.insC m e + (6 + 37 * linkD (l.ins cmp m e) h) else if 0 < cmp e f then 1 + h.insC m e + (6 + 37 * linkD l (h.ins cmp m e)) else 6
def del (e : E) : BT E → Option (BT E × E)
  | nil => none
  | node r l f h => if cmp e f < 0 then (match l.del e with | none => none | some x => some (link x.1 r f h, x.2)) else if 0 < cmp e f then (match h.del e with | none => none | some x => some (link l r f x.1, x.2)) else some (merge l h, f)
def delC (e : E) : BT E → Nat
  | nil => 0
  | node r l f h => if cmp e f < 0 then 1 + l.delC e + (match l.del cmp e with | none => 0 | some x => 6 + 37 * linkD x.1 h) else if 0 < cmp e f then 1 + h.delC e + (match h.del cmp e with | none => 0 | some x => 6 + 37 * linkD l x.1) else 2 + mergeC l h

theorem lastN_refs : ∀ (h : BT E) (r : Rf) (l : BT E) (e : E), (lastN h r l e).1.refs ++ [(lastN h r l e).2.1] = l.refs ++ r :: h.refs
  | nil, r, l, e => by simp [lastN, refs]
  | node r2 l2 e2 h2, r, l, e => by
    have ih := lastN_refs h2 r2 l2 e2
    simp only [lastN, link_refs, List.append_assoc, List.cons_append, ih, refs]
theorem lastN_elems : ∀ (h : BT E) (r : Rf) (l : BT E) (e : E), (lastN h r l e).1.elems ++ [(lastN h r l e).2.2] = l.elems ++ e :: h.elems
  | nil, r, l, e => by simp [lastN, elems]
  | node r2 l2 e2 h2, r, l, e => by
    have ih := lastN_elems h2 r2 l2 e2
    simp only [lastN, link_elems, List.append_assoc, List.cons_append, ih, elems]
theorem lastN_size (h : BT E) (r : Rf) (l : BT E) (e : E) : (lastN h r l e).1.size = l.size + h.size := by
  have := congrArg List.length (lastN_refs h r l e)
  simp only [List.length_append, List.length_cons, List.length_nil] at this
  rw [size_refs, size_refs l, size_refs h]; omega
theorem merge_refs : ∀ (a b : BT E), (merge a b).refs = a.refs ++ b.refs
  | nil, b => rfl
  | node r l e h, nil => by simp [merge, refs]
  | node r l e h, node r2 l2 e2 h2 => by
    have := lastN_refs h r l e
    rw [merge, link_refs, ← List.singleton_append, ← List.append_assoc, this, refs, refs]
theorem merge_elems : ∀ (a b : BT E), (merge a b).elems = a.elems ++ b.elems
  | nil, b => rfl
  | node r l e h, nil => by simp [merge, elems]
  | node r l e h, node r2 l2 e2 h2 => by
    have := lastN_elems h r l e
    rw [merge, link_elems, ← List.singleton_append, ← List.append_assoc, this, elems, elems]

theorem ins_mem {m : Rf} {e : E} {x : Rf} : ∀ {s : BT E}, x ∈ (s.ins cmp m e).refs → x ∈ s.refs ∨ x = m ∧ s.has cmp e = false
  | nil, h => .inr ⟨by simpa [ins, refs] using h, rfl⟩
  | node r l f g, h => by
    unfold ins at h
    unfold has
    simp only [refs, List.mem_append, List.mem_cons]
    split at h
    · rename_i hc
      rw [link_refs, List.mem_append, List.mem_cons] at h
      simp only [hc, if_true]
      rcases h with h | h | h
      · rcases ins_mem h with h | h
        · exact .inl (.inl h)
        · exact .inr h
      · exact .inl (.inr (.inl h))
      · exact .inl (.inr (.inr h))
    · rename_i hc
      split at h
      · rename_i hc2
        rw [link_refs, List.mem_append, List.mem_cons] at h
        simp only [hc, hc2, if_true, if_false]
        rcases h with h | h | h
        · exact .inl (.inl h)
        · exact .inl (.inr (.inl h))
        · rcases ins_mem h with h | h
          · exact .inl (.inr (.inr h))
          · exact .inr h
      · left
        simpa [refs] using h
theorem ins_nodup {m : Rf} {e : E} : ∀ {s : BT E}, s.refs.Nodup → (s.has cmp e = false → m ∉ s.refs) → (s.ins cmp m e).refs.Nodup
  | nil, _, _ => by simp [ins, refs]
  | node r l f g, hn, hm => by
    rw [refs_node, List.nodup_append, List.nodup_cons] at hn
    obtain ⟨n1, ⟨n2, n3⟩, n4⟩ := hn
    have hm' : ∀ x, x ∈ l.refs ∨ x = r ∨ x ∈ g.refs → (node r l f g).has cmp e = false → x ≠ m := fun x hx hh e => hm hh (by subst e; simpa [refs] using hx)
    unfold has at hm hm'
    unfold ins
    split
    · rename_i hc
      simp only [hc, if_true] at hm hm'
      rw [link_refs, List.nodup_append, List.nodup_cons]
      refine ⟨ins_nodup n1 fun hh h => hm hh (by simp [refs, h]), ⟨n2, n3⟩, fun x hx y hy e => ?_⟩
      subst e
      rcases ins_mem cmp hx with h | ⟨h, hh⟩
      · exact n4 x h x hy rfl
      · exact hm' x (by rcases List.mem_cons.1 hy with h | h; exact .inr (.inl h); exact .inr (.inr h)) hh h
    · rename_i hc
      split
      · rename_i hc2
        simp only [hc, hc2, if_true, if_false] at hm hm'
        rw [link_refs, List.nodup_append, List.nodup_cons]
        refine ⟨n1, ⟨fun hx => ?_, ins_nodup n3 fun hh h => hm hh (by simp [refs, h])⟩, fun x hx y hy e => ?_⟩
        · rcases ins_mem cmp hx with h | ⟨h, hh⟩
          · exact n2 h
          · exact hm' r (.inr (.inl rfl)) hh h
        · subst e
          rcases List.mem_cons.1 hy with h | h
          · exact n4 x hx x (by simp [h]) rfl
          · rcases ins_mem cmp h with h | ⟨h, hh⟩
            · exact n4 x hx x (by simp [h]) rfl
            · exact hm' x (.inl hx) hh h
      · rw [refs_node, List.nodup_append, List.nodup_cons]
        exact ⟨n1, ⟨n2, n3⟩, n4⟩
theorem ins_size {m : Rf} {e : E} : ∀ (s : BT E), (s.ins cmp m e).size = s.size + (if s.has cmp e then 0 else 1)
  | nil => by simp [ins, has, size]
  | node r l f g => by
    have ihl := ins_size (m := m) (e := e) l
    have ihg := ins_size (m := m) (e := e) g
    unfold ins has
    simp only [size]
    split
    · rw [link_size, ihl]; split <;> omega
    · split
      · rw [link_size, ihg]; split <;> omega
      · simp [size]
theorem del_mem {e : E} {y : Rf} : ∀ {s : BT E} {x : BT E × E}, s.del cmp e = some x → y ∈ x.1.refs → y ∈ s.refs
  | nil, x, h, _ => by simp [del] at h
  | node r l f g, x, h, hy => by
    unfold del at h
    simp only [refs, List.mem_append, List.mem_cons]
    split at h
    · split at h
      · cases h
      · rename_i x' hx'
        injection h with h; subst h
        rw [link_refs, List.mem_append, List.mem_cons] at hy
        rcases hy with hy | hy | hy
        · exact .inl (del_mem hx' hy)
        · exact .inr (.inl hy)
        · exact .inr (.inr hy)
    · split at h
      · split at h
        · cases h
        · rename_i x' hx'
          injection h with h; subst h
          rw [link_refs, List.mem_append, List.mem_cons] at hy
          rcases hy with hy | hy | hy
          · exact .inl hy
          · exact .inr (.inl hy)
          · exact .inr (.inr (del_mem hx' hy))
      · injection h with h; subst h
        rw [merge_refs, List.mem_append] at hy
        rcases hy with hy | hy
        · exact .inl hy
        · exact .inr (.inr hy)
theorem del_nodup {e : E} : ∀ {s : BT E} {x : BT E × E}, s.del cmp e = some x → s.refs.Nodup → x.1.refs.Nodup
  | nil, x, h, _ => by simp [del] at h
  | node r l f g, x, h, hn => by
    rw [refs_node, List.nodup_append, List.nodup_cons] at hn
    obtain ⟨n1, ⟨n2, n3⟩, n4⟩ := hn
    unfold del at h
    split at h
    · split at h
      · cases h
      · rename_i x' hx'
        injection h with h; subst h
        rw [link_refs, List.nodup_append, List.nodup_cons]
        exact ⟨del_nodup hx' n1, ⟨n2, n3⟩, fun a ha b hb => n4 a (del_mem cmp hx' ha) b hb⟩
    · split at h
      · split at h
        · cases h
        · rename_i x' hx'
          injection h with h; subst h
          rw [link_refs, List.nodup_append, List.nodup_cons]
          refine ⟨n1, ⟨fun h => n2 (del_mem cmp hx' h), del_nodup hx' n3⟩, fun a ha b hb => ?_⟩
          rcases List.mem_cons.1 hb with hb | hb
          · exact n4 a ha b (by simp [hb])
          · exact n4 a ha b (List.mem_cons_of_mem _ (del_mem cmp hx' hb))
      · injection h with h; subst h
        rw [merge_refs, List.nodup_append]
        exact ⟨n1, n3, fun a ha b hb => n4 a ha b (List.mem_cons_of_mem _ hb)⟩
theorem del_size {e : E} : ∀ {s : BT E} {x : BT E × E}, s.del cmp e = some x → s.size = x.1.size + 1
  | nil, x, h => by simp [del] at h
  | node r l f g, x, h => by
    unfold del at h
    simp only [size]
    split at h
    · split at h
      · cases h
      · rename_i x' hx'
        injection h with h; subst h
        rw [link_size, del_size hx']; omega
    · split at h
      · split at h
        · cases h
        · rename_i x' hx'
          injection h with h; subst h
          rw [link_size, del_size hx']; omega
      · injection h with h; subst h
        rw [size_refs (merge l g), merge_refs, List.length_append, ← size_refs, ← size_refs]; omega
end BT
end Go.Sx
