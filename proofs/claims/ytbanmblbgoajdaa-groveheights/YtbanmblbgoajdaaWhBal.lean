import Derived.Test.YtbanmblbgoajdaaWhBT2
set_option linter.unusedVariables false
set_option linter.unusedSimpArgs false
namespace Go.Sx
namespace BT
variable {E : Type} {cmp : E → E → Int}

/-! ### Balance -/
def Bal : BT E → Prop
  | nil => True
  | node _ l _ h => l.w ≤ 3 * h.w ∧ h.w ≤ 3 * l.w ∧ Bal l ∧ Bal h

theorem w_eq (r : Rf) (l h : BT E) (e : E) : (node r l e h).w = l.w + h.w := w_node
theorem bal_bal {r : Rf} {l h : BT E} {e : E} (hl : l.Bal) (hh : h.Bal) (h1 : 3 * l.w ≤ 13 * h.w) (h2 : 3 * h.w ≤ 13 * l.w) : (bal r l e h).Bal := by
  have pl := w_pos l
  have ph := w_pos h
  unfold bal
  split
  · rename_i hc
    cases h with
    | nil => simp only [w, size] at hc; omega
    | node r2 hl2 e2 hh2 =>
      obtain ⟨a1, a2, a3, a4⟩ := hh
      rw [w_eq] at *
      split
      · rename_i hd
        have hd : 2 * hh2.w ≤ hl2.w := by simpa [dblL] using hd
        have p3 := w_pos hh2
        cases hl2 with
        | nil => simp only [w, size] at hd; omega
        | node r3 ga f gb =>
          obtain ⟨b1, b2, b3, b4⟩ := a3
          rw [w_eq] at *
          have := w_pos ga
          have := w_pos gb
          simp only [turnR, turnL, Bal, w_eq]
          refine ⟨?_, ?_, ⟨?_, ?_, hl, b3⟩, ?_, ?_, b4, a4⟩ <;> omega
      · rename_i hd
        have hd : ¬ 2 * hh2.w ≤ hl2.w := by simpa [dblL] using hd
        simp only [turnL, Bal, w_eq]
        refine ⟨?_, ?_, ⟨?_, ?_, hl, a3⟩, a4⟩ <;> omega
  · split
    · rename_i hc0 hc
      cases l with
      | nil => simp only [w, size] at hc; omega
      | node r2 ll e2 lh =>
        obtain ⟨a1, a2, a3, a4⟩ := hl
        rw [w_eq] at *
        split
        · rename_i hd
          have hd : 2 * ll.w ≤ lh.w := by simpa [dblR] using hd
          have p3 := w_pos ll
          cases lh with
          | nil => simp only [w, size] at hd; omega
          | node r3 ga f gb =>
            obtain ⟨b1, b2, b3, b4⟩ := a4
            rw [w_eq] at *
            have := w_pos ga
            have := w_pos gb
            simp only [turnR, turnL, Bal, w_eq]
            refine ⟨?_, ?_, ⟨?_, ?_, a3, b3⟩, ?_, ?_, b4, hh⟩ <;> omega
        · rename_i hd
          have hd : ¬ 2 * ll.w ≤ lh.w := by simpa [dblR] using hd
          simp only [turnR, Bal, w_eq]
          refine ⟨?_, ?_, a3, ?_, ?_, a4, hh⟩ <;> omega
    · exact ⟨by omega, by omega, hl, hh⟩

theorem link_w (a : BT E) (m : Rf) (e : E) (b : BT E) : (link a m e b).w = a.w + b.w := by
  have := link_size a m e b
  simp only [w]; omega
theorem link_bal {a : BT E} {m : Rf} {e : E} {b : BT E} (ha : a.Bal) (hb : b.Bal) : (link a m e b).Bal := by
  fun_induction link a m e b with
  | case1 a r l f h hw ih =>
    obtain ⟨b1, b2, b3, b4⟩ := hb
    rw [w_eq] at hw
    have pa := w_pos a
    exact bal_bal (ih ha b3) b4 (by rw [link_w]; omega) (by rw [link_w]; omega)
  | case2 a hw => simp only [w, size] at hw; omega
  | case3 b r l f h h1 h2 ih =>
    obtain ⟨b1, b2, b3, b4⟩ := ha
    rw [w_eq] at h2 h1
    have pb := w_pos b
    exact bal_bal b3 (ih b4 hb) (by rw [link_w]; omega) (by rw [link_w]; omega)
  | case4 b h1 hw => simp only [w, size] at hw; omega
  | case5 a b h1 h2 => exact ⟨by omega, by omega, ha, hb⟩

theorem lastN_bal : ∀ {h : BT E} {r : Rf} {l : BT E} {e : E}, l.Bal → h.Bal → (lastN h r l e).1.Bal
  | nil, r, l, e, hl, hh => hl
  | node r2 l2 e2 h2, r, l, e, hl, hh => link_bal hl (lastN_bal hh.2.2.1 hh.2.2.2)
theorem merge_bal : ∀ {a b : BT E}, a.Bal → b.Bal → (merge a b).Bal
  | nil, b, _, hb => hb
  | node r l e h, nil, ha, _ => ha
  | node r l e h, node r2 l2 e2 h2, ha, hb => link_bal (lastN_bal ha.2.2.1 ha.2.2.2) hb
theorem ins_bal {m : Rf} {e : E} : ∀ {s : BT E}, s.Bal → (s.ins cmp m e).Bal
  | nil, _ => ⟨by simp [w, size], by simp [w, size], trivial, trivial⟩
  | node r l f h, ⟨h1, h2, h3, h4⟩ => by
    unfold ins
    split
    · exact link_bal (ins_bal h3) h4
    · split
      · exact link_bal h3 (ins_bal h4)
      · exact ⟨h1, h2, h3, h4⟩
theorem del_bal {e : E} : ∀ {s : BT E} {x : BT E × E}, s.Bal → s.del cmp e = some x → x.1.Bal
  | nil, x, _, h => by simp [del] at h
  | node r l f g, x, ⟨h1, h2, h3, h4⟩, h => by
    unfold del at h
    split at h
    · split at h
      · cases h
      · rename_i x' hx'
        injection h with h; subst h
        exact link_bal (del_bal h3 hx') h4
    · split at h
      · split at h
        · cases h
        · rename_i x' hx'
          injection h with h; subst h
          exact link_bal h3 (del_bal h4 hx')
      · injection h with h; subst h
        exact merge_bal h3 h4

/-! Heights -/
theorem down {t : BT E} (hb : t.Bal) {k : Nat} (hk : k + 1 ≤ t.height) : ∃ s : BT E, s.Bal ∧ k ≤ s.height ∧ 4 * s.w ≤ 3 * t.w := by
  cases t with
  | nil => simp [height] at hk
  | node r l e h =>
    obtain ⟨h1, h2, h3, h4⟩ := hb
    simp only [height] at hk
    rw [w_eq]
    by_cases hc : l.height ≤ h.height
    · exact ⟨h, h4, by omega, by omega⟩
    · exact ⟨l, h3, by omega, by omega⟩
theorem height_pow : ∀ (j : Nat) {t : BT E}, t.Bal → 3 * j ≤ t.height → 2 ^ j ≤ t.w
  | 0, t, _, _ => by simp [w]
  | j + 1, t, hb, hk => by
    obtain ⟨s1, b1, k1, w1⟩ := down hb (k := 3 * j + 2) (by omega)
    obtain ⟨s2, b2, k2, w2⟩ := down b1 (k := 3 * j + 1) k1
    obtain ⟨s3, b3, k3, w3⟩ := down b2 (k := 3 * j) k2
    have := height_pow j b3 k3
    rw [Nat.pow_succ]; omega

/-! What links cost -/
theorem linkD_small {a b : BT E} (h1 : ¬ 3 * a.w < b.w) (h2 : ¬ 3 * b.w < a.w) : linkD a b = 0 := linkD_M h1 h2
theorem linkD_le {a b : BT E} (ha : a.Bal) (hb : b.Bal) (h1 : a.w ≤ 3 * b.w + 3) (h2 : b.w ≤ 3 * a.w + 3) : linkD a b ≤ 2 := by
  have pa := w_pos a
  have pb := w_pos b
  by_cases hc : 3 * a.w < b.w
  · cases b with
    | nil => simp only [w, size] at hc; omega
    | node r l f h =>
      rw [linkD_R hc]
      obtain ⟨b1, b2, b3, b4⟩ := hb
      rw [w_eq] at *
      have pl := w_pos l
      by_cases hc2 : 3 * a.w < l.w
      · cases l with
        | nil => simp only [w, size] at hc2; omega
        | node r2 l2 f2 g2 =>
          rw [linkD_R hc2]
          obtain ⟨c1, c2, c3, c4⟩ := b3
          rw [w_eq] at *
          rw [linkD_small (by omega) (by omega)]; omega
      · rw [linkD_small hc2 (by omega)]; omega
  · by_cases hc2 : 3 * b.w < a.w
    · cases a with
      | nil => simp only [w, size] at hc2; omega
      | node r l f h =>
        rw [linkD_L hc hc2]
        obtain ⟨b1, b2, b3, b4⟩ := ha
        rw [w_eq] at *
        have ph := w_pos h
        by_cases hc3 : 3 * b.w < h.w
        · cases h with
          | nil => simp only [w, size] at hc3; omega
          | node r2 l2 f2 g2 =>
            rw [w_eq] at *
            obtain ⟨c1, c2, c3, c4⟩ := b4
            rw [linkD_L (by rw [w_eq]; omega) (by rw [w_eq]; omega)]
            rw [linkD_small (by omega) (by omega)]; omega
        · rw [linkD_small (by omega) hc3]; omega
    · rw [linkD_small hc hc2]; omega

theorem ins_w {m : Rf} {e : E} (s : BT E) : s.w ≤ (s.ins cmp m e).w ∧ (s.ins cmp m e).w ≤ s.w + 1 := by
  have := ins_size (cmp := cmp) (m := m) (e := e) s
  simp only [w]; split at this <;> omega
theorem insC_le {m : Rf} {e : E} : ∀ {s : BT E}, s.Bal → s.insC cmp m e ≤ 81 * s.height
  | nil, _ => by simp [insC]
  | node r l f h, ⟨h1, h2, h3, h4⟩ => by
    have wl := ins_w (cmp := cmp) (m := m) (e := e) l
    have wh := ins_w (cmp := cmp) (m := m) (e := e) h
    unfold insC
    simp only [height]
    split
    · have := insC_le (m := m) (e := e) h3
      have := linkD_le (ins_bal (cmp := cmp) (m := m) (e := e) h3) h4 (by omega) (by omega)
      omega
    · split
      · have := insC_le (m := m) (e := e) h4
        have := linkD_le h3 (ins_bal (cmp := cmp) (m := m) (e := e) h4) (by omega) (by omega)
        omega
      · omega
theorem lastN_w (h : BT E) (r : Rf) (l : BT E) (e : E) : (lastN h r l e).1.w + 1 = l.w + h.w := by
  have := lastN_size h r l e
  simp only [w]; omega
theorem lastC_le : ∀ {h l : BT E}, l.Bal → h.Bal → l.w ≤ 3 * h.w → h.w ≤ 3 * l.w → lastC h l ≤ 81 * h.height + 1
  | nil, l, _, _, _, _ => by simp [lastC]
  | node r2 l2 e2 h2, l, hl, hh, h1, h2' => by
    obtain ⟨a1, a2, a3, a4⟩ := hh
    have := lastC_le a3 a4 a1 a2
    have hw := lastN_w h2 r2 l2 e2
    rw [w_eq] at h1 h2'
    have := linkD_le hl (lastN_bal (r := r2) (e := e2) a3 a4) (by omega) (by omega)
    simp only [lastC, height]
    omega
theorem mergeC_le : ∀ {a b : BT E}, a.Bal → b.Bal → a.w ≤ 3 * b.w → b.w ≤ 3 * a.w → mergeC a b ≤ 81 * a.height + 81
  | nil, b, _, _, _, _ => by simp [mergeC]
  | node r l e h, nil, _, _, _, _ => by simp [mergeC]
  | node r l e h, node r2 l2 e2 h2, ha, hb, h1, h2' => by
    obtain ⟨a1, a2, a3, a4⟩ := ha
    have := lastC_le a3 a4 a1 a2
    have hw := lastN_w h r l e
    rw [w_eq r l h e] at h1 h2'
    have := linkD_le (lastN_bal (r := r) (e := e) a3 a4) hb (by omega) (by omega)
    simp only [mergeC, height]
    omega
theorem delC_le {e : E} : ∀ {s : BT E}, s.Bal → s.delC cmp e ≤ 81 * s.height + 83
  | nil, _ => by simp [delC]
  | node r l f h, ⟨h1, h2, h3, h4⟩ => by
    simp only [height]
    by_cases c1 : cmp e f < 0
    · have := delC_le (e := e) h3
      cases hx : l.del cmp e with
      | none =>
        have : delC cmp e (node r l f h) = 1 + l.delC cmp e + 0 := by rw [delC, if_pos c1, hx]
        omega
      | some x =>
        have hC : delC cmp e (node r l f h) = 1 + l.delC cmp e + (6 + 37 * linkD x.1 h) := by rw [delC, if_pos c1, hx]
        have hs := del_size cmp hx
        have := linkD_le (del_bal h3 hx) h4 (by simp only [w] at *; omega) (by simp only [w] at *; omega)
        omega
    · by_cases c2 : 0 < cmp e f
      · have := delC_le (e := e) h4
        cases hx : h.del cmp e with
        | none =>
          have : delC cmp e (node r l f h) = 1 + h.delC cmp e + 0 := by rw [delC, if_neg c1, if_pos c2, hx]
          omega
        | some x =>
          have hC : delC cmp e (node r l f h) = 1 + h.delC cmp e + (6 + 37 * linkD l x.1) := by rw [delC, if_neg c1, if_pos c2, hx]
          have hs := del_size cmp hx
          have := linkD_le h3 (del_bal h4 hx) (by simp only [w] at *; omega) (by simp only [w] at *; omega)
          omega
      · have hC : delC cmp e (node r l f h) = 2 + mergeC l h := by rw [delC, if_neg c1, if_neg c2]
        have := mergeC_le h3 h4 h1 h2
        omega
end BT
end Go.Sx
