import Derived.Test.YtbanmblbgoajdaaWhJ2
import Derived.KernelRfl
import Derived.LaidEql
import Derived.Laws.StructEq
import Derived.WalkKit
import Derived.ProofKit
import Derived.OpenShut
import Derived.ShutString
import Derived.ChangeOld
import Derived.Below
import Derived.SizedLaws
import Derived.Deep.Slices
import Derived.Deep.Fields
import Derived.ChangeSame
import Derived.ChangeArms
import Derived.Test.YtbanmblbgoajdaaRows
set_option linter.unusedVariables false
set_option maxHeartbeats 1000000
namespace Go.Sx
open GI
def eItem : Enc := eAg Item itemC
def eTook : Enc := eAg Took tookC
def eMark : Enc := eAg Mark markC
def eSwell : Enc := eAg Swell swellC
noncomputable def wvC : Cfg where
  P := Go.Proofs.Try.prog
  hint t := lookup t [(3, Hint.ofE eInt), (4, Hint.ofE eBool), (39, Hint.ofE eTide), (68, Hint.ofE eItem), (72, Hint.ofE eTook), (74, Hint.ofE eMark), (76, Hint.ofE eSwell), (22, Hint.ofE eSl)]
  res f := lookup f [(133, Hint.ofE eTide), (134, Hint.ofE eTide), (152, Hint.ofE eInt), (153, Hint.ofE eBool), (155, Hint.ofE eTook), (156, Hint.ofE eTook), (157, Hint.ofE eInt), (158, Hint.ofE eInt)]
  pure _ := none
  meth _ _ := none
  pureR f := bif f == 133 then some (fun e n cells => match cells with | [.int .i64 x] => bif (e == 3) && (n == 1) then some (ag (tideC (Tide.of [x]))) else none | _ => none) else none
def embI (x : Int) : List SV := [.v (iV x)]

noncomputable def isNaNT (a : Int) : Tree :=
  .ret (.bool (a != a))
theorem isNaN_t (a : Int) : FnT wvC 153 [iV a] (isNaNT a) := fnT (fn := Go.Proofs.Try.f153) (fc := {}) (by kernel_rfl) (by kernel_rfl) (by kernel_rfl)
noncomputable def cmpIT (a b : Int) : Tree :=
  .call 153 [iV a].toArray [] eBool fun (b1 : Bool) =>
  .call 153 [iV b].toArray [] eBool fun (b2 : Bool) =>
  .ite b1
  (.ite b2
   (.ret (iV 0))
   (.ret (iV (-1))))
  (.ite b2
   (.ret (iV 1))
   (.ite (decide (a < b))
    (.ret (iV (-1)))
    (.ite (decide (a > b))
     (.ret (iV 1))
     (.ret (iV 0)))))
theorem cmpI_t (a b : Int) : FnT wvC 152 [iV a, iV b] (cmpIT a b) := fnT (fn := Go.Proofs.Try.f152) (fc := {}) (by kernel_rfl) (by kernel_rfl) (by kernel_rfl)
noncomputable def orIT (s : Sl) : Tree :=
  .loop [.v (iV 0)] (Int) (fun i1 => [.v (iV i1)]) fun i1 =>
  .ite (decide (i1 < (↑s.n : Int)))
  (.prim (Instr.indexAt 22 (slV s) (iV i1)) [] eAddr fun (a1 : Addr) =>
   .prim (Instr.loadAt 3 (.pointer (some a1))) [] eInt fun (i2 : Int) =>
   .ite (i2 != 0)
   (.ret (iV i2))
   (.again 0 [.v (iV (wr (i1 + 1)))]))
  (.ret (iV 0))
theorem orI_t (s : Sl) : FnT wvC 158 [slV s] (orIT s) := fnT (fn := Go.Proofs.Try.f158) (fc := { lh := [(0, { slots := [8], L := Int, emb := embI })] }) (by kernel_rfl) (by kernel_rfl) (by kernel_rfl)
noncomputable def cmpItemT (a b : Item) : Tree :=
  .call 152 [iV a.key, iV b.key].toArray [6, 8] eInt fun (i1 : Int) =>
  .call 152 [iV a.id, iV b.id].toArray [] eInt fun (i2 : Int) =>
  .prim (Instr.buildSlice 22 2 #[(0, (iV i1)), (1, (iV i2))]) [] eSl fun (s1 : Sl) =>
  .call 158 [slV s1].toArray [] eInt fun (i3 : Int) =>
  .endS (.ret (iV i3))
theorem cmpItem_t (a b : Item) : FnT wvC 157 [ag (itemC a), ag (itemC b)] (cmpItemT a b) := fnT (fn := Go.Proofs.Try.f157) (fc := { esc := [15] }) (by kernel_rfl) (by kernel_rfl) (by kernel_rfl)
noncomputable def cmpMarkT (a b : Mark) : Tree :=
  .call 152 [iV a.op.time, iV b.op.time].toArray [] eInt fun (i1 : Int) =>
  .ret (iV i1)
theorem cmpMark_t (a b : Mark) : FnT wvC 150 [ag (markC a), ag (markC b)] (cmpMarkT a b) := fnT (fn := Go.Proofs.Try.f150) (fc := {}) (by kernel_rfl) (by kernel_rfl) (by kernel_rfl)
noncomputable def sumMarkT_1 (a : Mark) : Tree :=
  .ite a.op.insert
  (.endS (.ret (ag [iV ((Tide.of [1]).n), iV ((Tide.of [1]).sum), iV ((Tide.of [1]).low), iV ((Tide.of [1]).n), iV ((Tide.of [1]).sum), iV ((Tide.of [1]).low), iV 0, iV 0, iV 0, iV 0, .bool true, iV a.op.item.key, iV a.op.item.id, .bool false, iV 0, iV 0])))
  (.ite a.took.found
   (.ret (ag [iV ((Tide.of [-1]).n), iV ((Tide.of [-1]).sum), iV ((Tide.of [-1]).low), iV ((Tide.of [-1]).n), iV ((Tide.of [-1]).sum), iV ((Tide.of [-1]).low), iV 1, iV 0, iV a.took.item.key, iV a.took.item.id, .bool false, iV 0, iV 0, .bool false, iV 0, iV 0]))
   (.ret (ag [iV ((Tide.of [-1]).n), iV ((Tide.of [-1]).sum), iV ((Tide.of [-1]).low), iV ((Tide.of [-1]).n), iV ((Tide.of [-1]).sum), iV ((Tide.of [-1]).low), iV 1, iV 1, iV 0, iV 0, .bool false, iV 0, iV 0, .bool false, iV 0, iV 0])))
noncomputable def sumMarkT (a : Mark) : Tree :=
  .ite a.op.insert
  (.ite a.here
   (.endS (.ret (ag [iV ((Tide.of [1]).n), iV ((Tide.of [1]).sum), iV ((Tide.of [1]).low), iV ((Tide.of [0]).n), iV ((Tide.of [0]).sum), iV ((Tide.of [0]).low), iV 0, iV 0, iV 0, iV 0, .bool false, iV 0, iV 0, .bool true, iV a.op.item.key, iV a.op.item.id])))
   (sumMarkT_1 a))
  (sumMarkT_1 a)
theorem sumMark_t (a : Mark) : FnT wvC 151 [ag (markC a)] (sumMarkT a) := fnT (fn := Go.Proofs.Try.f151) (fc := {}) (by kernel_rfl) (by kernel_rfl) (by kernel_rfl)
noncomputable def takenT (a : Swell) : Tree :=
  .ite (a.deletes == a.free)
  (.ret (ag [.bool false, iV 0, iV 0]))
  (.ret (ag [.bool true, iV a.most.key, iV a.most.id]))
theorem taken_t (a : Swell) : FnT wvC 155 [ag (swellC a)] (takenT a) := fnT (fn := Go.Proofs.Try.f155) (fc := {}) (by kernel_rfl) (by kernel_rfl) (by kernel_rfl)
noncomputable def betterT (s : Int) (a b : Took) : Tree :=
  .ite (!a.found)
  (.ret (ag [.bool b.found, iV b.item.key, iV b.item.id]))
  (.ite b.found
   (.call 157 [ag [iV b.item.key, iV b.item.id], ag [iV a.item.key, iV a.item.id]].toArray [] eInt fun (i1 : Int) =>
    .ite (decide (wr (s * i1) < 0))
    (.ret (ag [.bool b.found, iV b.item.key, iV b.item.id]))
    (.ret (ag [.bool a.found, iV a.item.key, iV a.item.id])))
   (.ret (ag [.bool a.found, iV a.item.key, iV a.item.id])))
theorem better_t (s : Int) (a b : Took) : FnT wvC 156 [iV s, ag (tookC a), ag (tookC b)] (betterT s a b) := fnT (fn := Go.Proofs.Try.f156) (fc := {}) (by kernel_rfl) (by kernel_rfl) (by kernel_rfl)
noncomputable def plusSwT (a b : Swell) : Tree :=
  .call 134 [ag [iV a.count.n, iV a.count.sum, iV a.count.low], ag [iV b.count.n, iV b.count.sum, iV b.count.low]].toArray [6, 8, 11, 13, 14, 16, 18, 19, 20, 22, 27, 29, 32, 34] eTide fun (x1 : Tide) =>
  .call 134 [ag [iV a.weight.n, iV a.weight.sum, iV a.weight.low], ag [iV b.weight.n, iV b.weight.sum, iV b.weight.low]].toArray [11, 13, 14, 16, 18, 19, 20, 22, 27, 29, 32, 34] eTide fun (x2 : Tide) =>
  .call 155 [ag [iV a.count.n, iV a.count.sum, iV a.count.low, iV a.weight.n, iV a.weight.sum, iV a.weight.low, iV a.deletes, iV a.free, iV a.most.key, iV a.most.id, .bool a.gone.found, iV a.gone.item.key, iV a.gone.item.id, .bool a.least.found, iV a.least.item.key, iV a.least.item.id]].toArray [11, 13, 14, 16, 18, 19, 22, 27, 29, 32, 34] eTook fun (x3 : Took) =>
  .call 155 [ag [iV b.count.n, iV b.count.sum, iV b.count.low, iV b.weight.n, iV b.weight.sum, iV b.weight.low, iV b.deletes, iV b.free, iV b.most.key, iV b.most.id, .bool b.gone.found, iV b.gone.item.key, iV b.gone.item.id, .bool b.least.found, iV b.least.item.key, iV b.least.item.id]].toArray [11, 13, 14, 16, 18, 19, 27, 29, 32, 34] eTook fun (x4 : Took) =>
  .call 156 [iV (-1), ag [.bool x3.found, iV x3.item.key, iV x3.item.id], ag [.bool x4.found, iV x4.item.key, iV x4.item.id]].toArray [11, 13, 14, 16, 18, 19, 27, 29, 32, 34] eTook fun (x5 : Took) =>
  .call 156 [iV (-1), ag [.bool a.gone.found, iV a.gone.item.key, iV a.gone.item.id], ag [.bool b.gone.found, iV b.gone.item.key, iV b.gone.item.id]].toArray [11, 13, 14, 16, 18, 19, 32, 34] eTook fun (x6 : Took) =>
  .call 156 [iV 1, ag [.bool a.least.found, iV a.least.item.key, iV a.least.item.id], ag [.bool b.least.found, iV b.least.item.key, iV b.least.item.id]].toArray [11, 13, 14, 16, 18, 19] eTook fun (x7 : Took) =>
  .endS (.ret (ag [iV x1.n, iV x1.sum, iV x1.low, iV x2.n, iV x2.sum, iV x2.low, iV (wr (a.deletes + b.deletes)), iV (wr (a.free + b.free)), iV x5.item.key, iV x5.item.id, .bool x6.found, iV x6.item.key, iV x6.item.id, .bool x7.found, iV x7.item.key, iV x7.item.id]))
theorem plusSw_t (a b : Swell) : FnT wvC 154 [ag (swellC a), ag (swellC b)] (plusSwT a b) := fnT (fn := Go.Proofs.Try.f154) (fc := {}) (by kernel_rfl) (by kernel_rfl) (by kernel_rfl)
end Go.Sx

set_option linter.unusedVariables false
set_option linter.unusedSimpArgs false
namespace Go.Sx
namespace BT
variable {E : Type} {cmp : E → E → Int}

/-! ### Balance -/
def Bal : BT E → Prop
  | nil => True
  | node _ l _ h => l.w ≤ 3 * h.w ∧ h.w ≤ 3 * l.w ∧ Bal l ∧ Bal h

theorem w_eq (r : Rf) (l h : BT E) (e : E) : (node r l e h).w = l.w + h.w := w_node
theorem bal_bal {r : Rf} {l h : BT E} {e : E} (hl : l.Bal) (hh : h.Bal) (h1 : 3 * l.w ≤ 13 * h.w) (h2 : 3 * h.w ≤ 13 * l.w) : (bal r l e h).Bal := by
  have pl := w_pos l
  have ph := w_pos h
  unfold bal
  split
  · rename_i hc
    cases h with
    | nil => simp only [w, size] at hc; omega
    | node r2 hl2 e2 hh2 =>
      obtain ⟨a1, a2, a3, a4⟩ := hh
      rw [w_eq] at *
      split
      · rename_i hd
        have hd : 2 * hh2.w ≤ hl2.w := by simpa [dblL] using hd
        have p3 := w_pos hh2
        cases hl2 with
        | nil => simp only [w, size] at hd; omega
        | node r3 ga f gb =>
          obtain ⟨b1, b2, b3, b4⟩ := a3
          rw [w_eq] at *
          have := w_pos ga
          have := w_pos gb
          simp only [turnR, turnL, Bal, w_eq]
          refine ⟨?_, ?_, ⟨?_, ?_, hl, b3⟩, ?_, ?_, b4, a4⟩ <;> omega
      · rename_i hd
        have hd : ¬ 2 * hh2.w ≤ hl2.w := by simpa [dblL] using hd
        simp only [turnL, Bal, w_eq]
        refine ⟨?_, ?_, ⟨?_, ?_, hl, a3⟩, a4⟩ <;> omega
  · split
    · rename_i hc0 hc
      cases l with
      | nil => simp only [w, size] at hc; omega
      | node r2 ll e2 lh =>
        obtain ⟨a1, a2, a3, a4⟩ := hl
        rw [w_eq] at *
        split
        · rename_i hd
          have hd : 2 * ll.w ≤ lh.w := by simpa [dblR] using hd
          have p3 := w_pos ll
          cases lh with
          | nil => simp only [w, size] at hd; omega
          | node r3 ga f gb =>
            obtain ⟨b1, b2, b3, b4⟩ := a4
            rw [w_eq] at *
            have := w_pos ga
            have := w_pos gb
            simp only [turnR, turnL, Bal, w_eq]
            refine ⟨?_, ?_, ⟨?_, ?_, a3, b3⟩, ?_, ?_, b4, hh⟩ <;> omega
        · rename_i hd
          have hd : ¬ 2 * ll.w ≤ lh.w := by simpa [dblR] using hd
          simp only [turnR, Bal, w_eq]
          refine ⟨?_, ?_, a3, ?_, ?_, a4, hh⟩ <;> omega
    · exact ⟨by omega, by omega, hl, hh⟩

theorem link_w (a : BT E) (m : Rf) (e : E) (b : BT E) : (link a m e b).w = a.w + b.w := by
  have := link_size a m e b
  simp only [w]; omega
theorem link_bal {a : BT E} {m : Rf} {e : E} {b : BT E} (ha : a.Bal) (hb : b.Bal) : (link a m e b).Bal := by
  fun_induction link a m e b with
  | case1 a r l f h hw ih =>
    obtain ⟨b1, b2, b3, b4⟩ := hb
    rw [w_eq] at hw
    have pa := w_pos a
    exact bal_bal (ih ha b3) b4 (by rw [link_w]; omega) (by rw [link_w]; omega)
  | case2 a hw => simp only [w, size] at hw; omega
  | case3 b r l f h h1 h2 ih =>
    obtain ⟨b1, b2, b3, b4⟩ := ha
    rw [w_eq] at h2 h1
    have pb := w_pos b
    exact bal_bal b3 (ih b4 hb) (by rw [link_w]; omega) (by rw [link_w]; omega)
  | case4 b h1 hw => simp only [w, size] at hw; omega
  | case5 a b h1 h2 => exact ⟨by omega, by omega, ha, hb⟩

theorem lastN_bal : ∀ {h : BT E} {r : Rf} {l : BT E} {e : E}, l.Bal → h.Bal → (lastN h r l e).1.Bal
  | nil, r, l, e, hl, hh => hl
  | node r2 l2 e2 h2, r, l, e, hl, hh => link_bal hl (lastN_bal hh.2.2.1 hh.2.2.2)
theorem merge_bal : ∀ {a b : BT E}, a.Bal → b.Bal → (merge a b).Bal
  | nil, b, _, hb => hb
  | node r l e h, nil, ha, _ => ha
  | node r l e h, node r2 l2 e2 h2, ha, hb => link_bal (lastN_bal ha.2.2.1 ha.2.2.2) hb
theorem ins_bal {m : Rf} {e : E} : ∀ {s : BT E}, s.Bal → (s.ins cmp m e).Bal
  | nil, _ => ⟨by simp [w, size], by simp [w, size], trivial, trivial⟩
  | node r l f h, ⟨h1, h2, h3, h4⟩ => by
    unfold ins
    split
    · exact link_bal (ins_bal h3) h4
    · split
      · exact link_bal h3 (ins_bal h4)
      · exact ⟨h1, h2, h3, h4⟩
theorem del_bal {e : E} : ∀ {s : BT E} {x : BT E × E}, s.Bal → s.del cmp e = some x → x.1.Bal
  | nil, x, _, h => by simp [del] at h
  | node r l f g, x, ⟨h1, h2, h3, h4⟩, h => by
    unfold del at h
    split at h
    · split at h
      · cases h
      · rename_i x' hx'
        injection h with h; subst h
        exact link_bal (del_bal h3 hx') h4
    · split at h
      · split at h
        · cases h
        · rename_i x' hx'
          injection h with h; subst h
          exact link_bal h3 (del_bal h4 hx')
      · injection h with h; subst h
        exact merge_bal h3 h4

/-! Heights -/
theorem down {t : BT E} (hb : t.Bal) {k : Nat} (hk : k + 1 ≤ t.height) : ∃ s : BT E, s.Bal ∧ k ≤ s.height ∧ 4 * s.w ≤ 3 * t.w := by
  cases t with
  | nil => simp [height] at hk
  | node r l e h =>
    obtain ⟨h1, h2, h3, h4⟩ := hb
    simp only [height] at hk
    rw [w_eq]
    by_cases hc : l.height ≤ h.height
    · exact ⟨h, h4, by omega, by omega⟩
    · exact ⟨l, h3, by omega, by omega⟩
theorem height_pow : ∀ (j : Nat) {t : BT E}, t.Bal → 3 * j ≤ t.height → 2 ^ j ≤ t.w
  | 0, t, _, _ => by simp [w]
  | j + 1, t, hb, hk => by
    obtain ⟨s1, b1, k1, w1⟩ := down hb (k := 3 * j + 2) (by omega)
    obtain ⟨s2, b2, k2, w2⟩ := down b1 (k := 3 * j + 1) k1
    obtain ⟨s3, b3, k3, w3⟩ := down b2 (k := 3 * j) k2
    have := height_pow j b3 k3
    rw [Nat.pow_succ]; omega

/-! What links cost -/
theorem linkD_small {a b : BT E} (h1 : ¬ 3 * a.w < b.w) (h2 : ¬ 3 * b.w < a.w) : linkD a b = 0 := linkD_M h1 h2
theorem linkD_le {a b : BT E} (ha : a.Bal) (hb : b.Bal) (h1 : a.w ≤ 3 * b.w + 3) (h2 : b.w ≤ 3 * a.w + 3) : linkD a b ≤ 2 := by
  have pa := w_pos a
  have pb := w_pos b
  by_cases hc : 3 * a.w < b.w
  · cases b with
    | nil => simp only [w, size] at hc; omega
    | node r l f h =>
      rw [linkD_R hc]
      obtain ⟨b1, b2, b3, b4⟩ := hb
      rw [w_eq] at *
      have pl := w_pos l
      by_cases hc2 : 3 * a.w < l.w
      · cases l with
        | nil => simp only [w, size] at hc2; omega
        | node r2 l2 f2 g2 =>
          rw [linkD_R hc2]
          obtain ⟨c1, c2, c3, c4⟩ := b3
          rw [w_eq] at *
          rw [linkD_small (by omega) (by omega)]; omega
      · rw [linkD_small hc2 (by omega)]; omega
  · by_cases hc2 : 3 * b.w < a.w
    · cases a with
      | nil => simp only [w, size] at hc2; omega
      | node r l f h =>
        rw [linkD_L hc hc2]
        obtain ⟨b1, b2, b3, b4⟩ := ha
        rw [w_eq] at *
        have ph := w_pos h
        by_cases hc3 : 3 * b.w < h.w
        · cases h with
          | nil => simp only [w, size] at hc3; omega
          | node r2 l2 f2 g2 =>
            rw [w_eq] at *
            obtain ⟨c1, c2, c3, c4⟩ := b4
            rw [linkD_L (by rw [w_eq]; omega) (by rw [w_eq]; omega)]
            rw [linkD_small (by omega) (by omega)]; omega
        · rw [linkD_small (by omega) hc3]; omega
    · rw [linkD_small hc hc2]; omega

theorem ins_w {m : Rf} {e : E} (s : BT E) : s.w ≤ (s.ins cmp m e).w ∧ (s.ins cmp m e).w ≤ s.w + 1 := by
  have := ins_size (cmp := cmp) (m := m) (e := e) s
  simp only [w]; split at this <;> omega
theorem insC_le {m : Rf} {e : E} : ∀ {s : BT E}, s.Bal → s.insC cmp m e ≤ 81 * s.height
  | nil, _ => by simp [insC]
  | node r l f h, ⟨h1, h2, h3, h4⟩ => by
    have wl := ins_w (cmp := cmp) (m := m) (e := e) l
    have wh := ins_w (cmp := cmp) (m := m) (e := e) h
    unfold insC
    simp only [height]
    split
    · have := insC_le (m := m) (e := e) h3
      have := linkD_le (ins_bal (cmp := cmp) (m := m) (e := e) h3) h4 (by omega) (by omega)
      omega
    · split
      · have := insC_le (m := m) (e := e) h4
        have := linkD_le h3 (ins_bal (cmp := cmp) (m := m) (e := e) h4) (by omega) (by omega)
        omega
      · omega
theorem lastN_w (h : BT E) (r : Rf) (l : BT E) (e : E) : (lastN h r l e).1.w + 1 = l.w + h.w := by
  have := lastN_size h r l e
  simp only [w]; omega
theorem lastC_le : ∀ {h l : BT E}, l.Bal → h.Bal → l.w ≤ 3 * h.w → h.w ≤ 3 * l.w → lastC h l ≤ 81 * h.height + 1
  | nil, l, _, _, _, _ => by simp [lastC]
  | node r2 l2 e2 h2, l, hl, hh, h1, h2' => by
    obtain ⟨a1, a2, a3, a4⟩ := hh
    have := lastC_le a3 a4 a1 a2
    have hw := lastN_w h2 r2 l2 e2
    rw [w_eq] at h1 h2'
    have := linkD_le hl (lastN_bal (r := r2) (e := e2) a3 a4) (by omega) (by omega)
    simp only [lastC, height]
    omega
theorem mergeC_le : ∀ {a b : BT E}, a.Bal → b.Bal → a.w ≤ 3 * b.w → b.w ≤ 3 * a.w → mergeC a b ≤ 81 * a.height + 81
  | nil, b, _, _, _, _ => by simp [mergeC]
  | node r l e h, nil, _, _, _, _ => by simp [mergeC]
  | node r l e h, node r2 l2 e2 h2, ha, hb, h1, h2' => by
    obtain ⟨a1, a2, a3, a4⟩ := ha
    have := lastC_le a3 a4 a1 a2
    have hw := lastN_w h r l e
    rw [w_eq r l h e] at h1 h2'
    have := linkD_le (lastN_bal (r := r) (e := e) a3 a4) hb (by omega) (by omega)
    simp only [mergeC, height]
    omega
theorem delC_le {e : E} : ∀ {s : BT E}, s.Bal → s.delC cmp e ≤ 81 * s.height + 83
  | nil, _ => by simp [delC]
  | node r l f h, ⟨h1, h2, h3, h4⟩ => by
    simp only [height]
    by_cases c1 : cmp e f < 0
    · have := delC_le (e := e) h3
      cases hx : l.del cmp e with
      | none =>
        have : delC cmp e (node r l f h) = 1 + l.delC cmp e + 0 := by rw [delC, if_pos c1, hx]
        omega
      | some x =>
        have hC : delC cmp e (node r l f h) = 1 + l.delC cmp e + (6 + 37 * linkD x.1 h) := by rw [delC, if_pos c1, hx]
        have hs := del_size cmp hx
        have := linkD_le (del_bal h3 hx) h4 (by simp only [w] at *; omega) (by simp only [w] at *; omega)
        omega
    · by_cases c2 : 0 < cmp e f
      · have := delC_le (e := e) h4
        cases hx : h.del cmp e with
        | none =>
          have : delC cmp e (node r l f h) = 1 + h.delC cmp e + 0 := by rw [delC, if_neg c1, if_pos c2, hx]
          omega
        | some x =>
          have hC : delC cmp e (node r l f h) = 1 + h.delC cmp e + (6 + 37 * linkD l x.1) := by rw [delC, if_neg c1, if_pos c2, hx]
          have hs := del_size cmp hx
          have := linkD_le h3 (del_bal h4 hx) (by simp only [w] at *; omega) (by simp only [w] at *; omega)
          omega
      · have hC : delC cmp e (node r l f h) = 2 + mergeC l h := by rw [delC, if_neg c1, if_neg c2]
        have := mergeC_le h3 h4 h1 h2
        omega
end BT
end Go.Sx

set_option linter.unusedVariables false
set_option linter.unusedSimpArgs false
namespace Go.Sx

/-! ### Trees as lists in order -/
structure CmpOk {E : Type} (cmp : E → E → Int) : Prop where
  swap : ∀ a b, cmp a b < 0 ↔ 0 < cmp b a
  trans : ∀ a b c, cmp a b < 0 → cmp b c < 0 → cmp a c < 0
  eqL : ∀ a b c, cmp a b = 0 → (cmp a c < 0 ↔ cmp b c < 0)
  eqR : ∀ a b c, cmp a b = 0 → (cmp c a < 0 ↔ cmp c b < 0)

section
variable {E : Type} {cmp : E → E → Int}
def Srt (cmp : E → E → Int) (l : List E) : Prop := l.Pairwise fun a b => cmp a b < 0
def insL (cmp : E → E → Int) (e : E) : List E → List E
  | [] => [e]
  | f :: l => if cmp e f < 0 then e :: f :: l else if 0 < cmp e f then f :: insL cmp e l else e :: l
def hasL (cmp : E → E → Int) (e : E) : List E → Bool
  | [] => false
  | f :: l => if cmp e f = 0 then true else hasL cmp e l
def delL (cmp : E → E → Int) (e : E) : List E → Option (List E × E)
  | [] => none
  | f :: l => if cmp e f = 0 then some (l, f) else (delL cmp e l).map fun x => (f :: x.1, x.2)
def findL (cmp : E → E → Int) (e : E) : List E → Option E
  | [] => none
  | f :: l => if cmp e f = 0 then some f else findL cmp e l
/-- How many stand ahead. -/
def rankL (cmp : E → E → Int) (e : E) : List E → Nat
  | [] => 0
  | f :: l => if 0 < cmp e f then rankL cmp e l + 1 else 0

variable (hc : CmpOk cmp)
include hc
theorem CmpOk.irr (a : E) : cmp a a = 0 := by
  have := hc.swap a a
  omega
theorem CmpOk.eq_symm {a b : E} (h : cmp a b = 0) : cmp b a = 0 := by
  have h1 := hc.swap a b
  have h2 := hc.swap b a
  omega
/-- All ahead of something that is ahead of e (or alike) are ahead of e. -/
theorem CmpOk.lt_of {a f e : E} (h1 : cmp a f < 0) (h2 : 0 ≤ cmp e f) : 0 < cmp e a := by
  rw [← hc.swap]
  by_cases h : cmp e f = 0
  · exact (hc.eqR e f a h).2 h1
  · exact hc.trans a f e h1 ((hc.swap f e).2 (by omega))
theorem CmpOk.gt_of {a f e : E} (h1 : cmp f a < 0) (h2 : cmp e f ≤ 0) : cmp e a < 0 := by
  by_cases h : cmp e f = 0
  · exact (hc.eqL e f a h).2 h1
  · exact hc.trans e f a (by omega) h1

omit hc in
theorem Srt.parts {A B : List E} {f : E} (h : Srt cmp (A ++ f :: B)) : Srt cmp A ∧ Srt cmp B ∧ (∀ a ∈ A, cmp a f < 0) ∧ (∀ b ∈ B, cmp f b < 0) ∧ ∀ a ∈ A, ∀ b ∈ B, cmp a b < 0 := by
  unfold Srt at h ⊢
  rw [List.pairwise_append, List.pairwise_cons] at h
  exact ⟨h.1, h.2.1.2, fun a ha => h.2.2 a ha f (by simp), h.2.1.1, fun a ha b hb => h.2.2 a ha b (by simp [hb])⟩
theorem Srt.join {A B : List E} {f : E} (hA : Srt cmp A) (hB : Srt cmp B) (h1 : ∀ a ∈ A, cmp a f < 0) (h2 : ∀ b ∈ B, cmp f b < 0) : Srt cmp (A ++ f :: B) := by
  unfold Srt at *
  rw [List.pairwise_append, List.pairwise_cons]
  refine ⟨hA, ⟨h2, hB⟩, fun a ha b hb => ?_⟩
  rcases List.mem_cons.1 hb with rfl | hb
  · exact h1 a ha
  · exact hc.trans a f b (h1 a ha) (h2 b hb)
omit hc in
theorem insL_mem {e x : E} : ∀ {l : List E}, x ∈ insL cmp e l → x = e ∨ x ∈ l
  | [], h => by simp [insL] at h; exact .inl h
  | f :: l, h => by
    unfold insL at h
    split at h
    · simpa using h
    · split at h
      · rcases List.mem_cons.1 h with rfl | h
        · simp
        · rcases insL_mem h with h | h <;> simp [h]
      · rcases List.mem_cons.1 h with rfl | h <;> simp [*]
theorem insL_srt {e : E} : ∀ {l : List E}, Srt cmp l → Srt cmp (insL cmp e l)
  | [], _ => by simp [insL, Srt]
  | f :: l, h => by
    have hp := Srt.parts (A := []) h
    unfold insL
    split
    · rename_i h1
      refine Srt.join hc (A := []) List.Pairwise.nil h (by simp) fun b hb => ?_
      rcases List.mem_cons.1 hb with rfl | hb
      · exact h1
      · exact hc.trans e f b h1 (hp.2.2.2.1 b hb)
    · split
      · rename_i h1 h2
        refine Srt.join hc (A := []) List.Pairwise.nil (insL_srt hp.2.1) (by simp) fun b hb => ?_
        rcases insL_mem hb with rfl | hb
        · exact (hc.swap f b).2 h2
        · exact hp.2.2.2.1 b hb
      · rename_i h1 h2
        have h0 : cmp e f = 0 := by omega
        exact Srt.join hc (A := []) List.Pairwise.nil hp.2.1 (by simp) fun b hb => (hc.eqL e f b h0).2 (hp.2.2.2.1 b hb)

theorem insL_app {e f : E} {A B : List E} (hA : ∀ a ∈ A, cmp a f < 0) : insL cmp e (A ++ f :: B) = if cmp e f < 0 then insL cmp e A ++ f :: B else if 0 < cmp e f then A ++ f :: insL cmp e B else A ++ e :: B := by
  induction A with
  | nil =>
    simp only [List.nil_append]
    by_cases h1 : cmp e f < 0
    · rw [if_pos h1]; show insL cmp e (f :: B) = e :: f :: B; rw [insL, if_pos h1]
    · by_cases h2 : 0 < cmp e f
      · rw [if_neg h1, if_pos h2, insL, if_neg h1, if_pos h2]
      · rw [if_neg h1, if_neg h2, insL, if_neg h1, if_neg h2]
  | cons a A ih =>
    have ih := ih fun x hx => hA x (List.mem_cons_of_mem _ hx)
    have haf := hA a (by simp)
    simp only [List.cons_append]
    by_cases h1 : cmp e f < 0
    · rw [if_pos h1] at ih ⊢
      conv => lhs; rw [insL]
      conv => rhs; rw [insL]
      split
      · rfl
      · split
        · rw [ih]; rfl
        · rfl
    · have ha : 0 < cmp e a := hc.lt_of haf (by omega)
      rw [if_neg h1] at ih ⊢
      rw [insL, if_neg (by omega), if_pos ha, ih]
      split <;> rfl
theorem hasL_app {e f : E} {A B : List E} (hA : ∀ a ∈ A, cmp a f < 0) (hB : ∀ b ∈ B, cmp f b < 0) : hasL cmp e (A ++ f :: B) = if cmp e f < 0 then hasL cmp e A else if 0 < cmp e f then hasL cmp e B else true := by
  have hBno : cmp e f < 0 → hasL cmp e B = false := fun h => by
    clear hA
    induction B with
    | nil => rfl
    | cons b B ih =>
      have : cmp e b < 0 := hc.gt_of (hB b (by simp)) (by omega)
      rw [hasL, if_neg (by omega)]; exact ih fun x hx => hB x (List.mem_cons_of_mem _ hx)
  induction A with
  | nil =>
    simp only [List.nil_append, hasL]
    by_cases h1 : cmp e f < 0
    · rw [if_neg (by omega), if_pos h1]; exact hBno h1
    · by_cases h2 : 0 < cmp e f
      · rw [if_neg (by omega), if_neg h1, if_pos h2]
      · rw [if_pos (by omega), if_neg h1, if_neg h2]
  | cons a A ih =>
    have ih := ih fun x hx => hA x (List.mem_cons_of_mem _ hx)
    have haf := hA a (by simp)
    simp only [List.cons_append]
    rw [hasL, ih]
    by_cases h1 : cmp e f < 0
    · simp only [if_pos h1, hasL]
    · have ha : 0 < cmp e a := hc.lt_of haf (by omega)
      simp only [if_neg h1]; rw [if_neg (by omega)]
theorem delL_app {e f : E} {A B : List E} (hA : ∀ a ∈ A, cmp a f < 0) (hB : ∀ b ∈ B, cmp f b < 0) : delL cmp e (A ++ f :: B) = if cmp e f < 0 then (delL cmp e A).map (fun x => (x.1 ++ f :: B, x.2)) else if 0 < cmp e f then (delL cmp e B).map (fun x => (A ++ f :: x.1, x.2)) else some (A ++ B, f) := by
  have hBno : cmp e f < 0 → delL cmp e B = none := fun h => by
    clear hA
    induction B with
    | nil => rfl
    | cons b B ih =>
      have : cmp e b < 0 := hc.gt_of (hB b (by simp)) (by omega)
      rw [delL, if_neg (by omega), ih fun x hx => hB x (List.mem_cons_of_mem _ hx)]; rfl
  induction A with
  | nil =>
    simp only [List.nil_append, delL]
    by_cases h1 : cmp e f < 0
    · rw [if_neg (by omega), if_pos h1, hBno h1]; rfl
    · by_cases h2 : 0 < cmp e f
      · rw [if_neg (by omega), if_neg h1, if_pos h2]
      · rw [if_pos (by omega), if_neg h1, if_neg h2]
  | cons a A ih =>
    have ih := ih fun x hx => hA x (List.mem_cons_of_mem _ hx)
    have haf := hA a (by simp)
    simp only [List.cons_append]
    rw [delL, ih]
    by_cases h1 : cmp e f < 0
    · simp only [if_pos h1, delL]
      split
      · rfl
      · cases delL cmp e A <;> rfl
    · have ha : 0 < cmp e a := hc.lt_of haf (by omega)
      simp only [if_neg h1]; rw [if_neg (by omega)]
      split
      · cases delL cmp e B <;> rfl
      · rfl
theorem findL_app {e f : E} {A B : List E} (hA : ∀ a ∈ A, cmp a f < 0) (hB : ∀ b ∈ B, cmp f b < 0) : findL cmp e (A ++ f :: B) = if cmp e f = 0 then some f else if cmp e f < 0 then findL cmp e A else findL cmp e B := by
  have hBno : cmp e f < 0 → findL cmp e B = none := fun h => by
    clear hA
    induction B with
    | nil => rfl
    | cons b B ih =>
      have : cmp e b < 0 := hc.gt_of (hB b (by simp)) (by omega)
      rw [findL, if_neg (by omega), ih fun x hx => hB x (List.mem_cons_of_mem _ hx)]
  induction A with
  | nil =>
    simp only [List.nil_append, findL]
    split
    · rfl
    · split
      · rename_i h1; rw [hBno h1]
      · rfl
  | cons a A ih =>
    have ih := ih fun x hx => hA x (List.mem_cons_of_mem _ hx)
    have haf := hA a (by simp)
    simp only [List.cons_append]
    rw [findL, ih]
    by_cases h1 : cmp e f < 0
    · rw [if_neg (show ¬ cmp e f = 0 by omega), if_pos h1, if_neg (show ¬ cmp e f = 0 by omega), if_pos h1, findL]
    · have ha : 0 < cmp e a := hc.lt_of haf (by omega)
      rw [if_neg (show ¬ cmp e a = 0 by omega)]
      split
      · rfl
      · first | rfl | rw [if_neg h1, if_neg h1]
theorem rankL_app {e f : E} {A B : List E} (hA : ∀ a ∈ A, cmp a f < 0) : rankL cmp e (A ++ f :: B) = if cmp e f ≤ 0 then rankL cmp e A else A.length + 1 + rankL cmp e B := by
  induction A with
  | nil =>
    simp only [List.nil_append, rankL]
    by_cases h1 : cmp e f ≤ 0
    · rw [if_neg (by omega), if_pos h1]
    · rw [if_pos (by omega), if_neg h1]; simp; omega
  | cons a A ih =>
    have ih := ih fun x hx => hA x (List.mem_cons_of_mem _ hx)
    have haf := hA a (by simp)
    simp only [List.cons_append]
    rw [rankL, ih]
    by_cases h1 : cmp e f ≤ 0
    · simp only [if_pos h1, rankL]
    · have ha : 0 < cmp e a := hc.lt_of haf (by omega)
      simp only [if_neg h1]; rw [if_pos ha]; simp; omega

namespace BT
theorem ins_elems {m : Rf} {e : E} : ∀ {s : BT E}, Srt cmp s.elems → (s.ins cmp m e).elems = insL cmp e s.elems
  | nil, _ => rfl
  | node r l f h, hs => by
    obtain ⟨h1, h2, h3, h4, _⟩ := Srt.parts hs
    rw [elems, insL_app hc h3, ins]
    split
    · rw [link_elems, ins_elems h1]
    · split
      · rw [link_elems, ins_elems h2]
      · rfl
theorem has_elems {e : E} : ∀ {s : BT E}, Srt cmp s.elems → s.has cmp e = hasL cmp e s.elems
  | nil, _ => rfl
  | node r l f h, hs => by
    obtain ⟨h1, h2, h3, h4, _⟩ := Srt.parts hs
    rw [elems, hasL_app hc h3 h4, has, has_elems h1, has_elems h2]
theorem del_elems {e : E} : ∀ {s : BT E}, Srt cmp s.elems → (s.del cmp e).map (fun x => (x.1.elems, x.2)) = delL cmp e s.elems
  | nil, _ => rfl
  | node r l f h, hs => by
    obtain ⟨h1, h2, h3, h4, _⟩ := Srt.parts hs
    rw [elems, delL_app hc h3 h4, del, ← del_elems h1, ← del_elems h2]
    split
    · cases l.del cmp e <;> simp [link_elems]
    · split
      · cases h.del cmp e <;> simp [link_elems]
      · simp [merge_elems]
theorem find_elems {e : E} : ∀ {s : BT E}, Srt cmp s.elems → s.find cmp e = findL cmp e s.elems
  | nil, _ => rfl
  | node r l f h, hs => by
    obtain ⟨h1, h2, h3, h4, _⟩ := Srt.parts hs
    rw [elems, findL_app hc h3 h4, find, find_elems h1, find_elems h2]
theorem rank_elems {e : E} : ∀ {s : BT E}, Srt cmp s.elems → s.rank cmp e = rankL cmp e s.elems
  | nil, _ => rfl
  | node r l f h, hs => by
    obtain ⟨h1, h2, h3, h4, _⟩ := Srt.parts hs
    rw [elems, rankL_app hc h3, rank, rank_elems h1, rank_elems h2, w, size_elems]
end BT
omit hc in
theorem BT.at_elems {E : Type} : ∀ (s : BT E) (i : Nat), s.at_ i = s.elems[i]?
  | .nil, i => by simp [BT.at_, BT.elems]
  | .node r l f h, i => by
    rw [BT.at_, BT.elems, BT.size_elems, BT.at_elems l, BT.at_elems h]
    by_cases h1 : i = l.elems.length
    · rw [if_pos h1, h1, List.getElem?_append_right (Nat.le_refl _)]; simp
    · rw [if_neg h1]
      by_cases h2 : i < l.elems.length
      · rw [if_pos h2, List.getElem?_append_left h2]
      · rw [if_neg h2, List.getElem?_append_right (by omega)]
        obtain ⟨k, hk⟩ : ∃ k, i - l.elems.length = k + 1 := ⟨i - l.elems.length - 1, by omega⟩
        rw [hk, List.getElem?_cons_succ]; congr 1; omega
theorem delL_srt {e : E} : ∀ {l : List E} {x : List E × E}, Srt cmp l → delL cmp e l = some x → Srt cmp x.1 ∧ (∀ y ∈ x.1, y ∈ l) ∧ x.2 ∈ l ∧ cmp e x.2 = 0 ∧ l.length = x.1.length + 1
  | [], x, _, h => by cases h
  | f :: l, x, hs, h => by
    have hp := Srt.parts (A := []) hs
    rw [delL] at h
    split at h
    · rename_i h0; injection h with h; subst h; exact ⟨hp.2.1, fun y hy => by simp [hy], by simp, h0, rfl⟩
    · cases hd : delL cmp e l with
      | none => rw [hd] at h; cases h
      | some y =>
        rw [hd] at h; injection h with h; subst h
        obtain ⟨k1, k2, k3, k4, k5⟩ := delL_srt hp.2.1 hd
        refine ⟨Srt.join hc (A := []) List.Pairwise.nil k1 (by simp) fun b hb => hp.2.2.2.1 b (k2 b hb), fun y' hy' => ?_, by simp [k3], k4, by simp [k5]⟩
        rcases List.mem_cons.1 hy' with rfl | hy'
        · simp
        · simp [k2 _ hy']
omit hc in
theorem insL_len {e : E} : ∀ (l : List E), Srt cmp l → CmpOk cmp → (insL cmp e l).length = l.length + (if hasL cmp e l then 0 else 1)
  | [], _, _ => rfl
  | f :: l, hs, hc => by
    have hp := Srt.parts (A := []) hs
    unfold insL hasL
    by_cases h1 : cmp e f < 0
    · rw [if_pos h1, if_neg (show ¬ cmp e f = 0 by omega)]
      have : hasL cmp e l = false := by
        have := hasL_app hc (e := e) (f := f) (A := []) (B := l) (by simp) hp.2.2.2.1
        rw [if_pos h1] at this
        simp only [List.nil_append, hasL] at this
        rw [if_neg (by omega)] at this; exact this
      simp [this]
    · rw [if_neg h1]
      by_cases h2 : 0 < cmp e f
      · rw [if_pos h2, if_neg (show ¬ cmp e f = 0 by omega), List.length_cons, insL_len l hp.2.1 hc, List.length_cons]; omega
      · rw [if_neg h2, if_pos (show cmp e f = 0 by omega)]; simp
end
end Go.Sx

set_option linter.unusedVariables false
set_option maxHeartbeats 1000000
namespace Go.Sx
open GI
def hgt (n : Nat) : Nat := 2 + 3 * Nat.log2 (n + 1)
theorem height_le {E : Type} {s : BT E} (hb : s.Bal) : s.height ≤ hgt s.size := by
  unfold hgt
  rcases Nat.lt_or_ge s.height (3 * (Nat.log2 (s.size + 1) + 1)) with h | h
  · omega
  · have := BT.height_pow _ hb h
    have h2 := Nat.lt_log2_self (n := s.size + 1)
    simp only [BT.w] at this
    omega
theorem hgt_mono {a b : Nat} (h : a ≤ b) : hgt a ≤ hgt b := by
  unfold hgt
  have : Nat.log2 (a + 1) ≤ Nat.log2 (b + 1) := by
    rcases Nat.lt_or_ge (Nat.log2 (b + 1)) (Nat.log2 (a + 1)) with h2 | h2
    · have h3 := Nat.lt_log2_self (n := b + 1)
      have h4 := Nat.log2_self_le (n := a + 1) (by omega)
      have : 2 ^ (Nat.log2 (b + 1) + 1) ≤ 2 ^ Nat.log2 (a + 1) := Nat.pow_le_pow_right (by omega) h2
      omega
    · exact h2
  omega

/-! What Between visits -/
theorem btwC_left {E : Type} : ∀ (s : BT E) (i j : Int), i ≤ 0 → btwC s i j ≤ 1 + 3 * s.height
  | .nil, i, j, h => by simp [btwC]
  | .node r l e g, i, j, h => by
    have hs : ((BT.node r l e g).size : Int) = (l.size : Int) + 1 + g.size := by simp only [BT.size]; omega
    unfold btwC
    simp only [BT.height]
    split
    · omega
    · rename_i c1
      split
      · omega
      · rename_i c2
        rw [hs] at c1 c2
        by_cases hj : j ≤ (l.size : Int) + 1
        · have hl := btwC_left l i j h
          have hg : btwC g (i - l.size - 1) (j - l.size - 1) ≤ 1 := by
            cases g with
            | nil => simp [btwC]
            | node r l e g => rw [btwC, if_pos (by omega)]; exact Nat.le_refl _
          omega
        · have hg := btwC_left g (i - l.size - 1) (j - l.size - 1) (by omega)
          have hl : btwC l i j ≤ 1 := by
            cases l with
            | nil => simp [btwC]
            | node r l e g =>
              rw [btwC]
              split
              · exact Nat.le_refl _
              · rw [if_pos ⟨h, by omega⟩]; exact Nat.le_refl _
          omega
theorem btwC_right {E : Type} : ∀ (s : BT E) (i j : Int), j ≥ s.size → btwC s i j ≤ 1 + 3 * s.height
  | .nil, i, j, h => by simp [btwC]
  | .node r l e g, i, j, h => by
    have hs : ((BT.node r l e g).size : Int) = (l.size : Int) + 1 + g.size := by simp only [BT.size]; omega
    rw [hs] at h
    unfold btwC
    simp only [BT.height]
    split
    · omega
    · rename_i c1
      split
      · omega
      · rename_i c2
        rw [hs] at c1 c2
        by_cases hi : i ≤ (l.size : Int)
        · have hl := btwC_right l i j (by omega)
          have hg : btwC g (i - l.size - 1) (j - l.size - 1) ≤ 1 := by
            cases g with
            | nil => simp [btwC]
            | node r l e g =>
              rw [btwC]
              split
              · exact Nat.le_refl _
              · rw [if_pos ⟨by omega, by omega⟩]; exact Nat.le_refl _
          omega
        · have hg := btwC_right g (i - l.size - 1) (j - l.size - 1) (by omega)
          have hl : btwC l i j ≤ 1 := by
            cases l with
            | nil => simp [btwC]
            | node r l e g => rw [btwC, if_pos (by omega)]; exact Nat.le_refl _
          omega
theorem btwC_le {E : Type} : ∀ (s : BT E) (i j : Int), btwC s i j ≤ 1 + 6 * s.height
  | .nil, i, j => by simp [btwC]
  | .node r l e g, i, j => by
    have hs : ((BT.node r l e g).size : Int) = (l.size : Int) + 1 + g.size := by simp only [BT.size]; omega
    unfold btwC
    simp only [BT.height]
    split
    · omega
    · rename_i c1
      split
      · omega
      · rename_i c2
        rw [hs] at c1 c2
        by_cases hj : j ≤ (l.size : Int) + 1
        · have hl := btwC_le l i j
          have hg : btwC g (i - l.size - 1) (j - l.size - 1) ≤ 1 := by
            cases g with
            | nil => simp [btwC]
            | node r l e g => rw [btwC, if_pos (by omega)]; exact Nat.le_refl _
          omega
        · by_cases hi : i ≤ (l.size : Int)
          · have hl := btwC_right l i j (by omega)
            have hg := btwC_left g (i - l.size - 1) (j - l.size - 1) (by omega)
            omega
          · have hg := btwC_le g (i - l.size - 1) (j - l.size - 1)
            have hl : btwC l i j ≤ 1 := by
              cases l with
              | nil => simp [btwC]
              | node r l e g => rw [btwC, if_pos (by omega)]; exact Nat.le_refl _
            omega
end Go.Sx

set_option linter.unusedVariables false
set_option linter.unusedSimpArgs false
set_option maxHeartbeats 2000000
namespace Go.Sx
open Go.RowKit Asn
namespace GI
variable {E A : Type} {I : GI E A} {t q : Nat} {p : Px} {r0 : Rf} {σ σ' σ2 : Pool (Nd E A)} {n n1 n' : Nat}

/-! ### At, all, split, Join -/
structure Trees5 (I : GI E A) : Prop where
  base : I.Trees3
  At : ∀ t i, FnT I.cfg I.gAt [pa t 0, iV i] (I.atT t i)
  all : ∀ t r o, FnT I.cfg I.gall [pa t 0, ar r, slV o] (I.allT t r o)
  All : ∀ t, FnT I.cfg I.gAll [pa t 0] (I.AllT t)
  row : SlTy I.P I.tES I.tEl I.tE.C

def atO (I : GI E A) (l : List E) (i : Int) : E × Bool := optE I (if i < 0 then none else l[i.toNat]?)
theorem At_g (hI : I.Ty) (hG : I.Trees5) (i : Int) {s : BT E} (hs : I.Rep σ.look s) (hi : i < 4611686018427387904) : I.GS t p s.ref n n σ I.gAt [pa t 0, iV i] (eEB I) fun (x : E × Bool) σ' => x = atO I s.elems i ∧ Tch σ σ' No (2 * s.height) 0 := by
  refine GS.ok fun hO hv hn => GS.of hI (hG.At t i) (fun B => ?_)
  unfold atT
  refine GT.ite (fun hb => ?_) (fun hb => ?_)
  · have hb := of_decide_eq_true hb
    exact GT.ret (H := eEB I) (I.zE, false) rfl ⟨by unfold atO; rw [if_pos hb]; rfl, Tch.refl hv _ _⟩
  have hb := of_decide_eq_false hb
  have hat : atO I s.elems i = optE I (s.at_ i.toNat) := by unfold atO; rw [if_neg hb, BT.at_elems]
  rw [hat]
  refine GT.root hI closed_nil ?_
  refine GT.loop (fun x σ' => I.Rep σ'.look x.2 ∧ 0 ≤ x.1 ∧ x.1 ≤ i ∧ x.2.at_ x.1.toNat = s.at_ i.toNat ∧ ∃ k, k + 2 * x.2.height ≤ 2 * s.height ∧ Tch σ σ' No k 0) (fun x => x.2.size) ((i : Int), s) rfl ⟨hs, by simp only; omega, by simp, rfl, 0, by simp, Tch.refl hv _ _⟩ ?_
  rintro Γ ⟨j, s'⟩ σ1 ⟨k1, k0, k5, k2, k, k3, k4⟩ hcl hag
  simp only at k1 k0 k5 k2 k3 hag
  refine GT.ite (fun hb => ?_) (fun hb => ?_)
  · have hb : ¬ s'.ref.gen = 0 := by simpa using hb
    cases s' with
    | nil => exact absurd rfl hb
    | node r l f h =>
    refine GT.call hcl (get_g hI hG.base.base.base k1) ?_
    rintro x σ2 ⟨rfl, h2⟩
    have h12 := (k4.trans h2).no2
    have hr2 := h2.rep k1 No.rep
    refine GT.call hcl (get_g hI hG.base.base.base (s := l) hr2.2.2.1) ?_
    rintro x σ3 ⟨rfl, h3⟩
    have h13 := (h12.trans h3).no2
    have hr3 := h3.rep hr2 No.rep
    have hls : (I.ndOf l).size = (l.size : Int) := ndOf_size I _
    rw [hls]
    simp only [BT.height] at k3
    rw [BT.at_] at k2
    refine GT.ite (fun hb => ?_) (fun hb => ?_)
    · have hc : j = (l.size : Int) := eq_of_beq hb
      refine GT.ret (H := eEB I) (f, true) rfl ⟨?_, h13.mono (fun _ h => h) (by omega) (by omega)⟩
      rw [if_pos (by omega)] at k2
      rw [← k2]; rfl
    · have hc : ¬ j = (l.size : Int) := fun hh => by rw [hh] at hb; simp at hb
      rw [if_neg (by omega)] at k2
      refine GT.ite (fun hb2 => ?_) (fun hb2 => ?_)
      · have hc2 : j < (l.size : Int) := of_decide_eq_true hb2
        rw [if_pos (by omega)] at k2
        exact hag (j, l) _ _ rfl ⟨hr3.2.2.1, k0, k5, k2, k + 2, by simp only; omega, h13⟩ (by simp only [BT.size]; omega)
      · have hc2 : ¬ j < (l.size : Int) := of_decide_eq_false hb2
        rw [if_neg (by omega)] at k2
        have hwr : wr (j - wr ((l.size : Int) + 1)) = j - ((l.size : Int) + 1) := by rw [wr_id (n := (l.size : Int) + 1) (by omega) (by omega)]; exact wr_id (by omega) (by omega)
        rw [hwr]
        have hjn : (j - ((l.size : Int) + 1)).toNat = j.toNat - (l.size + 1) := by omega
        exact hag (j - ((l.size : Int) + 1), h) _ _ rfl ⟨hr3.2.2.2, by simp only; omega, by simp only; omega, by simp only; rw [hjn]; exact k2, k + 2, by simp only; omega, h13⟩ (by simp only [BT.size]; omega)
  · have hb : s'.ref.gen = 0 := by simpa using hb
    obtain rfl := (Rep.ref_gen I k1).1 hb
    refine GT.ret (H := eEB I) (I.zE, false) rfl ⟨?_, k4.mono (fun _ h => h) (by omega) rfl⟩
    rw [← k2]; rfl

/-- A tree's head and its pool, as an assertion. -/
def trx (I : GI E A) (t : Nat) (p : Px) (r0 : Rf) (σ : Pool (Nd E A)) (n : Nat) : Asn := ⟨fun F w => I.GAt t p r0 σ n F w, fun h hk => h.keep hk, fun h => h.lt⟩
theorem GS.fn {f : FuncId} {args : List Value} {H : Enc} {Q : H.T → Pool (Nd E A) → Prop} (h : I.GS t p r0 n n' σ f args H Q) : Fn I.P f args (I.trx t p r0 σ n) H (Pool (Nd E A)) Q fun _ σ' => I.trx t p r0 σ' n' := fun F w hG =>
  (h F w hG).mono fun v F1 w1 _ ⟨x, hv, σ', h1, h2⟩ => ⟨x, σ', hv, h2, h1⟩
theorem GR.fn {f : FuncId} {args : List Value} {H : Enc} {Q : H.T → Rf → Pool (Nd E A) → Prop} (h : I.GR t p r0 n n' σ f args H Q) : Fn I.P f args (I.trx t p r0 σ n) H (Rf × Pool (Nd E A)) (fun x y => Q x y.1 y.2) fun _ y => I.trx t p y.1 y.2 n' := fun F w hG =>
  (h F w hG).mono fun v F1 w1 _ ⟨x, hv, r', σ', h1, h2⟩ => ⟨x, (r', σ'), hv, h2, h1⟩
theorem Fn.gs {f : FuncId} {args : List Value} {H : Enc} {Q : H.T → Pool (Nd E A) → Prop} (h : Fn I.P f args (I.trx t p r0 σ n) H (Pool (Nd E A)) Q fun _ σ' => I.trx t p r0 σ' n') : I.GS t p r0 n n' σ f args H Q := fun F w hG =>
  (h F w hG).mono fun v F1 w1 _ ⟨x, σ', hv, h2, h1⟩ => ⟨x, hv, σ', h1, h2⟩
theorem cfg_P : I.cfg.P = I.P := rfl

theorem all_fn (hI : I.Ty) (hG : I.Trees5) : ∀ {s : BT E} {σ : Pool (Nd E A)} {o : Sl} {xs : List E}, I.Rep σ.look s → xs.length + s.size ≤ 2147483648 →
    Fn I.P I.gall [pa t 0, ar s.ref, slV o] ((own I.tEl I.tE.C o xs).sep (I.trx t p r0 σ n)) eSl (Pool (Nd E A)) (fun _ σ' => Tch σ σ' No s.size 0) fun y σ' => (own I.tEl I.tE.C y (xs ++ s.elems)).sep (I.trx t p r0 σ' n) := by
  intro s
  induction s with
  | nil =>
    intro σ o xs hs hb
    refine Fn.of cfg_P hI.pool.good.ok hI.pool.good.mix (hG.all t _ o) (fun B => ?_)
    unfold allT
    refine AT.ite (fun _ => ?_) (fun hb => absurd hb (by simp [BT.ref]))
    intro hΓ F w hA hl
    have hA0 := hA
    obtain ⟨F1, F2, _, hd, h1, h2⟩ := hA
    have hv : wr σ.visits = σ.visits := by obtain ⟨_, _, _, _, _, _, h⟩ := h2; exact h
    exact AT.ret (A := (own I.tEl I.tE.C o xs).sep (I.trx t p r0 σ n)) (H := eSl) o σ rfl (Tch.refl hv _ _) (by rw [BT.elems, List.append_nil]; exact Imp.refl _) hΓ F w hA0 hl
  | node r l e h ihl ihh =>
    intro σ o xs hs hb
    simp only [BT.size] at hb
    refine Fn.of cfg_P hI.pool.good.ok hI.pool.good.mix (hG.all t _ o) (fun B => ?_)
    unfold allT
    refine AT.ite (fun hb => absurd hb (by simp [BT.ref, hs.2.1])) (fun _ => ?_)
    refine AT.call0 ((get_g hI hG.base.base.base hs).fn.frameL _) ?_
    rintro x σ1 ⟨rfl, h1⟩
    obtain ⟨k1, k2, k3, k4⟩ := h1.rep hs No.rep
    refine AT.call (ihl k3 (by omega)) fun s1 σ2 h2 => ?_
    refine AT.keepApp (AT.app (ys := [e]) hG.row rfl (by simp [flat, ndOf]) (by simp; rw [← BT.size_elems]; omega) fun y => ?_) cut_none
    refine AT.call (ihh (h2.rep k4 No.rep) (by simp; rw [← BT.size_elems]; omega)) fun y2 σ3 h3 => ?_
    refine AT.endS (AT.ret (H := eSl) y2 σ3 rfl (((h1.trans h2).no2.trans h3).no2.mono (fun _ h => h) (by simp only [BT.size]; omega) rfl) ?_)
    rw [BT.elems, List.append_assoc, List.append_assoc]; exact Imp.refl _
theorem All_fn (hI : I.Ty) (hG : I.Trees5) {s : BT E} (hs : I.Rep σ.look s) (hb : s.size ≤ 2147483648) : Fn I.P I.gAll [pa t 0] (I.trx t p s.ref σ n) eSl (Pool (Nd E A)) (fun _ σ' => Tch σ σ' No s.size 0) fun y σ' => (own I.tEl I.tE.C y s.elems).sep (I.trx t p s.ref σ' n) := by
  refine Fn.of cfg_P hI.pool.good.ok hI.pool.good.mix (hG.All t) (fun B => ?_)
  unfold AllT
  refine AT.ld (H := eRef) s.ref (fun F w hA => ld_root hI hA) ?_
  refine AT.imp own_nil (AT.call0 (all_fn hI hG hs (by simpa using hb)) fun y σ' h => ?_)
  exact AT.ret (H := eSl) y σ' rfl h (Imp.refl _)
end GI

/-! Parting a tree -/
namespace BT
variable {E : Type} (cmp : E → E → Int)
def split (e : E) : BT E → BT E × BT E
  | nil => (nil, nil)
  | node r l f h => if cmp f e < 0 then (link l r f (h.split e).1, (h.split e).2) else ((l.split e).1, link (l.split e).2 r f h)
variable {cmp}
theorem split_elems (e : E) : ∀ s : BT E, (s.split cmp e).1.elems ++ (s.split cmp e).2.elems = s.elems
  | nil => rfl
  | node r l f h => by
    have h1 := split_elems e l
    have h2 := split_elems e h
    rw [split]
    split
    · simp only [link_elems, elems, List.append_assoc, List.cons_append, h2]
    · simp only [link_elems, elems]
      rw [← List.append_assoc, h1]
theorem split_refs (e : E) : ∀ s : BT E, (s.split cmp e).1.refs ++ (s.split cmp e).2.refs = s.refs
  | nil => rfl
  | node r l f h => by
    have h1 := split_refs e l
    have h2 := split_refs e h
    rw [split]
    split
    · simp only [link_refs, refs, List.append_assoc, List.cons_append, h2]
    · simp only [link_refs, refs]
      rw [← List.append_assoc, h1]
theorem split_size (e : E) (s : BT E) : (s.split cmp e).1.size + (s.split cmp e).2.size = s.size := by
  have := congrArg List.length (split_refs (cmp := cmp) e s)
  rw [List.length_append] at this
  rw [size_refs, size_refs (s.split cmp e).2, size_refs s]; omega
end BT
namespace GI
variable {E A : Type} {I : GI E A} {t q : Nat} {p : Px} {r0 : Rf} {σ σ' σ2 : Pool (Nd E A)} {n n1 n' : Nat}
structure Trees6 (I : GI E A) : Prop where
  base : I.Trees5
  m : I.TreesM
  split : ∀ t r e, FnT I.cfg I.gsplit [pa t 0, ar r, I.tE.val e] (I.splitT t r e)
  Split : ∀ t e, FnT I.cfg I.gSplit [pa t 0, I.tE.val e] (I.SplitT t e)
  Join : ∀ t o, FnT I.cfg I.gJoin [pa t 0, pa o 0] (I.JoinT t o)

theorem split_g (hI : I.Ty) (hG : I.Trees6) (e : E) : ∀ {s : BT E} {σ : Pool (Nd E A)}, I.Rep σ.look s → s.refs.Nodup → s.size < 288230376151711744 →
    I.GS t p r0 n n σ I.gsplit [pa t 0, ar s.ref, I.tE.val e] (eTup2 eRef eRef) fun (x : Rf × Rf) σ' => x = ((s.split I.cmp e).1.ref, (s.split I.cmp e).2.ref) ∧ (∃ c, Tch σ σ' (fun q => q ∈ s.refs) c 0) ∧ I.Rep σ'.look (s.split I.cmp e).1 ∧ I.Rep σ'.look (s.split I.cmp e).2 := by
  intro s
  induction s with
  | nil =>
    intro σ hs _ _
    refine GS.ok fun hO hv hn => GS.of hI (hG.split t _ e) (fun B => ?_)
    unfold splitT
    refine GT.ite (fun _ => ?_) (fun hb => absurd hb (by simp [BT.ref]))
    exact GT.endS (GT.ret (H := eTup2 eRef eRef) ((⟨0, 0⟩ : Rf), (⟨0, 0⟩ : Rf)) rfl ⟨rfl, ⟨0, Tch.refl hv _ _⟩, trivial, trivial⟩)
  | node r l f h ihl ihh =>
    intro σ hs hnd hsz
    refine GS.of hI (hG.split t _ e) (fun B => ?_)
    unfold splitT
    simp only [BT.size] at hsz
    have hnd' := hnd
    rw [BT.refs, List.nodup_append, List.nodup_cons] at hnd'
    obtain ⟨n1, ⟨n2, n3⟩, n4⟩ := hnd'
    refine GT.ite (fun hb => absurd hb (by simp [BT.ref, hs.2.1])) (fun _ => ?_)
    refine GT.call closed_nil (get_g hI hG.base.base.base.base hs) ?_
    rintro x σ1 ⟨rfl, h1⟩
    obtain ⟨k1, k2, k3, k4⟩ := h1.rep hs No.rep
    refine GT.ite (fun hb => ?_) (fun hb => ?_)
    · have hc : I.cmp f e < 0 := of_decide_eq_true hb
      refine GT.call closed_nil (ihh k4 n3 (by omega)) ?_
      rintro ⟨x1, x2⟩ σ2 ⟨hx, ⟨c2, h2⟩, a1, a2⟩
      injection hx with hx1 hx2
      subst hx1 hx2
      have hrl : r ∉ l.refs := fun hm => n4 r hm r (by simp) rfl
      have hsr := BT.split_refs (cmp := I.cmp) e h
      have hss := BT.split_size (cmp := I.cmp) e h
      have hr2 : σ2.look r = some (I.ndOf (.node r l f h)) := by rw [h2.look r n2]; exact k1
      have hlk : (l.refs ++ r :: (h.split I.cmp e).1.refs).Nodup := by
        rw [List.nodup_append, List.nodup_cons]
        have hsub : ∀ q, q ∈ (h.split I.cmp e).1.refs → q ∈ h.refs := fun q hq => by rw [← hsr]; exact List.mem_append_left _ hq
        refine ⟨n1, ⟨fun hm => n2 (hsub r hm), ?_⟩, fun a ha b hb => ?_⟩
        · rw [← hsr, List.nodup_append] at n3; exact n3.1
        · rcases List.mem_cons.1 hb with rfl | hb
          · exact n4 a ha b (by simp)
          · exact n4 a ha b (by simp [hsub b hb])
      refine GT.callR closed_nil (link_g hI hG.base.base.base.base _ (Nat.le_refl _) (h2.rep k3 fun q hq hq2 => n4 q hq q (by simp [hq2]) rfl) a1 hr2 k2 hlk (by omega)) ?_
      rintro y σ3 ⟨rfl, h3, h4⟩
      have hb2 : ∀ q ∈ (h.split I.cmp e).2.refs, ¬ q ∈ l.refs ++ r :: (h.split I.cmp e).1.refs := fun q hq hm => by
        have hqh : q ∈ h.refs := by rw [← hsr]; exact List.mem_append_right _ hq
        rcases List.mem_append.1 hm with hm | hm
        · exact n4 q hm q (by simp [hqh]) rfl
        · rcases List.mem_cons.1 hm with rfl | hm
          · exact n2 hqh
          · rw [← hsr, List.nodup_append] at n3
            exact n3.2.2 q hm q hq rfl
      refine GT.endS (GT.ret (H := eTup2 eRef eRef) ((BT.link l r f (h.split I.cmp e).1).ref, (h.split I.cmp e).2.ref) rfl ⟨?_, ⟨_, ((h1.trans h2).trans h3).mono (fun q hq => ?_) (Nat.le_refl _) (by omega)⟩, ?_, ?_⟩)
      · rw [BT.split, if_pos hc]; rfl
      · rcases hq with (hq | hq) | hq
        · exact hq.elim
        · rw [BT.refs]; simp [hq]
        · rcases List.mem_append.1 hq with hq | hq
          · rw [BT.refs]; simp [hq]
          · rcases List.mem_cons.1 hq with rfl | hq
            · rw [BT.refs]; simp
            · have : q ∈ h.refs := by rw [← hsr]; exact List.mem_append_left _ hq
              rw [BT.refs]; simp [this]
      · rw [BT.split, if_pos hc]; exact h4
      · rw [BT.split, if_pos hc]; exact h3.rep a2 hb2
    · have hc : ¬ I.cmp f e < 0 := of_decide_eq_false hb
      refine GT.call closed_nil (ihl k3 n1 (by omega)) ?_
      rintro ⟨x1, x2⟩ σ2 ⟨hx, ⟨c2, h2⟩, a1, a2⟩
      injection hx with hx1 hx2
      subst hx1 hx2
      have hrl : r ∉ l.refs := fun hm => n4 r hm r (by simp) rfl
      have hsr := BT.split_refs (cmp := I.cmp) e l
      have hss := BT.split_size (cmp := I.cmp) e l
      have hr2 : σ2.look r = some (I.ndOf (.node r l f h)) := by rw [h2.look r hrl]; exact k1
      have hsub : ∀ q, q ∈ (l.split I.cmp e).2.refs → q ∈ l.refs := fun q hq => by rw [← hsr]; exact List.mem_append_right _ hq
      have hlk : ((l.split I.cmp e).2.refs ++ r :: h.refs).Nodup := by
        rw [List.nodup_append, List.nodup_cons]
        refine ⟨?_, ⟨n2, n3⟩, fun a ha b hb => n4 a (hsub a ha) b hb⟩
        rw [← hsr, List.nodup_append] at n1; exact n1.2.1
      refine GT.callR closed_nil (link_g hI hG.base.base.base.base _ (Nat.le_refl _) a2 (h2.rep k4 fun q hq hq2 => n4 q hq2 q (by simp [hq]) rfl) hr2 k2 hlk (by omega)) ?_
      rintro y σ3 ⟨rfl, h3, h4⟩
      have hb2 : ∀ q ∈ (l.split I.cmp e).1.refs, ¬ q ∈ (l.split I.cmp e).2.refs ++ r :: h.refs := fun q hq hm => by
        have hql : q ∈ l.refs := by rw [← hsr]; exact List.mem_append_left _ hq
        rcases List.mem_append.1 hm with hm | hm
        · rw [← hsr, List.nodup_append] at n1
          exact n1.2.2 q hq q hm rfl
        · exact n4 q hql q hm rfl
      refine GT.endS (GT.ret (H := eTup2 eRef eRef) ((l.split I.cmp e).1.ref, (BT.link (l.split I.cmp e).2 r f h).ref) rfl ⟨?_, ⟨_, ((h1.trans h2).trans h3).mono (fun q hq => ?_) (Nat.le_refl _) (by omega)⟩, ?_, ?_⟩)
      · rw [BT.split, if_neg hc]; rfl
      · rcases hq with (hq | hq) | hq
        · exact hq.elim
        · rw [BT.refs]; simp [hq]
        · rcases List.mem_append.1 hq with hq | hq
          · rw [BT.refs]; simp [hsub q hq]
          · rw [BT.refs]; exact List.mem_append_right _ hq
      · rw [BT.split, if_neg hc]; exact h3.rep a1 hb2
      · rw [BT.split, if_neg hc]; exact h4
end GI
end Go.Sx

set_option linter.unusedVariables false
set_option linter.unusedSimpArgs false
set_option maxHeartbeats 2000000
namespace Go.Sx
open Go.RowKit Asn

/-! ### Pointers that are alike -/
section
variable {P : Program} {S : BS} {w : World} {t e : TypeId} {x y : Operand} {a b k : Nat}
theorem run_ptrEqIn (d : Nat) (ht : P.underlying t = some (.pointer e)) (hs : sizeT P e = some (k + 1)) {r : Bool} (h : (sameAddr ⟨a, 0, none⟩ ⟨b, 0, none⟩).run P w = .ok r w) : (Op.equalIn (d + 1) t (.pointer (some ⟨a, 0, none⟩)) (.pointer (some ⟨b, 0, none⟩))).run P w = .ok r w := by
  simp only [Op.equalIn, Sem.run_bind, run_underlying ht, Result.andThen_ok, run_sizeOf hs]
  rw [if_pos (by simp)]; exact h
theorem run_ptrEq (ht : P.underlying t = some (.pointer e)) (hs : sizeT P e = some (k + 1)) {r : Bool} (h : (sameAddr ⟨a, 0, none⟩ ⟨b, 0, none⟩).run P w = .ok r w) : (Op.equal t (pa a 0) (pa b 0)).run P w = .ok r w := run_ptrEqIn 9999 ht hs h
theorem ld_ptrEql (ht : P.underlying t = some (.pointer e)) (hs : sizeT P e = some (k + 1)) {r : Bool} (h : ∀ w', (∀ b, S b → w'.heap[b]? = w.heap[b]?) → (sameAddr ⟨a, 0, none⟩ ⟨b, 0, none⟩).run P w' = .ok r w') : Ld P S w (do eqGuard BinOp.eql t x y (pa a 0) (pa b 0); binOp BinOp.eql t (pa a 0) (pa b 0)) (.bool r) := fun w' hk => by
  have h1 : eqGuard .eql t x y (pa a 0) (pa b 0) = pure () := rfl
  have h2 := run_ptrEq ht hs (h w' hk)
  rw [h1]
  have h3 : binOp .eql t (pa a 0) (pa b 0) = (do pure (.bool (← Op.equal t (pa a 0) (pa b 0)))) := rfl
  simp [h3, h2]
theorem ld_ptrNeq (ht : P.underlying t = some (.pointer e)) (hs : sizeT P e = some (k + 1)) {r : Bool} (h : ∀ w', (∀ b, S b → w'.heap[b]? = w.heap[b]?) → (sameAddr ⟨a, 0, none⟩ ⟨b, 0, none⟩).run P w' = .ok r w') : Ld P S w (do eqGuard BinOp.neq t x y (pa a 0) (pa b 0); binOp BinOp.neq t (pa a 0) (pa b 0)) (.bool (!r)) := fun w' hk => by
  have h1 : eqGuard .neq t x y (pa a 0) (pa b 0) = pure () := rfl
  have h2 := run_ptrEq ht hs (h w' hk)
  rw [h1]
  have h3 : binOp .neq t (pa a 0) (pa b 0) = (do pure (.bool (!(← Op.equal t (pa a 0) (pa b 0))))) := rfl
  simp [h3, h2]
theorem same_other {ca cb : Array Value} {ta tb : TypeId} (hne : a ≠ b) (hSa : S a) (hSb : S b) (ha : w.heap[a]? = some (.cells ca ta (0, 0))) (hb : w.heap[b]? = some (.cells cb tb (0, 0))) : ∀ w', (∀ b, S b → w'.heap[b]? = w.heap[b]?) → (sameAddr ⟨a, 0, none⟩ ⟨b, 0, none⟩).run P w' = .ok false w' := fun w' hk =>
  run_sameAddr_other w' (fun e => hne (by injection e)) (by rw [hk a hSa]; exact ha) (by rw [hk b hSb]; exact hb)
end

namespace GI
variable {E A : Type} {I : GI E A} {t o q p : Nat} {px0 : Px} {r0 r1 r2 : Rf} {σ σ' σ2 : Pool (Nd E A)} {n n1 n' : Nat}

/-! ### Two heads over one pool -/
def pxH (I : GI E A) (p o : Nat) (r2 : Rf) : Px where
  p := p
  G b := b = o
  K w := w.heap[o]? = some (.cells (headC p r2).toArray I.tTree (0, 0))
  stab w w' h hk := (h o rfl).trans hk
  lt w hk b hb := by subst hb; exact heap_lt hk
theorem trx_up (h1 : n ≤ n') (h2 : n' < 4294967296) : (I.trx t px0 r0 σ n).Imp (I.trx t px0 r0 σ n') := fun F w h => GAt.up h h1 h2
theorem swapH (hI : I.Ty) : (I.trx t (pxH I p o r2) r1 σ n).Imp (I.trx o (pxH I p t r1) r2 σ n) := by
  rintro F w ⟨Fp, rfl, h1, ⟨h2, hx1, hx2, hx3⟩, h3⟩
  refine ⟨Fp, ?_, h1, ⟨hx3, fun h => hx1 h.symm, fun b hb hF => ?_, h2⟩, h3⟩
  · funext b
    simp only [pxH, eq_iff_iff]
    constructor
    · rintro (h | h | h)
      · exact .inl h
      · exact .inr (.inr h)
      · exact .inr (.inl h)
    · rintro (h | h | h)
      · exact .inl h
      · exact .inr (.inr h)
      · exact .inr (.inl h)
  · have : b = t := hb
    subst this; exact head_not hI h1 h2 hF

section
variable {J : Jc} {Λ : Lam} {k : Tree}
theorem AT.setRoot {B : Nat} {Γ : List Again} {R : Value → BS → World → Prop} (hI : I.Ty) (r : Rf) (hk : AT ⟨I.P, B, Γ, R⟩ Lam.none (I.trx t px0 r σ n) k) : AT ⟨I.P, B, Γ, R⟩ Λ (I.trx t px0 r0 σ n) (.primU (Instr.storeAt I.tRef (pa t 1) (ar r)) [] k) := fun hΓ F w ha _ =>
  TT_root hI hΓ ha fun w1 h1 => hk hΓ F w1 h1 lam_none_ok
end
theorem ld_pool (hI : I.Ty) {F : BS} {w : World} (h : I.GAt t px0 r0 σ n F w) : Ld I.P F w (Instr.loadAt I.tPoolP (pa t 0)) (eBlk.enc px0.p) := by
  obtain ⟨Fp, rfl, h1, ⟨h2, hx⟩, h3⟩ := h
  exact ld_one (S := fun b => Fp b ∨ b = t ∨ px0.G b) (cs := headC px0.p r0) (.inr (.inl rfl)) h2 hI.aTP rfl

theorem Split_fn (hI : I.Ty) (hG : I.Trees6) (e : E) {s : BT E} (hs : I.Rep σ.look s) (hnd : s.refs.Nodup) (hsz : s.size < 288230376151711744) :
    Fn I.P I.gSplit [pa t 0, I.tE.val e] (I.trx t (px p) s.ref σ n) eBlk (Pool (Nd E A)) (fun _ σ' => (∃ c, Tch σ σ' (fun q => q ∈ s.refs) c 0) ∧ I.Rep σ'.look (s.split I.cmp e).1 ∧ I.Rep σ'.look (s.split I.cmp e).2)
      fun o σ' => I.trx t (pxH I p o (s.split I.cmp e).2.ref) (s.split I.cmp e).1.ref σ' n := by
  refine Fn.of cfg_P hI.pool.good.ok hI.pool.good.mix (hG.Split t e) fun B => ?_
  unfold SplitT
  refine AT.ldS (H := eRef) s.ref (fun F w hA => ld_root hI hA) ?_
  refine AT.call0 (split_g (p := px p) hI hG e hs hnd hsz).fn ?_
  rintro ⟨x1, x2⟩ σ' ⟨hx, h2⟩
  injection hx with hx1 hx2
  subst hx1 hx2
  refine AT.endS (AT.setRoot hI _ ?_)
  refine AT.ldS (H := eBlk) p (fun F w hA => ld_pool hI hA) ?_
  refine AT.box (cs := headC p (s.split I.cmp e).2.ref) fun b => AT.endS (AT.ret (H := eBlk) b σ' rfl h2 ?_)
  rintro F w ⟨F1, F2, rfl, hd, ⟨Fp, rfl, h1, ⟨h3, hx⟩, h4⟩, rfl, h5⟩
  have hbt : ∀ c, (Fp c ∨ c = t ∨ False) → ¬ c = b := hd
  refine ⟨Fp, ?_, h1, ⟨h3, fun e => hbt t (.inr (.inl rfl)) e, fun c hc hF => ?_, h5⟩, h4⟩
  · funext c
    simp only [px, pxH, or_false, or_assoc]
  · have : c = b := hc
    exact hbt c (.inl hF) this

/-- Trees one behind the other are joined. -/
theorem Join_fn (hI : I.Ty) (hG : I.Trees6) {e1 e2 k1 k2} (uT : I.P.underlying I.tTreeP = some (.pointer e1)) (sT : sizeT I.P e1 = some (k1 + 1)) (uP : I.P.underlying I.tPoolP = some (.pointer e2)) (sP : sizeT I.P e2 = some (k2 + 1))
    {a b : BT E} (ha : I.Rep σ.look a) (hb : I.Rep σ.look b) (hnd : (a.refs ++ b.refs).Nodup) (hsz : a.size + b.size < 1000000000) :
    Fn I.P I.gJoin [pa t 0, pa o 0] (I.trx t (pxH I p o b.ref) a.ref σ n) eBool (Pool (Nd E A) × Bool) (fun (x : Bool) y => x = y.2 ∧ (y.2 = true → (∃ c, Tch σ y.1 (fun q => q ∈ a.refs ++ b.refs) c 0) ∧ I.Rep y.1.look (BT.merge a b)) ∧ (y.2 = false → ∃ c, Tch σ y.1 No c 0) ∧
        (y.2 = false ↔ ∃ x y, a.elems[a.size - 1]? = some x ∧ b.elems[0]? = some y ∧ 0 < a.size ∧ I.cmp x y ≥ 0))
      fun _ y => if y.2 then I.trx t (pxH I p o ⟨0, 0⟩) (BT.merge a b).ref y.1 n else I.trx t (pxH I p o b.ref) a.ref y.1 n := by
  refine Fn.of cfg_P hI.pool.good.ok hI.pool.good.mix (hG.Join t o) fun B => ?_
  unfold JoinT
  refine AT.ldS (H := eBool) false (fun F w hA => ?_) ?_
  · obtain ⟨Fp, rfl, h1, ⟨h2, hx1, hx2, hx3⟩, h3⟩ := hA
    exact ld_ptrEql uT sT (same_other (fun e => hx1 e.symm) (.inr (.inr rfl)) (.inr (.inl rfl)) hx3 h2)
  refine AT.ite (fun h => by cases h) (fun _ => ?_)
  refine AT.ldS (H := eBlk) p (fun F w hA => ld_pool hI (swapH hI F w hA)) ?_
  refine AT.ldS (H := eBlk) p (fun F w hA => ld_pool hI hA) ?_
  refine AT.ldS (H := eBool) false (fun F w hA => ld_ptrNeq uP sP (r := true) fun w' _ => run_sameAddr_same (w := w') _) ?_
  refine AT.endS (AT.ite (fun h => by cases h) (fun _ => ?_))
  refine AT.call0 (len_g (p := pxH I p o b.ref) hI hG.base.base ha).fn ?_
  rintro x σ1 ⟨rfl, h1⟩
  have ha1 := h1.rep ha No.rep
  have hb1 := h1.rep hb No.rep
  have hw : wr ((a.size : Int) - 1) = (a.size : Int) - 1 := wr_id (by omega) (by omega)
  rw [hw]
  refine AT.call0 (At_g (p := pxH I p o b.ref) hI hG.base ((a.size : Int) - 1) ha1 (by omega)).fn ?_
  rintro x σ2 ⟨rfl, h2⟩
  have ha2 := h2.rep ha1 No.rep
  have hb2 := h2.rep hb1 No.rep
  refine AT.imp (swapH hI) (AT.call0 (At_g (t := o) (p := pxH I p t a.ref) hI hG.base 0 hb2 (by omega)).fn ?_)
  rintro y σ3 ⟨rfl, h3⟩
  refine AT.imp (swapH hI) ?_
  have ha3 := h3.rep ha2 No.rep
  have hb3 := h3.rep hb2 No.rep
  have h13 := ((h1.trans h2).no2.trans h3).no2
  have fin : ∀ {J : Jc}, J = ⟨I.P, B, [], RQ eBool (Pool (Nd E A) × Bool) (fun (x : Bool) y => x = y.2 ∧ (y.2 = true → (∃ c, Tch σ y.1 (fun q => q ∈ a.refs ++ b.refs) c 0) ∧ I.Rep y.1.look (BT.merge a b)) ∧ (y.2 = false → ∃ c, Tch σ y.1 No c 0) ∧
        (y.2 = false ↔ ∃ x y, a.elems[a.size - 1]? = some x ∧ b.elems[0]? = some y ∧ 0 < a.size ∧ I.cmp x y ≥ 0))
      fun _ y => if y.2 then I.trx t (pxH I p o ⟨0, 0⟩) (BT.merge a b).ref y.1 n else I.trx t (pxH I p o b.ref) a.ref y.1 n⟩ →
      (¬ ∃ x y, a.elems[a.size - 1]? = some x ∧ b.elems[0]? = some y ∧ 0 < a.size ∧ I.cmp x y ≥ 0) →
      AT J Lam.none (I.trx t (pxH I p o b.ref) a.ref σ3 n) (.loadS 6 (Instr.loadAt I.tRef (pa t 1)) eRef fun (r : Rf) => .loadS 10 (Instr.loadAt I.tRef (pa o 1)) eRef fun (r2 : Rf) => cRef I.gMerge [pa t 0, ar r, ar r2] [] fun y =>
        .primU (Instr.storeAt I.tRef (pa t 1) (ar y)) [] (.primU (Instr.storeAt I.tRef (pa o 1) (ag [iV 0, iV 0])) [] (.endS (.ret (.bool true))))) := by
    rintro J rfl hno
    refine AT.ldS (H := eRef) a.ref (fun F w hA => ld_root hI hA) ?_
    refine AT.ldS (H := eRef) b.ref (fun F w hA => ld_root hI (swapH hI F w hA)) ?_
    refine AT.call0 (merge_g (p := pxH I p o b.ref) hI hG.m ha3 hb3 hnd (by omega)).fn ?_
    rintro y σ4 ⟨rfl, h4, h5⟩
    refine AT.setRoot hI _ (AT.imp (swapH hI) ?_)
    refine AT.setRoot (r := ⟨0, 0⟩) hI (AT.endS (AT.imp (swapH hI) ?_))
    refine AT.ret (H := eBool) true (σ4, true) rfl ⟨rfl, fun _ => ⟨⟨_, (h13.trans h4).mono (fun q hq => hq.elim (fun h => h.elim) id) (Nat.le_refl _) (by omega)⟩, h5⟩, fun h => (by cases h), ⟨fun h => (by cases h), fun h => absurd h hno⟩⟩ ?_
    exact Imp.refl _
  have hx : ∀ {x : E × Bool}, x = atO I a.elems ((a.size : Int) - 1) → x.2 = true → 0 < a.size ∧ a.elems[a.size - 1]? = some x.1 := by
    rintro x rfl hx
    unfold atO at hx ⊢
    split at hx
    · simp [optE] at hx
    · rename_i h0
      rw [if_neg h0]
      have hn : ((a.size : Int) - 1).toNat = a.size - 1 := by omega
      rw [hn] at hx ⊢
      cases hg : a.elems[a.size - 1]? with
      | none => rw [hg] at hx; simp [optE] at hx
      | some e => exact ⟨by omega, rfl⟩
  have hy : ∀ {x : E × Bool}, x = atO I b.elems 0 → x.2 = true → b.elems[0]? = some x.1 := by
    rintro x rfl hx
    unfold atO at hx ⊢
    rw [if_neg (by omega)] at hx ⊢
    cases hg : b.elems[(0 : Int).toNat]? with
    | none => rw [hg] at hx; simp [optE] at hx
    | some e => exact hg
  have hx0 : (atO I a.elems ((a.size : Int) - 1)).2 = false → ¬ ∃ x y, a.elems[a.size - 1]? = some x ∧ b.elems[0]? = some y ∧ 0 < a.size ∧ I.cmp x y ≥ 0 := by
    rintro h ⟨x, y, h1, h2, h3, h4⟩
    unfold atO at h
    rw [if_neg (by omega), show ((a.size : Int) - 1).toNat = a.size - 1 by omega, h1] at h
    cases h
  have hy0 : (atO I b.elems 0).2 = false → ¬ ∃ x y, a.elems[a.size - 1]? = some x ∧ b.elems[0]? = some y ∧ 0 < a.size ∧ I.cmp x y ≥ 0 := by
    rintro h ⟨x, y, h1, h2, h3, h4⟩
    unfold atO at h
    rw [if_neg (by omega), show ((0 : Int)).toNat = 0 from rfl, h2] at h
    cases h
  refine AT.ite (fun b1 => AT.ite (fun b2 => AT.iteD (fun hc => ?_) (fun hc => fin rfl ?_)) (fun b2 => fin rfl (hy0 b2))) (fun b1 => fin rfl (hx0 b1))
  · refine AT.ret (H := eBool) false (σ3, false) rfl ⟨rfl, fun h => (by cases h), fun _ => ⟨_, h13⟩, ⟨fun _ => ⟨_, _, (hx rfl b1).2, hy rfl b2, (hx rfl b1).1, hc⟩, fun _ => rfl⟩⟩ (Imp.refl _)
  · rintro ⟨x, y, h1, h2, h3, h4⟩
    have e1 := (hx rfl b1).2
    have e2 := hy rfl b2
    rw [h1] at e1; rw [h2] at e2
    injection e1 with e1; injection e2 with e2
    rw [e1, e2] at h4
    exact hc h4
end GI
end Go.Sx

set_option linter.unusedVariables false
set_option linter.unusedSimpArgs false
set_option maxHeartbeats 1000000
namespace Go.Sx
open GI Asn Go.RowKit

/-! ### Marks and swells -/
theorem wvC_P : wvC.P = Go.Proofs.Try.prog := rfl
theorem wvC_ok : wvC.Ok where
  pure f g args v h _ := by cases h
  meth t n f h := by cases h
  pureR f g e n cells v hg hv := by
    have h' : (bif f == 133 then some (fun (e : TypeId) (n : Nat) (cells : List Value) => match cells with | [.int .i64 x] => bif (e == 3) && (n == 1) then some (ag (tideC (Tide.of [x]))) else none | _ => none) else none) = some g := hg
    cases h1 : (f == 133) with
    | false => rw [h1, cond_false] at h'; cases h'
    | true =>
      have e1 : f = 133 := eq_of_beq h1
      subst e1
      rw [h1, cond_true] at h'
      injection h' with h'; subst h'
      simp only at hv
      split at hv
      · rename_i x
        cases h2 : ((e == 3) && (n == 1)) with
        | false => rw [h2, cond_false] at hv; cases hv
        | true =>
          rw [h2, cond_true] at hv
          injection hv with hv; subst hv
          simp only [Bool.and_eq_true, beq_iff_eq] at h2
          obtain ⟨rfl, rfl⟩ := h2
          exact ⟨by kernel_rfl, fun w b hb => ofOne_q x w b hb⟩
      · cases hv

def icmp (a b : Int) : Int := if a < b then -1 else if a > b then 1 else 0
def Item.cmp (a b : Item) : Int := if icmp a.key b.key ≠ 0 then icmp a.key b.key else icmp a.id b.id
def Mark.cmp (a b : Mark) : Int := icmp a.op.time b.op.time
def tookZ : Took := ⟨false, ⟨0, 0⟩⟩
def Mark.sum (a : Mark) : Swell :=
  if a.op.insert then (if a.here then ⟨Tide.of [1], Tide.of [0], 0, 0, ⟨0, 0⟩, tookZ, ⟨true, a.op.item⟩⟩ else ⟨Tide.of [1], Tide.of [1], 0, 0, ⟨0, 0⟩, ⟨true, a.op.item⟩, tookZ⟩)
  else if a.took.found then ⟨Tide.of [-1], Tide.of [-1], 1, 0, a.took.item, tookZ, tookZ⟩ else ⟨Tide.of [-1], Tide.of [-1], 1, 1, ⟨0, 0⟩, tookZ, tookZ⟩
def Swell.taken (s : Swell) : Took := if s.deletes = s.free then tookZ else ⟨true, s.most⟩
def better (s : Int) (a b : Took) : Took := if a.found = false then b else if b.found = true then (if wr (s * Item.cmp b.item a.item) < 0 then b else a) else a
def Swell.plus (s o : Swell) : Swell := ⟨s.count.plus o.count, s.weight.plus o.weight, wr (s.deletes + o.deletes), wr (s.free + o.free), (better (-1) s.taken o.taken).item, better (-1) s.gone o.gone, better 1 s.least o.least⟩

theorem isNaN_q (a : Int) : Quiet Go.Proofs.Try.prog 153 [iV a] (.bool false) := by
  refine Fn.quiet (H := eBool) (Y := Unit) (φ := fun b _ => b = false) false (fun z => Fn.of wvC_P wvC_ok prog_mix (isNaN_t a) fun B => ?_) (fun y _ h => h)
  exact AT.ret (H := eBool) (a != a) () rfl (show (a != a) = false by simp) (Imp.refl _)
theorem cmpI_q (a b : Int) : Quiet Go.Proofs.Try.prog 152 [iV a, iV b] (iV (icmp a b)) := by
  refine Fn.quiet (H := eInt) (Y := Unit) (φ := fun (x : Int) _ => x = icmp a b) (icmp a b) (fun z => Fn.of wvC_P wvC_ok prog_mix (cmpI_t a b) fun B => ?_) (fun y _ h => h)
  unfold cmpIT
  refine AT.quiet (H := eBool) false (isNaN_q a) (AT.quiet (H := eBool) false (isNaN_q b) ?_)
  refine AT.ite (fun h => by cases h) (fun _ => AT.ite (fun h => by cases h) (fun _ => AT.iteD (fun h => ?_) (fun h => AT.iteD (fun h2 => ?_) (fun h2 => ?_))))
  · exact AT.ret (H := eInt) (-1 : Int) () rfl (by unfold icmp; rw [if_pos h]) (Imp.refl _)
  · exact AT.ret (H := eInt) (1 : Int) () rfl (by unfold icmp; rw [if_neg h, if_pos h2]) (Imp.refl _)
  · exact AT.ret (H := eInt) (0 : Int) () rfl (by unfold icmp; rw [if_neg h, if_neg h2]) (Imp.refl _)
def orL : List Int → Int
  | [] => 0
  | x :: l => if x ≠ 0 then x else orL l
theorem or_fn {z : Zn} {s : Sl} {xs : List Int} (h : RowIn z intCd s xs) : Fn Go.Proofs.Try.prog 158 [slV s] (fz z) eInt Unit (fun (x : Int) _ => x = orL xs) fun _ _ => fz z := by
  refine Fn.of wvC_P wvC_ok prog_mix (orI_t s) fun B => ?_
  unfold orIT
  have hsn := h.n
  have hl63 := h.len
  refine AT.loop (Y := Unit) (fun (i : Int) _ => ∃ n : Nat, i = n ∧ n ≤ xs.length ∧ orL (xs.drop n) = orL xs) (fun _ _ => fz z) (fun i => xs.length - i.toNat) (0 : Int) () rfl ⟨0, rfl, Nat.zero_le _, by simp⟩ (Imp.refl _) ?_
  rintro G l y ⟨n, rfl, hn, hr⟩ hag
  refine AT.iteD (fun hb => ?_) (fun hb => ?_)
  · have hlt : n < xs.length := by omega
    obtain ⟨a, hl, hc⟩ := ldIndex (x := xs[n]) h slInt.u slInt.s (Int.natCast_nonneg n) (by simp)
    refine AT.ld (H := eAddr) a (fun F w _ => hl F w) (AT.ld (H := eInt) xs[n] (ldCell0 hc aInt rfl) ?_)
    rw [List.drop_eq_getElem_cons hlt, orL] at hr
    refine AT.iteNe (fun h1 => ?_) (fun h1 => ?_)
    · rw [if_pos h1] at hr
      exact AT.ret (H := eInt) xs[n] () rfl hr (Imp.refl _)
    · rw [if_neg (by simpa using h1)] at hr
      have hw : wr ((n : Int) + 1) = ((n + 1 : Nat) : Int) := by rw [wr_id (by omega) (by simp [maxLen] at hl63; omega)]; omega
      rw [hw]
      exact AT.again rfl (hag ((n + 1 : Nat) : Int) () ⟨n + 1, rfl, hlt, hr⟩ (by omega))
  · rw [List.drop_eq_nil_of_le (by omega), orL] at hr
    exact AT.ret (H := eInt) (0 : Int) () rfl hr (Imp.refl _)
theorem cmpItem_q (a b : Item) : Quiet Go.Proofs.Try.prog 157 [ag (itemC a), ag (itemC b)] (iV (Item.cmp a b)) := by
  refine ⟨(by kernel_rfl : callB Go.Proofs.Try.prog 157 = true), fun w => ?_⟩
  have hF : Fn Go.Proofs.Try.prog 157 [ag (itemC a), ag (itemC b)] (fz (zAll w)) eInt Zn (fun (x : Int) z' => x = Item.cmp a b ∧ (zAll w).le z') fun _ z' => fz z' := by
    refine Fn.of wvC_P wvC_ok prog_mix (cmpItem_t a b) fun B => ?_
    unfold cmpItemT
    refine AT.call ((cmpI_q a.key b.key).fn (H := eInt) (x := icmp a.key b.key) _) ?_
    rintro i1 - rfl
    refine AT.quiet (H := eInt) (icmp a.id b.id) (cmpI_q _ _) ?_
    refine AT.row (K := intCd) (xs := [icmp a.key b.key, icmp a.id b.id]) (e := 3) (by kernel_rfl) rfl (by simp [maxLen]) fun s => ?_
    refine AT.imp sep_comm (AT.freezeR fun z' hz hr => ?_)
    refine AT.call0 (or_fn hr) ?_
    rintro i3 - rfl
    refine AT.endS (AT.ret (H := eInt) _ z' rfl ⟨?_, hz⟩ (Imp.refl _))
    simp only [orL, Item.cmp]
    split
    · rfl
    · split
      · rfl
      · rename_i h1 h2; simp at h2; exact h2.symm
  exact (hF (fun b => b < w.heap.size) w ⟨fun b hb => ⟨hb, rfl⟩, fun b hb => hb⟩).2.mono fun e w' ⟨v, F1, he, hs, x, z', hv, ⟨hx, hz⟩, hA⟩ => ⟨by rw [he, hv, hx]; rfl, hs.fr.os, hs.fr.tape, hs.fr.output, hs.fr.size, fun b hb => ((hA.1 b (hz b hb).1).2).trans (hz b hb).2⟩
theorem cmpMark_q (a b : Mark) : Quiet Go.Proofs.Try.prog 150 [ag (markC a), ag (markC b)] (iV (Mark.cmp a b)) := by
  refine Fn.quiet (H := eInt) (Y := Unit) (φ := fun (x : Int) _ => x = Mark.cmp a b) (Mark.cmp a b) (fun z => Fn.of wvC_P wvC_ok prog_mix (cmpMark_t a b) fun B => ?_) (fun y _ h => h)
  exact AT.quiet (H := eInt) _ (cmpI_q _ _) (AT.ret (H := eInt) _ () rfl rfl (Imp.refl _))
theorem sumMark_q (a : Mark) : Quiet Go.Proofs.Try.prog 151 [ag (markC a)] (ag (swellC (Mark.sum a))) := by
  refine Fn.quiet (H := eSwell) (Y := Unit) (φ := fun (x : Swell) _ => x = Mark.sum a) (Mark.sum a) (fun z => Fn.of wvC_P wvC_ok prog_mix (sumMark_t a) fun B => ?_) (fun y _ h => h)
  have h1 : AT ⟨Go.Proofs.Try.prog, B, [], RQ eSwell Unit (fun (x : Swell) _ => x = Mark.sum a) fun _ _ => fz z⟩ Lam.none (fz z) (sumMarkT_1 a) ∨ (a.op.insert = true ∧ a.here = true) := by
    by_cases h0 : a.op.insert = true ∧ a.here = true
    · exact .inr h0
    refine .inl ?_
    unfold sumMarkT_1
    refine AT.ite (fun h => AT.endS ?_) (fun h => AT.ite (fun h2 => ?_) (fun h2 => ?_))
    · refine AT.ret (H := eSwell) ⟨Tide.of [1], Tide.of [1], 0, 0, ⟨0, 0⟩, ⟨true, a.op.item⟩, tookZ⟩ () rfl ?_ (Imp.refl _)
      unfold Mark.sum; rw [if_pos h, if_neg fun h2 => h0 ⟨h, h2⟩]
    · refine AT.ret (H := eSwell) ⟨Tide.of [-1], Tide.of [-1], 1, 0, a.took.item, tookZ, tookZ⟩ () rfl ?_ (Imp.refl _)
      unfold Mark.sum; rw [if_neg (by simp [h]), if_pos h2]
    · refine AT.ret (H := eSwell) ⟨Tide.of [-1], Tide.of [-1], 1, 1, ⟨0, 0⟩, tookZ, tookZ⟩ () rfl ?_ (Imp.refl _)
      unfold Mark.sum; rw [if_neg (by simp [h]), if_neg (by simp [h2])]
  unfold sumMarkT
  refine AT.ite (fun h => AT.ite (fun h2 => AT.endS ?_) (fun h2 => h1.resolve_right fun h3 => by rw [h3.2] at h2; cases h2)) (fun h => h1.resolve_right fun h3 => by rw [h3.1] at h; cases h)
  refine AT.ret (H := eSwell) ⟨Tide.of [1], Tide.of [0], 0, 0, ⟨0, 0⟩, tookZ, ⟨true, a.op.item⟩⟩ () rfl ?_ (Imp.refl _)
  unfold Mark.sum; rw [if_pos h, if_pos h2]
theorem taken_q (a : Swell) : Quiet Go.Proofs.Try.prog 155 [ag (swellC a)] (ag (tookC a.taken)) := by
  refine Fn.quiet (H := eTook) (Y := Unit) (φ := fun (x : Took) _ => x = a.taken) a.taken (fun z => Fn.of wvC_P wvC_ok prog_mix (taken_t a) fun B => ?_) (fun y _ h => h)
  refine AT.iteE (fun h => ?_) (fun h => ?_)
  · exact AT.ret (H := eTook) tookZ () rfl (by unfold Swell.taken; rw [if_pos h]) (Imp.refl _)
  · exact AT.ret (H := eTook) ⟨true, a.most⟩ () rfl (by unfold Swell.taken; rw [if_neg h]) (Imp.refl _)
theorem better_q (s : Int) (a b : Took) : Quiet Go.Proofs.Try.prog 156 [iV s, ag (tookC a), ag (tookC b)] (ag (tookC (better s a b))) := by
  refine Fn.quiet (H := eTook) (Y := Unit) (φ := fun (x : Took) _ => x = better s a b) (better s a b) (fun z => Fn.of wvC_P wvC_ok prog_mix (better_t s a b) fun B => ?_) (fun y _ h => h)
  refine AT.iteN (fun h => ?_) (fun h => AT.ite (fun h2 => ?_) (fun h2 => ?_))
  · exact AT.ret (H := eTook) b () rfl (by unfold better; rw [if_pos h]) (Imp.refl _)
  · refine AT.quiet (H := eInt) (Item.cmp b.item a.item) (cmpItem_q b.item a.item) (AT.iteD (fun h3 => ?_) (fun h3 => ?_))
    · exact AT.ret (H := eTook) b () rfl (by unfold better; rw [if_neg (by simp [h]), if_pos h2, if_pos h3]) (Imp.refl _)
    · exact AT.ret (H := eTook) a () rfl (by unfold better; rw [if_neg (by simp [h]), if_pos h2, if_neg h3]) (Imp.refl _)
  · exact AT.ret (H := eTook) a () rfl (by unfold better; rw [if_neg (by simp [h]), if_neg (by simp [h2])]) (Imp.refl _)
theorem plusSw_q (a b : Swell) : Quiet Go.Proofs.Try.prog 154 [ag (swellC a), ag (swellC b)] (ag (swellC (a.plus b))) := by
  refine Fn.quiet (H := eSwell) (Y := Unit) (φ := fun (x : Swell) _ => x = a.plus b) (a.plus b) (fun z => Fn.of wvC_P wvC_ok prog_mix (plusSw_t a b) fun B => ?_) (fun y _ h => h)
  unfold plusSwT
  refine AT.call ((tPlus_q a.count b.count).fn (H := eTide) (x := a.count.plus b.count) _) ?_
  rintro x1 - rfl
  refine AT.call ((tPlus_q a.weight b.weight).fn (H := eTide) (x := a.weight.plus b.weight) _) ?_
  rintro x2 - rfl
  refine AT.call ((taken_q a).fn (H := eTook) (x := a.taken) _) ?_
  rintro x3 - rfl
  refine AT.call ((taken_q b).fn (H := eTook) (x := b.taken) _) ?_
  rintro x4 - rfl
  refine AT.call ((better_q (-1) a.taken b.taken).fn (H := eTook) (x := better (-1) a.taken b.taken) _) ?_
  rintro x5 - rfl
  refine AT.call ((better_q (-1) a.gone b.gone).fn (H := eTook) (x := better (-1) a.gone b.gone) _) ?_
  rintro x6 - rfl
  refine AT.call ((better_q 1 a.least b.least).fn (H := eTook) (x := better 1 a.least b.least) _) ?_
  rintro x7 - rfl
  exact AT.endS (AT.ret (H := eSwell) (a.plus b) () rfl rfl (Imp.refl _))
end Go.Sx

set_option linter.unusedVariables false
set_option maxHeartbeats 1000000
namespace Go.Sx
open GI Asn Go.RowKit
/-! ### Trees of marks -/
noncomputable def wI : GI Mark Swell where
  P := Go.Proofs.Try.prog
  tE := markT
  tA := swellT
  zE := ⟨⟨0, false, ⟨0, 0⟩⟩, false, ⟨false, ⟨0, 0⟩⟩⟩
  zA := ⟨⟨0, 0, 0⟩, ⟨0, 0, 0⟩, 0, 0, ⟨0, 0⟩, ⟨false, ⟨0, 0⟩⟩, ⟨false, ⟨0, 0⟩⟩⟩
  cmp := Mark.cmp
  sum := Mark.sum
  plus := Swell.plus
  tI := 3
  tB := 4
  tIS := 22
  tRef := 95
  tEl := 74
  tSum := 76
  tES := 208
  tTree := 124
  tTreeP := 65
  tPoolP := 122
  tS := 152
  tN := 120
  tC := 176
  tP := 154
  mCmp := 150
  mSum := 151
  mPlus := 154
  fFind := 106
  fGet := 91
  fSet := 104
  fNext := 109
  fPut := 102
  fDrop := 161
  fVisits := 70
  fNew := 101
  gNew := 89
  gGet := 69
  gLay := 105
  gWeight := 110
  gTurnL := 113
  gTurnR := 112
  gBalance := 111
  gLink := 103
  gLast := 147
  gMerge := 148
  gLen := 37
  gput := 90
  gPut := 68
  gdrop := 145
  gDrop := 138
  gFind := 139
  gRank := 142
  gAt := 137
  gbetween := 95
  gBetween := 75
  gfirst := 92
  gFirst := 72
  glastOf := 94
  gLastOf := 74
  gsplit := 149
  gSplit := 143
  gJoin := 141
  gall := 144
  gAll := 136
  gheight := 146
  gHeight := 140
  gVisits := 38
  cls := [93]
theorem wI_ok : wI.cfg.Ok where
  pureR f g e n cells v h _ := by cases h
  pure f g args v h hv := by
    have h' : (bif f == 150 then some (fun | [x, y] => (markT.of x).bind fun a => (markT.of y).map fun b => iV (Mark.cmp a b) | _ => none)
      else bif f == 151 then some (fun | [x] => (markT.of x).map fun a => swellT.val (Mark.sum a) | _ => none)
      else bif f == 154 then some (fun | [x, y] => (swellT.of x).bind fun a => (swellT.of y).map fun b => swellT.val (Swell.plus a b) | _ => none) else none) = some g := h
    have hel : ∀ v a, markT.of v = some a → v = ag (markC a) := fun v a => agOf_of (C := markCd) markOf_of v a
    have htd : ∀ v a, swellT.of v = some a → v = ag (swellC a) := fun v a => agOf_of (C := swellCd) swellOf_of v a
    cases h1 : (f == 150) with
    | true =>
      have e : f = 150 := eq_of_beq h1
      subst e
      rw [h1, cond_true] at h'
      injection h' with h'; subst h'
      simp only at hv
      split at hv
      · rename_i x y
        simp only [Option.bind_eq_some_iff, Option.map_eq_some_iff] at hv
        obtain ⟨a, ha, b, hb, rfl⟩ := hv
        rw [hel _ _ ha, hel _ _ hb]
        exact cmpMark_q a b
      · cases hv
    | false =>
      rw [h1, cond_false] at h'
      cases h2 : (f == 151) with
      | true =>
        have e : f = 151 := eq_of_beq h2
        subst e
        rw [h2, cond_true] at h'
        injection h' with h'; subst h'
        simp only at hv
        split at hv
        · rename_i x
          simp only [Option.map_eq_some_iff] at hv
          obtain ⟨a, ha, rfl⟩ := hv
          rw [hel _ _ ha]
          exact sumMark_q a
        · cases hv
      | false =>
        rw [h2, cond_false] at h'
        cases h3 : (f == 154) with
        | true =>
          have e : f = 154 := eq_of_beq h3
          subst e
          rw [h3, cond_true] at h'
          injection h' with h'; subst h'
          simp only at hv
          split at hv
          · rename_i x y
            simp only [Option.bind_eq_some_iff, Option.map_eq_some_iff] at hv
            obtain ⟨a, ha, b, hb, rfl⟩ := hv
            rw [htd _ _ ha, htd _ _ hb]
            exact plusSw_q a b
          · cases hv
        | false => rw [h3, cond_false] at h'; cases h'
  meth t n f h := by
    have h' : (bif t == 74 then (if n == "Sum" then some 151 else if n == "Compare" then some 150 else none) else bif t == 76 then (if n == "Plus" then some 154 else none) else none) = some f := h
    cases h1 : (t == 74) with
    | true =>
      have e : t = 74 := eq_of_beq h1
      subst e
      rw [h1, cond_true] at h'
      split at h'
      · rename_i e2
        have e2 := eq_of_beq e2
        subst e2
        injection h' with h'; subst h'
        intro v w
        kernel_rfl
      · split at h'
        · rename_i e2
          have e2 := eq_of_beq e2
          subst e2
          injection h' with h'; subst h'
          intro v w
          kernel_rfl
        · cases h'
    | false =>
      rw [h1, cond_false] at h'
      cases h2 : (t == 76) with
      | true =>
        have e : t = 76 := eq_of_beq h2
        subst e
        rw [h2, cond_true] at h'
        split at h'
        · rename_i e2
          have e2 := eq_of_beq e2
          subst e2
          injection h' with h'; subst h'
          intro v w
          kernel_rfl
        · cases h'
      | false => rw [h2, cond_false] at h'; cases h'
end Go.Sx

set_option linter.unusedVariables false
set_option linter.unusedSimpArgs false
set_option maxHeartbeats 2000000
namespace Go.Sx
open Go.RowKit Asn
namespace GI
variable {E A : Type} (I : GI E A)

/-! ### The last place of which something holds -/
def cL (t : Nat) (r : Rf) (i : Int) (a : A) (fid : FuncId) (cap : List Value) (k : Int → Tree) : Tree := .call I.glastOf [pa t 0, ar r, iV i, I.tA.val a, .func (.func fid) #[] cap.toArray].toArray [] eInt k
def lastL (t : Nat) (n : Nd E A) (i : Int) (a : A) (fid : FuncId) (cap : List Value) : Tree := I.cL t n.left i a fid cap fun z => .ret (iV z)
def lastOfR (t : Nat) (n : Nd E A) (i : Int) (a : A) (fid : FuncId) (cap : List Value) : Tree :=
  I.cGet t n.left [] fun nl => .endS (I.cL t n.right (wr (wr (i - nl.size) - 1)) (I.plus (I.plus a nl.sum) (I.sum n.e)) fid cap fun y => .endS (.ite (decide (y ≥ 0)) (.ret (iV (wr (wr (y + nl.size) + 1))))
    (.ite (decide (i > nl.size)) (I.cM fid cap (I.plus a nl.sum) (I.sum n.e) fun m => .ite m (.ret (iV nl.size)) (I.lastL t n i a fid cap)) (I.lastL t n i a fid cap))))
def lastOfT (t : Nat) (r : Rf) (i : Int) (a : A) (fid : FuncId) (cap : List Value) : Tree :=
  I.cGet t r [] fun n => .ite (n.size == 0) (.ret (iV (-1))) (.ite (decide (i ≤ 0)) (.ret (iV (-1))) (.ite (decide (i ≥ n.size)) (I.cM fid cap a n.sum fun m => .ite (!m) (.ret (iV (-1))) (I.lastOfR t n i a fid cap)) (I.lastOfR t n i a fid cap)))
noncomputable def LastT (t : Nat) (i : Int) (fid : FuncId) (cap : List Value) : Tree :=
  .loadS 4 (Instr.loadAt I.tRef (pa t 1)) eRef fun (r : Rf) => .loadS 6 (Builtin.max_ #[I.tI, I.tI] I.tI #[iV i, iV 0]) eInt fun (a : Int) => cInt I.gLen [pa t 0] [4, 6, 10] fun n => .loadS 9 (Builtin.min_ #[I.tI, I.tI] I.tI #[iV a, iV n]) eInt fun (b : Int) =>
    I.cL t r b I.zA fid cap fun x => .endS (.ret (iV x))
structure TreesL (I : GI E A) (fid : FuncId) (cap : List Value) : Prop where
  lastOf : ∀ t r i a, FnT I.cfg I.glastOf [pa t 0, ar r, iV i, I.tA.val a, .func (.func fid) #[] cap.toArray] (I.lastOfT t r i a fid cap)
  Last : ∀ t i, FnT I.cfg I.gLastOf [pa t 0, iV i, .func (.func fid) #[] cap.toArray] (I.LastT t i fid cap)

def lst (may : A → A → Bool) : BT E → Int → A → Int
  | .nil, _, _ => -1
  | .node r l e h, i, a =>
    if i ≤ 0 ∨ i ≥ ((BT.node r l e h).size : Int) ∧ may a (I.bsum (.node r l e h)) = false then -1
    else
      let y := lst may h (i - l.size - 1) (I.plus (I.plus a (I.bsum l)) (I.sum e))
      if y ≥ 0 then y + l.size + 1 else if i > (l.size : Int) ∧ may (I.plus a (I.bsum l)) (I.sum e) = true then (l.size : Int) else lst may l i a
def lstC (may : A → A → Bool) : BT E → Int → A → Nat
  | .nil, _, _ => 1
  | .node r l e h, i, a =>
    if i ≤ 0 ∨ i ≥ ((BT.node r l e h).size : Int) ∧ may a (I.bsum (.node r l e h)) = false then 1
    else
      let y := lst I may h (i - l.size - 1) (I.plus (I.plus a (I.bsum l)) (I.sum e))
      2 + lstC may h (i - l.size - 1) (I.plus (I.plus a (I.bsum l)) (I.sum e)) + (if y ≥ 0 then 0 else if i > (l.size : Int) ∧ may (I.plus a (I.bsum l)) (I.sum e) = true then 0 else lstC may l i a)
variable {I} {t q : Nat} {p : Px} {r0 : Rf} {σ σ' σ2 : Pool (Nd E A)} {n n1 n' : Nat} {F : BS} {w w1 : World}
theorem lst_le (may : A → A → Bool) : ∀ (s : BT E) (i : Int) (a : A), -1 ≤ lst I may s i a ∧ lst I may s i a < (s.size : Int)
  | .nil, i, a => by simp [lst, BT.size]
  | .node r l e h, i, a => by
    have hl := lst_le may l i a
    have hh := lst_le may h (i - l.size - 1) (I.plus (I.plus a (I.bsum l)) (I.sum e))
    have hsz : ((BT.node r l e h).size : Int) = (l.size : Int) + 1 + (h.size : Int) := by simp only [BT.size]; omega
    rw [lst]
    split
    · omega
    · simp only
      split
      · omega
      · split <;> omega

theorem lastOf_g (hI : I.Ty) (hG : I.Trees) {fid : FuncId} {cap : List Value} {may : A → A → Bool} (hF : I.TreesL fid cap) (hM : I.May t p n fid cap may) : ∀ {s : BT E} {σ : Pool (Nd E A)} {i : Int} {a : A}, I.Rep σ.look s → -1152921504606846976 < i - s.size → i + s.size < 1152921504606846976 → s.size < 144115188075855872 →
    I.GS t p r0 n n σ I.glastOf [pa t 0, ar s.ref, iV i, I.tA.val a, .func (.func fid) #[] cap.toArray] eInt fun (x : Int) σ' => x = lst I may s i a ∧ Tch σ σ' No (lstC I may s i a) 0 := by
  intro s
  induction s with
  | nil =>
    intro σ i a hs _ _ _
    refine GS.of hI (hF.lastOf t _ _ _) (fun B => ?_)
    unfold lastOfT
    refine GT.callN closed_nil (get_g hI hG (s := .nil) hs) ?_
    rintro x σ1 ⟨rfl, h1⟩
    refine GT.ite (fun _ => ?_) (fun hb => absurd hb (by simp [ndOf, zN]))
    exact GT.ret (H := eInt) (-1 : Int) rfl ⟨rfl, h1⟩
  | node r l e h ihl ihh =>
    intro σ i a hs b1 b2 b5
    refine GS.of hI (hF.lastOf t _ _ _) (fun B => ?_)
    unfold lastOfT
    refine GT.callN closed_nil (get_g hI hG hs) ?_
    rintro x σ1 ⟨rfl, h1⟩
    obtain ⟨k1, k2, k3, k4⟩ := h1.rep hs No.rep
    have hsz : (I.ndOf (.node r l e h)).size = ((BT.node r l e h).size : Int) := ndOf_size I _
    have hsz2 : (BT.node r l e h).size = l.size + 1 + h.size := rfl
    rw [hsz]
    rw [hsz2] at b1 b2 b5
    have hz : (i ≤ 0 ∨ i ≥ ((BT.node r l e h).size : Int) ∧ may a (I.bsum (.node r l e h)) = false) → I.GT t p r0 n n B [] eInt (fun (x : Int) σ' => x = lst I may (.node r l e h) i a ∧ Tch σ σ' No (lstC I may (.node r l e h) i a) 0) (.ret (iV (-1))) σ1 := fun hc =>
      GT.ret (H := eInt) (-1 : Int) rfl ⟨by rw [lst, if_pos hc], h1.mono (fun _ h => h) (by rw [lstC, if_pos hc]; exact Nat.le_refl _) rfl⟩
    refine GT.ite (fun hb => absurd hb (by simp [BT.size]; omega)) (fun _ => ?_)
    refine GT.ite (fun hb => hz (.inl (of_decide_eq_true hb))) (fun hb => ?_)
    have c2 := of_decide_eq_false hb
    have hrest : ¬ (i ≤ 0 ∨ i ≥ ((BT.node r l e h).size : Int) ∧ may a (I.bsum (.node r l e h)) = false) → I.GT t p r0 n n B [] eInt (fun (x : Int) σ' => x = lst I may (.node r l e h) i a ∧ Tch σ σ' No (lstC I may (.node r l e h) i a) 0) (I.lastOfR t (I.ndOf (.node r l e h)) i a fid cap) σ1 := by
      intro c4
      unfold lastOfR
      refine GT.callN closed_nil (get_g hI hG (s := l) k3) ?_
      rintro x σ2 ⟨rfl, h2⟩
      have hls : (I.ndOf l).size = (l.size : Int) := ndOf_size I _
      have hlm : (I.ndOf l).sum = I.bsum l := ndOf_sum I _
      rw [hls, hlm]
      have w1 : wr (wr (i - (l.size : Int)) - 1) = i - l.size - 1 := by rw [wr_id (n := i - l.size) (by omega) (by omega), wr_id (by omega) (by omega)]
      rw [w1]
      unfold cL
      refine GT.endS (GT.callI closed_nil (ihh (i := i - l.size - 1) (a := I.plus (I.plus a (I.bsum l)) (I.sum e)) (h2.rep k4 No.rep) (by omega) (by omega) (by omega)) ?_)
      rintro y σ3 ⟨hy, h3⟩
      obtain rfl := hy.symm
      have hle := lst_le (I := I) may h (i - l.size - 1) (I.plus (I.plus a (I.bsum l)) (I.sum e))
      have h13 := ((h1.trans h2).no2.trans h3).no2
      refine GT.endS (GT.ite (fun hb => ?_) (fun hb => ?_))
      · have d1 := of_decide_eq_true hb
        have w2 : wr (wr (lst I may h (i - l.size - 1) (I.plus (I.plus a (I.bsum l)) (I.sum e)) + (l.size : Int)) + 1) = lst I may h (i - l.size - 1) (I.plus (I.plus a (I.bsum l)) (I.sum e)) + l.size + 1 := by rw [wr_id (n := _ + (l.size : Int)) (by omega) (by omega), wr_id (by omega) (by omega)]
        rw [w2]
        refine GT.ret (H := eInt) (show Int from lst I may h (i - l.size - 1) (I.plus (I.plus a (I.bsum l)) (I.sum e)) + l.size + 1) rfl ⟨?_, h13.mono (fun _ h => h) ?_ (by omega)⟩
        · rw [lst, if_neg c4]; simp only; rw [if_pos d1]
        · rw [lstC, if_neg c4]; simp only; omega
      have d1 := of_decide_eq_false hb
      have hL : ¬ (i > (l.size : Int) ∧ may (I.plus a (I.bsum l)) (I.sum e) = true) → ∀ σ4, σ4 = σ3 → I.GT t p r0 n n B [] eInt (fun (x : Int) σ' => x = lst I may (.node r l e h) i a ∧ Tch σ σ' No (lstC I may (.node r l e h) i a) 0) (I.lastL t (I.ndOf (.node r l e h)) i a fid cap) σ4 := by
        rintro d2 σ4 rfl
        unfold lastL cL
        refine GT.callI closed_nil (ihl (i := i) (a := a) (h3.rep (h2.rep k3 No.rep) No.rep) (by omega) (by omega) (by omega)) ?_
        rintro z σ5 ⟨hz, h4⟩
        obtain rfl := hz.symm
        refine GT.ret (H := eInt) (lst I may l i a) rfl ⟨?_, (h13.trans h4).no2.mono (fun _ h => h) ?_ (by omega)⟩
        · rw [lst, if_neg c4]; simp only; rw [if_neg d1, if_neg d2]
        · rw [lstC, if_neg c4]; simp only; rw [if_neg d1, if_neg d2]; omega
      refine GT.ite (fun hb => ?_) (fun hb => hL (fun h => of_decide_eq_false hb h.1) _ rfl)
      have d2 := of_decide_eq_true hb
      unfold cM
      refine GT.callB closed_nil (hM r0 σ3 (I.plus a (I.bsum l)) (I.sum e)) ?_
      rintro b σ4 ⟨hb, hσ⟩
      obtain rfl := hσ.symm
      refine GT.ite (fun hb2 => ?_) (fun hb2 => hL (fun h => by rw [hb] at hb2; rw [hb2] at h; exact absurd h.2 (by simp)) _ rfl)
      have d3 : may (I.plus a (I.bsum l)) (I.sum e) = true := by rw [← hb]; exact hb2
      refine GT.ret (H := eInt) (show Int from l.size) rfl ⟨?_, h13.mono (fun _ h => h) ?_ (by omega)⟩
      · rw [lst, if_neg c4]; simp only; rw [if_neg d1, if_pos ⟨d2, d3⟩]
      · rw [lstC, if_neg c4]; simp only; rw [if_neg d1, if_pos ⟨d2, d3⟩]; omega
    refine GT.ite (fun hb => ?_) (fun hb => hrest fun h => h.elim c2 fun h => of_decide_eq_false hb h.1)
    have c3 := of_decide_eq_true hb
    unfold cM
    refine GT.callB closed_nil (hM r0 σ1 a (I.bsum (.node r l e h))) ?_
    rintro b σ4 ⟨hb, hσ⟩
    obtain rfl := hσ.symm
    refine GT.ite (fun hb2 => hz (.inr ⟨c3, by rw [← hb]; simpa using hb2⟩)) (fun hb2 => hrest fun h => h.elim c2 fun h => ?_)
    have : b = true := by simpa using hb2
    rw [← hb, this] at h; exact absurd h.2 (by simp)

theorem Last_g (hI : I.Ty) (hG : I.Trees3) {fid : FuncId} {cap : List Value} {may : A → A → Bool} (hF : I.TreesL fid cap) (hM : I.May t p n fid cap may) {i : Int} {s : BT E} (hs : I.Rep σ.look s) (hsz : s.size < 144115188075855872) :
    I.GS t p s.ref n n σ I.gLastOf [pa t 0, iV i, .func (.func fid) #[] cap.toArray] eInt fun (x : Int) σ' => x = lst I may s (clampI i s.size) I.zA ∧ Tch σ σ' No (1 + lstC I may s (clampI i s.size) I.zA) 0 := by
  refine Fn.gs (Fn.of cfg_P hI.pool.good.ok hI.pool.good.mix (hF.Last t i) (fun B => ?_))
  unfold LastT
  refine AT.ldS (H := eRef) s.ref (fun F w hA => ld_root hI hA) ?_
  refine AT.ldS (H := eInt) (show Int from max i 0) (fun F w _ => ld_max) ?_
  refine AT.callK (len_g hI hG hs).fn (fun x y => ?_) ?_
  · exact LOk.add (LOk.add LOk.none fun _ F w hA => ld_root hI hA) fun _ F w _ => ld_max
  rintro x σ1 ⟨rfl, h1⟩
  refine AT.ldS (H := eInt) (clampI i s.size) (fun F w _ => ld_min) ?_
  have hc := clampI_le i s.size
  unfold cL
  refine AT.call0 (lastOf_g hI hG.base.base hF hM (i := clampI i s.size) (a := I.zA) (h1.rep hs No.rep) (by omega) (by omega) (by omega)).fn ?_
  rintro x σ2 ⟨rfl, h2⟩
  exact AT.endS (AT.ret (H := eInt) _ σ2 rfl ⟨rfl, (h1.trans h2).no2⟩ (Imp.refl _))
end GI
end Go.Sx

set_option linter.unusedVariables false
set_option linter.unusedSimpArgs false
set_option maxHeartbeats 2000000
namespace Go.Sx
open Go.RowKit Asn
namespace GI
variable {E A : Type} (I : GI E A)

/-! ### A tree as a list in order: its contracts -/
structure TOk (σ : Pool (Nd E A)) (s : BT E) (l : List E) (cap : Int) : Prop where
  rep : I.Rep σ.look s
  nd : s.refs.Nodup
  bal : s.Bal
  el : s.elems = l
  srt : Srt I.cmp l
  held : σ.held = l.length
  cap : σ.cap = cap
/-- The tree at t holds l; so many may come in (cap); so many puts there were at most (n); so many nodes were looked at (v). -/
def tl (t : Nat) (l : List E) (cap : Int) (n : Nat) (v : Int) : Asn where
  at_ F w := ∃ (p : Nat) (s : BT E) (σ : Pool (Nd E A)), I.GAt t (px p) s.ref σ n F w ∧ I.TOk σ s l cap ∧ σ.visits = v
  keep := fun ⟨p, s, σ, h1, h2⟩ hk => ⟨p, s, σ, h1.keep hk, h2⟩
  lt := fun ⟨p, s, σ, h1, h2⟩ => h1.lt
def Vis (v v' : Int) (c : Nat) : Prop := ∃ k : Nat, k ≤ c ∧ v' = wr (v + k)
theorem Vis.trans {a b c : Int} {m n : Nat} (h : Vis a b m) (k : Vis b c n) : Vis a c (m + n) := by
  obtain ⟨x, hx, rfl⟩ := h
  obtain ⟨y, hy, rfl⟩ := k
  exact ⟨x + y, by omega, by rw [wr_wr]; congr 1; omega⟩
theorem Vis.mono {a b : Int} {m n : Nat} (h : Vis a b m) (hmn : m ≤ n) : Vis a b n := let ⟨x, hx, e⟩ := h; ⟨x, Nat.le_trans hx hmn, e⟩
def putRes (cmp : E → E → Int) (e : E) (l : List E) (cap : Int) : List E × Bool := if hasL cmp e l = true ∨ (l.length : Int) ≠ cap then (insL cmp e l, true) else (l, false)

variable {I} {t q : Nat} {l : List E} {cap v : Int} {n : Nat} {σ σ' : Pool (Nd E A)} {s : BT E}
theorem TOk.size (h : I.TOk σ s l cap) : s.size = l.length := by rw [BT.size_elems, h.el]
theorem TOk.hgt (h : I.TOk σ s l cap) : s.height ≤ hgt l.length := by rw [← h.size]; exact height_le h.bal
theorem TOk.srt' (h : I.TOk σ s l cap) : Srt I.cmp s.elems := by rw [h.el]; exact h.srt
theorem TOk.keep {c : Nat} (h : I.TOk σ s l cap) (hT : Tch σ σ' No c 0) : I.TOk σ' s l cap := ⟨hT.rep h.rep No.rep, h.nd, h.bal, h.el, h.srt, by rw [hT.held, h.held]; simp, by rw [hT.cap]; exact h.cap⟩
theorem Tch.Vis {D : Rf → Prop} {c : Nat} {d : Int} (h : Tch σ σ' D c d) : Vis σ.visits σ'.visits c := h.vis
theorem TOk.le {p : Px} {r : Rf} {F : BS} {w : World} (h : I.TOk σ s l cap) (hG : I.GAt t p r σ n F w) : (l.length : Int) ≤ cap ∧ cap ≤ 16777216 := by
  obtain ⟨Fp, rfl, h1, h2, h3, h4, h5⟩ := hG
  have := h3.le
  have := h3.cap
  rw [h.held, h.cap] at *
  omega
theorem tl_le {F : BS} {w : World} (h : (I.tl t l cap n v).at_ F w) : (l.length : Int) ≤ cap ∧ cap ≤ 16777216 := by
  obtain ⟨p, s, σ, h1, h2, h3⟩ := h
  exact h2.le h1

section
variable {f : FuncId} {args : List Value} {H : Enc} {Y : Type} {φ : H.T → Y → Prop} {Q : H.T → Y → Asn}
/-- A function that leaves the tree: from its own contract. -/
theorem tl_same {x0 : H.T} {c : Nat} (h : ∀ (p : Nat) (s : BT E) (σ : Pool (Nd E A)), I.TOk σ s l cap → s.size ≤ 16777216 → I.GS t (px p) s.ref n n σ f args H fun x σ' => x = x0 ∧ Tch σ σ' No c 0) :
    Fn I.P f args (I.tl t l cap n v) H Int (fun x v' => x = x0 ∧ Vis v v' c) fun _ v' => I.tl t l cap n v' := by
  rintro F w ⟨p, s, σ, hG, hok, rfl⟩
  have hle := hok.le hG
  have hsz := hok.size
  refine (h p s σ hok (by omega) F w hG).mono fun u F1 w1 _ ⟨x, hx, σ', h1, h2, h3⟩ => ⟨x, σ'.visits, hx, ⟨h2, h3.Vis⟩, p, s, σ', h1, hok.keep h3, rfl⟩
end

theorem Len_l (hI : I.Ty) (hG : I.Trees3) : Fn I.P I.gLen [pa t 0] (I.tl t l cap n v) eInt Int (fun (x : Int) v' => x = (l.length : Int) ∧ Vis v v' 1) fun _ v' => I.tl t l cap n v' :=
  tl_same (x0 := (show eInt.T from (l.length : Int))) fun p s σ hok hsz => (len_g hI hG hok.rep).mono fun x σ' ⟨h1, h2⟩ => ⟨by rw [h1, hok.size], h2⟩
theorem Visits_l (hI : I.Ty) (hG : I.Trees3) : Fn I.P I.gVisits [pa t 0] (I.tl t l cap n v) eInt Unit (fun (x : Int) _ => x = v) fun _ _ => I.tl t l cap n v := by
  rintro F w ⟨p, s, σ, hGA, hok, rfl⟩
  exact (visits_g hI hG F w hGA).mono fun u F1 w1 _ ⟨x, hx, σ', h1, h2, h3⟩ => ⟨x, (), hx, h2, p, s, σ', h1, h3 ▸ hok, by rw [h3]⟩
theorem Find_l (hI : I.Ty) (hG : I.TreesQ) (hc : CmpOk I.cmp) (e : E) : Fn I.P I.gFind [pa t 0, I.tE.val e] (I.tl t l cap n v) (eEB I) Int (fun (x : E × Bool) v' => x = optE I (findL I.cmp e l) ∧ Vis v v' (hgt l.length)) fun _ v' => I.tl t l cap n v' :=
  tl_same (x0 := (show (eEB I).T from optE I (findL I.cmp e l))) fun p s σ hok hsz => (Find_g hI hG e hok.rep).mono fun x σ' ⟨h1, h2⟩ => ⟨by rw [h1, BT.find_elems hc hok.srt', hok.el]; rfl, h2.mono (fun _ h => h) hok.hgt rfl⟩
theorem Rank_l (hI : I.Ty) (hG : I.TreesQ) (hc : CmpOk I.cmp) (e : E) : Fn I.P I.gRank [pa t 0, I.tE.val e] (I.tl t l cap n v) eInt Int (fun (x : Int) v' => x = (rankL I.cmp e l : Int) ∧ Vis v v' (2 * hgt l.length)) fun _ v' => I.tl t l cap n v' :=
  tl_same (x0 := (show eInt.T from (rankL I.cmp e l : Int))) fun p s σ hok hsz => (Rank_g hI hG e hok.rep (by omega)).mono fun x σ' ⟨h1, h2⟩ => ⟨by rw [h1, BT.rank_elems hc hok.srt', hok.el], h2.mono (fun _ h => h) (Nat.mul_le_mul_left 2 hok.hgt) rfl⟩
theorem At_l (hI : I.Ty) (hG : I.Trees5) (i : Int) (hi : i < 4611686018427387904) : Fn I.P I.gAt [pa t 0, iV i] (I.tl t l cap n v) (eEB I) Int (fun (x : E × Bool) v' => x = atO I l i ∧ Vis v v' (2 * hgt l.length)) fun _ v' => I.tl t l cap n v' :=
  tl_same (x0 := (show (eEB I).T from atO I l i)) fun p s σ hok hsz => (At_g hI hG i hok.rep hi).mono fun x σ' ⟨h1, h2⟩ => ⟨by rw [h1, hok.el]; rfl, h2.mono (fun _ h => h) (Nat.mul_le_mul_left 2 hok.hgt) rfl⟩
theorem All_l (hI : I.Ty) (hG : I.Trees5) : Fn I.P I.gAll [pa t 0] (I.tl t l cap n v) eSl Int (fun _ v' => Vis v v' l.length) fun y v' => (own I.tEl I.tE.C y l).sep (I.tl t l cap n v') := by
  rintro F w ⟨p, s, σ, hGA, hok, rfl⟩
  have hle := hok.le hGA
  have hsz := hok.size
  refine (All_fn hI hG hok.rep (by omega) F w hGA).mono fun u F1 w1 _ ⟨x, σ', hx, h1, F2, F3, hF, hd, h2, h3⟩ => ⟨x, σ'.visits, hx, by rw [← hsz]; exact h1.Vis, F2, F3, hF, hd, by rw [← hok.el]; exact h2, p, s, σ', h3, hok.keep h1, rfl⟩

theorem Put_l (hI : I.Ty) (hG : I.Trees3) (hL : I.Laws) (hc : CmpOk I.cmp) (e : E) (hn1 : n + 1 < 4294967296) : Fn I.P I.gPut [pa t 0, I.tE.val e] (I.tl t l cap n v) eBool Int (fun (b : Bool) v' => b = (putRes I.cmp e l cap).2 ∧ Vis v v' (81 * hgt l.length)) fun _ v' => I.tl t (putRes I.cmp e l cap).1 cap (n + 1) v' := by
  rintro F w ⟨p, s, σ, hGA, hok, rfl⟩
  have hle := hok.le hGA
  have hsz := hok.size
  refine (Put_g hI hG hL e hn1 hok.rep hok.nd (by omega) F w hGA).mono fun u F1 w1 _ ⟨b, hb, r', σ', h1, h2⟩ => ?_
  have hhas : s.has I.cmp e = hasL I.cmp e l := by rw [BT.has_elems hc hok.srt', hok.el]
  have hel : ∀ m, (s.ins I.cmp m e).elems = insL I.cmp e l := fun m => by rw [BT.ins_elems hc hok.srt', hok.el]
  have hlen := insL_len (e := e) l hok.srt hc
  have hC : ∀ m, s.insC I.cmp m e ≤ 81 * hgt l.length := fun m => Nat.le_trans (BT.insC_le hok.bal) (Nat.mul_le_mul_left 81 hok.hgt)
  cases h2 with
  | old a1 a2 a3 =>
    rw [hhas] at a1
    have hp : putRes I.cmp e l cap = (insL I.cmp e l, true) := by unfold putRes; rw [if_pos (.inl a1)]
    refine ⟨true, σ'.visits, hb, ⟨by rw [hp], (a3.Vis).mono (hC _)⟩, p, _, σ', h1, ⟨a2, BT.ins_nodup _ hok.nd (by rw [hhas, a1]; simp), BT.ins_bal hok.bal, by rw [hp]; exact hel _, by rw [hp]; exact insL_srt hc hok.srt, ?_, by rw [a3.cap]; exact hok.cap⟩, rfl⟩
    rw [a3.held, hok.held, hp]; simp only; rw [hlen, a1]; simp
  | full a1 a2 a3 =>
    rw [hhas] at a1
    rw [hok.held, hok.cap] at a2
    have hp : putRes I.cmp e l cap = (l, false) := by unfold putRes; rw [if_neg (by rw [a1]; simp [a2])]
    exact ⟨false, σ'.visits, hb, ⟨by rw [hp], (a3.Vis).mono (hC _)⟩, p, s, σ', h1, by rw [hp]; exact hok.keep a3, rfl⟩
  | new m a1 a2 a3 a4 a5 a6 =>
    rw [hhas] at a1
    rw [hok.held, hok.cap] at a2
    have hp : putRes I.cmp e l cap = (insL I.cmp e l, true) := by unfold putRes; rw [if_pos (.inr a2)]
    refine ⟨true, σ'.visits, hb, ⟨by rw [hp], (a6.Vis).mono (hC _)⟩, p, _, σ', h1, ⟨a5, BT.ins_nodup _ hok.nd (fun _ hq => by obtain ⟨v, hv⟩ := rep_some hok.rep m hq; rw [a4] at hv; cases hv), BT.ins_bal hok.bal, by rw [hp]; exact hel _, by rw [hp]; exact insL_srt hc hok.srt, ?_, by rw [a6.cap]; exact hok.cap⟩, rfl⟩
    rw [a6.held, hok.held, hp]; simp only; rw [hlen, a1]; simp
def delRes (I : GI E A) (e : E) (l : List E) : List E × E × Bool := match delL I.cmp e l with
  | some x => (x.1, x.2, true)
  | none => (l, I.zE, false)
theorem Drop_l (hI : I.Ty) (hG : I.TreesE) (hc : CmpOk I.cmp) (e : E) : Fn I.P I.gDrop [pa t 0, I.tE.val e] (I.tl t l cap n v) (eEB I) Int (fun (x : E × Bool) v' => x = (delRes I e l).2 ∧ Vis v v' (81 * hgt l.length + 83)) fun _ v' => I.tl t (delRes I e l).1 cap n v' := by
  rintro F w ⟨p, s, σ, hGA, hok, rfl⟩
  have hle := hok.le hGA
  have hsz := hok.size
  refine (Drop_g hI hG e hok.rep hok.nd (by omega) F w hGA).mono fun u F1 w1 _ ⟨x, hx, r', σ', h1, h2⟩ => ?_
  have hdel : (s.del I.cmp e).map (fun x => (x.1.elems, x.2)) = delL I.cmp e l := by rw [BT.del_elems hc hok.srt', hok.el]
  have hC : s.delC I.cmp e ≤ 81 * hgt l.length + 83 := by have := BT.delC_le (cmp := I.cmp) (e := e) hok.bal; have := hok.hgt; omega
  obtain ⟨x1, x2⟩ := x
  cases h2 with
  | none a1 a2 =>
    rw [a1] at hdel
    have hp : delRes I e l = (l, I.zE, false) := by unfold delRes; rw [← hdel]; rfl
    exact ⟨(I.zE, false), σ'.visits, hx, ⟨by rw [hp]; rfl, (a2.Vis).mono hC⟩, p, s, σ', h1, by rw [hp]; exact hok.keep a2, rfl⟩
  | some y a1 a2 a3 =>
    rw [a1] at hdel
    have hp : delRes I e l = (y.1.elems, y.2, true) := by unfold delRes; rw [← hdel]; rfl
    obtain ⟨d1, d2, d3, d4, d5⟩ := delL_srt hc hok.srt hdel.symm
    refine ⟨(y.2, true), σ'.visits, hx, ⟨by rw [hp]; rfl, (a3.Vis).mono hC⟩, p, y.1, σ', h1, ⟨a2, BT.del_nodup _ a1 hok.nd, BT.del_bal hok.bal a1, by rw [hp], by rw [hp]; exact d1, ?_, by rw [a3.cap]; exact hok.cap⟩, rfl⟩
    rw [a3.held, hok.held, hp]; simp only at d5 ⊢; omega
theorem New_l (hI : I.Ty) (hG : I.TreesN) (c : Int) (k : Nat) (hk : k < 4294967296) : Fn I.P I.gNew [iV c] emp eBlk Unit (fun _ _ => True) fun t _ => I.tl t [] (clampI c 16777216) k 0 := fun F w hF => by
  have : F = none0 := hF
  subst this
  exact (New_g hI hG c k hk w).mono fun v F1 w1 _ ⟨x, p, h1, h2⟩ => ⟨x, (), h1, trivial, p, .nil, pool0 E A c, h2, ⟨trivial, List.nodup_nil, trivial, rfl, List.Pairwise.nil, rfl, rfl⟩, rfl⟩
theorem tl_up {n' : Nat} (h1 : n ≤ n') (h2 : n' < 4294967296) : (I.tl t l cap n v).Imp (I.tl t l cap n' v) := fun F w ⟨p, s, σ, h, k⟩ => ⟨p, s, σ, h.up h1 h2, k⟩
end GI
end Go.Sx

set_option linter.unusedVariables false
set_option linter.unusedSimpArgs false
set_option maxHeartbeats 4000000
namespace Go.Sx
open GI Asn Go.RowKit

/-! ### Where marks come down to nothing -/
def wt (m : Mark) : Int := if m.op.insert then (if m.here then 0 else 1) else -1
def wts (l : List Mark) : List Int := l.map wt
theorem wt_sm (l : List Mark) : Sm (wts l) := fun x hx => by
  obtain ⟨m, _, rfl⟩ := List.mem_map.1 hx
  unfold wt; split <;> (try split) <;> omega
theorem sum_w (m : Mark) : (Mark.sum m).weight = tideL [wt m] := by
  unfold Mark.sum wt
  split
  · split <;> exact tide_of1 _
  · split <;> exact tide_of1 _
theorem wts_len (l : List Mark) : (wts l).length = l.length := by simp [wts]
def BIG : Nat := 1099511627776
theorem plus_w {a b : Swell} {u v : List Int} (ha : a.weight = tideL u) (hb : b.weight = tideL v) (hu : Sm u) (hv : Sm v) (hl : u.length + v.length ≤ BIG) : (a.plus b).weight = tideL (u ++ v) := by
  show a.weight.plus b.weight = _
  rw [ha, hb]
  exact tideL_plus (Sm.app.2 ⟨hu, hv⟩) (by rw [List.length_append]; exact hl)
theorem bsum_w : ∀ (s : BT Mark), s.size ≤ BIG → (bsum wI s).weight = tideL (wts s.elems)
  | .nil, _ => rfl
  | .node r l e h, hb => by
    simp only [BT.size] at hb
    have h1 := bsum_w l (by omega)
    have h2 := bsum_w h (by omega)
    have hl := BT.size_elems l
    have hh := BT.size_elems h
    have e1 := plus_w (b := Mark.sum e) h1 (sum_w e) (wt_sm _) (wt_sm [e]) (by rw [wts_len]; simp; omega)
    have e2 := plus_w (a := (bsum wI l).plus (Mark.sum e)) e1 h2 (Sm.app.2 ⟨wt_sm _, wt_sm [e]⟩) (wt_sm _) (by rw [List.length_append, wts_len, wts_len]; simp; omega)
    show (((bsum wI l).plus (Mark.sum e)).plus (bsum wI h)).weight = _
    rw [e2]; simp [BT.elems, wts]
def mayB (base : Int) (a x : Swell) : Bool := decide (x.weight.n > 0) && decide (wr (wr (base + a.weight.sum) + x.weight.low) ≤ 0)
theorem mayB_hit {base : Int} {a x : Swell} {u v : List Int} (ha : a.weight = tideL u) (hx : x.weight = tideL v) (hu : Sm u) (hv : Sm v) (hl : u.length + v.length ≤ BIG) (hb : -1099511627776 ≤ base ∧ base ≤ 1099511627776) : mayB base a x = true ↔ Hit (base + u.sum) v := by
  unfold mayB BIG at *
  rw [ha, hx]
  have h1 := hu.sum
  have h2 := hv.low
  rw [Bool.and_eq_true, decide_eq_true_eq, decide_eq_true_eq]
  show (v.length : Int) > 0 ∧ wr (wr (base + u.sum) + lowL v) ≤ 0 ↔ _
  rw [wr_id (n := base + u.sum) (by omega) (by omega), wr_id (n := base + u.sum + lowL v) (by omega) (by omega)]
  by_cases e : v = []
  · subst e; simp [Hit]
  · rw [hit_low e]
    have : 0 < v.length := List.length_pos_iff.2 e
    constructor
    · exact fun h => h.2
    · exact fun h => ⟨by omega, h⟩

theorem nil_of {s : BT Mark} (h : s.elems = []) : s = .nil := by
  cases s with
  | nil => rfl
  | node r l e h2 => simp [BT.elems] at h

/-- First: what it finds, what it visits. -/
theorem fst_w {base : Int} (hb : -1099511627776 ≤ base ∧ base ≤ 1099511627776) : ∀ (s : BT Mark) (i : Int) (a : Swell) (pre : List Int), a.weight = tideL pre → Sm pre → pre.length + s.size ≤ BIG →
    (fst wI (mayB base) s i a).1 = fi (base + pre.sum) i (wts s.elems) ∧ ((fst wI (mayB base) s i a).1 < 0 → (fst wI (mayB base) s i a).2.weight = tideL (pre ++ wts s.elems)) ∧
    (((fst wI (mayB base) s i a).1 < 0 → fstC wI (mayB base) s i a ≤ 1 + (if i ≤ 0 then 0 else 4 * s.height)) ∧ fstC wI (mayB base) s i a ≤ 1 + (if i ≤ 0 then 3 else 7) * s.height)
  | .nil, i, a, pre, ha, hp, hl => by
    refine ⟨rfl, fun _ => ?_, fun _ => ?_, ?_⟩
    · show (a.weight.plus ⟨0, 0, 0⟩) = _
      rw [ha]
      simp only [BT.elems, wts, List.map_nil, List.append_nil]
      unfold Tide.plus tideL
      split
      · rename_i h0
        have : pre = [] := by simpa using h0
        subst this; rfl
      · rfl
    · rw [fstC]; omega
    · rw [fstC]; omega
  | .node r l e h, i, a, pre, ha, hp, hl => by
    have hsz : (BT.node r l e h).size = l.size + 1 + h.size := rfl
    rw [hsz] at hl
    have hel : wts (BT.node r l e h).elems = wts l.elems ++ wt e :: wts h.elems := by simp [BT.elems, wts]
    have hll : (wts l.elems).length = l.size := by rw [wts_len, BT.size_elems]
    have hhl : (wts h.elems).length = h.size := by rw [wts_len, BT.size_elems]
    have hsum := bsum_w (.node r l e h) (by rw [hsz]; omega)
    obtain ⟨a1, a2, a3, a4⟩ := fst_w hb l i a pre ha hp (by omega)
    have hmay : mayB base a (bsum wI (.node r l e h)) = true ↔ Hit (base + pre.sum) (wts (BT.node r l e h).elems) := mayB_hit ha hsum hp (wt_sm _) (by rw [wts_len, ← BT.size_elems]; show pre.length + (l.size + 1 + h.size) ≤ BIG; omega) hb
    have hhe : (BT.node r l e h).height = 1 + max l.height h.height := rfl
    have hfa := fi_app (wts l.elems) (base + pre.sum) i (wt e) (wts h.elems)
    rw [hll] at hfa
    rw [fst, fstC]
    by_cases c : i ≥ ((BT.node r l e h).size : Int) ∨ i ≤ 0 ∧ mayB base a (bsum wI (.node r l e h)) = false
    · rw [if_pos c, if_pos c]
      have hf : fi (base + pre.sum) i (wts (BT.node r l e h).elems) = -1 := by
        rcases c with c | ⟨c1, c2⟩
        · refine fi_past ?_
          rw [wts_len, ← BT.size_elems]; exact c
        · have hn : ¬ Hit (base + pre.sum) (wts (BT.node r l e h).elems) := fun hh => by rw [hmay.2 hh] at c2; cases c2
          have : ¬ 0 ≤ fi (base + pre.sum) i (wts (BT.node r l e h).elems) := fun hh => hn ((fi_hit c1).1 hh)
          have := fi_ge (base + pre.sum) i (wts (BT.node r l e h).elems)
          omega
      refine ⟨hf.symm, fun _ => ?_, fun _ => ?_, ?_⟩
      · exact plus_w ha hsum hp (wt_sm _) (by rw [wts_len, ← BT.size_elems]; show pre.length + (l.size + 1 + h.size) ≤ BIG; omega)
      · omega
      · omega
    · rw [if_neg c, if_neg c]
      simp only
      rw [hel, hfa]
      have hfound : i ≤ 0 → 0 ≤ fi (base + pre.sum) i (wts l.elems ++ wt e :: wts h.elems) := fun hi => by
        rw [← hel]
        refine (fi_hit hi).2 (hmay.1 ?_)
        cases hm : mayB base a (bsum wI (.node r l e h)) with
        | true => rfl
        | false => exact absurd (.inr ⟨hi, hm⟩) c
      rw [hfa] at hfound
      by_cases d1 : 0 ≤ fi (base + pre.sum) i (wts l.elems)
      · have d1' : (fst wI (mayB base) l i a).1 ≥ 0 := by rw [a1]; exact d1
        rw [if_pos d1', if_pos d1', if_pos d1]
        refine ⟨a1, fun hh => ?_, fun hh => ?_, ?_⟩
        · rw [a1] at hh; omega
        · rw [a1] at hh; omega
        · rw [hhe]; split at a4 <;> simp only [*, if_true, if_false] <;> omega
      · have d1' : ¬ (fst wI (mayB base) l i a).1 ≥ 0 := by rw [a1]; omega
        have hneg : (fst wI (mayB base) l i a).1 < 0 := by omega
        rw [if_neg d1', if_neg d1', if_neg d1]
        have hx2 := a2 hneg
        have a3' := a3 hneg
        have hpl : Sm (pre ++ wts l.elems) := Sm.app.2 ⟨hp, wt_sm _⟩
        have hse : (wI.sum e).weight = tideL [wt e] := sum_w e
        have hown : mayB base (fst wI (mayB base) l i a).2 (wI.sum e) = true ↔ base + pre.sum + (wts l.elems).sum + wt e ≤ 0 := by
          rw [mayB_hit hx2 hse hpl (wt_sm [e]) (by rw [List.length_append, hll]; simp; omega) hb, List.sum_append]
          simp only [Hit, or_false]; omega
        by_cases d2 : i ≤ (l.size : Int) ∧ mayB base (fst wI (mayB base) l i a).2 (wI.sum e) = true
        · rw [if_pos d2, if_pos d2, if_pos ⟨d2.1, hown.1 d2.2⟩]
          refine ⟨rfl, fun hh => (by simp only at hh; omega), fun hh => (by simp only at hh; omega), ?_⟩
          rw [hhe]; split at a3' <;> simp only [*, if_true, if_false] <;> omega
        · rw [if_neg d2, if_neg d2, if_neg (show ¬ (i ≤ (l.size : Int) ∧ base + pre.sum + (wts l.elems).sum + wt e ≤ 0) from fun hh => d2 ⟨hh.1, hown.2 hh.2⟩)]
          have hx3 : (wI.plus (fst wI (mayB base) l i a).2 (wI.sum e)).weight = tideL ((pre ++ wts l.elems) ++ [wt e]) := plus_w hx2 hse hpl (wt_sm [e]) (by rw [List.length_append, hll]; simp; omega)
          obtain ⟨b1, b2, b3, b4⟩ := fst_w hb h (i - l.size - 1) (wI.plus (fst wI (mayB base) l i a).2 (wI.sum e)) ((pre ++ wts l.elems) ++ [wt e]) hx3 (Sm.app.2 ⟨hpl, wt_sm [e]⟩) (by simp only [List.length_append, hll, List.length_singleton]; omega)
          have hc' : base + ((pre ++ wts l.elems) ++ [wt e]).sum = base + pre.sum + (wts l.elems).sum + wt e := by simp only [List.sum_append, List.sum_cons, List.sum_nil]; omega
          rw [hc'] at b1
          rw [if_neg d1, if_neg (fun hh : i ≤ (l.size : Int) ∧ base + pre.sum + (wts l.elems).sum + wt e ≤ 0 => d2 ⟨hh.1, hown.2 hh.2⟩)] at hfound
          rw [← b1] at hfound ⊢
          -- the left part's cost, and the right one's
          have hleft : i > (l.size : Int) → fstC wI (mayB base) l i a ≤ 1 := fun hi => by
            cases l with
            | nil => rw [fstC]; exact Nat.le_refl _
            | node r2 l2 e2 h2 => rw [fstC, if_pos (.inl (by omega))]; exact Nat.le_refl _
          by_cases d3 : (fst wI (mayB base) h (i - l.size - 1) (wI.plus (fst wI (mayB base) l i a).2 (wI.sum e))).1 ≥ 0
          · rw [if_pos d3, if_pos d3]
            refine ⟨rfl, fun hh => (by simp only at hh; omega), fun hh => (by simp only at hh; omega), ?_⟩
            rw [hhe]
            by_cases hi : i ≤ 0
            · rw [if_pos hi] at a3' ⊢
              rw [if_pos (show i - (l.size : Int) - 1 ≤ 0 by omega)] at b4
              omega
            · rw [if_neg hi] at a3' ⊢
              by_cases hi2 : i > (l.size : Int)
              · have := hleft hi2
                split at b4 <;> omega
              · rw [if_pos (show i - (l.size : Int) - 1 ≤ 0 by omega)] at b4
                omega
          · rw [if_neg d3, if_neg d3]
            have d3' : (fst wI (mayB base) h (i - l.size - 1) (wI.plus (fst wI (mayB base) l i a).2 (wI.sum e))).1 < 0 := by omega
            have b3' := b3 d3'
            have hg := fi_ge (base + pre.sum + (wts l.elems).sum + wt e) (i - l.size - 1) (wts h.elems)
            have hcost : 2 + fstC wI (mayB base) l i a + fstC wI (mayB base) h (i - l.size - 1) (wI.plus (fst wI (mayB base) l i a).2 (wI.sum e)) ≤ 1 + (if i ≤ 0 then 0 else 4 * (1 + max l.height h.height)) := by
              by_cases hi : i ≤ 0
              · have hfo := hfound hi
                rw [if_neg d3] at hfo
                exact absurd hfo (by omega)
              · rw [if_neg hi] at a3' ⊢
                by_cases hi2 : i > (l.size : Int)
                · have := hleft hi2
                  split at b3' <;> omega
                · rw [if_pos (show i - (l.size : Int) - 1 ≤ 0 by omega)] at b3'
                  omega
            refine ⟨by rw [b1] at d3' ⊢; omega, fun _ => ?_, fun _ => by rw [hhe]; exact hcost, ?_⟩
            · rw [b2 d3', List.append_assoc, List.append_assoc]; rfl
            · rw [hhe]
              split at hcost
              · rename_i hi
                have hfo := hfound hi
                rw [if_neg d3] at hfo
                exact absurd hfo (by omega)
              · rename_i hi; rw [if_neg hi]; omega
end Go.Sx

set_option linter.unusedVariables false
set_option linter.unusedSimpArgs false
set_option maxHeartbeats 4000000
namespace Go.Sx
open GI Asn Go.RowKit

/-- Last: what it finds, what it visits. -/
theorem lst_w {base : Int} (hb : -1099511627776 ≤ base ∧ base ≤ 1099511627776) : ∀ (s : BT Mark) (i : Int) (a : Swell) (pre : List Int), a.weight = tideL pre → Sm pre → pre.length + s.size ≤ BIG →
    lst wI (mayB base) s i a = la (base + pre.sum) i (wts s.elems) ∧
    ((lst wI (mayB base) s i a < 0 → lstC wI (mayB base) s i a ≤ 1 + (if i ≥ (s.size : Int) then 0 else 4 * s.height)) ∧ lstC wI (mayB base) s i a ≤ 1 + (if i ≥ (s.size : Int) then 3 else 7) * s.height)
  | .nil, i, a, pre, ha, hp, hl => ⟨rfl, fun _ => by rw [lstC]; omega, by rw [lstC]; omega⟩
  | .node r l e h, i, a, pre, ha, hp, hl => by
    have hsz : (BT.node r l e h).size = l.size + 1 + h.size := rfl
    rw [hsz] at hl
    have hel : wts (BT.node r l e h).elems = wts l.elems ++ wt e :: wts h.elems := by simp [BT.elems, wts]
    have hll : (wts l.elems).length = l.size := by rw [wts_len, BT.size_elems]
    have hhl : (wts h.elems).length = h.size := by rw [wts_len, BT.size_elems]
    have hwl : (wts (BT.node r l e h).elems).length = (BT.node r l e h).size := by rw [wts_len, BT.size_elems]
    have hsum := bsum_w (.node r l e h) (by rw [hsz]; omega)
    have hsuml := bsum_w l (by omega)
    obtain ⟨a1, a3, a4⟩ := lst_w hb l i a pre ha hp (by omega)
    have hmay : mayB base a (bsum wI (.node r l e h)) = true ↔ Hit (base + pre.sum) (wts (BT.node r l e h).elems) := mayB_hit ha hsum hp (wt_sm _) (by rw [hwl, hsz]; omega) hb
    have hhe : (BT.node r l e h).height = 1 + max l.height h.height := rfl
    have hla := la_app (wts l.elems) (base + pre.sum) i (wt e) (wts h.elems)
    rw [hll] at hla
    have hxl : (wI.plus a (bsum wI l)).weight = tideL (pre ++ wts l.elems) := plus_w ha hsuml hp (wt_sm _) (by rw [hll]; omega)
    have hpl : Sm (pre ++ wts l.elems) := Sm.app.2 ⟨hp, wt_sm _⟩
    have hse : (wI.sum e).weight = tideL [wt e] := sum_w e
    have hx3 : (wI.plus (wI.plus a (bsum wI l)) (wI.sum e)).weight = tideL ((pre ++ wts l.elems) ++ [wt e]) := plus_w hxl hse hpl (wt_sm [e]) (by rw [List.length_append, hll]; simp; omega)
    obtain ⟨b1, b3, b4⟩ := lst_w hb h (i - l.size - 1) (wI.plus (wI.plus a (bsum wI l)) (wI.sum e)) ((pre ++ wts l.elems) ++ [wt e]) hx3 (Sm.app.2 ⟨hpl, wt_sm [e]⟩) (by simp only [List.length_append, hll, List.length_singleton]; omega)
    have hc' : base + ((pre ++ wts l.elems) ++ [wt e]).sum = base + pre.sum + (wts l.elems).sum + wt e := by simp only [List.sum_append, List.sum_cons, List.sum_nil]; omega
    rw [hc'] at b1
    have hown : mayB base (wI.plus a (bsum wI l)) (wI.sum e) = true ↔ base + pre.sum + (wts l.elems).sum + wt e ≤ 0 := by
      rw [mayB_hit hxl hse hpl (wt_sm [e]) (by rw [List.length_append, hll]; simp; omega) hb, List.sum_append]
      simp only [Hit, or_false]; omega
    rw [lst, lstC]
    by_cases c : i ≤ 0 ∨ i ≥ ((BT.node r l e h).size : Int) ∧ mayB base a (bsum wI (.node r l e h)) = false
    · rw [if_pos c, if_pos c]
      have hf : la (base + pre.sum) i (wts (BT.node r l e h).elems) = -1 := by
        rcases c with c | ⟨c1, c2⟩
        · exact la_low c
        · have hn : ¬ Hit (base + pre.sum) (wts (BT.node r l e h).elems) := fun hh => by rw [hmay.2 hh] at c2; cases c2
          have : ¬ 0 ≤ la (base + pre.sum) i (wts (BT.node r l e h).elems) := fun hh => hn ((la_hit (by rw [hwl]; exact c1)).1 hh)
          have := la_ge (base + pre.sum) i (wts (BT.node r l e h).elems)
          omega
      exact ⟨hf.symm, fun _ => by omega, by omega⟩
    · rw [if_neg c, if_neg c]
      simp only
      have hfound : i ≥ ((BT.node r l e h).size : Int) → 0 ≤ la (base + pre.sum) i (wts (BT.node r l e h).elems) := fun hi => by
        refine (la_hit (by rw [hwl]; exact hi)).2 (hmay.1 ?_)
        cases hm : mayB base a (bsum wI (.node r l e h)) with
        | true => rfl
        | false => exact absurd (.inr ⟨hi, hm⟩) c
      rw [hel] at hfound
      rw [hel, hla]
      rw [hla] at hfound
      rw [← b1] at hfound ⊢
      rw [← a1] at hfound ⊢
      have hright : i ≤ (l.size : Int) + 1 → lstC wI (mayB base) h (i - l.size - 1) (wI.plus (wI.plus a (bsum wI l)) (wI.sum e)) ≤ 1 := fun hi => by
        cases h with
        | nil => rw [lstC]; exact Nat.le_refl _
        | node r2 l2 e2 h2 => rw [lstC, if_pos (.inl (by omega))]; exact Nat.le_refl _
      rw [hsz] at hfound c
      rw [hhe, hsz]
      by_cases d1 : lst wI (mayB base) h (i - l.size - 1) (wI.plus (wI.plus a (bsum wI l)) (wI.sum e)) ≥ 0
      · rw [if_pos d1, if_pos d1, if_pos d1]
        refine ⟨rfl, fun hh => (by omega), ?_⟩
        split at b4 <;> split <;> omega
      · rw [if_neg d1, if_neg d1, if_neg d1] at *
        have d1' : lst wI (mayB base) h (i - l.size - 1) (wI.plus (wI.plus a (bsum wI l)) (wI.sum e)) < 0 := by omega
        have b3' := b3 d1'
        by_cases d2 : i > (l.size : Int) ∧ mayB base (wI.plus a (bsum wI l)) (wI.sum e) = true
        · rw [if_pos d2, if_pos d2, if_pos ⟨d2.1, hown.1 d2.2⟩]
          refine ⟨rfl, fun hh => (by omega), ?_⟩
          split at b3' <;> split <;> omega
        · rw [if_neg d2, if_neg d2, if_neg (show ¬ (i > (l.size : Int) ∧ base + pre.sum + (wts l.elems).sum + wt e ≤ 0) from fun hh => d2 ⟨hh.1, hown.2 hh.2⟩)]
          rw [if_neg (show ¬ (i > (l.size : Int) ∧ base + pre.sum + (wts l.elems).sum + wt e ≤ 0) from fun hh => d2 ⟨hh.1, hown.2 hh.2⟩)] at hfound
          refine ⟨rfl, fun hh => ?_, ?_⟩
          · have a3' := a3 hh
            by_cases hi : i ≥ ((l.size + 1 + h.size : Nat) : Int)
            · have := hfound hi; omega
            · rw [if_neg hi]
              by_cases hi2 : i ≤ (l.size : Int) + 1
              · have := hright hi2
                split at a3' <;> omega
              · rw [if_pos (show i ≥ (l.size : Int) by omega)] at a3'
                split at b3' <;> omega
          · by_cases hi : i ≥ ((l.size + 1 + h.size : Nat) : Int)
            · rw [if_pos hi]
              rw [if_pos (show i - (l.size : Int) - 1 ≥ (h.size : Int) by omega)] at b3'
              rw [if_pos (show i ≥ (l.size : Int) by omega)] at a4
              omega
            · rw [if_neg hi]
              by_cases hi2 : i ≤ (l.size : Int) + 1
              · have := hright hi2
                split at a4 <;> omega
              · rw [if_pos (show i ≥ (l.size : Int) by omega)] at a4
                split at b3' <;> omega
end Go.Sx

set_option linter.unusedVariables false
set_option maxHeartbeats 1000000
namespace Go.Sx
open GI Asn Go.RowKit
/-! ### The trees of marks, in this program -/
theorem wP_ty : wI.pool.Ty where
  good := ⟨wI_ok, prog_mix⟩
  aI := by kernel_rfl
  aB := by kernel_rfl
  aIS := by kernel_rfl
  aS := by kernel_rfl
  aN := by kernel_rfl
  sI := by kernel_rfl
  sB := by kernel_rfl
  sIS := by kernel_rfl
  sS := by kernel_rfl
  sN := by kernel_rfl
  sC := by kernel_rfl
  uS := by kernel_rfl
  uIS := by kernel_rfl
  zC := by
    refine ⟨(Go.Proofs.Try.prog.info? 176).get (by kernel_rfl), ((Go.Proofs.Try.prog.info? 176).get (by kernel_rfl)).zero.get (by kernel_rfl), _, ?_, ?_, ?_, rfl, ?_⟩
    · kernel_rfl
    · kernel_rfl
    · kernel_rfl
    · exact Nat.le_of_ble_eq_true (by kernel_rfl)
  zI := by
    refine ⟨(Go.Proofs.Try.prog.info? 3).get (by kernel_rfl), ((Go.Proofs.Try.prog.info? 3).get (by kernel_rfl)).zero.get (by kernel_rfl), ?_, ?_, ?_, ?_⟩
    · kernel_rfl
    · kernel_rfl
    · kernel_rfl
    · kernel_rfl
  d1 := by decide
  d2 := by decide
  d3 := by decide
theorem wP_trees : wI.pool.Trees where
  find t r := fnT (fn := Go.Proofs.Try.f106) (fc := {}) (by kernel_rfl) (by kernel_rfl) (by kernel_rfl)
  get t r := fnT (fn := Go.Proofs.Try.f91) (fc := {}) (by kernel_rfl) (by kernel_rfl) (by kernel_rfl)
  set t r v := fnT (fn := Go.Proofs.Try.f104) (fc := {}) (by kernel_rfl) (by kernel_rfl) (by kernel_rfl)
  next t := fnT (fn := Go.Proofs.Try.f109) (fc := {}) (by kernel_rfl) (by kernel_rfl) (by kernel_rfl)
  put t v := fnT (fn := Go.Proofs.Try.f102) (fc := {}) (by kernel_rfl) (by kernel_rfl) (by kernel_rfl)
  visits t := fnT (fn := Go.Proofs.Try.f70) (fc := {}) (by kernel_rfl) (by kernel_rfl) (by kernel_rfl)
theorem w_ty : wI.Ty where
  pool := wP_ty
  poolF := wP_trees
  aRef := by kernel_rfl
  sRef := by kernel_rfl
  aTP := by kernel_rfl
  d1 := by decide
  d2 := by decide
  d3 := by decide
theorem w_t1 : wI.Trees where
  get t r := fnT (fn := Go.Proofs.Try.f69) (fc := {}) (by kernel_rfl) (by kernel_rfl) (by kernel_rfl)
  lay t r l h := fnT (fn := Go.Proofs.Try.f105) (fc := {}) (by kernel_rfl) (by kernel_rfl) (by kernel_rfl)
  weight t r := fnT (fn := Go.Proofs.Try.f110) (fc := {}) (by kernel_rfl) (by kernel_rfl) (by kernel_rfl)
  turnL t r := fnT (fn := Go.Proofs.Try.f113) (fc := {}) (by kernel_rfl) (by kernel_rfl) (by kernel_rfl)
  turnR t r := fnT (fn := Go.Proofs.Try.f112) (fc := {}) (by kernel_rfl) (by kernel_rfl) (by kernel_rfl)
  balance t r := fnT (fn := Go.Proofs.Try.f111) (fc := {}) (by kernel_rfl) (by kernel_rfl) (by kernel_rfl)
  link t l m h := fnT (fn := Go.Proofs.Try.f103) (fc := {}) (by kernel_rfl) (by kernel_rfl) (by kernel_rfl)
theorem w_t2 : wI.Trees2 where
  base := w_t1
  put t r e := fnT (fn := Go.Proofs.Try.f90) (fc := {}) (by kernel_rfl) (by kernel_rfl) (by kernel_rfl)
theorem w_t3 : wI.Trees3 where
  base := w_t2
  len t := fnT (fn := Go.Proofs.Try.f37) (fc := {}) (by kernel_rfl) (by kernel_rfl) (by kernel_rfl)
  visits t := fnT (fn := Go.Proofs.Try.f38) (fc := {}) (by kernel_rfl) (by kernel_rfl) (by kernel_rfl)
  Put t e := fnT (fn := Go.Proofs.Try.f68) (fc := {}) (by kernel_rfl) (by kernel_rfl) (by kernel_rfl)
theorem w_t4 : wI.Trees4 where
  base := w_t3
  between t r i j := fnT (fn := Go.Proofs.Try.f95) (fc := {}) (by kernel_rfl) (by kernel_rfl) (by kernel_rfl)
  Between t i j := fnT (fn := Go.Proofs.Try.f75) (fc := {}) (by kernel_rfl) (by kernel_rfl) (by kernel_rfl)
theorem w_tN : wI.TreesN where
  new n := fnT (fn := Go.Proofs.Try.f89) (fc := { esc := [6] }) (by kernel_rfl) (by kernel_rfl) (by kernel_rfl)
  pnew n := fnT (fn := Go.Proofs.Try.f101) (fc := { esc := [7] }) (by kernel_rfl) (by kernel_rfl) (by kernel_rfl)
theorem w_tF (b : Nat) : wI.TreesF 93 [pa b 0] where
  first t r i a := fnT (fn := Go.Proofs.Try.f92) (fc := {}) (by kernel_rfl) (by kernel_rfl) (by kernel_rfl)
  First t i := fnT (fn := Go.Proofs.Try.f72) (fc := {}) (by kernel_rfl) (by kernel_rfl) (by kernel_rfl)
theorem w_tL (b : Nat) : wI.TreesL 93 [pa b 0] where
  lastOf t r i a := fnT (fn := Go.Proofs.Try.f94) (fc := {}) (by kernel_rfl) (by kernel_rfl) (by kernel_rfl)
  Last t i := fnT (fn := Go.Proofs.Try.f74) (fc := {}) (by kernel_rfl) (by kernel_rfl) (by kernel_rfl)
theorem w_laws : wI.Laws where
  one m := by
    show Swell.plus (Swell.plus ⟨⟨0, 0, 0⟩, ⟨0, 0, 0⟩, 0, 0, ⟨0, 0⟩, ⟨false, ⟨0, 0⟩⟩, ⟨false, ⟨0, 0⟩⟩⟩ (Mark.sum m)) ⟨⟨0, 0, 0⟩, ⟨0, 0, 0⟩, 0, 0, ⟨0, 0⟩, ⟨false, ⟨0, 0⟩⟩, ⟨false, ⟨0, 0⟩⟩⟩ = Mark.sum m
    have w0 : wr 0 = 0 := wr_id (by omega) (by omega)
    have w1 : wr 1 = 1 := wr_id (by omega) (by omega)
    unfold Mark.sum
    split
    · split <;> simp [Swell.plus, Swell.taken, better, Tide.of, Tide.plus, tookZ, w0]
    · split <;> simp [Swell.plus, Swell.taken, better, Tide.of, Tide.plus, tookZ, w0, w1]
end Go.Sx

set_option linter.unusedVariables false
set_option maxHeartbeats 1000000
namespace Go.Sx
open GI
def eLow : Enc := ⟨Nat, fun b => .func (.func 93) #[] #[pa b 0]⟩
noncomputable def brC : Cfg where
  P := Go.Proofs.Try.prog
  hint t := lookup t [(3, Hint.ofE eInt), (4, Hint.ofE eBool), (72, Hint.ofE eTook), (74, Hint.ofE eMark), (76, Hint.ofE eSwell), (65, Hint.ofE eBlk)]
  res f := lookup f [(37, Hint.ofE eInt), (75, Hint.ofE eSwell), (72, Hint.ofE eInt), (74, Hint.ofE eInt), (66, Hint.ofE eInt), (71, Hint.ofE eInt), (73, Hint.ofE eLow), (89, Hint.ofE eBlk)]
  pure _ := none
  meth _ _ := none

noncomputable def waveNewT (n : Int) : Tree :=
  .call 89 [iV n].toArray [] eBlk fun (p1 : Nat) =>
  .ret (pa p1 0)
theorem waveNew_t (n : Int) : FnT brC 67 [iV n] (waveNewT n) := fnT (fn := Go.Proofs.Try.f67) (fc := {}) (by kernel_rfl) (by kernel_rfl) (by kernel_rfl)
noncomputable def low1T (a x : Swell) (b : Nat) : Tree :=
  .ite (decide (x.weight.n > 0))
  (.prim (Instr.loadAt 3 (pa b 0)) [] eInt fun (i1 : Int) =>
   .ret (.bool (decide (wr (wr (i1 + a.weight.sum) + x.weight.low) ≤ 0))))
  (.ret (.bool false))
theorem low1_t (a x : Swell) (b : Nat) : FnT brC 93 [ag (swellC a), ag (swellC x), pa b 0] (low1T a x b) := fnT (fn := Go.Proofs.Try.f93) (fc := {}) (by kernel_rfl) (by kernel_rfl) (by kernel_rfl)
noncomputable def lowT (b : Int) : Tree :=
  .prim (Instr.box 3 (iV b)) [] eBlk fun (p1 : Nat) =>
  .ret (.func (.func 93) #[] #[pa p1 0])
theorem low_t (b : Int) : FnT brC 73 [iV b] (lowT b) := fnT (fn := Go.Proofs.Try.f73) (fc := { esc := [1] }) (by kernel_rfl) (by kernel_rfl) (by kernel_rfl)
noncomputable def brClampT (t : Nat) (p : Int) : Tree :=
  .prim (Builtin.max_ #[3, 3] 3 #[(iV p), (iV 0)]) [] eInt fun (i1 : Int) =>
  .call 37 [pa t 0].toArray [] eInt fun (i2 : Int) =>
  .prim (Builtin.min_ #[3, 3] 3 #[(iV i1), (iV i2)]) [] eInt fun (i3 : Int) =>
  .ret (iV i3)
theorem brClamp_t (t : Nat) (p : Int) : FnT brC 71 [pa t 0, iV p] (brClampT t p) := fnT (fn := Go.Proofs.Try.f71) (fc := {}) (by kernel_rfl) (by kernel_rfl) (by kernel_rfl)
noncomputable def brHeightT (t : Nat) (p b : Int) : Tree :=
  .call 75 [pa t 0, iV 0, iV p].toArray [] eSwell fun (x1 : Swell) =>
  .ret (iV (wr (b + x1.weight.sum)))
theorem brHeight_t (t : Nat) (p b : Int) : FnT brC 66 [pa t 0, iV p, iV b] (brHeightT t p b) := fnT (fn := Go.Proofs.Try.f66) (fc := {}) (by kernel_rfl) (by kernel_rfl) (by kernel_rfl)
noncomputable def brNextT (t : Nat) (p b : Int) : Tree :=
  .call 71 [pa t 0, iV p].toArray [] eInt fun (i1 : Int) =>
  .call 66 [pa t 0, iV i1, iV b].toArray [] eInt fun (i2 : Int) =>
  .ite (decide (i2 ≤ 0))
  (.ret (iV i1))
  (.call 73 [iV b].toArray [] eLow fun (p1 : Nat) =>
   .call 72 [pa t 0, iV i1, .func (.func 93) #[] #[pa p1 0]].toArray [] eInt fun (i3 : Int) =>
   .ite (decide (i3 ≥ 0))
   (.ret (iV (wr (i3 + 1))))
   (.ret (iV (-1))))
theorem brNext_t (t : Nat) (p b : Int) : FnT brC 39 [pa t 0, iV p, iV b] (brNextT t p b) := fnT (fn := Go.Proofs.Try.f39) (fc := {}) (by kernel_rfl) (by kernel_rfl) (by kernel_rfl)
noncomputable def brPriorT (t : Nat) (p b : Int) : Tree :=
  .call 71 [pa t 0, iV p].toArray [] eInt fun (i1 : Int) =>
  .call 73 [iV b].toArray [] eLow fun (p1 : Nat) =>
  .call 74 [pa t 0, iV i1, .func (.func 93) #[] #[pa p1 0]].toArray [] eInt fun (i2 : Int) =>
  .ite (decide (i2 ≥ 0))
  (.ret (iV (wr (i2 + 1))))
  (.ite (decide (b ≤ 0))
   (.ret (iV 0))
   (.ret (iV (-1))))
theorem brPrior_t (t : Nat) (p b : Int) : FnT brC 40 [pa t 0, iV p, iV b] (brPriorT t p b) := fnT (fn := Go.Proofs.Try.f40) (fc := {}) (by kernel_rfl) (by kernel_rfl) (by kernel_rfl)
noncomputable def brBestT (t : Nat) (p : Int) : Tree :=
  .call 71 [pa t 0, iV p].toArray [] eInt fun (i1 : Int) =>
  .call 37 [pa t 0].toArray [] eInt fun (i2 : Int) =>
  .call 75 [pa t 0, iV i1, iV i2].toArray [] eSwell fun (x1 : Swell) =>
  .ret (ag [.bool x1.gone.found, iV x1.gone.item.key, iV x1.gone.item.id])
theorem brBest_t (t : Nat) (p : Int) : FnT brC 41 [pa t 0, iV p] (brBestT t p) := fnT (fn := Go.Proofs.Try.f41) (fc := {}) (by kernel_rfl) (by kernel_rfl) (by kernel_rfl)
noncomputable def brLeastT (t : Nat) (p : Int) : Tree :=
  .call 71 [pa t 0, iV p].toArray [] eInt fun (i1 : Int) =>
  .call 75 [pa t 0, iV 0, iV i1].toArray [] eSwell fun (x1 : Swell) =>
  .ret (ag [.bool x1.least.found, iV x1.least.item.key, iV x1.least.item.id])
theorem brLeast_t (t : Nat) (p : Int) : FnT brC 42 [pa t 0, iV p] (brLeastT t p) := fnT (fn := Go.Proofs.Try.f42) (fc := {}) (by kernel_rfl) (by kernel_rfl) (by kernel_rfl)
end Go.Sx

set_option linter.unusedVariables false
set_option linter.unusedSimpArgs false
set_option maxHeartbeats 2000000
namespace Go.Sx
open GI Asn Go.RowKit

/-! ### Bridges: contracts -/
theorem brC_P : brC.P = Go.Proofs.Try.prog := rfl
theorem brC_ok : brC.Ok := ⟨fun f g args v h _ => (by cases h), fun t n f h => (by cases h), fun f g e n cells v h _ => (by cases h)⟩
theorem icmpOk (f : Mark → Int) : CmpOk fun a b => icmp (f a) (f b) where
  swap a b := by unfold icmp; split <;> split <;> (try split) <;> (try split) <;> omega
  trans a b c := by unfold icmp; intro h1 h2; split at h1 <;> split at h2 <;> (try split at h1) <;> (try split at h2) <;> split <;> (try split) <;> omega
  eqL a b c := by unfold icmp; intro h; split at h <;> (try split at h) <;> split <;> split <;> (try split) <;> (try split) <;> omega
  eqR a b c := by unfold icmp; intro h; split at h <;> (try split at h) <;> split <;> split <;> (try split) <;> (try split) <;> omega
theorem markOk : CmpOk wI.cmp := icmpOk fun m => m.op.time

section
variable {t : Nat} {l : List Mark} {cap v : Int} {n : Nat}
theorem AT.box1 {J : Jc} {Λ : Lam} {A : Asn} {ty : TypeId} {x : Int} {k : Nat → Tree} (hk : ∀ b, AT J Lam.none (A.sep (blk b ty [iV x])) (k b)) : AT J Λ A (.prim (Instr.box ty (iV x)) [] eBlk k) := by
  intro hΓ F w ha _ w' hag
  have ha' : A.at_ F w' := A.keep ha fun b hb => hag.block b (.inr hb)
  have hrun : (Instr.box ty (iV x)).run J.P w' = .ok (eBlk.enc w'.heap.size) (w'.alloc (.cells (List.toArray [iV x]) ty)) := run_box_new ty (iV x)
  have hold : ∀ b, b < w'.heap.size → (w'.alloc (.cells (List.toArray [iV x]) ty)).heap[b]? = w'.heap[b]? := fun b hb => Below.heap_alloc w' _ b hb
  have hsz : (w'.alloc (.cells (List.toArray [iV x]) ty)).heap.size = w'.heap.size + 1 := World.size_alloc w' _
  refine ⟨w'.heap.size, fun b => F b ∨ b = w'.heap.size, _, hrun, ⟨⟨rfl, rfl, rfl, by rw [hsz]; exact Nat.le_succ _, fun b hb _ => hold b hb⟩, fun b hb => ?_, fun b hb => ?_⟩, ?_, ?_⟩
  · rcases hb with hb | rfl
    · exact .inl hb
    · exact .inr (Nat.le_refl _)
  · rw [hsz]
    rcases hb with hb | rfl
    · exact Nat.lt_succ_of_lt (A.lt ha' b hb)
    · exact Nat.lt_succ_self _
  · rw [lam_cut_nil]; exact lam_none_ok
  · rw [lam_cut_nil]
    refine hk _ hΓ _ _ ⟨F, fun b => b = w'.heap.size, rfl, fun b h1 h2 => ?_, A.keep ha' fun b hb => hold b (A.lt ha' b hb), rfl, heap_new w' _⟩ lam_none_ok
    subst h2; exact Nat.lt_irrefl _ (A.lt ha' _ h1)

/-- A number that a question remembers. -/
def pxB (p b : Nat) (base : Int) : Px where
  p := p
  G q := q = b
  K w := w.heap[b]? = some (.cells (List.toArray [iV base]) 3 (0, 0))
  stab w w' h hk := (h b rfl).trans hk
  lt w hk q hq := by subst hq; exact heap_lt hk
theorem low_may {p b : Nat} {base : Int} : wI.May t (pxB p b base) n 93 [pa b 0] (mayB base) := fun r0 σ x y => by
  refine Fn.gs (Fn.of brC_P brC_ok prog_mix (low1_t x y b) fun B => ?_)
  unfold low1T
  refine AT.iteD (fun h => ?_) (fun h => ?_)
  · refine AT.ld (H := eInt) base (fun F w hA => ?_) ?_
    · obtain ⟨Fp, rfl, h1, ⟨h2, hx1, hx2, hx3⟩, h3⟩ := hA
      exact ld_one (S := fun q => Fp q ∨ q = t ∨ q = b) (cs := [iV base]) (.inr (.inr rfl)) hx3 aInt rfl
    · refine AT.ret (H := eBool) (mayB base x y) σ ?_ ⟨rfl, rfl⟩ (Imp.refl _)
      unfold mayB; simp [h, eBool]
  · refine AT.ret (H := eBool) (mayB base x y) σ ?_ ⟨rfl, rfl⟩ (Imp.refl _)
    unfold mayB; simp [h, eBool]
/-- A contract over a tree and the number: from the one over its pool. -/
theorem tlB_same {f : FuncId} {args : List Value} {H : Enc} {b : Nat} {base : Int} {x0 : H.T} {c : Nat} (h : ∀ (p : Nat) (s : BT Mark) (σ : Pool (Nd Mark Swell)), wI.TOk σ s l cap → s.size ≤ 16777216 → wI.GS t (pxB p b base) s.ref n n σ f args H fun x σ' => x = x0 ∧ Tch σ σ' No c 0) :
    Fn Go.Proofs.Try.prog f args ((wI.tl t l cap n v).sep (blk b 3 [iV base])) H Int (fun x v' => x = x0 ∧ Vis v v' c) fun _ v' => (wI.tl t l cap n v').sep (blk b 3 [iV base]) := by
  rintro F w ⟨F1, F2, rfl, hd, ⟨p, s, σ, ⟨Fp, rfl, g1, ⟨g2, g3⟩, g4⟩, hok, rfl⟩, rfl, hb⟩
  have hle := hok.le (p := px p) (r := s.ref) (F := fun b => Fp b ∨ b = t ∨ (px p).G b) (w := w) ⟨Fp, rfl, g1, ⟨g2, g3⟩, g4⟩
  have hsz := hok.size
  have hGA : wI.GAt t (pxB p b base) s.ref σ n (fun q => (Fp q ∨ q = t ∨ (px p).G q) ∨ q = b) w := by
    refine ⟨Fp, ?_, g1, ⟨g2, fun e => hd t (.inr (.inl rfl)) e, fun q hq hF => hd q (.inl hF) hq, hb⟩, g4⟩
    funext q; simp [px, pxB, or_assoc]
  refine (h p s σ hok (by omega) _ w hGA).mono fun u F3 w1 _ ⟨x, hx, σ', h1, h2, h3⟩ => ?_
  obtain ⟨Fp', rfl, k1, ⟨k2, k3, k4, k5⟩, k6⟩ := h1
  refine ⟨x, σ'.visits, hx, ⟨h2, h3.Vis⟩, fun q => Fp' q ∨ q = t ∨ (px p).G q, fun q => q = b, ?_, fun q hq hqb => ?_, ⟨p, s, σ', ⟨Fp', rfl, k1, ⟨k2, fun hh => hh, fun q hq _ => hq, trivial⟩, k6⟩, hok.keep h3, rfl⟩, rfl, k5⟩
  · funext q; simp [px, pxB, or_assoc]
  · rcases hq with hq | hq | hq
    · exact k4 q hqb hq
    · exact k3 (by show t = b; rw [← hq]; exact hqb)
    · exact hq
theorem First_b {b : Nat} {base i : Int} (hb : -1099511627776 ≤ base ∧ base ≤ 1099511627776) : Fn Go.Proofs.Try.prog wI.gFirst [pa t 0, iV i, .func (.func 93) #[] #[pa b 0]] ((wI.tl t l cap n v).sep (blk b 3 [iV base])) eInt Int (fun (x : Int) v' => x = fi base (clampI i l.length) (wts l) ∧ Vis v v' (2 + 7 * hgt l.length)) fun _ v' => (wI.tl t l cap n v').sep (blk b 3 [iV base]) :=
  tlB_same (x0 := (show eInt.T from fi base (clampI i l.length) (wts l))) fun p s σ hok hsz => (First_g w_ty w_t3 (w_tF b) low_may hok.rep (by omega)).mono fun x σ' ⟨h1, h2⟩ => by
    obtain ⟨a1, a2, a3, a4⟩ := fst_w hb s (clampI i s.size) wI.zA [] rfl (fun x hx => by cases hx) (by simp [BIG]; omega)
    have hh := hok.hgt
    refine ⟨by rw [h1, a1, hok.size, hok.el]; simp; rfl, h2.mono (fun _ h => h) ?_ rfl⟩
    split at a4 <;> omega
theorem Last_b {b : Nat} {base i : Int} (hb : -1099511627776 ≤ base ∧ base ≤ 1099511627776) : Fn Go.Proofs.Try.prog wI.gLastOf [pa t 0, iV i, .func (.func 93) #[] #[pa b 0]] ((wI.tl t l cap n v).sep (blk b 3 [iV base])) eInt Int (fun (x : Int) v' => x = la base (clampI i l.length) (wts l) ∧ Vis v v' (2 + 7 * hgt l.length)) fun _ v' => (wI.tl t l cap n v').sep (blk b 3 [iV base]) :=
  tlB_same (x0 := (show eInt.T from la base (clampI i l.length) (wts l))) fun p s σ hok hsz => (Last_g w_ty w_t3 (w_tL b) low_may hok.rep (by omega)).mono fun x σ' ⟨h1, h2⟩ => by
    obtain ⟨a1, a3, a4⟩ := lst_w hb s (clampI i s.size) wI.zA [] rfl (fun x hx => by cases hx) (by simp [BIG]; omega)
    have hh := hok.hgt
    refine ⟨by rw [h1, a1, hok.size, hok.el]; simp; rfl, h2.mono (fun _ h => h) ?_ rfl⟩
    split at a4 <;> omega

/-- Sums of marks side by side. -/
theorem Between_l {i j : Int} : Fn Go.Proofs.Try.prog wI.gBetween [pa t 0, iV i, iV j] (wI.tl t l cap n v) eSwell (BT Mark × Int) (fun (x : Swell) y => y.1.elems = l ∧ x = btw wI y.1 (clampI i l.length) (clampI j l.length) ∧ Vis v y.2 (2 + 6 * hgt l.length)) fun _ y => wI.tl t l cap n y.2 := by
  rintro F w ⟨p, s, σ, hGA, hok, rfl⟩
  have hle := hok.le hGA
  have hsz := hok.size
  refine (Between_g w_ty w_t4 hok.rep (by omega) F w hGA).mono fun u F1 w1 _ ⟨x, hx, σ', h1, h2, h3⟩ => ⟨x, (s, σ'.visits), hx, ⟨hok.el, by rw [h2, hsz], ?_⟩, p, s, σ', h1, hok.keep h3, rfl⟩
  refine h3.Vis.mono ?_
  have := btwC_le s (clampI i s.size) (clampI j s.size)
  have := hok.hgt
  omega

theorem brClamp_l {p : Int} : Fn Go.Proofs.Try.prog 71 [pa t 0, iV p] (wI.tl t l cap n v) eInt Int (fun (x : Int) v' => x = clampI p l.length ∧ Vis v v' 1) fun _ v' => wI.tl t l cap n v' := by
  refine Fn.of brC_P brC_ok prog_mix (brClamp_t t p) fun B => ?_
  unfold brClampT
  refine AT.ld (H := eInt) (show Int from max p 0) (fun F w _ => ld_max) (AT.call0 (Len_l w_ty w_t3) ?_)
  rintro x v1 ⟨rfl, h1⟩
  refine AT.ld (H := eInt) (clampI p l.length) (fun F w _ => ld_min) ?_
  exact AT.ret (H := eInt) (clampI p l.length) v1 rfl ⟨rfl, h1⟩ (Imp.refl _)
theorem brHeight_l {p b : Int} : Fn Go.Proofs.Try.prog 66 [pa t 0, iV p, iV b] (wI.tl t l cap n v) eInt (BT Mark × Int) (fun (x : Int) y => y.1.elems = l ∧ x = wr (b + (btw wI y.1 (clampI 0 l.length) (clampI p l.length)).weight.sum) ∧ Vis v y.2 (2 + 6 * hgt l.length)) fun _ y => wI.tl t l cap n y.2 := by
  refine Fn.of brC_P brC_ok prog_mix (brHeight_t t p b) fun B => ?_
  unfold brHeightT
  refine AT.call0 Between_l ?_
  rintro x ⟨s, v1⟩ ⟨h1, h2, h3⟩
  have h2 : x = btw wI s (clampI 0 l.length) (clampI p l.length) := h2
  exact AT.ret (H := eInt) (wr (b + (show Swell from x).weight.sum)) (s, v1) rfl ⟨h1, by rw [h2], h3⟩ (Imp.refl _)
/-- A number that is remembered is left behind. -/
theorem dropB {A : Asn} {b : Nat} {ty : TypeId} {cs : List Value} : (A.sep (blk b ty cs)).Imp (A.sep (ex fun b => blk b ty cs)) := fun F w ⟨F1, F2, e, hd, h1, h2⟩ => ⟨F1, F2, e, hd, h1, b, h2⟩
theorem low_l {b : Int} {A : Asn} : Fn Go.Proofs.Try.prog 73 [iV b] A eLow Unit (fun _ _ => True) fun x _ => A.sep (blk x 3 [iV b]) := by
  refine Fn.of brC_P brC_ok prog_mix (low_t b) fun B => ?_
  unfold lowT
  exact AT.box1 fun q => AT.ret (H := eLow) q () rfl trivial (Imp.refl _)
end
end Go.Sx

set_option linter.unusedVariables false
namespace Go.Sx

/-! ### Structs that are alike -/
section
variable {P : Program} {w : World} {d : Nat} {xs ys : Array Value} {f : Field} {fs : List Field} {a b : Value} {r s : Bool}
theorem eqF_nil : (Op.eqFields d xs ys []).run P w = .ok true w := by simp [Op.eqFields]
theorem eqF_cons (hn : (f.name == "_") = false) (ha : (part f.type xs f.offset).run P w = .ok a w) (hb : (part f.type ys f.offset).run P w = .ok b w) (he : (Op.equalIn d f.type a b).run P w = .ok r w) (hr : (Op.eqFields d xs ys fs).run P w = .ok s w) :
    (Op.eqFields d xs ys (f :: fs)).run P w = .ok (r && s) w := by
  have hn' : f.name ≠ "_" := by simpa using hn
  unfold Op.eqFields
  simp only [if_pos hn', Sem.run_bind, ha, hb, he, Result.andThen_ok]
  cases r with
  | false => simp
  | true => simpa using hr
theorem eqS {t : TypeId} {fs : Array Field} (hu : P.underlying t = some (.struct fs)) (hp : P.stoodInHeld t = false) (h : (Op.eqFields d xs ys fs.toList).run P w = .ok r w) : (Op.equalIn (d + 1) t (.agg xs) (.agg ys)).run P w = .ok r w := by
  have hf : P.fieldsOf t = fs := by simp [Program.fieldsOf, hu]
  rw [run_equalIn_struct (P := P) w d t xs ys (by rw [hf]; exact hu) hp, hf]
  exact h
theorem ld_eqS {F : BS} {t : TypeId} {x y : Operand} (hm : P.eqGuardType P.depth t = false) (h : ∀ w, (Op.equalIn 10000 t (.agg xs) (.agg ys)).run P w = .ok r w) : Ld P F w (do eqGuard BinOp.eql t x y (.agg xs) (.agg ys); binOp BinOp.eql t (.agg xs) (.agg ys)) (.bool r) := fun w' _ => by
  have h1 := run_eqGuard_agg (P := P) w' .eql t x y xs ys hm
  have h2 : (Op.equal t (.agg xs) (.agg ys)).run P w' = .ok r w' := h w'
  simp [binOp, h1, h2]
theorem ld_neS {F : BS} {t : TypeId} {x y : Operand} (hm : P.eqGuardType P.depth t = false) (h : ∀ w, (Op.equalIn 10000 t (.agg xs) (.agg ys)).run P w = .ok r w) : Ld P F w (do eqGuard BinOp.neq t x y (.agg xs) (.agg ys); binOp BinOp.neq t (.agg xs) (.agg ys)) (.bool (!r)) := fun w' _ => by
  have h1 := run_eqGuard_agg (P := P) w' .neq t x y xs ys hm
  have h2 : (Op.equal t (.agg xs) (.agg ys)).run P w' = .ok r w' := h w'
  simp [binOp, h1, h2]
end
end Go.Sx

set_option linter.unusedVariables false
set_option maxHeartbeats 1000000
namespace Go.Sx
open GI
def eOp : Enc := eAg Op opC
noncomputable def l10 : Cfg where
  P := Go.Proofs.Try.prog
  hint t := lookup t [(3, Hint.ofE eInt), (4, Hint.ofE eBool), (72, Hint.ofE eTook), (74, Hint.ofE eMark), (116, Hint.ofE eMark), (70, Hint.ofE eOp), (63, Hint.ofE eSl), (65, Hint.ofE eBlk)]
  res f := lookup f [(37, Hint.ofE eInt), (38, Hint.ofE eInt), (68, Hint.ofE eBool), (67, Hint.ofE eBlk), (66, Hint.ofE eInt), (39, Hint.ofE eInt), (40, Hint.ofE eInt), (41, Hint.ofE eTook), (42, Hint.ofE eTook), (34, Hint.ofE eBool), (35, Hint.ofE eBool), (36, Hint.ofE eBlk), (21, Hint.ofE eInt), (43, Hint.ofE eSl)]
  pure _ := none
  meth _ _ := none
def embSI (x : Sl × Int) : List SV := [.v (slV x.1), .v (iV x.2)]
def embII2 (x : Int × Int) : List SV := [.v (iV x.1), .v (iV x.2)]

noncomputable def refH7T (n : Int) : Tree :=
  .loop [.v (iV 2), .v (iV (wr (n + 1)))] (Int × Int) (fun r1 => [.v (iV r1.fst), .v (iV r1.snd)]) fun r1 =>
  .ite (decide (r1.snd > 1))
  (.again 0 [.v (iV (wr (r1.fst + 3))), .v (iV (wr (r1.snd.tdiv 2)))])
  (.ret (iV r1.fst))
theorem refH7_t (n : Int) : FnT l10 21 [iV n] (refH7T n) := fnT (fn := Go.Proofs.Try.f21) (fc := { lh := [(0, { slots := [3, 4], L := Int × Int, emb := embII2 })] }) (by kernel_rfl) (by kernel_rfl) (by kernel_rfl)
noncomputable def small10T (s : Sl) (b : Int) : Tree :=
  .ite (decide ((↑s.n : Int) ≤ 60))
  (.ite (decide (b ≥ -1099511627776))
   (.ret (.bool (decide (b ≤ 1099511627776))))
   (.ret (.bool false)))
  (.ret (.bool false))
theorem small10_t (s : Sl) (b : Int) : FnT l10 35 [slV s, iV b] (small10T s b) := fnT (fn := Go.Proofs.Try.f35) (fc := {}) (by kernel_rfl) (by kernel_rfl) (by kernel_rfl)
noncomputable def tree10T (s : Sl) : Tree :=
  .call 67 [iV ((↑s.n : Int))].toArray [] eBlk fun (p1 : Nat) =>
  .loop [.v (iV 0)] (Int) (fun i1 => [.v (iV i1)]) fun i1 =>
  .ite (decide (i1 < (↑s.n : Int)))
  (.loadS 3 (Instr.indexAt 63 (slV s) (iV i1)) eAddr fun (a1 : Addr) =>
   .loadS 5 (Instr.loadAt 70 (aa a1 0)) eOp fun (x1 : Op) =>
   .loadS 8 (Instr.indexAt 63 (slV s) (iV i1)) eAddr fun (a2 : Addr) =>
   .loadS 10 (Instr.loadAt 4 (aa a2 4)) eBool fun (b1 : Bool) =>
   .loadS 13 (Instr.indexAt 63 (slV s) (iV i1)) eAddr fun (a3 : Addr) =>
   .loadS 15 (Instr.loadAt 72 (aa a3 5)) eTook fun (x2 : Took) =>
   .call 68 [pa p1 0, ag [iV x1.time, .bool x1.insert, iV x1.item.key, iV x1.item.id, .bool b1, .bool x2.found, iV x2.item.key, iV x2.item.id]].toArray [] eBool fun (b2 : Bool) =>
   .endS (.again 0 [.v (iV (wr (i1 + 1)))]))
  (.ret (pa p1 0))
theorem tree10_t (s : Sl) : FnT l10 36 [slV s] (tree10T s) := fnT (fn := Go.Proofs.Try.f36) (fc := { lh := [(0, { slots := [4], L := Int, emb := embI })] }) (by kernel_rfl) (by kernel_rfl) (by kernel_rfl)
noncomputable def timed10T_1_1 (r1 : Sl × Int) (i1 : Int) (s3 : Sl) : Tree :=
  .prim (Instr.sliceAt 63 (slV r1.fst) (some (iV i1)) none none) [] eSl fun (s4 : Sl) =>
  .prim (Builtin.append_ #[63, 63] 63 #[(slV s3), (slV s4)]) [] eSl fun (s5 : Sl) =>
  .again 1 [.v (slV s5), .v (iV (wr (r1.snd + 1)))]
noncomputable def timed10T_1 (s : Sl) (r1 : Sl × Int) (i1 : Int) : Tree :=
  .prim (Instr.sliceAt 63 (slV r1.fst) none (some (iV i1)) none) [] eSl fun (s1 : Sl) =>
  .prim (Builtin.append_ #[63, 63] 63 #[(slV ⟨none, 0, 0⟩), (slV s1)]) [] eSl fun (s2 : Sl) =>
  .prim (Instr.indexAt 63 (slV s) (iV r1.snd)) [] eAddr fun (a3 : Addr) =>
  .prim (Instr.loadAt 116 (.pointer (some a3))) [] eMark fun (x1 : Mark) =>
  .append #[63, 63] 63 (slV s2) 116 1 [(iV x1.op.time), (.bool x1.op.insert), (iV x1.op.item.key), (iV x1.op.item.id), (.bool x1.here), (.bool x1.took.found), (iV x1.took.item.key), (iV x1.took.item.id)] [] eSl fun (s3 : Sl) =>
  .ite (decide (i1 < (↑r1.fst.n : Int)))
  (.loadS 7 (Instr.indexAt 63 (slV r1.fst) (iV i1)) eAddr fun (a4 : Addr) =>
   .loadS 10 (Instr.loadAt 3 (aa (Addr.add a4 0) 0)) eInt fun (i4 : Int) =>
   .loadS 13 (Instr.indexAt 63 (slV s) (iV r1.snd)) eAddr fun (a5 : Addr) =>
   .loadS 16 (Instr.loadAt 3 (aa (Addr.add a5 0) 0)) eInt fun (i5 : Int) =>
   .endS (.ite (i4 == i5)
   (.prim (Instr.sliceAt 63 (slV r1.fst) (some (iV (wr (i1 + 1)))) none none) [] eSl fun (s4 : Sl) =>
    .prim (Builtin.append_ #[63, 63] 63 #[(slV s3), (slV s4)]) [] eSl fun (s5 : Sl) =>
    .again 1 [.v (slV s5), .v (iV (wr (r1.snd + 1)))])
   (timed10T_1_1 r1 i1 s3)))
  (.endS (timed10T_1_1 r1 i1 s3))
noncomputable def timed10T (s : Sl) : Tree :=
  .loop [.v (slV ⟨none, 0, 0⟩), .v (iV 0)] (Sl × Int) (fun r1 => [.v (slV r1.fst), .v (iV r1.snd)]) fun r1 =>
  .ite (decide (r1.snd < (↑s.n : Int)))
  (.loop [.v (iV 0)] (Int) (fun i1 => [.v (iV i1)]) fun i1 =>
   .ite (decide (i1 < (↑r1.fst.n : Int)))
   (.loadS 7 (Instr.indexAt 63 (slV r1.fst) (iV i1)) eAddr fun (a1 : Addr) =>
    .loadS 10 (Instr.loadAt 3 (aa (Addr.add a1 0) 0)) eInt fun (i2 : Int) =>
    .loadS 13 (Instr.indexAt 63 (slV s) (iV r1.snd)) eAddr fun (a2 : Addr) =>
    .loadS 16 (Instr.loadAt 3 (aa (Addr.add a2 0) 0)) eInt fun (i3 : Int) =>
    .endS (.ite (decide (i2 < i3))
    (.again 0 [.v (iV (wr (i1 + 1)))])
    (timed10T_1 s r1 i1)))
   (.endS (timed10T_1 s r1 i1)))
  (.ret (slV r1.fst))
theorem timed10_t (s : Sl) : FnT l10 43 [slV s] (timed10T s) := fnT (fn := Go.Proofs.Try.f43) (fc := { lh := [(0, { slots := [3, 4], L := Sl × Int, emb := embSI }), (2, { slots := [5], L := Int, emb := embI })] }) (by kernel_rfl) (by kernel_rfl) (by kernel_rfl)
noncomputable def awake10T  : Tree :=
  .prim (Instr.buildSlice 63 2 #[(0, (ag [iV 1, .bool true, iV 0, iV 0, .bool false, .bool false, iV 0, iV 0])), (1, (ag [iV 2, .bool false, iV 0, iV 0, .bool false, .bool false, iV 0, iV 0]))]) [] eSl fun (s1 : Sl) =>
  .call 36 [slV s1].toArray [] eBlk fun (p1 : Nat) =>
  .call 39 [pa p1 0, iV 0, iV 0].toArray [] eInt fun (i1 : Int) =>
  .ite (i1 == 0)
  (.call 39 [pa p1 0, iV 1, iV 0].toArray [] eInt fun (i2 : Int) =>
   .ite (i2 == 2)
   (.call 40 [pa p1 0, iV 1, iV 0].toArray [] eInt fun (i3 : Int) =>
    .ite (i3 == 0)
    (.call 40 [pa p1 0, iV 2, iV 0].toArray [] eInt fun (i4 : Int) =>
     .ite (i4 == 2)
     (.call 66 [pa p1 0, iV 1, iV 0].toArray [] eInt fun (i5 : Int) =>
      .ret (.bool (i5 == 1)))
     (.ret (.bool false)))
    (.ret (.bool false)))
   (.ret (.bool false)))
  (.ret (.bool false))
theorem awake10_t  : FnT l10 34 [] (awake10T ) := fnT (fn := Go.Proofs.Try.f34) (fc := { esc := [7] }) (by kernel_rfl) (by kernel_rfl) (by kernel_rfl)
noncomputable def visits10T (s : Sl) (p b : Int) : Tree :=
  .call 34 [].toArray [] eBool fun (b1 : Bool) =>
  .ite (!b1)
  (.call 34 [].toArray [] eBool fun (b2 : Bool) =>
   .ret (.bool b2))
  (.call 35 [slV s, iV b].toArray [] eBool fun (b2 : Bool) =>
   .ite (!b2)
   (.call 34 [].toArray [] eBool fun (b3 : Bool) =>
    .ret (.bool b3))
   (.call 36 [slV s].toArray [] eBlk fun (p1 : Nat) =>
    .call 37 [pa p1 0].toArray [] eInt fun (i1 : Int) =>
    .call 21 [iV i1].toArray [] eInt fun (i2 : Int) =>
    .call 38 [pa p1 0].toArray [] eInt fun (i3 : Int) =>
    .call 39 [pa p1 0, iV p, iV b].toArray [] eInt fun (i4 : Int) =>
    .call 38 [pa p1 0].toArray [] eInt fun (i5 : Int) =>
    .call 38 [pa p1 0].toArray [] eInt fun (i6 : Int) =>
    .call 40 [pa p1 0, iV p, iV b].toArray [] eInt fun (i7 : Int) =>
    .call 38 [pa p1 0].toArray [] eInt fun (i8 : Int) =>
    .call 38 [pa p1 0].toArray [] eInt fun (i9 : Int) =>
    .call 41 [pa p1 0, iV p].toArray [] eTook fun (x1 : Took) =>
    .call 42 [pa p1 0, iV p].toArray [] eTook fun (x2 : Took) =>
    .call 38 [pa p1 0].toArray [] eInt fun (i10 : Int) =>
    .ite (decide (wr (i5 - i3) ≤ wr (1000 * wr (i2 + 4))))
    (.ite (decide (wr (i8 - i6) ≤ wr (1000 * wr (i2 + 4))))
     (.ite (decide (wr (i10 - i9) ≤ wr (2 * wr (1000 * wr (i2 + 4)))))
      (.call 37 [pa p1 0].toArray [] eInt fun (i11 : Int) =>
       .call 43 [slV s].toArray [] eSl fun (s1 : Sl) =>
       .ret (.bool (i11 == (↑s1.n : Int))))
      (.ret (.bool false)))
     (.ret (.bool false)))
    (.ret (.bool false))))
theorem visits10_t (s : Sl) (p b : Int) : FnT l10 6 [slV s, iV p, iV b] (visits10T s p b) := fnT (fn := Go.Proofs.Try.f6) (fc := {}) (by kernel_rfl) (by kernel_rfl) (by kernel_rfl)
end Go.Sx

set_option linter.unusedVariables false
set_option linter.unusedSimpArgs false
set_option maxHeartbeats 2000000
namespace Go.Sx
open GI Asn Go.RowKit

/-! ### Bridges: questions, over memory that stays -/
theorem fz_drop {z : Zn} {A C : Asn} : ((fz z).sep (A.sep C)).Imp ((fz z).sep A) := (Imp.sep (Imp.refl _) sep_comm).trans (sep_assoc'.trans (Imp.sep (fz_of (z := z)) (Imp.refl _)))
section
variable {t : Nat} {l : List Mark} {cap v : Int} {n : Nat} {z : Zn}
noncomputable def lowB (s : BT Mark) (l : List Mark) (p b : Int) : Int := wr (b + (btw wI s (clampI 0 l.length) (clampI (clampI p l.length) l.length)).weight.sum)
noncomputable def nextV (s : BT Mark) (l : List Mark) (p b : Int) : Int := if lowB s l p b ≤ 0 then clampI p l.length else if fi b (clampI (clampI p l.length) l.length) (wts l) ≥ 0 then wr (fi b (clampI (clampI p l.length) l.length) (wts l) + 1) else -1
def priorV (l : List Mark) (p b : Int) : Int := if la b (clampI (clampI p l.length) l.length) (wts l) ≥ 0 then wr (la b (clampI (clampI p l.length) l.length) (wts l) + 1) else if b ≤ 0 then 0 else -1
theorem Next_l {p b : Int} (hb : -1099511627776 ≤ b ∧ b ≤ 1099511627776) : Fn Go.Proofs.Try.prog 39 [pa t 0, iV p, iV b] ((fz z).sep (wI.tl t l cap n v)) eInt (BT Mark × Int) (fun (x : Int) y => y.1.elems = l ∧ x = nextV y.1 l p b ∧ Vis v y.2 (5 + 13 * hgt l.length)) fun _ y => (fz z).sep (wI.tl t l cap n y.2) := by
  refine Fn.of brC_P brC_ok prog_mix (brNext_t t p b) fun B => ?_
  unfold brNextT
  refine AT.call0 (brClamp_l.frameL (fz z)) ?_
  rintro x v1 ⟨rfl, h1⟩
  refine AT.call0 (brHeight_l.frameL (fz z)) ?_
  rintro x ⟨s, v2⟩ ⟨hs, hx, h2⟩
  have hx : x = lowB s l p b := hx
  subst hx
  refine AT.iteD (fun h3 => ?_) (fun h3 => ?_)
  · exact AT.ret (H := eInt) (clampI p l.length) (s, v2) rfl ⟨hs, by unfold nextV; rw [if_pos h3], (h1.trans h2).mono (by omega)⟩ (Imp.refl _)
  refine AT.call0 (low_l (A := (fz z).sep (wI.tl t l cap n v2))) ?_
  rintro q _ -
  refine AT.imp sep_assoc (AT.call0 ((First_b hb).frameL (fz z)) ?_)
  rintro x v3 ⟨hx, h4⟩
  have hx : x = fi b (clampI (clampI p l.length) l.length) (wts l) := hx
  subst hx
  have hv : Vis v v3 (5 + 13 * hgt l.length) := ((h1.trans h2).trans h4).mono (by omega)
  refine AT.iteD (fun h5 => ?_) (fun h5 => ?_)
  · exact AT.ret (H := eInt) (wr (fi b (clampI (clampI p l.length) l.length) (wts l) + 1)) (s, v3) rfl ⟨hs, by unfold nextV; rw [if_neg h3, if_pos h5], hv⟩ fz_drop
  · exact AT.ret (H := eInt) (-1 : Int) (s, v3) rfl ⟨hs, by unfold nextV; rw [if_neg h3, if_neg h5], hv⟩ fz_drop
theorem Prior_l {p b : Int} (hb : -1099511627776 ≤ b ∧ b ≤ 1099511627776) : Fn Go.Proofs.Try.prog 40 [pa t 0, iV p, iV b] ((fz z).sep (wI.tl t l cap n v)) eInt Int (fun (x : Int) v' => x = priorV l p b ∧ Vis v v' (3 + 7 * hgt l.length)) fun _ v' => (fz z).sep (wI.tl t l cap n v') := by
  refine Fn.of brC_P brC_ok prog_mix (brPrior_t t p b) fun B => ?_
  unfold brPriorT
  refine AT.call0 (brClamp_l.frameL (fz z)) ?_
  rintro x v1 ⟨rfl, h1⟩
  refine AT.call0 (low_l (A := (fz z).sep (wI.tl t l cap n v1))) ?_
  rintro q _ -
  refine AT.imp sep_assoc (AT.call0 ((Last_b hb).frameL (fz z)) ?_)
  rintro x v3 ⟨hx, h4⟩
  have hx : x = la b (clampI (clampI p l.length) l.length) (wts l) := hx
  subst hx
  have hv : Vis v v3 (3 + 7 * hgt l.length) := (h1.trans h4).mono (by omega)
  refine AT.iteD (fun h5 => ?_) (fun h5 => AT.iteD (fun h6 => ?_) (fun h6 => ?_))
  · exact AT.ret (H := eInt) (wr (la b (clampI (clampI p l.length) l.length) (wts l) + 1)) v3 rfl ⟨by unfold priorV; rw [if_pos h5], hv⟩ fz_drop
  · exact AT.ret (H := eInt) (0 : Int) v3 rfl ⟨by unfold priorV; rw [if_neg h5, if_pos h6], hv⟩ fz_drop
  · exact AT.ret (H := eInt) (-1 : Int) v3 rfl ⟨by unfold priorV; rw [if_neg h5, if_neg h6], hv⟩ fz_drop
theorem Best_l {p : Int} : Fn Go.Proofs.Try.prog 41 [pa t 0, iV p] ((fz z).sep (wI.tl t l cap n v)) eTook Int (fun _ v' => Vis v v' (4 + 6 * hgt l.length)) fun _ v' => (fz z).sep (wI.tl t l cap n v') := by
  refine Fn.of brC_P brC_ok prog_mix (brBest_t t p) fun B => ?_
  unfold brBestT
  refine AT.call0 (brClamp_l.frameL (fz z)) ?_
  rintro x v1 ⟨rfl, h1⟩
  refine AT.call0 ((Len_l w_ty w_t3).frameL (fz z)) ?_
  rintro x v2 ⟨rfl, h2⟩
  refine AT.call0 (Between_l.frameL (fz z)) ?_
  rintro x ⟨s, v3⟩ ⟨hs, hx, h3⟩
  exact AT.ret (H := eTook) (show Swell from x).gone v3 rfl (((h1.trans h2).trans h3).mono (by omega)) (Imp.refl _)
theorem Least_l {p : Int} : Fn Go.Proofs.Try.prog 42 [pa t 0, iV p] ((fz z).sep (wI.tl t l cap n v)) eTook Int (fun _ v' => Vis v v' (3 + 6 * hgt l.length)) fun _ v' => (fz z).sep (wI.tl t l cap n v') := by
  refine Fn.of brC_P brC_ok prog_mix (brLeast_t t p) fun B => ?_
  unfold brLeastT
  refine AT.call0 (brClamp_l.frameL (fz z)) ?_
  rintro x v1 ⟨rfl, h1⟩
  refine AT.call0 (Between_l.frameL (fz z)) ?_
  rintro x ⟨s, v3⟩ ⟨hs, hx, h3⟩
  exact AT.ret (H := eTook) (show Swell from x).least v3 rfl ((h1.trans h3).mono (by omega)) (Imp.refl _)
theorem New_w {k : Int} (m : Nat) (hm : m < 4294967296) : Fn Go.Proofs.Try.prog 67 [iV k] emp eBlk Unit (fun _ _ => True) fun t _ => wI.tl t [] (clampI k 16777216) m 0 := by
  refine Fn.of brC_P brC_ok prog_mix (waveNew_t k) fun B => ?_
  unfold waveNewT
  refine AT.call0 (New_l w_ty w_tN k m hm) ?_
  rintro x _ -
  exact AT.ret (H := eBlk) x () rfl trivial (Imp.refl _)
end
end Go.Sx

set_option linter.unusedVariables false
set_option linter.unusedSimpArgs false
set_option maxHeartbeats 2000000
namespace Go.Sx
open GI Asn Go.RowKit

/-! ### Law 10: lists of marks -/
theorem l10_P : l10.P = Go.Proofs.Try.prog := rfl
theorem l10_ok : l10.Ok := ⟨fun f g args v h _ => (by cases h), fun t n f h => (by cases h), fun f g e n cells v h _ => (by cases h)⟩
theorem slM : SlTy Go.Proofs.Try.prog 63 116 markCd := ⟨by kernel_rfl, by kernel_rfl, by decide, ⟨(Go.Proofs.Try.prog.info? 116).get (by kernel_rfl), ((Go.Proofs.Try.prog.info? 116).get (by kernel_rfl)).zero.get (by kernel_rfl), by kernel_rfl, by kernel_rfl, by kernel_rfl, by kernel_rfl, Nat.le_of_ble_eq_true (by kernel_rfl)⟩⟩
theorem aBool10 : isAggT Go.Proofs.Try.prog 4 = some false := by kernel_rfl
theorem aOp10 : isAggT Go.Proofs.Try.prog 70 = some true := by kernel_rfl
theorem sOp10 : sizeT Go.Proofs.Try.prog 70 = some 4 := by kernel_rfl
theorem aTook10 : isAggT Go.Proofs.Try.prog 72 = some true := by kernel_rfl
theorem sTook10 : sizeT Go.Proofs.Try.prog 72 = some 3 := by kernel_rfl
theorem aMark10 : isAggT Go.Proofs.Try.prog 116 = some true := by kernel_rfl
theorem sMark10 : sizeT Go.Proofs.Try.prog 116 = some 8 := by kernel_rfl
theorem add0 {a : Addr} (h : a.spot = none) : a.add 0 = a := by
  obtain ⟨b, o, sp⟩ := a
  have hsp : sp = none := h
  subst hsp
  have := Addr.add_mid b o 0
  rw [this]; rfl

theorem log2_half {k : Nat} (h : 2 ≤ k) : Nat.log2 k = Nat.log2 (k / 2) + 1 := by rw [Nat.log2_def, if_pos h]
theorem refH7_l {z : Zn} {n : Nat} (hn : n < 4294967296) : Fn Go.Proofs.Try.prog 21 [iV (n : Int)] (fz z) eInt Unit (fun (x : Int) _ => x = (hgt n : Int)) fun _ _ => fz z := by
  refine Fn.of l10_P l10_ok prog_mix (refH7_t (n : Int)) fun B => ?_
  unfold refH7T
  rw [wr_id (n := (n : Int) + 1) (by omega) (by omega)]
  refine AT.loop (Y := Unit) (fun (r : Int × Int) _ => ∃ h k : Nat, r = ((h : Int), (k : Int)) ∧ 1 ≤ k ∧ k < 8589934592 ∧ h + 3 * Nat.log2 k = hgt n) (fun _ _ => fz z) (fun r => r.2.toNat) ((2 : Int), (n : Int) + 1) () rfl ⟨2, n + 1, by simp, by omega, by omega, by unfold hgt; omega⟩ (Imp.refl _) ?_
  rintro G r y ⟨h, k, rfl, h1, h2, h3⟩ hag
  have hh : hgt n ≤ 2 + 3 * 33 := by
    unfold hgt
    have : Nat.log2 (n + 1) < 33 := (Nat.log2_lt (by omega)).2 (by omega)
    omega
  refine AT.iteD (fun hb => ?_) (fun hb => ?_)
  · have hk : 2 ≤ k := by simp only at hb; omega
    have e := log2_half hk
    have hd : (k : Int).tdiv 2 = ((k / 2 : Nat) : Int) := rfl
    simp only [hd]
    rw [wr_id (n := ((k / 2 : Nat) : Int)) (by omega) (by omega), wr_id (n := (h : Int) + 3) (by omega) (by omega)]
    refine AT.again rfl (hag ((h : Int) + 3, ((k / 2 : Nat) : Int)) () ⟨h + 3, k / 2, by simp, by omega, by omega, by omega⟩ ?_)
    simp only [Int.toNat_natCast]; omega
  · have hk : k = 1 := by simp only at hb; omega
    subst hk
    refine AT.ret (H := eInt) (h : Int) () rfl ?_ (Imp.refl _)
    have : Nat.log2 1 = 0 := by decide
    rw [this] at h3; omega
theorem small10_l {z : Zn} {s : Sl} {xs : List Mark} {b : Int} (h : RowIn z markCd s xs) : Fn Go.Proofs.Try.prog 35 [slV s, iV b] (fz z) eBool Unit (fun (x : Bool) _ => x = true → xs.length ≤ 60 ∧ -1099511627776 ≤ b ∧ b ≤ 1099511627776) fun _ _ => fz z := by
  refine Fn.of l10_P l10_ok prog_mix (small10_t s b) fun B => ?_
  unfold small10T
  have hn := h.n
  refine AT.iteD (fun h1 => AT.iteD (fun h2 => ?_) (fun _ => ?_)) (fun _ => ?_)
  · refine AT.ret (H := eBool) (decide (b ≤ 1099511627776)) () rfl (fun h3 => ?_) (Imp.refl _)
    have := of_decide_eq_true h3
    omega
  · exact AT.ret (H := eBool) false () rfl (fun h => by cases h) (Imp.refl _)
  · exact AT.ret (H := eBool) false () rfl (fun h => by cases h) (Imp.refl _)

/-- Marks in order, the last one of each time. -/
def putL (xs : List Mark) : List Mark := xs.foldl (fun l m => insL Mark.cmp m l) []
theorem putL_snoc (xs : List Mark) (x : Mark) : putL (xs ++ [x]) = insL Mark.cmp x (putL xs) := by simp [putL]
theorem insL_le {e : Mark} : ∀ l : List Mark, l.length ≤ (insL Mark.cmp e l).length ∧ (insL Mark.cmp e l).length ≤ l.length + 1
  | [] => by simp [insL]
  | f :: l => by
    have := insL_le (e := e) l
    unfold insL
    split
    · simp
    · split <;> simp <;> omega
theorem putL_len : ∀ (xs acc : List Mark), (xs.foldl (fun l m => insL Mark.cmp m l) acc).length ≤ acc.length + xs.length
  | [], acc => by simp
  | x :: xs, acc => by
    have := putL_len xs (insL Mark.cmp x acc)
    have := (insL_le (e := x) acc).2
    simp only [List.foldl_cons, List.length_cons]; omega
theorem putL_le (xs : List Mark) : (putL xs).length ≤ xs.length := by have := putL_len xs []; simpa [putL] using this
theorem putL_take {xs : List Mark} {m : Nat} (h : m < xs.length) : putL (xs.take (m + 1)) = insL Mark.cmp xs[m] (putL (xs.take m)) := by
  rw [List.take_add_one, List.getElem?_eq_getElem h]; exact putL_snoc _ _

theorem tree10_l {z : Zn} {s : Sl} {xs : List Mark} (h : RowIn z markCd s xs) (h60 : xs.length ≤ 60) : Fn Go.Proofs.Try.prog 36 [slV s] (fz z) eBlk Int (fun _ _ => True) fun t v => (fz z).sep (wI.tl t (putL xs) xs.length xs.length v) := by
  refine Fn.of l10_P l10_ok prog_mix (tree10_t s) fun B => ?_
  unfold tree10T
  have hn := h.n
  refine AT.imp sep_emp' (AT.call0 ((New_w (k := (s.n : Int)) 0 (by omega)).frameL (fz z)) ?_)
  rintro t _ -
  have hcap : clampI (s.n : Int) 16777216 = (xs.length : Int) := by unfold clampI; omega
  rw [hcap]
  refine AT.loop (Y := Int) (fun (i : Int) _ => ∃ m : Nat, i = m ∧ m ≤ xs.length) (fun i v => (fz z).sep (wI.tl t (putL (xs.take i.toNat)) xs.length i.toNat v)) (fun i => xs.length - i.toNat) (0 : Int) (0 : Int) rfl ⟨0, rfl, Nat.zero_le _⟩ (Imp.refl _) ?_
  rintro G i v ⟨m, rfl, hm⟩ hag
  simp only [Int.toNat_natCast]
  refine AT.iteD (fun hb => ?_) (fun hb => ?_)
  · have hlt : m < xs.length := by omega
    obtain ⟨a, hl, hc⟩ := ldIndex (x := xs[m]) h slM.u slM.s (Int.natCast_nonneg m) (by simp)
    refine AT.ldS (H := eAddr) a (fun F w _ => hl F w) ?_
    refine AT.ldS (H := eOp) xs[m].op (ldAgg (z := z) hc 0 aOp10 sOp10 rfl rfl (by decide)) ?_
    refine AT.ldS (H := eAddr) a (fun F w _ => hl F w) ?_
    refine AT.ldS (H := eBool) xs[m].here (ldCell (z := z) hc 4 aBool10 rfl) ?_
    refine AT.ldS (H := eAddr) a (fun F w _ => hl F w) ?_
    refine AT.ldS (H := eTook) xs[m].took (ldAgg (z := z) hc 5 aTook10 sTook10 rfl rfl (by decide)) ?_
    have hput : Fn Go.Proofs.Try.prog 68 [pa t 0, ag (markC xs[m])] (wI.tl t (putL (xs.take m)) xs.length m v) eBool Int _ _ := Put_l w_ty w_t3 w_laws markOk xs[m] (by omega)
    refine AT.call0 (hput.frameL (fz z)) ?_
    rintro b v' ⟨hb', hv⟩
    have hlen := putL_le (xs.take m)
    rw [List.length_take] at hlen
    have hres : (putRes wI.cmp xs[m] (putL (xs.take m)) xs.length).1 = putL (xs.take (m + 1)) := by
      rw [putL_take hlt]; unfold putRes; rw [if_pos (.inr (by omega))]; rfl
    rw [hres]
    refine AT.endS ?_
    have hw : wr ((m : Int) + 1) = ((m + 1 : Nat) : Int) := by rw [wr_id (by omega) (by omega)]; omega
    rw [hw]
    refine AT.again rfl fun F w hA => hag ((m + 1 : Nat) : Int) v' ⟨m + 1, rfl, hlt⟩ (by simp only [Int.toNat_natCast]; omega) F w ?_
    simp only [Int.toNat_natCast]; exact hA
  · have : m = xs.length := by omega
    subst this
    refine AT.ret (H := eBlk) t v rfl trivial ?_
    rw [List.take_length]; exact Imp.refl _
end Go.Sx

set_option linter.unusedVariables false
set_option linter.unusedSimpArgs false
set_option maxHeartbeats 2000000
namespace Go.Sx
open GI Asn Go.RowKit

theorem insL_eq {x : Mark} : ∀ (l : List Mark) (k : Nat) (y : Mark), (∀ y ∈ l.take k, y.op.time < x.op.time) → l[k]? = some y → y.op.time = x.op.time → insL Mark.cmp x l = (l.take k ++ [x]) ++ l.drop (k + 1)
  | [], k, y, _, h, _ => by simp at h
  | f :: l, 0, y, _, h, e => by
    simp at h; subst h
    have : Mark.cmp x f = 0 := by unfold Mark.cmp icmp; rw [if_neg (by omega), if_neg (by omega)]
    unfold insL
    rw [if_neg (by omega), if_neg (by omega)]; rfl
  | f :: l, k + 1, y, h1, h, e => by
    have hf := h1 f (by simp)
    have : Mark.cmp x f = 1 := by unfold Mark.cmp icmp; rw [if_neg (by omega), if_pos (by omega)]
    unfold insL
    rw [if_neg (by omega), if_pos (by omega), insL_eq l k y (fun y hy => h1 y (by simp [hy])) (by simpa using h) e]; rfl
theorem insL_ne {x : Mark} : ∀ (l : List Mark) (k : Nat), (∀ y ∈ l.take k, y.op.time < x.op.time) → k ≤ l.length → (∀ y, l[k]? = some y → x.op.time < y.op.time) → insL Mark.cmp x l = (l.take k ++ [x]) ++ l.drop k
  | [], k, _, h, _ => by simp [insL]
  | f :: l, 0, _, h, e => by
    have hf := e f rfl
    have : Mark.cmp x f = -1 := by unfold Mark.cmp icmp; rw [if_pos (by omega)]
    unfold insL
    rw [if_pos (by omega)]; rfl
  | f :: l, k + 1, h1, h, e => by
    have hf := h1 f (by simp)
    have : Mark.cmp x f = 1 := by unfold Mark.cmp icmp; rw [if_neg (by omega), if_pos (by omega)]
    unfold insL
    rw [if_neg (by omega), if_pos (by omega), insL_ne l k (fun y hy => h1 y (by simp [hy])) (by simpa using h) (fun y hy => e y (by simpa using hy))]; rfl
section
variable {z : Zn} {s r : Sl} {xs out : List Mark} {B m k : Nat} {Γ : List Again} {G : Again} {R : Value → BS → World → Prop}
theorem timedApp {r3 : Sl} {nxt : List Mark} (hr : RowIn z markCd r out) (hk : k ≤ out.length) (ho : out.length ≤ 60) (hx : nxt.length ≤ 61) (hm : m < xs.length) (h60 : xs.length ≤ 60) {Λ : Lam} {ow : TypeId}
    (hG : Γ[1]? = some G) (hag : ∀ s5 z', z.le z' → RowIn z' markCd s5 (nxt ++ out.drop k) → ∀ F w, (fz z').at_ F w → G (embSI (s5, ((m + 1 : Nat) : Int))) F w) :
    AT ⟨Go.Proofs.Try.prog, B, Γ, R⟩ Λ ((own 116 markCd r3 nxt).sep (fz z))
      (.prim (Instr.sliceAt 63 (slV r) (some (iV (k : Int))) none none) [] eSl fun (s4 : Sl) =>
       .prim (Builtin.append_ #[63, 63] 63 #[(slV r3), (slV s4)]) [] eSl fun (s5 : Sl) =>
       .again 1 [.v (slV s5), .v (iV (wr ((m : Int) + 1)))]) := by
  refine AT.ld (H := eSl) (r.cut markCd.size k out.length) (fun F w _ => ldCutL hr slM.u slM.s (Int.natCast_nonneg _) (by omega) F w) ?_
  have hr2 : RowIn z markCd (r.cut markCd.size k out.length) (out.drop k) := by have := hr.cut hk (Nat.le_refl _); rw [List.take_length] at this; exact this
  refine AT.appR (z := z) slM hr2 (by simp; omega) fun s5 => ?_
  have hw : wr ((m : Int) + 1) = ((m + 1 : Nat) : Int) := by rw [wr_id (by omega) (by omega)]; omega
  rw [hw]
  exact AT.freezeR fun z' hz hr5 => AT.again hG (hag s5 z' hz hr5)
theorem timed1_l (hs : RowIn z markCd s xs) (hr : RowIn z markCd r out) (hk : k ≤ out.length) (ho : out.length ≤ 60) (hm : m < xs.length) (h60 : xs.length ≤ 60)
    (hlo : ∀ y ∈ out.take k, y.op.time < xs[m].op.time) (hhi : ∀ y, out[k]? = some y → ¬ y.op.time < xs[m].op.time)
    (hG : Γ[1]? = some G) (hag : ∀ s5 z', z.le z' → RowIn z' markCd s5 (insL Mark.cmp xs[m] out) → ∀ F w, (fz z').at_ F w → G (embSI (s5, ((m + 1 : Nat) : Int))) F w) :
    AT ⟨Go.Proofs.Try.prog, B, Γ, R⟩ Lam.none (fz z) (timed10T_1 s (r, (m : Int)) (k : Int)) := by
  unfold timed10T_1
  have hrn := hr.n
  have hmx : xs[(m : Int).toNat]? = some xs[m] := by simp
  obtain ⟨am, hlm, hcm⟩ := ldIndex (x := xs[m]) hs slM.u slM.s (Int.natCast_nonneg m) hmx
  refine AT.ld (H := eSl) (r.cut markCd.size 0 k) (fun F w _ => ldCutH hr slM.u slM.s (Int.natCast_nonneg _) (by omega) F w) ?_
  have hr1 : RowIn z markCd (r.cut markCd.size 0 k) (out.take k) := by have := hr.cut (Nat.zero_le _) hk; rw [List.drop_zero] at this; exact this
  refine AT.imp own_nil (AT.appR (z := z) slM hr1 (by simp; omega) fun s2 => ?_)
  refine AT.ld (H := eAddr) am (fun F w _ => hlm F w) ?_
  refine AT.ld (H := eMark) xs[m] (ldAgg0 (z := z) hcm aMark10 sMark10 (show 0 < (markC xs[m]).length from Nat.succ_pos _)) ?_
  refine AT.app (ys := [xs[m]]) slM rfl rfl (by simp; omega) fun s3 => ?_
  rw [List.nil_append]
  have hlen : (out.take k ++ [xs[m]]).length ≤ 61 := by simp; omega
  refine AT.iteD (fun hb => ?_) (fun hb => ?_)
  · have hlt : k < out.length := by simp only at hb; omega
    have hkx : out[(k : Int).toNat]? = some out[k] := by simp
    obtain ⟨ak, hlk, hck⟩ := ldIndex (x := out[k]) hr slM.u slM.s (Int.natCast_nonneg k) hkx
    refine AT.ldS (H := eAddr) ak (fun F w _ => hlk F w) ?_
    rw [add0 hck.spot]
    refine AT.ldS (H := eInt) out[k].op.time (ldCell (z := z) hck 0 aInt rfl) ?_
    refine AT.ldS (H := eAddr) am (fun F w _ => hlm F w) ?_
    rw [add0 hcm.spot]
    refine AT.ldS (H := eInt) xs[m].op.time (ldCell (z := z) hcm 0 aInt rfl) ?_
    refine AT.endS (AT.iteE (fun he => ?_) (fun he => ?_))
    · have hw : wr ((k : Int) + 1) = ((k + 1 : Nat) : Int) := by rw [wr_id (by omega) (by omega)]; omega
      rw [hw]
      refine timedApp hr hlt ho hlen hm h60 (ow := 0) hG fun s5 z' hz hr5 => hag s5 z' hz ?_
      rw [insL_eq out k out[k] hlo (List.getElem?_eq_getElem hlt) he]; exact hr5
    · refine timedApp hr hk ho hlen hm h60 (ow := 0) hG fun s5 z' hz hr5 => hag s5 z' hz ?_
      rw [insL_ne out k hlo hk]
      · exact hr5
      · intro y hy
        have h1 := hhi y hy
        rw [List.getElem?_eq_getElem hlt] at hy; injection hy with hy; subst hy
        have he : out[k].op.time ≠ xs[m].op.time := he
        omega
  · refine AT.endS (timedApp hr hk ho hlen hm h60 (ow := 0) hG fun s5 z' hz hr5 => hag s5 z' hz ?_)
    rw [insL_ne out k hlo hk]
    · exact hr5
    · intro y hy
      have := (List.getElem?_eq_some_iff.1 hy).1
      simp only at hb; omega
theorem timed10_l (hs : RowIn z markCd s xs) (h60 : xs.length ≤ 60) : Fn Go.Proofs.Try.prog 43 [slV s] (fz z) eSl Zn (fun y z' => z.le z' ∧ RowIn z' markCd y (putL xs)) fun _ z' => fz z' := by
  refine Fn.of l10_P l10_ok prog_mix (timed10_t s) fun B => ?_
  unfold timed10T
  have hn := hs.n
  refine AT.loop (Y := Zn) (fun (r : Sl × Int) z' => z.le z' ∧ ∃ m : Nat, r.2 = m ∧ m ≤ xs.length ∧ RowIn z' markCd r.1 (putL (xs.take m))) (fun _ z' => fz z') (fun r => xs.length - r.2.toNat) ((⟨none, 0, 0⟩ : Sl), (0 : Int)) z rfl ⟨Zn.le_refl z, 0, rfl, Nat.zero_le _, RowIn.nil z markCd⟩ (Imp.refl _) ?_
  rintro G ⟨r, i⟩ z' ⟨hz, m, hi, hm, hr⟩ hag
  simp only at hi hr; subst hi
  have ho := putL_le (xs.take m)
  rw [List.length_take] at ho
  have hrn := hr.n
  refine AT.iteD (fun hb => ?_) (fun hb => ?_)
  · have hlt : m < xs.length := by simp only at hb; omega
    have hmx : xs[(m : Int).toNat]? = some xs[m] := by simp
    obtain ⟨am, hlm, hcm⟩ := ldIndex (x := xs[m]) (hs.mono hz) slM.u slM.s (Int.natCast_nonneg m) hmx
    generalize hout : putL (xs.take m) = out at hr ho hrn
    refine AT.loop (Y := Unit) (fun (i : Int) _ => ∃ k : Nat, i = k ∧ k ≤ out.length ∧ ∀ y ∈ out.take k, y.op.time < xs[m].op.time) (fun _ _ => fz z') (fun i => out.length - i.toNat) (0 : Int) () rfl ⟨0, rfl, Nat.zero_le _, by simp⟩ (Imp.refl _) ?_
    rintro G2 i2 y ⟨k, rfl, hk, hlo⟩ hag2
    have fin : ∀ R, (∀ y, out[k]? = some y → ¬ y.op.time < xs[m].op.time) → AT ⟨Go.Proofs.Try.prog, B, G2 :: G :: [], R⟩ Lam.none (fz z') (timed10T_1 s (r, (m : Int)) (k : Int)) := fun R hhi =>
      timed1_l (hs.mono hz) hr hk (by omega) hlt h60 hlo hhi rfl fun s5 z5 hz5 hr5 F w hA => hag (s5, ((m + 1 : Nat) : Int)) z5 ⟨Zn.le_trans hz hz5, m + 1, rfl, hlt, by rw [putL_take hlt, hout]; exact hr5⟩ (by simp only [Int.toNat_natCast]; omega) F w hA
    refine AT.iteD (fun hb2 => ?_) (fun hb2 => ?_)
    · have hkl : k < out.length := by simp only at hb2; omega
      have hkx : out[(k : Int).toNat]? = some out[k] := by simp
      obtain ⟨ak, hlk, hck⟩ := ldIndex (x := out[k]) hr slM.u slM.s (Int.natCast_nonneg k) hkx
      refine AT.ldS (H := eAddr) ak (fun F w _ => hlk F w) ?_
      rw [add0 hck.spot]
      refine AT.ldS (H := eInt) out[k].op.time (ldCell (z := z') hck 0 aInt rfl) ?_
      refine AT.ldS (H := eAddr) am (fun F w _ => hlm F w) ?_
      rw [add0 hcm.spot]
      refine AT.ldS (H := eInt) xs[m].op.time (ldCell (z := z') hcm 0 aInt rfl) ?_
      refine AT.endS (AT.iteD (fun h3 => ?_) (fun h3 => ?_))
      · have hw : wr ((k : Int) + 1) = ((k + 1 : Nat) : Int) := by rw [wr_id (by omega) (by omega)]; omega
        rw [hw]
        refine AT.again rfl (hag2 ((k + 1 : Nat) : Int) () ⟨k + 1, rfl, hkl, fun y hy => ?_⟩ (by omega))
        rw [List.take_add_one, List.getElem?_eq_getElem hkl] at hy
        rcases List.mem_append.1 hy with hy | hy
        · exact hlo y hy
        · simp at hy; subst hy; exact h3
      · refine fin _ fun y hy => ?_
        rw [List.getElem?_eq_getElem hkl] at hy; injection hy with hy; subst hy; exact h3
    · refine AT.endS (fin _ fun y hy => ?_)
      have := (List.getElem?_eq_some_iff.1 hy).1
      simp only at hb2; omega
  · have : m = xs.length := by simp only at hb; omega
    subst this
    rw [List.take_length] at hr
    exact AT.ret (H := eSl) r z' rfl ⟨hz, hr⟩ (Imp.refl _)
end
end Go.Sx

set_option linter.unusedVariables false
set_option linter.unusedSimpArgs false
set_option maxHeartbeats 2000000
namespace Go.Sx
open GI Asn Go.RowKit

theorem fz_le {z z' : Zn} (h : z.le z') : (fz z').Imp (fz z) := fun F w hA => ⟨fun b hb => ⟨(hA.1 b (h b hb).1).1, (hA.1 b (h b hb).1).2.trans (h b hb).2⟩, hA.2⟩
def awakeM : List Mark := [⟨⟨1, true, ⟨0, 0⟩⟩, false, tookZ⟩, ⟨⟨2, false, ⟨0, 0⟩⟩, false, tookZ⟩]
theorem bt_two {E : Type} {a b : E} : ∀ {s : BT E}, s.elems = [a, b] → (∃ r r', s = .node r (.node r' .nil a .nil) b .nil) ∨ ∃ r r', s = .node r .nil a (.node r' .nil b .nil)
  | .nil, h => by simp [BT.elems] at h
  | .node r l e g, h => by
    have one : ∀ {s : BT E} {x : E}, s.elems = [x] → ∃ r, s = .node r .nil x .nil := fun {s x} hx => by
      cases s with
      | nil => simp [BT.elems] at hx
      | node r l e g =>
        simp only [BT.elems] at hx
        cases l with
        | nil => cases g with
          | nil => simp [BT.elems] at hx; exact ⟨r, by rw [hx]⟩
          | node => have := congrArg List.length hx; simp [BT.elems] at this
        | node => have := congrArg List.length hx; simp [BT.elems] at this; omega
    have nil0 : ∀ {s : BT E}, s.elems = [] → s = .nil := fun {s} hx => by
      cases s with
      | nil => rfl
      | node => have := congrArg List.length hx; simp [BT.elems] at this
    simp only [BT.elems] at h
    cases hl : l.elems with
    | nil =>
      rw [hl] at h
      simp at h
      obtain ⟨rfl, h⟩ := h
      obtain ⟨r', rfl⟩ := one h
      obtain rfl := nil0 hl
      exact .inr ⟨r, r', rfl⟩
    | cons x xs =>
      rw [hl] at h
      cases xs with
      | nil =>
        simp at h
        obtain ⟨rfl, rfl, h⟩ := h
        obtain ⟨r', rfl⟩ := one hl
        obtain rfl := nil0 h
        exact .inl ⟨r, r', rfl⟩
      | cons y ys => have := congrArg List.length h; simp at this
theorem awk {s : BT Mark} (h : s.elems = awakeM) : nextV s awakeM 0 0 = 0 ∧ nextV s awakeM 1 0 = 2 ∧ wr (0 + (btw wI s (clampI 0 awakeM.length) (clampI 1 awakeM.length)).weight.sum) = 1 := by
  rcases bt_two h with ⟨r, r', rfl⟩ | ⟨r, r', rfl⟩
  · exact ⟨by kernel_rfl, by kernel_rfl, by kernel_rfl⟩
  · exact ⟨by kernel_rfl, by kernel_rfl, by kernel_rfl⟩
theorem awk_put : putL awakeM = awakeM := by kernel_rfl
theorem awk_prior : priorV awakeM 1 0 = 0 ∧ priorV awakeM 2 0 = 2 := ⟨by kernel_rfl, by kernel_rfl⟩
theorem awake10_l {z : Zn} : Fn Go.Proofs.Try.prog 34 [] (fz z) eBool Unit (fun (x : Bool) _ => x = true) fun _ _ => fz z := by
  refine Fn.of l10_P l10_ok prog_mix awake10_t fun B => ?_
  unfold awake10T
  refine AT.row (K := markCd) (xs := awakeM) (e := 116) (by kernel_rfl) rfl (by decide) fun s => ?_
  refine AT.imp sep_comm (AT.freezeR fun z' hz hr => ?_)
  refine AT.call0 (tree10_l hr (by decide)) ?_
  rintro t v -
  rw [awk_put]
  refine AT.call0 (Next_l (by omega)) ?_
  rintro x ⟨s1, v1⟩ ⟨hs, hx, -⟩
  refine AT.iteE (fun _ => ?_) (fun hne => absurd (hx.trans (awk hs).1) hne)
  refine AT.call0 (Next_l (by omega)) ?_
  rintro x ⟨s2, v2⟩ ⟨hs, hx, -⟩
  refine AT.iteE (fun _ => ?_) (fun hne => absurd (hx.trans (awk hs).2.1) hne)
  refine AT.call0 (Prior_l (by omega)) ?_
  rintro x v3 ⟨hx, -⟩
  refine AT.iteE (fun _ => ?_) (fun hne => absurd (hx.trans awk_prior.1) hne)
  refine AT.call0 (Prior_l (by omega)) ?_
  rintro x v4 ⟨hx, -⟩
  refine AT.iteE (fun _ => ?_) (fun hne => absurd (hx.trans awk_prior.2) hne)
  refine AT.call0 (brHeight_l.frameL (fz z')) ?_
  rintro x ⟨s5, v5⟩ ⟨hs, hx, -⟩
  have hx1 := hx.trans (awk hs).2.2
  refine AT.ret (H := eBool) true () ?_ rfl (fz_of.trans (fz_le hz))
  have hx1 : x = (1 : Int) := hx1
  subst hx1; rfl

theorem Vis.sub {a b : Int} {c : Nat} (h : Vis a b c) (hc : c ≤ 1000000000) : ∃ k : Nat, k ≤ c ∧ wr (b - a) = k := by
  obtain ⟨k, hk, rfl⟩ := h
  refine ⟨k, hk, ?_⟩
  rw [Int.sub_eq_add_neg, wr_wr, show a + (k : Int) + -a = k by omega, wr_id (by omega) (by omega)]
theorem hgt60 {n : Nat} (h : n ≤ 60) : hgt n ≤ 17 := Nat.le_trans (hgt_mono h) (by decide)
section
variable {z : Zn} {s : Sl} {xs : List Mark} {p b : Int}
theorem awakeR {B : Nat} {Λ : Lam} {A : Asn} {k : Bool → Tree} (hA : A.Imp (fz z)) (hk : k = fun b => .ret (.bool b)) : AT ⟨Go.Proofs.Try.prog, B, [], RQ eBool Unit (fun (x : Bool) _ => x = true) fun _ _ => fz z⟩ Λ A (.call 34 ([] : List Value).toArray [] eBool k) := by
  subst hk
  refine AT.imp hA (AT.call0 awake10_l ?_)
  rintro x - rfl
  exact AT.ret (H := eBool) true () rfl rfl (Imp.refl _)
theorem visits10_l (hs : RowIn z markCd s xs) : Fn Go.Proofs.Try.prog 6 [slV s, iV p, iV b] (fz z) eBool Unit (fun (x : Bool) _ => x = true) fun _ _ => fz z := by
  refine Fn.of l10_P l10_ok prog_mix (visits10_t s p b) fun B => ?_
  unfold visits10T
  refine AT.call0 awake10_l ?_
  rintro x - rfl
  refine AT.iteN (fun h => by cases h) (fun _ => ?_)
  refine AT.call0 (small10_l hs) fun x _ hb => ?_
  refine AT.iteN (fun _ => awakeR (Imp.refl _) rfl) (fun ht => ?_)
  obtain ⟨h60, hb1⟩ := hb ht
  have hlen := putL_le xs
  refine AT.call0 (tree10_l hs h60) ?_
  rintro t v -
  generalize hL : putL xs = L at hlen
  refine AT.call0 ((Len_l w_ty w_t3).frameL (fz z)) ?_
  rintro x v1 ⟨rfl, -⟩
  refine AT.call0 ((refH7_l (n := L.length) (by omega)).frame _) ?_
  rintro x - hx
  have hx : x = (hgt L.length : Int) := hx
  subst hx
  refine AT.call0 ((Visits_l w_ty w_t3).frameL (fz z)) ?_
  rintro x - rfl
  refine AT.call0 (Next_l hb1) ?_
  rintro x ⟨s2, v2⟩ ⟨-, -, h2⟩
  refine AT.call0 ((Visits_l w_ty w_t3).frameL (fz z)) ?_
  rintro x - rfl
  refine AT.call0 ((Visits_l w_ty w_t3).frameL (fz z)) ?_
  rintro x - rfl
  refine AT.call0 (Prior_l hb1) ?_
  rintro x v3 ⟨-, h3⟩
  refine AT.call0 ((Visits_l w_ty w_t3).frameL (fz z)) ?_
  rintro x - rfl
  refine AT.call0 ((Visits_l w_ty w_t3).frameL (fz z)) ?_
  rintro x - rfl
  refine AT.call0 Best_l ?_
  rintro x v4 h4
  refine AT.call0 Least_l ?_
  rintro x v5 h5
  refine AT.call0 ((Visits_l w_ty w_t3).frameL (fz z)) ?_
  rintro x - rfl
  have hg := hgt60 (n := L.length) (by omega)
  obtain ⟨k2, hk2, e2⟩ := Vis.sub h2 (by omega)
  obtain ⟨k3, hk3, e3⟩ := Vis.sub h3 (by omega)
  obtain ⟨k5, hk5, e5⟩ := Vis.sub (h4.trans h5) (by omega)
  rw [e2, e3, e5, wr_id (n := (hgt L.length : Int) + 4) (by omega) (by omega), wr_id (n := 1000 * ((hgt L.length : Int) + 4)) (by omega) (by omega), wr_id (n := 2 * (1000 * ((hgt L.length : Int) + 4))) (by omega) (by omega)]
  refine AT.iteD (fun _ => ?_) (fun hn => absurd (by omega) hn)
  refine AT.iteD (fun _ => ?_) (fun hn => absurd (by omega) hn)
  refine AT.iteD (fun _ => ?_) (fun hn => absurd (by omega) hn)
  refine AT.call0 ((Len_l w_ty w_t3).frameL (fz z)) ?_
  rintro x v6 ⟨rfl, -⟩
  refine AT.call0 ((timed10_l hs h60).frame _) ?_
  rintro y z' ⟨hz, hr⟩
  rw [hL] at hr
  have hn := hr.n
  have hn : Sl.n y = L.length := hn
  refine AT.ret (H := eBool) true () ?_ rfl (fz_of.trans (fz_le hz))
  show Value.bool _ = Value.bool true
  rw [hn]; simp
end
end Go.Sx

set_option linter.unusedVariables false
set_option maxHeartbeats 1000000
namespace Go.Sx
open Go.RowKit Asn

/-! ### Arguments, as lists of typed elements -/
theorem cell_lt {w : World} {a : Addr} {v : Value} (h : w.cell? a = some v) : a.block < w.heap.size ∧ a.spot = none := by
  unfold World.cell? at h
  rcases Nat.lt_or_ge a.block w.heap.size with h1 | h1
  · refine ⟨h1, ?_⟩
    split at h
    · cases hs : a.spot with
      | none => rfl
      | some q => rw [hs] at h; simp at h
    · cases h
  · rw [Array.getElem?_eq_none h1] at h; cases h
section
variable {H : Type} {enc : TypeId × Value → H} {P : Program} {w : World} {base : Nat} {spare : Nat → Bool} {held : Bool}
/-- A type whose cells read as a typed word. -/
def RdTy (P : Program) (t : TypeId) {T : Type} (C : Codec T) : Prop :=
  P.cellsOf t = C.size ∧ ∀ {H : Type} {enc : TypeId × Value → H} {w : World} {base : Nat} {spare : Nat → Bool} {held : Bool} {n : Nat} {cs : List Value} {x : DataW H × List MemPlace}, DataW.trod enc P w base spare held n t cs = some x → ∃ v : T, cs = C.enc v

theorem RdTy.int {t : TypeId} (h : P.underlying t = some (.int .i64)) (hc : P.cellsOf t = 1) : RdTy P t intCd := ⟨hc, fun h2 => by
  obtain ⟨z, hz, _⟩ := DataW.trod_int h h2
  exact ⟨z, hz⟩⟩

theorem rd_slice {T : Type} {C : Codec T} {t e : TypeId} {fuel : Nat} {a : Option Addr} {n c : Nat} {x : DataW H × List MemPlace} (ht : P.underlying t = some (.slice e)) (hC : P.cellsOf e = C.size) (hpos : 0 < C.size) (Good : T → Prop)
    (hrd : ∀ {m : Nat} {cs : List Value} {x : DataW H × List MemPlace}, DataW.trod enc P w base spare held m e cs = some x → ∃ v : T, cs = C.enc v ∧ Good v) (h : DataW.trod enc P w base spare held fuel t [.slice a n c] = some x) :
    ∃ xs : List T, RowIn (zAll w) C ⟨a, n, c⟩ xs ∧ ∀ v ∈ xs, Good v := by
  rcases Go.Deep.open_slice ht h with h0 | ⟨b, len, cap, m, k, D, Pl, hcs, hb, hl, hm, hmm, hx, hi⟩
  · have h0 := h0.1
    simp only [List.cons.injEq, Value.slice.injEq, and_true] at h0
    obtain ⟨rfl, rfl, rfl⟩ := h0
    exact ⟨[], RowIn.nil _ _, by simp⟩
  · simp only [List.cons.injEq, Value.slice.injEq, and_true] at hcs
    obtain ⟨rfl, rfl, rfl⟩ := hcs
    have hnm : n ≤ m := by rw [hmm]; split <;> omega
    have hpick : ∀ i, ∃ o : Option T, i < n → ∃ v, o = some v ∧ Good v ∧ w.cells? base (b.add (i * C.size)) C.size = some (C.enc v) := by
      intro i
      by_cases hlt : i < n
      · obtain ⟨cs', hc, ht'⟩ := hi i (by omega)
        obtain ⟨v, rfl, hg⟩ := hrd ht'
        rw [hC] at hc
        exact ⟨some v, fun _ => ⟨v, rfl, hg, hc⟩⟩
      · exact ⟨none, fun h => absurd h hlt⟩
    let f : Nat → Option T := fun i => (hpick i).choose
    have hf : ∀ i, i < n → ∃ v, f i = some v ∧ Good v ∧ w.cells? base (b.add (i * C.size)) C.size = some (C.enc v) := fun i hlt => (hpick i).choose_spec hlt
    have hlen : ∀ k, k ≤ n → ((List.range k).filterMap f).length = k := by
      intro k hk
      induction k with
      | zero => rfl
      | succ k ih =>
        obtain ⟨v, hv, _⟩ := hf k (by omega)
        rw [List.range_succ, List.filterMap_append, List.length_append, ih (by omega)]
        simp [hv]
    have hat : ∀ k, k ≤ n → ∀ i, i < k → ((List.range k).filterMap f)[i]? = f i := by
      intro k hk
      induction k with
      | zero => intro i hi; omega
      | succ k ih =>
        intro i hi
        obtain ⟨v, hv, _⟩ := hf k (by omega)
        rw [List.range_succ, List.filterMap_append]
        by_cases hik : i < k
        · rw [List.getElem?_append_left (by rw [hlen k (by omega)]; exact hik)]; exact ih (by omega) i hik
        · have : i = k := by omega
          subst this
          rw [List.getElem?_append_right (by rw [hlen i (by omega)]; exact Nat.le_refl _), hlen i (by omega)]
          simp [hv]
    have hxl := hlen n (Nat.le_refl _)
    have hxa := hat n (Nat.le_refl _)
    generalize hxs : (List.range n).filterMap f = xs at hxl hxa
    refine ⟨xs, ⟨hxl.symm, hl, hm, ?_⟩, fun v hv => ?_⟩
    · rcases Nat.eq_zero_or_pos n with h0 | h0
      · left; exact List.eq_nil_of_length_eq_zero (by omega)
      · right
        have hcell : ∀ i, i < n → ∀ j, j < C.size → ∃ v, xs[i]? = some v ∧ w.cell? (b.add (i * C.size + j)) = (C.enc v)[j]? := by
          intro i hi j hj
          obtain ⟨v, hv, _, hc⟩ := hf i hi
          obtain ⟨_, _, h2⟩ := World.cells?_some hc
          refine ⟨v, by rw [hxa i hi, hv], ?_⟩
          rw [← h2 j hj, ← Go.Deep.add_add]
        have hsp : b.spot = none := by
          obtain ⟨v, hv, hc⟩ := hcell 0 h0 0 hpos
          rw [List.getElem?_eq_getElem (by rw [C.len]; exact hpos)] at hc
          have := (cell_lt hc).2
          simpa [Addr.add] using this
        have hadd : ∀ k, b.add k = ⟨b.block, b.off + k, none⟩ := fun k => by
          obtain ⟨bb, bo, bs⟩ := b
          simp only at hsp; subst hsp
          exact Addr.add_mid _ _ _
        refine ⟨b, rfl, hsp, fun j u hu => ?_⟩
        have hj := (List.getElem?_eq_some_iff.1 hu).1
        rw [flat_len] at hj
        have hq : j / C.size < xs.length := (Nat.div_lt_iff_lt_mul hpos).2 hj
        have hr : j % C.size < C.size := Nat.mod_lt _ hpos
        have hdm : j / C.size * C.size + j % C.size = j := by rw [Nat.mul_comm]; exact Nat.div_add_mod j C.size
        obtain ⟨v, hv, hc⟩ := hcell (j / C.size) (by omega) (j % C.size) hr
        have hlt2 : j / C.size < xs.length := hq
        have hfl : (flat C xs)[j]? = (C.enc v)[j % C.size]? := by
          conv => lhs; rw [← hdm]
          rw [← List.getElem?_drop, flat_drop, List.drop_eq_getElem_cons hlt2, flat_cons, List.getElem?_append_left (by rw [C.len]; exact hr)]
          have : xs[j / C.size] = v := by rw [List.getElem?_eq_getElem hlt2] at hv; injection hv
          rw [this]
        rw [hdm, ← hfl, hu, hadd] at hc
        exact ⟨(cell_lt hc).1, hc⟩
    · rw [← hxs] at hv
      obtain ⟨i, hi, hfi⟩ := List.mem_filterMap.1 hv
      obtain ⟨v', hv', hg, _⟩ := hf i (List.mem_range.1 hi)
      rw [hfi] at hv'; injection hv' with hv'; subst hv'; exact hg
theorem RdTy.row {T : Type} {C : Codec T} {t e : TypeId} {fuel : Nat} {a : Option Addr} {n c : Nat} {x : DataW H × List MemPlace} (hR : RdTy P e C) (hpos : 0 < C.size) (ht : P.underlying t = some (.slice e)) (h : DataW.trod enc P w base spare held fuel t [.slice a n c] = some x) :
    ∃ xs : List T, RowIn (zAll w) C ⟨a, n, c⟩ xs := by
  obtain ⟨xs, h1, _⟩ := rd_slice (Good := fun _ => True) ht hR.1 hpos (fun h => let ⟨v, hv⟩ := hR.2 h; ⟨v, hv, trivial⟩) h
  exact ⟨xs, h1⟩
end
end Go.Sx
namespace Go.Sx
section
variable {H : Type} {enc : TypeId × Value → H} {P : Program} {w : World} {base : Nat} {spare : Nat → Bool} {held : Bool}
/-- A field of a struct. -/
theorem rd_field {T : Type} {C : Codec T} {n k : Nat} {f : Field} {fs : Array Field} {cs : List Value} {xs : List (DataW H × List MemPlace)} (hf : ∀ (i : Nat) (f : Field), fs[i]? = some f → DataW.trod enc P w base spare held n f.type ((cs.drop f.offset).take (P.cellsOf f.type)) = xs[i]?) (hl : xs.length = fs.size)
    (hk : fs[k]? = some f) (hR : RdTy P f.type C) : ∃ v : T, (cs.drop f.offset).take C.size = C.enc v := by
  have h1 := hf k f hk
  have hkl : k < xs.length := by rw [hl]; exact (Array.getElem?_eq_some_iff.1 hk).1
  rw [List.getElem?_eq_getElem hkl, hR.1] at h1
  exact hR.2 h1
end
theorem list2 {T : Type} {l : List T} (h : l.length = 2) : ∃ a b, l = [a, b] := by
  match l, h with
  | [a, b], _ => exact ⟨a, b, rfl⟩
theorem list3 {T : Type} {l : List T} (h : l.length = 3) : ∃ a b c, l = [a, b, c] := by
  match l, h with
  | [a, b, c], _ => exact ⟨a, b, c, rfl⟩
end Go.Sx

set_option linter.unusedVariables false
namespace Go.Sx
open Go.RowKit Asn
def boolCd : Codec Bool := mkCd Bool 1 (fun b => [.bool b]) (fun _ => rfl) (fun _ => rfl)
def itemCd : Codec Item := mkCd Item 2 itemC (fun _ => rfl) (fun _ => rfl)
def tookCd : Codec Took := mkCd Took 3 tookC (fun _ => rfl) (fun _ => rfl)
def opCd : Codec Op := mkCd Op 4 opC (fun _ => rfl) (fun _ => rfl)
theorem list4 {T : Type} {l : List T} (h : l.length = 4) : ∃ a b c d, l = [a, b, c, d] := by
  match l, h with
  | [a, b, c, d], _ => exact ⟨a, b, c, d, rfl⟩
theorem list8 {T : Type} {l : List T} (h : l.length = 8) : ∃ a b c d e f g i, l = [a, b, c, d, e, f, g, i] := by
  match l, h with
  | [a, b, c, d, e, f, g, i], _ => exact ⟨a, b, c, d, e, f, g, i, rfl⟩
theorem RdTy.bool {P : Program} {t : TypeId} (h : P.underlying t = some .bool) (hc : P.cellsOf t = 1) : RdTy P t boolCd := ⟨hc, fun h2 => by
  obtain ⟨z, hz, _⟩ := DataW.trod_bool h h2
  exact ⟨z, hz⟩⟩
/-- The law, as a call: memory that its arguments have is as it was. -/
theorem law_calls {P : Program} {f : FuncId} {args : List Value} {z : Zn} (h : Fn P f args (fz z) eBool Unit (fun (b : Bool) _ => b = true) fun _ _ => fz z) : Calls P f args.toArray z.w fun e w' => e = .returned (.bool true) ∧ Below z.w.heap.size z.w w' :=
  (h z.Z z.w ⟨fun b hb => ⟨hb, rfl⟩, z.lt⟩).2.mono fun e w' ⟨v, F1, he, hs, x, _, hv, hx, hA⟩ => by
    subst hx
    refine ⟨by rw [he, hv]; rfl, hs.fr.os, hs.fr.tape, hs.fr.output, hs.fr.size, fun b hb => ?_⟩
    by_cases hg : z.Z b
    · exact (hA.1 b hg).2
    · exact hs.fr.block b hb hg
end Go.Sx
namespace Go.Proofs.Ytbanmblbgoajdaa.BridgeVisitsRow
open Go.ChangeShapes Go.WideShapes Go.ChangeAt Go.RowKit Go.Sx Go.Deep
theorem own : ownKnob Try.prog.godebug = none := by kernel_rfl
theorem laidOut : laidOutB Try.prog = true := by kernel_rfl
theorem rdInt : RdTy Try.prog 3 intCd := RdTy.int (by kernel_rfl) (by kernel_rfl)
theorem rdBool : RdTy Try.prog 4 boolCd := RdTy.bool (by kernel_rfl) (by kernel_rfl)
theorem rdItem : RdTy Try.prog 68 itemCd := ⟨by kernel_rfl, fun {H enc w base spare held n cs x} h => by
  obtain ⟨xs, m, _, _, hlen, hxl, hf⟩ := DataW.trod_struct (fs := #[⟨"Key", 3, 0, false, "", "", 0⟩, ⟨"ID", 3, 1, false, "", "", 8⟩]) (by kernel_rfl) h
  have hl : cs.length = 2 := by rw [hlen]; kernel_rfl
  obtain ⟨z0, h0⟩ := rd_field (k := 0) (f := ⟨"Key", 3, 0, false, "", "", 0⟩) hf hxl rfl rdInt
  obtain ⟨z1, h1⟩ := rd_field (k := 1) (f := ⟨"ID", 3, 1, false, "", "", 8⟩) hf hxl rfl rdInt
  clear hf hlen h hxl
  obtain ⟨c0, c1, rfl⟩ := list2 hl
  have e0 : [c0] = [iV z0] := h0
  have e1 : [c1] = [iV z1] := h1
  refine ⟨⟨z0, z1⟩, ?_⟩
  show [c0, c1] = [iV z0] ++ [iV z1]
  rw [← e0, ← e1]; rfl⟩
theorem rdTook : RdTy Try.prog 72 tookCd := ⟨by kernel_rfl, fun {H enc w base spare held n cs x} h => by
  obtain ⟨xs, m, _, _, hlen, hxl, hf⟩ := DataW.trod_struct (fs := #[⟨"Found", 4, 0, false, "", "", 0⟩, ⟨"Item", 68, 1, false, "", "", 8⟩]) (by kernel_rfl) h
  have hl : cs.length = 3 := by rw [hlen]; kernel_rfl
  obtain ⟨z0, h0⟩ := rd_field (k := 0) (f := ⟨"Found", 4, 0, false, "", "", 0⟩) hf hxl rfl rdBool
  obtain ⟨z1, h1⟩ := rd_field (k := 1) (f := ⟨"Item", 68, 1, false, "", "", 8⟩) hf hxl rfl rdItem
  clear hf hlen h hxl
  obtain ⟨c0, c1, c2, rfl⟩ := list3 hl
  have e0 : [c0] = [.bool z0] := h0
  have e1 : [c1, c2] = itemC z1 := h1
  refine ⟨⟨z0, z1⟩, ?_⟩
  show [c0, c1, c2] = [.bool z0] ++ itemC z1
  rw [← e0, ← e1]; rfl⟩
theorem rdOp : RdTy Try.prog 70 opCd := ⟨by kernel_rfl, fun {H enc w base spare held n cs x} h => by
  obtain ⟨xs, m, _, _, hlen, hxl, hf⟩ := DataW.trod_struct (fs := #[⟨"Time", 3, 0, false, "", "", 0⟩, ⟨"Insert", 4, 1, false, "", "", 8⟩, ⟨"Item", 68, 2, false, "", "", 16⟩]) (by kernel_rfl) h
  have hl : cs.length = 4 := by rw [hlen]; kernel_rfl
  obtain ⟨z0, h0⟩ := rd_field (k := 0) (f := ⟨"Time", 3, 0, false, "", "", 0⟩) hf hxl rfl rdInt
  obtain ⟨z1, h1⟩ := rd_field (k := 1) (f := ⟨"Insert", 4, 1, false, "", "", 8⟩) hf hxl rfl rdBool
  obtain ⟨z2, h2⟩ := rd_field (k := 2) (f := ⟨"Item", 68, 2, false, "", "", 16⟩) hf hxl rfl rdItem
  clear hf hlen h hxl
  obtain ⟨c0, c1, c2, c3, rfl⟩ := list4 hl
  have e0 : [c0] = [iV z0] := h0
  have e1 : [c1] = [.bool z1] := h1
  have e2 : [c2, c3] = itemC z2 := h2
  refine ⟨⟨z0, z1, z2⟩, ?_⟩
  show [c0, c1, c2, c3] = [iV z0] ++ [.bool z1] ++ itemC z2
  rw [← e0, ← e1, ← e2]; rfl⟩
theorem rdMark : RdTy Try.prog 116 markCd := ⟨by kernel_rfl, fun {H enc w base spare held n cs x} h => by
  obtain ⟨xs, m, _, _, hlen, hxl, hf⟩ := DataW.trod_struct (fs := #[⟨"Op", 70, 0, false, "", "", 0⟩, ⟨"Here", 4, 4, false, "", "", 32⟩, ⟨"Took", 72, 5, false, "", "", 40⟩]) (by kernel_rfl) h
  have hl : cs.length = 8 := by rw [hlen]; kernel_rfl
  obtain ⟨z0, h0⟩ := rd_field (k := 0) (f := ⟨"Op", 70, 0, false, "", "", 0⟩) hf hxl rfl rdOp
  obtain ⟨z1, h1⟩ := rd_field (k := 1) (f := ⟨"Here", 4, 4, false, "", "", 32⟩) hf hxl rfl rdBool
  obtain ⟨z2, h2⟩ := rd_field (k := 2) (f := ⟨"Took", 72, 5, false, "", "", 40⟩) hf hxl rfl rdTook
  clear hf hlen h hxl
  obtain ⟨c0, c1, c2, c3, c4, c5, c6, c7, rfl⟩ := list8 hl
  have e0 : [c0, c1, c2, c3] = opC z0 := h0
  have e1 : [c4] = [.bool z1] := h1
  have e2 : [c5, c6, c7] = tookC z2 := h2
  refine ⟨⟨z0, z1, z2⟩, ?_⟩
  show [c0, c1, c2, c3, c4, c5, c6, c7] = opC z0 ++ [.bool z1] ++ tookC z2
  rw [← e0, ← e1, ← e2]; rfl⟩
set_option maxRecDepth 100000 in
theorem lifted (os : Os) (started : os.Started) (H : Type) (enc : TypeId × Value → H) :
    ReturnsInHanded {} Try.checked os 6 .any (Rows.bridgeVisitsSpec.pre6 enc Try.prog Try.f6 Rows.bridgeVisitsRow.domain false) (Rows.bridgeVisitsSpec.post enc Try.prog Try.f6 false true false false) := by
  refine returnsInHanded_of_change_sized (C := Try.checked) own started (by kernel_rfl) Try.func6
    (ChangeSpec.witness6 (enc := enc) (C := Try.checked) false ⟨#[], #[.slice none 0 0, .int .i64 0, .int .i64 0], []⟩ 8 (by kernel_rfl) (by kernel_rfl) (by kernel_rfl) (by kernel_rfl)) ?_
  intro W base args ds gs before hval0 hW hcnd hsz0 _
  have hval : ∀ (j : Nat) t v, Try.f6.params[j]? = some t → args[j]? = some v → Value.okWide Try.prog W .any base t v := hval0
  have hW' := hW
  obtain ⟨p, q, hA0, hV, rfl, hfz, hnd⟩ := hW
  have hA : DataW.TrodAll enc Try.prog W 0 (fun _ => true) true Try.f6.params.toList args.toList ds p := hA0
  rw [Try.params6] at hA hval
  obtain ⟨v0, vs0, d0, ds0, p0, q0, hargs, rfl, rfl, h0, r0⟩ := trodAll_cons hA
  obtain ⟨v1, vs1, d1, ds1, p1, q1, rfl, rfl, rfl, h1, r1⟩ := trodAll_cons r0
  obtain ⟨v2, vs2, d2, ds2, p2, q2, rfl, rfl, rfl, h2, r2⟩ := trodAll_cons r1
  obtain ⟨rfl, rfl, rfl⟩ := trodAll_nil r2
  obtain rfl : args = #[v0, v1, v2] := by cases args; simp_all
  obtain ⟨rfl, rfl⟩ := trodVars_none hV
  obtain ⟨a0, len0, cap0, rfl⟩ := okWide_slice Try.underlying63 (hval 0 63 v0 rfl rfl)
  have k0 := h0
  have lt0 : ∀ x ∈ p0, x.block < W.heap.size := by obtain ⟨m, hm⟩ := k0; exact DataW.trod_lt m _ _ _ hm
  obtain ⟨xs, hxs⟩ : ∃ xs : List Sx.Mark, RowIn (zAll W) markCd ⟨a0, len0, cap0⟩ xs := by
    obtain ⟨fuel, hf⟩ := h0
    exact RdTy.row rdMark (by decide) Try.underlying63 hf
  obtain ⟨a1, rfl, rfl, rfl, w1⟩ := open_int Try.underlying3 (hval 1 3 v1 rfl rfl) h1
  obtain ⟨a2, rfl, rfl, rfl, w2⟩ := open_int Try.underlying3 (hval 2 3 v2 rfl rfl) h2
  clear hA0 hval0 hsz0
  refine (law_calls (z := zAll W) (visits10_l (p := a1) (b := a2) hxs)).mono fun e W' ⟨he, bel⟩ => ?_
  subst he
  exact ⟨_, rfl, _, _, _, [], _, [], hW', trodAll_mk1 (shut_bool Try.underlying4 _), (trodAll_cons_mk (Below.trod laidOut (by kernel_rfl) (of_decide_eq_true (by kernel_rfl)) k0 bel lt0) (trodAll_cons_mk (shut_int Try.underlying3 w1) (trodAll_cons_mk (shut_int Try.underlying3 w2) trodAll_mk0))), rfl, bel.frame _, fun h => by cases h⟩
theorem over : Rows.bridgeVisitsRow.holds Try.pinned (OpenSpec.ofChange Rows.bridgeVisitsSpec) :=
  OpenClaim.holds_of_wide 6 Try.f6 rfl rfl rfl rfl rfl rfl rfl ⟨rfl, rfl, rfl, rfl, rfl⟩ rfl rfl rfl rfl rfl (by kernel_rfl) Try.func6 (by kernel_rfl)
    (of_decide_eq_true (by kernel_rfl)) (by unfold Func.isWrapper; first | (rw [if_pos (by decide +kernel)]; kernel_rfl) | (rw [if_neg (by decide +kernel)]; exact ⟨rfl, rfl⟩))
    (fun os started H enc _ => lifted os started H enc)
theorem proved : Rows.BridgeVisitsSaid := over
#print axioms proved
end Go.Proofs.Ytbanmblbgoajdaa.BridgeVisitsRow
