import Derived.Test.YtbanmblbgoajdaaWhPool6
set_option linter.unusedVariables false
set_option maxHeartbeats 1000000
namespace Go.Sx

/-! ### A pool as its handles see it -/
namespace Pool
variable {T : Type} {σ : Pool T} {n : Nat} {z v : T} {r : Rf}

def lookc (c : Cell T) (g : Int) : Option T := if c.live = true ∧ c.gen = g then some c.v else none
def look (σ : Pool T) (r : Rf) : Option T := if r.ix < 0 then none else (σ.cells[r.ix.toNat]?).bind fun c => lookc c r.gen

theorem find_look : (match σ.find r with | none => σ.look r = none | some i => i = r.ix.toNat ∧ 0 ≤ r.ix ∧ ∃ c, σ.cells[i]? = some c ∧ c.live = true ∧ c.gen = r.gen ∧ σ.look r = some c.v) := by
  unfold find look lookc
  by_cases h : r.ix < 0
  · simp [h]
  · simp only [h, if_false]
    cases hc : σ.cells[r.ix.toNat]? with
    | none => simp
    | some c =>
      by_cases h2 : c.live = true ∧ c.gen = r.gen
      · simp only [h2, and_self, if_true, Option.bind_some, true_and]
        refine ⟨by omega, c, hc, h2.1, h2.2, ?_⟩
        first | rfl | simp
      · simp only [h2, if_false, Option.bind_some]

theorem get_none (h : σ.look r = none) : σ.get z r = ((z, false), σ) := by
  have := find_look (σ := σ) (r := r)
  unfold get
  cases hf : σ.find r with
  | none => rfl
  | some i => rw [hf] at this; obtain ⟨_, _, c, _, _, _, h2⟩ := this; rw [h] at h2; cases h2
theorem get_some (h : σ.look r = some v) : σ.get z r = ((v, true), σ.visit) := by
  have := find_look (σ := σ) (r := r)
  unfold get
  cases hf : σ.find r with
  | none => rw [hf] at this; rw [h] at this; cases this
  | some i =>
    rw [hf] at this
    obtain ⟨_, _, c, hc, _, _, h2⟩ := this
    rw [h] at h2; injection h2 with h2
    simp [hc, h2]
theorem visit_look : (σ.visit).look r = σ.look r := rfl
theorem visit_ok (h : σ.Ok n) : (σ.visit).Ok n := ⟨h.len, h.free, h.nodup, h.gen, h.held, h.room, h.cap0, h.cap, h.le⟩

theorem look_set {i : Nat} {y : Cell T} (hi : i < σ.cells.length) (r : Rf) : ({ σ with cells := σ.cells.set i y } : Pool T).look r = if 0 ≤ r.ix ∧ r.ix.toNat = i then lookc y r.gen else σ.look r := by
  unfold look
  by_cases h : r.ix < 0
  · rw [if_pos h, if_pos h, if_neg (by omega)]
  · rw [if_neg h, if_neg h]
    by_cases e : r.ix.toNat = i
    · rw [if_pos ⟨by omega, e⟩, e, List.getElem?_set_self hi]; rfl
    · rw [if_neg (fun h => e h.2), List.getElem?_set_ne (Ne.symm e)]

theorem rf_ext {r r' : Rf} (h1 : r.ix = r'.ix) (h2 : r.gen = r'.gen) : r = r' := by cases r; cases r'; simp_all

theorem lives_set {i : Nat} {c y : Cell T} (hc : σ.cells[i]? = some c) : (σ.cells.set i y).countP (fun c => c.live) + (if c.live then 1 else 0) = σ.cells.countP (fun c => c.live) + (if y.live then 1 else 0) := by
  obtain ⟨hlt, he⟩ := List.getElem?_eq_some_iff.1 hc
  have h1 := List.countP_set (p := fun c : Cell T => c.live) (l := σ.cells) (a := y) hlt
  have h2 := List.boole_getElem_le_countP (p := fun c : Cell T => c.live) (l := σ.cells) hlt
  rw [he] at h1 h2
  rw [h1]
  cases hcl : c.live <;> cases hyl : y.live <;> simp only [hcl, if_true, if_false, Bool.false_eq_true] at h2 ⊢ <;> omega

theorem mem_set {l : List T} {i : Nat} {y x : T} (h : x ∈ l.set i y) : x = y ∨ x ∈ l := by
  rcases List.mem_or_eq_of_mem_set h with h | h
  · exact .inr h
  · exact .inl h

/-- A cell that lives takes another value. -/
theorem set_some {u : T} (h : σ.look r = some u) (hO : σ.Ok n) : (σ.set r v).1 = true ∧ (σ.set r v).2.Ok n ∧ (σ.set r v).2.visits = wr (σ.visits + 1) ∧ (σ.set r v).2.held = σ.held ∧ (σ.set r v).2.cap = σ.cap ∧
    ∀ r', (σ.set r v).2.look r' = if r' = r then some v else σ.look r' := by
  have hf := find_look (σ := σ) (r := r)
  unfold set
  cases hfd : σ.find r with
  | none => rw [hfd] at hf; rw [h] at hf; cases hf
  | some i =>
    rw [hfd] at hf
    obtain ⟨hi, h0, c, hc, hl, hg, h2⟩ := hf
    have hil : i < σ.cells.length := (List.getElem?_eq_some_iff.1 hc).1
    simp only [setAt]
    rw [modify_eq_set (show (σ.visit).cells[i]? = some c from hc)]
    refine ⟨trivial, ?_, rfl, rfl, rfl, fun r' => ?_⟩
    · have hlv := lives_set (σ := σ.visit) (y := { c with v := v }) (show (σ.visit).cells[i]? = some c from hc)
      have hlv' : ((σ.visit).cells.set i { c with v := v }).countP (fun c => c.live) = σ.lives := by
        have : (σ.visit).cells.countP (fun c => c.live) = σ.lives := rfl
        simp only [hl, if_true] at hlv ⊢
        omega
      refine ⟨by simpa [visit] using hO.len, fun j hj => ?_, hO.nodup, fun c' hc' => ?_, by show σ.held = (((List.countP _ _ : Nat)) : Int); rw [hlv']; exact hO.held, by show _ + List.countP _ _ ≤ _; rw [hlv']; simpa [visit] using hO.room, hO.cap0, hO.cap, hO.le⟩
      · obtain ⟨hj0, c', hc', hl', hg'⟩ := hO.free j hj
        have : j.toNat ≠ i := fun e => by subst e; rw [hc] at hc'; injection hc' with hc'; subst hc'; rw [hl] at hl'; cases hl'
        exact ⟨hj0, c', by simp only [visit]; rw [List.getElem?_set_ne (Ne.symm this)]; exact hc', hl', hg'⟩
      · rcases mem_set hc' with rfl | hc'
        · exact hO.gen c (List.mem_of_getElem? hc)
        · exact hO.gen c' hc'
    · rw [look_set (σ := σ.visit) hil r']
      by_cases e : r' = r
      · subst e
        rw [if_pos ⟨h0, hi.symm⟩, if_pos rfl]
        unfold lookc; simp [hl, hg]
      · rw [if_neg e]
        by_cases e2 : 0 ≤ r'.ix ∧ r'.ix.toNat = i
        · rw [if_pos e2]
          have hix : r'.ix = r.ix := by omega
          have hgn : r'.gen ≠ r.gen := fun hh => e (rf_ext hix hh)
          have h1 : lookc ({ c with v := v } : Cell T) r'.gen = none := by
            unfold lookc; rw [if_neg]; rintro ⟨_, hh⟩; exact hgn (hh.symm.trans hg)
          rw [h1]
          unfold look
          rw [if_neg (by omega), hix, ← hi, hc]
          simp only [Option.bind_some]
          unfold lookc; rw [if_neg]; rintro ⟨_, hh⟩; exact hgn (hh.symm.trans hg)
        · rw [if_neg e2]; rfl

theorem drop_some {u : T} (h : σ.look r = some u) (hO : σ.Ok n) : (σ.drop z r).1 = (u, true) ∧ (σ.drop z r).2.Ok n ∧ (σ.drop z r).2.visits = wr (σ.visits + 1) ∧ (σ.drop z r).2.held = σ.held - 1 ∧ (σ.drop z r).2.cap = σ.cap ∧ 0 < σ.held ∧
    ∀ r', (σ.drop z r).2.look r' = if r' = r then none else σ.look r' := by
  have hf := find_look (σ := σ) (r := r)
  unfold drop
  cases hfd : σ.find r with
  | none => rw [hfd] at hf; rw [h] at hf; cases hf
  | some i =>
    rw [hfd] at hf
    obtain ⟨hi, h0, c, hc, hl, hg, h2⟩ := hf
    have hil : i < σ.cells.length := (List.getElem?_eq_some_iff.1 hc).1
    have hu : c.v = u := by rw [h] at h2; injection h2 with h2; exact h2.symm
    simp only [setAt]
    rw [modify_eq_set (show (σ.visit).cells[i]? = some c from hc)]
    have hlv := lives_set (σ := σ.visit) (y := { v := z, gen := c.gen, live := false }) (show (σ.visit).cells[i]? = some c from hc)
    simp only [hl, if_true] at hlv
    have hvl : (σ.visit).cells.countP (fun c => c.live) = σ.lives := rfl
    have hheld := hO.held
    have hle := hO.le
    have hcap := hO.cap
    have hroom := hO.room
    have hpos : 0 < σ.held := by rw [hheld]; simp at hlv; omega
    have hwr : wr (σ.held - 1) = σ.held - 1 := wr_id (by omega) (by omega)
    refine ⟨by simp [hc, hu], ⟨by simpa [visit] using hO.len, fun j hj => ?_, ?_, fun c' hc' => ?_, ?_, ?_, hO.cap0, hO.cap, by simp only [hwr]; have : (σ.visit).cap = σ.cap := rfl; omega⟩, rfl, hwr, rfl, hpos, fun r' => ?_⟩
    · simp only [visit] at hj ⊢
      have hold : j ∈ σ.free → 0 ≤ j ∧ ∃ c', (σ.cells.set i { v := z, gen := c.gen, live := false })[j.toNat]? = some c' ∧ c'.live = false ∧ c'.gen < 4294967295 := fun hj => by
        obtain ⟨hj0, c', hc', hl', hg'⟩ := hO.free j hj
        have : j.toNat ≠ i := fun e => by subst e; rw [hc] at hc'; injection hc' with hc'; subst hc'; rw [hl] at hl'; cases hl'
        exact ⟨hj0, c', by rw [List.getElem?_set_ne (Ne.symm this)]; exact hc', hl', hg'⟩
      split at hj
      · rename_i hgl
        rcases List.mem_append.1 hj with hj | hj
        · exact hold hj
        · simp at hj; subst hj
          exact ⟨h0, _, by rw [← hi, List.getElem?_set_self hil], rfl, by simp only; omega⟩
      · exact hold hj
    · simp only
      split
      · refine List.nodup_append.2 ⟨hO.nodup, by simp, fun a ha b hb => ?_⟩
        simp at hb; subst hb
        intro e; subst e
        obtain ⟨_, c', hc', hl', _⟩ := hO.free _ ha
        rw [← hi, hc] at hc'; injection hc' with hc'; subst hc'; rw [hl] at hl'; cases hl'
      · exact hO.nodup
    · rcases mem_set hc' with rfl | hc'
      · exact hO.gen c (List.mem_of_getElem? hc)
      · exact hO.gen c' hc'
    · simp only [hwr]
      show _ = ((List.countP _ ((σ.visit).cells.set i { v := z, gen := c.gen, live := false }) : Nat) : Int)
      simp at hlv ⊢
      omega
    · show _ + List.countP _ ((σ.visit).cells.set i { v := z, gen := c.gen, live := false }) ≤ _
      simp only [List.length_set]
      have : (σ.visit).cells.length = σ.cells.length := rfl
      simp at hlv
      split
      · rw [List.length_append, List.length_singleton]; omega
      · omega
    · show ({ σ.visit with cells := (σ.visit).cells.set i { v := z, gen := c.gen, live := false } } : Pool T).look r' = _
      rw [look_set (σ := σ.visit) hil r']
      have hno : ∀ g, lookc ({ v := z, gen := c.gen, live := false } : Cell T) g = none := fun g => by unfold lookc; simp
      by_cases e : r' = r
      · subst e
        rw [if_pos ⟨h0, hi.symm⟩, if_pos rfl, hno]
      · rw [if_neg e]
        by_cases e2 : 0 ≤ r'.ix ∧ r'.ix.toNat = i
        · rw [if_pos e2, hno]
          have hix : r'.ix = r.ix := by omega
          have hgn : r'.gen ≠ r.gen := fun hh => e (rf_ext hix hh)
          unfold look
          rw [if_neg (by omega), hix, ← hi, hc]
          simp only [Option.bind_some]
          unfold lookc; rw [if_neg]; rintro ⟨_, hh⟩; exact hgn (hh.symm.trans hg)
        · rw [if_neg e2]; rfl

theorem next_all (hO : σ.Ok n) (z : T) : (σ.next z).2.cells.length ≤ n + 1 ∧ (∀ i ∈ (σ.next z).2.free, i ∈ σ.free ∧ i ≠ (σ.next z).1) ∧ (σ.next z).2.free.Nodup ∧ (∀ c ∈ (σ.next z).2.cells, 0 ≤ c.gen ∧ c.gen ≤ 4294967295) ∧
    (σ.next z).2.lives = σ.lives ∧ (σ.next z).2.free.length + σ.lives + 1 ≤ (σ.next z).2.cells.length ∧ (∀ r, (σ.next z).2.look r = σ.look r) ∧ (∀ (k : Nat) (c : Cell T), σ.cells[k]? = some c → (σ.next z).2.cells[k]? = some c) := by
  have hlen := hO.len
  have hroom := hO.room
  unfold next
  cases hl : σ.free.getLast? with
  | some i =>
    obtain ⟨ys, hys⟩ := List.getLast?_eq_some_iff.1 hl
    have hdl : σ.free.dropLast = ys := by rw [hys]; simp
    have hnd := hO.nodup
    rw [hys, List.nodup_append] at hnd
    refine ⟨by simp; omega, fun j hj => ?_, ?_, hO.gen, rfl, ?_, fun _ => rfl, fun _ _ h => h⟩
    · simp only [hdl] at hj
      exact ⟨by rw [hys]; exact List.mem_append_left _ hj, hnd.2.2 j hj i (by simp)⟩
    · simp only [hdl]; exact hnd.1
    · simp only [hdl]; rw [hys, List.length_append, List.length_singleton] at hroom; omega
  | none =>
    have h0 : σ.free = [] := by simpa using hl
    refine ⟨by simp; omega, fun j hj => (by simp [h0] at hj), by simp [h0], fun c hc => ?_, ?_, ?_, fun r => ?_, fun k c h => ?_⟩
    · rcases List.mem_append.1 hc with hc | hc
      · exact hO.gen c hc
      · simp at hc; subst hc; simp
    · unfold lives; simp
    · simp [h0] at hroom ⊢; exact hroom
    · unfold look
      split
      · rfl
      · simp only
        by_cases h : r.ix.toNat < σ.cells.length
        · rw [List.getElem?_append_left h]
        · rw [List.getElem?_append_right (by omega), List.getElem?_eq_none (l := σ.cells) (by omega)]
          cases hk : r.ix.toNat - σ.cells.length with
          | zero => simp [lookc]
          | succ k => simp
    · simp only
      rw [List.getElem?_append_left (List.getElem?_eq_some_iff.1 h).1]; exact h

theorem put_full (h : σ.held = σ.cap) : σ.put z v = ((⟨0, 0⟩, false), σ) := by unfold put; rw [if_pos h]

theorem put_room (h : σ.held ≠ σ.cap) (hO : σ.Ok n) : (σ.put z v).1.2 = true ∧ (σ.put z v).2.Ok (n + 1) ∧ (σ.put z v).2.visits = σ.visits ∧ (σ.put z v).2.held = σ.held + 1 ∧ (σ.put z v).2.cap = σ.cap ∧
    0 < (σ.put z v).1.1.gen ∧ σ.look (σ.put z v).1.1 = none ∧ ∀ r', (σ.put z v).2.look r' = if r' = (σ.put z v).1.1 then some v else σ.look r' := by
  obtain ⟨h0, c, hc, hcl, hg0, hg1⟩ := next_ok hO z
  obtain ⟨a1, a2, a3, a4, a5, a6, a7, a8⟩ := next_all hO z
  have hnh := next_held (σ := σ) z
  unfold put
  rw [if_neg h]
  have hfree := hO.free
  have hheld := hO.held
  have hle := hO.le
  have hcap := hO.cap
  have hcap0 := hO.cap0
  generalize σ.next z = nx at *
  obtain ⟨i, σ1⟩ := nx
  simp only at *
  have hil : i.toNat < σ1.cells.length := (List.getElem?_eq_some_iff.1 hc).1
  have hg : wr (c.gen + 1) = c.gen + 1 := wr_id (by omega) (by omega)
  have hh : wr (σ.held + 1) = σ.held + 1 := wr_id (by omega) (by omega)
  simp only [hc, Option.map_some, Option.getD_some, hg, setAt, hh]
  rw [modify_eq_set hc]
  have hlv := lives_set (σ := σ1) (y := { v := v, gen := c.gen + 1, live := true }) hc
  have a5' : σ1.cells.countP (fun c => c.live) = σ.lives := a5
  have hlv : (σ1.cells.set i.toNat { v := v, gen := c.gen + 1, live := true }).countP (fun c => c.live) = σ.lives + 1 := by simp [hcl] at hlv; omega
  have hlno : σ.look ⟨i, c.gen + 1⟩ = none := by
    rw [← a7]
    unfold look
    rw [if_neg (by simp only; omega)]
    simp only
    rw [hc]
    simp [lookc, hcl]
  refine ⟨trivial, ⟨by simpa using a1, fun j hj => ?_, a3, fun c' hc' => ?_, ?_, ?_, by show 0 ≤ σ1.cap; omega, by show σ1.cap ≤ _; omega, ?_⟩, hnh.2.2, trivial, hnh.2.1, by omega, hlno, fun r' => ?_⟩
  · obtain ⟨hj1, hj2⟩ := a2 j hj
    obtain ⟨hj0, c', hc', hl', hg'⟩ := hfree j hj1
    have : j.toNat ≠ i.toNat := by omega
    exact ⟨hj0, c', by simp only; rw [List.getElem?_set_ne (Ne.symm this)]; exact a8 _ _ hc', hl', hg'⟩
  · rcases mem_set hc' with rfl | hc'
    · simp only; omega
    · exact a4 c' hc'
  · show σ.held + 1 = ((List.countP (fun c => c.live) (σ1.cells.set i.toNat { v := v, gen := c.gen + 1, live := true }) : Nat) : Int)
    rw [hlv]; omega
  · show σ1.free.length + List.countP (fun c => c.live) (σ1.cells.set i.toNat { v := v, gen := c.gen + 1, live := true }) ≤ (σ1.cells.set i.toNat _).length
    rw [hlv, List.length_set]; omega
  · show σ.held + 1 ≤ σ1.cap; omega
  · show ({ σ1 with cells := σ1.cells.set i.toNat { v := v, gen := c.gen + 1, live := true } } : Pool T).look r' = _
    rw [look_set hil r', a7]
    by_cases e : r' = ⟨i, c.gen + 1⟩
    · subst e
      rw [if_pos ⟨h0, rfl⟩, if_pos rfl]
      simp [lookc]
    · rw [if_neg e]
      by_cases e2 : 0 ≤ r'.ix ∧ r'.ix.toNat = i.toNat
      · rw [if_pos e2]
        have hix : r'.ix = i := by omega
        have hgn : r'.gen ≠ c.gen + 1 := fun hh => e (rf_ext hix hh)
        have h1 : lookc ({ v := v, gen := c.gen + 1, live := true } : Cell T) r'.gen = none := by
          unfold lookc; rw [if_neg]; rintro ⟨_, hh⟩; exact hgn hh.symm
        rw [h1, ← a7]
        unfold look
        rw [if_neg (by omega), hix, hc]
        simp [lookc, hcl]
      · rw [if_neg e2]
end Pool
end Go.Sx
