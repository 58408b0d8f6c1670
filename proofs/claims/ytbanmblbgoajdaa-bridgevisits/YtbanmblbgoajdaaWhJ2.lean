import Derived.Test.YtbanmblbgoajdaaWhJ1
import Derived.Laws.Small
import Derived.Deep.Upon
import Derived.Test.YtbanmblbgoajdaaProg
import Derived.KernelRfl
set_option linter.unusedVariables false
set_option maxHeartbeats 1000000
namespace Go.Sx

/-! ### A pool as its handles see it -/
namespace Pool
variable {T : Type} {σ : Pool T} {n : Nat} {z v : T} {r : Rf}

def lookc (c : Cell T) (g : Int) : Option T := if c.live = true ∧ c.gen = g then some c.v else none
def look (σ : Pool T) (r : Rf) : Option T := if r.ix < 0 then none else (σ.cells[r.ix.toNat]?).bind fun c => lookc c r.gen

theorem find_look : (match σ.find r with | none => σ.look r = none | some i => i = r.ix.toNat ∧ 0 ≤ r.ix ∧ ∃ c, σ.cells[i]? = some c ∧ c.live = true ∧ c.gen = r.gen ∧ σ.look r = some c.v) := by
  unfold find look lookc
  by_cases h : r.ix < 0
  · simp [h]
  · simp only [h, if_false]
    cases hc : σ.cells[r.ix.toNat]? with
    | none => simp
    | some c =>
      by_cases h2 : c.live = true ∧ c.gen = r.gen
      · simp only [h2, and_self, if_true, Option.bind_some, true_and]
        refine ⟨by omega, c, hc, h2.1, h2.2, ?_⟩
        first | rfl | simp
      · simp only [h2, if_false, Option.bind_some]

theorem get_none (h : σ.look r = none) : σ.get z r = ((z, false), σ) := by
  have := find_look (σ := σ) (r := r)
  unfold get
  cases hf : σ.find r with
  | none => rfl
  | some i => rw [hf] at this; obtain ⟨_, _, c, _, _, _, h2⟩ := this; rw [h] at h2; cases h2
theorem get_some (h : σ.look r = some v) : σ.get z r = ((v, true), σ.visit) := by
  have := find_look (σ := σ) (r := r)
  unfold get
  cases hf : σ.find r with
  | none => rw [hf] at this; rw [h] at this; cases this
  | some i =>
    rw [hf] at this
    obtain ⟨_, _, c, hc, _, _, h2⟩ := this
    rw [h] at h2; injection h2 with h2
    simp [hc, h2]
theorem visit_look : (σ.visit).look r = σ.look r := rfl
theorem visit_ok (h : σ.Ok n) : (σ.visit).Ok n := ⟨h.len, h.free, h.nodup, h.gen, h.held, h.room, h.cap0, h.cap, h.le⟩

theorem look_set {i : Nat} {y : Cell T} (hi : i < σ.cells.length) (r : Rf) : ({ σ with cells := σ.cells.set i y } : Pool T).look r = if 0 ≤ r.ix ∧ r.ix.toNat = i then lookc y r.gen else σ.look r := by
  unfold look
  by_cases h : r.ix < 0
  · rw [if_pos h, if_pos h, if_neg (by omega)]
  · rw [if_neg h, if_neg h]
    by_cases e : r.ix.toNat = i
    · rw [if_pos ⟨by omega, e⟩, e, List.getElem?_set_self hi]; rfl
    · rw [if_neg (fun h => e h.2), List.getElem?_set_ne (Ne.symm e)]

theorem rf_ext {r r' : Rf} (h1 : r.ix = r'.ix) (h2 : r.gen = r'.gen) : r = r' := by cases r; cases r'; simp_all

theorem lives_set {i : Nat} {c y : Cell T} (hc : σ.cells[i]? = some c) : (σ.cells.set i y).countP (fun c => c.live) + (if c.live then 1 else 0) = σ.cells.countP (fun c => c.live) + (if y.live then 1 else 0) := by
  obtain ⟨hlt, he⟩ := List.getElem?_eq_some_iff.1 hc
  have h1 := List.countP_set (p := fun c : Cell T => c.live) (l := σ.cells) (a := y) hlt
  have h2 := List.boole_getElem_le_countP (p := fun c : Cell T => c.live) (l := σ.cells) hlt
  rw [he] at h1 h2
  rw [h1]
  cases hcl : c.live <;> cases hyl : y.live <;> simp only [hcl, if_true, if_false, Bool.false_eq_true] at h2 ⊢ <;> omega

theorem mem_set {l : List T} {i : Nat} {y x : T} (h : x ∈ l.set i y) : x = y ∨ x ∈ l := by
  rcases List.mem_or_eq_of_mem_set h with h | h
  · exact .inr h
  · exact .inl h

/-- A cell that lives takes another value. -/
theorem set_some {u : T} (h : σ.look r = some u) (hO : σ.Ok n) : (σ.set r v).1 = true ∧ (σ.set r v).2.Ok n ∧ (σ.set r v).2.visits = wr (σ.visits + 1) ∧ (σ.set r v).2.held = σ.held ∧ (σ.set r v).2.cap = σ.cap ∧
    ∀ r', (σ.set r v).2.look r' = if r' = r then some v else σ.look r' := by
  have hf := find_look (σ := σ) (r := r)
  unfold set
  cases hfd : σ.find r with
  | none => rw [hfd] at hf; rw [h] at hf; cases hf
  | some i =>
    rw [hfd] at hf
    obtain ⟨hi, h0, c, hc, hl, hg, h2⟩ := hf
    have hil : i < σ.cells.length := (List.getElem?_eq_some_iff.1 hc).1
    simp only [setAt]
    rw [modify_eq_set (show (σ.visit).cells[i]? = some c from hc)]
    refine ⟨trivial, ?_, rfl, rfl, rfl, fun r' => ?_⟩
    · have hlv := lives_set (σ := σ.visit) (y := { c with v := v }) (show (σ.visit).cells[i]? = some c from hc)
      have hlv' : ((σ.visit).cells.set i { c with v := v }).countP (fun c => c.live) = σ.lives := by
        have : (σ.visit).cells.countP (fun c => c.live) = σ.lives := rfl
        simp only [hl, if_true] at hlv ⊢
        omega
      refine ⟨by simpa [visit] using hO.len, fun j hj => ?_, hO.nodup, fun c' hc' => ?_, by show σ.held = (((List.countP _ _ : Nat)) : Int); rw [hlv']; exact hO.held, by show _ + List.countP _ _ ≤ _; rw [hlv']; simpa [visit] using hO.room, hO.cap0, hO.cap, hO.le⟩
      · obtain ⟨hj0, c', hc', hl', hg'⟩ := hO.free j hj
        have : j.toNat ≠ i := fun e => by subst e; rw [hc] at hc'; injection hc' with hc'; subst hc'; rw [hl] at hl'; cases hl'
        exact ⟨hj0, c', by simp only [visit]; rw [List.getElem?_set_ne (Ne.symm this)]; exact hc', hl', hg'⟩
      · rcases mem_set hc' with rfl | hc'
        · exact hO.gen c (List.mem_of_getElem? hc)
        · exact hO.gen c' hc'
    · rw [look_set (σ := σ.visit) hil r']
      by_cases e : r' = r
      · subst e
        rw [if_pos ⟨h0, hi.symm⟩, if_pos rfl]
        unfold lookc; simp [hl, hg]
      · rw [if_neg e]
        by_cases e2 : 0 ≤ r'.ix ∧ r'.ix.toNat = i
        · rw [if_pos e2]
          have hix : r'.ix = r.ix := by omega
          have hgn : r'.gen ≠ r.gen := fun hh => e (rf_ext hix hh)
          have h1 : lookc ({ c with v := v } : Cell T) r'.gen = none := by
            unfold lookc; rw [if_neg]; rintro ⟨_, hh⟩; exact hgn (hh.symm.trans hg)
          rw [h1]
          unfold look
          rw [if_neg (by omega), hix, ← hi, hc]
          simp only [Option.bind_some]
          unfold lookc; rw [if_neg]; rintro ⟨_, hh⟩; exact hgn (hh.symm.trans hg)
        · rw [if_neg e2]; rfl

theorem drop_some {u : T} (h : σ.look r = some u) (hO : σ.Ok n) : (σ.drop z r).1 = (u, true) ∧ (σ.drop z r).2.Ok n ∧ (σ.drop z r).2.visits = wr (σ.visits + 1) ∧ (σ.drop z r).2.held = σ.held - 1 ∧ (σ.drop z r).2.cap = σ.cap ∧ 0 < σ.held ∧
    ∀ r', (σ.drop z r).2.look r' = if r' = r then none else σ.look r' := by
  have hf := find_look (σ := σ) (r := r)
  unfold drop
  cases hfd : σ.find r with
  | none => rw [hfd] at hf; rw [h] at hf; cases hf
  | some i =>
    rw [hfd] at hf
    obtain ⟨hi, h0, c, hc, hl, hg, h2⟩ := hf
    have hil : i < σ.cells.length := (List.getElem?_eq_some_iff.1 hc).1
    have hu : c.v = u := by rw [h] at h2; injection h2 with h2; exact h2.symm
    simp only [setAt]
    rw [modify_eq_set (show (σ.visit).cells[i]? = some c from hc)]
    have hlv := lives_set (σ := σ.visit) (y := { v := z, gen := c.gen, live := false }) (show (σ.visit).cells[i]? = some c from hc)
    simp only [hl, if_true] at hlv
    have hvl : (σ.visit).cells.countP (fun c => c.live) = σ.lives := rfl
    have hheld := hO.held
    have hle := hO.le
    have hcap := hO.cap
    have hroom := hO.room
    have hpos : 0 < σ.held := by rw [hheld]; simp at hlv; omega
    have hwr : wr (σ.held - 1) = σ.held - 1 := wr_id (by omega) (by omega)
    refine ⟨by simp [hc, hu], ⟨by simpa [visit] using hO.len, fun j hj => ?_, ?_, fun c' hc' => ?_, ?_, ?_, hO.cap0, hO.cap, by simp only [hwr]; have : (σ.visit).cap = σ.cap := rfl; omega⟩, rfl, hwr, rfl, hpos, fun r' => ?_⟩
    · simp only [visit] at hj ⊢
      have hold : j ∈ σ.free → 0 ≤ j ∧ ∃ c', (σ.cells.set i { v := z, gen := c.gen, live := false })[j.toNat]? = some c' ∧ c'.live = false ∧ c'.gen < 4294967295 := fun hj => by
        obtain ⟨hj0, c', hc', hl', hg'⟩ := hO.free j hj
        have : j.toNat ≠ i := fun e => by subst e; rw [hc] at hc'; injection hc' with hc'; subst hc'; rw [hl] at hl'; cases hl'
        exact ⟨hj0, c', by rw [List.getElem?_set_ne (Ne.symm this)]; exact hc', hl', hg'⟩
      split at hj
      · rename_i hgl
        rcases List.mem_append.1 hj with hj | hj
        · exact hold hj
        · simp at hj; subst hj
          exact ⟨h0, _, by rw [← hi, List.getElem?_set_self hil], rfl, by simp only; omega⟩
      · exact hold hj
    · simp only
      split
      · refine List.nodup_append.2 ⟨hO.nodup, by simp, fun a ha b hb => ?_⟩
        simp at hb; subst hb
        intro e; subst e
        obtain ⟨_, c', hc', hl', _⟩ := hO.free _ ha
        rw [← hi, hc] at hc'; injection hc' with hc'; subst hc'; rw [hl] at hl'; cases hl'
      · exact hO.nodup
    · rcases mem_set hc' with rfl | hc'
      · exact hO.gen c (List.mem_of_getElem? hc)
      · exact hO.gen c' hc'
    · simp only [hwr]
      show _ = ((List.countP _ ((σ.visit).cells.set i { v := z, gen := c.gen, live := false }) : Nat) : Int)
      simp at hlv ⊢
      omega
    · show _ + List.countP _ ((σ.visit).cells.set i { v := z, gen := c.gen, live := false }) ≤ _
      simp only [List.length_set]
      have : (σ.visit).cells.length = σ.cells.length := rfl
      simp at hlv
      split
      · rw [List.length_append, List.length_singleton]; omega
      · omega
    · show ({ σ.visit with cells := (σ.visit).cells.set i { v := z, gen := c.gen, live := false } } : Pool T).look r' = _
      rw [look_set (σ := σ.visit) hil r']
      have hno : ∀ g, lookc ({ v := z, gen := c.gen, live := false } : Cell T) g = none := fun g => by unfold lookc; simp
      by_cases e : r' = r
      · subst e
        rw [if_pos ⟨h0, hi.symm⟩, if_pos rfl, hno]
      · rw [if_neg e]
        by_cases e2 : 0 ≤ r'.ix ∧ r'.ix.toNat = i
        · rw [if_pos e2, hno]
          have hix : r'.ix = r.ix := by omega
          have hgn : r'.gen ≠ r.gen := fun hh => e (rf_ext hix hh)
          unfold look
          rw [if_neg (by omega), hix, ← hi, hc]
          simp only [Option.bind_some]
          unfold lookc; rw [if_neg]; rintro ⟨_, hh⟩; exact hgn (hh.symm.trans hg)
        · rw [if_neg e2]; rfl

theorem next_all (hO : σ.Ok n) (z : T) : (σ.next z).2.cells.length ≤ n + 1 ∧ (∀ i ∈ (σ.next z).2.free, i ∈ σ.free ∧ i ≠ (σ.next z).1) ∧ (σ.next z).2.free.Nodup ∧ (∀ c ∈ (σ.next z).2.cells, 0 ≤ c.gen ∧ c.gen ≤ 4294967295) ∧
    (σ.next z).2.lives = σ.lives ∧ (σ.next z).2.free.length + σ.lives + 1 ≤ (σ.next z).2.cells.length ∧ (∀ r, (σ.next z).2.look r = σ.look r) ∧ (∀ (k : Nat) (c : Cell T), σ.cells[k]? = some c → (σ.next z).2.cells[k]? = some c) := by
  have hlen := hO.len
  have hroom := hO.room
  unfold next
  cases hl : σ.free.getLast? with
  | some i =>
    obtain ⟨ys, hys⟩ := List.getLast?_eq_some_iff.1 hl
    have hdl : σ.free.dropLast = ys := by rw [hys]; simp
    have hnd := hO.nodup
    rw [hys, List.nodup_append] at hnd
    refine ⟨by simp; omega, fun j hj => ?_, ?_, hO.gen, rfl, ?_, fun _ => rfl, fun _ _ h => h⟩
    · simp only [hdl] at hj
      exact ⟨by rw [hys]; exact List.mem_append_left _ hj, hnd.2.2 j hj i (by simp)⟩
    · simp only [hdl]; exact hnd.1
    · simp only [hdl]; rw [hys, List.length_append, List.length_singleton] at hroom; omega
  | none =>
    have h0 : σ.free = [] := by simpa using hl
    refine ⟨by simp; omega, fun j hj => (by simp [h0] at hj), by simp [h0], fun c hc => ?_, ?_, ?_, fun r => ?_, fun k c h => ?_⟩
    · rcases List.mem_append.1 hc with hc | hc
      · exact hO.gen c hc
      · simp at hc; subst hc; simp
    · unfold lives; simp
    · simp [h0] at hroom ⊢; exact hroom
    · unfold look
      split
      · rfl
      · simp only
        by_cases h : r.ix.toNat < σ.cells.length
        · rw [List.getElem?_append_left h]
        · rw [List.getElem?_append_right (by omega), List.getElem?_eq_none (l := σ.cells) (by omega)]
          cases hk : r.ix.toNat - σ.cells.length with
          | zero => simp [lookc]
          | succ k => simp
    · simp only
      rw [List.getElem?_append_left (List.getElem?_eq_some_iff.1 h).1]; exact h

theorem put_full (h : σ.held = σ.cap) : σ.put z v = ((⟨0, 0⟩, false), σ) := by unfold put; rw [if_pos h]

theorem put_room (h : σ.held ≠ σ.cap) (hO : σ.Ok n) : (σ.put z v).1.2 = true ∧ (σ.put z v).2.Ok (n + 1) ∧ (σ.put z v).2.visits = σ.visits ∧ (σ.put z v).2.held = σ.held + 1 ∧ (σ.put z v).2.cap = σ.cap ∧
    0 < (σ.put z v).1.1.gen ∧ σ.look (σ.put z v).1.1 = none ∧ ∀ r', (σ.put z v).2.look r' = if r' = (σ.put z v).1.1 then some v else σ.look r' := by
  obtain ⟨h0, c, hc, hcl, hg0, hg1⟩ := next_ok hO z
  obtain ⟨a1, a2, a3, a4, a5, a6, a7, a8⟩ := next_all hO z
  have hnh := next_held (σ := σ) z
  unfold put
  rw [if_neg h]
  have hfree := hO.free
  have hheld := hO.held
  have hle := hO.le
  have hcap := hO.cap
  have hcap0 := hO.cap0
  generalize σ.next z = nx at *
  obtain ⟨i, σ1⟩ := nx
  simp only at *
  have hil : i.toNat < σ1.cells.length := (List.getElem?_eq_some_iff.1 hc).1
  have hg : wr (c.gen + 1) = c.gen + 1 := wr_id (by omega) (by omega)
  have hh : wr (σ.held + 1) = σ.held + 1 := wr_id (by omega) (by omega)
  simp only [hc, Option.map_some, Option.getD_some, hg, setAt, hh]
  rw [modify_eq_set hc]
  have hlv := lives_set (σ := σ1) (y := { v := v, gen := c.gen + 1, live := true }) hc
  have a5' : σ1.cells.countP (fun c => c.live) = σ.lives := a5
  have hlv : (σ1.cells.set i.toNat { v := v, gen := c.gen + 1, live := true }).countP (fun c => c.live) = σ.lives + 1 := by simp [hcl] at hlv; omega
  have hlno : σ.look ⟨i, c.gen + 1⟩ = none := by
    rw [← a7]
    unfold look
    rw [if_neg (by simp only; omega)]
    simp only
    rw [hc]
    simp [lookc, hcl]
  refine ⟨trivial, ⟨by simpa using a1, fun j hj => ?_, a3, fun c' hc' => ?_, ?_, ?_, by show 0 ≤ σ1.cap; omega, by show σ1.cap ≤ _; omega, ?_⟩, hnh.2.2, trivial, hnh.2.1, by omega, hlno, fun r' => ?_⟩
  · obtain ⟨hj1, hj2⟩ := a2 j hj
    obtain ⟨hj0, c', hc', hl', hg'⟩ := hfree j hj1
    have : j.toNat ≠ i.toNat := by omega
    exact ⟨hj0, c', by simp only; rw [List.getElem?_set_ne (Ne.symm this)]; exact a8 _ _ hc', hl', hg'⟩
  · rcases mem_set hc' with rfl | hc'
    · simp only; omega
    · exact a4 c' hc'
  · show σ.held + 1 = ((List.countP (fun c => c.live) (σ1.cells.set i.toNat { v := v, gen := c.gen + 1, live := true }) : Nat) : Int)
    rw [hlv]; omega
  · show σ1.free.length + List.countP (fun c => c.live) (σ1.cells.set i.toNat { v := v, gen := c.gen + 1, live := true }) ≤ (σ1.cells.set i.toNat _).length
    rw [hlv, List.length_set]; omega
  · show σ.held + 1 ≤ σ1.cap; omega
  · show ({ σ1 with cells := σ1.cells.set i.toNat { v := v, gen := c.gen + 1, live := true } } : Pool T).look r' = _
    rw [look_set hil r', a7]
    by_cases e : r' = ⟨i, c.gen + 1⟩
    · subst e
      rw [if_pos ⟨h0, rfl⟩, if_pos rfl]
      simp [lookc]
    · rw [if_neg e]
      by_cases e2 : 0 ≤ r'.ix ∧ r'.ix.toNat = i.toNat
      · rw [if_pos e2]
        have hix : r'.ix = i := by omega
        have hgn : r'.gen ≠ c.gen + 1 := fun hh => e (rf_ext hix hh)
        have h1 : lookc ({ v := v, gen := c.gen + 1, live := true } : Cell T) r'.gen = none := by
          unfold lookc; rw [if_neg]; rintro ⟨_, hh⟩; exact hgn hh.symm
        rw [h1, ← a7]
        unfold look
        rw [if_neg (by omega), hix, hc]
        simp [lookc, hcl]
      · rw [if_neg e2]
end Pool
end Go.Sx

set_option linter.unusedVariables false
namespace Go.Sx

/-! ### The program's types, as plain data -/
structure Item where (key id : Int)
  deriving DecidableEq
structure Slot where (item : Item) (eaten : Bool) (time : Int)
structure Op where (time : Int) (insert : Bool) (item : Item)
  deriving DecidableEq
structure Took where (found : Bool) (item : Item)
  deriving DecidableEq
structure Mark where (op : Op) (here : Bool) (took : Took)
structure Tide where (n sum low : Int)
  deriving DecidableEq
structure Swell where (count weight : Tide) (deletes free : Int) (most : Item) (gone least : Took)
structure El where (k w : Int)
  deriving DecidableEq
structure Nd (E A : Type) where (e : E) (left right : Rf) (size : Int) (sum : A)

def itemC (r : Item) : List Value := [iV r.key, iV r.id]
def slotC (r : Slot) : List Value := itemC r.item ++ [.bool r.eaten, iV r.time]
def opC (o : Op) : List Value := [iV o.time, .bool o.insert] ++ itemC o.item
def tookC (t : Took) : List Value := [.bool t.found] ++ itemC t.item
def markC (m : Mark) : List Value := opC m.op ++ [.bool m.here] ++ tookC m.took
def tideC (t : Tide) : List Value := [iV t.n, iV t.sum, iV t.low]
def swellC (s : Swell) : List Value := tideC s.count ++ tideC s.weight ++ [iV s.deletes, iV s.free] ++ itemC s.most ++ tookC s.gone ++ tookC s.least
def elC (e : El) : List Value := [iV e.k, iV e.w]
def ndC {E A : Type} (eC : E → List Value) (aC : A → List Value) (n : Nd E A) : List Value := eC n.e ++ rfC n.left ++ rfC n.right ++ [iV n.size] ++ aC n.sum

def elOf : List Value → Option El
  | [.int .i64 a, .int .i64 b] => some ⟨a, b⟩
  | _ => none
def slotOf : List Value → Option Slot
  | [.int .i64 a, .int .i64 b, .bool c, .int .i64 d] => some ⟨⟨a, b⟩, c, d⟩
  | _ => none
def markOf : List Value → Option Mark
  | [.int .i64 a, .bool b, .int .i64 c, .int .i64 d, .bool e, .bool f, .int .i64 g, .int .i64 h] => some ⟨⟨a, b, ⟨c, d⟩⟩, e, ⟨f, ⟨g, h⟩⟩⟩
  | _ => none
def tideOf : List Value → Option Tide
  | [.int .i64 a, .int .i64 b, .int .i64 c] => some ⟨a, b, c⟩
  | _ => none
def swellOf : List Value → Option Swell
  | [.int .i64 a1, .int .i64 a2, .int .i64 a3, .int .i64 b1, .int .i64 b2, .int .i64 b3, .int .i64 d, .int .i64 f, .int .i64 m1, .int .i64 m2, .bool g0, .int .i64 g1, .int .i64 g2, .bool l0, .int .i64 l1, .int .i64 l2] =>
    some ⟨⟨a1, a2, a3⟩, ⟨b1, b2, b3⟩, d, f, ⟨m1, m2⟩, ⟨g0, ⟨g1, g2⟩⟩, ⟨l0, ⟨l1, l2⟩⟩⟩
  | _ => none

/-- How a type lies in a value. -/
structure Ty (T : Type) where
  C : Codec T
  val : T → Value
  of : Value → Option T
  cells : ∀ x, (val x).cells.toList = C.enc x

def mkCd (T : Type) (n : Nat) (e : T → List Value) (h : ∀ x, (e x).length = n) (h1 : ∀ x, (e x).all (·.oneCell') = true) : Codec T :=
  ⟨n, e, h, fun x v hv => List.all_eq_true.1 (h1 x) v hv⟩
def agOf {T : Type} (f : List Value → Option T) : Value → Option T
  | .agg a => f a.toList
  | _ => none
def tyAg {T : Type} (C : Codec T) (f : List Value → Option T) : Ty T := ⟨C, fun x => ag (C.enc x), agOf f, fun x => by simp [ag, Value.cells]⟩
def elCd : Codec El := mkCd El 2 elC (fun _ => rfl) (fun _ => rfl)
def slotCd : Codec Slot := mkCd Slot 4 slotC (fun _ => rfl) (fun _ => rfl)
def markCd : Codec Mark := mkCd Mark 8 markC (fun _ => rfl) (fun _ => rfl)
def tideCd : Codec Tide := mkCd Tide 3 tideC (fun _ => rfl) (fun _ => rfl)
def swellCd : Codec Swell := mkCd Swell 16 swellC (fun _ => rfl) (fun _ => rfl)
def elT : Ty El := tyAg elCd elOf
def slotT : Ty Slot := tyAg slotCd slotOf
def markT : Ty Mark := tyAg markCd markOf
def tideT : Ty Tide := tyAg tideCd tideOf
def swellT : Ty Swell := tyAg swellCd swellOf
def sizeT1 : Ty Int := ⟨intCd, iV, fun | .int .i64 n => some n | _ => none, fun x => rfl⟩
theorem agOf_of {T : Type} {C : Codec T} {f : List Value → Option T} (hf : ∀ l x, f l = some x → l = C.enc x) (v : Value) (x : T) (h : agOf f v = some x) : v = ag (C.enc x) := by
  cases v with
  | agg a => simp only [agOf] at h; rw [← hf _ _ h]; simp [ag]
  | _ => simp [agOf] at h
theorem elOf_of (l : List Value) (x : El) (h : elOf l = some x) : l = elC x := by
  unfold elOf at h; split at h
  · injection h with h; subst h; rfl
  · cases h
theorem slotOf_of (l : List Value) (x : Slot) (h : slotOf l = some x) : l = slotC x := by
  unfold slotOf at h; split at h
  · injection h with h; subst h; rfl
  · cases h
theorem markOf_of (l : List Value) (x : Mark) (h : markOf l = some x) : l = markC x := by
  unfold markOf at h; split at h
  · injection h with h; subst h; rfl
  · cases h
theorem tideOf_of (l : List Value) (x : Tide) (h : tideOf l = some x) : l = tideC x := by
  unfold tideOf at h; split at h
  · injection h with h; subst h; rfl
  · cases h
theorem swellOf_of (l : List Value) (x : Swell) (h : swellOf l = some x) : l = swellC x := by
  unfold swellOf at h; split at h
  · injection h with h; subst h; rfl
  · cases h
theorem intOf_of (v : Value) (x : Int) (h : sizeT1.of v = some x) : v = iV x := by
  simp only [sizeT1] at h; split at h
  · injection h with h; subst h; rfl
  · cases h
def ndCd {E A : Type} (tE : Ty E) (tA : Ty A) : Codec (Nd E A) where
  size := tE.C.size + 5 + tA.C.size
  enc := ndC tE.C.enc tA.C.enc
  len x := by simp [ndC, tE.C.len, tA.C.len, rfC]; omega
  one x v hv := by
    simp [ndC, rfC] at hv
    rcases hv with h | rfl | rfl | rfl | rfl | rfl | h
    · exact tE.C.one _ v h
    · rfl
    · rfl
    · rfl
    · rfl
    · rfl
    · exact tA.C.one _ v h
end Go.Sx

set_option linter.unusedVariables false
namespace Go.Sx

/-- A kind of tree: types, functions, order, sums. -/
structure GI (E A : Type) where
  P : Program
  tE : Ty E
  tA : Ty A
  zE : E
  zA : A
  cmp : E → E → Int
  sum : E → A
  plus : A → A → A
  tI : TypeId
  tB : TypeId
  tIS : TypeId
  tRef : TypeId
  tEl : TypeId
  tSum : TypeId
  tES : TypeId
  tTree : TypeId
  tTreeP : TypeId
  tPoolP : TypeId
  tS : TypeId
  tN : TypeId
  tC : TypeId
  tP : TypeId
  mCmp : FuncId
  mSum : FuncId
  mPlus : FuncId
  fFind : FuncId
  fGet : FuncId
  fSet : FuncId
  fNext : FuncId
  fPut : FuncId
  fDrop : FuncId
  fVisits : FuncId
  fNew : FuncId
  gNew : FuncId
  gGet : FuncId
  gLay : FuncId
  gWeight : FuncId
  gTurnL : FuncId
  gTurnR : FuncId
  gBalance : FuncId
  gLink : FuncId
  gLast : FuncId
  gMerge : FuncId
  gLen : FuncId
  gput : FuncId
  gPut : FuncId
  gdrop : FuncId
  gDrop : FuncId
  gFind : FuncId
  gRank : FuncId
  gAt : FuncId
  gbetween : FuncId
  gBetween : FuncId
  gfirst : FuncId
  gFirst : FuncId
  glastOf : FuncId
  gLastOf : FuncId
  gsplit : FuncId
  gSplit : FuncId
  gJoin : FuncId
  gall : FuncId
  gAll : FuncId
  gheight : FuncId
  gHeight : FuncId
  gVisits : FuncId
  cls : List FuncId

namespace GI
variable {E A : Type} (I : GI E A)
def zN : Nd E A := ⟨I.zE, ⟨0, 0⟩, ⟨0, 0⟩, 0, I.zA⟩
def nd : Codec (Nd E A) := ndCd I.tE I.tA
def eNd : Enc := eAg _ I.nd.enc
def eRef : Enc := eAg Rf rfC
def eE : Enc := ⟨E, I.tE.val⟩
def eA : Enc := ⟨A, I.tA.val⟩
universe u
def lookup {T : Type u} (n : Nat) : List (Nat × T) → Option T
  | [] => none
  | (k, v) :: l => bif k == n then some v else lookup n l
noncomputable def cfg : Cfg where
  P := I.P
  hint t := lookup t [(I.tI, Hint.ofE eInt), (I.tB, Hint.ofE eBool), (I.tIS, Hint.ofE eSl), (I.tRef, Hint.ofE eRef), (I.tN, Hint.ofE I.eNd), (I.tTreeP, Hint.ofE eBlk), (I.tPoolP, Hint.ofE eBlk), (I.tS, Hint.ofE eSl), (I.tES, Hint.ofE eSl), (I.tEl, Hint.ofE I.eE), (I.tSum, Hint.ofE I.eA)]
  res f := bif I.cls.contains f then some (Hint.ofE eBool) else lookup f [(I.fFind, Hint.opt Addr id), (I.fGet, Hint.ofE (eTup2 I.eNd eBool)), (I.fSet, Hint.ofE eBool), (I.fNext, Hint.ofE eInt), (I.fPut, Hint.ofE (eTup2 eRef eBool)), (I.fDrop, Hint.ofE (eTup2 I.eNd eBool)), (I.fVisits, Hint.ofE eInt), (I.fNew, Hint.ofE eBlk), (I.gNew, Hint.ofE eBlk),
    (I.gGet, Hint.ofE I.eNd), (I.gLay, Hint.ofE eRef), (I.gWeight, Hint.ofE eInt), (I.gTurnL, Hint.ofE eRef), (I.gTurnR, Hint.ofE eRef), (I.gBalance, Hint.ofE eRef), (I.gLink, Hint.ofE eRef), (I.gLast, Hint.ofE (eTup2 eRef eRef)), (I.gMerge, Hint.ofE eRef), (I.gLen, Hint.ofE eInt),
    (I.gput, Hint.ofE (eTup2 eRef eBool)), (I.gdrop, Hint.ofE (eTup3 eRef I.eE eBool)), (I.gbetween, Hint.ofE I.eA), (I.gfirst, Hint.ofE (eTup2 eInt I.eA)), (I.glastOf, Hint.ofE eInt), (I.gsplit, Hint.ofE (eTup2 eRef eRef)), (I.gall, Hint.ofE eSl), (I.gheight, Hint.ofE eInt), (I.gAt, Hint.ofE (eTup2 I.eE eBool))]
  pure f :=
    bif f == I.mCmp then some fun | [x, y] => (I.tE.of x).bind fun a => (I.tE.of y).map fun b => iV (I.cmp a b) | _ => none
    else bif f == I.mSum then some fun | [x] => (I.tE.of x).map fun a => I.tA.val (I.sum a) | _ => none
    else bif f == I.mPlus then some fun | [x, y] => (I.tA.of x).bind fun a => (I.tA.of y).map fun b => I.tA.val (I.plus a b) | _ => none
    else none
  meth t n := bif t == I.tEl then (if n == "Sum" then some I.mSum else if n == "Compare" then some I.mCmp else none) else bif t == I.tSum then (if n == "Plus" then some I.mPlus else none) else none
noncomputable def pool : PI (Nd E A) where
  c := I.cfg
  C := I.nd
  z := I.zN
  tI := I.tI
  tB := I.tB
  tIS := I.tIS
  tS := I.tS
  tN := I.tN
  tC := I.tC
  tP := I.tP
  fFind := I.fFind
  fGet := I.fGet
  fSet := I.fSet
  fNext := I.fNext
  fPut := I.fPut
  fDrop := I.fDrop
  fVisits := I.fVisits
  fNew := I.fNew
end GI
end Go.Sx

set_option linter.unusedVariables false
namespace Go.Sx

/-! ### Trees, as plain data -/
inductive BT (E : Type) where
  | nil
  | node (r : Rf) (l : BT E) (e : E) (h : BT E)

namespace BT
variable {E : Type}
def ref : BT E → Rf
  | nil => ⟨0, 0⟩
  | node r _ _ _ => r
def size : BT E → Nat
  | nil => 0
  | node _ l _ h => l.size + 1 + h.size
def refs : BT E → List Rf
  | nil => []
  | node r l _ h => l.refs ++ r :: h.refs
def elems : BT E → List E
  | nil => []
  | node _ l e h => l.elems ++ e :: h.elems
def height : BT E → Nat
  | nil => 0
  | node _ l _ h => 1 + max l.height h.height
/-- A tree's size and one. -/
def w (t : BT E) : Nat := t.size + 1
theorem w_nil : (nil : BT E).w = 1 := rfl
theorem w_node {r : Rf} {l h : BT E} {e : E} : (node r l e h).w = l.w + h.w := by simp only [w, size]; omega
theorem w_pos (t : BT E) : 0 < t.w := by simp [w]

def turnL : BT E → BT E
  | node r l e (node r2 hl e2 hh) => node r2 (node r l e hl) e2 hh
  | t => t
def turnR : BT E → BT E
  | node r (node r2 ll e2 lh) e h => node r2 ll e2 (node r lh e h)
  | t => t
/-- Is its left tree (its right one) much the heavier? -/
def dblL : BT E → Bool
  | node _ l _ h => decide (2 * h.w ≤ l.w)
  | nil => false
def dblR : BT E → Bool
  | node _ l _ h => decide (2 * l.w ≤ h.w)
  | nil => false
def bal (r : Rf) (l : BT E) (e : E) (h : BT E) : BT E :=
  if 3 * l.w < h.w then (if h.dblL then turnL (node r l e h.turnR) else turnL (node r l e h))
  else if 3 * h.w < l.w then (if l.dblR then turnR (node r l.turnL e h) else turnR (node r l e h))
  else node r l e h
def link (a : BT E) (m : Rf) (e : E) (b : BT E) : BT E :=
  if 3 * a.w < b.w then
    match b with
    | node r l f h => bal r (link a m e l) f h
    | nil => node m a e b
  else if 3 * b.w < a.w then
    match a with
    | node r l f h => bal r l f (link h m e b)
    | nil => node m a e b
  else node m a e b
termination_by a.size + b.size
decreasing_by all_goals simp only [size]; omega
/-- How often link goes down. -/
def linkD (a b : BT E) : Nat :=
  if 3 * a.w < b.w then
    match b with
    | node r l f h => linkD a l + 1
    | nil => 0
  else if 3 * b.w < a.w then
    match a with
    | node r l f h => linkD h b + 1
    | nil => 0
  else 0
termination_by a.size + b.size
decreasing_by all_goals simp only [size]; omega

theorem refs_nil : (nil : BT E).refs = [] := rfl
theorem refs_node (r : Rf) (l h : BT E) (e : E) : (node r l e h).refs = l.refs ++ r :: h.refs := rfl
theorem link_R {a : BT E} {m : Rf} {e : E} {r : Rf} {l h : BT E} {f : E} (hc : 3 * a.w < (node r l f h).w) : link a m e (node r l f h) = bal r (link a m e l) f h := by rw [link.eq_def, if_pos hc]
theorem link_L {b : BT E} {m : Rf} {e : E} {r : Rf} {l h : BT E} {f : E} (h1 : ¬ 3 * (node r l f h).w < b.w) (hc : 3 * b.w < (node r l f h).w) : link (node r l f h) m e b = bal r l f (link h m e b) := by rw [link.eq_def, if_neg h1, if_pos hc]
theorem link_M {a b : BT E} {m : Rf} {e : E} (h1 : ¬ 3 * a.w < b.w) (h2 : ¬ 3 * b.w < a.w) : link a m e b = node m a e b := by rw [link.eq_def, if_neg h1, if_neg h2]
theorem linkD_R {a : BT E} {r : Rf} {l h : BT E} {f : E} (hc : 3 * a.w < (node r l f h).w) : linkD a (node r l f h) = linkD a l + 1 := by rw [linkD.eq_def, if_pos hc]
theorem linkD_L {b : BT E} {r : Rf} {l h : BT E} {f : E} (h1 : ¬ 3 * (node r l f h).w < b.w) (hc : 3 * b.w < (node r l f h).w) : linkD (node r l f h) b = linkD h b + 1 := by rw [linkD.eq_def, if_neg h1, if_pos hc]
theorem linkD_M {a b : BT E} (h1 : ¬ 3 * a.w < b.w) (h2 : ¬ 3 * b.w < a.w) : linkD a b = 0 := by rw [linkD.eq_def, if_neg h1, if_neg h2]
/-! The elements stay as they are; the handles too. -/
theorem turnL_elems (t : BT E) : t.turnL.elems = t.elems := by
  cases t with
  | nil => rfl
  | node r l e h => cases h <;> simp [turnL, elems]
theorem turnR_elems (t : BT E) : t.turnR.elems = t.elems := by
  cases t with
  | nil => rfl
  | node r l e h => cases l <;> simp [turnR, elems]
theorem turnL_refs (t : BT E) : t.turnL.refs = t.refs := by
  cases t with
  | nil => rfl
  | node r l e h => cases h <;> simp [turnL, refs]
theorem turnR_refs (t : BT E) : t.turnR.refs = t.refs := by
  cases t with
  | nil => rfl
  | node r l e h => cases l <;> simp [turnR, refs]
theorem bal_elems (r : Rf) (l : BT E) (e : E) (h : BT E) : (bal r l e h).elems = l.elems ++ e :: h.elems := by
  unfold bal
  repeat' split
  all_goals simp only [turnL_elems, turnR_elems, elems]
theorem bal_refs (r : Rf) (l : BT E) (e : E) (h : BT E) : (bal r l e h).refs = l.refs ++ r :: h.refs := by
  unfold bal
  repeat' split
  all_goals simp only [turnL_refs, turnR_refs, refs]
theorem link_elems (a : BT E) (m : Rf) (e : E) (b : BT E) : (link a m e b).elems = a.elems ++ e :: b.elems := by
  fun_induction link a m e b with
  | case1 a r l f h hw ih => rw [bal_elems, ih]; simp [elems]
  | case2 => rfl
  | case3 b r l f h h1 h2 ih => rw [bal_elems, ih]; simp [elems]
  | case4 => rfl
  | case5 => rfl
theorem link_refs (a : BT E) (m : Rf) (e : E) (b : BT E) : (link a m e b).refs = a.refs ++ m :: b.refs := by
  fun_induction link a m e b with
  | case1 a r l f h hw ih => rw [bal_refs, ih]; simp [refs]
  | case2 => rfl
  | case3 b r l f h h1 h2 ih => rw [bal_refs, ih]; simp [refs]
  | case4 => rfl
  | case5 => rfl
theorem size_elems (t : BT E) : t.size = t.elems.length := by
  induction t with
  | nil => rfl
  | node r l e h ihl ihh => simp [size, elems, ihl, ihh]; omega
theorem size_refs (t : BT E) : t.size = t.refs.length := by
  induction t with
  | nil => rfl
  | node r l e h ihl ihh => simp [size, refs, ihl, ihh]; omega
theorem link_size (a : BT E) (m : Rf) (e : E) (b : BT E) : (link a m e b).size = a.size + b.size + 1 := by
  rw [size_elems, link_elems, size_elems a, size_elems b]; simp; omega
theorem bal_size (r : Rf) (l : BT E) (e : E) (h : BT E) : (bal r l e h).size = l.size + h.size + 1 := by rw [size_elems, bal_elems, size_elems l, size_elems h]; simp; omega
end BT
end Go.Sx

set_option linter.unusedVariables false
namespace Go.Sx
namespace GI
variable {E A : Type} (I : GI E A)

/-! ### The trees of grove's functions -/
def ar (r : Rf) : Value := ag (rfC r)
noncomputable def getT (t : Nat) (r : Rf) : Tree :=
  .ite (r.gen == 0) (.ret (ag (I.nd.enc I.zN))) (.loadS 3 (Instr.loadAt I.tPoolP (pa t 0)) eBlk fun (p : Nat) => .call I.fGet [pa p 0, ar r].toArray [] (eTup2 I.eNd eBool) fun (x : Nd E A × Bool) => .endS (.ret (ag (I.nd.enc x.1))))
def cGet (t : Nat) (r : Rf) (keep : List Nat) (k : Nd E A → Tree) : Tree := .call I.gGet [pa t 0, ar r].toArray keep I.eNd k
def cRef (f : FuncId) (args : List Value) (keep : List Nat) (k : Rf → Tree) : Tree := .call f args.toArray keep eRef k
def cInt (f : FuncId) (args : List Value) (keep : List Nat) (k : Int → Tree) : Tree := .call f args.toArray keep eInt k
def retR (r : Rf) : Tree := .ret (ar r)
noncomputable def layT (t : Nat) (r l h : Rf) : Tree :=
  I.cGet t r [] fun n => I.cGet t l [4] fun nl => I.cGet t h [] fun nh => .endS (.endS (.endS (.loadS 3 (Instr.loadAt I.tPoolP (pa t 0)) eBlk fun (p : Nat) =>
    .call I.fSet [pa p 0, ar r, ag (I.nd.enc ⟨n.e, l, h, wr (wr (nl.size + 1) + nh.size), I.plus (I.plus nl.sum (I.sum n.e)) nh.sum⟩)].toArray [] eBool fun (_ : Bool) => .endS (retR r))))
def weightT (t : Nat) (r : Rf) : Tree := I.cGet t r [] fun n => .ret (iV (wr (n.size + 1)))
def turnLT (t : Nat) (r : Rf) : Tree := I.cGet t r [] fun n => I.cGet t n.right [] fun h => cRef I.gLay [pa t 0, ar r, ar n.left, ar h.left] [] fun _ => cRef I.gLay [pa t 0, ar n.right, ar r, ar h.right] [] fun x => retR x
def turnRT (t : Nat) (r : Rf) : Tree := I.cGet t r [] fun n => I.cGet t n.left [] fun l => cRef I.gLay [pa t 0, ar r, ar l.right, ar n.right] [] fun _ => cRef I.gLay [pa t 0, ar n.left, ar l.left, ar r] [] fun x => retR x
def balanceT (t : Nat) (r : Rf) : Tree :=
  I.cGet t r [] fun n => cInt I.gWeight [pa t 0, ar n.left] [6] fun l => cInt I.gWeight [pa t 0, ar n.right] [] fun h => .endS
    (.ite (decide (h > wr (3 * l)))
      (I.cGet t n.right [] fun x => cInt I.gWeight [pa t 0, ar x.left] [6] fun a => cInt I.gWeight [pa t 0, ar x.right] [] fun b => .endS
        (.ite (decide (a ≥ wr (2 * b)))
          (cRef I.gTurnR [pa t 0, ar n.right] [1, 3] fun y => cRef I.gLay [pa t 0, ar r, ar n.left, ar y] [] fun _ => .endS (cRef I.gTurnL [pa t 0, ar r] [] fun x => retR x))
          (cRef I.gTurnL [pa t 0, ar r] [] fun x => retR x)))
      (.ite (decide (l > wr (3 * h)))
        (I.cGet t n.left [] fun x => cInt I.gWeight [pa t 0, ar x.right] [6] fun a => cInt I.gWeight [pa t 0, ar x.left] [] fun b => .endS
          (.ite (decide (a ≥ wr (2 * b)))
            (cRef I.gTurnL [pa t 0, ar n.left] [1, 7] fun y => cRef I.gLay [pa t 0, ar r, ar y, ar n.right] [] fun _ => .endS (cRef I.gTurnR [pa t 0, ar r] [] fun x => retR x))
            (cRef I.gTurnR [pa t 0, ar r] [] fun x => retR x)))
        (retR r)))
def linkT (t : Nat) (l m h : Rf) : Tree :=
  cInt I.gWeight [pa t 0, ar l] [4] fun wl => cInt I.gWeight [pa t 0, ar h] [] fun wh => .endS
    (.ite (decide (wh > wr (3 * wl)))
      (I.cGet t h [] fun n => cRef I.gLink [pa t 0, ar l, ar m, ar n.left] [2, 10] fun y => cRef I.gLay [pa t 0, ar h, ar y, ar n.right] [] fun z => cRef I.gBalance [pa t 0, ar z] [] fun x => .endS (retR x))
      (.ite (decide (wl > wr (3 * wh)))
        (I.cGet t l [] fun n => cRef I.gLink [pa t 0, ar n.right, ar m, ar h] [2, 4] fun y => cRef I.gLay [pa t 0, ar l, ar n.left, ar y] [] fun z => cRef I.gBalance [pa t 0, ar z] [] fun x => .endS (retR x))
        (cRef I.gLay [pa t 0, ar m, ar l, ar h] [] fun x => retR x)))
def retRR (a b : Rf) : Tree := .ret (.tuple #[ar a, ar b])
def lastT (t : Nat) (r : Rf) : Tree :=
  I.cGet t r [] fun n => .ite (n.right.gen == 0) (.endS (retRR n.left r))
    (.call I.gLast [pa t 0, ar n.right].toArray [] (eTup2 eRef eRef) fun (x : Rf × Rf) => cRef I.gLink [pa t 0, ar n.left, ar r, ar x.1] [6] fun y => .endS (retRR y x.2))
def mergeT (t : Nat) (l r : Rf) : Tree :=
  .ite (l.gen == 0) (retR r) (.ite (r.gen == 0) (retR l) (.call I.gLast [pa t 0, ar l].toArray [] (eTup2 eRef eRef) fun (x : Rf × Rf) => cRef I.gLink [pa t 0, ar x.1, ar x.2, ar r] [] fun y => retR y))
def lenT (t : Nat) : Tree := .prim (Instr.loadAt I.tRef (pa t 1)) [] eRef fun (r : Rf) => I.cGet t r [] fun n => .ret (iV n.size)
def visitsT (t : Nat) : Tree := .prim (Instr.loadAt I.tPoolP (pa t 0)) [] eBlk fun (p : Nat) => cInt I.fVisits [pa p 0] [] fun x => .ret (iV x)

/-! put, drop, and what goes through a tree -/
def rb (r : Rf) (b : Bool) : Value := .tuple #[ar r, .bool b]
noncomputable def cPair (f : FuncId) (args : List Value) (k : Rf × Bool → Tree) : Tree := .call f args.toArray [] (eTup2 eRef eBool) k
noncomputable def putT (t : Nat) (r : Rf) (e : E) : Tree :=
  .ite (r.gen == 0) (.loadS 3 (Instr.loadAt I.tPoolP (pa t 0)) eBlk fun (q : Nat) => .call I.fPut [pa q 0, ag (I.nd.enc ⟨e, ⟨0, 0⟩, ⟨0, 0⟩, 1, I.sum e⟩)].toArray [] (eTup2 eRef eBool) fun (x : Rf × Bool) => .endS (.ret (rb x.1 x.2)))
    (I.cGet t r [] fun n => .ite (decide (I.cmp e n.e < 0))
      (cPair I.gput [pa t 0, ar n.left, I.tE.val e] fun x => .ite (!x.2) (.ret (rb r false)) (cRef I.gLink [pa t 0, ar x.1, ar r, ar n.right] [] fun y => .ret (rb y true)))
      (.ite (decide (I.cmp e n.e > 0))
        (cPair I.gput [pa t 0, ar n.right, I.tE.val e] fun x => .ite (!x.2) (.ret (rb r false)) (cRef I.gLink [pa t 0, ar n.left, ar r, ar x.1] [] fun y => .ret (rb y true)))
        (.loadS 3 (Instr.loadAt I.tPoolP (pa t 0)) eBlk fun (q : Nat) => .call I.fSet [pa q 0, ar r, ag (I.nd.enc ⟨e, n.left, n.right, n.size, n.sum⟩)].toArray [] eBool fun (_ : Bool) => .endS (cRef I.gLay [pa t 0, ar r, ar n.left, ar n.right] [] fun y => .ret (rb y true)))))
noncomputable def PutT (t : Nat) (e : E) : Tree :=
  .loadS 4 (Instr.loadAt I.tRef (pa t 1)) eRef fun (r : Rf) => cPair I.gput [pa t 0, ar r, I.tE.val e] fun x => .endS (.ite x.2 (.primU (Instr.storeAt I.tRef (pa t 1) (ar x.1)) [] (.ret (.bool x.2))) (.ret (.bool x.2)))
def reb (r : Rf) (e : E) (b : Bool) : Value := .tuple #[ar r, I.tE.val e, .bool b]
def eb (e : E) (b : Bool) : Value := .tuple #[I.tE.val e, .bool b]
def cTrip (f : FuncId) (args : List Value) (k : Rf × E × Bool → Tree) : Tree := .call f args.toArray [] (eTup3 eRef I.eE eBool) k
noncomputable def dropT (t : Nat) (r : Rf) (e : E) : Tree :=
  .ite (r.gen == 0) (.endS (.ret (I.reb r I.zE false)))
    (I.cGet t r [] fun n => .ite (decide (I.cmp e n.e < 0))
      (I.cTrip I.gdrop [pa t 0, ar n.left, I.tE.val e] fun x => .ite (!x.2.2) (.endS (.ret (I.reb r x.2.1 false))) (cRef I.gLink [pa t 0, ar x.1, ar r, ar n.right] [6] fun y => .endS (.ret (I.reb y x.2.1 true))))
      (.ite (decide (I.cmp e n.e > 0))
        (I.cTrip I.gdrop [pa t 0, ar n.right, I.tE.val e] fun x => .ite (!x.2.2) (.endS (.ret (I.reb r x.2.1 false))) (cRef I.gLink [pa t 0, ar n.left, ar r, ar x.1] [6] fun y => .endS (.ret (I.reb y x.2.1 true))))
        (.loadS 3 (Instr.loadAt I.tPoolP (pa t 0)) eBlk fun (q : Nat) => .call I.fDrop [pa q 0, ar r].toArray [] (eTup2 I.eNd eBool) fun (_ : Nd E A × Bool) => .endS (cRef I.gMerge [pa t 0, ar n.left, ar n.right] [7] fun y => .endS (.ret (I.reb y n.e true))))))
noncomputable def DropT (t : Nat) (e : E) : Tree :=
  .loadS 4 (Instr.loadAt I.tRef (pa t 1)) eRef fun (r : Rf) => I.cTrip I.gdrop [pa t 0, ar r, I.tE.val e] fun x => .endS (.primU (Instr.storeAt I.tRef (pa t 1) (ar x.1)) [] (.ret (I.eb x.2.1 x.2.2)))
def bR (r : Rf) : SV := .box I.tRef (rfC r)
def bE : SV := .box I.tEl (I.tE.C.enc I.zE)
def fcFind : Fc := { lh := [(0, { slots := [4, 5, 6], L := BT E, emb := fun s => [I.bE, .lit false, I.bR s.ref] })] }
def fcRank : Fc := { lh := [(0, { slots := [5, 6], L := Int × BT E, emb := fun x => [.v (iV x.1), I.bR x.2.ref] })] }
def fcAt : Fc := { lh := [(0, { slots := [1, 4, 5, 7], L := Int × BT E, emb := fun x => [.v (iV x.1), I.bE, .lit false, I.bR x.2.ref] })] }
noncomputable def findT (t : Nat) (e : E) : Tree :=
  .prim (Instr.loadAt I.tRef (pa t 1)) [] eRef fun (r : Rf) => .loop [I.bE, .lit false, I.bR r] (BT E) (fun s => [I.bE, .lit false, I.bR s.ref]) fun s => .ite (s.ref.gen != 0)
    (I.cGet t s.ref [] fun n => .ite (I.cmp e n.e == 0) (.ret (I.eb n.e true)) (.ite (decide (I.cmp e n.e < 0)) (.again 0 [I.bE, .lit false, I.bR n.left]) (.again 0 [I.bE, .lit false, I.bR n.right])))
    (.ret (I.eb I.zE false))
noncomputable def rankT (t : Nat) (e : E) : Tree :=
  .prim (Instr.loadAt I.tRef (pa t 1)) [] eRef fun (r : Rf) => .loop [.v (iV 0), I.bR r] (Int × BT E) (fun x => [.v (iV x.1), I.bR x.2.ref]) fun x => .ite (x.2.ref.gen != 0)
    (I.cGet t x.2.ref [] fun n => .ite (decide (I.cmp e n.e ≤ 0)) (.again 0 [.v (iV x.1), I.bR n.left]) (cInt I.gWeight [pa t 0, ar n.left] [] fun k => .again 0 [.v (iV (wr (x.1 + k))), I.bR n.right]))
    (.ret (iV x.1))
noncomputable def atT (t : Nat) (i : Int) : Tree :=
  .ite (decide (i < 0)) (.ret (I.eb I.zE false)) (.prim (Instr.loadAt I.tRef (pa t 1)) [] eRef fun (r : Rf) => .loop [.v (iV i), I.bE, .lit false, I.bR r] (Int × BT E) (fun x => [.v (iV x.1), I.bE, .lit false, I.bR x.2.ref]) fun x => .ite (x.2.ref.gen != 0)
    (I.cGet t x.2.ref [] fun n => I.cGet t n.left [] fun nl => .ite (x.1 == nl.size) (.ret (I.eb n.e true)) (.ite (decide (x.1 < nl.size)) (.again 0 [.v (iV x.1), I.bE, .lit false, I.bR n.left]) (.again 0 [.v (iV (wr (x.1 - wr (nl.size + 1)))), I.bE, .lit false, I.bR n.right])))
    (.ret (I.eb I.zE false)))
def cSl (f : FuncId) (args : List Value) (keep : List Nat) (k : Sl → Tree) : Tree := .call f args.toArray keep eSl k
noncomputable def allT (t : Nat) (r : Rf) (o : Sl) : Tree :=
  .ite (r.gen == 0) (.ret (slV o)) (I.cGet t r [] fun n => cSl I.gall [pa t 0, ar n.left, slV o] [2, 9] fun s1 => .append #[I.tES, I.tES] I.tES (slV s1) I.tEl 1 (I.tE.C.enc n.e) [2] eSl fun (y : Sl) => cSl I.gall [pa t 0, ar n.right, slV y] [] fun s => .endS (.ret (slV s)))
noncomputable def AllT (t : Nat) : Tree := .prim (Instr.loadAt I.tRef (pa t 1)) [] eRef fun (r : Rf) => cSl I.gall [pa t 0, ar r, slV ⟨none, 0, 0⟩] [] fun s => .ret (slV s)
def cA (f : FuncId) (args : List Value) (keep : List Nat) (k : A → Tree) : Tree := .call f args.toArray keep I.eA k
def betweenE (t : Nat) (n nl : Nd E A) (i j : Int) (s : A) : Tree := I.cA I.gbetween [pa t 0, ar n.right, iV (wr (wr (i - nl.size) - 1)), iV (wr (wr (j - nl.size) - 1))] [0] fun s3 => .endS (.ret (I.tA.val (I.plus s s3)))
def betweenR (t : Nat) (n : Nd E A) (i j : Int) : Tree := I.cGet t n.left [] fun nl => I.cA I.gbetween [pa t 0, ar n.left, iV i, iV j] [] fun s =>
      .ite (decide (i ≤ nl.size)) (.ite (decide (j > nl.size)) (.endS (I.betweenE t n nl i j (I.plus s (I.sum n.e)))) (I.betweenE t n nl i j s)) (I.betweenE t n nl i j s)
def zR : Tree := .ret (I.tA.val I.zA)
def betweenT (t : Nat) (r : Rf) (i j : Int) : Tree :=
  I.cGet t r [] fun n => .ite (decide (i ≥ j)) I.zR (.ite (decide (i ≥ n.size)) I.zR (.ite (decide (j ≤ 0)) I.zR (.ite (n.size == 0) I.zR (.ite (decide (i ≤ 0)) (.ite (decide (j ≥ n.size)) (.ret (I.tA.val n.sum)) (I.betweenR t n i j)) (I.betweenR t n i j)))))
def cMax (x y : Int) (k : Int → Tree) : Tree := .prim (Builtin.max_ #[I.tI, I.tI] I.tI #[iV x, iV y]) [] eInt k
def cMin (x y : Int) (k : Int → Tree) : Tree := .prim (Builtin.min_ #[I.tI, I.tI] I.tI #[iV x, iV y]) [] eInt k
noncomputable def BetweenT (t : Nat) (i j : Int) : Tree :=
  cInt I.gLen [pa t 0] [] fun n => .prim (Instr.loadAt I.tRef (pa t 1)) [] eRef fun (r : Rf) => I.cMax i 0 fun a => I.cMin a n fun a => I.cMax j 0 fun b => I.cMin b n fun b => I.cA I.gbetween [pa t 0, ar r, iV a, iV b] [] fun s => .ret (I.tA.val s)
noncomputable def splitT (t : Nat) (r : Rf) (e : E) : Tree :=
  .ite (r.gen == 0) (.endS (retRR r r)) (I.cGet t r [] fun n => .ite (decide (I.cmp n.e e < 0))
    (.call I.gsplit [pa t 0, ar n.right, I.tE.val e].toArray [] (eTup2 eRef eRef) fun (x : Rf × Rf) => cRef I.gLink [pa t 0, ar n.left, ar r, ar x.1] [6] fun y => .endS (retRR y x.2))
    (.call I.gsplit [pa t 0, ar n.left, I.tE.val e].toArray [] (eTup2 eRef eRef) fun (x : Rf × Rf) => cRef I.gLink [pa t 0, ar x.2, ar r, ar n.right] [0] fun y => .endS (retRR x.1 y)))
noncomputable def SplitT (t : Nat) (e : E) : Tree :=
  .loadS 4 (Instr.loadAt I.tRef (pa t 1)) eRef fun (r : Rf) => .call I.gsplit [pa t 0, ar r, I.tE.val e].toArray [] (eTup2 eRef eRef) fun (x : Rf × Rf) => .endS (.primU (Instr.storeAt I.tRef (pa t 1) (ar x.1)) []
    (.loadS 3 (Instr.loadAt I.tPoolP (pa t 0)) eBlk fun (q : Nat) => .prim (Instr.box I.tTree (ag [pa q 0, iV x.2.ix, iV x.2.gen])) [] eBlk fun (b : Nat) => .endS (.ret (pa b 0))))
noncomputable def heightT (t : Nat) (r : Rf) : Tree :=
  .ite (r.gen == 0) (.ret (iV 0)) (I.cGet t r [] fun n => cInt I.gheight [pa t 0, ar n.left] [6] fun a => cInt I.gheight [pa t 0, ar n.right] [] fun b => .loadS 8 (Builtin.max_ #[I.tI, I.tI] I.tI #[iV a, iV b]) eInt fun (c : Int) => .endS (.ret (iV (wr (1 + c)))))
noncomputable def HeightT (t : Nat) : Tree := .prim (Instr.loadAt I.tRef (pa t 1)) [] eRef fun (r : Rf) => cInt I.gheight [pa t 0, ar r] [] fun x => .ret (iV x)
noncomputable def NewT (n : Int) : Tree := .call I.fNew [iV n].toArray [] eBlk fun (q : Nat) => .prim (Instr.box I.tTree (ag [pa q 0, iV 0, iV 0])) [] eBlk fun (b : Nat) => .ret (pa b 0)
noncomputable def poolNewT (n : Int) : Tree := I.cMax n 0 fun a => I.cMin a 16777216 fun a => .prim (Instr.box I.tP (ag [slV ⟨none, 0, 0⟩, slV ⟨none, 0, 0⟩, iV a, iV 0, iV 0])) [] eBlk fun (b : Nat) => .ret (pa b 0)
noncomputable def JoinT (t o : Nat) : Tree :=
  let fin : Tree := .loadS 6 (Instr.loadAt I.tRef (pa t 1)) eRef fun (r : Rf) => .loadS 10 (Instr.loadAt I.tRef (pa o 1)) eRef fun (r2 : Rf) => cRef I.gMerge [pa t 0, ar r, ar r2] [] fun y =>
    .primU (Instr.storeAt I.tRef (pa t 1) (ar y)) [] (.primU (Instr.storeAt I.tRef (pa o 1) (ag [iV 0, iV 0])) [] (.endS (.ret (.bool true))))
  .loadS 5 (do eqGuard BinOp.eql I.tTreeP (Operand.tmp 12) (Operand.tmp 13) (pa o 0) (pa t 0); binOp BinOp.eql I.tTreeP (pa o 0) (pa t 0)) eBool fun (q : Bool) => .ite q (.endS (.ret (.bool false)))
    (.loadS 11 (Instr.loadAt I.tPoolP (pa o 0)) eBlk fun (p1 : Nat) => .loadS 15 (Instr.loadAt I.tPoolP (pa t 0)) eBlk fun (p2 : Nat) => .loadS 16 (do eqGuard BinOp.neq I.tPoolP (Operand.tmp 20) (Operand.tmp 24) (eBlk.enc p1) (eBlk.enc p2); binOp BinOp.neq I.tPoolP (eBlk.enc p1) (eBlk.enc p2)) eBool fun (q : Bool) =>
      .endS (.ite q (.ret (.bool false)) (cInt I.gLen [pa t 0] [] fun n => .call I.gAt [pa t 0, iV (wr (n - 1))].toArray [] (eTup2 I.eE eBool) fun (x : E × Bool) => .call I.gAt [pa o 0, iV 0].toArray [] (eTup2 I.eE eBool) fun (y : E × Bool) =>
        .ite x.2 (.ite y.2 (.ite (decide (I.cmp x.1 y.1 ≥ 0)) (.ret (.bool false)) fin) fin) fin)))
def cM (fid : FuncId) (cap : List Value) (x y : A) (k : Bool → Tree) : Tree := .call fid ([I.tA.val x, I.tA.val y] ++ cap).toArray [] eBool k
def iA (i : Int) (a : A) : Value := .tuple #[iV i, I.tA.val a]
def cF (t : Nat) (r : Rf) (i : Int) (a : A) (fid : FuncId) (cap : List Value) (k : Int × A → Tree) : Tree := .call I.gfirst [pa t 0, ar r, iV i, I.tA.val a, .func (.func fid) #[] cap.toArray].toArray [] (eTup2 eInt I.eA) k
def firstE (t : Nat) (n nl : Nd E A) (i : Int) (x : Int × A) (fid : FuncId) (cap : List Value) : Tree :=
  I.cF t n.right (wr (wr (i - nl.size) - 1)) (I.plus x.2 (I.sum n.e)) fid cap fun y => .endS (.ite (decide (y.1 ≥ 0)) (.endS (.ret (I.iA (wr (y.1 + wr (nl.size + 1))) y.2))) (.endS (.ret (I.iA y.1 y.2))))
def firstR (t : Nat) (n : Nd E A) (i : Int) (a : A) (fid : FuncId) (cap : List Value) : Tree :=
  I.cGet t n.left [] fun nl => I.cF t n.left i a fid cap fun x => .ite (decide (x.1 ≥ 0)) (.endS (.ret (I.iA x.1 x.2)))
    (.ite (decide (i ≤ nl.size)) (I.cM fid cap x.2 (I.sum n.e) fun m => .ite m (.endS (.ret (I.iA nl.size x.2))) (I.firstE t n nl i x fid cap)) (I.firstE t n nl i x fid cap))
def firstN (n : Nd E A) (a : A) : Tree := .ret (I.iA (-1) (I.plus a n.sum))
def firstT (t : Nat) (r : Rf) (i : Int) (a : A) (fid : FuncId) (cap : List Value) : Tree :=
  I.cGet t r [] fun n => .ite (n.size == 0) (I.firstN n a) (.ite (decide (i ≥ n.size)) (I.firstN n a) (.ite (decide (i ≤ 0)) (I.cM fid cap a n.sum fun m => .ite (!m) (I.firstN n a) (I.firstR t n i a fid cap)) (I.firstR t n i a fid cap)))
noncomputable def FirstT (t : Nat) (i : Int) (fid : FuncId) (cap : List Value) : Tree :=
  let mv : Value := .func (.func fid) #[] cap.toArray
  .loadS 4 (Instr.loadAt I.tRef (pa t 1)) eRef fun (r : Rf) => .loadS 6 (Builtin.max_ #[I.tI, I.tI] I.tI #[iV i, iV 0]) eInt fun (a : Int) => cInt I.gLen [pa t 0] [4, 6, 10] fun n => .loadS 9 (Builtin.min_ #[I.tI, I.tI] I.tI #[iV a, iV n]) eInt fun (b : Int) =>
    .call I.gfirst [pa t 0, ar r, iV b, I.tA.val I.zA, mv].toArray [] (eTup2 eInt I.eA) fun (x : Int × A) => .endS (.ret (iV x.1))
end GI
end Go.Sx

set_option linter.unusedVariables false
set_option maxHeartbeats 1000000
namespace Go.Sx
open Go.RowKit

theorem wr_wr (a b : Int) : wr (wr a + b) = wr (a + b) := by
  unfold wr IntKind.wrap
  simp only [IntKind.bits, IntKind.signed]
  simp
  omega

/-- A call where nothing is looked at ahead. -/
theorem TT_callN {P : Program} {B : Nat} {R : Value → BS → World → Prop} {Γ : List Again} {S : BS} {w : World} {f : FuncId} {args : List Value} {keep : List Nat} {H : Enc} {k : H.T → Tree} {X : H.T → BS → World → Prop} (hΓ : ClosedΓ B Γ) (hS : ∀ b, S b → b < w.heap.size)
    (hsp : ∀ w', (∀ b, S b → w'.heap[b]? = w.heap[b]?) → w.heap.size ≤ w'.heap.size → Spec P f args S w' fun v F1 w1 => ∃ x, v = H.enc x ∧ X x F1 w1)
    (hk : ∀ x F1 w1, X x F1 w1 → (∀ b, F1 b → b < w1.heap.size) → (∀ b, F1 b → S b ∨ w.heap.size ≤ b) → w.heap.size ≤ w1.heap.size → TT P B R (k x) Γ Lam.none F1 w1) :
    TT P B R (.call f args.toArray keep H k) Γ Lam.none S w := by
  have h0 := hsp w (fun _ _ => rfl) (Nat.le_refl _)
  have hcut : Lam.none.cut keep = Lam.none := by funext d m v; simp [Lam.cut, Lam.none]
  refine ⟨h0.1, fun w' ha => ?_⟩
  have h1 := hsp w' (fun b hb => ha.block b (.inr hb)) ha.size
  refine h1.2.mono ?_
  rintro e w1 ⟨v, F1, rfl, hst, x, rfl, hX⟩
  refine ⟨x, F1, rfl, hst, by rw [hcut]; exact lam_none_ok, ?_⟩
  rw [hcut]
  exact hk x F1 w1 hX hst.lt (fun b hb => by
    rcases hst.new b hb with h | h
    · exact .inl h
    · exact .inr (Nat.le_trans ha.size h)) (Nat.le_trans ha.size hst.fr.size)

namespace GI
variable {E A : Type} (I : GI E A)

def bsum : BT E → A
  | .nil => I.zA
  | .node _ l e h => I.plus (I.plus (bsum l) (I.sum e)) (bsum h)
def ndOf : BT E → Nd E A
  | .nil => I.zN
  | .node r l e h => ⟨e, l.ref, h.ref, ((BT.node r l e h).size : Int), I.bsum (.node r l e h)⟩
def Rep (L : Rf → Option (Nd E A)) : BT E → Prop
  | .nil => True
  | .node r l e h => L r = some (I.ndOf (.node r l e h)) ∧ r.gen ≠ 0 ∧ Rep L l ∧ Rep L h

theorem ndOf_size (t : BT E) : (I.ndOf t).size = (t.size : Int) := by cases t <;> rfl
theorem ndOf_sum (t : BT E) : (I.ndOf t).sum = I.bsum t := by cases t <;> rfl

theorem Rep.keep {L L' : Rf → Option (Nd E A)} : ∀ {t : BT E}, I.Rep L t → (∀ r ∈ t.refs, L' r = L r) → I.Rep L' t
  | .nil, _, _ => trivial
  | .node r l e h, ⟨h1, h2, h3, h4⟩, hk => ⟨by rw [hk r (by simp [BT.refs])]; exact h1, h2, Rep.keep h3 fun r' hr => hk r' (by simp [BT.refs, hr]), Rep.keep h4 fun r' hr => hk r' (by simp [BT.refs, hr])⟩
theorem Rep.ref_gen {L : Rf → Option (Nd E A)} {t : BT E} (h : I.Rep L t) : t.ref.gen = 0 ↔ t = .nil := by
  cases t with
  | nil => simp [BT.ref]
  | node r l e g => simp [BT.ref, h.2.1]

structure Ty (I : GI E A) : Prop where
  pool : I.pool.Ty
  poolF : I.pool.Trees
  aRef : isAggT I.P I.tRef = some true
  sRef : sizeT I.P I.tRef = some 2
  aTP : isAggT I.P I.tPoolP = some false
  d1 : I.tTree ≠ I.tP
  d2 : I.tTree ≠ I.tC
  d3 : I.tTree ≠ I.tI

structure Trees (I : GI E A) : Prop where
  get : ∀ t r, FnT I.cfg I.gGet [pa t 0, ar r] (I.getT t r)
  lay : ∀ t r l h, FnT I.cfg I.gLay [pa t 0, ar r, ar l, ar h] (I.layT t r l h)
  weight : ∀ t r, FnT I.cfg I.gWeight [pa t 0, ar r] (I.weightT t r)
  turnL : ∀ t r, FnT I.cfg I.gTurnL [pa t 0, ar r] (I.turnLT t r)
  turnR : ∀ t r, FnT I.cfg I.gTurnR [pa t 0, ar r] (I.turnRT t r)
  balance : ∀ t r, FnT I.cfg I.gBalance [pa t 0, ar r] (I.balanceT t r)
  link : ∀ t l m h, FnT I.cfg I.gLink [pa t 0, ar l, ar m, ar h] (I.linkT t l m h)

def headC (p : Nat) (r0 : Rf) : List Value := [pa p 0, iV r0.ix, iV r0.gen]
/-- Where the pool is; what else is kept beside it. -/
structure Px where
  p : Nat
  G : BS
  K : World → Prop
  stab : ∀ w w' : World, (∀ b, G b → w'.heap[b]? = w.heap[b]?) → K w → K w'
  lt : ∀ w, K w → ∀ b, G b → b < w.heap.size
/-- Nothing beside it. -/
def px (p : Nat) : Px := ⟨p, fun _ => False, fun _ => True, fun _ _ _ h => h, fun _ _ _ h => h.elim⟩
/-- A tree's head at t, with its pool at p. -/
def GAt (t : Nat) (p : Px) (r0 : Rf) (σ : Pool (Nd E A)) (n : Nat) (F : BS) (w : World) : Prop :=
  ∃ Fp, F = (fun b => Fp b ∨ b = t ∨ p.G b) ∧ PoolAt I.pool p.p σ Fp w ∧ (w.heap[t]? = some (.cells (headC p.p r0).toArray I.tTree (0, 0)) ∧ ¬ p.G t ∧ (∀ b, p.G b → ¬ Fp b) ∧ p.K w) ∧ σ.Ok n ∧ n < 4294967296 ∧ wr σ.visits = σ.visits

section
variable {I} {t q : Nat} {p : Px} {r0 : Rf} {σ σ' σ2 : Pool (Nd E A)} {n : Nat} {F : BS} {w w1 : World}

theorem GAt.keep (h : I.GAt t p r0 σ n F w) (hb : ∀ b, F b → w1.heap[b]? = w.heap[b]?) : I.GAt t p r0 σ n F w1 := by
  obtain ⟨Fp, rfl, h1, h2, h3⟩ := h
  exact ⟨Fp, rfl, h1.keep fun b hb' => hb b (.inl hb'), ⟨by rw [hb t (.inr (.inl rfl))]; exact h2.1, h2.2.1, h2.2.2.1, p.stab w w1 (fun b hb' => hb b (.inr (.inr hb'))) h2.2.2.2⟩, h3⟩
theorem GAt.lt (h : I.GAt t p r0 σ n F w) : ∀ b, F b → b < w.heap.size := by
  obtain ⟨Fp, rfl, h1, h2, h3⟩ := h
  rintro b (hb | rfl | hb)
  · exact h1.lt b hb
  · exact heap_lt h2.1
  · exact p.lt w h2.2.2.2 b hb
theorem PoolAt.ty {Fp : BS} (h : PoolAt I.pool q σ Fp w) {b : Nat} (hb : Fp b) : ∃ cs ty, w.heap[b]? = some (.cells cs ty (0, 0)) ∧ (ty = I.tP ∨ ty = I.tC ∨ ty = I.tI) := by
  obtain ⟨sc, sf, rfl, hX⟩ := h
  rcases hb with rfl | hb | hb
  · exact ⟨_, _, hX.blk, .inl rfl⟩
  · obtain ⟨cur, hc⟩ := hX.cells.typed hb; exact ⟨_, _, hc, .inr (.inl rfl)⟩
  · obtain ⟨cur, hc⟩ := hX.free.typed hb; exact ⟨_, _, hc, .inr (.inr rfl)⟩
theorem head_not (hI : I.Ty) {Fp : BS} (h : PoolAt I.pool q σ Fp w) (ht : w.heap[t]? = some (.cells (headC q r0).toArray I.tTree (0, 0))) : ¬ Fp t := fun hb => by
  obtain ⟨cs, ty, h1, h2⟩ := PoolAt.ty h hb
  rw [ht] at h1; injection h1 with h1; injection h1 with _ h1
  rcases h2 with h2 | h2 | h2
  · exact hI.d1 (h1.trans h2)
  · exact hI.d2 (h1.trans h2)
  · exact hI.d3 (h1.trans h2)

/-- What a function does to the pool, whatever the world. -/
def GS (I : GI E A) (t : Nat) (p : Px) (r0 : Rf) (n n' : Nat) (σ : Pool (Nd E A)) (f : FuncId) (args : List Value) (H : Enc) (Q : H.T → Pool (Nd E A) → Prop) : Prop :=
  ∀ F w, I.GAt t p r0 σ n F w → Spec I.P f args F w fun v F1 w1 => ∃ x, v = H.enc x ∧ ∃ σ', I.GAt t p r0 σ' n' F1 w1 ∧ Q x σ'
def GT (I : GI E A) (t : Nat) (p : Px) (r0 : Rf) (n n' : Nat) (B : Nat) (Γ : List Again) (H : Enc) (Q : H.T → Pool (Nd E A) → Prop) (T : Tree) (σ : Pool (Nd E A)) : Prop :=
  ∀ F w, I.GAt t p r0 σ n F w → TT I.P B (fun v F1 w1 => ∃ x, v = H.enc x ∧ ∃ σ', I.GAt t p r0 σ' n' F1 w1 ∧ Q x σ') T Γ Lam.none F w

variable {n' n1 : Nat}
theorem GS.of {f : FuncId} {args : List Value} {H : Enc} {Q : H.T → Pool (Nd E A) → Prop} {T : Tree} (hI : I.Ty) (hf : FnT I.cfg f args T) (h : ∀ B, I.GT t p r0 n n' B [] H Q T σ) : I.GS t p r0 n n' σ f args H Q :=
  fun F w hG => hf.spec hI.pool.good.ok hI.pool.good.mix hG.lt (h _ F w hG)
theorem GS.mono {f : FuncId} {args : List Value} {H : Enc} {Q Q' : H.T → Pool (Nd E A) → Prop} (h : I.GS t p r0 n n' σ f args H Q) (hq : ∀ x σ', Q x σ' → Q' x σ') : I.GS t p r0 n n' σ f args H Q' :=
  fun F w hG => (h F w hG).mono fun v F1 w1 _ ⟨x, hx, σ', h1, h2⟩ => ⟨x, hx, σ', h1, hq _ _ h2⟩

section
variable {B : Nat} {Γ : List Again} {H : Enc} {Q : H.T → Pool (Nd E A) → Prop}
theorem GAt.up (h : I.GAt t p r0 σ n F w) (hn : n ≤ n') (hn' : n' < 4294967296) : I.GAt t p r0 σ n' F w := by
  obtain ⟨Fp, rfl, h1, h2, h3, h4, h5⟩ := h
  exact ⟨Fp, rfl, h1, h2, ⟨Nat.le_trans h3.len hn, h3.free, h3.nodup, h3.gen, h3.held, h3.room, h3.cap0, h3.cap, h3.le⟩, hn', h5⟩
theorem GT.up (hn : n ≤ n1) (hn' : n1 < 4294967296) {T : Tree} (h : I.GT t p r0 n1 n' B Γ H Q T σ) : I.GT t p r0 n n' B Γ H Q T σ := fun F w hG => h F w (hG.up hn hn')
theorem GT.ret (x : H.T) {v : Value} (hv : v = H.enc x) (hQ : Q x σ) : I.GT t p r0 n n B Γ H Q (.ret v) σ :=
  fun F w hG w2 ha => ⟨x, hv, σ, hG.keep fun b hb => ha.block b (.inr hb), hQ⟩
theorem GT.ite {b : Bool} {T1 T2 : Tree} (h1 : b = true → I.GT t p r0 n n' B Γ H Q T1 σ) (h2 : b = false → I.GT t p r0 n n' B Γ H Q T2 σ) : I.GT t p r0 n n' B Γ H Q (.ite b T1 T2) σ :=
  fun F w hG => ⟨fun hb => h1 hb F w hG, fun hb => h2 hb F w hG⟩
theorem GT.endS {T : Tree} (h : I.GT t p r0 n n' B Γ H Q T σ) : I.GT t p r0 n n' B Γ H Q (.endS T) σ := fun F w hG => h F w hG
theorem GT.call {f : FuncId} {args : List Value} {keep : List Nat} {H1 : Enc} {Q1 : H1.T → Pool (Nd E A) → Prop} {k : H1.T → Tree} (hΓ : ClosedΓ B Γ) (hs : I.GS t p r0 n n1 σ f args H1 Q1) (hk : ∀ x σ', Q1 x σ' → I.GT t p r0 n1 n' B Γ H Q (k x) σ') :
    I.GT t p r0 n n' B Γ H Q (.call f args.toArray keep H1 k) σ := fun F w hG =>
  TT_callN hΓ hG.lt (fun w' hk' _ => hs F w' (hG.keep hk')) fun x F1 w1 ⟨σ', h1, h2⟩ _ _ _ => hk x σ' h2 F1 w1 h1
theorem GT.callR {f : FuncId} {args : List Value} {keep : List Nat} {Q1 : Rf → Pool (Nd E A) → Prop} {k : Rf → Tree} (hΓ : ClosedΓ B Γ) (hs : I.GS t p r0 n n1 σ f args eRef Q1) (hk : ∀ (x : Rf) σ', Q1 x σ' → I.GT t p r0 n1 n' B Γ H Q (k x) σ') :
    I.GT t p r0 n n' B Γ H Q (.call f args.toArray keep eRef k) σ := GT.call hΓ hs hk

/-- A call of the pool's, behind the look at where it lies. -/
theorem GT.pcall {d : Nat} {f : FuncId} {args : Nat → List Value} {H1 : Enc} {X : H1.T → Pool (Nd E A) → Prop} {k : H1.T → Tree} (hI : I.Ty) (hΓ : ClosedΓ B Γ) (hn1 : n1 < 4294967296)
    (hs : ∀ Fp w', PoolAt I.pool p.p σ Fp w' → Spec I.P f (args p.p) Fp w' fun v F1 w1 => ∃ x, v = H1.enc x ∧ ∃ σ', PoolAt I.pool p.p σ' F1 w1 ∧ X x σ' ∧ σ'.Ok n1 ∧ wr σ'.visits = σ'.visits)
    (hk : ∀ x σ', X x σ' → I.GT t p r0 n1 n' B Γ H Q (k x) σ') :
    I.GT t p r0 n n' B Γ H Q (.loadS d (Instr.loadAt I.tPoolP (pa t 0)) eBlk fun (q : Nat) => .call f (args q).toArray [] H1 k) σ := fun F w hG => by
  obtain ⟨Fp, rfl, h1, ⟨h2, hx1, hx2, hx3⟩, h3, h4, h5⟩ := hG
  have hG : I.GAt t p r0 σ n (fun b => Fp b ∨ b = t ∨ p.G b) w := ⟨Fp, rfl, h1, ⟨h2, hx1, hx2, hx3⟩, h3, h4, h5⟩
  refine TT_loadS_ld (x := p.p) (ld_one (cs := headC p.p r0) (.inr (.inl rfl)) h2 hI.aTP rfl) ?_
  refine TT_call (F := Fp) (G := fun b => b = t ∨ p.G b) (X := fun x F1 w1 => ∃ σ', PoolAt I.pool p.p σ' F1 w1 ∧ X x σ' ∧ σ'.Ok n1 ∧ wr σ'.visits = σ'.visits) hΓ (fun b => Iff.rfl) hG.lt (fun b hb => by
    rcases hb with rfl | hb
    · exact head_not hI h1 h2
    · exact hx2 b hb) (fun w' hk' _ => hs Fp w' (h1.keep fun b hb => hk' b (.inl hb))) ?_
  rintro x F1 w1 ⟨σ', g1, g2, g3, g5⟩ hlt hnew hGk hsz
  refine ⟨by rw [lam_cut_nil]; exact lam_none_ok, ?_⟩
  rw [lam_cut_nil]
  refine hk x σ' g2 _ w1 ⟨F1, rfl, g1, ⟨by rw [hGk t (.inl rfl)]; exact h2, hx1, fun b hb hF => ?_, p.stab w w1 (fun b hb => hGk b (.inr hb)) hx3⟩, g3, hn1, g5⟩
  rcases hnew b hF with h | h
  · exact hx2 b hb h
  · exact Nat.lt_irrefl _ (Nat.lt_of_lt_of_le (p.lt w hx3 b hb) h)
end

theorem GS.ok {f : FuncId} {args : List Value} {H : Enc} {Q : H.T → Pool (Nd E A) → Prop} (h : σ.Ok n → wr σ.visits = σ.visits → n < 4294967296 → I.GS t p r0 n n' σ f args H Q) : I.GS t p r0 n n' σ f args H Q := fun F w hGA => by
  obtain ⟨Fp, rfl, h1, h2, h3, h4, h5⟩ := hGA
  exact h h3 h5 h4 _ w ⟨Fp, rfl, h1, h2, h3, h4, h5⟩
theorem GT.ok {B : Nat} {Γ : List Again} {H : Enc} {Q : H.T → Pool (Nd E A) → Prop} {T : Tree} (h : σ.Ok n → wr σ.visits = σ.visits → n < 4294967296 → I.GT t p r0 n n' B Γ H Q T σ) : I.GT t p r0 n n' B Γ H Q T σ := fun F w hGA => by
  obtain ⟨Fp, rfl, h1, h2, h3, h4, h5⟩ := hGA
  exact h h3 h5 h4 _ w ⟨Fp, rfl, h1, h2, h3, h4, h5⟩

/-- What has been touched; how much was visited. -/
structure Tch (σ σ' : Pool (Nd E A)) (D : Rf → Prop) (c : Nat) (dh : Int) : Prop where
  look : ∀ r, ¬ D r → σ'.look r = σ.look r
  vis : ∃ k : Nat, k ≤ c ∧ σ'.visits = wr (σ.visits + k)
  held : σ'.held = σ.held + dh
  cap : σ'.cap = σ.cap

theorem Tch.refl (hv : wr σ.visits = σ.visits) (D : Rf → Prop) (c : Nat) : Tch σ σ D c 0 := ⟨fun _ _ => rfl, ⟨0, Nat.zero_le _, by simp [hv]⟩, by simp, rfl⟩
theorem Tch.trans {D D' : Rf → Prop} {c c' : Nat} {d d' : Int} (h : Tch σ σ' D c d) (h' : Tch σ' σ2 D' c' d') : Tch σ σ2 (fun r => D r ∨ D' r) (c + c') (d + d') := by
  obtain ⟨k, hk, hv⟩ := h.vis
  obtain ⟨k', hk', hv'⟩ := h'.vis
  refine ⟨fun r hr => (h'.look r fun hd => hr (.inr hd)).trans (h.look r fun hd => hr (.inl hd)), ⟨k + k', Nat.add_le_add hk hk', ?_⟩, ?_, h'.cap.trans h.cap⟩
  · rw [hv', hv, wr_wr]; congr 1; omega
  · rw [h'.held, h.held]; omega
theorem Tch.mono {D D' : Rf → Prop} {c c' : Nat} {d d' : Int} (h : Tch σ σ' D c d) (hD : ∀ r, D r → D' r) (hc : c ≤ c') (hd : d = d') : Tch σ σ' D' c' d' := by
  subst hd
  obtain ⟨k, hk, hv⟩ := h.vis
  exact ⟨fun r hr => h.look r fun h' => hr (hD r h'), ⟨k, Nat.le_trans hk hc, hv⟩, h.held, h.cap⟩
theorem Tch.rep {D : Rf → Prop} {c : Nat} {d : Int} {s : BT E} (h : Tch σ σ' D c d) (hs : I.Rep σ.look s) (hD : ∀ r ∈ s.refs, ¬ D r) : I.Rep σ'.look s := Rep.keep I hs fun r hr => h.look r (hD r hr)

def No : Rf → Prop := fun _ => False
theorem wr_vis (a : Int) : wr (wr a) = wr a := by have := wr_wr a 0; simpa using this

/-! ### get, weight, lay -/
theorem pget (hI : I.Ty) (hO : σ.Ok n) (hv : wr σ.visits = σ.visits) (r : Rf) (Fp : BS) (w' : World) (h : PoolAt I.pool q σ Fp w') : Spec I.P I.fGet [pa q 0, ar r] Fp w' fun v F1 w1 => ∃ x, v = (eTup2 I.eNd eBool).enc x ∧ ∃ σ', PoolAt I.pool q σ' F1 w1 ∧
    (x.1 = ((σ.look r).getD I.zN) ∧ Tch σ σ' No 1 0) ∧ σ'.Ok n ∧ wr σ'.visits = σ'.visits := by
  refine (get_spec hI.pool hI.poolF h r).mono fun v F1 w1 _ ⟨x, hx, h1, h2, h3⟩ => ?_
  subst h2
  have hz : I.pool.z = I.zN := rfl
  cases hl : σ.look r with
  | none =>
    rw [Pool.get_none hl] at h1 h3
    exact ⟨x, hx, σ, h3, ⟨by rw [h1]; rfl, Tch.refl hv _ _⟩, hO, hv⟩
  | some u =>
    rw [Pool.get_some hl] at h1 h3
    exact ⟨x, hx, _, h3, ⟨by rw [h1]; rfl, ⟨fun _ _ => rfl, ⟨1, Nat.le_refl _, rfl⟩, by simp [Pool.visit], rfl⟩⟩, Pool.visit_ok hO, wr_vis _⟩

theorem rep_get {s : BT E} (hs : I.Rep σ.look s) (hg : ¬ s.ref.gen = 0) : σ.look s.ref = some (I.ndOf s) := by
  cases s with
  | nil => exact absurd rfl hg
  | node r l e h => exact hs.1

/-- Any handle's node. -/
theorem get_raw (hI : I.Ty) (hG : I.Trees) (r : Rf) : I.GS t p r0 n n σ I.gGet [pa t 0, ar r] I.eNd fun x σ' => x = (if r.gen = 0 then I.zN else (σ.look r).getD I.zN) ∧ Tch σ σ' No 1 0 := by
  refine GS.ok fun hO hv hn => ?_
  refine GS.of hI (hG.get t r) (fun B => ?_)
  unfold getT
  refine GT.ite (fun hb => ?_) (fun hb => ?_)
  · have hb : r.gen = 0 := by simpa using hb
    exact GT.ret (H := I.eNd) I.zN rfl ⟨by rw [if_pos hb], Tch.refl hv _ _⟩
  · have hb : ¬ r.gen = 0 := by simpa using hb
    refine GT.pcall (args := fun q => [pa q 0, ar r]) hI closed_nil hn (fun Fp w' h => pget hI hO hv r Fp w' h) ?_
    rintro x σ' ⟨h1, h2⟩
    exact GT.endS (GT.ret (H := I.eNd) x.1 rfl ⟨by rw [h1, if_neg hb], h2⟩)

theorem get_g (hI : I.Ty) (hG : I.Trees) {s : BT E} (hs : I.Rep σ.look s) : I.GS t p r0 n n σ I.gGet [pa t 0, ar s.ref] I.eNd fun x σ' => x = I.ndOf s ∧ Tch σ σ' No 1 0 :=
  (get_raw hI hG s.ref).mono fun x σ' ⟨h1, h2⟩ => ⟨by
    rw [h1]
    by_cases hg : s.ref.gen = 0
    · rw [if_pos hg, (Rep.ref_gen I hs).1 hg]; rfl
    · rw [if_neg hg, rep_get hs hg]; rfl, h2⟩

theorem No.rep {s : BT E} : ∀ r ∈ s.refs, ¬ No r := fun _ _ h => h

theorem weight_g (hI : I.Ty) (hG : I.Trees) {s : BT E} (hs : I.Rep σ.look s) (hsz : s.size < 4611686018427387904) : I.GS t p r0 n n σ I.gWeight [pa t 0, ar s.ref] eInt fun x σ' => x = (s.w : Int) ∧ Tch σ σ' No 1 0 := by
  refine GS.of hI (hG.weight t _) (fun B => ?_)
  refine GT.call closed_nil (get_g hI hG hs) ?_
  rintro x σ' ⟨rfl, h2⟩
  refine GT.ret (H := eInt) (s.w : Int) ?_ ⟨rfl, h2⟩
  rw [ndOf_size, wr_id (by omega) (by omega)]
  simp [eInt, iV, BT.w]
end
end GI
end Go.Sx

set_option linter.unusedVariables false
set_option maxHeartbeats 1000000
namespace Go.Sx
open Go.RowKit
namespace GI
variable {E A : Type} {I : GI E A} {t q : Nat} {p : Px} {r0 : Rf} {σ σ' σ2 : Pool (Nd E A)} {n : Nat} {F : BS} {w w1 : World}

theorem pset (hI : I.Ty) (hO : σ.Ok n) (hv : wr σ.visits = σ.visits) (r : Rf) (nd0 v : Nd E A) (hl : σ.look r = some nd0) (Fp : BS) (w' : World) (h : PoolAt I.pool q σ Fp w') : Spec I.P I.fSet [pa q 0, ar r, ag (I.nd.enc v)] Fp w' fun u F1 w1 => ∃ x, u = eBool.enc x ∧ ∃ σ', PoolAt I.pool q σ' F1 w1 ∧
    (Tch σ σ' (fun r' => r' = r) 1 0 ∧ σ'.look r = some v) ∧ σ'.Ok n ∧ wr σ'.visits = σ'.visits := by
  refine (set_spec hI.pool hI.poolF h r v).mono fun u F1 w1 _ ⟨x, hx, h1, h2, h3⟩ => ?_
  subst h2
  obtain ⟨a1, a2, a3, a4, a5, a6⟩ := Pool.set_some (v := v) hl hO
  exact ⟨x, hx, _, h3, ⟨⟨fun r' hr => by rw [a6, if_neg hr], ⟨1, Nat.le_refl _, a3⟩, by rw [a4]; simp, a5⟩, by rw [a6, if_pos rfl]⟩, a2, by rw [a3]; exact wr_vis _⟩

/-- A node's trees are set. -/
theorem lay_g (hI : I.Ty) (hG : I.Trees) {a b : BT E} {m : Rf} {nd0 : Nd E A} (ha : I.Rep σ.look a) (hb : I.Rep σ.look b) (hm : σ.look m = some nd0) (hg : m.gen ≠ 0) (hma : m ∉ a.refs) (hmb : m ∉ b.refs) (hsz : a.size + b.size < 4611686018427387904) :
    I.GS t p r0 n n σ I.gLay [pa t 0, ar m, ar a.ref, ar b.ref] eRef fun x σ' => x = m ∧ Tch σ σ' (fun r => r = m) 4 0 ∧ I.Rep σ'.look (.node m a nd0.e b) := by
  refine GS.of hI (hG.lay t _ _ _) (fun B => ?_)
  unfold layT
  refine GT.call closed_nil (get_raw hI hG m) ?_
  rintro x1 σ1 ⟨rfl, h1⟩
  rw [if_neg hg, hm]
  refine GT.call closed_nil (get_g hI hG (h1.rep ha No.rep)) ?_
  rintro x2 σ2 ⟨rfl, h2⟩
  have h12 := h1.trans h2
  refine GT.call closed_nil (get_g hI hG (h12.rep hb fun _ _ h => by rcases h with h | h <;> exact h)) ?_
  rintro x3 σ3 ⟨rfl, h3⟩
  have h13 := h12.trans h3
  have hno : ∀ r, ¬ ((No r ∨ No r) ∨ No r) := fun r h => by rcases h with (h | h) | h <;> exact h
  refine GT.endS (GT.endS (GT.endS (GT.ok fun hO hv hn => ?_)))
  have hl3 : σ3.look m = some nd0 := (h13.look m (hno m)).trans hm
  refine GT.pcall (args := fun q => [pa q 0, ar m, ag (I.nd.enc _)]) hI closed_nil hn (fun Fp w' h => pset hI hO hv m nd0 _ hl3 Fp w' h) ?_
  rintro x4 σ4 ⟨h4, hl4⟩
  refine GT.endS (GT.ret (H := eRef) m rfl ⟨rfl, (h13.trans h4).mono (fun r h => ?_) (by omega) (by omega), ?_⟩)
  · rcases h with h | h
    · exact absurd h (hno r)
    · exact h
  · have hk : ∀ s : BT E, I.Rep σ.look s → m ∉ s.refs → I.Rep σ4.look s := fun s hs hms => (h13.trans h4).rep hs fun r hr h => by
      rcases h with h | h
      · exact hno r h
      · subst h; exact hms hr
    refine ⟨?_, hg, hk a ha hma, hk b hb hmb⟩
    rw [hl4]
    simp only [ndOf_size, ndOf_sum, Option.getD_some]
    have e1 : wr ((a.size : Int) + 1) = (a.size : Int) + 1 := wr_id (by omega) (by omega)
    have e2 : wr (wr ((a.size : Int) + 1) + (b.size : Int)) = ((BT.node m a nd0.e b).size : Int) := by rw [e1, wr_id (by omega) (by omega)]; simp only [BT.size]; omega
    rw [e2]; rfl

/-- The right tree's root comes above. -/
theorem turnL_g (hI : I.Ty) (hG : I.Trees) {r r2 : Rf} {l hl hh : BT E} {e e2 : E} (hs : I.Rep σ.look (.node r l e (.node r2 hl e2 hh))) (hnd : (BT.node r l e (.node r2 hl e2 hh)).refs.Nodup) (hsz : (BT.node r l e (.node r2 hl e2 hh)).size < 4611686018427387904) :
    I.GS t p r0 n n σ I.gTurnL [pa t 0, ar r] eRef fun x σ' => x = r2 ∧ Tch σ σ' (fun x => x = r ∨ x = r2) 10 0 ∧ I.Rep σ'.look (BT.turnL (.node r l e (.node r2 hl e2 hh))) := by
  refine GS.of hI (hG.turnL t _) (fun B => ?_)
  unfold turnLT
  refine GT.call closed_nil (get_g hI hG hs) ?_
  rintro x1 σ1 ⟨rfl, h1⟩
  obtain ⟨k1, k2, k3, k4⟩ := hs
  have hs1 := h1.rep k4 No.rep
  refine GT.call closed_nil (get_g hI hG hs1) ?_
  rintro x2 σ2 ⟨rfl, h2⟩
  have h12 := h1.trans h2
  have hno : ∀ r, ¬ (No r ∨ No r) := fun r h => by rcases h with h | h <;> exact h
  obtain ⟨j1, j2, j3, j4⟩ := k4
  have c1 : I.Rep σ2.look l := h12.rep k3 fun _ _ => hno _
  have c2 : I.Rep σ2.look hl := h12.rep j3 fun _ _ => hno _
  have c3 : I.Rep σ2.look hh := h12.rep j4 fun _ _ => hno _
  have c4 : σ2.look r = some (I.ndOf (.node r l e (.node r2 hl e2 hh))) := (h12.look r (hno _)).trans k1
  have c5 : σ2.look r2 = some (I.ndOf (.node r2 hl e2 hh)) := (h12.look r2 (hno _)).trans j1
  simp only [BT.refs, List.nodup_append, List.nodup_cons, List.mem_append, List.mem_cons, not_or] at hnd
  simp only [BT.size] at hsz
  obtain ⟨n1, ⟨⟨n2, n3, n4⟩, n5, ⟨n6, n7⟩, n8⟩, n9⟩ := hnd
  refine GT.callR closed_nil (lay_g hI hG c1 c2 c4 k2 (fun h => (n9 _ h _ (.inl rfl)) rfl) n2 (by omega)) ?_
  rintro x3 σ3 ⟨hx, h3, g3⟩
  obtain rfl := hx.symm
  have d3 : I.Rep σ3.look hh := h3.rep c3 fun r' hr e => by subst e; exact n4 hr
  have d5 : σ3.look r2 = some (I.ndOf (.node r2 hl e2 hh)) := (h3.look r2 (fun e => n3 e.symm)).trans c5
  refine GT.callR closed_nil (lay_g hI hG (a := .node r l (I.ndOf (.node r l e (.node r2 hl e2 hh))).e hl) g3 d3 d5 j2 ?_ n6 (by simp only [BT.size]; omega)) ?_
  · show ¬ r2 ∈ l.refs ++ r :: hl.refs
    rw [List.mem_append, List.mem_cons]
    rintro (h | h | h)
    · exact n9 _ h _ (.inr (.inr (.inl rfl))) rfl
    · exact n3 h.symm
    · exact n8 _ h _ (.inl rfl) rfl
  rintro x4 σ4 ⟨hx, h4, g4⟩
  obtain rfl := hx.symm
  refine GT.ret (H := eRef) _ rfl ⟨rfl, (h12.trans (h3.trans h4)).mono (fun r' h => ?_) (by omega) (by omega), g4⟩
  rcases h with h | h | h
  · exact absurd h (hno _)
  · exact .inl h
  · exact .inr h

theorem turnR_g (hI : I.Ty) (hG : I.Trees) {r r2 : Rf} {ll lh h : BT E} {e e2 : E} (hs : I.Rep σ.look (.node r (.node r2 ll e2 lh) e h)) (hnd : (BT.node r (.node r2 ll e2 lh) e h).refs.Nodup) (hsz : (BT.node r (.node r2 ll e2 lh) e h).size < 4611686018427387904) :
    I.GS t p r0 n n σ I.gTurnR [pa t 0, ar r] eRef fun x σ' => x = r2 ∧ Tch σ σ' (fun x => x = r ∨ x = r2) 10 0 ∧ I.Rep σ'.look (BT.turnR (.node r (.node r2 ll e2 lh) e h)) := by
  refine GS.of hI (hG.turnR t _) (fun B => ?_)
  unfold turnRT
  refine GT.call closed_nil (get_g hI hG hs) ?_
  rintro x1 σ1 ⟨rfl, h1⟩
  obtain ⟨k1, k2, k3, k4⟩ := hs
  have hs1 := h1.rep k3 No.rep
  refine GT.call closed_nil (get_g hI hG hs1) ?_
  rintro x2 σ2 ⟨rfl, h2⟩
  have h12 := h1.trans h2
  have hno : ∀ r, ¬ (No r ∨ No r) := fun r h => by rcases h with h | h <;> exact h
  obtain ⟨j1, j2, j3, j4⟩ := k3
  have c1 : I.Rep σ2.look h := h12.rep k4 fun _ _ => hno _
  have c2 : I.Rep σ2.look ll := h12.rep j3 fun _ _ => hno _
  have c3 : I.Rep σ2.look lh := h12.rep j4 fun _ _ => hno _
  have c4 : σ2.look r = some (I.ndOf (.node r (.node r2 ll e2 lh) e h)) := (h12.look r (hno _)).trans k1
  have c5 : σ2.look r2 = some (I.ndOf (.node r2 ll e2 lh)) := (h12.look r2 (hno _)).trans j1
  simp only [BT.refs, List.nodup_append, List.nodup_cons, List.mem_append, List.mem_cons] at hnd
  simp only [BT.size] at hsz
  obtain ⟨⟨n1, ⟨n2, n3⟩, n4⟩, ⟨n5, n6⟩, n7⟩ := hnd
  refine GT.callR closed_nil (lay_g hI hG c3 c1 c4 k2 (fun h => n7 _ (.inr (.inr h)) _ (.inl rfl) rfl) n5 (by omega)) ?_
  rintro x3 σ3 ⟨hx, h3, g3⟩
  obtain rfl := hx.symm
  have n9 : r2 ≠ r := n7 _ (.inr (.inl rfl)) _ (.inl rfl)
  have d3 : I.Rep σ3.look ll := h3.rep c2 fun r' hr e => n7 _ (.inl hr) _ (.inl rfl) e
  have d5 : σ3.look r2 = some (I.ndOf (.node r2 ll e2 lh)) := (h3.look r2 n9).trans c5
  refine GT.callR closed_nil (lay_g hI hG (b := .node r lh (I.ndOf (.node r (.node r2 ll e2 lh) e h)).e h) d3 g3 d5 j2 (fun h => n4 _ h _ (.inl rfl) rfl) ?_ (by simp only [BT.size]; omega)) ?_
  · show ¬ r2 ∈ lh.refs ++ r :: h.refs
    rw [List.mem_append, List.mem_cons]
    rintro (h | h | h)
    · exact n2 h
    · exact n9 h
    · exact n7 _ (.inr (.inl rfl)) _ (.inr h) rfl
  rintro x4 σ4 ⟨hx, h4, g4⟩
  obtain rfl := hx.symm
  refine GT.ret (H := eRef) _ rfl ⟨rfl, (h12.trans (h3.trans h4)).mono (fun r' h => ?_) (by omega) (by omega), g4⟩
  rcases h with h | h | h
  · exact absurd h (hno _)
  · exact .inl h
  · exact .inr h
end GI
end Go.Sx

set_option linter.unusedVariables false
set_option linter.unusedSimpArgs false
set_option maxHeartbeats 2000000
namespace Go.Sx
open Go.RowKit
namespace GI
variable {E A : Type} {I : GI E A} {t q : Nat} {p : Px} {r0 : Rf} {σ σ' σ2 : Pool (Nd E A)} {n : Nat} {F : BS} {w w1 : World}

theorem no2 (r : Rf) : ¬ (No r ∨ No r) := fun h => by rcases h with h | h <;> exact h
theorem no3 (r : Rf) : ¬ ((No r ∨ No r) ∨ No r) := fun h => by rcases h with (h | h) | h <;> exact h
theorem Tch.no2 {c : Nat} {d : Int} (h : Tch σ σ' (fun r => No r ∨ No r) c d) : Tch σ σ' No c d := h.mono (fun r h => absurd h (GI.no2 r)) (Nat.le_refl _) rfl

theorem balance_g (hI : I.Ty) (hG : I.Trees) {r : Rf} {l h : BT E} {e : E} (hs : I.Rep σ.look (.node r l e h)) (hnd : (BT.node r l e h).refs.Nodup) (hsz : (BT.node r l e h).size < 1152921504606846976) :
    I.GS t p r0 n n σ I.gBalance [pa t 0, ar r] eRef fun x σ' => x = (BT.bal r l e h).ref ∧ Tch σ σ' (fun x => x ∈ (BT.node r l e h).refs) 30 0 ∧ I.Rep σ'.look (BT.bal r l e h) := by
  refine GS.of hI (hG.balance t _) (fun B => ?_)
  have hs0 := hs
  obtain ⟨k1, k2, k3, k4⟩ := hs
  have hlsz : l.size + 1 + h.size < 1152921504606846976 := hsz
  have hlw : l.w = l.size + 1 := rfl
  have hhw : h.w = h.size + 1 := rfl
  unfold balanceT
  refine GT.call closed_nil (get_g hI hG hs0) ?_
  rintro x1 σ1 ⟨rfl, h1⟩
  refine GT.call closed_nil (weight_g hI hG (h1.rep k3 No.rep) (by omega)) ?_
  rintro x2 σ2 ⟨rfl, h2⟩
  have h12 := (h1.trans h2).no2
  refine GT.call closed_nil (weight_g hI hG (h12.rep k4 No.rep) (by omega)) ?_
  rintro x3 σ3 ⟨rfl, h3⟩
  have h13 := (h12.trans h3).no2
  refine GT.endS ?_
  have w1 : wr (3 * (l.w : Int)) = 3 * (l.w : Int) := wr_id (by omega) (by omega)
  have w2 : wr (3 * (h.w : Int)) = 3 * (h.w : Int) := wr_id (by omega) (by omega)
  rw [w1, w2]
  have hl3 := h13.rep k3 No.rep
  have hh3 := h13.rep k4 No.rep
  have hs3 := h13.rep hs0 No.rep
  refine GT.ite (fun hb => ?_) (fun hb => ?_)
  · have hb : 3 * l.w < h.w := by simp at hb; omega
    have hbal : BT.bal r l e h = if h.dblL then BT.turnL (.node r l e h.turnR) else BT.turnL (.node r l e h) := by unfold BT.bal; rw [if_pos hb]
    cases h with
    | nil => simp only [BT.w, BT.size] at hb; omega
    | node r2 hl e2 hh =>
      have hh30 := hh3
      obtain ⟨j1, j2, j3, j4⟩ := hh3
      have z1 : hl.w = hl.size + 1 := rfl
      have z2 : hh.w = hh.size + 1 := rfl
      simp only [BT.size] at hlsz
      refine GT.call closed_nil (get_g hI hG hh30) ?_
      rintro x4 σ4 ⟨rfl, h4⟩
      refine GT.call closed_nil (weight_g hI hG (h4.rep j3 No.rep) (by omega)) ?_
      rintro x5 σ5 ⟨rfl, h5⟩
      have h45 := (h4.trans h5).no2
      refine GT.call closed_nil (weight_g hI hG (h45.rep j4 No.rep) (by omega)) ?_
      rintro x6 σ6 ⟨rfl, h6⟩
      have h46 := (h45.trans h6).no2
      have h16 := (h13.trans h46).no2
      refine GT.endS ?_
      have w3 : wr (2 * (hh.w : Int)) = 2 * (hh.w : Int) := wr_id (by omega) (by omega)
      rw [w3]
      have hs6 := h46.rep hs3 No.rep
      refine GT.ite (fun hc => ?_) (fun hc => ?_)
      · have hc : 2 * hh.w ≤ hl.w := by simp at hc; omega
        have hdbl : (BT.node r2 hl e2 hh).dblL = true := by simp [BT.dblL, hc]
        rw [hdbl, if_pos rfl] at hbal
        cases hl with
        | nil => simp only [BT.w, BT.size] at hc; omega
        | node r3 ga f gb =>
          have hnd2 := hnd
          rw [BT.refs_node, List.nodup_append] at hnd2
          obtain ⟨m1, m2, m3⟩ := hnd2
          rw [List.nodup_cons] at m2
          have hh6 := h46.rep hh30 No.rep
          refine GT.callR closed_nil (turnR_g hI hG hh6 m2.2 (by simp only [BT.size] at hlsz ⊢; omega)) ?_
          rintro x7 σ7 ⟨hx, h7, g7⟩
          obtain rfl := hx.symm
          have hD : ∀ q, q = r2 ∨ q = r3 → q ∈ (BT.node r2 (BT.node r3 ga f gb) e2 hh).refs := by
            rintro q (rfl | rfl) <;> simp [BT.refs]
          have hl7 := h7.rep (h46.rep hl3 No.rep) fun q hq hd => m3 q hq q (List.mem_cons_of_mem _ (hD q hd)) rfl
          have hr7 : σ7.look r = some (I.ndOf (.node r l e (.node r2 (.node r3 ga f gb) e2 hh))) := (h7.look r fun hd => m2.1 (hD r hd)).trans hs6.1
          have hR : (BT.node r2 (BT.node r3 ga f gb) e2 hh).turnR = .node r3 ga f (.node r2 gb e2 hh) := rfl
          rw [hR] at hbal
          replace g7 : I.Rep σ7.look (.node r3 ga f (.node r2 gb e2 hh)) := g7
          have hrefs : (BT.node r3 ga f (.node r2 gb e2 hh)).refs = (BT.node r2 (BT.node r3 ga f gb) e2 hh).refs := by rw [← hR, BT.turnR_refs]
          refine GT.callR closed_nil (lay_g hI hG (b := .node r3 ga f (.node r2 gb e2 hh)) hl7 g7 hr7 k2 (fun hm => m3 r hm r List.mem_cons_self rfl) (by rw [hrefs]; exact m2.1) (by simp only [BT.size] at hlsz ⊢; omega)) ?_
          rintro x8 σ8 ⟨hx, h8, g8⟩
          obtain rfl := hx.symm
          refine GT.endS ?_
          have hnd8 : (BT.node r l e (.node r3 ga f (.node r2 gb e2 hh))).refs.Nodup := by
            rw [BT.refs_node, hrefs]; exact hnd
          refine GT.callR closed_nil (turnL_g hI hG g8 hnd8 (by simp only [BT.size] at hlsz ⊢; omega)) ?_
          rintro x9 σ9 ⟨hx, h9, g9⟩
          obtain rfl := hx.symm
          rw [hbal]
          refine GT.ret (H := eRef) _ rfl ⟨rfl, (h16.trans (h7.trans (h8.trans h9))).mono (fun q hq => ?_) (by omega) (by omega), g9⟩
          rcases hq with hq | hq | hq | hq | hq
          · exact absurd hq id
          · rw [BT.refs_node]; exact List.mem_append_right _ (List.mem_cons_of_mem _ (hD q hq))
          · subst hq; rw [BT.refs_node]; simp
          · subst hq; rw [BT.refs_node]; simp
          · subst hq; rw [BT.refs_node]; exact List.mem_append_right _ (List.mem_cons_of_mem _ (hD _ (.inr rfl)))
      · have hc : ¬ 2 * hh.w ≤ hl.w := by simp at hc; omega
        have hdbl : (BT.node r2 hl e2 hh).dblL = false := by simp [BT.dblL, hc]
        rw [hdbl, if_neg (by simp)] at hbal
        refine GT.callR closed_nil (turnL_g hI hG hs6 hnd (by omega)) ?_
        rintro x9 σ9 ⟨hx, h9, g9⟩
        obtain rfl := hx.symm
        rw [hbal]
        refine GT.ret (H := eRef) _ rfl ⟨rfl, (h16.trans h9).mono (fun q hq => ?_) (by omega) (by omega), g9⟩
        rcases hq with hq | hq | hq
        · exact absurd hq id
        · subst hq; simp [BT.refs]
        · subst hq; simp [BT.refs]
  · have hb : ¬ 3 * l.w < h.w := by simp at hb; omega
    refine GT.ite (fun hb2 => ?_) (fun hb2 => ?_)
    · have hb2 : 3 * h.w < l.w := by simp at hb2; omega
      have hbal : BT.bal r l e h = if l.dblR then BT.turnR (.node r l.turnL e h) else BT.turnR (.node r l e h) := by unfold BT.bal; rw [if_neg hb, if_pos hb2]
      cases l with
      | nil => simp only [BT.w, BT.size] at hb2; omega
      | node r2 ll e2 lh =>
        have hl30 := hl3
        obtain ⟨j1, j2, j3, j4⟩ := hl3
        have z1 : ll.w = ll.size + 1 := rfl
        have z2 : lh.w = lh.size + 1 := rfl
        simp only [BT.size] at hlsz
        refine GT.call closed_nil (get_g hI hG hl30) ?_
        rintro x4 σ4 ⟨rfl, h4⟩
        refine GT.call closed_nil (weight_g hI hG (h4.rep j4 No.rep) (by omega)) ?_
        rintro x5 σ5 ⟨rfl, h5⟩
        have h45 := (h4.trans h5).no2
        refine GT.call closed_nil (weight_g hI hG (h45.rep j3 No.rep) (by omega)) ?_
        rintro x6 σ6 ⟨rfl, h6⟩
        have h46 := (h45.trans h6).no2
        have h16 := (h13.trans h46).no2
        refine GT.endS ?_
        have w3 : wr (2 * (ll.w : Int)) = 2 * (ll.w : Int) := wr_id (by omega) (by omega)
        rw [w3]
        have hs6 := h46.rep hs3 No.rep
        refine GT.ite (fun hc => ?_) (fun hc => ?_)
        · have hc : 2 * ll.w ≤ lh.w := by simp at hc; omega
          have hdbl : (BT.node r2 ll e2 lh).dblR = true := by simp [BT.dblR, hc]
          rw [hdbl, if_pos rfl] at hbal
          cases lh with
          | nil => simp only [BT.w, BT.size] at hc; omega
          | node r3 ga f gb =>
            have hnd2 := hnd
            rw [BT.refs_node, List.nodup_append] at hnd2
            obtain ⟨m1, m2, m3⟩ := hnd2
            rw [List.nodup_cons] at m2
            have hl6 := h46.rep hl30 No.rep
            refine GT.callR closed_nil (turnL_g hI hG hl6 m1 (by simp only [BT.size] at hlsz ⊢; omega)) ?_
            rintro x7 σ7 ⟨hx, h7, g7⟩
            obtain rfl := hx.symm
            have hD : ∀ q, q = r2 ∨ q = r3 → q ∈ (BT.node r2 ll e2 (BT.node r3 ga f gb)).refs := by
              rintro q (rfl | rfl) <;> simp [BT.refs]
            have hh7 := h7.rep (h46.rep hh3 No.rep) fun q hq hd => m3 q (hD q hd) q (List.mem_cons_of_mem _ hq) rfl
            have hr7 : σ7.look r = some (I.ndOf (.node r (.node r2 ll e2 (.node r3 ga f gb)) e h)) := (h7.look r fun hd => m3 r (hD r hd) r List.mem_cons_self rfl).trans hs6.1
            have hR : (BT.node r2 ll e2 (BT.node r3 ga f gb)).turnL = .node r3 (.node r2 ll e2 ga) f gb := rfl
            rw [hR] at hbal
            replace g7 : I.Rep σ7.look (.node r3 (.node r2 ll e2 ga) f gb) := g7
            have hrefs : (BT.node r3 (.node r2 ll e2 ga) f gb).refs = (BT.node r2 ll e2 (BT.node r3 ga f gb)).refs := by rw [← hR, BT.turnL_refs]
            refine GT.callR closed_nil (lay_g hI hG (a := .node r3 (.node r2 ll e2 ga) f gb) g7 hh7 hr7 k2 (by rw [hrefs]; exact fun hm => m3 r hm r List.mem_cons_self rfl) m2.1 (by simp only [BT.size] at hlsz ⊢; omega)) ?_
            rintro x8 σ8 ⟨hx, h8, g8⟩
            obtain rfl := hx.symm
            refine GT.endS ?_
            have hnd8 : (BT.node r (.node r3 (.node r2 ll e2 ga) f gb) e h).refs.Nodup := by
              rw [BT.refs_node, hrefs]; exact hnd
            refine GT.callR closed_nil (turnR_g hI hG g8 hnd8 (by simp only [BT.size] at hlsz ⊢; omega)) ?_
            rintro x9 σ9 ⟨hx, h9, g9⟩
            obtain rfl := hx.symm
            rw [hbal]
            refine GT.ret (H := eRef) _ rfl ⟨rfl, (h16.trans (h7.trans (h8.trans h9))).mono (fun q hq => ?_) (by omega) (by omega), g9⟩
            rcases hq with hq | hq | hq | hq | hq
            · exact absurd hq id
            · rw [BT.refs_node]; exact List.mem_append_left _ (hD q hq)
            · subst hq; rw [BT.refs_node]; simp
            · subst hq; rw [BT.refs_node]; simp
            · subst hq; rw [BT.refs_node]; exact List.mem_append_left _ (hD _ (.inr rfl))
        · have hc : ¬ 2 * ll.w ≤ lh.w := by simp at hc; omega
          have hdbl : (BT.node r2 ll e2 lh).dblR = false := by simp [BT.dblR, hc]
          rw [hdbl, if_neg (by simp)] at hbal
          refine GT.callR closed_nil (turnR_g hI hG hs6 hnd (by omega)) ?_
          rintro x9 σ9 ⟨hx, h9, g9⟩
          obtain rfl := hx.symm
          rw [hbal]
          refine GT.ret (H := eRef) _ rfl ⟨rfl, (h16.trans h9).mono (fun q hq => ?_) (by omega) (by omega), g9⟩
          rcases hq with hq | hq | hq
          · exact absurd hq id
          · subst hq; simp [BT.refs]
          · subst hq; simp [BT.refs]
    · have hb2 : ¬ 3 * h.w < l.w := by simp at hb2; omega
      have hbal : BT.bal r l e h = .node r l e h := by unfold BT.bal; rw [if_neg hb, if_neg hb2]
      rw [hbal]
      exact GT.ret (H := eRef) _ rfl ⟨rfl, h13.mono (fun q hq => absurd hq id) (by omega) rfl, hs3⟩

theorem link_g (hI : I.Ty) (hG : I.Trees) : ∀ (k : Nat) {a b : BT E} {m : Rf} {nd0 : Nd E A} {σ : Pool (Nd E A)}, a.size + b.size ≤ k → I.Rep σ.look a → I.Rep σ.look b → σ.look m = some nd0 → m.gen ≠ 0 → (a.refs ++ m :: b.refs).Nodup → a.size + b.size < 576460752303423488 →
    I.GS t p r0 n n σ I.gLink [pa t 0, ar a.ref, ar m, ar b.ref] eRef fun x σ' => x = (BT.link a m nd0.e b).ref ∧ Tch σ σ' (fun x => x ∈ a.refs ++ m :: b.refs) (6 + 37 * BT.linkD a b) 0 ∧ I.Rep σ'.look (BT.link a m nd0.e b) := by
  intro k
  induction k using Nat.strongRecOn with
  | _ k ih =>
  intro a b m nd0 σ hk ha hb hm hg hnd hsz
  refine GS.of hI (hG.link t _ _ _) (fun B => ?_)
  have hlw : a.w = a.size + 1 := rfl
  have hhw : b.w = b.size + 1 := rfl
  unfold linkT
  refine GT.call closed_nil (weight_g hI hG ha (by omega)) ?_
  rintro x1 σ1 ⟨rfl, h1⟩
  refine GT.call closed_nil (weight_g hI hG (h1.rep hb No.rep) (by omega)) ?_
  rintro x2 σ2 ⟨rfl, h2⟩
  have h12 := (h1.trans h2).no2
  have w1 : wr (3 * (a.w : Int)) = 3 * (a.w : Int) := wr_id (by omega) (by omega)
  have w2 : wr (3 * (b.w : Int)) = 3 * (b.w : Int) := wr_id (by omega) (by omega)
  rw [w1, w2]
  have ha2 := h12.rep ha No.rep
  have hb2 := h12.rep hb No.rep
  have hm2 : σ2.look m = some nd0 := (h12.look m id).trans hm
  refine GT.endS ?_
  refine GT.ite (fun hc => ?_) (fun hc => ?_)
  · have hc : 3 * a.w < b.w := by simp at hc; omega
    cases b with
    | nil => simp only [BT.w, BT.size] at hc; omega
    | node r l f h =>
      have hlink : BT.link a m nd0.e (.node r l f h) = BT.bal r (BT.link a m nd0.e l) f h := BT.link_R hc
      have hD : BT.linkD a (.node r l f h) = BT.linkD a l + 1 := BT.linkD_R hc
      rw [hlink, hD]
      simp only [BT.size] at hk hsz
      have hnd2 := hnd
      rw [BT.refs_node] at hnd2
      have hnd3 : ((a.refs ++ m :: l.refs) ++ r :: h.refs).Nodup := by rw [List.append_assoc, List.cons_append]; exact hnd2
      rw [List.nodup_append] at hnd3
      obtain ⟨m1, m2, m3⟩ := hnd3
      rw [List.nodup_cons] at m2
      refine GT.call closed_nil (get_g hI hG hb2) ?_
      rintro x3 σ3 ⟨rfl, h3⟩
      have hb3 := h3.rep hb2 No.rep
      obtain ⟨j1, j2, j3, j4⟩ := hb3
      refine GT.callR closed_nil (ih (a.size + l.size) (by omega) (Nat.le_refl _) (h3.rep ha2 No.rep) j3 ((h3.look m id).trans hm2) hg m1 (by omega)) ?_
      rintro x4 σ4 ⟨hx, h4, g4⟩
      obtain rfl := hx.symm
      have hr4 : σ4.look r = some (I.ndOf (.node r l f h)) := (h4.look r fun hd => m3 r hd r List.mem_cons_self rfl).trans j1
      have hh4 := h4.rep j4 fun q hq hd => m3 q hd q (List.mem_cons_of_mem _ hq) rfl
      have hlr : (BT.link a m nd0.e l).refs = a.refs ++ m :: l.refs := BT.link_refs _ _ _ _
      have hls : (BT.link a m nd0.e l).size = a.size + l.size + 1 := BT.link_size _ _ _ _
      refine GT.callR closed_nil (lay_g hI hG g4 hh4 hr4 j2 (by rw [hlr]; exact fun hd => m3 r hd r List.mem_cons_self rfl) m2.1 (by omega)) ?_
      rintro x5 σ5 ⟨hx, h5, g5⟩
      obtain rfl := hx.symm
      have hnd5 : (BT.node r (BT.link a m nd0.e l) (I.ndOf (.node r l f h)).e h).refs.Nodup := by
        rw [BT.refs_node, hlr, List.append_assoc, List.cons_append]; exact hnd2
      refine GT.callR closed_nil (balance_g hI hG g5 hnd5 (by simp only [BT.size]; omega)) ?_
      rintro x6 σ6 ⟨hx, h6, g6⟩
      obtain rfl := hx.symm
      refine GT.endS (GT.ret (H := eRef) _ rfl ⟨rfl, (h12.trans (h3.trans (h4.trans (h5.trans h6)))).mono (fun q hq => ?_) (by omega) (by omega), g6⟩)
      rw [BT.refs_node]
      rcases hq with hq | hq | hq | hq | hq
      · exact absurd hq id
      · exact absurd hq id
      · rcases List.mem_append.1 hq with hq | hq
        · simp [hq, BT.ref]
        · rcases List.mem_cons.1 hq with hq | hq <;> simp [hq, BT.ref]
      · subst hq; simp
      · rw [BT.refs_node, hlr] at hq
        rcases List.mem_append.1 hq with hq | hq
        · rcases List.mem_append.1 hq with hq | hq
          · simp [hq, BT.ref]
          · rcases List.mem_cons.1 hq with hq | hq <;> simp [hq, BT.ref]
        · rcases List.mem_cons.1 hq with hq | hq <;> simp [hq, BT.ref]
  · have hc : ¬ 3 * a.w < b.w := by simp at hc; omega
    refine GT.ite (fun hc2 => ?_) (fun hc2 => ?_)
    · have hc2 : 3 * b.w < a.w := by simp at hc2; omega
      cases a with
      | nil => simp only [BT.w, BT.size] at hc2; omega
      | node r l f h =>
        have hlink : BT.link (.node r l f h) m nd0.e b = BT.bal r l f (BT.link h m nd0.e b) := BT.link_L hc hc2
        have hD : BT.linkD (.node r l f h) b = BT.linkD h b + 1 := BT.linkD_L hc hc2
        rw [hlink, hD]
        simp only [BT.size] at hk hsz
        have hnd2 := hnd
        rw [BT.refs_node, List.append_assoc, List.cons_append, List.nodup_append] at hnd2
        obtain ⟨m1, m2, m3⟩ := hnd2
        rw [List.nodup_cons] at m2
        refine GT.call closed_nil (get_g hI hG ha2) ?_
        rintro x3 σ3 ⟨rfl, h3⟩
        have ha3 := h3.rep ha2 No.rep
        obtain ⟨j1, j2, j3, j4⟩ := ha3
        refine GT.callR closed_nil (ih (h.size + b.size) (by omega) (Nat.le_refl _) j4 (h3.rep hb2 No.rep) ((h3.look m id).trans hm2) hg m2.2 (by omega)) ?_
        rintro x4 σ4 ⟨hx, h4, g4⟩
        obtain rfl := hx.symm
        have hr4 : σ4.look r = some (I.ndOf (.node r l f h)) := (h4.look r fun hd => m2.1 hd).trans j1
        have hl4 := h4.rep j3 fun q hq hd => m3 q hq q (List.mem_cons_of_mem _ hd) rfl
        have hlr : (BT.link h m nd0.e b).refs = h.refs ++ m :: b.refs := BT.link_refs _ _ _ _
        have hls : (BT.link h m nd0.e b).size = h.size + b.size + 1 := BT.link_size _ _ _ _
        refine GT.callR closed_nil (lay_g hI hG hl4 g4 hr4 j2 (fun hd => m3 r hd r List.mem_cons_self rfl) (by rw [hlr]; exact m2.1) (by omega)) ?_
        rintro x5 σ5 ⟨hx, h5, g5⟩
        obtain rfl := hx.symm
        have hnd5 : (BT.node r l (I.ndOf (.node r l f h)).e (BT.link h m nd0.e b)).refs.Nodup := by
          rw [BT.refs_node, hlr]
          have := hnd
          rw [BT.refs_node, List.append_assoc, List.cons_append] at this
          exact this
        refine GT.callR closed_nil (balance_g hI hG g5 hnd5 (by simp only [BT.size]; omega)) ?_
        rintro x6 σ6 ⟨hx, h6, g6⟩
        obtain rfl := hx.symm
        refine GT.endS (GT.ret (H := eRef) _ rfl ⟨rfl, (h12.trans (h3.trans (h4.trans (h5.trans h6)))).mono (fun q hq => ?_) (by omega) (by omega), g6⟩)
        rw [BT.refs_node]
        rcases hq with hq | hq | hq | hq | hq
        · exact absurd hq id
        · exact absurd hq id
        · rcases List.mem_append.1 hq with hq | hq
          · simp [hq, BT.ref]
          · rcases List.mem_cons.1 hq with hq | hq <;> simp [hq, BT.ref]
        · subst hq; simp
        · rw [BT.refs_node, hlr] at hq
          rcases List.mem_append.1 hq with hq | hq
          · simp [hq, BT.ref]
          · rcases List.mem_cons.1 hq with hq | hq
            · simp [hq, BT.ref]
            · rcases List.mem_append.1 hq with hq | hq
              · simp [hq, BT.ref]
              · rcases List.mem_cons.1 hq with hq | hq <;> simp [hq, BT.ref]
    · have hc2 : ¬ 3 * b.w < a.w := by simp at hc2; omega
      have hlink : BT.link a m nd0.e b = .node m a nd0.e b := BT.link_M hc hc2
      have hD : BT.linkD a b = 0 := BT.linkD_M hc hc2
      rw [hlink, hD]
      rw [List.nodup_append] at hnd
      obtain ⟨m1, m2, m3⟩ := hnd
      rw [List.nodup_cons] at m2
      refine GT.callR closed_nil (lay_g hI hG ha2 hb2 hm2 hg (fun hd => m3 m hd m List.mem_cons_self rfl) m2.1 (by omega)) ?_
      rintro x5 σ5 ⟨hx, h5, g5⟩
      obtain rfl := hx.symm
      refine GT.ret (H := eRef) _ rfl ⟨rfl, (h12.trans h5).mono (fun q hq => ?_) (by omega) (by omega), g5⟩
      rcases hq with hq | hq
      · exact absurd hq id
      · subst hq; simp
end GI
end Go.Sx

set_option linter.unusedVariables false
set_option linter.unusedSimpArgs false
namespace Go.Sx
namespace BT
variable {E : Type} (cmp : E → E → Int)

/-! ### last, merge, put, drop -/
def lastN : BT E → Rf → BT E → E → BT E × Rf × E
  | nil, r, l, e => (l, r, e)
  | node r2 l2 e2 h2, r, l, e => (link l r e (lastN h2 r2 l2 e2).1, (lastN h2 r2 l2 e2).2)
def lastC : BT E → BT E → Nat
  | nil, _ => 1
  | node r2 l2 e2 h2, l => 1 + lastC h2 l2 + (6 + 37 * linkD l (lastN h2 r2 l2 e2).1)
def merge : BT E → BT E → BT E
  | nil, b => b
  | node r l e h, nil => node r l e h
  | node r l e h, node r2 l2 e2 h2 => link (lastN h r l e).1 (lastN h r l e).2.1 (lastN h r l e).2.2 (node r2 l2 e2 h2)
def mergeC : BT E → BT E → Nat
  | nil, _ => 0
  | node _ _ _ _, nil => 0
  | node r l e h, node r2 l2 e2 h2 => lastC h l + (6 + 37 * linkD (lastN h r l e).1 (node r2 l2 e2 h2))
def has (e : E) : BT E → Bool
  | nil => false
  | node _ l f h => if cmp e f < 0 then l.has e else if 0 < cmp e f then h.has e else true
def ins (m : Rf) (e : E) : BT E → BT E
  | nil => node m nil e nil
  | node r l f h => if cmp e f < 0 then link (l.ins m e) r f h else if 0 < cmp e f then link l r f (h.ins m e) else node r l e h
/-- What put visits at most, whether a node comes in or not. -/
def insC (m : Rf) (e : E) : BT E → Nat
  | nil => 0
  | node r l f h => if cmp e f < 0 then 1 + l.insC m e + (6 + 37 * linkD (l.ins cmp m e) h) else if 0 < cmp e f then 1 + h.insC m e + (6 + 37 * linkD l (h.ins cmp m e)) else 6
def del (e : E) : BT E → Option (BT E × E)
  | nil => none
  | node r l f h => if cmp e f < 0 then (match l.del e with | none => none | some x => some (link x.1 r f h, x.2)) else if 0 < cmp e f then (match h.del e with | none => none | some x => some (link l r f x.1, x.2)) else some (merge l h, f)
def delC (e : E) : BT E → Nat
  | nil => 0
  | node r l f h => if cmp e f < 0 then 1 + l.delC e + (match l.del cmp e with | none => 0 | some x => 6 + 37 * linkD x.1 h) else if 0 < cmp e f then 1 + h.delC e + (match h.del cmp e with | none => 0 | some x => 6 + 37 * linkD l x.1) else 2 + mergeC l h

theorem lastN_refs : ∀ (h : BT E) (r : Rf) (l : BT E) (e : E), (lastN h r l e).1.refs ++ [(lastN h r l e).2.1] = l.refs ++ r :: h.refs
  | nil, r, l, e => by simp [lastN, refs]
  | node r2 l2 e2 h2, r, l, e => by
    have ih := lastN_refs h2 r2 l2 e2
    simp only [lastN, link_refs, List.append_assoc, List.cons_append, ih, refs]
theorem lastN_elems : ∀ (h : BT E) (r : Rf) (l : BT E) (e : E), (lastN h r l e).1.elems ++ [(lastN h r l e).2.2] = l.elems ++ e :: h.elems
  | nil, r, l, e => by simp [lastN, elems]
  | node r2 l2 e2 h2, r, l, e => by
    have ih := lastN_elems h2 r2 l2 e2
    simp only [lastN, link_elems, List.append_assoc, List.cons_append, ih, elems]
theorem lastN_size (h : BT E) (r : Rf) (l : BT E) (e : E) : (lastN h r l e).1.size = l.size + h.size := by
  have := congrArg List.length (lastN_refs h r l e)
  simp only [List.length_append, List.length_cons, List.length_nil] at this
  rw [size_refs, size_refs l, size_refs h]; omega
theorem merge_refs : ∀ (a b : BT E), (merge a b).refs = a.refs ++ b.refs
  | nil, b => rfl
  | node r l e h, nil => by simp [merge, refs]
  | node r l e h, node r2 l2 e2 h2 => by
    have := lastN_refs h r l e
    rw [merge, link_refs, ← List.singleton_append, ← List.append_assoc, this, refs, refs]
theorem merge_elems : ∀ (a b : BT E), (merge a b).elems = a.elems ++ b.elems
  | nil, b => rfl
  | node r l e h, nil => by simp [merge, elems]
  | node r l e h, node r2 l2 e2 h2 => by
    have := lastN_elems h r l e
    rw [merge, link_elems, ← List.singleton_append, ← List.append_assoc, this, elems, elems]

theorem ins_mem {m : Rf} {e : E} {x : Rf} : ∀ {s : BT E}, x ∈ (s.ins cmp m e).refs → x ∈ s.refs ∨ x = m ∧ s.has cmp e = false
  | nil, h => .inr ⟨by simpa [ins, refs] using h, rfl⟩
  | node r l f g, h => by
    unfold ins at h
    unfold has
    simp only [refs, List.mem_append, List.mem_cons]
    split at h
    · rename_i hc
      rw [link_refs, List.mem_append, List.mem_cons] at h
      simp only [hc, if_true]
      rcases h with h | h | h
      · rcases ins_mem h with h | h
        · exact .inl (.inl h)
        · exact .inr h
      · exact .inl (.inr (.inl h))
      · exact .inl (.inr (.inr h))
    · rename_i hc
      split at h
      · rename_i hc2
        rw [link_refs, List.mem_append, List.mem_cons] at h
        simp only [hc, hc2, if_true, if_false]
        rcases h with h | h | h
        · exact .inl (.inl h)
        · exact .inl (.inr (.inl h))
        · rcases ins_mem h with h | h
          · exact .inl (.inr (.inr h))
          · exact .inr h
      · left
        simpa [refs] using h
theorem ins_nodup {m : Rf} {e : E} : ∀ {s : BT E}, s.refs.Nodup → (s.has cmp e = false → m ∉ s.refs) → (s.ins cmp m e).refs.Nodup
  | nil, _, _ => by simp [ins, refs]
  | node r l f g, hn, hm => by
    rw [refs_node, List.nodup_append, List.nodup_cons] at hn
    obtain ⟨n1, ⟨n2, n3⟩, n4⟩ := hn
    have hm' : ∀ x, x ∈ l.refs ∨ x = r ∨ x ∈ g.refs → (node r l f g).has cmp e = false → x ≠ m := fun x hx hh e => hm hh (by subst e; simpa [refs] using hx)
    unfold has at hm hm'
    unfold ins
    split
    · rename_i hc
      simp only [hc, if_true] at hm hm'
      rw [link_refs, List.nodup_append, List.nodup_cons]
      refine ⟨ins_nodup n1 fun hh h => hm hh (by simp [refs, h]), ⟨n2, n3⟩, fun x hx y hy e => ?_⟩
      subst e
      rcases ins_mem cmp hx with h | ⟨h, hh⟩
      · exact n4 x h x hy rfl
      · exact hm' x (by rcases List.mem_cons.1 hy with h | h; exact .inr (.inl h); exact .inr (.inr h)) hh h
    · rename_i hc
      split
      · rename_i hc2
        simp only [hc, hc2, if_true, if_false] at hm hm'
        rw [link_refs, List.nodup_append, List.nodup_cons]
        refine ⟨n1, ⟨fun hx => ?_, ins_nodup n3 fun hh h => hm hh (by simp [refs, h])⟩, fun x hx y hy e => ?_⟩
        · rcases ins_mem cmp hx with h | ⟨h, hh⟩
          · exact n2 h
          · exact hm' r (.inr (.inl rfl)) hh h
        · subst e
          rcases List.mem_cons.1 hy with h | h
          · exact n4 x hx x (by simp [h]) rfl
          · rcases ins_mem cmp h with h | ⟨h, hh⟩
            · exact n4 x hx x (by simp [h]) rfl
            · exact hm' x (.inl hx) hh h
      · rw [refs_node, List.nodup_append, List.nodup_cons]
        exact ⟨n1, ⟨n2, n3⟩, n4⟩
theorem ins_size {m : Rf} {e : E} : ∀ (s : BT E), (s.ins cmp m e).size = s.size + (if s.has cmp e then 0 else 1)
  | nil => by simp [ins, has, size]
  | node r l f g => by
    have ihl := ins_size (m := m) (e := e) l
    have ihg := ins_size (m := m) (e := e) g
    unfold ins has
    simp only [size]
    split
    · rw [link_size, ihl]; split <;> omega
    · split
      · rw [link_size, ihg]; split <;> omega
      · simp [size]
theorem del_mem {e : E} {y : Rf} : ∀ {s : BT E} {x : BT E × E}, s.del cmp e = some x → y ∈ x.1.refs → y ∈ s.refs
  | nil, x, h, _ => by simp [del] at h
  | node r l f g, x, h, hy => by
    unfold del at h
    simp only [refs, List.mem_append, List.mem_cons]
    split at h
    · split at h
      · cases h
      · rename_i x' hx'
        injection h with h; subst h
        rw [link_refs, List.mem_append, List.mem_cons] at hy
        rcases hy with hy | hy | hy
        · exact .inl (del_mem hx' hy)
        · exact .inr (.inl hy)
        · exact .inr (.inr hy)
    · split at h
      · split at h
        · cases h
        · rename_i x' hx'
          injection h with h; subst h
          rw [link_refs, List.mem_append, List.mem_cons] at hy
          rcases hy with hy | hy | hy
          · exact .inl hy
          · exact .inr (.inl hy)
          · exact .inr (.inr (del_mem hx' hy))
      · injection h with h; subst h
        rw [merge_refs, List.mem_append] at hy
        rcases hy with hy | hy
        · exact .inl hy
        · exact .inr (.inr hy)
theorem del_nodup {e : E} : ∀ {s : BT E} {x : BT E × E}, s.del cmp e = some x → s.refs.Nodup → x.1.refs.Nodup
  | nil, x, h, _ => by simp [del] at h
  | node r l f g, x, h, hn => by
    rw [refs_node, List.nodup_append, List.nodup_cons] at hn
    obtain ⟨n1, ⟨n2, n3⟩, n4⟩ := hn
    unfold del at h
    split at h
    · split at h
      · cases h
      · rename_i x' hx'
        injection h with h; subst h
        rw [link_refs, List.nodup_append, List.nodup_cons]
        exact ⟨del_nodup hx' n1, ⟨n2, n3⟩, fun a ha b hb => n4 a (del_mem cmp hx' ha) b hb⟩
    · split at h
      · split at h
        · cases h
        · rename_i x' hx'
          injection h with h; subst h
          rw [link_refs, List.nodup_append, List.nodup_cons]
          refine ⟨n1, ⟨fun h => n2 (del_mem cmp hx' h), del_nodup hx' n3⟩, fun a ha b hb => ?_⟩
          rcases List.mem_cons.1 hb with hb | hb
          · exact n4 a ha b (by simp [hb])
          · exact n4 a ha b (List.mem_cons_of_mem _ (del_mem cmp hx' hb))
      · injection h with h; subst h
        rw [merge_refs, List.nodup_append]
        exact ⟨n1, n3, fun a ha b hb => n4 a ha b (List.mem_cons_of_mem _ hb)⟩
theorem del_size {e : E} : ∀ {s : BT E} {x : BT E × E}, s.del cmp e = some x → s.size = x.1.size + 1
  | nil, x, h => by simp [del] at h
  | node r l f g, x, h => by
    unfold del at h
    simp only [size]
    split at h
    · split at h
      · cases h
      · rename_i x' hx'
        injection h with h; subst h
        rw [link_size, del_size hx']; omega
    · split at h
      · split at h
        · cases h
        · rename_i x' hx'
          injection h with h; subst h
          rw [link_size, del_size hx']; omega
      · injection h with h; subst h
        rw [size_refs (merge l g), merge_refs, List.length_append, ← size_refs, ← size_refs]; omega
end BT
end Go.Sx

set_option linter.unusedVariables false
set_option linter.unusedSimpArgs false
set_option maxHeartbeats 2000000
namespace Go.Sx
open Go.RowKit
namespace GI
variable {E A : Type} {I : GI E A} {t q : Nat} {p : Px} {r0 : Rf} {σ σ' σ2 : Pool (Nd E A)} {n n1 n' : Nat} {F : BS} {w w1 : World}

structure Trees2 (I : GI E A) : Prop where
  base : I.Trees
  put : ∀ t r e, FnT I.cfg I.gput [pa t 0, ar r, I.tE.val e] (I.putT t r e)
structure TreesM (I : GI E A) : Prop where
  base : I.Trees
  last : ∀ t r, FnT I.cfg I.gLast [pa t 0, ar r] (I.lastT t r)
  merge : ∀ t l r, FnT I.cfg I.gMerge [pa t 0, ar l, ar r] (I.mergeT t l r)

theorem GT.callP {A' : Type} {B : Nat} {Γ : List Again} {H : Enc} {Q : H.T → Pool (Nd E A) → Prop} {enc : A' → Value} {f : FuncId} {args : List Value} {keep : List Nat} {Q1 : A' → Pool (Nd E A) → Prop} {k : A' → Tree} (hΓ : ClosedΓ B Γ) (hs : I.GS t p r0 n n1 σ f args ⟨A', enc⟩ Q1) (hk : ∀ (x : A') σ', Q1 x σ' → I.GT t p r0 n1 n' B Γ H Q (k x) σ') :
    I.GT t p r0 n n' B Γ H Q (.call f args.toArray keep ⟨A', enc⟩ k) σ := GT.call hΓ hs hk

/-- The last node is parted from the rest. -/
theorem last_g (hI : I.Ty) (hG : I.TreesM) : ∀ {h : BT E} {σ : Pool (Nd E A)} {r : Rf} {l : BT E} {e : E}, I.Rep σ.look (.node r l e h) → (BT.node r l e h).refs.Nodup → (BT.node r l e h).size < 288230376151711744 →
    I.GS t p r0 n n σ I.gLast [pa t 0, ar r] (eTup2 eRef eRef) fun x σ' => x = ((BT.lastN h r l e).1.ref, (BT.lastN h r l e).2.1) ∧ Tch σ σ' (fun x => x ∈ (BT.node r l e h).refs ∧ x ≠ (BT.lastN h r l e).2.1) (BT.lastC h l) 0 ∧ I.Rep σ'.look (BT.lastN h r l e).1 ∧
      (∃ nd, σ'.look (BT.lastN h r l e).2.1 = some nd ∧ nd.e = (BT.lastN h r l e).2.2) ∧ (BT.lastN h r l e).2.1.gen ≠ 0 := by
  intro h
  induction h with
  | nil =>
    intro σ r l e hs hnd hsz
    refine GS.of hI (hG.last t _) (fun B => ?_)
    unfold lastT
    refine GT.call closed_nil (get_g hI hG.base hs) ?_
    rintro x1 σ1 ⟨rfl, h1⟩
    refine GT.ite (fun _ => ?_) (fun hb => absurd hb (by simp [ndOf, BT.ref]))
    refine GT.endS (GT.ret (H := eTup2 eRef eRef) (l.ref, r) rfl ⟨rfl, h1.mono (fun _ h => h.elim) (Nat.le_refl _) rfl, h1.rep hs.2.2.1 No.rep, ⟨_, (h1.look r id).trans hs.1, rfl⟩, hs.2.1⟩)
  | node r2 l2 e2 h2 ihl ih =>
    intro σ r l e hs hnd hsz
    clear ihl
    refine GS.of hI (hG.last t _) (fun B => ?_)
    unfold lastT
    refine GT.call closed_nil (get_g hI hG.base hs) ?_
    rintro x1 σ1 ⟨rfl, h1⟩
    obtain ⟨k1, k2, k3, k4⟩ := h1.rep hs No.rep
    have hnd2 := hnd
    rw [BT.refs_node, List.nodup_append, List.nodup_cons] at hnd2
    obtain ⟨n1, ⟨n2, n3⟩, n4⟩ := hnd2
    refine GT.ite (fun hb => ?_) (fun hb => ?_)
    · have : r2.gen = 0 := by simpa [ndOf, BT.ref] using hb
      exact absurd this k4.2.1
    · have hsz' : l.size + 1 + (BT.node r2 l2 e2 h2).size < 288230376151711744 := hsz
      refine GT.callP closed_nil (ih (r := r2) (l := l2) (e := e2) k4 n3 (by omega)) ?_
      rintro ⟨x2, y2⟩ σ2 ⟨hx, h2', g2, ⟨nd, hl2, hnd2⟩, hgen⟩
      have hx' := hx
      injection hx' with e1 e2
      subst e1 e2
      have hr2 : σ2.look r = some (I.ndOf (.node r l e (.node r2 l2 e2 h2))) := (h2'.look r fun hd => n2 hd.1).trans k1
      have hl2' := h2'.rep k3 fun q hq hd => n4 q hq q (List.mem_cons_of_mem _ hd.1) rfl
      have hrefs := BT.lastN_refs h2 r2 l2 e2
      have hsize := BT.lastN_size h2 r2 l2 e2
      have hmem : ∀ q, q ∈ (BT.lastN h2 r2 l2 e2).1.refs → q ∈ (BT.node r2 l2 e2 h2).refs := fun q hq => by
        rw [BT.refs_node, ← hrefs]; simp [hq]
      have hlm : (BT.lastN h2 r2 l2 e2).2.1 ∈ (BT.node r2 l2 e2 h2).refs := by
        rw [BT.refs_node, ← hrefs]; simp
      have hnd3 : ((BT.lastN h2 r2 l2 e2).1.refs ++ [(BT.lastN h2 r2 l2 e2).2.1]).Nodup := by rw [hrefs, ← BT.refs_node]; exact n3
      rw [List.nodup_append] at hnd3
      have hne : ∀ q, q ∈ (BT.lastN h2 r2 l2 e2).1.refs → q ≠ (BT.lastN h2 r2 l2 e2).2.1 := fun q hq => hnd3.2.2 q hq _ (by simp)
      have hnd4 : (l.refs ++ r :: (BT.lastN h2 r2 l2 e2).1.refs).Nodup := by
        rw [List.nodup_append, List.nodup_cons]
        refine ⟨n1, ⟨fun hm => n2 (hmem _ hm), hnd3.1⟩, fun a ha b hb => ?_⟩
        rcases List.mem_cons.1 hb with hb | hb
        · exact n4 a ha b (by simp [hb])
        · exact n4 a ha b (List.mem_cons_of_mem _ (hmem b hb))
      have hlr : (BT.lastN h2 r2 l2 e2).2.1 ∉ l.refs ++ r :: (BT.lastN h2 r2 l2 e2).1.refs := by
        rw [List.mem_append, List.mem_cons]
        rintro (hm | hm | hm)
        · exact n4 _ hm _ (List.mem_cons_of_mem _ hlm) rfl
        · exact n2 (hm ▸ hlm)
        · exact hne _ hm rfl
      simp only [BT.size] at hsz'
      refine GT.callR closed_nil (link_g hI hG.base _ (Nat.le_refl _) hl2' g2 hr2 k2 hnd4 (by omega)) ?_
      rintro x3 σ3 ⟨hx3, h3, g3⟩
      obtain rfl := hx3.symm
      refine GT.endS (GT.ret (H := eTup2 eRef eRef) (_, _) rfl ⟨rfl, (h1.trans (h2'.trans h3)).mono (fun q hq => ?_) (by simp only [BT.lastC]; omega) rfl, g3, ⟨nd, (h3.look _ hlr).trans hl2, hnd2⟩, hgen⟩)
      simp only [BT.lastN]
      rcases hq with hq | hq | hq
      · exact hq.elim
      · exact ⟨by rw [BT.refs_node]; simp [hq.1], hq.2⟩
      · refine ⟨?_, fun e => hlr (e ▸ hq)⟩
        rw [BT.refs_node]
        rcases List.mem_append.1 hq with hq | hq
        · simp [hq]
        · rcases List.mem_cons.1 hq with hq | hq
          · simp [hq]
          · simp [hmem q hq]

theorem merge_g (hI : I.Ty) (hG : I.TreesM) {a b : BT E} (ha : I.Rep σ.look a) (hb : I.Rep σ.look b) (hnd : (a.refs ++ b.refs).Nodup) (hsz : a.size + b.size < 288230376151711744) :
    I.GS t p r0 n n σ I.gMerge [pa t 0, ar a.ref, ar b.ref] eRef fun x σ' => x = (BT.merge a b).ref ∧ Tch σ σ' (fun x => x ∈ a.refs ++ b.refs) (BT.mergeC a b) 0 ∧ I.Rep σ'.look (BT.merge a b) := by
  refine GS.ok fun hO hv hn => GS.of hI (hG.merge t _ _) (fun B => ?_)
  unfold mergeT
  refine GT.ite (fun hc => ?_) (fun hc => ?_)
  · have hc : a.ref.gen = 0 := by simpa using hc
    obtain rfl := (Rep.ref_gen I ha).1 hc
    exact GT.ret (H := eRef) _ rfl ⟨rfl, Tch.refl hv _ _, hb⟩
  · have hc : ¬ a.ref.gen = 0 := by simpa using hc
    cases a with
    | nil => exact absurd rfl hc
    | node r l e h =>
    refine GT.ite (fun hc2 => ?_) (fun hc2 => ?_)
    · have hc2 : b.ref.gen = 0 := by simpa using hc2
      obtain rfl := (Rep.ref_gen I hb).1 hc2
      exact GT.ret (H := eRef) _ rfl ⟨rfl, Tch.refl hv _ _, ha⟩
    · have hc2 : ¬ b.ref.gen = 0 := by simpa using hc2
      cases b with
      | nil => exact absurd rfl hc2
      | node r2 l2 e2 h2 =>
      have hnd2 := hnd
      rw [List.nodup_append] at hnd2
      obtain ⟨n1, n2, n3⟩ := hnd2
      refine GT.callP closed_nil (last_g hI hG (r := r) (l := l) (e := e) (h := h) ha n1 (by omega)) ?_
      rintro ⟨x2, y2⟩ σ2 ⟨hx, h2', g2, ⟨nd, hl2, hnd2⟩, hgen⟩
      injection hx with e1 e2
      subst e1 e2
      have hrefs := BT.lastN_refs h r l e
      rw [← BT.refs_node] at hrefs
      have hsize := BT.lastN_size h r l e
      simp only [BT.size] at hsz
      have hnd4 : ((BT.lastN h r l e).1.refs ++ (BT.lastN h r l e).2.1 :: (BT.node r2 l2 e2 h2).refs).Nodup := by
        rw [← List.singleton_append, ← List.append_assoc, hrefs]; exact hnd
      refine GT.callR closed_nil (link_g hI hG.base _ (Nat.le_refl _) g2 (h2'.rep hb fun q hq hd => n3 q hd.1 q hq rfl) hl2 hgen hnd4 (by simp only [BT.size]; omega)) ?_
      rintro x3 σ3 ⟨hx3, h3, g3⟩
      obtain rfl := hx3.symm
      rw [hnd2] at g3 ⊢
      refine GT.ret (H := eRef) _ rfl ⟨rfl, (h2'.trans h3).mono (fun q hq => ?_) (by simp only [BT.mergeC]; omega) rfl, g3⟩
      rcases hq with hq | hq
      · exact List.mem_append_left _ hq.1
      · rw [← hrefs, List.append_assoc, List.singleton_append]; exact hq

theorem pput (hI : I.Ty) (hO : σ.Ok n) (hn : n < 4294967296) (hv : wr σ.visits = σ.visits) (v : Nd E A) (Fp : BS) (w' : World) (h : PoolAt I.pool q σ Fp w') : Spec I.P I.fPut [pa q 0, ag (I.nd.enc v)] Fp w' fun u F1 w1 => ∃ x, u = (eTup2 eRef eBool).enc x ∧ ∃ σ', PoolAt I.pool q σ' F1 w1 ∧
    ((σ.held = σ.cap ∧ x = (⟨0, 0⟩, false) ∧ σ' = σ) ∨ (σ.held ≠ σ.cap ∧ x.2 = true ∧ x.1.gen ≠ 0 ∧ σ.look x.1 = none ∧ Tch σ σ' (fun r => r = x.1) 0 1 ∧ σ'.look x.1 = some v)) ∧ σ'.Ok (n + 1) ∧ wr σ'.visits = σ'.visits := by
  refine (put_spec hI.pool hI.poolF h hO hn v).mono fun u F1 w1 _ ⟨x, hx, h1, h3⟩ => ?_
  by_cases hc : σ.held = σ.cap
  · rw [Pool.put_full hc] at h1 h3
    exact ⟨x, hx, σ, h3, .inl ⟨hc, h1, rfl⟩, ⟨Nat.le_trans hO.len (Nat.le_succ _), hO.free, hO.nodup, hO.gen, hO.held, hO.room, hO.cap0, hO.cap, hO.le⟩, hv⟩
  · obtain ⟨a1, a2, a3, a4, a5, a6, a7, a8⟩ := Pool.put_room (z := I.pool.z) (v := v) hc hO
    rw [← h1] at a1 a6 a7 a8
    refine ⟨x, hx, _, h3, .inr ⟨hc, a1, by omega, a7, ⟨fun r' hr => (a8 _).trans (if_neg hr), ⟨0, Nat.le_refl _, by rw [a3]; simp [hv]⟩, a4, a5⟩, (a8 _).trans (if_pos rfl)⟩, a2, by rw [a3]; exact hv⟩

/-- What put comes to. -/
inductive PutR (I : GI E A) (σ σ' : Pool (Nd E A)) (s : BT E) (e : E) : Rf × Bool → Prop
  | old : s.has I.cmp e = true → I.Rep σ'.look (s.ins I.cmp ⟨0, 0⟩ e) → Tch σ σ' (fun x => x ∈ s.refs) (s.insC I.cmp ⟨0, 0⟩ e) 0 → PutR I σ σ' s e ((s.ins I.cmp ⟨0, 0⟩ e).ref, true)
  | full : s.has I.cmp e = false → σ.held = σ.cap → Tch σ σ' No (s.insC I.cmp ⟨0, 0⟩ e) 0 → PutR I σ σ' s e (s.ref, false)
  | new (m : Rf) : s.has I.cmp e = false → σ.held ≠ σ.cap → m.gen ≠ 0 → σ.look m = none → I.Rep σ'.look (s.ins I.cmp m e) → Tch σ σ' (fun x => x ∈ s.refs ∨ x = m) (s.insC I.cmp m e) 1 → PutR I σ σ' s e ((s.ins I.cmp m e).ref, true)

structure Laws (I : GI E A) : Prop where
  one : ∀ e, I.plus (I.plus I.zA (I.sum e)) I.zA = I.sum e

theorem rep_some {L : Rf → Option (Nd E A)} : ∀ {s : BT E}, I.Rep L s → ∀ r ∈ s.refs, ∃ v, L r = some v
  | .nil, _, r, hr => by simp [BT.refs] at hr
  | .node r l e h, ⟨h1, h2, h3, h4⟩, r', hr => by
    rw [BT.refs_node, List.mem_append, List.mem_cons] at hr
    rcases hr with hr | hr | hr
    · exact rep_some h3 r' hr
    · subst hr; exact ⟨_, h1⟩
    · exact rep_some h4 r' hr

theorem put_g (hI : I.Ty) (hG : I.Trees2) (hL : I.Laws) (e : E) (hn1 : n + 1 < 4294967296) : ∀ {s : BT E} {σ : Pool (Nd E A)}, I.Rep σ.look s → s.refs.Nodup → s.size < 144115188075855872 →
    I.GS t p r0 n (n + 1) σ I.gput [pa t 0, ar s.ref, I.tE.val e] (eTup2 eRef eBool) fun x σ' => PutR I σ σ' s e x := by
  intro s
  induction s with
  | nil =>
    intro σ hs hnd hsz
    refine GS.ok fun hO hv hn => GS.of hI (hG.put t _ _) (fun B => ?_)
    unfold putT
    refine GT.ite (fun _ => ?_) (fun hb => absurd hb (by simp [BT.ref]))
    refine GT.pcall (args := fun q => [pa q 0, ag (I.nd.enc ⟨e, ⟨0, 0⟩, ⟨0, 0⟩, 1, I.sum e⟩)]) hI closed_nil hn1 (fun Fp w' h => pput hI hO hn hv _ Fp w' h) ?_
    rintro ⟨x, b⟩ σ1 (⟨hc, hx, rfl⟩ | ⟨hc, hb, hg, hl, h1, h2⟩)
    · injection hx with e1 e2
      subst e1 e2
      exact GT.endS (GT.ret (H := eTup2 eRef eBool) (⟨0, 0⟩, false) rfl (.full rfl hc (Tch.refl hv _ _)))
    · simp only at hb hg hl h1 h2
      subst hb
      refine GT.endS (GT.ret (H := eTup2 eRef eBool) (x, true) rfl (.new x rfl hc hg hl ?_ (h1.mono (fun _ h => .inr h) (Nat.le_refl _) rfl)))
      refine ⟨?_, hg, trivial, trivial⟩
      rw [h2]
      simp only [ndOf, bsum, hL.one]; rfl
  | node r l f h ihl ihh =>
    intro σ hs hnd hsz
    refine GS.of hI (hG.put t _ _) (fun B => ?_)
    unfold putT
    have hnd2 := hnd
    rw [BT.refs_node, List.nodup_append, List.nodup_cons] at hnd2
    obtain ⟨n1, ⟨n2, n3⟩, n4⟩ := hnd2
    simp only [BT.size] at hsz
    have hrl : r ∉ l.refs := fun hm => n4 r hm r List.mem_cons_self rfl
    refine GT.ite (fun hb => absurd hb (by simp [BT.ref, hs.2.1])) (fun _ => ?_)
    refine GT.call closed_nil (get_g hI hG.base hs) ?_
    rintro x1 σ1 ⟨rfl, h1⟩
    obtain ⟨k1, k2, k3, k4⟩ := h1.rep hs No.rep
    refine GT.ite (fun hb => ?_) (fun hb => ?_)
    · have hc : I.cmp e f < 0 := of_decide_eq_true hb
      have hhas : (BT.node r l f h).has I.cmp e = l.has I.cmp e := by rw [BT.has, if_pos hc]
      have hins : ∀ m, (BT.node r l f h).ins I.cmp m e = BT.link (l.ins I.cmp m e) r f h := fun m => by rw [BT.ins, if_pos hc]
      have hC : ∀ m, (BT.node r l f h).insC I.cmp m e = 1 + l.insC I.cmp m e + (6 + 37 * BT.linkD (l.ins I.cmp m e) h) := fun m => by rw [BT.insC, if_pos hc]
      refine GT.callP closed_nil (ihl k3 n1 (by omega)) ?_
      rintro _ σ2 hR
      cases hR with
      | full a1 a2 a3 =>
        refine GT.ite (fun _ => ?_) (fun hb => absurd hb (by simp))
        refine GT.ret (H := eTup2 eRef eBool) (r, false) rfl (.full (by rw [hhas]; exact a1) (by rw [← h1.cap, a2.symm, h1.held]; simp) ((h1.trans a3).no2.mono (fun _ h => h) (by rw [hC]; omega) rfl))
      | old a1 a2 a3 =>
        refine GT.ite (fun hb => absurd hb (by simp)) (fun _ => ?_)
        have hsz2 := BT.ins_size (cmp := I.cmp) (m := ⟨0, 0⟩) (e := e) l
        have hmm : ∀ q, q ∈ (l.ins I.cmp ⟨0, 0⟩ e).refs → q ∈ l.refs := fun q hq => by
          rcases BT.ins_mem I.cmp hq with hq | ⟨_, hq⟩
          · exact hq
          · rw [a1] at hq; cases hq
        have hr2 : σ2.look r = some (I.ndOf (.node r l f h)) := (a3.look r hrl).trans k1
        have hh2 := a3.rep k4 fun q hq hd => n4 q hd q (List.mem_cons_of_mem _ hq) rfl
        have hnd4 : ((l.ins I.cmp ⟨0, 0⟩ e).refs ++ r :: h.refs).Nodup := by
          rw [List.nodup_append, List.nodup_cons]
          exact ⟨BT.ins_nodup I.cmp n1 (by rw [a1]; simp), ⟨n2, n3⟩, fun a ha b hb => n4 a (hmm a ha) b hb⟩
        refine GT.callR closed_nil (link_g hI hG.base _ (Nat.le_refl _) a2 hh2 hr2 k2 hnd4 (by rw [hsz2]; split <;> omega)) ?_
        rintro x3 σ3 ⟨hx3, h3, g3⟩
        obtain rfl := hx3.symm
        have := PutR.old (I := I) (σ := σ) (σ' := σ3) (s := .node r l f h) (e := e) (by rw [hhas]; exact a1) (by rw [hins]; exact g3) ((h1.trans (a3.trans h3)).mono (fun q hq => ?_) (by rw [hC]; omega) rfl)
        · rw [hins] at this
          exact GT.ret (H := eTup2 eRef eBool) (_, true) rfl this
        · rw [BT.refs_node, List.mem_append, List.mem_cons]
          rcases hq with hq | hq | hq
          · exact hq.elim
          · exact .inl hq
          · rcases List.mem_append.1 hq with hq | hq
            · exact .inl (hmm q hq)
            · exact .inr (List.mem_cons.1 hq)
      | new m a1 a2 a3 a4 a5 a6 =>
        refine GT.ite (fun hb => absurd hb (by simp)) (fun _ => ?_)
        have hsz2 := BT.ins_size (cmp := I.cmp) (m := m) (e := e) l
        have hmne : ∀ q v, σ1.look q = some v → q ≠ m := fun q v hq e => by rw [e, a4] at hq; cases hq
        have hrm : r ≠ m := hmne r _ k1
        have hr2 : σ2.look r = some (I.ndOf (.node r l f h)) := (a6.look r (fun hd => hd.elim hrl hrm)).trans k1
        have hhm : ∀ q ∈ h.refs, q ≠ m := fun q hq => by obtain ⟨v, hv⟩ := rep_some k4 q hq; exact hmne q v hv
        have hlm : m ∉ l.refs := fun hm => by obtain ⟨v, hv⟩ := rep_some k3 m hm; rw [a4] at hv; cases hv
        have hh2 := a6.rep k4 fun q hq hd => hd.elim (fun hd => n4 q hd q (List.mem_cons_of_mem _ hq) rfl) (hhm q hq)
        have hnd4 : ((l.ins I.cmp m e).refs ++ r :: h.refs).Nodup := by
          rw [List.nodup_append, List.nodup_cons]
          refine ⟨BT.ins_nodup I.cmp n1 (fun _ => hlm), ⟨n2, n3⟩, fun a ha b hb e => ?_⟩
          subst e
          rcases BT.ins_mem I.cmp ha with ha | ⟨ha, _⟩
          · exact n4 a ha a hb rfl
          · rcases List.mem_cons.1 hb with hb | hb
            · exact hrm (hb ▸ ha)
            · exact hhm a hb ha
        refine GT.callR closed_nil (link_g hI hG.base _ (Nat.le_refl _) a5 hh2 hr2 k2 hnd4 (by rw [hsz2]; split <;> omega)) ?_
        rintro x3 σ3 ⟨hx3, h3, g3⟩
        obtain rfl := hx3.symm
        have := PutR.new (I := I) (σ := σ) (σ' := σ3) (s := .node r l f h) (e := e) m (by rw [hhas]; exact a1) (fun hh => a2 (by rw [h1.held, h1.cap, hh]; simp)) a3 ((h1.look m id).symm.trans a4) (by rw [hins]; exact g3) ((h1.trans (a6.trans h3)).mono (fun q hq => ?_) (by rw [hC]; omega) (by omega))
        · rw [hins] at this
          exact GT.ret (H := eTup2 eRef eBool) (_, true) rfl this
        · rw [BT.refs_node, List.mem_append, List.mem_cons]
          rcases hq with hq | hq | hq
          · exact hq.elim
          · exact hq.imp (fun h => .inl h) id
          · rcases List.mem_append.1 hq with hq | hq
            · exact (BT.ins_mem I.cmp hq).imp (fun h => .inl h) (fun h => h.1)
            · exact .inl (.inr (List.mem_cons.1 hq))
    · have hc : ¬ I.cmp e f < 0 := of_decide_eq_false hb
      refine GT.ite (fun hb2 => ?_) (fun hb2 => ?_)
      · have hc2 : 0 < I.cmp e f := of_decide_eq_true hb2
        have hhas : (BT.node r l f h).has I.cmp e = h.has I.cmp e := by rw [BT.has, if_neg hc, if_pos hc2]
        have hins : ∀ m, (BT.node r l f h).ins I.cmp m e = BT.link l r f (h.ins I.cmp m e) := fun m => by rw [BT.ins, if_neg hc, if_pos hc2]
        have hC : ∀ m, (BT.node r l f h).insC I.cmp m e = 1 + h.insC I.cmp m e + (6 + 37 * BT.linkD l (h.ins I.cmp m e)) := fun m => by rw [BT.insC, if_neg hc, if_pos hc2]
        refine GT.callP closed_nil (ihh k4 n3 (by omega)) ?_
        rintro _ σ2 hR
        cases hR with
        | full a1 a2 a3 =>
          refine GT.ite (fun _ => ?_) (fun hb => absurd hb (by simp))
          refine GT.ret (H := eTup2 eRef eBool) (r, false) rfl (.full (by rw [hhas]; exact a1) (by rw [← h1.cap, a2.symm, h1.held]; simp) ((h1.trans a3).no2.mono (fun _ h => h) (by rw [hC]; omega) rfl))
        | old a1 a2 a3 =>
          refine GT.ite (fun hb => absurd hb (by simp)) (fun _ => ?_)
          have hsz2 := BT.ins_size (cmp := I.cmp) (m := ⟨0, 0⟩) (e := e) h
          have hmm : ∀ q, q ∈ (h.ins I.cmp ⟨0, 0⟩ e).refs → q ∈ h.refs := fun q hq => by
            rcases BT.ins_mem I.cmp hq with hq | ⟨_, hq⟩
            · exact hq
            · rw [a1] at hq; cases hq
          have hr2 : σ2.look r = some (I.ndOf (.node r l f h)) := (a3.look r n2).trans k1
          have hl2 := a3.rep k3 fun q hq hd => n4 q hq q (List.mem_cons_of_mem _ hd) rfl
          have hnd4 : (l.refs ++ r :: (h.ins I.cmp ⟨0, 0⟩ e).refs).Nodup := by
            rw [List.nodup_append, List.nodup_cons]
            refine ⟨n1, ⟨fun hm => n2 (hmm r hm), BT.ins_nodup I.cmp n3 (by rw [a1]; simp)⟩, fun a ha b hb => n4 a ha b ?_⟩
            rcases List.mem_cons.1 hb with hb | hb
            · simp [hb]
            · exact List.mem_cons_of_mem _ (hmm b hb)
          refine GT.callR closed_nil (link_g hI hG.base _ (Nat.le_refl _) hl2 a2 hr2 k2 hnd4 (by rw [hsz2]; split <;> omega)) ?_
          rintro x3 σ3 ⟨hx3, h3, g3⟩
          obtain rfl := hx3.symm
          have := PutR.old (I := I) (σ := σ) (σ' := σ3) (s := .node r l f h) (e := e) (by rw [hhas]; exact a1) (by rw [hins]; exact g3) ((h1.trans (a3.trans h3)).mono (fun q hq => ?_) (by rw [hC]; omega) rfl)
          · rw [hins] at this
            exact GT.ret (H := eTup2 eRef eBool) (_, true) rfl this
          · rw [BT.refs_node, List.mem_append, List.mem_cons]
            rcases hq with hq | hq | hq
            · exact hq.elim
            · exact .inr (.inr hq)
            · rcases List.mem_append.1 hq with hq | hq
              · exact .inl hq
              · exact .inr ((List.mem_cons.1 hq).imp id (hmm q))
        | new m a1 a2 a3 a4 a5 a6 =>
          refine GT.ite (fun hb => absurd hb (by simp)) (fun _ => ?_)
          have hsz2 := BT.ins_size (cmp := I.cmp) (m := m) (e := e) h
          have hmne : ∀ q v, σ1.look q = some v → q ≠ m := fun q v hq e => by rw [e, a4] at hq; cases hq
          have hrm : r ≠ m := hmne r _ k1
          have hr2 : σ2.look r = some (I.ndOf (.node r l f h)) := (a6.look r (fun hd => hd.elim n2 hrm)).trans k1
          have hlm : ∀ q ∈ l.refs, q ≠ m := fun q hq => by obtain ⟨v, hv⟩ := rep_some k3 q hq; exact hmne q v hv
          have hhm : m ∉ h.refs := fun hm => by obtain ⟨v, hv⟩ := rep_some k4 m hm; rw [a4] at hv; cases hv
          have hl2 := a6.rep k3 fun q hq hd => hd.elim (fun hd => n4 q hq q (List.mem_cons_of_mem _ hd) rfl) (hlm q hq)
          have hnd4 : (l.refs ++ r :: (h.ins I.cmp m e).refs).Nodup := by
            rw [List.nodup_append, List.nodup_cons]
            refine ⟨n1, ⟨fun hm => ?_, BT.ins_nodup I.cmp n3 (fun _ => hhm)⟩, fun a ha b hb e => ?_⟩
            · rcases BT.ins_mem I.cmp hm with hm | ⟨hm, _⟩
              · exact n2 hm
              · exact hrm hm
            · subst e
              rcases List.mem_cons.1 hb with hb | hb
              · exact hrl (hb ▸ ha)
              · rcases BT.ins_mem I.cmp hb with hb | ⟨hb, _⟩
                · exact n4 a ha a (List.mem_cons_of_mem _ hb) rfl
                · exact hlm a ha hb
          refine GT.callR closed_nil (link_g hI hG.base _ (Nat.le_refl _) hl2 a5 hr2 k2 hnd4 (by rw [hsz2]; split <;> omega)) ?_
          rintro x3 σ3 ⟨hx3, h3, g3⟩
          obtain rfl := hx3.symm
          have := PutR.new (I := I) (σ := σ) (σ' := σ3) (s := .node r l f h) (e := e) m (by rw [hhas]; exact a1) (fun hh => a2 (by rw [h1.held, h1.cap, hh]; simp)) a3 ((h1.look m id).symm.trans a4) (by rw [hins]; exact g3) ((h1.trans (a6.trans h3)).mono (fun q hq => ?_) (by rw [hC]; omega) (by omega))
          · rw [hins] at this
            exact GT.ret (H := eTup2 eRef eBool) (_, true) rfl this
          · rw [BT.refs_node, List.mem_append, List.mem_cons]
            rcases hq with hq | hq | hq
            · exact hq.elim
            · exact hq.imp (fun h => .inr (.inr h)) id
            · rcases List.mem_append.1 hq with hq | hq
              · exact .inl (.inl hq)
              · rcases List.mem_cons.1 hq with hq | hq
                · exact .inl (.inr (.inl hq))
                · exact (BT.ins_mem I.cmp hq).imp (fun h => .inr (.inr h)) (fun h => h.1)
      · have hc2 : ¬ 0 < I.cmp e f := of_decide_eq_false hb2
        have hhas : (BT.node r l f h).has I.cmp e = true := by rw [BT.has, if_neg hc, if_neg hc2]
        have hins : (BT.node r l f h).ins I.cmp ⟨0, 0⟩ e = .node r l e h := by rw [BT.ins, if_neg hc, if_neg hc2]
        have hC : (BT.node r l f h).insC I.cmp ⟨0, 0⟩ e = 6 := by rw [BT.insC, if_neg hc, if_neg hc2]
        refine GT.ok fun hO hv hn => ?_
        refine GT.pcall (n1 := n) (args := fun q => [pa q 0, ar r, ag (I.nd.enc _)]) hI closed_nil hn (fun Fp w' h => pset hI hO hv r _ ⟨e, _, _, _, _⟩ k1 Fp w' h) ?_
        rintro x2 σ2 ⟨h2, hl2⟩
        refine GT.endS (GT.up (Nat.le_succ n) hn1 ?_)
        have hk : ∀ s : BT E, I.Rep σ1.look s → r ∉ s.refs → I.Rep σ2.look s := fun s hs hms => h2.rep hs fun q hq hd => by subst hd; exact hms hq
        refine GT.callR closed_nil (lay_g hI hG.base (hk l k3 hrl) (hk h k4 n2) hl2 k2 hrl n2 (by omega)) ?_
        rintro x3 σ3 ⟨hx3, h3, g3⟩
        obtain rfl := hx3.symm
        have := PutR.old (I := I) (σ := σ) (σ' := σ3) (s := .node r l f h) (e := e) hhas (by rw [hins]; exact g3) ((h1.trans (h2.trans h3)).mono (fun q hq => ?_) (by rw [hC]; omega) rfl)
        · rw [hins] at this
          exact GT.ret (H := eTup2 eRef eBool) (_, true) rfl this
        · rw [BT.refs_node, List.mem_append, List.mem_cons]
          rcases hq with hq | hq | hq
          · exact hq.elim
          · exact .inr (.inl hq)
          · exact .inr (.inl hq)
end GI
end Go.Sx

set_option linter.unusedVariables false
set_option linter.unusedSimpArgs false
set_option maxHeartbeats 2000000
namespace Go.Sx
open Go.RowKit
namespace GI
variable {E A : Type} {I : GI E A} {t q : Nat} {p : Px} {r0 : Rf} {σ σ' σ2 : Pool (Nd E A)} {n n1 n' : Nat} {F : BS} {w w1 : World}

structure TreesD (I : GI E A) : Prop where
  base : I.Trees
  m : I.TreesM
  drop : ∀ t r e, FnT I.cfg I.gdrop [pa t 0, ar r, I.tE.val e] (I.dropT t r e)
  pdrop : ∀ t r, FnT I.pool.c I.pool.fDrop [pa t 0, ag (rfC r)] (Go.Sx.dropT I.pool t r)
theorem pdrop (hI : I.Ty) (hD : I.TreesD) (hO : σ.Ok n) (hn : n < 4294967296) (hv : wr σ.visits = σ.visits) (r : Rf) (u : Nd E A) (hl : σ.look r = some u) (Fp : BS) (w' : World) (h : PoolAt I.pool q σ Fp w') : Spec I.P I.fDrop [pa q 0, ar r] Fp w' fun v F1 w1 => ∃ x, v = (eTup2 I.eNd eBool).enc x ∧ ∃ σ', PoolAt I.pool q σ' F1 w1 ∧
    Tch σ σ' (fun q => q = r) 1 (-1) ∧ σ'.Ok n ∧ wr σ'.visits = σ'.visits := by
  refine (drop_spec hI.pool hI.poolF hD.pdrop h hO hn r).mono fun u F1 w1 _ ⟨x, hx, h1, h3⟩ => ?_
  obtain ⟨a1, a2, a3, a4, a5, a6, a7⟩ := Pool.drop_some (z := I.pool.z) hl hO
  exact ⟨x, hx, _, h3, ⟨fun r' hr => (a7 _).trans (if_neg hr), ⟨1, Nat.le_refl _, a3⟩, by rw [a4]; omega, a5⟩, a2, by rw [a3]; exact wr_vis _⟩

/-- What drop comes to. -/
inductive DropR (I : GI E A) (σ σ' : Pool (Nd E A)) (s : BT E) (e : E) : Rf × E × Bool → Prop
  | none : s.del I.cmp e = none → Tch σ σ' No (s.delC I.cmp e) 0 → DropR I σ σ' s e (s.ref, I.zE, false)
  | some (x : BT E × E) : s.del I.cmp e = some x → I.Rep σ'.look x.1 → Tch σ σ' (fun q => q ∈ s.refs) (s.delC I.cmp e) (-1) → DropR I σ σ' s e (x.1.ref, x.2, true)

theorem GT.callT {B : Nat} {Γ : List Again} {H : Enc} {Q : H.T → Pool (Nd E A) → Prop} {f : FuncId} {args : List Value} {keep : List Nat} {Q1 : Rf × E × Bool → Pool (Nd E A) → Prop} {k : Rf × E × Bool → Tree} (hΓ : ClosedΓ B Γ) (hs : I.GS t p r0 n n1 σ f args (eTup3 eRef I.eE eBool) Q1) (hk : ∀ (x : Rf × E × Bool) σ', Q1 x σ' → I.GT t p r0 n1 n' B Γ H Q (k x) σ') :
    I.GT t p r0 n n' B Γ H Q (.call f args.toArray keep (eTup3 eRef I.eE eBool) k) σ := GT.call hΓ hs hk

theorem drop_g (hI : I.Ty) (hG : I.TreesD) (e : E) : ∀ {s : BT E} {σ : Pool (Nd E A)}, I.Rep σ.look s → s.refs.Nodup → s.size < 144115188075855872 →
    I.GS t p r0 n n σ I.gdrop [pa t 0, ar s.ref, I.tE.val e] (eTup3 eRef I.eE eBool) fun (x : Rf × E × Bool) σ' => DropR I σ σ' s e x := by
  intro s
  induction s with
  | nil =>
    intro σ hs hnd hsz
    refine GS.ok fun hO hv hn => GS.of hI (hG.drop t _ _) (fun B => ?_)
    unfold dropT
    refine GT.ite (fun _ => ?_) (fun hb => absurd hb (by simp [BT.ref]))
    exact GT.endS (GT.ret (H := eTup3 eRef I.eE eBool) (⟨0, 0⟩, I.zE, false) rfl (.none rfl (Tch.refl hv _ _)))
  | node r l f h ihl ihh =>
    intro σ hs hnd hsz
    refine GS.of hI (hG.drop t _ _) (fun B => ?_)
    unfold dropT
    have hnd2 := hnd
    rw [BT.refs_node, List.nodup_append, List.nodup_cons] at hnd2
    obtain ⟨n1, ⟨n2, n3⟩, n4⟩ := hnd2
    simp only [BT.size] at hsz
    have hrl : r ∉ l.refs := fun hm => n4 r hm r List.mem_cons_self rfl
    refine GT.ite (fun hb => absurd hb (by simp [BT.ref, hs.2.1])) (fun _ => ?_)
    refine GT.call closed_nil (get_g hI hG.base hs) ?_
    rintro x1 σ1 ⟨rfl, h1⟩
    obtain ⟨k1, k2, k3, k4⟩ := h1.rep hs No.rep
    refine GT.ite (fun hb => ?_) (fun hb => ?_)
    · have hc : I.cmp e f < 0 := of_decide_eq_true hb
      refine GT.callT closed_nil (ihl k3 n1 (by omega)) ?_
      rintro y σ2 hR
      cases hR with
      | none a1 a2 =>
        refine GT.ite (fun _ => ?_) (fun hb => absurd hb (by simp))
        refine GT.endS (GT.ret (H := eTup3 eRef I.eE eBool) (r, I.zE, false) rfl (.none (by rw [BT.del, if_pos hc, a1]) ((h1.trans a2).no2.mono (fun _ h => h) (by rw [BT.delC, if_pos hc]; omega) rfl)))
      | some x a1 a2 a3 =>
        refine GT.ite (fun hb => absurd hb (by simp)) (fun _ => ?_)
        have hdel : (BT.node r l f h).del I.cmp e = some (BT.link x.1 r f h, x.2) := by rw [BT.del, if_pos hc, a1]
        have hC : (BT.node r l f h).delC I.cmp e = 1 + l.delC I.cmp e + (6 + 37 * BT.linkD x.1 h) := by rw [BT.delC, if_pos hc, a1]
        have hsz2 := BT.del_size I.cmp a1
        have hmm : ∀ q, q ∈ x.1.refs → q ∈ l.refs := fun q hq => BT.del_mem I.cmp a1 hq
        have hr2 : σ2.look r = some (I.ndOf (.node r l f h)) := (a3.look r hrl).trans k1
        have hh2 := a3.rep k4 fun q hq hd => n4 q hd q (List.mem_cons_of_mem _ hq) rfl
        have hnd4 : (x.1.refs ++ r :: h.refs).Nodup := by
          rw [List.nodup_append, List.nodup_cons]
          exact ⟨BT.del_nodup I.cmp a1 n1, ⟨n2, n3⟩, fun a ha b hb => n4 a (hmm a ha) b hb⟩
        refine GT.callR closed_nil (link_g hI hG.base _ (Nat.le_refl _) a2 hh2 hr2 k2 hnd4 (by omega)) ?_
        rintro x3 σ3 ⟨hx3, h3, g3⟩
        obtain rfl := hx3.symm
        have := DropR.some (I := I) (σ := σ) (σ' := σ3) (s := .node r l f h) (e := e) _ hdel g3 ((h1.trans (a3.trans h3)).mono (fun q hq => ?_) (by rw [hC]; omega) (by omega))
        · exact GT.endS (GT.ret (H := eTup3 eRef I.eE eBool) (_, _, true) rfl this)
        · rw [BT.refs_node, List.mem_append, List.mem_cons]
          rcases hq with hq | hq | hq
          · exact hq.elim
          · exact .inl hq
          · rcases List.mem_append.1 hq with hq | hq
            · exact .inl (hmm q hq)
            · exact .inr (List.mem_cons.1 hq)
    · have hc : ¬ I.cmp e f < 0 := of_decide_eq_false hb
      refine GT.ite (fun hb2 => ?_) (fun hb2 => ?_)
      · have hc2 : 0 < I.cmp e f := of_decide_eq_true hb2
        refine GT.callT closed_nil (ihh k4 n3 (by omega)) ?_
        rintro y σ2 hR
        cases hR with
        | none a1 a2 =>
          refine GT.ite (fun _ => ?_) (fun hb => absurd hb (by simp))
          refine GT.endS (GT.ret (H := eTup3 eRef I.eE eBool) (r, I.zE, false) rfl (.none (by rw [BT.del, if_neg hc, if_pos hc2, a1]) ((h1.trans a2).no2.mono (fun _ h => h) (by rw [BT.delC, if_neg hc, if_pos hc2]; omega) rfl)))
        | some x a1 a2 a3 =>
          refine GT.ite (fun hb => absurd hb (by simp)) (fun _ => ?_)
          have hdel : (BT.node r l f h).del I.cmp e = some (BT.link l r f x.1, x.2) := by rw [BT.del, if_neg hc, if_pos hc2, a1]
          have hC : (BT.node r l f h).delC I.cmp e = 1 + h.delC I.cmp e + (6 + 37 * BT.linkD l x.1) := by rw [BT.delC, if_neg hc, if_pos hc2, a1]
          have hsz2 := BT.del_size I.cmp a1
          have hmm : ∀ q, q ∈ x.1.refs → q ∈ h.refs := fun q hq => BT.del_mem I.cmp a1 hq
          have hr2 : σ2.look r = some (I.ndOf (.node r l f h)) := (a3.look r n2).trans k1
          have hl2 := a3.rep k3 fun q hq hd => n4 q hq q (List.mem_cons_of_mem _ hd) rfl
          have hnd4 : (l.refs ++ r :: x.1.refs).Nodup := by
            rw [List.nodup_append, List.nodup_cons]
            refine ⟨n1, ⟨fun hm => n2 (hmm r hm), BT.del_nodup I.cmp a1 n3⟩, fun a ha b hb => n4 a ha b ?_⟩
            rcases List.mem_cons.1 hb with hb | hb
            · simp [hb]
            · exact List.mem_cons_of_mem _ (hmm b hb)
          refine GT.callR closed_nil (link_g hI hG.base _ (Nat.le_refl _) hl2 a2 hr2 k2 hnd4 (by omega)) ?_
          rintro x3 σ3 ⟨hx3, h3, g3⟩
          obtain rfl := hx3.symm
          have := DropR.some (I := I) (σ := σ) (σ' := σ3) (s := .node r l f h) (e := e) _ hdel g3 ((h1.trans (a3.trans h3)).mono (fun q hq => ?_) (by rw [hC]; omega) (by omega))
          · exact GT.endS (GT.ret (H := eTup3 eRef I.eE eBool) (_, _, true) rfl this)
          · rw [BT.refs_node, List.mem_append, List.mem_cons]
            rcases hq with hq | hq | hq
            · exact hq.elim
            · exact .inr (.inr hq)
            · rcases List.mem_append.1 hq with hq | hq
              · exact .inl hq
              · exact .inr ((List.mem_cons.1 hq).imp id (hmm q))
      · have hc2 : ¬ 0 < I.cmp e f := of_decide_eq_false hb2
        have hdel : (BT.node r l f h).del I.cmp e = some (BT.merge l h, f) := by rw [BT.del, if_neg hc, if_neg hc2]
        have hC : (BT.node r l f h).delC I.cmp e = 2 + BT.mergeC l h := by rw [BT.delC, if_neg hc, if_neg hc2]
        refine GT.ok fun hO hv hn => ?_
        refine GT.pcall (n1 := n) (X := fun _ σ2 => Tch σ1 σ2 (fun q => q = r) 1 (-1)) (args := fun q => [pa q 0, ar r]) hI closed_nil hn (fun Fp w' h => pdrop hI hG hO hn hv r _ k1 Fp w' h) ?_
        rintro x2 σ2 h2
        refine GT.endS ?_
        have hk : ∀ s : BT E, I.Rep σ1.look s → r ∉ s.refs → I.Rep σ2.look s := fun s hs hms => h2.rep hs fun q hq hd => by subst hd; exact hms hq
        refine GT.callR closed_nil (merge_g hI hG.m (hk l k3 hrl) (hk h k4 n2) ?_ (by omega)) ?_
        · rw [List.nodup_append]; exact ⟨n1, n3, fun a ha b hb => n4 a ha b (List.mem_cons_of_mem _ hb)⟩
        rintro x3 σ3 ⟨hx3, h3, g3⟩
        obtain rfl := hx3.symm
        have := DropR.some (I := I) (σ := σ) (σ' := σ3) (s := .node r l f h) (e := e) _ hdel g3 ((h1.trans (h2.trans h3)).mono (fun q hq => ?_) (by rw [hC]; omega) (by omega))
        · exact GT.endS (GT.ret (H := eTup3 eRef I.eE eBool) (_, _, true) rfl this)
        · rw [BT.refs_node, List.mem_append, List.mem_cons]
          rcases hq with hq | hq | hq
          · exact hq.elim
          · exact .inr (.inl hq)
          · rcases List.mem_append.1 hq with hq | hq
            · exact .inl hq
            · exact .inr (.inr hq)
end GI
end Go.Sx

set_option linter.unusedVariables false
set_option linter.unusedSimpArgs false
set_option maxHeartbeats 2000000
namespace Go.Sx
open Go.RowKit

namespace BT
variable {E : Type} (cmp : E → E → Int)
def find (e : E) : BT E → Option E
  | nil => none
  | node _ l f h => if cmp e f = 0 then some f else if cmp e f < 0 then l.find e else h.find e
def rank (e : E) : BT E → Nat
  | nil => 0
  | node _ l f h => if cmp e f ≤ 0 then l.rank e else l.w + h.rank e
def at_ : BT E → Nat → Option E
  | nil, _ => none
  | node _ l f h, i => if i = l.size then some f else if i < l.size then l.at_ i else h.at_ (i - (l.size + 1))
end BT

namespace GI
variable {E A : Type} {I : GI E A} {t q : Nat} {p : Px} {r0 : Rf} {σ σ' σ2 : Pool (Nd E A)} {n n1 n' : Nat} {F : BS} {w w1 : World}

structure Trees3 (I : GI E A) : Prop where
  base : I.Trees2
  len : ∀ t, FnT I.cfg I.gLen [pa t 0] (I.lenT t)
  visits : ∀ t, FnT I.cfg I.gVisits [pa t 0] (I.visitsT t)
  Put : ∀ t e, FnT I.cfg I.gPut [pa t 0, I.tE.val e] (I.PutT t e)
structure TreesE (I : GI E A) : Prop where
  base : I.Trees3
  d : I.TreesD
  Drop : ∀ t e, FnT I.cfg I.gDrop [pa t 0, I.tE.val e] (I.DropT t e)
structure TreesQ (I : GI E A) : Prop where
  base : I.Trees3
  Find : ∀ t e, FnT I.cfg I.gFind [pa t 0, I.tE.val e] (I.findT t e)
  Rank : ∀ t e, FnT I.cfg I.gRank [pa t 0, I.tE.val e] (I.rankT t e)

/-- What a tree's own function does: its root may turn. -/
def GR (I : GI E A) (t : Nat) (p : Px) (r0 : Rf) (n n' : Nat) (σ : Pool (Nd E A)) (f : FuncId) (args : List Value) (H : Enc) (Q : H.T → Rf → Pool (Nd E A) → Prop) : Prop :=
  ∀ F w, I.GAt t p r0 σ n F w → Spec I.P f args F w fun v F1 w1 => ∃ x, v = H.enc x ∧ ∃ r' σ', I.GAt t p r' σ' n' F1 w1 ∧ Q x r' σ'

theorem ld_root (hI : I.Ty) (h : I.GAt t p r0 σ n F w) : Ld I.P F w (Instr.loadAt I.tRef (pa t 1)) (eRef.enc r0) := by
  obtain ⟨Fp, rfl, h1, ⟨h2, hx⟩, h3⟩ := h
  exact ld_agg (S := fun b => Fp b ∨ b = t ∨ p.G b) (cs := headC p.p r0) (off := 1) (.inr (.inl rfl)) h2 hI.aRef hI.sRef (by simp [headC])

theorem TT_root {B : Nat} {R : Value → BS → World → Prop} {Γ : List Again} {Λ : Lam} {k : Tree} {r : Rf} (hI : I.Ty) (hΓ : ClosedΓ B Γ) (h : I.GAt t p r0 σ n F w) (hk : ∀ w1, I.GAt t p r σ n F w1 → TT I.P B R k Γ Lam.none F w1) :
    TT I.P B R (.primU (Instr.storeAt I.tRef (pa t 1) (ar r)) [] k) Γ Λ F w := by
  have h0 := h
  obtain ⟨Fp, rfl, h1, ⟨h2, hx1, hx2, hx3⟩, h3⟩ := h
  refine TT_store (cs := headC p.p r0) (e := I.tTree) hΓ h0.lt (.inr (.inl rfl)) h2 (by rw [hI.sRef]; rfl) (by simp [ar, ag, rfC, Value.cells, headC]) (one_list fun v hv => ?_) ?_
  · simp [rfC] at hv; rcases hv with rfl | rfl <;> rfl
  intro w1 hp hoth hsz
  refine hk w1 ⟨Fp, rfl, h1.keep fun b hb => hoth b (fun e => head_not hI h1 h2 (e ▸ hb)) (.inl hb), ⟨?_, hx1, hx2, p.stab w w1 (fun b hb => hoth b (fun e => hx1 (e ▸ hb)) (.inr (.inr hb))) hx3⟩, h3⟩
  rw [hp]; rfl

theorem Put_g (hI : I.Ty) (hG : I.Trees3) (hL : I.Laws) (e : E) (hn1 : n + 1 < 4294967296) {s : BT E} (hs : I.Rep σ.look s) (hnd : s.refs.Nodup) (hsz : s.size < 144115188075855872) :
    I.GR t p s.ref n (n + 1) σ I.gPut [pa t 0, I.tE.val e] eBool fun b r' σ' => PutR I σ σ' s e (r', b) := by
  intro F w hGA
  refine (hG.Put t e).spec hI.pool.good.ok hI.pool.good.mix hGA.lt ?_
  unfold PutT
  refine TT_loadS_ld (x := s.ref) (ld_root hI hGA) ?_
  refine TT_call0 (X := fun x F1 w1 => ∃ σ', I.GAt t p s.ref σ' (n + 1) F1 w1 ∧ PutR I σ σ' s e x) closed_nil hGA.lt (fun w' hk hs' => put_g hI hG.base hL e hn1 hs hnd hsz F w' (hGA.keep hk)) ?_
  rintro ⟨x, b⟩ F1 w1 ⟨σ', g1, g2⟩ hlt hnew hsz'
  refine ⟨fun hb => ?_, fun hb => ?_⟩
  · refine TT_root hI closed_nil g1 fun w2 g3 => ?_
    intro w3 ha
    exact ⟨b, rfl, x, σ', g3.keep fun q hq => ha.block q (.inr hq), g2⟩
  · intro w3 ha
    have hb : b = false := hb
    subst hb
    have hx : x = s.ref := by cases g2; rfl
    subst hx
    exact ⟨false, rfl, s.ref, σ', g1.keep fun q hq => ha.block q (.inr hq), g2⟩

def eEB (I : GI E A) : Enc := eTup2 I.eE eBool
theorem Drop_g (hI : I.Ty) (hG : I.TreesE) (e : E) {s : BT E} (hs : I.Rep σ.look s) (hnd : s.refs.Nodup) (hsz : s.size < 144115188075855872) :
    I.GR t p s.ref n n σ I.gDrop [pa t 0, I.tE.val e] (eEB I) fun (x : E × Bool) r' σ' => DropR I σ σ' s e (r', x.1, x.2) := by
  intro F w hGA
  refine (hG.Drop t e).spec hI.pool.good.ok hI.pool.good.mix hGA.lt ?_
  unfold DropT
  refine TT_loadS_ld (x := s.ref) (ld_root hI hGA) ?_
  refine TT_call0 (H := eTup3 eRef I.eE eBool) (X := fun (x : Rf × E × Bool) F1 w1 => ∃ σ', I.GAt t p s.ref σ' n F1 w1 ∧ DropR I σ σ' s e x) closed_nil hGA.lt (fun w' hk hs' => drop_g hI hG.d e hs hnd hsz F w' (hGA.keep hk)) ?_
  rintro x F1 w1 ⟨σ', g1, g2⟩ hlt hnew hsz'
  refine TT_root hI closed_nil g1 fun w2 g3 => ?_
  intro w3 ha
  exact ⟨(x.2.1, x.2.2), rfl, x.1, σ', g3.keep fun q hq => ha.block q (.inr hq), g2⟩

theorem GR.same {f : FuncId} {args : List Value} {H : Enc} {Q : H.T → Pool (Nd E A) → Prop} (h : I.GS t p r0 n n' σ f args H Q) : I.GR t p r0 n n' σ f args H fun x r' σ' => r' = r0 ∧ Q x σ' :=
  fun F w hG => (h F w hG).mono fun v F1 w1 _ ⟨x, hx, σ', h1, h2⟩ => ⟨x, hx, r0, σ', h1, rfl, h2⟩

/-- The look at the root, in a function that leaves it. -/
theorem GT.root {B : Nat} {Γ : List Again} {H : Enc} {Q : H.T → Pool (Nd E A) → Prop} {k : Rf → Tree} (hI : I.Ty) (hΓ : ClosedΓ B Γ) (h : I.GT t p r0 n n' B Γ H Q (k r0) σ) : I.GT t p r0 n n' B Γ H Q (.prim (Instr.loadAt I.tRef (pa t 1)) [] eRef k) σ :=
  fun F w hG => TT_prim_ld hΓ hG.lt (ld_root hI hG) (h F w hG)

theorem len_g (hI : I.Ty) (hG : I.Trees3) {s : BT E} (hs : I.Rep σ.look s) : I.GS t p s.ref n n σ I.gLen [pa t 0] eInt fun x σ' => x = (s.size : Int) ∧ Tch σ σ' No 1 0 := by
  refine GS.of hI (hG.len t) (fun B => ?_)
  unfold lenT
  refine GT.root hI closed_nil ?_
  refine GT.call closed_nil (get_g hI hG.base.base hs) ?_
  rintro x σ1 ⟨rfl, h1⟩
  exact GT.ret (H := eInt) (s.size : Int) (by rw [ndOf_size]; rfl) ⟨rfl, h1⟩

theorem visits_g (hI : I.Ty) (hG : I.Trees3) : I.GS t p r0 n n σ I.gVisits [pa t 0] eInt fun x σ' => x = σ.visits ∧ σ' = σ := by
  refine GS.of hI (hG.visits t) (fun B => ?_)
  unfold visitsT
  intro F w hGA
  have hG0 := hGA
  obtain ⟨Fp, rfl, h1, ⟨h2, hx1, hx2, hx3⟩, h3⟩ := hGA
  refine TT_prim_ld (x := p.p) closed_nil hG0.lt (ld_one (cs := headC p.p r0) (.inr (.inl rfl)) h2 hI.aTP rfl) ?_
  refine TT_call (H := eInt) (F := Fp) (G := fun b => b = t ∨ p.G b) (X := fun x F1 w1 => x = σ.visits ∧ F1 = Fp ∧ PoolAt I.pool p.p σ F1 w1) closed_nil (fun b => Iff.rfl) hG0.lt (fun b hb => by
    rcases hb with rfl | hb
    · exact head_not hI h1 h2
    · exact hx2 b hb)
    (fun w' hk' _ => (visits_spec hI.pool hI.poolF (h1.keep fun b hb => hk' b (.inl hb))).mono fun v F1 w1 _ ⟨a, b, c⟩ => ⟨σ.visits, a, rfl, b, b ▸ c⟩) ?_
  rintro x F1 w1 ⟨rfl, rfl, g1⟩ hlt hnew hGk hsz
  refine ⟨by rw [lam_cut_nil]; exact lam_none_ok, ?_⟩
  rw [lam_cut_nil]
  refine GT.ret (Q := fun x σ' => x = σ.visits ∧ σ' = σ) (H := eInt) (I := I) (t := t) (p := p) (r0 := r0) (n := n) (Γ := []) σ.visits rfl ⟨rfl, rfl⟩ _ w1 ⟨F1, rfl, g1, ⟨by rw [hGk t (.inl rfl)]; exact h2, hx1, hx2, p.stab w w1 (fun b hb => hGk b (.inr hb)) hx3⟩, h3⟩

theorem loop_closed {B : Nat} {L : Type} {emb : L → List SV} {Inv : L → Pool (Nd E A) → Prop} {μ : L → Nat} {l : L} : ClosedΓ B [fun vals S2 w2 => ∃ l', vals = emb l' ∧ (∃ σ2, I.GAt t p r0 σ2 n S2 w2 ∧ Inv l' σ2) ∧ μ l' < μ l] := by
  intro A hA vals S w w' h ha
  simp only [List.mem_singleton] at hA
  subst hA
  obtain ⟨l', h1, ⟨σ2, h2, h3⟩, h4⟩ := h
  exact ⟨l', h1, ⟨σ2, h2.keep fun b hb => ha.block b (.inr hb), h3⟩, h4⟩
/-- A loop that goes down a tree. -/
theorem GT.loop {B : Nat} {H : Enc} {Q : H.T → Pool (Nd E A) → Prop} {L : Type} {emb : L → List SV} {body : L → Tree} {init : List SV} (Inv : L → Pool (Nd E A) → Prop) (μ : L → Nat) (l0 : L) (hi : init = emb l0) (h0 : Inv l0 σ)
    (hb : ∀ Γ l σ1, Inv l σ1 → ClosedΓ B Γ → (∀ l' σ2 vals, vals = emb l' → Inv l' σ2 → μ l' < μ l → I.GT t p r0 n n' B Γ H Q (.again 0 vals) σ2) → I.GT t p r0 n n' B Γ H Q (body l) σ1) : I.GT t p r0 n n' B [] H Q (.loop init L emb body) σ := fun F w hG => by
  refine ⟨fun l S w => ∃ σ2, I.GAt t p r0 σ2 n S w ∧ Inv l σ2, fun l _ _ => μ l, ?_, ⟨l0, hi, σ, hG, h0⟩, ?_⟩
  · rintro l S w w' ⟨σ2, h1, h2⟩ ha
    exact ⟨⟨σ2, h1.keep fun b hb => ha.block b (.inr hb), h2⟩, rfl⟩
  · rintro l S1 w1 ⟨σ2, h1, h2⟩ _
    exact hb _ l σ2 h2 loop_closed (fun l' σ3 vals hv hi hm F w hG => ⟨_, rfl, l', hv, ⟨σ3, hG, hi⟩, hm⟩) S1 w1 h1
def optE (I : GI E A) (x : Option E) : E × Bool := match x with
  | some e => (e, true)
  | none => (I.zE, false)

theorem Find_g (hI : I.Ty) (hG : I.TreesQ) (e : E) {s : BT E} (hs : I.Rep σ.look s) : I.GS t p s.ref n n σ I.gFind [pa t 0, I.tE.val e] (eEB I) fun (x : E × Bool) σ' => x = optE I (s.find I.cmp e) ∧ Tch σ σ' No s.height 0 := by
  refine GS.ok fun hO hv hn => GS.of hI (hG.Find t e) (fun B => ?_)
  unfold findT
  refine GT.root hI closed_nil ?_
  refine GT.loop (fun s' σ' => I.Rep σ'.look s' ∧ s'.find I.cmp e = s.find I.cmp e ∧ ∃ k, k + s'.height ≤ s.height ∧ Tch σ σ' No k 0) BT.size s rfl ⟨hs, rfl, 0, by omega, Tch.refl hv _ _⟩ ?_
  rintro Γ s' σ1 ⟨k1, k2, k, k3, k4⟩ hcl hag
  refine GT.ite (fun hb => ?_) (fun hb => ?_)
  · have hb : ¬ s'.ref.gen = 0 := by simpa using hb
    cases s' with
    | nil => exact absurd rfl hb
    | node r l f h =>
    refine GT.call hcl (get_g hI hG.base.base.base k1) ?_
    rintro x σ2 ⟨rfl, h2⟩
    have h12 := (k4.trans h2).no2
    have hr2 := h2.rep k1 No.rep
    simp only [BT.height] at k3
    refine GT.ite (fun hb => ?_) (fun hb => ?_)
    · have hc : I.cmp e f = 0 := eq_of_beq hb
      refine GT.ret (H := eEB I) (f, true) rfl ⟨?_, h12.mono (fun _ h => h) (by omega) (by omega)⟩
      rw [← k2, BT.find, if_pos hc]; rfl
    · have hc : ¬ I.cmp e f = 0 := fun hh => by rw [show (I.cmp e (I.ndOf (BT.node r l f h)).e == 0) = true from beq_iff_eq.2 hh] at hb; cases hb
      refine GT.ite (fun hb2 => ?_) (fun hb2 => ?_)
      · have hc2 : I.cmp e f < 0 := of_decide_eq_true hb2
        exact hag (l) _ _ rfl ⟨hr2.2.2.1, by rw [← k2, BT.find, if_neg hc, if_pos hc2], k + 1, by omega, h12⟩ (by simp only [BT.size]; omega)
      · have hc2 : ¬ I.cmp e f < 0 := of_decide_eq_false hb2
        exact hag (h) _ _ rfl ⟨hr2.2.2.2, by rw [← k2, BT.find, if_neg hc, if_neg hc2], k + 1, by omega, h12⟩ (by simp only [BT.size]; omega)
  · have hb : s'.ref.gen = 0 := by simpa using hb
    obtain rfl := (Rep.ref_gen I k1).1 hb
    refine GT.ret (H := eEB I) (I.zE, false) rfl ⟨?_, k4.mono (fun _ h => h) (by omega) rfl⟩
    rw [← k2]; rfl

theorem Rank_g (hI : I.Ty) (hG : I.TreesQ) (e : E) {s : BT E} (hs : I.Rep σ.look s) (hsz : s.size < 144115188075855872) : I.GS t p s.ref n n σ I.gRank [pa t 0, I.tE.val e] eInt fun x σ' => x = (s.rank I.cmp e : Int) ∧ Tch σ σ' No (2 * s.height) 0 := by
  refine GS.ok fun hO hv hn => GS.of hI (hG.Rank t e) (fun B => ?_)
  unfold rankT
  refine GT.root hI closed_nil ?_
  refine GT.loop (fun x σ' => I.Rep σ'.look x.2 ∧ 0 ≤ x.1 ∧ x.1 + (x.2.size : Int) ≤ s.size ∧ x.1 + (x.2.rank I.cmp e : Int) = s.rank I.cmp e ∧ ∃ k, k + 2 * x.2.height ≤ 2 * s.height ∧ Tch σ σ' No k 0) (fun x => x.2.size) ((0 : Int), s) rfl ⟨hs, by simp, by simp, by simp, 0, by simp, Tch.refl hv _ _⟩ ?_
  rintro Γ ⟨i, s'⟩ σ1 ⟨k1, k0, k5, k2, k, k3, k4⟩ hcl hag
  simp only at k1 k0 k5 k2 k3 hag
  refine GT.ite (fun hb => ?_) (fun hb => ?_)
  · have hb : ¬ s'.ref.gen = 0 := by simpa using hb
    cases s' with
    | nil => exact absurd rfl hb
    | node r l f h =>
    refine GT.call hcl (get_g hI hG.base.base.base k1) ?_
    rintro x σ2 ⟨rfl, h2⟩
    have h12 := (k4.trans h2).no2
    have hr2 := h2.rep k1 No.rep
    simp only [BT.height] at k3
    simp only [BT.size] at k5
    refine GT.ite (fun hb => ?_) (fun hb => ?_)
    · have hc : I.cmp e f ≤ 0 := of_decide_eq_true hb
      exact hag (i, l) _ _ rfl ⟨hr2.2.2.1, k0, by simp only; omega, by rw [← k2, BT.rank, if_pos hc], k + 1, by simp only; omega, h12⟩ (by simp only [BT.size]; omega)
    · have hc : ¬ I.cmp e f ≤ 0 := of_decide_eq_false hb
      refine GT.call hcl (weight_g hI hG.base.base.base (s := l) hr2.2.2.1 (by omega)) ?_
      rintro x σ3 ⟨rfl, h3⟩
      have h13 := (h12.trans h3).no2
      have hw : l.w = l.size + 1 := rfl
      have hwr : wr (i + (l.w : Int)) = i + (l.w : Int) := wr_id (by omega) (by omega)
      rw [hwr]
      exact hag (i + (l.w : Int), h) _ _ rfl ⟨h3.rep hr2.2.2.2 No.rep, by simp only; omega, by simp only; omega, by rw [← k2, BT.rank, if_neg hc]; simp only; omega, k + 2, by simp only; omega, h13⟩ (by simp only [BT.size]; omega)
  · have hb : s'.ref.gen = 0 := by simpa using hb
    obtain rfl := (Rep.ref_gen I k1).1 hb
    refine GT.ret (H := eInt) i rfl ⟨?_, k4.mono (fun _ h => h) (by omega) rfl⟩
    have : i = (BT.rank I.cmp e s : Int) := by simpa [BT.rank] using k2
    exact this
end GI
end Go.Sx

set_option linter.unusedVariables false
set_option linter.unusedSimpArgs false
set_option maxHeartbeats 2000000
namespace Go.Sx
open Go.RowKit

theorem ld_max {P : Program} {S : BS} {w : World} {ts : Array TypeId} {t : TypeId} {x y : Int} : Ld P S w (Builtin.max_ ts t #[iV x, iV y]) (iV (max x y)) := fun w' _ => by
  unfold iV
  rw [run_max_int2]
  congr 2
  split <;> omega
theorem ld_min {P : Program} {S : BS} {w : World} {ts : Array TypeId} {t : TypeId} {x y : Int} : Ld P S w (Builtin.min_ ts t #[iV x, iV y]) (iV (min x y)) := fun w' _ => by
  unfold iV
  rw [run_min_int2]
  congr 2
  split <;> omega

namespace GI
variable {E A : Type} {I : GI E A} {t q : Nat} {p : Px} {r0 : Rf} {σ σ' σ2 : Pool (Nd E A)} {n n1 n' : Nat} {F : BS} {w w1 : World}

/-! ### Sums side by side, and the first place of which something holds -/
def btw (I : GI E A) : BT E → Int → Int → A
  | .nil, _, _ => I.zA
  | .node r l e h, i, j =>
    if i ≥ j ∨ i ≥ ((BT.node r l e h).size : Int) ∨ j ≤ 0 then I.zA
    else if i ≤ 0 ∧ j ≥ ((BT.node r l e h).size : Int) then I.bsum (.node r l e h)
    else I.plus (if i ≤ (l.size : Int) ∧ j > (l.size : Int) then I.plus (btw I l i j) (I.sum e) else btw I l i j) (btw I h (i - l.size - 1) (j - l.size - 1))
def btwC : BT E → Int → Int → Nat
  | .nil, _, _ => 1
  | .node r l e h, i, j =>
    if i ≥ j ∨ i ≥ ((BT.node r l e h).size : Int) ∨ j ≤ 0 then 1
    else if i ≤ 0 ∧ j ≥ ((BT.node r l e h).size : Int) then 1
    else 2 + btwC l i j + btwC h (i - l.size - 1) (j - l.size - 1)
def fst (I : GI E A) (may : A → A → Bool) : BT E → Int → A → Int × A
  | .nil, _, a => (-1, I.plus a I.zA)
  | .node r l e h, i, a =>
    if i ≥ ((BT.node r l e h).size : Int) ∨ i ≤ 0 ∧ may a (I.bsum (.node r l e h)) = false then (-1, I.plus a (I.bsum (.node r l e h)))
    else
      let x := fst I may l i a
      if x.1 ≥ 0 then x
      else if i ≤ (l.size : Int) ∧ may x.2 (I.sum e) = true then ((l.size : Int), x.2)
      else
        let y := fst I may h (i - l.size - 1) (I.plus x.2 (I.sum e))
        if y.1 ≥ 0 then (y.1 + (l.size + 1), y.2) else y
def fstC (I : GI E A) (may : A → A → Bool) : BT E → Int → A → Nat
  | .nil, _, a => 1
  | .node r l e h, i, a =>
    if i ≥ ((BT.node r l e h).size : Int) ∨ i ≤ 0 ∧ may a (I.bsum (.node r l e h)) = false then 1
    else
      let x := fst I may l i a
      if x.1 ≥ 0 then 2 + fstC I may l i a
      else if i ≤ (l.size : Int) ∧ may x.2 (I.sum e) = true then 2 + fstC I may l i a
      else 2 + fstC I may l i a + fstC I may h (i - l.size - 1) (I.plus x.2 (I.sum e))

structure Trees4 (I : GI E A) : Prop where
  base : I.Trees3
  between : ∀ t r i j, FnT I.cfg I.gbetween [pa t 0, ar r, iV i, iV j] (I.betweenT t r i j)
  Between : ∀ t i j, FnT I.cfg I.gBetween [pa t 0, iV i, iV j] (I.BetweenT t i j)
structure TreesN (I : GI E A) : Prop where
  new : ∀ n, FnT I.cfg I.gNew [iV n] (I.NewT n)
  pnew : ∀ n, FnT I.cfg I.fNew [iV n] (I.poolNewT n)
structure TreesF (I : GI E A) (fid : FuncId) (cap : List Value) : Prop where
  first : ∀ t r i a, FnT I.cfg I.gfirst [pa t 0, ar r, iV i, I.tA.val a, .func (.func fid) #[] cap.toArray] (I.firstT t r i a fid cap)
  First : ∀ t i, FnT I.cfg I.gFirst [pa t 0, iV i, .func (.func fid) #[] cap.toArray] (I.FirstT t i fid cap)
structure TreesH (I : GI E A) : Prop where
  height : ∀ t r, FnT I.cfg I.gheight [pa t 0, ar r] (I.heightT t r)
  Height : ∀ t, FnT I.cfg I.gHeight [pa t 0] (I.HeightT t)

theorem GT.loadS {B d : Nat} {Γ : List Again} {H : Enc} {Q : H.T → Pool (Nd E A) → Prop} {m : Sem Value} {H1 : Enc} {k : H1.T → Tree} {x : H1.T} (hl : ∀ S w, Ld I.P S w m (H1.enc x)) (h : ∀ F w, I.GAt t p r0 σ n F w → TT I.P B (fun v F1 w1 => ∃ x, v = H.enc x ∧ ∃ σ', I.GAt t p r0 σ' n' F1 w1 ∧ Q x σ') (k x) Γ (Lam.none.add d m (H1.enc x)) F w) :
    I.GT t p r0 n n' B Γ H Q (.loadS d m H1 k) σ := fun F w hG => TT_loadS_ld (hl F w) (h F w hG)
theorem GT.prim {B : Nat} {Γ : List Again} {H : Enc} {Q : H.T → Pool (Nd E A) → Prop} {m : Sem Value} {H1 : Enc} {k : H1.T → Tree} {x : H1.T} (hΓ : ClosedΓ B Γ) (hl : ∀ S w, Ld I.P S w m (H1.enc x)) (h : I.GT t p r0 n n' B Γ H Q (k x) σ) :
    I.GT t p r0 n n' B Γ H Q (.prim m [] H1 k) σ := fun F w hG => TT_prim_ld hΓ hG.lt (hl F w) (h F w hG)

theorem GT.loadI {B d : Nat} {Γ : List Again} {H : Enc} {Q : H.T → Pool (Nd E A) → Prop} {m : Sem Value} {k : Int → Tree} {x : Int} (hl : ∀ S w, Ld I.P S w m (iV x)) (h : I.GT t p r0 n n' B Γ H Q (k x) σ) :
    I.GT t p r0 n n' B Γ H Q (.loadS d m eInt fun x => .endS (k x)) σ := fun F w hG => TT_loadS_ld (x := x) (hl F w) (h F w hG)
theorem GT.callI {B : Nat} {Γ : List Again} {H : Enc} {Q : H.T → Pool (Nd E A) → Prop} {f : FuncId} {args : List Value} {keep : List Nat} {Q1 : Int → Pool (Nd E A) → Prop} {k : Int → Tree} (hΓ : ClosedΓ B Γ) (hs : I.GS t p r0 n n1 σ f args eInt Q1) (hk : ∀ (x : Int) σ', Q1 x σ' → I.GT t p r0 n1 n' B Γ H Q (k x) σ') :
    I.GT t p r0 n n' B Γ H Q (.call f args.toArray keep eInt k) σ := GT.call hΓ hs hk
theorem GT.callA {B : Nat} {Γ : List Again} {H : Enc} {Q : H.T → Pool (Nd E A) → Prop} {f : FuncId} {args : List Value} {keep : List Nat} {Q1 : A → Pool (Nd E A) → Prop} {k : A → Tree} (hΓ : ClosedΓ B Γ) (hs : I.GS t p r0 n n1 σ f args I.eA Q1) (hk : ∀ (x : A) σ', Q1 x σ' → I.GT t p r0 n1 n' B Γ H Q (k x) σ') :
    I.GT t p r0 n n' B Γ H Q (.call f args.toArray keep I.eA k) σ := GT.call hΓ hs hk
theorem GT.callN {B : Nat} {Γ : List Again} {H : Enc} {Q : H.T → Pool (Nd E A) → Prop} {f : FuncId} {args : List Value} {keep : List Nat} {Q1 : Nd E A → Pool (Nd E A) → Prop} {k : Nd E A → Tree} (hΓ : ClosedΓ B Γ) (hs : I.GS t p r0 n n1 σ f args I.eNd Q1) (hk : ∀ (x : Nd E A) σ', Q1 x σ' → I.GT t p r0 n1 n' B Γ H Q (k x) σ') :
    I.GT t p r0 n n' B Γ H Q (.call f args.toArray keep I.eNd k) σ := GT.call hΓ hs hk
theorem GT.callIA {B : Nat} {Γ : List Again} {H : Enc} {Q : H.T → Pool (Nd E A) → Prop} {f : FuncId} {args : List Value} {keep : List Nat} {Q1 : Int × A → Pool (Nd E A) → Prop} {k : Int × A → Tree} (hΓ : ClosedΓ B Γ) (hs : I.GS t p r0 n n1 σ f args (eTup2 eInt I.eA) Q1) (hk : ∀ (x : Int × A) σ', Q1 x σ' → I.GT t p r0 n1 n' B Γ H Q (k x) σ') :
    I.GT t p r0 n n' B Γ H Q (.call f args.toArray keep (eTup2 eInt I.eA) k) σ := GT.call hΓ hs hk
theorem GT.callB {B : Nat} {Γ : List Again} {H : Enc} {Q : H.T → Pool (Nd E A) → Prop} {f : FuncId} {args : List Value} {keep : List Nat} {Q1 : Bool → Pool (Nd E A) → Prop} {k : Bool → Tree} (hΓ : ClosedΓ B Γ) (hs : I.GS t p r0 n n1 σ f args eBool Q1) (hk : ∀ (x : Bool) σ', Q1 x σ' → I.GT t p r0 n1 n' B Γ H Q (k x) σ') :
    I.GT t p r0 n n' B Γ H Q (.call f args.toArray keep eBool k) σ := GT.call hΓ hs hk

theorem height_g (hI : I.Ty) (hG : I.Trees3) (hH : I.TreesH) : ∀ {s : BT E} {σ : Pool (Nd E A)}, I.Rep σ.look s → s.size < 144115188075855872 → I.GS t p r0 n n σ I.gheight [pa t 0, ar s.ref] eInt fun x σ' => x = (s.height : Int) ∧ Tch σ σ' No s.size 0 := by
  intro s
  induction s with
  | nil =>
    intro σ hs _
    refine GS.ok fun hO hv hn => GS.of hI (hH.height t _) (fun B => ?_)
    unfold heightT
    refine GT.ite (fun _ => ?_) (fun hb => absurd hb (by simp [BT.ref]))
    exact GT.ret (H := eInt) (0 : Int) rfl ⟨rfl, Tch.refl hv _ _⟩
  | node r l e h ihl ihh =>
    intro σ hs hsz
    have hh : ∀ s : BT E, s.height ≤ s.size := fun s => by
      induction s with
      | nil => exact Nat.le_refl _
      | node r l e h i1 i2 => simp only [BT.height, BT.size]; omega
    refine GS.of hI (hH.height t _) (fun B => ?_)
    unfold heightT
    have hl' := hh l
    have hh' := hh h
    simp only [BT.size] at hsz
    refine GT.ite (fun hb => absurd hb (by simp [BT.ref, hs.2.1])) (fun _ => ?_)
    refine GT.call closed_nil (get_g hI hG.base.base hs) ?_
    rintro x σ1 ⟨rfl, h1⟩
    obtain ⟨k1, k2, k3, k4⟩ := h1.rep hs No.rep
    refine GT.callI closed_nil (ihl k3 (by omega)) ?_
    rintro x σ2 ⟨rfl, h2⟩
    refine GT.callI closed_nil (ihh (h2.rep k4 No.rep) (by omega)) ?_
    rintro x σ3 ⟨rfl, h3⟩
    refine GT.loadI (x := max (l.height : Int) (h.height : Int)) (fun S w => ld_max) ?_
    have hw : wr (1 + max (l.height : Int) (h.height : Int)) = ((BT.node r l e h).height : Int) := by
      rw [wr_id (by omega) (by omega)]; simp only [BT.height]; omega
    exact GT.ret (H := eInt) ((BT.node r l e h).height : Int) (by rw [hw]; rfl) ⟨rfl, ((h1.trans h2).no2.trans h3).no2.mono (fun _ h => h) (by simp only [BT.size]; omega) rfl⟩

theorem Height_g (hI : I.Ty) (hG : I.Trees3) (hH : I.TreesH) {s : BT E} (hs : I.Rep σ.look s) (hsz : s.size < 144115188075855872) : I.GS t p s.ref n n σ I.gHeight [pa t 0] eInt fun x σ' => x = (s.height : Int) ∧ Tch σ σ' No s.size 0 := by
  refine GS.of hI (hH.Height t) (fun B => ?_)
  unfold HeightT
  refine GT.root hI closed_nil ?_
  refine GT.call closed_nil (height_g hI hG hH hs hsz) ?_
  rintro x σ1 ⟨rfl, h1⟩
  exact GT.ret (H := eInt) (s.height : Int) rfl ⟨rfl, h1⟩

theorem between_g (hI : I.Ty) (hG : I.Trees4) : ∀ {s : BT E} {σ : Pool (Nd E A)} {i j : Int}, I.Rep σ.look s → -1152921504606846976 < i - s.size → i + s.size < 1152921504606846976 → -1152921504606846976 < j - s.size → j + s.size < 1152921504606846976 →
    I.GS t p r0 n n σ I.gbetween [pa t 0, ar s.ref, iV i, iV j] I.eA fun (x : A) σ' => x = btw I s i j ∧ Tch σ σ' No (btwC s i j) 0 := by
  intro s
  induction s with
  | nil =>
    intro σ i j hs _ _ _ _
    refine GS.of hI (hG.between t _ _ _) (fun B => ?_)
    unfold betweenT
    refine GT.callN closed_nil (get_g hI hG.base.base.base (s := .nil) hs) ?_
    rintro x σ1 ⟨rfl, h1⟩
    have hz : I.GT t p r0 n n B [] I.eA (fun (x : A) σ' => x = btw I .nil i j ∧ Tch σ σ' No (btwC (.nil : BT E) i j) 0) I.zR σ1 := GT.ret (H := I.eA) I.zA rfl ⟨rfl, h1⟩
    refine GT.ite (fun _ => hz) (fun _ => GT.ite (fun _ => hz) (fun _ => GT.ite (fun _ => hz) (fun _ => GT.ite (fun _ => hz) (fun hb => absurd hb (by simp [ndOf, zN])))))
  | node r l e h ihl ihh =>
    intro σ i j hs b1 b2 b3 b4
    refine GS.of hI (hG.between t _ _ _) (fun B => ?_)
    unfold betweenT
    refine GT.callN closed_nil (get_g hI hG.base.base.base hs) ?_
    rintro x σ1 ⟨rfl, h1⟩
    obtain ⟨k1, k2, k3, k4⟩ := h1.rep hs No.rep
    have hsz : (I.ndOf (.node r l e h)).size = ((BT.node r l e h).size : Int) := ndOf_size I _
    have hsz2 : (BT.node r l e h).size = l.size + 1 + h.size := rfl
    rw [hsz]
    rw [hsz2] at b1 b2 b3 b4
    have hz : (i ≥ j ∨ i ≥ ((BT.node r l e h).size : Int) ∨ j ≤ 0) → I.GT t p r0 n n B [] I.eA (fun (x : A) σ' => x = btw I (.node r l e h) i j ∧ Tch σ σ' No (btwC (.node r l e h) i j) 0) I.zR σ1 := fun hc =>
      GT.ret (H := I.eA) I.zA rfl ⟨by rw [btw, if_pos hc], h1.mono (fun _ h => h) (by rw [btwC, if_pos hc]; exact Nat.le_refl _) rfl⟩
    refine GT.ite (fun hb => hz (.inl (of_decide_eq_true hb))) (fun hb => ?_)
    have c1 := of_decide_eq_false hb
    refine GT.ite (fun hb => hz (.inr (.inl (of_decide_eq_true hb)))) (fun hb => ?_)
    have c2 := of_decide_eq_false hb
    refine GT.ite (fun hb => hz (.inr (.inr (of_decide_eq_true hb)))) (fun hb => ?_)
    have c3 := of_decide_eq_false hb
    have c0 : ¬ (i ≥ j ∨ i ≥ ((BT.node r l e h).size : Int) ∨ j ≤ 0) := by rintro (h | h | h); exact c1 h; exact c2 h; exact c3 h
    refine GT.ite (fun hb => absurd hb (by simp [BT.size]; omega)) (fun _ => ?_)
    have hrest : ¬ (i ≤ 0 ∧ j ≥ ((BT.node r l e h).size : Int)) → I.GT t p r0 n n B [] I.eA (fun (x : A) σ' => x = btw I (.node r l e h) i j ∧ Tch σ σ' No (btwC (.node r l e h) i j) 0) (I.betweenR t (I.ndOf (.node r l e h)) i j) σ1 := by
      intro c4
      unfold betweenR
      refine GT.callN closed_nil (get_g hI hG.base.base.base (s := l) k3) ?_
      rintro x σ2 ⟨rfl, h2⟩
      refine GT.callA closed_nil (ihl (h2.rep k3 No.rep) (by omega) (by omega) (by omega) (by omega)) ?_
      rintro x σ3 ⟨rfl, h3⟩
      have hls : (I.ndOf l).size = (l.size : Int) := ndOf_size I _
      rw [hls]
      have h23 := (h2.trans h3).no2
      have w1 : wr (wr (i - (l.size : Int)) - 1) = i - l.size - 1 := by rw [wr_id (n := i - l.size) (by omega) (by omega), wr_id (by omega) (by omega)]
      have w2 : wr (wr (j - (l.size : Int)) - 1) = j - l.size - 1 := by rw [wr_id (n := j - l.size) (by omega) (by omega), wr_id (by omega) (by omega)]
      have hE : ∀ s : A, s = (if i ≤ (l.size : Int) ∧ j > (l.size : Int) then I.plus (btw I l i j) (I.sum e) else btw I l i j) → I.GT t p r0 n n B [] I.eA (fun (x : A) σ' => x = btw I (.node r l e h) i j ∧ Tch σ σ' No (btwC (.node r l e h) i j) 0) (I.betweenE t (I.ndOf (.node r l e h)) (I.ndOf l) i j s) σ3 := by
        intro s hs
        unfold betweenE
        rw [hls, w1, w2]
        refine GT.callA closed_nil (ihh (i := i - l.size - 1) (j := j - l.size - 1) (h23.rep k4 No.rep) (by omega) (by omega) (by omega) (by omega)) ?_
        rintro x σ4 ⟨rfl, h4⟩
        refine GT.endS (GT.ret (H := I.eA) _ rfl ⟨?_, ((h1.trans h23).no2.trans h4).no2.mono (fun _ h => h) (by rw [btwC, if_neg c0, if_neg c4]; omega) rfl⟩)
        rw [btw, if_neg c0, if_neg c4, hs]
      refine GT.ite (fun hb => GT.ite (fun hb2 => GT.endS (hE _ ?_)) (fun hb2 => hE _ ?_)) (fun hb => hE _ ?_)
      · rw [if_pos ⟨of_decide_eq_true hb, of_decide_eq_true hb2⟩]; rfl
      · rw [if_neg fun h => of_decide_eq_false hb2 h.2]
      · rw [if_neg fun h => of_decide_eq_false hb h.1]
    refine GT.ite (fun hb => GT.ite (fun hb2 => ?_) (fun hb2 => hrest fun h => of_decide_eq_false hb2 h.2)) (fun hb => hrest fun h => of_decide_eq_false hb h.1)
    have c4 : i ≤ 0 ∧ j ≥ ((BT.node r l e h).size : Int) := ⟨of_decide_eq_true hb, of_decide_eq_true hb2⟩
    exact GT.ret (H := I.eA) (I.ndOf (.node r l e h)).sum rfl ⟨by rw [btw, if_neg c0, if_pos c4]; rfl, h1.mono (fun _ h => h) (by rw [btwC, if_neg c0, if_pos c4]; exact Nat.le_refl _) rfl⟩
end GI
end Go.Sx

set_option linter.unusedVariables false
set_option linter.unusedSimpArgs false
set_option maxHeartbeats 2000000
namespace Go.Sx
open Go.RowKit
namespace GI
variable {E A : Type} {I : GI E A} {t q : Nat} {p : Px} {r0 : Rf} {σ σ' σ2 : Pool (Nd E A)} {n n1 n' : Nat} {F : BS} {w w1 : World}

theorem GT.primI {B : Nat} {Γ : List Again} {H : Enc} {Q : H.T → Pool (Nd E A) → Prop} {m : Sem Value} {k : Int → Tree} {x : Int} (hΓ : ClosedΓ B Γ) (hl : ∀ S w, Ld I.P S w m (iV x)) (h : I.GT t p r0 n n' B Γ H Q (k x) σ) :
    I.GT t p r0 n n' B Γ H Q (.prim m [] eInt k) σ := fun F w hG => TT_prim_ld (x := x) hΓ hG.lt (hl F w) (h F w hG)

def clampI (i : Int) (n : Nat) : Int := min (max i 0) n
theorem clampI_le (i : Int) (n : Nat) : 0 ≤ clampI i n ∧ clampI i n ≤ n := by unfold clampI; omega

theorem Between_g (hI : I.Ty) (hG : I.Trees4) {i j : Int} {s : BT E} (hs : I.Rep σ.look s) (hsz : s.size < 144115188075855872) :
    I.GS t p s.ref n n σ I.gBetween [pa t 0, iV i, iV j] I.eA fun (x : A) σ' => x = btw I s (clampI i s.size) (clampI j s.size) ∧ Tch σ σ' No (1 + btwC s (clampI i s.size) (clampI j s.size)) 0 := by
  refine GS.of hI (hG.Between t _ _) (fun B => ?_)
  unfold BetweenT
  refine GT.callI closed_nil (len_g hI hG.base hs) ?_
  rintro x σ1 ⟨rfl, h1⟩
  refine GT.root hI closed_nil ?_
  refine GT.primI closed_nil (fun S w => ld_max) ?_
  refine GT.primI closed_nil (fun S w => ld_min) ?_
  refine GT.primI closed_nil (fun S w => ld_max) ?_
  refine GT.primI closed_nil (fun S w => ld_min) ?_
  have c1 := clampI_le i s.size
  have c2 := clampI_le j s.size
  refine GT.callA closed_nil (between_g hI hG (i := clampI i s.size) (j := clampI j s.size) (h1.rep hs No.rep) (by omega) (by omega) (by omega) (by omega)) ?_
  rintro x σ2 ⟨rfl, h2⟩
  exact GT.ret (H := I.eA) _ rfl ⟨rfl, (h1.trans h2).no2⟩

/-- What a question about sums comes to: it leaves all as it is. -/
def May (I : GI E A) (t : Nat) (p : Px) (n : Nat) (fid : FuncId) (cap : List Value) (may : A → A → Bool) : Prop :=
  ∀ r0 σ x y, I.GS t p r0 n n σ fid ([I.tA.val x, I.tA.val y] ++ cap) eBool fun (b : Bool) σ' => b = may x y ∧ σ' = σ

theorem fst_le (I : GI E A) (may : A → A → Bool) : ∀ (s : BT E) (i : Int) (a : A), -1 ≤ (fst I may s i a).1 ∧ (fst I may s i a).1 < (s.size : Int)
  | .nil, i, a => by simp [fst, BT.size]
  | .node r l e h, i, a => by
    have hl := fst_le I may l i a
    have hsz : ((BT.node r l e h).size : Int) = (l.size : Int) + 1 + (h.size : Int) := by simp only [BT.size]; omega
    unfold fst
    split
    · simp; omega
    · simp only
      split
      · omega
      · split
        · simp only; omega
        · have hh := fst_le I may h (i - l.size - 1) (I.plus (fst I may l i a).2 (I.sum e))
          split
          · simp only; omega
          · omega

theorem first_g (hI : I.Ty) (hG : I.Trees3) {fid : FuncId} {cap : List Value} {may : A → A → Bool} (hF : I.TreesF fid cap) (hM : I.May t p n fid cap may) : ∀ {s : BT E} {σ : Pool (Nd E A)} {i : Int} {a : A}, I.Rep σ.look s → -1152921504606846976 < i - s.size → i + s.size < 1152921504606846976 → s.size < 144115188075855872 →
    I.GS t p r0 n n σ I.gfirst [pa t 0, ar s.ref, iV i, I.tA.val a, .func (.func fid) #[] cap.toArray] (eTup2 eInt I.eA) fun (x : Int × A) σ' => x = fst I may s i a ∧ Tch σ σ' No (fstC I may s i a) 0 := by
  intro s
  induction s with
  | nil =>
    intro σ i a hs _ _ _
    refine GS.of hI (hF.first t _ _ _) (fun B => ?_)
    unfold firstT
    refine GT.callN closed_nil (get_g hI hG.base.base (s := .nil) hs) ?_
    rintro x σ1 ⟨rfl, h1⟩
    refine GT.ite (fun _ => ?_) (fun hb => absurd hb (by simp [ndOf, zN]))
    exact GT.ret (H := eTup2 eInt I.eA) ((-1 : Int), I.plus a I.zA) rfl ⟨rfl, h1⟩
  | node r l e h ihl ihh =>
    intro σ i a hs b1 b2 b5
    refine GS.of hI (hF.first t _ _ _) (fun B => ?_)
    unfold firstT
    refine GT.callN closed_nil (get_g hI hG.base.base hs) ?_
    rintro x σ1 ⟨rfl, h1⟩
    obtain ⟨k1, k2, k3, k4⟩ := h1.rep hs No.rep
    have hsz : (I.ndOf (.node r l e h)).size = ((BT.node r l e h).size : Int) := ndOf_size I _
    have hsz2 : (BT.node r l e h).size = l.size + 1 + h.size := rfl
    rw [hsz]
    rw [hsz2] at b1 b2 b5
    have hz : (i ≥ ((BT.node r l e h).size : Int) ∨ i ≤ 0 ∧ may a (I.bsum (.node r l e h)) = false) → I.GT t p r0 n n B [] (eTup2 eInt I.eA) (fun (x : Int × A) σ' => x = fst I may (.node r l e h) i a ∧ Tch σ σ' No (fstC I may (.node r l e h) i a) 0) (I.firstN (I.ndOf (.node r l e h)) a) σ1 := fun hc =>
      GT.ret (H := eTup2 eInt I.eA) ((-1 : Int), I.plus a (I.bsum (.node r l e h))) rfl ⟨by rw [fst, if_pos hc]; rfl, h1.mono (fun _ h => h) (by rw [fstC, if_pos hc]; exact Nat.le_refl _) rfl⟩
    refine GT.ite (fun hb => absurd hb (by simp [BT.size]; omega)) (fun _ => ?_)
    refine GT.ite (fun hb => hz (.inl (of_decide_eq_true hb))) (fun hb => ?_)
    have c2 := of_decide_eq_false hb
    have hrest : ¬ (i ≥ ((BT.node r l e h).size : Int) ∨ i ≤ 0 ∧ may a (I.bsum (.node r l e h)) = false) → I.GT t p r0 n n B [] (eTup2 eInt I.eA) (fun (x : Int × A) σ' => x = fst I may (.node r l e h) i a ∧ Tch σ σ' No (fstC I may (.node r l e h) i a) 0) (I.firstR t (I.ndOf (.node r l e h)) i a fid cap) σ1 := by
      intro c4
      unfold firstR
      refine GT.callN closed_nil (get_g hI hG.base.base (s := l) k3) ?_
      rintro x σ2 ⟨rfl, h2⟩
      unfold cF
      refine GT.callIA closed_nil (ihl (h2.rep k3 No.rep) (by omega) (by omega) (by omega)) ?_
      rintro x σ3 ⟨hx, h3⟩
      obtain rfl := hx.symm
      have hls : (I.ndOf l).size = (l.size : Int) := ndOf_size I _
      rw [hls]
      have h23 := (h2.trans h3).no2
      have h13 := (h1.trans h23).no2
      have hle := fst_le I may l i a
      have w1 : wr (wr (i - (l.size : Int)) - 1) = i - l.size - 1 := by rw [wr_id (n := i - l.size) (by omega) (by omega), wr_id (by omega) (by omega)]
      refine GT.ite (fun hb => ?_) (fun hb => ?_)
      · have d1 := of_decide_eq_true hb
        refine GT.endS (GT.ret (H := eTup2 eInt I.eA) ((fst I may l i a).1, (fst I may l i a).2) rfl ⟨?_, h13.mono (fun _ h => h) ?_ (by omega)⟩)
        · rw [fst, if_neg c4]; simp only; rw [if_pos d1]; try rfl
        · rw [fstC, if_neg c4]; simp only; rw [if_pos d1]; omega
      have d1 := of_decide_eq_false hb
      have hE : ¬ (i ≤ (l.size : Int) ∧ may (fst I may l i a).2 (I.sum e) = true) → I.GT t p r0 n n B [] (eTup2 eInt I.eA) (fun (x : Int × A) σ' => x = fst I may (.node r l e h) i a ∧ Tch σ σ' No (fstC I may (.node r l e h) i a) 0) (I.firstE t (I.ndOf (.node r l e h)) (I.ndOf l) i (fst I may l i a) fid cap) σ3 := by
        intro d2
        unfold firstE cF
        rw [hls, w1]
        refine GT.callIA closed_nil (ihh (i := i - l.size - 1) (a := I.plus (fst I may l i a).2 (I.sum e)) (h23.rep k4 No.rep) (by omega) (by omega) (by omega)) ?_
        rintro y σ4 ⟨hy, h4⟩
        obtain rfl := hy.symm
        have hle2 := fst_le I may h (i - l.size - 1) (I.plus (fst I may l i a).2 (I.sum e))
        have h14 := (h13.trans h4).no2
        have hC : 1 + (1 + fstC I may l i a) + fstC I may h (i - l.size - 1) (I.plus (fst I may l i a).2 (I.sum e)) ≤ fstC I may (.node r l e h) i a := by
          rw [fstC, if_neg c4]; simp only; rw [if_neg d1, if_neg d2]; omega
        refine GT.endS (GT.ite (fun hb => ?_) (fun hb => ?_))
        · have d3 := of_decide_eq_true hb
          have w2 : wr ((l.size : Int) + 1) = l.size + 1 := wr_id (by omega) (by omega)
          have w3 : wr ((fst I may h (i - l.size - 1) (I.plus (fst I may l i a).2 (I.sum e))).1 + (l.size + 1)) = (fst I may h (i - l.size - 1) (I.plus (fst I may l i a).2 (I.sum e))).1 + (l.size + 1) := wr_id (by omega) (by omega)
          rw [w2, w3]
          refine GT.endS (GT.ret (H := eTup2 eInt I.eA) (_, _) rfl ⟨?_, h14.mono (fun _ h => h) hC rfl⟩)
          rw [fst, if_neg c4]; simp only; rw [if_neg d1, if_neg d2, if_pos d3]; try rfl
        · have d3 := of_decide_eq_false hb
          refine GT.endS (GT.ret (H := eTup2 eInt I.eA) (_, _) rfl ⟨?_, h14.mono (fun _ h => h) hC rfl⟩)
          rw [fst, if_neg c4]; simp only; rw [if_neg d1, if_neg d2, if_neg d3]; try rfl
      refine GT.ite (fun hb => ?_) (fun hb => hE fun h => of_decide_eq_false hb h.1)
      have d2 := of_decide_eq_true hb
      unfold cM
      refine GT.callB closed_nil (hM r0 σ3 (fst I may l i a).2 (I.sum e)) ?_
      rintro b σ4 ⟨hb, hσ⟩
      obtain rfl := hσ.symm
      refine GT.ite (fun hb2 => ?_) (fun hb2 => hE fun h => by rw [hb] at hb2; rw [hb2] at h; exact absurd h.2 (by simp))
      have d3 : may (fst I may l i a).2 (I.sum e) = true := by rw [← hb]; exact hb2
      refine GT.endS (GT.ret (H := eTup2 eInt I.eA) ((l.size : Int), (fst I may l i a).2) rfl ⟨?_, h13.mono (fun _ h => h) ?_ (by omega)⟩)
      · rw [fst, if_neg c4]; simp only; rw [if_neg d1, if_pos ⟨d2, d3⟩]; try rfl
      · rw [fstC, if_neg c4]; simp only; rw [if_neg d1, if_pos ⟨d2, d3⟩]; omega
    refine GT.ite (fun hb => ?_) (fun hb => hrest fun h => h.elim c2 fun h => of_decide_eq_false hb h.1)
    have d0 := of_decide_eq_true hb
    unfold cM
    refine GT.callB closed_nil (hM r0 σ1 a (I.bsum (.node r l e h))) ?_
    rintro b σ4 ⟨hb, hσ⟩
    obtain rfl := hσ.symm
    refine GT.ite (fun hb2 => ?_) (fun hb2 => ?_)
    · exact hz (.inr ⟨d0, by rw [← hb]; simpa using hb2⟩)
    · exact hrest fun h => h.elim c2 fun h => by rw [hb] at hb2; simp at hb2; rw [hb2] at h; exact absurd h.2 (by simp)

theorem First_g (hI : I.Ty) (hG : I.Trees3) {fid : FuncId} {cap : List Value} {may : A → A → Bool} (hF : I.TreesF fid cap) (hM : I.May t p n fid cap may) {i : Int} {s : BT E} (hs : I.Rep σ.look s) (hsz : s.size < 144115188075855872) :
    I.GS t p s.ref n n σ I.gFirst [pa t 0, iV i, .func (.func fid) #[] cap.toArray] eInt fun (x : Int) σ' => x = (fst I may s (clampI i s.size) I.zA).1 ∧ Tch σ σ' No (1 + fstC I may s (clampI i s.size) I.zA) 0 := by
  intro F w hGA
  refine (hF.First t i).spec hI.pool.good.ok hI.pool.good.mix hGA.lt ?_
  unfold FirstT
  refine TT_loadS_ld (x := s.ref) (ld_root hI hGA) ?_
  refine TT_loadS_ld (H := eInt) (x := (show Int from max i 0)) ld_max ?_
  have c1 := clampI_le i s.size
  refine TT_call (H := eInt) (F := F) (G := fun _ => False) (X := fun (x : Int) F1 w1 => ∃ σ', I.GAt t p s.ref σ' n F1 w1 ∧ x = (s.size : Int) ∧ Tch σ σ' No 1 0) closed_nil (fun b => by simp) hGA.lt (fun b hb => hb.elim) (fun w' hk' _ => len_g hI hG hs F w' (hGA.keep hk')) ?_
  rintro x F1 w1 ⟨σ1, g1, rfl, h1⟩ hlt hnew hGk hsz1
  have hFe : (fun b => F1 b ∨ False) = F1 := by funext b; simp
  rw [hFe]
  refine ⟨fun d m v hΛ => ?_, ?_⟩
  · obtain ⟨hΛ, _⟩ := hΛ
    rcases hΛ with (hΛ | ⟨_, rfl, rfl⟩) | ⟨_, rfl, rfl⟩
    · exact hΛ.elim
    · exact (ld_root hI g1).stab _
    · exact Ld.stab (S := F1) (w := w1) ld_max _
  refine TT_loadS_ld (H := eInt) (x := clampI i s.size) ld_min ?_
  refine TT_call0 (H := eTup2 eInt I.eA) (X := fun (x : Int × A) F1 w1 => ∃ σ', I.GAt t p s.ref σ' n F1 w1 ∧ x = fst I may s (clampI i s.size) I.zA ∧ Tch σ1 σ' No (fstC I may s (clampI i s.size) I.zA) 0) closed_nil g1.lt (fun w' hk' _ => first_g hI hG hF hM (h1.rep hs No.rep) (by omega) (by omega) hsz F1 w' (g1.keep hk')) ?_
  rintro x F2 w2 ⟨σ2, g2, hx, h2⟩ hlt2 hnew2 hsz2
  obtain rfl := hx.symm
  intro w3 ha
  exact ⟨(fst I may s (clampI i s.size) I.zA).1, rfl, σ2, g2.keep fun b hb => ha.block b (.inr hb), rfl, (h1.trans h2).no2⟩
end GI
end Go.Sx

set_option linter.unusedVariables false
set_option linter.unusedSimpArgs false
set_option maxHeartbeats 2000000
namespace Go.Sx
open Go.RowKit

/-- A new block, as a step of a tree. -/
theorem TT_box {P : Program} {B : Nat} {R : Value → BS → World → Prop} {Γ : List Again} {Λ : Lam} {S : BS} {w : World} {ty : TypeId} {cs : List Value} {k : Nat → Tree} (hΓ : ClosedΓ B Γ) (hS : ∀ b, S b → b < w.heap.size)
    (hk : ∀ b w1, w1.heap[b]? = some (.cells cs.toArray ty (0, 0)) → ¬ S b → (∀ b', S b' → w1.heap[b']? = w.heap[b']?) → w.heap.size ≤ w1.heap.size → w.heap.size ≤ b → TT P B R (k b) Γ Lam.none (fun b' => b' = b ∨ S b') w1) :
    TT P B R (.prim (Instr.box ty (ag cs)) [] eBlk k) Γ Λ S w := by
  intro w' ha
  have hlt : ∀ b, S b → b < w'.heap.size := fun b hb => Nat.lt_of_lt_of_le (hS b hb) ha.size
  have hold : ∀ b, b < w'.heap.size → (w'.alloc (.cells cs.toArray ty)).heap[b]? = w'.heap[b]? := fun b hb => Below.heap_alloc w' _ b hb
  have hsz : (w'.alloc (.cells cs.toArray ty)).heap.size = w'.heap.size + 1 := World.size_alloc w' _
  refine ⟨w'.heap.size, fun b' => b' = w'.heap.size ∨ S b', w'.alloc (.cells cs.toArray ty), run_box_new ty (ag cs), ⟨⟨rfl, rfl, rfl, by rw [hsz]; exact Nat.le_succ _, fun b hb _ => hold b hb⟩, fun b hb => ?_, fun b hb => ?_⟩, ?_, ?_⟩
  · rcases hb with rfl | hb
    · exact .inr (Nat.le_refl _)
    · exact .inl hb
  · rw [hsz]
    rcases hb with rfl | hb
    · exact Nat.lt_succ_self _
    · exact Nat.lt_succ_of_lt (hlt b hb)
  · rw [lam_cut_nil]; exact lam_none_ok
  · rw [lam_cut_nil]
    exact hk _ _ (heap_new w' _) (fun h => Nat.lt_irrefl _ (hlt _ h)) (fun b' hb' => (hold b' (hlt b' hb')).trans (ha.block b' (.inr hb'))) (by rw [hsz]; exact Nat.le_succ_of_le ha.size) ha.size

namespace GI
variable {E A : Type} {I : GI E A}

def pool0 (E A : Type) (n : Int) : Pool (Nd E A) := ⟨[], [], clampI n 16777216, 0, 0⟩
theorem pool0_ok (n : Int) (k : Nat) : (pool0 E A n).Ok k := by
  have := clampI_le n 16777216
  exact ⟨Nat.zero_le _, fun i hi => (by cases hi), List.nodup_nil, fun c hc => (by cases hc), rfl, Nat.le_refl _, this.1, this.2, this.1⟩
theorem pool0_look (n : Int) (r : Rf) : (pool0 E A n).look r = none := by
  unfold Pool.look pool0; split <;> simp

theorem pnew_g (hI : I.Ty) (hG : I.TreesN) (n : Int) (w : World) : Spec I.P I.fNew [iV n] (fun _ => False) w fun v F1 w1 => ∃ x, v = eBlk.enc x ∧ PoolAt I.pool x (pool0 E A n) F1 w1 := by
  refine (hG.pnew n).spec hI.pool.good.ok hI.pool.good.mix (fun b hb => hb.elim) ?_
  unfold poolNewT
  refine TT_prim_ld (H := eInt) (x := (show Int from max n 0)) closed_nil (fun b hb => hb.elim) ld_max ?_
  refine TT_prim_ld (H := eInt) (x := clampI n 16777216) closed_nil (fun b hb => hb.elim) ld_min ?_
  refine TT_box closed_nil (fun b hb => hb.elim) fun b w1 h1 _ _ _ _ => ?_
  intro w2 ha
  refine ⟨b, rfl, ⟨none, 0, 0⟩, ⟨none, 0, 0⟩, ?_, ?_⟩
  · funext b'; unfold PoolF; simp [slV, Value.ownBlock]
  · have : PoolX I.pool b (pool0 E A n) ⟨none, 0, 0⟩ ⟨none, 0, 0⟩ w1 := ⟨h1, RowAt.nil _ _ _, RowAt.nil _ _ _⟩
    exact this.keep fun b' hb' => ha.block b' (.inr (by rcases hb' with h | h | h; exact .inl h; cases h; cases h))

theorem New_g (hI : I.Ty) (hG : I.TreesN) (n : Int) (k : Nat) (hk : k < 4294967296) (w : World) : Spec I.P I.gNew [iV n] (fun _ => False) w fun v F1 w1 => ∃ x p, v = eBlk.enc x ∧ I.GAt x (px p) ⟨0, 0⟩ (pool0 E A n) k F1 w1 := by
  refine (hG.new n).spec hI.pool.good.ok hI.pool.good.mix (fun b hb => hb.elim) ?_
  unfold NewT
  refine TT_call0 (H := eBlk) (X := fun (x : Nat) F1 w1 => PoolAt I.pool x (pool0 E A n) F1 w1) closed_nil (fun b hb => hb.elim) (fun w' hk' _ => pnew_g hI hG n w') ?_
  rintro x F1 w1 h1 hlt hnew hsz
  refine TT_box closed_nil hlt fun b w2 h2 hn hk2 _ _ => ?_
  intro w3 ha
  refine ⟨b, x, rfl, F1, ?_, (h1.keep hk2).keep fun b' hb' => ha.block b' (.inr (.inr hb')), ⟨by rw [ha.block b (.inr (.inl rfl))]; exact h2, id, fun _ h => h.elim, trivial⟩, pool0_ok n k, hk, wr_id (by simp [pool0]) (by simp [pool0])⟩
  funext b'
  simp [px]
  exact Or.comm
end GI
end Go.Sx

set_option linter.unusedVariables false
set_option linter.unusedSimpArgs false
set_option maxHeartbeats 2000000
namespace Go.Sx
open Go.RowKit

/-! ### Small functions: quiet ones -/
def Quiet (P : Program) (f : FuncId) (args : List Value) (v : Value) : Prop := callB P f = true ∧ ∀ w, Calls P f args.toArray w fun e w' => e = .returned v ∧ Below w.heap.size w w'
def none0 : BS := fun _ => False

theorem Quiet.of {c : Cfg} {f : FuncId} {args : List Value} {T : Tree} {v : Value} (hc : c.Ok) (hmix : c.P.follows .mixedOrders = true) (h : FnT c f args T) (ht : ∀ w, TT c.P w.heap.size (fun u _ _ => u = v) T [] Lam.none none0 w) : Quiet c.P f args v :=
  ⟨h.cb, fun w => (h.spec hc hmix (F := none0) (fun b hb => hb.elim) (ht w)).2.mono fun e w' ⟨u, F1, he, hs, hv⟩ => ⟨by rw [he, hv], ⟨hs.fr.os, hs.fr.tape, hs.fr.output, hs.fr.size, fun b hb => hs.fr.block b hb id⟩⟩⟩

theorem Quiet.spec {P : Program} {f : FuncId} {args : List Value} {v : Value} (h : Quiet P f args v) {F : BS} {w : World} (hF : ∀ b, F b → b < w.heap.size) : Spec P f args F w fun u F1 w1 => u = v ∧ F1 = F ∧ ∀ b, F b → w1.heap[b]? = w.heap[b]? :=
  ⟨h.1, (h.2 w).mono fun e w' ⟨he, hb⟩ => ⟨v, F, he, Step.of_below hF hb, rfl, rfl, fun b hb' => hb.block b (hF b hb')⟩⟩

section
variable {P : Program} {B : Nat} {R : Value → BS → World → Prop} {Γ : List Again} {Λ : Lam} {S : BS} {w : World}
/-- A quiet call in a tree. -/
theorem TT_quiet {f : FuncId} {args : List Value} {keep : List Nat} {H : Enc} {k : H.T → Tree} {x : H.T} (hq : Quiet P f args (H.enc x)) (hΓ : ClosedΓ B Γ) (hS : ∀ b, S b → b < w.heap.size)
    (hk : ∀ w1, (∀ b, S b → w1.heap[b]? = w.heap[b]?) → w.heap.size ≤ w1.heap.size → TT P B R (k x) Γ Lam.none S w1) : TT P B R (.call f args.toArray keep H k) Γ Lam.none S w := by
  refine TT_callN (X := fun y F1 w1 => y = x ∧ F1 = S ∧ ∀ b, S b → w1.heap[b]? = w.heap[b]?) hΓ hS (fun w' hk' hsz => (hq.spec fun b hb => Nat.lt_of_lt_of_le (hS b hb) hsz).mono fun v F1 w1 _ ⟨h1, h2, h3⟩ => ⟨x, h1, rfl, h2, fun b hb => (h3 b hb).trans (hk' b hb)⟩) ?_
  rintro y F1 w1 ⟨rfl, rfl, h3⟩ _ _ hsz
  exact hk w1 h3 hsz
end

/-! ### Tides -/
def Tide.plus (t u : Tide) : Tide := if t.n = 0 then u else if u.n = 0 then t else ⟨wr (t.n + u.n), wr (t.sum + u.sum), min t.low (wr (t.sum + u.low))⟩
def Tide.of (xs : List Int) : Tide := xs.foldl (fun t x => t.plus ⟨1, x, x⟩) ⟨0, 0, 0⟩
def eTide : Enc := eAg Tide tideC

structure TI where
  P : Program
  tI : TypeId
  tIS : TypeId
  tTide : TypeId
  fOf : FuncId
  fPlus : FuncId
namespace TI
variable (I : TI)
noncomputable def cfg : Cfg where
  P := I.P
  hint t := GI.lookup t [(I.tI, Hint.ofE eInt), (I.tIS, Hint.ofE eSl), (I.tTide, Hint.ofE eTide)]
  res f := GI.lookup f [(I.fOf, Hint.ofE eTide), (I.fPlus, Hint.ofE eTide)]
  pure _ := none
  meth _ _ := none
def plusT (a b : Tide) : Tree := .ite (a.n == 0) (.ret (ag (tideC b))) (.ite (b.n == 0) (.ret (ag (tideC a))) (.prim (Builtin.min_ #[I.tI, I.tI] I.tI #[iV a.low, iV (wr (a.sum + b.low))]) [] eInt fun (x : Int) => .ret (ag (tideC ⟨wr (a.n + b.n), wr (a.sum + b.sum), x⟩))))
def emb (x : Tide × Int) : List SV := [.box I.tTide (tideC x.1), .v (iV x.2)]
def fcOf : Fc := { lh := [(0, { slots := [3, 8], L := Tide × Int, emb := I.emb })] }
def ofT (s : Sl) : Tree := .loop (I.emb (⟨0, 0, 0⟩, 0)) (Tide × Int) I.emb fun x => .ite (decide (x.2 < (s.n : Int)))
  (.prim (Instr.indexAt I.tIS (slV s) (iV x.2)) [] eAddr fun (a : Addr) => .prim (Instr.loadAt I.tI (.pointer (some a))) [] eInt fun (v : Int) => .call I.fPlus [ag (tideC x.1), ag (tideC ⟨1, v, v⟩)].toArray [] eTide fun (t : Tide) => .again 0 (I.emb (t, wr (x.2 + 1))))
  (.ret (ag (tideC x.1)))
structure Ok : Prop where
  ok : I.cfg.Ok
  mix : I.P.follows .mixedOrders = true
  plus : ∀ a b, FnT I.cfg I.fPlus [ag (tideC a), ag (tideC b)] (I.plusT a b)
  of : ∀ s, FnT I.cfg I.fOf [slV s] (I.ofT s)
  aI : isAggT I.P I.tI = some false
  sI : sizeT I.P I.tI = some 1
  uIS : I.P.underlying I.tIS = some (.slice I.tI)
variable {I}
theorem Ok.plus_q (h : I.Ok) (a b : Tide) : Quiet I.P I.fPlus [ag (tideC a), ag (tideC b)] (ag (tideC (a.plus b))) := by
  refine Quiet.of h.ok h.mix (h.plus a b) fun w => ?_
  unfold plusT Tide.plus
  refine ⟨fun hb => ?_, fun hb => ?_⟩
  · rw [if_pos (by simpa using hb)]; exact fun _ _ => rfl
  · rw [if_neg (by simpa using hb)]
    refine ⟨fun hb => ?_, fun hb => ?_⟩
    · rw [if_pos (by simpa using hb)]; exact fun _ _ => rfl
    · rw [if_neg (by simpa using hb)]
      exact TT_prim_ld (H := eInt) (x := (show Int from min a.low (wr (a.sum + b.low)))) closed_nil (fun b hb => hb.elim) ld_min fun _ _ => rfl

theorem Ok.of_spec (h : I.Ok) {s : Sl} {xs : List Int} {F : BS} {w : World} (hs : RowAt w I.tI intCd s xs) (hF : ∀ b, F b ↔ (slV s).ownBlock = some b) (hn : xs.length < 4611686018427387904) : Spec I.P I.fOf [slV s] F w fun v F1 w1 => v = ag (tideC (Tide.of xs)) ∧ F1 = F := by
  have hlt : ∀ w : World, RowAt w I.tI intCd s xs → ∀ b, F b → b < w.heap.size := fun w hs b hb => hs.lt ((hF b).1 hb)
  refine (h.of s).spec h.ok h.mix (hlt w hs) ?_
  unfold ofT
  refine ⟨fun x S w => S = F ∧ RowAt w I.tI intCd s xs ∧ ∃ k : Nat, k ≤ xs.length ∧ x.2 = k ∧ x.1 = Tide.of (xs.take k), fun x _ _ => (xs.length - x.2).toNat, ?_, ⟨(⟨0, 0, 0⟩, 0), rfl, rfl, hs, 0, Nat.zero_le _, rfl, rfl⟩, ?_⟩
  · rintro x S w w' ⟨rfl, h1, h2⟩ ha
    exact ⟨⟨rfl, h1.keep fun b hb => ha.block b (.inr ((hF b).2 hb)), h2⟩, rfl⟩
  · rintro ⟨t, i⟩ S1 w1 ⟨rfl, h1, k, hk, rfl, rfl⟩ _
    have hsn : s.n = xs.length := h1.1
    have hcl' : ClosedΓ w.heap.size [fun vals S2 w2 => ∃ l', vals = I.emb l' ∧ (S2 = S1 ∧ RowAt w2 I.tI intCd s xs ∧ ∃ k : Nat, k ≤ xs.length ∧ l'.2 = k ∧ l'.1 = Tide.of (xs.take k)) ∧ ((xs.length : Int) - l'.2).toNat < ((xs.length : Int) - (k : Int)).toNat] := by
      intro A hA vals S w2 w' h ha
      simp only [List.mem_singleton] at hA
      subst hA
      obtain ⟨l', e, ⟨rfl, h1, h2⟩, h3⟩ := h
      exact ⟨l', e, ⟨rfl, h1.keep fun b hb => ha.block b (.inr ((hF b).2 hb)), h2⟩, h3⟩
    refine ⟨fun hb => ?_, fun hb => ?_⟩
    · have hlt2 : k < xs.length := by have := of_decide_eq_true hb; simp only at this; omega
      have hx : xs[k]? = some xs[k] := List.getElem?_eq_getElem hlt2
      obtain ⟨g, cur, ha, hg, hh, he, hle, _⟩ := h1.cell hx
      have hl1 := hlt w1 h1
      refine TT_prim_ld (H := eAddr) (x := ⟨g, (k : Int).toNat * 1, none⟩) hcl' hl1 (ld_index (s := s) (i := (k : Int)) h.uIS h.sI ha (by omega) (by omega)) ?_
      refine TT_prim_ld (H := eInt) (x := xs[k]) hcl' hl1 (ld_one ((hF g).2 hg) hh h.aI ?_) ?_
      · have he' : (cur.drop (k * 1)).take 1 = [iV xs[k]] := he
        have h2 := congrArg (·[0]?) he'
        simp only [List.getElem?_cons_zero] at h2
        rw [List.getElem?_take_of_lt (by omega), List.getElem?_drop, Nat.add_zero] at h2
        rw [show (k : Int).toNat * 1 = k * 1 by omega, h2]; rfl
      refine TT_quiet (x := (Tide.of (xs.take k)).plus ⟨1, xs[k], xs[k]⟩) (h.plus_q _ _) hcl' hl1 ?_
      intro w2 hk2 hsz2
      refine ⟨_, rfl, _, rfl, ⟨rfl, h1.keep fun b hb => hk2 b ((hF b).2 hb), k + 1, hlt2, ?_, ?_⟩, ?_⟩
      · simp only; rw [wr_id (by omega) (by omega)]; omega
      · simp only; rw [List.take_add_one, hx]; simp only [Tide.of, Option.toList_some, List.foldl_append, List.foldl_cons, List.foldl_nil]
      · simp only; rw [wr_id (by omega) (by omega)]; omega
    · have hge : k = xs.length := by have := of_decide_eq_false hb; simp only at this; omega
      intro w2 ha
      subst hge
      exact ⟨by rw [List.take_length], rfl⟩
end TI
end Go.Sx
namespace Go.Sx
open Go.RowKit
theorem TT_row {P : Program} {B : Nat} {R : Value → BS → World → Prop} {Γ : List Again} {Λ : Lam} {S : BS} {w : World} {t e : TypeId} {len : Nat} {parts : Array (Nat × Value)} {cs : List Value} {k : Sl → Tree} (h : rowCells P t len parts.toList = some (cs.toArray, e)) (hΓ : ClosedΓ B Γ) (hS : ∀ b, S b → b < w.heap.size)
    (hk : ∀ b w1, w1.heap[b]? = some (.cells cs.toArray e (0, 0)) → ¬ S b → (∀ b', S b' → w1.heap[b']? = w.heap[b']?) → w.heap.size ≤ w1.heap.size → w.heap.size ≤ b → TT P B R (k ⟨some ⟨b, 0, none⟩, len, len⟩) Γ Lam.none (fun b' => b' = b ∨ S b') w1) :
    TT P B R (.prim (Instr.buildSlice t len parts) [] eSl k) Γ Λ S w := by
  intro w' ha
  have hlt : ∀ b, S b → b < w'.heap.size := fun b hb => Nat.lt_of_lt_of_le (hS b hb) ha.size
  have hold : ∀ b, b < w'.heap.size → (w'.alloc (.cells cs.toArray e)).heap[b]? = w'.heap[b]? := fun b hb => Below.heap_alloc w' _ b hb
  have hsz : (w'.alloc (.cells cs.toArray e)).heap.size = w'.heap.size + 1 := World.size_alloc w' _
  refine ⟨⟨some ⟨w'.heap.size, 0, none⟩, len, len⟩, fun b' => b' = w'.heap.size ∨ S b', w'.alloc (.cells cs.toArray e), run_row h, ⟨⟨rfl, rfl, rfl, by rw [hsz]; exact Nat.le_succ _, fun b hb _ => hold b hb⟩, fun b hb => ?_, fun b hb => ?_⟩, ?_, ?_⟩
  · rcases hb with rfl | hb
    · exact .inr (Nat.le_refl _)
    · exact .inl hb
  · rw [hsz]
    rcases hb with rfl | hb
    · exact Nat.lt_succ_self _
    · exact Nat.lt_succ_of_lt (hlt b hb)
  · rw [lam_cut_nil]; exact lam_none_ok
  · rw [lam_cut_nil]
    exact hk _ _ (heap_new w' _) (fun h => Nat.lt_irrefl _ (hlt _ h)) (fun b' hb' => (hold b' (hlt b' hb')).trans (ha.block b' (.inr hb'))) (by rw [hsz]; exact Nat.le_succ_of_le ha.size) ha.size

theorem RowAt.fresh {T : Type} {w : World} {e : TypeId} {C : Codec T} {b : Nat} {xs : List T} (h : w.heap[b]? = some (.cells (flat C xs).toArray e (0, 0))) (hl : xs.length ≤ maxLen) : RowAt w e C ⟨some ⟨b, 0, none⟩, xs.length, xs.length⟩ xs :=
  ⟨rfl, flat_len C xs, .inr ⟨b, xs.length, (flat C xs).toArray, rfl, Nat.zero_le _, h, Nat.le_refl _, hl, by simp [flat_len], by simp [← flat_len C xs]⟩⟩
end Go.Sx

set_option linter.unusedVariables false
set_option linter.unusedSimpArgs false
set_option maxHeartbeats 2000000
namespace Go.Sx

/-! ### Small numbers in a row: sums, least sums, where they come down to nothing -/
def Sm (ws : List Int) : Prop := ∀ x ∈ ws, -1 ≤ x ∧ x ≤ 1
theorem Sm.app {a b : List Int} : Sm (a ++ b) ↔ Sm a ∧ Sm b := ⟨fun h => ⟨fun x hx => h x (by simp [hx]), fun x hx => h x (by simp [hx])⟩, fun ⟨h1, h2⟩ x hx => (List.mem_append.1 hx).elim (h1 x) (h2 x)⟩
theorem Sm.sum : ∀ {ws : List Int}, Sm ws → -(ws.length : Int) ≤ ws.sum ∧ ws.sum ≤ ws.length
  | [], _ => by simp
  | x :: ws, h => by
    have := Sm.sum (ws := ws) fun y hy => h y (by simp [hy])
    have := h x (by simp)
    simp only [List.sum_cons, List.length_cons]; omega
def lowL : List Int → Int
  | [] => 0
  | x :: ws => if ws = [] then x else min x (x + lowL ws)
theorem Sm.low : ∀ {ws : List Int}, Sm ws → -(ws.length : Int) ≤ lowL ws ∧ lowL ws ≤ ws.length
  | [], _ => by simp [lowL]
  | x :: ws, h => by
    have := Sm.low (ws := ws) fun y hy => h y (by simp [hy])
    have := h x (by simp)
    rw [lowL]
    split
    · simp only [List.length_cons]; omega
    · simp only [List.length_cons]; omega
theorem lowL_app : ∀ {a b : List Int}, a ≠ [] → b ≠ [] → lowL (a ++ b) = min (lowL a) (a.sum + lowL b)
  | [], b, h, _ => absurd rfl h
  | x :: a, b, _, hb => by
    rw [List.cons_append, lowL, lowL]
    by_cases ha : a = []
    · subst ha; rw [List.nil_append, if_neg hb, if_pos rfl]; simp
    · rw [if_neg (by simp [ha]), if_neg ha, lowL_app ha hb, List.sum_cons]; omega
def tideL (ws : List Int) : Tide := ⟨ws.length, ws.sum, lowL ws⟩
theorem tideL_plus {a b : List Int} (h : Sm (a ++ b)) (hl : (a ++ b).length ≤ 1099511627776) : (tideL a).plus (tideL b) = tideL (a ++ b) := by
  obtain ⟨ha, hb⟩ := Sm.app.1 h
  have h1 := ha.sum
  have h2 := hb.sum
  have h3 := hb.low
  rw [List.length_append] at hl
  unfold Tide.plus tideL
  by_cases e1 : a = []
  · subst e1; simp
  · rw [if_neg (by simp [e1])]
    by_cases e2 : b = []
    · subst e2; simp
    · rw [if_neg (by simp [e2])]
      simp only
      rw [wr_id (n := (a.length : Int) + b.length) (by omega) (by omega), wr_id (n := a.sum + b.sum) (by omega) (by omega), wr_id (n := a.sum + lowL b) (by omega) (by omega), lowL_app e1 e2, List.sum_append, List.length_append]
      simp
theorem tide_of1 (x : Int) : Tide.of [x] = tideL [x] := by simp [Tide.of, Tide.plus, tideL, lowL]

/-- Comes it down to nothing somewhere? -/
def Hit (c : Int) : List Int → Prop
  | [] => False
  | x :: ws => c + x ≤ 0 ∨ Hit (c + x) ws
theorem hit_low : ∀ {ws : List Int} {c : Int}, ws ≠ [] → (c + lowL ws ≤ 0 ↔ Hit c ws)
  | [], c, h => absurd rfl h
  | x :: ws, c, _ => by
    rw [lowL, Hit]
    by_cases e : ws = []
    · subst e; simp [Hit]
    · rw [if_neg e, ← hit_low (c := c + x) e]; omega
theorem hit_app : ∀ {a : List Int} {c : Int} {b : List Int}, Hit c (a ++ b) ↔ Hit c a ∨ Hit (c + a.sum) b
  | [], c, b => by simp [Hit]
  | x :: a, c, b => by
    rw [List.cons_append, Hit, Hit, hit_app (a := a), List.sum_cons, Int.add_assoc, or_assoc]
/-- The first place, from i on. -/
def fi (c i : Int) : List Int → Int
  | [] => -1
  | x :: ws => if i ≤ 0 ∧ c + x ≤ 0 then 0 else if 0 ≤ fi (c + x) (i - 1) ws then fi (c + x) (i - 1) ws + 1 else -1
theorem fi_ge (c i : Int) : ∀ ws, -1 ≤ fi c i ws
  | [] => by simp [fi]
  | x :: ws => by have := fi_ge (c + x) (i - 1) ws; rw [fi]; split; omega; split <;> omega
theorem fi_app : ∀ (a : List Int) (c i x : Int) (b : List Int), fi c i (a ++ x :: b) = if 0 ≤ fi c i a then fi c i a else if i ≤ (a.length : Int) ∧ c + a.sum + x ≤ 0 then (a.length : Int) else if 0 ≤ fi (c + a.sum + x) (i - a.length - 1) b then fi (c + a.sum + x) (i - a.length - 1) b + (a.length + 1) else -1
  | [], c, i, x, b => by
    have e : fi (c + ([] : List Int).sum + x) (i - (([] : List Int).length : Int) - 1) b = fi (c + x) (i - 1) b := by
      have h1 : c + ([] : List Int).sum + x = c + x := by simp
      have h2 : i - (([] : List Int).length : Int) - 1 = i - 1 := by simp
      rw [h1, h2]
    rw [e, List.nil_append]
    have d1 : fi c i [] = -1 := rfl
    have d2 : fi c i (x :: b) = if i ≤ 0 ∧ c + x ≤ 0 then 0 else if 0 ≤ fi (c + x) (i - 1) b then fi (c + x) (i - 1) b + 1 else -1 := rfl
    have hs : ([] : List Int).sum = 0 := rfl
    have hl : (([] : List Int).length : Int) = 0 := rfl
    simp only [d1, d2, hs, hl]
    generalize fi (c + x) (i - 1) b = f2
    repeat' split
    all_goals omega
  | y :: a, c, i, x, b => by
    have e : fi (c + (y :: a).sum + x) (i - ((y :: a).length : Int) - 1) b = fi (c + y + a.sum + x) (i - 1 - a.length - 1) b := by
      have h1 : c + (y :: a).sum + x = c + y + a.sum + x := by simp; omega
      have h2 : i - ((y :: a).length : Int) - 1 = i - 1 - a.length - 1 := by simp; omega
      rw [h1, h2]
    rw [e, List.cons_append]
    have d1 : fi c i (y :: a) = if i ≤ 0 ∧ c + y ≤ 0 then 0 else if 0 ≤ fi (c + y) (i - 1) a then fi (c + y) (i - 1) a + 1 else -1 := rfl
    have d2 : fi c i (y :: (a ++ x :: b)) = if i ≤ 0 ∧ c + y ≤ 0 then 0 else if 0 ≤ fi (c + y) (i - 1) (a ++ x :: b) then fi (c + y) (i - 1) (a ++ x :: b) + 1 else -1 := rfl
    have hs : (y :: a).sum = y + a.sum := by simp
    have hl : ((y :: a).length : Int) = a.length + 1 := by simp
    have hg := fi_ge (c + y) (i - 1) a
    have hg2 := fi_ge (c + y + a.sum + x) (i - 1 - a.length - 1) b
    simp only [d1, d2, hs, hl, fi_app a (c + y) (i - 1) x b]
    generalize fi (c + y) (i - 1) a = f1 at *
    generalize fi (c + y + a.sum + x) (i - 1 - a.length - 1) b = f2 at *
    repeat' split
    all_goals omega
theorem fi_hit : ∀ {ws : List Int} {c i : Int}, i ≤ 0 → (0 ≤ fi c i ws ↔ Hit c ws)
  | [], c, i, _ => by simp [fi, Hit]
  | x :: ws, c, i, h => by
    rw [fi, Hit, ← fi_hit (c := c + x) (i := i - 1) (ws := ws) (by omega)]
    by_cases h1 : c + x ≤ 0
    · simp [h, h1]
    · rw [if_neg (fun h => h1 h.2)]
      split <;> simp [*] <;> omega
theorem fi_past : ∀ {ws : List Int} {c i : Int}, (ws.length : Int) ≤ i → fi c i ws = -1
  | [], c, i, _ => rfl
  | x :: ws, c, i, h => by
    simp only [List.length_cons] at h
    rw [fi, if_neg (by omega), fi_past (ws := ws) (by omega)]; simp
/-- The last place below i. -/
def la (c i : Int) : List Int → Int
  | [] => -1
  | x :: ws => if i ≤ 0 then -1 else if 0 ≤ la (c + x) (i - 1) ws then la (c + x) (i - 1) ws + 1 else if c + x ≤ 0 then 0 else -1
theorem la_ge (c i : Int) : ∀ ws, -1 ≤ la c i ws
  | [] => by simp [la]
  | x :: ws => by have := la_ge (c + x) (i - 1) ws; rw [la]; repeat' split <;> omega
theorem la_low : ∀ {ws : List Int} {c i : Int}, i ≤ 0 → la c i ws = -1
  | [], _, _, _ => rfl
  | x :: ws, c, i, h => by rw [la, if_pos h]
theorem la_app : ∀ (a : List Int) (c i x : Int) (b : List Int), la c i (a ++ x :: b) = if 0 ≤ la (c + a.sum + x) (i - a.length - 1) b then la (c + a.sum + x) (i - a.length - 1) b + a.length + 1 else if i > (a.length : Int) ∧ c + a.sum + x ≤ 0 then (a.length : Int) else la c i a
  | [], c, i, x, b => by
    have e : la (c + ([] : List Int).sum + x) (i - (([] : List Int).length : Int) - 1) b = la (c + x) (i - 1) b := by
      have h1 : c + ([] : List Int).sum + x = c + x := by simp
      have h2 : i - (([] : List Int).length : Int) - 1 = i - 1 := by simp
      rw [h1, h2]
    rw [e, List.nil_append]
    have d1 : la c i [] = -1 := rfl
    have d2 : la c i (x :: b) = if i ≤ 0 then -1 else if 0 ≤ la (c + x) (i - 1) b then la (c + x) (i - 1) b + 1 else if c + x ≤ 0 then 0 else -1 := rfl
    have hs : ([] : List Int).sum = 0 := rfl
    have hl : (([] : List Int).length : Int) = 0 := rfl
    have h0 : i ≤ 0 → la (c + x) (i - 1) b = -1 := fun h => la_low (by omega)
    simp only [d1, d2, hs, hl]
    generalize la (c + x) (i - 1) b = f2 at *
    repeat' split
    all_goals omega
  | y :: a, c, i, x, b => by
    have e : la (c + (y :: a).sum + x) (i - ((y :: a).length : Int) - 1) b = la (c + y + a.sum + x) (i - 1 - a.length - 1) b := by
      have h1 : c + (y :: a).sum + x = c + y + a.sum + x := by simp; omega
      have h2 : i - ((y :: a).length : Int) - 1 = i - 1 - a.length - 1 := by simp; omega
      rw [h1, h2]
    rw [e, List.cons_append]
    have d1 : la c i (y :: a) = if i ≤ 0 then -1 else if 0 ≤ la (c + y) (i - 1) a then la (c + y) (i - 1) a + 1 else if c + y ≤ 0 then 0 else -1 := rfl
    have d2 : la c i (y :: (a ++ x :: b)) = if i ≤ 0 then -1 else if 0 ≤ la (c + y) (i - 1) (a ++ x :: b) then la (c + y) (i - 1) (a ++ x :: b) + 1 else if c + y ≤ 0 then 0 else -1 := rfl
    have hs : (y :: a).sum = y + a.sum := by simp
    have hl : ((y :: a).length : Int) = a.length + 1 := by simp
    have hg := la_ge (c + y) (i - 1) a
    have hg2 := la_ge (c + y + a.sum + x) (i - 1 - a.length - 1) b
    have h0 : i ≤ 0 → la (c + y + a.sum + x) (i - 1 - a.length - 1) b = -1 := fun h => la_low (by omega)
    have h1 : i ≤ 0 → la (c + y) (i - 1) a = -1 := fun h => la_low (by omega)
    simp only [d1, d2, hs, hl, la_app a (c + y) (i - 1) x b]
    generalize la (c + y) (i - 1) a = f1 at *
    generalize la (c + y + a.sum + x) (i - 1 - a.length - 1) b = f2 at *
    repeat' split
    all_goals omega
theorem la_hit : ∀ {ws : List Int} {c i : Int}, (ws.length : Int) ≤ i → (0 ≤ la c i ws ↔ Hit c ws)
  | [], c, i, _ => by simp [la, Hit]
  | x :: ws, c, i, h => by
    simp only [List.length_cons] at h
    rw [la, Hit, if_neg (by omega), ← la_hit (c := c + x) (i := i - 1) (ws := ws) (by omega)]
    by_cases h2 : 0 ≤ la (c + x) (i - 1) ws
    · rw [if_pos h2]; simp [h2]; omega
    · rw [if_neg h2]
      by_cases h1 : c + x ≤ 0
      · simp [h1]
      · simp [h1, h2]
end Go.Sx

set_option linter.unusedVariables false
set_option maxHeartbeats 1000000
namespace Go.Sx
open Go.RowKit
namespace GI
variable {E A : Type} {I : GI E A} {t : Nat} {p : Px} {r0 : Rf} {σ : Pool (Nd E A)} {n n' : Nat}

/-! ### A law's walk over one tree -/
def LT (I : GI E A) (t : Nat) (p : Px) (r0 : Rf) (σ : Pool (Nd E A)) (n : Nat) (B : Nat) (Γ : List Again) (R : Value → BS → World → Prop) (T : Tree) : Prop := ∀ F w, I.GAt t p r0 σ n F w → TT I.P B R T Γ Lam.none F w

section
variable {B : Nat} {Γ : List Again} {R : Value → BS → World → Prop}
theorem LT.call {f : FuncId} {args : List Value} {keep : List Nat} {H : Enc} {Q : H.T → Rf → Pool (Nd E A) → Prop} {k : H.T → Tree} (hΓ : ClosedΓ B Γ) (hs : I.GR t p r0 n n' σ f args H Q) (hk : ∀ x r' σ', Q x r' σ' → I.LT t p r' σ' n' B Γ R (k x)) : I.LT t p r0 σ n B Γ R (.call f args.toArray keep H k) := fun F w hG =>
  TT_callN (X := fun x F1 w1 => ∃ r' σ', I.GAt t p r' σ' n' F1 w1 ∧ Q x r' σ') hΓ hG.lt (fun w' hk' _ => hs F w' (hG.keep hk')) fun x F1 w1 ⟨r', σ', h1, h2⟩ _ _ _ => hk x r' σ' h2 F1 w1 h1
theorem LT.callS {f : FuncId} {args : List Value} {keep : List Nat} {H : Enc} {Q : H.T → Pool (Nd E A) → Prop} {k : H.T → Tree} (hΓ : ClosedΓ B Γ) (hs : I.GS t p r0 n n' σ f args H Q) (hk : ∀ x σ', Q x σ' → I.LT t p r0 σ' n' B Γ R (k x)) : I.LT t p r0 σ n B Γ R (.call f args.toArray keep H k) :=
  LT.call hΓ (GR.same hs) fun x r' σ' ⟨h1, h2⟩ => by subst h1; exact hk x σ' h2
theorem LT.quiet {f : FuncId} {args : List Value} {keep : List Nat} {H : Enc} {k : H.T → Tree} (x : H.T) (hΓ : ClosedΓ B Γ) (hq : Quiet I.P f args (H.enc x)) (hk : I.LT t p r0 σ n B Γ R (k x)) : I.LT t p r0 σ n B Γ R (.call f args.toArray keep H k) := fun F w hG =>
  TT_quiet (x := x) hq hΓ hG.lt fun w1 h1 _ => hk F w1 (hG.keep h1)
theorem LT.prim {m : Sem Value} {H : Enc} {k : H.T → Tree} (x : H.T) (hΓ : ClosedΓ B Γ) (hl : ∀ F w, I.GAt t p r0 σ n F w → Ld I.P F w m (H.enc x)) (hk : I.LT t p r0 σ n B Γ R (k x)) : I.LT t p r0 σ n B Γ R (.prim m [] H k) := fun F w hG =>
  TT_prim_ld hΓ hG.lt (hl F w hG) (hk F w hG)
theorem LT.ite {b : Bool} {T1 T2 : Tree} (h1 : b = true → I.LT t p r0 σ n B Γ R T1) (h2 : b = false → I.LT t p r0 σ n B Γ R T2) : I.LT t p r0 σ n B Γ R (.ite b T1 T2) := fun F w hG => ⟨fun hb => h1 hb F w hG, fun hb => h2 hb F w hG⟩
theorem LT.endS {T : Tree} (h : I.LT t p r0 σ n B Γ R T) : I.LT t p r0 σ n B Γ R (.endS T) := fun F w hG => h F w hG
theorem LT.ret {v : Value} (h : ∀ F w, I.GAt t p r0 σ n F w → R v F w) : I.LT t p r0 σ n B Γ R (.ret v) := fun F w hG w' ha => h F w' (hG.keep fun b hb => ha.block b (.inr hb))
/-- A quiet call behind a look that has no store in it. -/
theorem LT.loadQuiet {d : Nat} {m : Sem Value} {H H1 : Enc} {f : FuncId} {args : List Value} {keep : List Nat} {k : H.T → H1.T → Tree} (x : H.T) (y : H1.T) (hΓ : ClosedΓ B Γ) (hl : ∀ S w, Ld I.P S w m (H.enc x)) (hq : Quiet I.P f args (H1.enc y)) (hk : I.LT t p r0 σ n B Γ R (k x y)) :
    I.LT t p r0 σ n B Γ R (.loadS d m H fun x => .call f args.toArray keep H1 fun y => .endS (k x y)) := fun F w hG => by
  refine TT_loadS_ld (hl F w) ?_
  refine TT_call (F := F) (G := fun _ => False) (X := fun z F1 w1 => z = y ∧ F1 = F ∧ ∀ b, F b → w1.heap[b]? = w.heap[b]?) hΓ (fun b => by simp) hG.lt (fun b hb => hb.elim) (fun w' hk' hsz => (hq.spec fun b hb => Nat.lt_of_lt_of_le (hG.lt b hb) hsz).mono fun v F1 w1 _ ⟨h1, h2, h3⟩ => ⟨y, h1, rfl, h2, fun b hb => (h3 b hb).trans (hk' b hb)⟩) ?_
  rintro z F1 w1 ⟨rfl, rfl, h3⟩ hlt hnew hGk hsz1
  have hFe : (fun b => F1 b ∨ False) = F1 := by funext b; simp
  rw [hFe]
  refine ⟨fun d m' v hΛ => ?_, hk F1 w1 (hG.keep h3)⟩
  obtain ⟨hΛ, _⟩ := hΛ
  rcases hΛ with hΛ | ⟨_, rfl, rfl⟩
  · exact hΛ.elim
  · exact (hl F1 w1).stab _
end
end GI
end Go.Sx
namespace Go.Sx.GI
theorem GT_up {E A : Type} {I : GI E A} {t : Nat} {p : Px} {r0 : Rf} {σ : Pool (Nd E A)} {n n' B : Nat} {Γ : List Again} {R : Value → BS → World → Prop} {T : Tree} (h1 : n ≤ n') (h2 : n' < 4294967296) (h : I.LT t p r0 σ n' B Γ R T) : I.LT t p r0 σ n B Γ R T := fun F w hG => h F w (hG.up h1 h2)
end Go.Sx.GI

set_option linter.unusedVariables false
set_option maxHeartbeats 1000000
namespace Go.Sx
open Go.RowKit

/-! ### An argument that is a slice: it lies in elder memory, and is read alone -/
structure ArgRow {T : Type} (w : World) (C : Codec T) (s : Sl) (xs : List T) : Prop where
  n : s.n = xs.length
  cell : ∀ (i : Nat) (x : T), xs[i]? = some x → ∃ g o, s.a = some ⟨g, o, none⟩ ∧ ∀ (k : Nat) (v : Value), (C.enc x)[k]? = some v → w.cell? ⟨g, o + (i * C.size + k), none⟩ = some v
/-- Its block. -/
def argG (s : Sl) : BS := fun b => ∃ a, s.a = some a ∧ b = a.block ∧ 0 < s.n

section
variable {T : Type} {P : Program} {w w' : World} {C : Codec T} {s : Sl} {xs : List T} {S : BS}
theorem ArgRow.keep (h : ArgRow w C s xs) (hb : ∀ b, argG s b → w'.heap[b]? = w.heap[b]?) : ArgRow w' C s xs := by
  refine ⟨h.n, fun i x hx => ?_⟩
  obtain ⟨g, o, ha, hc⟩ := h.cell i x hx
  refine ⟨g, o, ha, fun k v hv => ?_⟩
  have hlt := (List.getElem?_eq_some_iff.1 hx).1
  have := hb g ⟨_, ha, rfl, by rw [h.n]; omega⟩
  have hk := hc k v hv
  unfold World.cell? at hk ⊢
  simp only at hk ⊢
  rw [this]; exact hk

theorem ArgRow.index (h : ArgRow w C s xs) {t e : TypeId} {i : Int} {x : T} (hu : P.underlying t = some (.slice e)) (hs : sizeT P e = some C.size) (h0 : 0 ≤ i) (hx : xs[i.toNat]? = some x) :
    ∃ g o, s.a = some ⟨g, o, none⟩ ∧ Ld P S w (Instr.indexAt t (slV s) (iV i)) (eAddr.enc ⟨g, o + i.toNat * C.size, none⟩) ∧ (∀ (k : Nat) (v : Value), (C.enc x)[k]? = some v → w.cell? ⟨g, o + (i.toNat * C.size + k), none⟩ = some v) := by
  obtain ⟨g, o, ha, hc⟩ := h.cell _ _ hx
  refine ⟨g, o, ha, fun w' _ => ?_, hc⟩
  have hlt := (List.getElem?_eq_some_iff.1 hx).1
  have hn := h.n
  have h1 : i < s.n := by omega
  simp only [Instr.indexAt, slV, iV, asIntOf, ha, Sem.run_bind, Sem.run_pure, Result.andThen_ok, run_underlying hu w']
  simp only [h0, h1, and_self, if_true, Sem.run_bind, run_sizeOf hs, Result.andThen_ok, Sem.run_pure, Addr.add_mid]
  rfl

theorem ld_cells {t : TypeId} {g o n : Nat} {cs : List Value} (ha : isAggT P t = some true) (hs : sizeT P t = some n) (hn : cs.length = n) (hS : S g) (hc : ∀ (k : Nat) (v : Value), cs[k]? = some v → w.cell? ⟨g, o + k, none⟩ = some v) :
    Ld P S w (Instr.loadAt t (.pointer (some ⟨g, o, none⟩))) (ag cs) := fun w' hk => by
  have hl : (loadCells ⟨g, o, none⟩ n).run P w' = .ok cs.toArray w' := by
    have := run_loadCells_list (P := P) w' ⟨g, o, none⟩ cs (fun j v hv => by
      rw [Addr.add_mid]
      have := hc j v hv
      unfold World.cell? at this ⊢
      simp only at this ⊢
      rw [hk g hS]; exact this)
    rw [hn] at this; exact this
  simp only [Instr.loadAt, Instr.sureAddr, loadVar, Sem.run_bind, Sem.run_pure, Result.andThen_ok, run_isAgg ha, if_true, run_sizeOf hs, hl]; rfl
theorem ld_cell {t : TypeId} {g o : Nat} {v : Value} (ha : isAggT P t = some false) (hS : S g) (hc : w.cell? ⟨g, o, none⟩ = some v) :
    Ld P S w (Instr.loadAt t (.pointer (some ⟨g, o, none⟩))) v := fun w' hk => by
  have hc' : w'.cell? ⟨g, o, none⟩ = some v := by
    unfold World.cell? at hc ⊢
    simp only at hc ⊢
    rw [hk g hS]; exact hc
  simp only [Instr.loadAt, Instr.sureAddr, loadVar, Sem.run_bind, Sem.run_pure, Result.andThen_ok, run_isAgg ha, Bool.false_eq_true, if_false, load, Sem.run]
  simp [hc']
end

/-- A pool beside an argument. -/
def GI.pxA (p : Nat) (w0 : World) (G : BS) (hG : ∀ b, G b → b < w0.heap.size) : GI.Px where
  p := p
  G := G
  K w := ∀ b, G b → w.heap[b]? = w0.heap[b]?
  stab w w' h hk := fun b hb => (h b hb).trans (hk b hb)
  lt w hk b hb := by
    have h1 := hk b hb
    rw [Array.getElem?_eq_getElem (hG b hb)] at h1
    exact heap_lt h1

namespace GI
variable {E A : Type} {I : GI E A} {t : Nat} {p : Px} {r0 : Rf} {σ : Pool (Nd E A)} {n : Nat}
theorem LT.loop {B : Nat} {R : Value → BS → World → Prop} {L : Type} {emb : L → List SV} {body : L → Tree} {init : List SV} (Inv : L → Rf → Pool (Nd E A) → Nat → Prop) (μ : L → Nat) (l0 : L) (hi : init = emb l0) (h0 : Inv l0 r0 σ n)
    (hb : ∀ Γ l r1 σ1 n1, Inv l r1 σ1 n1 → ClosedΓ B Γ → (∀ l' r2 σ2 n2 vals, vals = emb l' → Inv l' r2 σ2 n2 → μ l' < μ l → I.LT t p r2 σ2 n2 B Γ R (.again 0 vals)) → I.LT t p r1 σ1 n1 B Γ R (body l)) : I.LT t p r0 σ n B [] R (.loop init L emb body) := fun F w hG => by
  refine ⟨fun l S w => ∃ r2 σ2 n2, I.GAt t p r2 σ2 n2 S w ∧ Inv l r2 σ2 n2, fun l _ _ => μ l, ?_, ⟨l0, hi, r0, σ, n, hG, h0⟩, ?_⟩
  · rintro l S w w' ⟨r2, σ2, n2, h1, h2⟩ ha
    exact ⟨⟨r2, σ2, n2, h1.keep fun b hb => ha.block b (.inr hb), h2⟩, rfl⟩
  · rintro l S1 w1 ⟨r2, σ2, n2, h1, h2⟩ _
    refine hb _ l r2 σ2 n2 h2 ?_ (fun l' r3 σ3 n3 vals hv hi hm F w hG => ⟨_, rfl, l', hv, ⟨r3, σ3, n3, hG, hi⟩, hm⟩) S1 w1 h1
    intro A' hA vals S w w' h ha
    simp only [List.mem_singleton] at hA
    subst hA
    obtain ⟨l', h1, ⟨r2, σ2, n2, h2, h3⟩, h4⟩ := h
    exact ⟨l', h1, ⟨r2, σ2, n2, h2.keep fun b hb => ha.block b (.inr hb), h3⟩, h4⟩
/-- A look at the argument. -/
theorem LT.arg {B : Nat} {Γ : List Again} {R : Value → BS → World → Prop} {m : Sem Value} {H : Enc} {k : H.T → Tree} (x : H.T) (hΓ : ClosedΓ B Γ) (hl : ∀ F w, (∀ b, p.G b → F b) → p.K w → Ld I.P F w m (H.enc x)) (hk : I.LT t p r0 σ n B Γ R (k x)) : I.LT t p r0 σ n B Γ R (.prim m [] H k) := fun F w hG => by
  have hG0 := hG
  obtain ⟨Fp, rfl, h1, ⟨h2, hx1, hx2, hx3⟩, h3⟩ := hG
  exact TT_prim_ld hΓ hG0.lt (hl _ w (fun b hb => .inr (.inr hb)) hx3) (hk _ w hG0)
/-- A new tree, beside an argument. -/
theorem GAt.beside {x q : Nat} {F1 : BS} {w1 w0 : World} {G : BS} (hG : ∀ b, G b → b < w0.heap.size) (h : I.GAt x (px q) r0 σ n F1 w1) (hd : ∀ b, G b → ¬ F1 b) (hk : ∀ b, G b → w1.heap[b]? = w0.heap[b]?) : I.GAt x (pxA q w0 G hG) r0 σ n (fun b => F1 b ∨ G b) w1 := by
  obtain ⟨Fp, rfl, h1, ⟨h2, hx1, hx2, hx3⟩, h3⟩ := h
  refine ⟨Fp, ?_, h1, ⟨h2, fun hg => hd x hg (.inr (.inl rfl)), fun b hb hF => hd b hb (.inl hF), hk⟩, h3⟩
  funext b
  simp [px, pxA, or_assoc]
end GI
end Go.Sx

set_option linter.unusedVariables false
set_option maxHeartbeats 1000000
namespace Go.Sx
open Go.RowKit

/-! ### What is said of some memory -/
structure Asn where
  at_ : BS → World → Prop
  keep : ∀ {F : BS} {w w' : World}, at_ F w → (∀ b, F b → w'.heap[b]? = w.heap[b]?) → at_ F w'
  lt : ∀ {F : BS} {w : World}, at_ F w → ∀ b, F b → b < w.heap.size

namespace Asn
def emp : Asn := ⟨fun F _ => F = none0, fun h _ => h, fun h b hb => by subst h; exact hb.elim⟩
def sep (A C : Asn) : Asn where
  at_ F w := ∃ F1 F2, F = (fun b => F1 b ∨ F2 b) ∧ (∀ b, F1 b → ¬ F2 b) ∧ A.at_ F1 w ∧ C.at_ F2 w
  keep := by
    rintro F w w' ⟨F1, F2, rfl, hd, h1, h2⟩ hk
    exact ⟨F1, F2, rfl, hd, A.keep h1 fun b hb => hk b (.inl hb), C.keep h2 fun b hb => hk b (.inr hb)⟩
  lt := by
    rintro F w ⟨F1, F2, rfl, hd, h1, h2⟩ b (hb | hb)
    · exact A.lt h1 b hb
    · exact C.lt h2 b hb
def wh (A : Asn) (p : Prop) : Asn := ⟨fun F w => A.at_ F w ∧ p, fun h hk => ⟨A.keep h.1 hk, h.2⟩, fun h => A.lt h.1⟩
universe u
def ex {ι : Sort u} (A : ι → Asn) : Asn := ⟨fun F w => ∃ i, (A i).at_ F w, fun ⟨i, h⟩ hk => ⟨i, (A i).keep h hk⟩, fun ⟨i, h⟩ => (A i).lt h⟩
def Imp (A C : Asn) : Prop := ∀ F w, A.at_ F w → C.at_ F w

section
variable {A C D E : Asn}
theorem Imp.refl (A : Asn) : A.Imp A := fun _ _ h => h
theorem Imp.trans (h : A.Imp C) (k : C.Imp D) : A.Imp D := fun F w ha => k F w (h F w ha)
theorem Imp.sep (h : A.Imp C) (k : D.Imp E) : (A.sep D).Imp (C.sep E) := fun F w ⟨F1, F2, e, hd, h1, h2⟩ => ⟨F1, F2, e, hd, h F1 w h1, k F2 w h2⟩
theorem sep_comm : (A.sep C).Imp (C.sep A) := fun F w ⟨F1, F2, e, hd, h1, h2⟩ => ⟨F2, F1, by rw [e]; funext b; exact propext Or.comm, fun b hb hb' => hd b hb' hb, h2, h1⟩
theorem sep_assoc : ((A.sep C).sep D).Imp (A.sep (C.sep D)) := by
  rintro F w ⟨F0, F3, rfl, hd, ⟨F1, F2, rfl, hd2, h1, h2⟩, h3⟩
  exact ⟨F1, fun b => F2 b ∨ F3 b, by funext b; exact propext or_assoc, fun b hb hb' => hb'.elim (hd2 b hb) (hd b (.inl hb)), h1, F2, F3, rfl, fun b hb => hd b (.inr hb), h2, h3⟩
theorem sep_assoc' : (A.sep (C.sep D)).Imp ((A.sep C).sep D) := by
  rintro F w ⟨F1, F0, rfl, hd, h1, F2, F3, rfl, hd2, h2, h3⟩
  exact ⟨fun b => F1 b ∨ F2 b, F3, by funext b; exact propext or_assoc.symm, fun b hb hb' => hb.elim (fun h => hd b h (.inr hb')) (fun h => hd2 b h hb'), ⟨F1, F2, rfl, fun b hb hb' => hd b hb (.inl hb'), h1, h2⟩, h3⟩
theorem sep_emp : (A.sep emp).Imp A := by
  rintro F w ⟨F1, F2, rfl, hd, h1, h2⟩
  have : F2 = none0 := h2
  subst this
  have e : (fun b => F1 b ∨ none0 b) = F1 := by funext b; simp [none0]
  rw [e]; exact h1
theorem emp_sep : (emp.sep A).Imp A := sep_comm.trans sep_emp
theorem sep_emp' : A.Imp (A.sep emp) := fun F w h => ⟨F, none0, by funext b; simp [none0], fun b _ hb => hb, h, rfl⟩
theorem sep_swap : (A.sep (C.sep D)).Imp (C.sep (A.sep D)) := sep_assoc'.trans ((Imp.sep sep_comm (Imp.refl _)).trans sep_assoc)
theorem imp_ex {ι : Sort u} {G : ι → Asn} (i : ι) (h : A.Imp (G i)) : A.Imp (ex G) := fun F w ha => ⟨i, h F w ha⟩
theorem imp_wh {p : Prop} (hp : p) (h : A.Imp C) : A.Imp (C.wh p) := fun F w ha => ⟨h F w ha, hp⟩
end
end Asn
open Asn

/-! ### A walk's frame -/
structure Jc where
  P : Program
  B : Nat
  Γ : List Again
  R : Value → BS → World → Prop
def AT (J : Jc) (Λ : Lam) (A : Asn) (T : Tree) : Prop := ClosedΓ J.B J.Γ → ∀ F w, A.at_ F w → Λ.ok J.P J.B F w → TT J.P J.B J.R T J.Γ Λ F w
def RQ (H : Enc) (Y : Type) (φ : H.T → Y → Prop) (Q : H.T → Y → Asn) : Value → BS → World → Prop := fun v F w => ∃ x y, v = H.enc x ∧ φ x y ∧ (Q x y).at_ F w
/-- A function's contract: what it needs, what it gives (a value x and words y), what is known of these. -/
def Fn (P : Program) (f : FuncId) (args : List Value) (A : Asn) (H : Enc) (Y : Type) (φ : H.T → Y → Prop) (Q : H.T → Y → Asn) : Prop :=
  ∀ F w, A.at_ F w → Spec P f args F w (RQ H Y φ Q)

theorem Fn.of {P : Program} {c : Cfg} {f : FuncId} {args : List Value} {T : Tree} {A : Asn} {H : Enc} {Y : Type} {φ : H.T → Y → Prop} {Q : H.T → Y → Asn} (hP : c.P = P) (hc : c.Ok) (hmix : P.follows .mixedOrders = true) (hf : FnT c f args T)
    (h : ∀ B, AT ⟨P, B, [], RQ H Y φ Q⟩ Lam.none A T) : Fn P f args A H Y φ Q := fun F w hA => by
  subst hP
  exact hf.spec hc hmix (A.lt hA) (h _ closed_nil F w hA lam_none_ok)

section
variable {P : Program} {f : FuncId} {args : List Value} {A C D : Asn} {H : Enc} {Y : Type} {φ : H.T → Y → Prop} {Q : H.T → Y → Asn}
theorem Fn.imp (h : Fn P f args A H Y φ Q) (hA : C.Imp A) : Fn P f args C H Y φ Q := fun F w hC => h F w (hA F w hC)
theorem Fn.post {Y' : Type} {φ' : H.T → Y' → Prop} {Q' : H.T → Y' → Asn} (h : Fn P f args A H Y φ Q) (hq : ∀ x y, φ x y → ∃ y', φ' x y' ∧ (Q x y).Imp (Q' x y')) : Fn P f args A H Y' φ' Q' := fun F w hA =>
  (h F w hA).mono fun v F1 w1 _ ⟨x, y, hv, hp, hQ⟩ => let ⟨y', h1, h2⟩ := hq x y hp; ⟨x, y', hv, h1, h2 _ _ hQ⟩
theorem Fn.frame (C : Asn) (h : Fn P f args A H Y φ Q) : Fn P f args (A.sep C) H Y φ fun x y => (Q x y).sep C := by
  rintro F w ⟨F1, F2, rfl, hd, h1, h2⟩
  have hs := h F1 w h1
  refine ⟨hs.1, hs.2.mono ?_⟩
  rintro e w1 ⟨v, F3, he, hst, x, y, hv, hp, hQ⟩
  refine ⟨v, fun b => F3 b ∨ F2 b, he, hst.frame (C.lt h2), x, y, hv, hp, F3, F2, rfl, fun b hb hb2 => ?_, hQ, C.keep h2 fun b hb => hst.fr.block b (C.lt h2 b hb) fun h => hd b h hb⟩
  rcases hst.new b hb with h' | h'
  · exact hd b h' hb2
  · exact Nat.lt_irrefl _ (Nat.lt_of_lt_of_le (C.lt h2 b hb2) h')
theorem Fn.frameL (C : Asn) (h : Fn P f args A H Y φ Q) : Fn P f args (C.sep A) H Y φ fun x y => C.sep (Q x y) := ((h.frame C).imp sep_comm).post fun x y hp => ⟨y, hp, sep_comm⟩
end

section
variable {J : Jc} {Λ : Lam} {A C D X : Asn}
theorem AT.imp {T : Tree} (hA : A.Imp C) (h : AT J Λ C T) : AT J Λ A T := fun hΓ F w ha hl => h hΓ F w (hA F w ha) hl
theorem AT.ret {P : Program} {B : Nat} {Γ : List Again} {H : Enc} {Y : Type} {φ : H.T → Y → Prop} {Q : H.T → Y → Asn} {v : Value} (x : H.T) (y : Y) (hv : v = H.enc x) (hp : φ x y) (hA : A.Imp (Q x y)) : AT ⟨P, B, Γ, RQ H Y φ Q⟩ Λ A (.ret v) := fun _ F w ha _ w' hag =>
  ⟨x, y, hv, hp, hA F w' (A.keep ha fun b hb => hag.block b (.inr hb))⟩
theorem AT.ite {b : Bool} {T1 T2 : Tree} (h1 : b = true → AT J Λ A T1) (h2 : b = false → AT J Λ A T2) : AT J Λ A (.ite b T1 T2) := fun hΓ F w ha hl => ⟨fun hb => h1 hb hΓ F w ha hl, fun hb => h2 hb hΓ F w ha hl⟩
theorem AT.iteD {p : Prop} [Decidable p] {T1 T2 : Tree} (h1 : p → AT J Λ A T1) (h2 : ¬ p → AT J Λ A T2) : AT J Λ A (.ite (decide p) T1 T2) := AT.ite (fun h => h1 (of_decide_eq_true h)) (fun h => h2 (of_decide_eq_false h))
theorem AT.iteN {b : Bool} {T1 T2 : Tree} (h1 : b = false → AT J Λ A T1) (h2 : b = true → AT J Λ A T2) : AT J Λ A (.ite (!b) T1 T2) := AT.ite (fun h => h1 (by simpa using h)) (fun h => h2 (by simpa using h))
theorem AT.iteE {x y : Int} {T1 T2 : Tree} (h1 : x = y → AT J Λ A T1) (h2 : x ≠ y → AT J Λ A T2) : AT J Λ A (.ite (x == y) T1 T2) := AT.ite (fun h => h1 (eq_of_beq h)) (fun h => h2 fun e => by subst e; simp at h)
theorem AT.endS {T : Tree} (h : AT J Lam.none A T) : AT J Λ A (.endS T) := fun hΓ F w ha _ => h hΓ F w ha lam_none_ok

/-- A call; what is owned beside is kept. -/
theorem AT.callK {f : FuncId} {args : List Value} {keep : List Nat} {H : Enc} {Y : Type} {φ : H.T → Y → Prop} {Q : H.T → Y → Asn} {k : H.T → Tree} (hf : Fn J.P f args A H Y φ Q) (hΛ : ∀ x y F w, (Q x y).at_ F w → (Λ.cut keep).ok J.P J.B F w)
    (hk : ∀ x y, φ x y → AT J (Λ.cut keep) (Q x y) (k x)) : AT J Λ A (.call f args.toArray keep H k) := by
  intro hΓ F w ha hl
  refine ⟨(hf F w ha).1, fun w' hag => ?_⟩
  refine (hf F w' (A.keep ha fun b hb => hag.block b (.inr hb))).2.mono ?_
  rintro e w1 ⟨v, F1, he, hst, x, y, hv, hp, hQ⟩
  exact ⟨x, F1, by rw [he, hv], hst, hΛ x y F1 w1 hQ, hk x y hp hΓ F1 w1 hQ (hΛ x y F1 w1 hQ)⟩
theorem cut_none {keep : List Nat} : Lam.none.cut keep = Lam.none := by funext d m v; simp [Lam.cut, Lam.none]
theorem AT.call {f : FuncId} {args : List Value} {keep : List Nat} {H : Enc} {Y : Type} {φ : H.T → Y → Prop} {Q : H.T → Y → Asn} {k : H.T → Tree} (hf : Fn J.P f args A H Y φ Q) (hk : ∀ x y, φ x y → AT J Lam.none (Q x y) (k x)) : AT J Lam.none A (.call f args.toArray keep H k) :=
  AT.callK hf (fun x y F w _ => by rw [cut_none]; exact lam_none_ok) fun x y hp => by rw [cut_none]; exact hk x y hp
theorem AT.call0 {f : FuncId} {args : List Value} {H : Enc} {Y : Type} {φ : H.T → Y → Prop} {Q : H.T → Y → Asn} {k : H.T → Tree} (hf : Fn J.P f args A H Y φ Q) (hk : ∀ x y, φ x y → AT J Lam.none (Q x y) (k x)) : AT J Λ A (.call f args.toArray [] H k) :=
  AT.callK hf (fun x y F w _ => by rw [lam_cut_nil]; exact lam_none_ok) fun x y hp => by rw [lam_cut_nil]; exact hk x y hp

/-- A look. -/
theorem AT.ld {m : Sem Value} {H : Enc} {k : H.T → Tree} (x : H.T) (hl : ∀ F w, A.at_ F w → Ld J.P F w m (H.enc x)) (hk : AT J Lam.none A (k x)) : AT J Λ A (.prim m [] H k) := fun hΓ F w ha _ =>
  TT_prim_ld hΓ (A.lt ha) (hl F w ha) (hk hΓ F w ha lam_none_ok)
theorem AT.ldS {d : Nat} {m : Sem Value} {H : Enc} {k : H.T → Tree} (x : H.T) (hl : ∀ F w, A.at_ F w → Ld J.P F w m (H.enc x)) (hk : AT J (Λ.add d m (H.enc x)) A (k x)) : AT J Λ A (.loadS d m H k) := fun hΓ F w ha hΛ =>
  TT_loadS_ld (hl F w ha) (hk hΓ F w ha fun d' m' v' h => by
    rcases h with h | ⟨rfl, rfl, rfl⟩
    · exact hΛ d' m' v' h
    · exact (hl F w ha).stab _)
/-- A look that any memory answers alike may be kept through calls. -/
theorem lamOk_pure {P : Program} {B : Nat} {keep : List Nat} {d : Nat} {m : Sem Value} {v : Value} (hl : ∀ S w, Ld P S w m v) {F' : BS} {w' : World} (h' : (Λ.cut keep).ok P B F' w') : ((Λ.add d m v).cut keep).ok P B F' w' := by
  rintro d' m' v' ⟨h1, h2⟩
  rcases h1 with h1 | ⟨rfl, rfl, rfl⟩
  · exact h' d' m' v' ⟨h1, h2⟩
  · exact (hl F' w').stab _

/-- A loop. -/
theorem AT.loop {L : Type} {emb : L → List SV} {body : L → Tree} {init : List SV} {Y : Type} (I : L → Y → Prop) (N : L → Y → Asn) (μ : L → Nat) (l0 : L) (y0 : Y) (hi : init = emb l0) (h0 : I l0 y0) (hA : A.Imp (N l0 y0))
    (hb : ∀ G l y, I l y → (∀ l' y', I l' y' → μ l' < μ l → ∀ F w, (N l' y').at_ F w → G (emb l') F w) → AT ⟨J.P, J.B, G :: J.Γ, J.R⟩ Lam.none (N l y) (body l)) : AT J Λ A (.loop init L emb body) := by
  intro hΓ F w ha _
  refine ⟨fun l S w => ∃ y, I l y ∧ (N l y).at_ S w, fun l _ _ => μ l, ?_, ⟨l0, hi, y0, h0, hA F w ha⟩, ?_⟩
  · rintro l S w w' ⟨y, h1, h2⟩ hag
    exact ⟨⟨y, h1, (N l y).keep h2 fun b hb => hag.block b (.inr hb)⟩, rfl⟩
  · rintro l S1 w1 ⟨y, h1, h2⟩ _
    refine hb _ l y h1 (fun l' y' hi' hm F w hN => ⟨l', rfl, ⟨y', hi', hN⟩, hm⟩) ?_ S1 w1 h2 lam_none_ok
    intro A' hA' vals S w w' h hag
    rcases List.mem_cons.1 hA' with rfl | hA'
    · obtain ⟨l', e, ⟨y', h3, h4⟩, h5⟩ := h
      exact ⟨l', e, ⟨y', h3, (N l' y').keep h4 fun b hb => hag.block b (.inr hb)⟩, h5⟩
    · exact hΓ A' hA' vals S w w' h hag
theorem AT.again {d : Nat} {G : Again} {vals : List SV} (hd : J.Γ[d]? = some G) (h : ∀ F w, A.at_ F w → G vals F w) : AT J Λ A (.again d vals) := fun _ F w ha _ => ⟨G, hd, h F w ha⟩
end

/-! ### Memory that stays -/
structure Zn where
  Z : BS
  w : World
  lt : ∀ b, Z b → b < w.heap.size
def fz (z : Zn) : Asn where
  at_ F w := (∀ b, z.Z b → F b ∧ w.heap[b]? = z.w.heap[b]?) ∧ ∀ b, F b → b < w.heap.size
  keep := by
    rintro F w w' ⟨h, hl⟩ hk
    refine ⟨fun b hb => ⟨(h b hb).1, (hk b (h b hb).1).trans (h b hb).2⟩, fun b hb => ?_⟩
    have h1 := hk b hb
    rw [Array.getElem?_eq_getElem (hl b hb)] at h1
    exact heap_lt h1
  lt := fun h => h.2
def Zn.le (z z' : Zn) : Prop := ∀ b, z.Z b → z'.Z b ∧ z'.w.heap[b]? = z.w.heap[b]?
theorem Zn.le_refl (z : Zn) : z.le z := fun b hb => ⟨hb, rfl⟩
theorem Zn.le_trans {a b c : Zn} (h : a.le b) (k : b.le c) : a.le c := fun i hi => ⟨(k i (h i hi).1).1, (k i (h i hi).1).2.trans (h i hi).2⟩
class HasZ (A : Asn) (z : Zn) : Prop where
  out : ∀ F w, A.at_ F w → ∀ b, z.Z b → F b ∧ w.heap[b]? = z.w.heap[b]?
instance hasZ_self {z : Zn} : HasZ (fz z) z := ⟨fun F w h b hb => h.1 b hb⟩
/-- What else there is may be forgotten. -/
theorem fz_of {A : Asn} {z : Zn} [h : HasZ A z] : A.Imp (fz z) := fun F w ha => ⟨h.out F w ha, A.lt ha⟩
instance hasZ_left {A C : Asn} {z : Zn} [h : HasZ A z] : HasZ (A.sep C) z := ⟨fun F w ⟨F1, F2, e, _, h1, _⟩ b hb => ⟨by rw [e]; exact .inl (h.out F1 w h1 b hb).1, (h.out F1 w h1 b hb).2⟩⟩
instance hasZ_right {A C : Asn} {z : Zn} [h : HasZ C z] : HasZ (A.sep C) z := ⟨fun F w ⟨F1, F2, e, _, _, h2⟩ b hb => ⟨by rw [e]; exact .inr (h.out F2 w h2 b hb).1, (h.out F2 w h2 b hb).2⟩⟩
/-- These cells, somewhere in memory that stays. -/
structure CellsAt (z : Zn) (a : Addr) (cs : List Value) : Prop where
  spot : a.spot = none
  at_ : ∀ j u, cs[j]? = some u → z.Z a.block ∧ z.w.cell? ⟨a.block, a.off + j, none⟩ = some u
structure RowIn {T : Type} (z : Zn) (C : Codec T) (s : Sl) (xs : List T) : Prop where
  n : s.n = xs.length
  c : s.n ≤ s.c
  m : s.c ≤ maxLen
  at_ : xs = [] ∨ ∃ a, s.a = some a ∧ CellsAt z a (flat C xs)
/-- A row that grows. -/
def own {T : Type} (ty : TypeId) (C : Codec T) (s : Sl) (xs : List T) : Asn where
  at_ F w := F = (fun b => (slV s).ownBlock = some b) ∧ RowAt w ty C s xs
  keep := by rintro F w w' ⟨rfl, h⟩ hk; exact ⟨rfl, h.keep hk⟩
  lt := by rintro F w ⟨rfl, h⟩ b hb; exact h.lt hb
/-- One block, known whole. -/
def blk (b : Nat) (ty : TypeId) (cs : List Value) : Asn where
  at_ F w := F = (fun b' => b' = b) ∧ w.heap[b]? = some (.cells cs.toArray ty (0, 0))
  keep := by rintro F w w' ⟨rfl, h⟩ hk; exact ⟨rfl, (hk b rfl).trans h⟩
  lt := by rintro F w ⟨rfl, h⟩ b' rfl; exact heap_lt h

section
variable {T : Type} {z z' : Zn} {C : Codec T} {s : Sl} {xs : List T} {a : Addr} {cs : List Value}
theorem cell_heap {w w' : World} {a : Addr} (h : w'.heap[a.block]? = w.heap[a.block]?) : w'.cell? a = w.cell? a := by unfold World.cell?; rw [h]
theorem CellsAt.mono (h : CellsAt z a cs) (hz : z.le z') : CellsAt z' a cs := ⟨h.spot, fun j u hu => ⟨(hz _ (h.at_ j u hu).1).1, (cell_heap (a := ⟨a.block, a.off + j, none⟩) (hz _ (h.at_ j u hu).1).2).trans (h.at_ j u hu).2⟩⟩
theorem RowIn.mono (h : RowIn z C s xs) (hz : z.le z') : RowIn z' C s xs := ⟨h.n, h.c, h.m, h.at_.imp_right fun ⟨a, h1, h2⟩ => ⟨a, h1, h2.mono hz⟩⟩
theorem RowIn.nil (z : Zn) (C : Codec T) : RowIn z C ⟨none, 0, 0⟩ [] := ⟨rfl, Nat.le_refl _, Nat.zero_le _, .inl rfl⟩
theorem RowIn.len (h : RowIn z C s xs) : xs.length ≤ maxLen := by have := h.n; have := h.c; have := h.m; omega
theorem CellsAt.sub (h : CellsAt z a cs) (k : Nat) (part : List Value) (hp : ∀ j u, part[j]? = some u → cs[k + j]? = some u) : CellsAt z ⟨a.block, a.off + k, none⟩ part :=
  ⟨rfl, fun j u hu => by have := h.at_ (k + j) u (hp j u hu); rw [← Nat.add_assoc] at this; exact this⟩
theorem aa_eq {a : Addr} (h : a.spot = none) (k : Nat) : aa a k = .pointer (some ⟨a.block, a.off + k, none⟩) := by
  cases a with
  | mk b o sp => cases h; exact congrArg (fun x => Value.pointer (some x)) (Addr.add_mid b o k)

theorem ldIndex {P : Program} {t e : TypeId} {i : Int} {x : T} (h : RowIn z C s xs) (hu : P.underlying t = some (.slice e)) (hs : sizeT P e = some C.size) (h0 : 0 ≤ i) (hx : xs[i.toNat]? = some x) :
    ∃ a, (∀ F w, Ld P F w (Instr.indexAt t (slV s) (iV i)) (eAddr.enc a)) ∧ CellsAt z a (C.enc x) := by
  have hlt := (List.getElem?_eq_some_iff.1 hx).1
  rcases h.at_ with rfl | ⟨a, ha, hc⟩
  · simp at hlt
  obtain ⟨b, o, sp⟩ := a
  have hsp : sp = none := hc.spot
  subst hsp
  have hn := h.n
  refine ⟨⟨b, o + i.toNat * C.size, none⟩, fun F w w' _ => ?_, hc.sub (i.toNat * C.size) _ fun j u hu => ?_⟩
  · have h1 : i < s.n := by omega
    simp only [Instr.indexAt, slV, iV, asIntOf, ha, Sem.run_bind, Sem.run_pure, Result.andThen_ok, run_underlying hu w']
    simp only [h0, h1, and_self, if_true, Sem.run_bind, run_sizeOf hs, Result.andThen_ok, Sem.run_pure, Addr.add_mid]
    rfl
  · have hj : j < C.size := by have := (List.getElem?_eq_some_iff.1 hu).1; rw [C.len] at this; exact this
    rw [← List.getElem?_drop, flat_drop, List.drop_eq_getElem_cons hlt, flat_cons]
    have : xs[i.toNat] = x := by rw [List.getElem?_eq_getElem hlt] at hx; injection hx
    rw [this, List.getElem?_append_left (by rw [C.len]; exact hj)]; exact hu
theorem ldCell {P : Program} {A : Asn} [hz : HasZ A z] {t : TypeId} {v : Value} (hc : CellsAt z a cs) (k : Nat) (ha : isAggT P t = some false) (hv : cs[k]? = some v) : ∀ F w, A.at_ F w → Ld P F w (Instr.loadAt t (aa a k)) v := fun F w hA => by
  rw [aa_eq hc.spot]
  obtain ⟨h1, h2⟩ := hc.at_ k v hv
  obtain ⟨h3, h4⟩ := hz.out F w hA _ h1
  exact ld_cell ha h3 ((cell_heap (a := ⟨a.block, a.off + k, none⟩) h4).trans h2)
theorem ldCell0 {P : Program} {A : Asn} [hz : HasZ A z] {t : TypeId} {v : Value} (hc : CellsAt z a cs) (ha : isAggT P t = some false) (hv : cs[0]? = some v) : ∀ F w, A.at_ F w → Ld P F w (Instr.loadAt t (.pointer (some a))) v := fun F w hA => by
  have := ldCell (P := P) (A := A) hc 0 ha hv F w hA
  rw [aa_eq hc.spot] at this
  obtain ⟨b, o, sp⟩ := a
  have hsp : sp = none := hc.spot
  subst hsp; exact this
theorem ldAgg {P : Program} {A : Asn} [hz : HasZ A z] {t : TypeId} {n : Nat} {part : List Value} (hc : CellsAt z a cs) (k : Nat) (ha : isAggT P t = some true) (hs : sizeT P t = some n) (hp : (cs.drop k).take n = part) (hl : part.length = n) (h0 : 0 < n) :
    ∀ F w, A.at_ F w → Ld P F w (Instr.loadAt t (aa a k)) (ag part) := fun F w hA => by
  rw [aa_eq hc.spot]
  have hat : ∀ j u, part[j]? = some u → cs[k + j]? = some u := fun j u hu => by
    have hj := (List.getElem?_eq_some_iff.1 hu).1
    rw [← hp, List.getElem?_take_of_lt (by omega), List.getElem?_drop] at hu; exact hu
  have hblk : z.Z a.block := by
    cases part with
    | nil => simp at hl; omega
    | cons v vs => exact (hc.at_ _ v (hat 0 v rfl)).1
  obtain ⟨h3, h4⟩ := hz.out F w hA _ hblk
  refine ld_cells ha hs hl h3 fun j u hu => ?_
  obtain ⟨_, h2⟩ := hc.at_ _ u (hat j u hu)
  rw [Nat.add_assoc]
  exact (cell_heap (a := ⟨a.block, a.off + (k + j), none⟩) h4).trans h2
theorem ldAgg0 {P : Program} {A : Asn} [hz : HasZ A z] {t : TypeId} (hc : CellsAt z a cs) (ha : isAggT P t = some true) (hs : sizeT P t = some cs.length) (h0 : 0 < cs.length) : ∀ F w, A.at_ F w → Ld P F w (Instr.loadAt t (.pointer (some a))) (ag cs) := fun F w hA => by
  have := ldAgg (P := P) (A := A) hc 0 ha hs (by simp) rfl h0 F w hA
  rw [aa_eq hc.spot] at this
  obtain ⟨b, o, sp⟩ := a
  have hsp : sp = none := hc.spot
  subst hsp; exact this

/-- A row that grew, from now on as it is. -/
theorem own_freeze {ty : TypeId} {F : BS} {w : World} (h : ((fz z).sep (own ty C s xs)).at_ F w) : ∃ z', z.le z' ∧ RowIn z' C s xs ∧ (fz z').at_ F w := by
  obtain ⟨F1, F2, rfl, hd, ⟨h1, hlt1⟩, rfl, h2⟩ := h
  refine ⟨⟨fun b => z.Z b ∨ (slV s).ownBlock = some b, w, fun b hb => ?_⟩, fun b hb => ⟨.inl hb, (h1 b hb).2⟩, ?_, fun b hb => ⟨?_, rfl⟩, fun b hb => ?_⟩
  · rcases hb with hb | hb
    · exact hlt1 b (h1 b hb).1
    · exact h2.lt hb
  · obtain ⟨hn, hlen, hh⟩ := h2
    rcases hh with ⟨e1, e2⟩ | ⟨g, cap, cur, hv, h0, hg, h3, h4, h5, h6⟩
    · have : xs = [] := List.eq_nil_of_length_eq_zero (by omega)
      subst this
      unfold slV at e1
      injection e1 with e1 e3 e4
      exact ⟨by simp [e3], by omega, by omega, .inl rfl⟩
    · unfold slV at hv
      injection hv with hv1 hv2 hv3
      refine ⟨hn, by omega, by omega, .inr ⟨_, hv1, rfl, fun j u hu => ?_⟩⟩
      refine ⟨.inr (by simp [slV, Value.ownBlock, hv1]), ?_⟩
      unfold World.cell?
      simp only [hg]
      have hj := (List.getElem?_eq_some_iff.1 hu).1
      rw [← h6, List.getElem?_take_of_lt (by rw [flat_len, ← hn] at hj; exact hj)] at hu
      simpa using hu
  · rcases hb with hb | hb
    · exact .inl (h1 b hb).1
    · exact .inr hb
  · rcases hb with hb | hb
    · exact hlt1 b hb
    · exact h2.lt hb
theorem AT.freeze {J : Jc} {Λ : Lam} {X : Asn} {ty : TypeId} {tr : Tree} (h : ∀ z', z.le z' → RowIn z' C s xs → AT J Λ ((fz z').sep X) tr) : AT J Λ ((fz z).sep ((own ty C s xs).sep X)) tr := by
  intro hΓ F w ha hl
  obtain ⟨F1, F2, rfl, hd, h1, h2⟩ := Asn.sep_assoc' F w ha
  obtain ⟨z', k1, k2, k3⟩ := own_freeze h1
  exact h z' k1 k2 hΓ _ w ⟨F1, F2, rfl, hd, k3, h2⟩ hl
end
end Go.Sx

set_option linter.unusedVariables false
set_option maxHeartbeats 1000000
namespace Go.Sx
open Go.RowKit Asn

/-- A type of slices, and of their elements. -/
structure SlTy {T : Type} (P : Program) (t e : TypeId) (C : Codec T) : Prop where
  u : P.underlying t = some (.slice e)
  s : sizeT P e = some C.size
  pos : 0 < C.size
  info : ∃ i z, P.info? e = some i ∧ i.zero = some z ∧ i.size = C.size ∧ z.cells.size = C.size ∧ i.bytes ≤ 65536

section
variable {J : Jc} {Λ : Lam} {A C D X : Asn} {T : Type} {z z' : Zn} {K : Codec T} {s y : Sl} {xs ys : List T} {t e : TypeId}

/-! ### Parts of a row that stays -/
def Sl.cut (s : Sl) (sz l h : Nat) : Sl := ⟨if s.c = l then s.a else s.a.map (·.add (l * sz)), h - l, s.c - l⟩
theorem RowIn.cut (h : RowIn z K s xs) {l k : Nat} (hl : l ≤ k) (hk : k ≤ xs.length) : RowIn z K (s.cut K.size l k) ((xs.take k).drop l) := by
  have hn := h.n
  have hc := h.c
  have hm := h.m
  refine ⟨by simp [Sl.cut]; omega, by simp only [Sl.cut]; omega, by simp only [Sl.cut]; omega, ?_⟩
  by_cases e : s.c = l
  · left; apply List.eq_nil_of_length_eq_zero; simp; omega
  · rcases h.at_ with rfl | ⟨⟨b, o, sp⟩, ha, hcs⟩
    · left; simp
    have hsp : sp = none := hcs.spot
    subst hsp
    right
    refine ⟨⟨b, o + l * K.size, none⟩, by simp only [Sl.cut, if_neg e, ha, Option.map_some, Addr.add_mid], hcs.sub (l * K.size) _ fun j u hu => ?_⟩
    have h1 : flat K xs = flat K (xs.take l) ++ (flat K ((xs.take k).drop l) ++ flat K (xs.drop k)) := by
      rw [← flat_append, ← flat_append]
      congr 1
      have e1 : xs.take l = (xs.take k).take l := by rw [List.take_take, Nat.min_eq_left hl]
      rw [e1, ← List.append_assoc, List.take_append_drop, List.take_append_drop]
    have hj := (List.getElem?_eq_some_iff.1 hu).1
    rw [h1, List.getElem?_append_right (by rw [flat_len, List.length_take, Nat.min_eq_left (by omega)]; omega), flat_len, List.length_take, Nat.min_eq_left (by omega), Nat.add_sub_cancel_left, List.getElem?_append_left hj]
    exact hu
theorem ldCutH {P : Program} (h : RowIn z K s xs) (hu : P.underlying t = some (.slice e)) (hs : sizeT P e = some K.size) {k : Int} (h0 : 0 ≤ k) (h1 : k ≤ xs.length) (F : BS) (w : World) : Ld P F w (Instr.sliceAt t (slV s) none (some (iV k)) none) (eSl.enc (s.cut K.size 0 k.toNat)) := fun w' _ => by
  have he : P.elem t = e := by simp [Program.elem, hu]
  have ht' : P.underlying t = some (.slice (P.elem t)) := by rw [he]; exact hu
  have hn := h.n
  have hc := h.c
  unfold slV iV
  rw [run_sliceAt_slice w' t _ _ _ _ ht', run_slice_h w' t s.a s.n s.c ht' _ k h0 (by omega), he, run_sizeOf hs]
  simp [sliced, Result.andThen, eSl, slV, Sl.cut]
theorem ldCutL {P : Program} (h : RowIn z K s xs) (hu : P.underlying t = some (.slice e)) (hs : sizeT P e = some K.size) {k : Int} (h0 : 0 ≤ k) (h1 : k ≤ xs.length) (F : BS) (w : World) : Ld P F w (Instr.sliceAt t (slV s) (some (iV k)) none none) (eSl.enc (s.cut K.size k.toNat xs.length)) := fun w' _ => by
  have he : P.elem t = e := by simp [Program.elem, hu]
  have ht' : P.underlying t = some (.slice (P.elem t)) := by rw [he]; exact hu
  have hn := h.n
  have hc := h.c
  unfold slV iV
  rw [run_sliceAt_slice w' t _ _ _ _ ht', run_slice_l w' t s.a s.n s.c ht' _ k h0 (by omega), he, run_sizeOf hs]
  simp [sliced, Result.andThen, eSl, slV, Sl.cut, hn]
theorem ldCutLH {P : Program} (h : RowIn z K s xs) (hu : P.underlying t = some (.slice e)) (hs : sizeT P e = some K.size) {l k : Int} (h0 : 0 ≤ l) (hl : l ≤ k) (h1 : k ≤ xs.length) (F : BS) (w : World) : Ld P F w (Instr.sliceAt t (slV s) (some (iV l)) (some (iV k)) none) (eSl.enc (s.cut K.size l.toNat k.toNat)) := fun w' _ => by
  have he : P.elem t = e := by simp [Program.elem, hu]
  have ht' : P.underlying t = some (.slice (P.elem t)) := by rw [he]; exact hu
  have hn := h.n
  have hc := h.c
  unfold slV iV
  rw [run_sliceAt_slice w' t _ _ _ _ ht', run_slice_lh w' t s.a s.n s.c ht' _ _ l k h0 hl (by omega), he, run_sizeOf hs]
  simp [sliced, Result.andThen, eSl, slV, Sl.cut]

/-! ### What is made -/
theorem AT.keepApp {tys : Array TypeId} {ty : TypeId} {x : Value} {n : Nat} {cells : List Value} {keep : List Nat} {H : Enc} {k : H.T → Tree} (h : AT J Λ A (.append tys ty x e n cells [] H k)) (hc : Λ.cut keep = Lam.none) : AT J Λ A (.append tys ty x e n cells keep H k) := by
  intro hΓ F w ha hl
  have := h hΓ F w ha hl
  unfold TT at this ⊢
  rw [lam_cut_nil] at this
  rw [hc]; exact this
theorem AT.keepPrim {m : Sem Value} {keep : List Nat} {H : Enc} {k : H.T → Tree} (h : AT J Λ A (.prim m [] H k)) (hc : Λ.cut keep = Lam.none) : AT J Λ A (.prim m keep H k) := by
  intro hΓ F w ha hl
  have := h hΓ F w ha hl
  unfold TT at this ⊢
  rw [lam_cut_nil] at this
  rw [hc]; exact this
theorem AT.keepU {m : Sem Unit} {keep : List Nat} {k : Tree} (h : AT J Λ A (.primU m [] k)) (hc : Λ.cut keep = Lam.none) : AT J Λ A (.primU m keep k) := by
  intro hΓ F w ha hl
  have := h hΓ F w ha hl
  unfold TT at this ⊢
  rw [lam_cut_nil] at this
  rw [hc]; exact this

theorem AT.row {len : Nat} {parts : Array (Nat × Value)} {k : Sl → Tree} (hr : rowCells J.P t len parts.toList = some ((flat K xs).toArray, e)) (hl : len = xs.length) (hm : xs.length ≤ maxLen) (hk : ∀ s, AT J Lam.none (A.sep (own e K s xs)) (k s)) : AT J Λ A (.prim (Instr.buildSlice t len parts) [] eSl k) := by
  intro hΓ F w ha _
  refine TT_row hr hΓ (A.lt ha) fun b w1 hb hnb hkeep _ _ => ?_
  subst hl
  refine hk _ hΓ _ w1 ⟨F, fun b' => (slV ⟨some ⟨b, 0, none⟩, xs.length, xs.length⟩).ownBlock = some b', ?_, fun b' h1 h2 => ?_, A.keep ha hkeep, rfl, RowAt.fresh hb hm⟩ lam_none_ok
  · funext b'; simp [slV, Value.ownBlock]; constructor
    · rintro (rfl | h)
      · exact .inr rfl
      · exact .inl h
    · rintro (h | rfl)
      · exact .inr h
      · exact .inl rfl
  · simp [slV, Value.ownBlock] at h2; subst h2; exact hnb h1
theorem AT.box {ty : TypeId} {cs : List Value} {k : Nat → Tree} (hk : ∀ b, AT J Lam.none (A.sep (blk b ty cs)) (k b)) : AT J Λ A (.prim (Instr.box ty (ag cs)) [] eBlk k) := by
  intro hΓ F w ha _
  refine TT_box hΓ (A.lt ha) fun b w1 hb hnb hkeep _ _ => ?_
  refine hk b hΓ _ w1 ⟨F, fun b' => b' = b, ?_, fun b' h1 h2 => ?_, A.keep ha hkeep, rfl, hb⟩ lam_none_ok
  · funext b'; exact propext Or.comm
  · subst h2; exact hnb h1
theorem AT.store {b off : Nat} {ty ety : TypeId} {cs : List Value} {v : Value} {k : Tree} (hs : sizeT J.P ty = some v.cells.size) (hle : off + v.cells.size ≤ cs.length) (h1 : v.cells.all (·.oneCell') = true)
    (hk : AT J Lam.none ((blk b ety (splice cs off v.cells.toList)).sep A) k) : AT J Λ ((blk b ety cs).sep A) (.primU (Instr.storeAt ty (pa b off) v) [] k) := by
  rintro hΓ F w ⟨F1, F2, rfl, hd, ⟨rfl, hb⟩, ha⟩ _
  refine TT_store hΓ (fun b' hb' => ?_) (.inl rfl) hb hs hle h1 fun w1 hp hoth hsz => ?_
  · rcases hb' with rfl | hb'
    · exact heap_lt hb
    · exact A.lt ha b' hb'
  · exact hk hΓ _ w1 ⟨_, F2, rfl, hd, ⟨rfl, hp⟩, A.keep ha fun b' hb' => hoth b' (fun e => hd b' e hb') (.inr hb')⟩ lam_none_ok
theorem ldBlk {P : Program} {b off : Nat} {ty ety : TypeId} {cs : List Value} {v : Value} (ha : isAggT P ty = some false) (hv : cs[off]? = some v) : ∀ F w, ((blk b ety cs).sep A).at_ F w → Ld P F w (Instr.loadAt ty (pa b off)) v := by
  rintro F w ⟨F1, F2, rfl, hd, ⟨rfl, hb⟩, _⟩
  exact ld_one (S := fun b' => b' = b ∨ F2 b') (.inl rfl) hb ha hv
theorem ldBlkAgg {P : Program} {b off n : Nat} {ty ety : TypeId} {cs part : List Value} (ha : isAggT P ty = some true) (hs : sizeT P ty = some n) (hle : off + n ≤ cs.length) (hp : (cs.drop off).take n = part) : ∀ F w, ((blk b ety cs).sep A).at_ F w → Ld P F w (Instr.loadAt ty (pa b off)) (ag part) := by
  rintro F w ⟨F1, F2, rfl, hd, ⟨rfl, hb⟩, _⟩
  rw [← hp]
  exact ld_agg (S := fun b' => b' = b ∨ F2 b') (.inl rfl) hb ha hs hle

/-- Some more elements. -/
theorem AT.app {n : Nat} {cells : List Value} {k : Sl → Tree} (hT : SlTy J.P t e K) (hn : n = ys.length) (hc : cells = flat K ys) (hb : xs.length + ys.length ≤ 2147483648)
    (hk : ∀ y, AT J Lam.none ((own e K y (xs ++ ys)).sep A) (k y)) : AT J Λ ((own e K s xs).sep A) (.append #[t, t] t (slV s) e n cells [] eSl k) := by
  rintro hΓ F w ⟨F1, F2, rfl, hd, ⟨rfl, hr⟩, ha⟩ _
  obtain ⟨i, zv, hi, hz, his, hzs, hby⟩ := hT.info
  refine TT_append (C := K) (xs := xs) (news := ys) (G := F2) hΓ (fun b => Iff.rfl) hd (fun b hb => hb.elim hr.lt (A.lt ha b)) hr hT.u hi hz his hzs hT.pos hn hc (by simp [maxLen]; omega) ?_ fun y w1 h1 h2 h3 h4 => ?_
  · have := Nat.mul_le_mul hb hby; omega
  · refine hk y hΓ _ w1 ⟨_, F2, rfl, fun b hb hb2 => ?_, ⟨rfl, h1⟩, A.keep ha h2⟩ lam_none_ok
    rcases h4 with h4 | ⟨b', h4, h5⟩
    · exact hd b (by rw [← h4]; exact hb) hb2
    · rw [hb] at h4; injection h4 with h4; subst h4
      exact Nat.lt_irrefl _ (Nat.lt_of_lt_of_le (A.lt ha b hb2) h5)

/-- Kept looks that are as they were. -/
def LOk (P : Program) (B : Nat) (Λ : Lam) (A : Asn) : Prop := ∀ F w, A.at_ F w → Λ.ok P B F w
theorem LOk.none {P : Program} {B : Nat} {keep : List Nat} : LOk P B (Lam.none.cut keep) A := fun F w _ => by rw [cut_none]; exact lam_none_ok
theorem LOk.add {P : Program} {B : Nat} {keep : List Nat} {d : Nat} {m : Sem Value} {v : Value} (h : LOk P B (Λ.cut keep) A) (hl : d ∈ keep → ∀ F w, A.at_ F w → Ld P F w m v) : LOk P B ((Λ.add d m v).cut keep) A := by
  rintro F w ha d' m' v' ⟨h1 | ⟨rfl, rfl, rfl⟩, h2⟩
  · exact h F w ha d' m' v' ⟨h1, h2⟩
  · exact (hl h2 F w ha).stab _
/-- A row that stays, behind one that grows. -/
theorem AT.appRK {k : Sl → Tree} {keep : List Nat} [hzA : HasZ A z] (hT : SlTy J.P t e K) (hy : RowIn z K y ys) (hb : xs.length + ys.length ≤ 2147483648)
    (hΛ : ∀ v, LOk J.P J.B (Λ.cut keep) ((own e K v (xs ++ ys)).sep A)) (hk : ∀ v, AT J (Λ.cut keep) ((own e K v (xs ++ ys)).sep A) (k v)) : AT J Λ ((own e K s xs).sep A) (.prim (Builtin.append_ #[t, t] t #[slV s, slV y]) keep eSl k) := by
  rintro hΓ F w ⟨F1, F2, rfl, hd, ⟨rfl, hr⟩, ha⟩ _
  obtain ⟨i, zv, hi, hz, his, hzs, hby⟩ := hT.info
  intro w' hag
  have hr' : RowAt w' e K s xs := hr.keep fun b hb => hag.block b (.inr (.inl hb))
  have ha' : A.at_ F2 w' := A.keep ha fun b hb => hag.block b (.inr (.inr hb))
  have hyn := hy.n
  have hbytes : (s.n + ys.length) * i.bytes ≤ 140737488355328 := by rw [hr.1]; have := Nat.mul_le_mul hb hby; omega
  have h63 : s.n + ys.length ≤ maxLen := by rw [hr.1]; simp [maxLen]; omega
  have fin : ∀ v' w1, (Builtin.append_ #[t, t] t #[slV s, slV y]).run J.P w' = .ok v' w1 → w1.ownsRow 0 e K.size v' (s.n + ys.length) (flat K xs ++ flat K ys) → w'.grownBy w1 (slV s).ownBlock → (v'.ownBlock = (slV s).ownBlock ∨ v'.ownBlock = some w'.heap.size) →
      ∃ x S1 w1, (Builtin.append_ #[t, t] t #[slV s, slV y]).run J.P w' = .ok (eSl.enc x) w1 ∧ Step (fun b => (slV s).ownBlock = some b ∨ F2 b) w' S1 w1 ∧ (Λ.cut keep).ok J.P J.B S1 w1 ∧ TT J.P J.B J.R (k x) J.Γ (Λ.cut keep) S1 w1 := by
    intro v' w1 hrun hown hgr hat
    obtain ⟨v, rfl, hvn⟩ := ownsRow_sl hown
    have hrow : RowAt w1 e K v (xs ++ ys) := ⟨by rw [hvn, hr.1, List.length_append], by rw [hvn, flat_append]; exact hown⟩
    have ha1 : A.at_ F2 w1 := A.keep ha' fun b hb => hgr.block b (A.lt ha' b hb) fun e => hd b e.symm hb
    have hdis : ∀ b, (slV v).ownBlock = some b → ¬ F2 b := fun b hb hb2 => by
      rcases hat with h | h
      · exact hd b (by rw [← h]; exact hb) hb2
      · rw [hb] at h; injection h with h; subst h
        exact Nat.lt_irrefl _ (A.lt ha' _ hb2)
    refine ⟨v, fun b => (slV v).ownBlock = some b ∨ F2 b, w1, hrun, ⟨⟨hgr.os, hgr.tape, hgr.output, hgr.size, fun b hb hn => hgr.block b hb fun e => hn (.inl e.symm)⟩, fun b hb => ?_, fun b hb => ?_⟩, ?_, ?_⟩
    · rcases hb with hb | hb
      · rcases hat with h | h
        · exact .inl (.inl (by rw [← h]; exact hb))
        · right; rw [hb] at h; injection h with h; omega
      · exact .inl (.inr hb)
    · rcases hb with hb | hb
      · exact hrow.lt hb
      · exact A.lt ha1 b hb
    · exact hΛ v _ w1 ⟨_, F2, rfl, hdis, ⟨rfl, hrow⟩, ha1⟩
    · exact hk v hΓ _ w1 ⟨_, F2, rfl, hdis, ⟨rfl, hrow⟩, ha1⟩ (hΛ v _ w1 ⟨_, F2, rfl, hdis, ⟨rfl, hrow⟩, ha1⟩)
  cases hya : y.a with
  | none =>
    have h0 : ys = [] := by
      rcases hy.at_ with h | ⟨a, h, _⟩
      · exact h
      · rw [hya] at h; cases h
    subst h0
    have hslv : slV y = .slice none 0 y.c := by unfold slV; rw [hya]; simp at hyn; rw [hyn]
    have hle : s.n ≤ s.c := by
      rcases hr'.2.2 with ⟨h1, h2⟩ | ⟨g, cap, cur, hv, _, _, h1, _⟩
      · unfold slV at h1; injection h1 with _ h3 h4; omega
      · unfold slV at hv; injection hv with _ _ h4; omega
    refine fin (slV s) w' ?_ ?_ ⟨rfl, rfl, rfl, Nat.le_refl _, fun _ _ _ => rfl⟩ (.inl rfl)
    · rw [hslv]
      exact run_append_nothing w' t t t e i hT.u hi s.a s.n s.c hle _ (Src.ofNil w' hT.u y.c)
    · simp only [flat_nil, List.append_nil, List.length_nil, Nat.add_zero]; exact hr'.2
  | some a =>
    have hcells : ∀ j u, (flat K ys)[j]? = some u → w'.cell? (a.add j) = some u := by
      intro j u hu
      rcases hy.at_ with h | ⟨a', h, hc⟩
      · subst h; simp [flat] at hu
      · rw [hya] at h; injection h with h; subst h
        obtain ⟨h1, h2⟩ := hc.at_ j u hu
        have h3 := (hzA.out F2 w' ha' _ h1).2
        obtain ⟨b, o, sp⟩ := a
        have hsp : sp = none := hc.spot
        subst hsp
        rw [Addr.add_mid]
        exact (cell_heap (a := ⟨b, o + j, none⟩) h3).trans h2
    obtain ⟨v', w1, hrun, hown, hgr, _, hat⟩ := run_append_own_at (P := J.P) w' 0 t t e i zv K.size i.bytes hT.u hi hz his rfl hzs hT.pos (slV s) s.n (flat K xs) hr'.2 a ys.length y.c (flat K ys) (flat_len K ys) hcells (flat_one K ys) h63 hbytes (Nat.zero_le _)
    have hslv : slV y = .slice (some a) ys.length y.c := by unfold slV; rw [hya, hyn]
    exact fin v' w1 (by rw [hslv]; exact hrun) hown hgr hat
theorem AT.appR {k : Sl → Tree} [hzA : HasZ A z] (hT : SlTy J.P t e K) (hy : RowIn z K y ys) (hb : xs.length + ys.length ≤ 2147483648)
    (hk : ∀ v, AT J Lam.none ((own e K v (xs ++ ys)).sep A) (k v)) : AT J Λ ((own e K s xs).sep A) (.prim (Builtin.append_ #[t, t] t #[slV s, slV y]) [] eSl k) :=
  AT.appRK hT hy hb (fun v F w _ => by rw [lam_cut_nil]; exact lam_none_ok) fun v => by rw [lam_cut_nil]; exact hk v
theorem AT.freezeR {tr : Tree} (h : ∀ z', z.le z' → RowIn z' K s xs → AT J Λ (fz z') tr) : AT J Λ ((own e K s xs).sep (fz z)) tr :=
  AT.imp (sep_comm.trans (Imp.sep (Imp.refl _) sep_emp')) (AT.freeze fun z' h1 h2 => AT.imp sep_emp (h z' h1 h2))
theorem AT.iteNe {x y : Int} {T1 T2 : Tree} (h1 : x ≠ y → AT J Λ A T1) (h2 : x = y → AT J Λ A T2) : AT J Λ A (.ite (x != y) T1 T2) := AT.ite (fun h => h1 fun e => by subst e; simp at h) (fun h => h2 (by simpa using h))
theorem own_nil {A : Asn} {e : TypeId} {K : Codec T} : A.Imp ((own e K ⟨none, 0, 0⟩ []).sep A) := fun F w ha => ⟨fun b => (slV ⟨none, 0, 0⟩).ownBlock = some b, F, by funext b; simp [slV, Value.ownBlock], fun b hb => by simp [slV, Value.ownBlock] at hb, ⟨rfl, RowAt.nil w e K⟩, ha⟩
end
end Go.Sx

set_option linter.unusedVariables false
set_option maxHeartbeats 1000000
namespace Go.Sx
open Go.RowKit Asn

/-- All elder memory. -/
def zAll (w : World) : Zn := ⟨fun b => b < w.heap.size, w, fun _ h => h⟩
section
variable {P : Program} {f : FuncId} {args : List Value} {H : Enc} {Y : Type} {φ : H.T → Y → Prop} {w : World}
theorem Fn.calls (h : Fn P f args (fz (zAll w)) H Y φ fun _ _ => fz (zAll w)) : Calls P f args.toArray w fun e w' => ∃ x y, e = .returned (H.enc x) ∧ φ x y ∧ Below w.heap.size w w' :=
  (h (fun b => b < w.heap.size) w ⟨fun b hb => ⟨hb, rfl⟩, fun b hb => hb⟩).2.mono fun e w' ⟨v, F1, he, hs, x, y, hv, hx, hA⟩ => ⟨x, y, by rw [he, hv], hx, hs.fr.os, hs.fr.tape, hs.fr.output, hs.fr.size, fun b hb => (hA.1 b hb).2⟩
theorem Fn.cb {z : Zn} (h : Fn P f args (fz z) H Y φ fun _ _ => fz z) : callB P f = true := (h z.Z z.w ⟨fun b hb => ⟨hb, rfl⟩, z.lt⟩).1
theorem Fn.quiet (x : H.T) (h : ∀ z, Fn P f args (fz z) H Y φ fun _ _ => fz z) (hx : ∀ y u, φ y u → y = x) : Quiet P f args (H.enc x) :=
  ⟨(h ⟨none0, default, fun b hb => hb.elim⟩).cb, fun w => (h (zAll w)).calls.mono fun e w' ⟨y, u, he, hp, hb⟩ => ⟨by rw [he, hx y u hp], hb⟩⟩
theorem Quiet.fn {x : H.T} (h : Quiet P f args (H.enc x)) (A : Asn) : Fn P f args A H Unit (fun y _ => y = x) fun _ _ => A := fun F w hA =>
  (h.spec (A.lt hA)).mono fun v F1 w1 _ ⟨h1, h2, h3⟩ => ⟨x, (), h1, rfl, by rw [h2]; exact A.keep hA h3⟩
theorem AT.quiet {J : Jc} {Λ : Lam} {A : Asn} {k : H.T → Tree} (x : H.T) (h : Quiet J.P f args (H.enc x)) (hk : AT J Lam.none A (k x)) : AT J Λ A (.call f args.toArray [] H k) :=
  AT.call0 (h.fn A) fun y _ hy => by subst hy; exact hk
/-- A quiet call between looks that are kept: the looks are the same in any memory that is as before. -/
theorem AT.quietK {J : Jc} {Λ : Lam} {A : Asn} {keep : List Nat} {k : H.T → Tree} (x : H.T) (h : Quiet J.P f args (H.enc x)) (hΛ : LOk J.P J.B (Λ.cut keep) A) (hk : AT J (Λ.cut keep) A (k x)) : AT J Λ A (.call f args.toArray keep H k) :=
  AT.callK (h.fn A) (fun y _ F w hA => hΛ F w hA) fun y _ hy => by subst hy; exact hk
theorem RowIn.block {T : Type} {C : Codec T} {e : TypeId} {b : Nat} {xs : List T} (h : w.heap[b]? = some (.cells (flat C xs).toArray e (0, 0))) (hl : xs.length ≤ maxLen) : RowIn (zAll w) C ⟨some ⟨b, 0, none⟩, xs.length, xs.length⟩ xs :=
  ⟨rfl, Nat.le_refl _, hl, .inr ⟨⟨b, 0, none⟩, rfl, rfl, fun j u hu => ⟨heap_lt h, by unfold World.cell?; show (match w.heap[b]? with | some (Obj.cells c _ _) => if (none : Option _).isSome then none else c[0 + j]? | _ => none) = some u; rw [h]; simpa using hu⟩⟩⟩
end
end Go.Sx

set_option linter.unusedVariables false
namespace Go.Sx
open Asn Go.RowKit
/-- Tides, in this program. -/
noncomputable def tdI : TI where
  P := Go.Proofs.Try.prog
  tI := 3
  tIS := 22
  tTide := 39
  fOf := 133
  fPlus := 134
theorem prog_mix : Go.Proofs.Try.prog.follows .mixedOrders = true := by kernel_rfl
theorem tdI_ok : tdI.Ok where
  ok := ⟨fun f g args v h _ => (by cases h), fun t n f h => (by cases h), fun f g e n cells v h _ => (by cases h)⟩
  mix := prog_mix
  plus a b := fnT (fn := Go.Proofs.Try.f134) (fc := {}) (by kernel_rfl) (by kernel_rfl) (by kernel_rfl)
  of s := fnT (fn := Go.Proofs.Try.f133) (fc := tdI.fcOf) (by kernel_rfl) (by kernel_rfl) (by kernel_rfl)
  aI := by kernel_rfl
  sI := by kernel_rfl
  uIS := by kernel_rfl
theorem slInt : SlTy Go.Proofs.Try.prog 22 3 intCd := ⟨by kernel_rfl, by kernel_rfl, by decide, ⟨(Go.Proofs.Try.prog.info? 3).get (by kernel_rfl), ((Go.Proofs.Try.prog.info? 3).get (by kernel_rfl)).zero.get (by kernel_rfl), by kernel_rfl, by kernel_rfl, by kernel_rfl, by kernel_rfl, Nat.le_of_ble_eq_true (by kernel_rfl)⟩⟩
theorem aInt : isAggT Go.Proofs.Try.prog 3 = some false := by kernel_rfl
theorem tPlus_q (a b : Tide) : Quiet Go.Proofs.Try.prog 134 [ag (tideC a), ag (tideC b)] (ag (tideC (a.plus b))) := tdI_ok.plus_q a b
theorem of_fn {z : Zn} {s : Sl} {xs : List Int} (h : RowIn z intCd s xs) : Fn Go.Proofs.Try.prog 133 [slV s] (fz z) eTide Unit (fun x _ => x = Tide.of xs) fun _ _ => fz z := by
  refine Fn.of (c := tdI.cfg) rfl tdI_ok.ok prog_mix (tdI_ok.of s) fun B => ?_
  unfold TI.ofT
  have hsn := h.n
  have hl63 := h.len
  refine AT.loop (Y := Unit) (fun (r : Tide × Int) _ => ∃ n : Nat, r.2 = n ∧ n ≤ xs.length ∧ r.1 = Tide.of (xs.take n)) (fun _ _ => fz z) (fun r => xs.length - r.2.toNat) ((⟨0, 0, 0⟩ : Tide), (0 : Int)) () rfl ⟨0, rfl, Nat.zero_le _, rfl⟩ (Imp.refl _) ?_
  rintro G ⟨v, l⟩ y ⟨n, rfl, hn, rfl⟩ hag
  refine AT.iteD (fun hb => ?_) (fun hb => ?_)
  · have hlt : n < xs.length := by simp only at hb; omega
    obtain ⟨a, hl, hc⟩ := ldIndex (x := xs[n]) h slInt.u slInt.s (Int.natCast_nonneg n) (by simp)
    refine AT.ld (H := eAddr) a (fun F w _ => hl F w) ?_
    refine AT.ld (H := eInt) xs[n] (ldCell0 hc aInt rfl) ?_
    refine AT.quiet (H := eTide) ((Tide.of (xs.take n)).plus ⟨1, xs[n], xs[n]⟩) (tPlus_q _ _) ?_
    have hw : wr ((n : Int) + 1) = ((n + 1 : Nat) : Int) := by rw [wr_id (by omega) (by simp [maxLen] at hl63; omega)]; omega
    rw [hw]
    refine AT.again rfl (hag ((Tide.of (xs.take n)).plus ⟨1, xs[n], xs[n]⟩, ((n + 1 : Nat) : Int)) () ⟨n + 1, rfl, hlt, ?_⟩ (by simp only; omega))
    rw [List.take_add_one, List.getElem?_eq_getElem hlt]; simp only [Tide.of, Option.toList_some, List.foldl_append, List.foldl_cons, List.foldl_nil]
  · have : n = xs.length := by simp only at hb; omega
    subst this
    exact AT.ret (H := eTide) (Tide.of (xs.take xs.length)) () rfl (by rw [List.take_length]) (Imp.refl _)
theorem ofOne_q (x : Int) (w : World) (b : Nat) (h : w.heap[b]? = some (.cells (List.toArray [iV x]) 3 (0, 0))) : Calls Go.Proofs.Try.prog 133 #[.slice (some ⟨b, 0, none⟩) 1 1] w fun e w' => e = .returned (ag (tideC (Tide.of [x]))) ∧ Below w.heap.size w w' :=
  (of_fn (RowIn.block (C := intCd) (xs := [x]) h (by simp [maxLen]))).calls.mono fun e w' ⟨y, _, he, hy, hb⟩ => ⟨by rw [he, hy]; rfl, hb⟩
end Go.Sx
