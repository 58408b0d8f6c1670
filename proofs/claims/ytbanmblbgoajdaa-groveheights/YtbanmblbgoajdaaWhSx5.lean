import Derived.Test.YtbanmblbgoajdaaWhSx4
set_option linter.unusedVariables false
namespace Go.Sx
open Go.RowKit

/-- s tells of each slot what s0 does, or nothing. -/
structure Le (s s0 : List SV) : Prop where
  at_ : ∀ (t : Nat) (x : SV), s[t]? = some x → x = SV.any ∨ s0[t]? = some x

/-- What the configuration is trusted for. -/
structure Cfg.Ok (c : Cfg) : Prop where
  pure : ∀ f g args v, c.pure f = some g → g args = some v → callB c.P f = true ∧ ∀ w, Calls c.P f args.toArray w fun e w' => e = .returned v ∧ Below w.heap.size w w'
  meth : ∀ t n f, c.meth t n = some f → ∀ v w, (method (c.P.types.size + Made.depth) t v n).run c.P w = .ok (f, v) w

inductive Eff (P : Program) (B : Nat) (S : BS) (s0 : List SV) (a : Act) (w : World) (ρ : Nat → Nat) (o : Oper) : Out → Prop where
  | val (d : Nat) (v : SV) (x : Value) : o.dst = some d → (execOp a.eval o).run P w = .ok (.value x) w → (∀ t, den ρ t v x) → isBox v = false → (∀ j off, v = .loc j off → BoxAt s0 j) → Eff P B S s0 a w ρ o (.upd d v)
  | nop (x : Value) : o.dst = none → (execOp a.eval o).run P w = .ok (.value x) w → Eff P B S s0 a w ρ o .nop
  | alloc (d : Nat) (ty : TypeId) (cells : List Value) : o.dst = some d → (∀ t a x, o.op ≠ .store t a x) → (execOp a.eval o).run P w = .ok (.value (.pointer (some ⟨w.heap.size, 0, none⟩))) (w.alloc (.cells cells.toArray ty)) →
      Eff P B S s0 a w ρ o (.upd d (.box ty cells))
  | scrub (d : Nat) (ty : TypeId) (cells : List Value) : o.dst = some d → (execOp a.eval o).run P w = .ok (.value (.pointer (some ⟨w.heap.size, 0, none⟩))) (w.alloc (.cells cells.toArray ty)) →
      Eff P B S s0 a w ρ o (.scrub d (.box ty cells))
  | row (d : Nat) (ty : TypeId) (n : Nat) (cells : List Value) : o.dst = some d → (∀ t a x, o.op ≠ .store t a x) → (execOp a.eval o).run P w = .ok (.value (.slice (some ⟨w.heap.size, 0, none⟩) n n)) (w.alloc (.cells cells.toArray ty)) →
      Eff P B S s0 a w ρ o (.upd d (.row ty n cells))
  | store (j : Nat) (ty : TypeId) (cells cells' : List Value) : s0[j]? = some (.box ty cells) → (execOp a.eval o).run P w = .ok .skip (w.setRow (ρ j) cells'.toArray) → (∃ t a x, o.op = .store t a x) → Eff P B S s0 a w ρ o (.upd j (.box ty cells'))
  | pcall (f : FuncId) (args : List Value) (v : Value) : (execOp a.eval o).run P w = .ok (.enter f args.toArray) w → (∀ w, Calls P f args.toArray w fun e w' => e = .returned v ∧ Below w.heap.size w w') → Eff P B S s0 a w ρ o (.pcall f args v)
  | call (f : FuncId) (args : List Value) (H : Hint) : (callB P f = true → (execOp a.eval o).run P w = .ok (.enter f args.toArray) w) → Eff P B S s0 a w ρ o (.call f args H)
  | prim (m : Sem Value) (H : Hint) : (∀ x w1, m.run P w = .ok x w1 → (execOp a.eval o).run P w = .ok (.value x) w1) → Eff P B S s0 a w ρ o (.prim m H)
  | primU (m : Sem Unit) : (∀ w1, m.run P w = .ok () w1 → (execOp a.eval o).run P w = .ok .skip w1) → Eff P B S s0 a w ρ o (.primU m)
  | append (tys : Array TypeId) (ty : TypeId) (x : Value) (e : TypeId) (n : Nat) (cells : List Value) (H : Hint) (t : Nat) : s0[t]? = some (.row e n cells) →
      (∀ y w1, (Builtin.append_ tys ty #[x, .slice (some ⟨ρ t, 0, none⟩) n n]).run P w = .ok y w1 → (execOp a.eval o).run P w = .ok (.value y) w1) → Eff P B S s0 a w ρ o (.append tys ty x e n cells H)
  | loadS (m : Sem Value) (H : Hint) : (∀ x w1, m.run P w = .ok x w1 → (execOp a.eval o).run P w = .ok (.value x) w1) → Eff P B S s0 a w ρ o (.loadS m H)

section
variable {c : Cfg} {fc : Fc} {B : Nat} {S : BS} {s s0 : List SV} {a : Act} {w : World} {ρ : Nat → Nat} {o : Oper}

theorem svO_den (hG : Gam B S s0 a w ρ) (hl : Le s s0) (x : Operand) (sv : SV) (h : svO s x = sv) (hsv : sv ≠ .any) :
    (∀ t, den ρ t sv (a.eval x)) ∧ isBox sv = false ∧ (∀ j off, sv = .loc j off → BoxAt s0 j) ∧ (∀ j off, sv = .loc j off → a.eval x = .pointer (some ⟨ρ j, off, none⟩)) ∧ (∀ v, plain sv = some v → a.eval x = v) := by
  have key : (∀ t, den ρ t sv (a.eval x)) ∧ isBox sv = false ∧ (∀ j off, sv = .loc j off → BoxAt s0 j) := by
    cases x with
    | tmp t =>
      simp only [svO] at h
      cases hs : s[t]? with
      | none => rw [hs] at h; exact absurd h.symm hsv
      | some y =>
        rw [hs] at h
        rcases hl.at_ t y hs with rfl | h0
        · exact absurd h.symm hsv
        · have hd := hG.slot t y h0
          have he : a.eval (.tmp t) = a.tmps.getD t undef := rfl
          cases y with
          | any => exact absurd h.symm hsv
          | v x => subst h; exact ⟨fun _ => by rw [he]; exact hd, rfl, fun _ _ e => by cases e⟩
          | lit b => subst h; exact ⟨fun _ => by rw [he]; exact hd, rfl, fun _ _ e => by cases e⟩
          | box ty cells => subst h; exact ⟨fun _ => by rw [he]; exact hd, rfl, fun _ _ e => by injection e with e1 e2; subst e1; exact ⟨_, h0, rfl⟩⟩
          | loc j off => subst h; exact ⟨fun _ => by rw [he]; exact hd, rfl, fun _ _ e => by injection e with e1 e2; subst e1; exact hG.loc t _ _ h0⟩
          | row e n cells => exact absurd h.symm hsv
    | const v =>
      cases v <;> (simp only [svO] at h; subst h; exact ⟨fun _ => rfl, rfl, fun _ _ e => by cases e⟩)
    | global g => simp only [svO] at h; subst h; exact ⟨fun _ => rfl, rfl, fun _ _ e => by cases e⟩
    | func f => simp only [svO] at h; subst h; exact ⟨fun _ => rfl, rfl, fun _ _ e => by cases e⟩
  refine ⟨key.1, key.2.1, key.2.2, fun j off e => by subst e; exact key.1 0, fun v hv => ?_⟩
  cases sv <;> simp [plain] at hv
  · subst hv; exact key.1 0
  · subst hv; exact key.1 0

theorem plain_eval (hG : Gam B S s0 a w ρ) (hl : Le s s0) {x : Operand} {v : Value} (h : plain (svO s x) = some v) : a.eval x = v :=
  (svO_den hG hl x _ rfl (by intro e; rw [e] at h; cases h)).2.2.2.2 v h

theorem plains_eval (hG : Gam B S s0 a w ρ) (hl : Le s s0) : ∀ {xs : List Operand} {vs : List Value}, plains s xs = some vs → xs.map a.eval = vs
  | [], vs, h => by simp [plains] at h; simp [h]
  | x :: xs, vs, h => by
    simp only [plains, List.mapM_cons, Option.bind_eq_bind, Option.bind_eq_some_iff, Option.pure_def, Option.some.injEq] at h
    obtain ⟨v, hv, vs', hvs, rfl⟩ := h
    rw [List.map_cons, plain_eval hG hl hv, plains_eval hG hl hvs]

theorem plains_mem {xs : List Operand} {vs : List Value} (h : plains s xs = some vs) : ∀ x ∈ xs, ∃ v, plain (svO s x) = some v := by
  induction xs generalizing vs with
  | nil => intro x hx; cases hx
  | cons y ys ih =>
    simp only [plains, List.mapM_cons, Option.bind_eq_bind, Option.bind_eq_some_iff, Option.pure_def, Option.some.injEq] at h
    obtain ⟨v, hv, vs', hvs, rfl⟩ := h
    intro x hx
    rcases List.mem_cons.1 hx with rfl | hx
    · exact ⟨v, hv⟩
    · exact ih hvs x hx

theorem runPure_run (hG : Gam B S s0 a w ρ) (hl : Le s s0) {P : Program} {v : Value} (hs : ∀ cs b, o.op ≠ .select cs b) (h : runPure P s o = some v) : (execOp a.eval o).run P w = .ok (.value v) w := by
  simp only [runPure] at h
  cases hp : plains s o.op.operands.toList with
  | none => rw [hp] at h; cases h
  | some vs =>
    rw [hp] at h
    simp only at h
    have hc : execOp a.eval o = execOp (fun x => (plain (svO s x)).getD undef) o := execOp_congr o hs (fun x hx => by
      obtain ⟨v, hv⟩ := plains_mem hp x (by simpa using hx)
      rw [plain_eval hG hl hv, hv]; rfl)
    split at h
    · rename_i v' hr
      injection h with h; subst h
      rw [hc]; exact pureRun_run _ _ hr w
    · cases h

theorem mkUpd_val {P : Program} {v : SV} {x : Value} (hr : (execOp a.eval o).run P w = .ok (.value x) w) (hd : ∀ t, den ρ t v x) (hb : isBox v = false) (hl : ∀ j off, v = .loc j off → BoxAt s0 j) :
    Eff P B S s0 a w ρ o (mkUpd o.dst v) := by
  unfold mkUpd
  cases h : o.dst with
  | none => exact .nop x h hr
  | some d => exact .val d v x h hr hd hb hl

theorem eff_pure (hG : Gam B S s0 a w ρ) (hl : Le s s0) {P : Program} {u : Out} (hs : ∀ cs b, o.op ≠ .select cs b) (h : ((runPure P s o).map fun v => mkUpd o.dst (.v v)) = some u) : Eff P B S s0 a w ρ o u := by
  rw [Option.map_eq_some_iff] at h
  obtain ⟨v, hv, rfl⟩ := h
  exact mkUpd_val (runPure_run hG hl hs hv) (fun _ => rfl) rfl (fun _ _ e => by cases e)

theorem run_box_new {P : Program} (ty : TypeId) (v : Value) : (Instr.box ty v).run P w = .ok (.pointer (some ⟨w.heap.size, 0, none⟩)) (w.alloc (.cells v.cells ty)) := by
  simp only [Instr.box, newVar, newRow, newObj, Sem.run_bind, Sem.run, Result.andThen_ok]; rfl
theorem run_alloc_new {P : Program} (ty : TypeId) (z : Value) (hz : zeroT P ty = some z) : (Instr.alloc ty true (.tuple #[])).run P w = .ok (.pointer (some ⟨w.heap.size, 0, none⟩)) (w.alloc (.cells z.cells ty)) := by
  unfold zeroT at hz
  cases hi : P.info? ty with
  | none => rw [hi] at hz; cases hz
  | some i =>
    rw [hi] at hz
    simp only [Option.bind_some] at hz
    simp only [Instr.alloc, zeroValue, typeInfo, program, newVar, newRow, newObj, Sem.run_bind, Sem.run_pure, Sem.run, Result.andThen_ok, hi, hz]; rfl

theorem run_isAgg {P : Program} {t : TypeId} {b : Bool} (h : isAggT P t = some b) : (isAgg t).run P w = .ok b w := by
  unfold isAggT at h
  unfold isAgg
  cases hu : P.underlying t with
  | none => rw [hu] at h; cases h
  | some d =>
    rw [hu] at h
    rw [Sem.run_bind, run_underlying hu w]
    cases d <;> simp at h <;> subst h <;> rfl
theorem run_sizeOf {P : Program} {t : TypeId} {n : Nat} (h : sizeT P t = some n) : (sizeOf t).run P w = .ok n w := by
  unfold sizeT at h
  cases hi : P.info? t with
  | none => rw [hi] at h; cases h
  | some i =>
    rw [hi] at h
    simp only [Option.map_some, Option.some.injEq] at h
    simp only [sizeOf, typeInfo, program, Sem.run_bind, Sem.run, Result.andThen_ok, hi]
    rw [← h]; rfl

theorem run_row {P : Program} {t : TypeId} {len : Nat} {parts : Array (Nat × Value)} {cs : Array Value} {e : TypeId} (h : rowCells P t len parts.toList = some (cs, e)) :
    (Instr.buildSlice t len parts).run P w = .ok (.slice (some ⟨w.heap.size, 0, none⟩) len len) (w.alloc (.cells cs e)) := by
  unfold rowCells at h
  split at h
  case h_2 => cases h
  rename_i e0 hu
  split at h
  case h_2 => cases h
  rename_i size hs
  split at h
  case isFalse => cases h
  rename_i hle
  have hle' : ¬ len * size > 2 ^ 24 := by have := Nat.le_of_ble_eq_true hle; omega
  split at h
  case h_2 => cases h
  rename_i zero hz
  split at h
  case h_2 => cases h
  rename_i cells hf
  injection h with h; injection h with h1 h2; subst h1 h2
  simp only [Instr.buildSlice, Sem.run_bind, run_underlying hu w, Result.andThen_ok, run_sizeOf hs, if_neg hle']
  by_cases h0 : len * size = 0
  · have hb : Nat.beq (len * size) 0 = true := by simp [h0]
    rw [if_pos hb] at hz
    injection hz with hz; subst hz
    simp only [if_pos h0, Sem.run_pure, Result.andThen_ok, hf, newRow, newObj, Sem.run_bind, Sem.run]; rfl
  · have hb : ¬ Nat.beq (len * size) 0 = true := by intro hh; exact h0 (Nat.eq_of_beq_eq_true hh)
    rw [if_neg hb, Option.map_eq_some_iff] at hz
    obtain ⟨z, hz1, hz2⟩ := hz
    unfold zeroT at hz1
    cases hi : P.info? e0 with
    | none => rw [hi] at hz1; cases hz1
    | some i =>
      rw [hi] at hz1
      simp only [Option.bind_some] at hz1
      subst hz2
      simp only [if_neg h0, zeroValue, typeInfo, program, Sem.run_bind, Sem.run_pure, Sem.run, Result.andThen_ok, hi, hz1, hf, newRow, newObj]; rfl

theorem run_load_agg {P : Program} {t : TypeId} {b off n : Nat} {cells : List Value} {ty : TypeId} (hh : w.heap[b]? = some (.cells cells.toArray ty (0, 0))) (ha : isAggT P t = some true) (hs : sizeT P t = some n) (hle : off + n ≤ cells.length) :
    (Instr.loadAt t (.pointer (some ⟨b, off, none⟩))).run P w = .ok (.agg ((cells.drop off).take n).toArray) w := by
  have hlen : ((cells.drop off).take n).length = n := by simp; omega
  have hl : (loadCells ⟨b, off, none⟩ n).run P w = .ok ((cells.drop off).take n).toArray w := by
    have := run_loadCells_list (P := P) w ⟨b, off, none⟩ ((cells.drop off).take n) (fun j v hv => by
      rw [Addr.add_mid]
      have hj : j < n := by have := (List.getElem?_eq_some_iff.1 hv).1; omega
      rw [List.getElem?_take_of_lt hj, List.getElem?_drop] at hv
      simp [World.cell?, hh, hv])
    rw [hlen] at this; exact this
  simp only [Instr.loadAt, Instr.sureAddr, loadVar, Sem.run_bind, Sem.run_pure, Result.andThen_ok, run_isAgg ha, if_true, run_sizeOf hs, hl]
theorem run_load_one {P : Program} {t : TypeId} {b off : Nat} {cells : List Value} {ty : TypeId} {v : Value} (hh : w.heap[b]? = some (.cells cells.toArray ty (0, 0))) (ha : isAggT P t = some false) (hv : cells[off]? = some v) :
    (Instr.loadAt t (.pointer (some ⟨b, off, none⟩))).run P w = .ok v w := by
  simp only [Instr.loadAt, Instr.sureAddr, loadVar, Sem.run_bind, Sem.run_pure, Result.andThen_ok, run_isAgg ha, Bool.false_eq_true, if_false, load, Sem.run]
  simp [World.cell?, hh, hv]
theorem run_store_box {P : Program} {t : TypeId} {b off : Nat} {cells : List Value} {ty : TypeId} {v : Value} (hh : w.heap[b]? = some (.cells cells.toArray ty (0, 0))) (hs : sizeT P t = some v.cells.size) (hle : off + v.cells.size ≤ cells.length) (h1 : v.cells.all (·.oneCell') = true) :
    (Instr.storeAt t (.pointer (some ⟨b, off, none⟩)) v).run P w = .ok () (w.setRow b (splice cells off v.cells.toList).toArray) := by
  have := run_storeCells_at (P := P) b off ty v.cells.toList 0 cells.toArray w hh (by simpa using hle) (fun u hu => (Array.all_eq_true_iff_forall_mem.1 h1) u (by simpa using hu))
  simp only [Nat.add_zero, Array.length_toList] at this
  simp only [Instr.storeAt, Instr.sureAddr, storeVar, Sem.run_bind, Sem.run_pure, Result.andThen_ok, run_sizeOf hs, ne_eq, not_true, if_false, this]
  simp [splice]
end
end Go.Sx
