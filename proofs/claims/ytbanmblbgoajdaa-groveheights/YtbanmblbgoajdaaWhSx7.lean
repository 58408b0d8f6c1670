import Derived.Test.YtbanmblbgoajdaaWhSx6
set_option linter.unusedVariables false
set_option maxHeartbeats 2000000
namespace Go.Sx
open Go.RowKit

section
variable {c : Cfg} {fc : Fc} {B : Nat} {S : BS} {s s0 : List SV} {a : Act} {w : World} {ρ : Nat → Nat} {o : Oper}

/-- A slot's box, as both tell it. -/
theorem Le.some_ (hl : Le s s0) {t : Nat} {x : SV} (h : s[t]? = some x) (hx : x ≠ .any) : s0[t]? = some x := (hl.at_ t x h).resolve_left hx

theorem svO_loc (hG : Gam B S s0 a w ρ) (hl : Le s s0) {x : Operand} {j off : Nat} (h : svO s x = .loc j off) : a.eval x = .pointer (some ⟨ρ j, off, none⟩) ∧ BoxAt s0 j :=
  have k := svO_den hG hl x _ h (by simp)
  ⟨k.2.2.2.1 j off rfl, k.2.2.1 j off rfl⟩
theorem svO_v (hG : Gam B S s0 a w ρ) (hl : Le s s0) {x : Operand} {v : Value} (h : svO s x = .v v) : a.eval x = v :=
  (svO_den hG hl x _ h (by simp)).2.2.2.2 v rfl

theorem move_eff (hG : Gam B S s0 a w ρ) (hl : Le s s0) {P : Program} {x : Operand} {sv : SV} (h : svO s x = sv) (hsv : sv ≠ .any) (hr : (execOp a.eval o).run P w = .ok (.value (a.eval x)) w) : Eff P B S s0 a w ρ o (mkUpd o.dst sv) :=
  have k := svO_den hG hl x sv h hsv
  mkUpd_val hr k.1 k.2.1 k.2.2.1

theorem loc_eff {P : Program} {j off : Nat} (hb : BoxAt s0 j) (hr : (execOp a.eval o).run P w = .ok (.value (.pointer (some ⟨ρ j, off, none⟩))) w) : Eff P B S s0 a w ρ o (mkUpd o.dst (.loc j off)) :=
  mkUpd_val hr (fun _ => rfl) rfl (fun j' off' e => by injection e with e1 e2; subst e1; exact hb)
theorem v_eff {P : Program} {v : Value} (hr : (execOp a.eval o).run P w = .ok (.value v) w) : Eff P B S s0 a w ρ o (mkUpd o.dst (.v v)) :=
  mkUpd_val hr (fun _ => rfl) rfl (fun j' off' e => by cases e)
theorem lit_eff {P : Program} {b : Bool} (hr : (execOp a.eval o).run P w = .ok (.value (.bool b)) w) : Eff P B S s0 a w ρ o (mkUpd o.dst (.lit b)) :=
  mkUpd_val hr (fun _ => rfl) rfl (fun j' off' e => by cases e)

theorem run_eq_nil {P : Program} {t : TypeId} (hp : isPtrT P t = true) (p : Option Addr) : (Op.equal t (.pointer p) (.pointer none)).run P w = .ok p.isNone w := by
  unfold isPtrT at hp
  cases hu : P.underlying t with
  | none => rw [hu] at hp; cases hp
  | some d =>
    rw [hu] at hp
    cases d <;> simp at hp
    rename_i e
    have key : ∀ d : Nat, (Op.equalIn (d + 1) t (.pointer p) (.pointer none)).run P w = .ok p.isNone w := fun d => by
      simp only [Op.equalIn, Sem.run_bind, run_underlying hu w, Result.andThen_ok]
      cases p with
      | none => rfl
      | some q => rfl
    exact key 9999
theorem run_binop_nil {P : Program} {t : TypeId} (hp : isPtrT P t = true) (p : Option Addr) (x y : Operand) :
    ((do eqGuard .eql t x y (.pointer p) (.pointer none); binOp .eql t (.pointer p) (.pointer none) : Sem Value)).run P w = .ok (.bool p.isNone) w ∧
    ((do eqGuard .neq t x y (.pointer p) (.pointer none); binOp .neq t (.pointer p) (.pointer none) : Sem Value)).run P w = .ok (.bool !p.isNone) w := by
  constructor <;> simp only [eqGuard, binOp, Sem.run_bind, Sem.run_pure, Result.andThen_ok, run_eq_nil hp p, Bool.not_true, Bool.false_eq_true, if_false] <;> rfl

theorem main_eff (hc : c.Ok) (hG : Gam B S s0 a w ρ) (hl : Le s s0) {drawn : Bool} {root : Nat} {u : Out} (h : mainOut c fc drawn root s o = some u) : Eff c.P B S s0 a w ρ o u := by
  unfold mainOut at h
  split at h
  · -- box
    rename_i ty x ho
    split at h
    · rename_i d v hd hv
      have hr : (execOp a.eval o).run c.P w = .ok (.value (.pointer (some ⟨w.heap.size, 0, none⟩))) (w.alloc (.cells v.cells.toList.toArray ty)) := by
        simp only [execOp, ho, plain_eval hG hl hv]
        rw [run_v (run_box_new ty v)]
      have hnst : ∀ t a x, o.op ≠ .store t a x := fun t a x e => by rw [ho] at e; cases e
      split at h
      · injection h with h; subst h
        refine .prim _ _ (fun y w1 hr => ?_)
        simp only [execOp, ho, plain_eval hG hl hv]
        exact run_v hr
      · split at h
        · split at h
          · cases h
          · injection h with h; subst h
            exact .scrub d ty v.cells.toList hd hr
        · cases h
        · injection h with h; subst h
          exact .alloc d ty v.cells.toList hd hnst hr
        · cases h
    · cases h
  · -- alloc
    rename_i ty ho
    split at h
    · rename_i d hd
      have hnst : ∀ t a x, o.op ≠ .store t a x := fun t a x e => by rw [ho] at e; cases e
      split at h
      · injection h with h; subst h
        refine .prim _ _ (fun y w1 hr => ?_)
        simp only [execOp, ho]
        exact run_v hr
      · split at h
        · rename_i z hz
          have hr : (execOp a.eval o).run c.P w = .ok (.value (.pointer (some ⟨w.heap.size, 0, none⟩))) (w.alloc (.cells z.cells.toList.toArray ty)) := by
            simp only [execOp, ho]
            rw [run_v (run_alloc_new ty z hz)]
          split at h
          · split at h
            · cases h
            · injection h with h; subst h
              exact .scrub d ty z.cells.toList hd hr
          · cases h
          · injection h with h; subst h
            exact .alloc d ty z.cells.toList hd hnst hr
          · cases h
        · cases h
    · cases h
  · -- load
    rename_i t x ho
    split at h
    · rename_i j off hx
      obtain ⟨hev, hbx⟩ := svO_loc hG hl hx
      split at h
      · split at h
        · rename_i ty cells hs
          have hs0 := hl.some_ hs (by simp)
          have hh := hG.box _ _ _ hs0
          split at h
          · rename_i n ha hn
            split at h
            · rename_i hle
              injection h with h; subst h
              refine v_eff ?_
              simp only [execOp, ho, hev]
              exact run_v (run_load_agg hh ha hn hle)
            · cases h
          · rename_i ha hn
            split at h
            · rename_i v hv
              injection h with h; subst h
              refine v_eff ?_
              simp only [execOp, ho, hev]
              exact run_v (run_load_one hh ha hv)
            · cases h
          · cases h
        · cases h
      · cases h
    · rename_i p hx
      split at h
      · rename_i H hH
        injection h with h; subst h
        refine rd_eff (fun y w1 hr => ?_)
        simp only [execOp, ho, svO_v hG hl hx]
        exact run_v hr
      · cases h
    · cases h
  · -- store
    rename_i t x y ho
    split at h
    · rename_i j off v hx hv
      obtain ⟨hev, hbx⟩ := svO_loc hG hl hx
      split at h
      · split at h
        · rename_i ty cells hs
          have hs0 := hl.some_ hs (by simp)
          have hh := hG.box _ _ _ hs0
          split at h
          · rename_i hck
            injection h with h; subst h
            simp only [Bool.and_eq_true, beq_iff_eq] at hck
            obtain ⟨⟨⟨h1, h2⟩, h3⟩, h4⟩ := hck
            obtain ⟨n, hn⟩ := Option.isSome_iff_exists.1 h2
            rw [hn] at h1
            simp only [Option.getD_some] at h1
            refine .store j ty cells _ hs0 ?_ ⟨t, x, y, ho⟩
            simp only [execOp, ho, hev, plain_eval hG hl hv]
            exact run_u (run_store_box hh (by rw [hn, h1]) (Nat.le_of_ble_eq_true h3) h4)
          · cases h
        · cases h
      · cases h
    · rename_i p v hx hv
      injection h with h; subst h
      refine .primU _ (fun w1 hr => ?_)
      simp only [execOp, ho, svO_v hG hl hx, plain_eval hG hl hv]
      exact run_u hr
    · cases h
  · -- fieldAddr
    rename_i st x f ho
    split at h
    · rename_i j off hx
      obtain ⟨hev, hbx⟩ := svO_loc hG hl hx
      split at h
      · rename_i fs hu
        split at h
        · rename_i fd hf
          split at h
          · rename_i n hn
            injection h with h; subst h
            refine loc_eff hbx ?_
            simp only [execOp, ho, hev]
            refine run_v ?_
            simp only [Instr.fieldAt, Instr.sureAddr, Sem.run_bind, run_underlying hu w, Result.andThen_ok, hf, Sem.run_pure, fieldPlace, run_sizeOf hn, Nat.add_one_ne_zero, if_false, Addr.add_mid]
          · cases h
        · cases h
      · cases h
    · exact eff_pure hG hl (fun cs b e => by rw [ho] at e; cases e) h
    · cases h
  · -- move
    rename_i x ho
    split at h
    · cases h
    · rename_i sv hsv
      injection h with h; subst h
      exact move_eff hG hl rfl hsv (by simp only [execOp, ho, Sem.run_pure])
  · -- assign
    rename_i x ho
    split at h
    · cases h
    · rename_i sv hsv
      injection h with h; subst h
      exact move_eff hG hl rfl hsv (by simp only [execOp, ho, Sem.run_pure])
  · -- nilCheck
    rename_i x ho
    split at h
    · rename_i j off hx
      obtain ⟨hev, hbx⟩ := svO_loc hG hl hx
      injection h with h; subst h
      refine loc_eff hbx ?_
      simp only [execOp, ho, hev, Sem.run_pure]
    · exact eff_pure hG hl (fun cs b e => by rw [ho] at e; cases e) h
    · cases h
  · -- pick
    rename_i x y z ho
    split at h
    · rename_i hx
      have hev := (svO_den hG hl x _ hx (by simp)).2.2.2.2 _ rfl
      split at h
      · cases h
      · rename_i sv hsv
        injection h with h; subst h
        exact move_eff hG hl rfl hsv (by simp only [execOp, ho, hev, asBool, Sem.run_bind, Sem.run_pure, Result.andThen_ok, if_true])
    · rename_i hx
      have hev := (svO_den hG hl x _ hx (by simp)).2.2.2.2 _ rfl
      split at h
      · cases h
      · rename_i sv hsv
        injection h with h; subst h
        exact move_eff hG hl rfl hsv (by simp only [execOp, ho, hev, asBool, Sem.run_bind, Sem.run_pure, Result.andThen_ok, Bool.false_eq_true, if_false])
    · cases h
  · -- not
    rename_i t x ho
    split at h
    · rename_i b hx
      have hev := (svO_den hG hl x _ hx (by simp)).2.2.2.2 _ rfl
      injection h with h; subst h
      refine lit_eff ?_
      simp only [execOp, ho, hev]
      refine run_v ?_
      cases b <;> rfl
    · exact eff_pure hG hl (fun cs b e => by rw [ho] at e; cases e) h
  · -- binOp
    rename_i op t x y yt ho
    split at h
    · rename_i hn
      simp only [Bool.and_eq_true] at hn
      have hy : a.eval y = .pointer none := by
        have h1 := hn.1
        unfold isNilC at h1
        split at h1
        · rfl
        · cases h1
      split at h
      all_goals try (cases h; done)
      all_goals
        rename_i hx
        injection h with h; subst h
        refine lit_eff ?_
        simp only [execOp, ho, hy, plain_eval hG hl hx]
        first
          | exact run_v (run_binop_nil hn.2 none x y).1
          | exact run_v (run_binop_nil hn.2 none x y).2
          | exact run_v (run_binop_nil hn.2 (some _) x y).1
          | exact run_v (run_binop_nil hn.2 (some _) x y).2
    · split at h
      · exact eff_pure hG hl (fun cs b e => by rw [ho] at e; cases e) h
      · split at h
        · rename_i p q hx hy
          split at h
          · rename_i H hH
            injection h with h; subst h
            refine rd_eff (fun z w1 hr => ?_)
            simp only [execOp, ho, plain_eval hG hl hx, plain_eval hG hl hy]
            exact run_v hr
          · cases h
        · cases h
  · -- convert
    rename_i p q x ho
    split at h
    · exact eff_pure hG hl (fun cs b e => by rw [ho] at e; cases e) h
    · split at h
      · rename_i v hx
        rw [Option.map_eq_some_iff] at h
        obtain ⟨H, hH, rfl⟩ := h
        refine .prim _ _ (fun z w1 hr => ?_)
        simp only [execOp, ho, plain_eval hG hl hx]
        exact run_v hr
      · cases h
  · -- makeMap
    rename_i t ho
    rw [Option.map_eq_some_iff] at h
    obtain ⟨H, hH, rfl⟩ := h
    refine .prim _ _ (fun z w1 hr => ?_)
    simp only [execOp, ho]
    exact run_v hr
  · -- makeSlice
    rename_i t l n ho
    split at h
    · rename_i p q hx hy
      rw [Option.map_eq_some_iff] at h
      obtain ⟨H, hH, rfl⟩ := h
      refine .prim _ _ (fun z w1 hr => ?_)
      simp only [execOp, ho, plain_eval hG hl hx, plain_eval hG hl hy]
      exact run_v hr
    · cases h
  · -- slice
    rename_i t x lo hi ho
    split at h
    · rename_i v p q hx hlo hhi
      rw [Option.map_eq_some_iff] at h
      obtain ⟨H, hH, rfl⟩ := h
      refine rd_eff (fun z w1 hr => ?_)
      have h1 : lo.map a.eval = p := by
        cases lo with
        | none => simp at hlo; simp [hlo]
        | some l => simp only [Option.map_eq_some_iff] at hlo; obtain ⟨b, hb, rfl⟩ := hlo; simp [plain_eval hG hl hb]
      have h2 : hi.map a.eval = q := by
        cases hi with
        | none => simp at hhi; simp [hhi]
        | some l => simp only [Option.map_eq_some_iff] at hhi; obtain ⟨b, hb, rfl⟩ := hhi; simp [plain_eval hG hl hb]
      simp only [execOp, ho, plain_eval hG hl hx, h1, h2, Option.map_none]
      exact run_v hr
    · cases h
  · -- indexAddr
    rename_i t x i ho
    split at h
    · rename_i p q hx hy
      injection h with h; subst h
      refine rd_eff (fun z w1 hr => ?_)
      simp only [execOp, ho, plain_eval hG hl hx, plain_eval hG hl hy]
      exact run_v hr
    · cases h
  · -- index
    rename_i t x i ho
    split at h
    · rename_i p q hx hy
      rw [Option.map_eq_some_iff] at h
      obtain ⟨H, hH, rfl⟩ := h
      refine rd_eff (fun z w1 hr => ?_)
      simp only [execOp, ho, plain_eval hG hl hx, plain_eval hG hl hy]
      exact run_v hr
    · cases h
  · -- lookup
    rename_i t x i ok ho
    split at h
    · rename_i p q hx hy
      rw [Option.map_eq_some_iff] at h
      obtain ⟨H, hH, rfl⟩ := h
      refine rd_eff (fun z w1 hr => ?_)
      simp only [execOp, ho, plain_eval hG hl hx, plain_eval hG hl hy]
      exact run_v hr
    · cases h
  · -- mapUpdate
    rename_i t m k x ho
    split at h
    · rename_i p q v hm hk hx
      injection h with h; subst h
      refine .primU _ (fun w1 hr => ?_)
      simp only [execOp, ho, plain_eval hG hl hx, plain_eval hG hl hm, plain_eval hG hl hk]
      exact run_u hr
    · cases h
  · -- insert
    rename_i t m k x ho
    split at h
    · rename_i p q v hm hk hx
      injection h with h; subst h
      refine .primU _ (fun w1 hr => ?_)
      simp only [execOp, ho, plain_eval hG hl hx, plain_eval hG hl hm, plain_eval hG hl hk]
      exact run_u hr
    · cases h
  · -- buildSlice
    rename_i t len parts ho
    split at h
    · rename_i d vs hd hvs
      have hparts : (parts.map fun (i, x) => (i, a.eval x)) = parts.map fun p => (p.1, (plain (svO s p.2)).getD undef) := by
        apply Array.map_congr_left
        intro p hp
        obtain ⟨v, hv⟩ := plains_mem hvs p.2 (by simp; exact ⟨p.1, by simpa using hp⟩)
        simp [hv, plain_eval hG hl hv]
      split at h
      · rw [Option.map_eq_some_iff] at h
        obtain ⟨H, hH, rfl⟩ := h
        refine .prim _ _ (fun z w1 hr => ?_)
        simp only [execOp, ho, hparts]
        exact run_v hr
      · split at h
        · rename_i cs e hrow
          split at h
          · split at h
            · cases h
            · injection h with h; subst h
              refine .row d e len cs.toList hd (fun t a x e => by rw [ho] at e; cases e) ?_
              simp only [execOp, ho, hparts]
              rw [run_v (run_row hrow)]
          · cases h
        · cases h
    · cases h
  · -- call
    rename_i cl ho
    exact call_eff hc hG hl ho h
  all_goals first
    | (rename_i ho; exact eff_pure hG hl (fun cs b e => by rw [ho] at e; cases e) h)
    | (cases h)
end
end Go.Sx
