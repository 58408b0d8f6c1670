import Derived.Test.YtbanmblbgoajdaaWhView
set_option linter.unusedVariables false
namespace Go.Sx

/-! ### The program's types, as plain data -/
structure Item where (key id : Int)
  deriving DecidableEq
structure Slot where (item : Item) (eaten : Bool) (time : Int)
structure Op where (time : Int) (insert : Bool) (item : Item)
  deriving DecidableEq
structure Took where (found : Bool) (item : Item)
  deriving DecidableEq
structure Mark where (op : Op) (here : Bool) (took : Took)
structure Tide where (n sum low : Int)
  deriving DecidableEq
structure Swell where (count weight : Tide) (deletes free : Int) (most : Item) (gone least : Took)
structure El where (k w : Int)
  deriving DecidableEq
structure Nd (E A : Type) where (e : E) (left right : Rf) (size : Int) (sum : A)

def itemC (r : Item) : List Value := [iV r.key, iV r.id]
def slotC (r : Slot) : List Value := itemC r.item ++ [.bool r.eaten, iV r.time]
def opC (o : Op) : List Value := [iV o.time, .bool o.insert] ++ itemC o.item
def tookC (t : Took) : List Value := [.bool t.found] ++ itemC t.item
def markC (m : Mark) : List Value := opC m.op ++ [.bool m.here] ++ tookC m.took
def tideC (t : Tide) : List Value := [iV t.n, iV t.sum, iV t.low]
def swellC (s : Swell) : List Value := tideC s.count ++ tideC s.weight ++ [iV s.deletes, iV s.free] ++ itemC s.most ++ tookC s.gone ++ tookC s.least
def elC (e : El) : List Value := [iV e.k, iV e.w]
def ndC {E A : Type} (eC : E → List Value) (aC : A → List Value) (n : Nd E A) : List Value := eC n.e ++ rfC n.left ++ rfC n.right ++ [iV n.size] ++ aC n.sum

def elOf : List Value → Option El
  | [.int .i64 a, .int .i64 b] => some ⟨a, b⟩
  | _ => none
def slotOf : List Value → Option Slot
  | [.int .i64 a, .int .i64 b, .bool c, .int .i64 d] => some ⟨⟨a, b⟩, c, d⟩
  | _ => none
def markOf : List Value → Option Mark
  | [.int .i64 a, .bool b, .int .i64 c, .int .i64 d, .bool e, .bool f, .int .i64 g, .int .i64 h] => some ⟨⟨a, b, ⟨c, d⟩⟩, e, ⟨f, ⟨g, h⟩⟩⟩
  | _ => none
def tideOf : List Value → Option Tide
  | [.int .i64 a, .int .i64 b, .int .i64 c] => some ⟨a, b, c⟩
  | _ => none
def swellOf : List Value → Option Swell
  | [.int .i64 a1, .int .i64 a2, .int .i64 a3, .int .i64 b1, .int .i64 b2, .int .i64 b3, .int .i64 d, .int .i64 f, .int .i64 m1, .int .i64 m2, .bool g0, .int .i64 g1, .int .i64 g2, .bool l0, .int .i64 l1, .int .i64 l2] =>
    some ⟨⟨a1, a2, a3⟩, ⟨b1, b2, b3⟩, d, f, ⟨m1, m2⟩, ⟨g0, ⟨g1, g2⟩⟩, ⟨l0, ⟨l1, l2⟩⟩⟩
  | _ => none

/-- How a type lies in a value. -/
structure Ty (T : Type) where
  C : Codec T
  val : T → Value
  of : Value → Option T
  cells : ∀ x, (val x).cells.toList = C.enc x

def mkCd (T : Type) (n : Nat) (e : T → List Value) (h : ∀ x, (e x).length = n) (h1 : ∀ x, (e x).all (·.oneCell') = true) : Codec T :=
  ⟨n, e, h, fun x v hv => List.all_eq_true.1 (h1 x) v hv⟩
def agOf {T : Type} (f : List Value → Option T) : Value → Option T
  | .agg a => f a.toList
  | _ => none
def tyAg {T : Type} (C : Codec T) (f : List Value → Option T) : Ty T := ⟨C, fun x => ag (C.enc x), agOf f, fun x => by simp [ag, Value.cells]⟩
def elCd : Codec El := mkCd El 2 elC (fun _ => rfl) (fun _ => rfl)
def slotCd : Codec Slot := mkCd Slot 4 slotC (fun _ => rfl) (fun _ => rfl)
def markCd : Codec Mark := mkCd Mark 8 markC (fun _ => rfl) (fun _ => rfl)
def tideCd : Codec Tide := mkCd Tide 3 tideC (fun _ => rfl) (fun _ => rfl)
def swellCd : Codec Swell := mkCd Swell 16 swellC (fun _ => rfl) (fun _ => rfl)
def elT : Ty El := tyAg elCd elOf
def slotT : Ty Slot := tyAg slotCd slotOf
def markT : Ty Mark := tyAg markCd markOf
def tideT : Ty Tide := tyAg tideCd tideOf
def swellT : Ty Swell := tyAg swellCd swellOf
def sizeT1 : Ty Int := ⟨intCd, iV, fun | .int .i64 n => some n | _ => none, fun x => rfl⟩
theorem agOf_of {T : Type} {C : Codec T} {f : List Value → Option T} (hf : ∀ l x, f l = some x → l = C.enc x) (v : Value) (x : T) (h : agOf f v = some x) : v = ag (C.enc x) := by
  cases v with
  | agg a => simp only [agOf] at h; rw [← hf _ _ h]; simp [ag]
  | _ => simp [agOf] at h
theorem elOf_of (l : List Value) (x : El) (h : elOf l = some x) : l = elC x := by
  unfold elOf at h; split at h
  · injection h with h; subst h; rfl
  · cases h
theorem slotOf_of (l : List Value) (x : Slot) (h : slotOf l = some x) : l = slotC x := by
  unfold slotOf at h; split at h
  · injection h with h; subst h; rfl
  · cases h
theorem markOf_of (l : List Value) (x : Mark) (h : markOf l = some x) : l = markC x := by
  unfold markOf at h; split at h
  · injection h with h; subst h; rfl
  · cases h
theorem tideOf_of (l : List Value) (x : Tide) (h : tideOf l = some x) : l = tideC x := by
  unfold tideOf at h; split at h
  · injection h with h; subst h; rfl
  · cases h
theorem swellOf_of (l : List Value) (x : Swell) (h : swellOf l = some x) : l = swellC x := by
  unfold swellOf at h; split at h
  · injection h with h; subst h; rfl
  · cases h
theorem intOf_of (v : Value) (x : Int) (h : sizeT1.of v = some x) : v = iV x := by
  simp only [sizeT1] at h; split at h
  · injection h with h; subst h; rfl
  · cases h
def ndCd {E A : Type} (tE : Ty E) (tA : Ty A) : Codec (Nd E A) where
  size := tE.C.size + 5 + tA.C.size
  enc := ndC tE.C.enc tA.C.enc
  len x := by simp [ndC, tE.C.len, tA.C.len, rfC]; omega
  one x v hv := by
    simp [ndC, rfC] at hv
    rcases hv with h | rfl | rfl | rfl | rfl | rfl | h
    · exact tE.C.one _ v h
    · rfl
    · rfl
    · rfl
    · rfl
    · rfl
    · exact tA.C.one _ v h
end Go.Sx
