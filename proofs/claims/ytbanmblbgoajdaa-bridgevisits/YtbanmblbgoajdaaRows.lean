/-
  No cell of these rows narrows 'for every input' (looked for: loops, veiled, ifaces, maps, wideKeys, modest, calm, conditions, laid).
  DERIVED. THE GIVEN ROWS OF THIS SEAT. 4 by the template 'for every input the law returns true; each argument reads behind the call as it read before'; 0 by the template 'total and deterministic' (their statements: YtbanmblbgoajdaaTotals.lean).
  GIVEN WITH THE SEED: the statements are not yours to turn. If you find one false, say at which input.
  Laid BY PROGRAM, IN A SANDBOX (cutbox-rows.mjs): the forced cells as the released guide's own fill.sh prints them over the translation 370ac59cfb2939c7… (all of the seat's roots in one cut). By AI agents, Wed Nov 11 2026. No macro, syntax, notation, axiom, sorry.
-/
import Derived.Test.YtbanmblbgoajdaaChecked
import GoSem.Claim
import GoSem.ClaimJoined
import GoSem.ClaimMapViews
import Derived.JoinedTies
import Derived.KernelRfl
namespace Go.Proofs.Ytbanmblbgoajdaa
/- THE CELL 'sum', in the pinned program and in every row, IS THE sha256 OF THE DUMP (.gsa) THAT YtbanmblbgoajdaaProg.lean LOADS. Nothing in Lean hashes anything: it is a label: what it is worth is what the hold of that sum in a sandbox is worth. -/
noncomputable def Try.pinned : Pinned := { name := "ytbanmblbgoajdaa", sum := "370ac59cfb2939c72daf29bc3d3bfa7cc1faaed8d2399a740868cf3df5631a8a", checked := Try.checked }
namespace Rows
def none {H : Type} : Left H := { results := [], args := [] }

/-- 'whilomlaw19.FrameNumbers': WHATEVER THE INPUT: true; the input reads as it did. -/
def frameNumbersSpec : ChangeSpec := { name := "frameNumbers", fn := fun _ => fun
  | [d1, d2] => { results := [.lit (.bool true)], args := [d1, d2] }
  | _ => none }
def frameNumbersRow : OpenClaim := { program := "ytbanmblbgoajdaa", sum := "370ac59cfb2939c72daf29bc3d3bfa7cc1faaed8d2399a740868cf3df5631a8a", func := "whilom/whilomlaw19.FrameNumbers", spec := "frameNumbers", unfollowed := true, recurses := true, apart := false }
def FrameNumbersSaid : Prop := frameNumbersRow.holds Try.pinned (OpenSpec.ofChange frameNumbersSpec)

/-- ITS FALSE NEIGHBOUR: 'it returns false'. Refute it at one input. -/
def frameNumbersWrong : ChangeSpec := { name := "frameNumbers", fn := fun _ => fun
  | [d1, d2] => { results := [.lit (.bool false)], args := [d1, d2] }
  | _ => none }
def FrameNumbersWrongFalsely : Prop := frameNumbersRow.holds Try.pinned (OpenSpec.ofChange frameNumbersWrong)

/-- 'whilomlaw07.GroveHeights': WHATEVER THE INPUT: true; the input reads as it did. -/
def groveHeightsSpec : ChangeSpec := { name := "groveHeights", fn := fun _ => fun
  | [d1, d2] => { results := [.lit (.bool true)], args := [d1, d2] }
  | _ => none }
def groveHeightsRow : OpenClaim := { program := "ytbanmblbgoajdaa", sum := "370ac59cfb2939c72daf29bc3d3bfa7cc1faaed8d2399a740868cf3df5631a8a", func := "whilom/whilomlaw07.GroveHeights", spec := "groveHeights", unfollowed := true, recurses := true, apart := false }
def GroveHeightsSaid : Prop := groveHeightsRow.holds Try.pinned (OpenSpec.ofChange groveHeightsSpec)

/-- ITS FALSE NEIGHBOUR: 'it returns false'. Refute it at one input. -/
def groveHeightsWrong : ChangeSpec := { name := "groveHeights", fn := fun _ => fun
  | [d1, d2] => { results := [.lit (.bool false)], args := [d1, d2] }
  | _ => none }
def GroveHeightsWrongFalsely : Prop := groveHeightsRow.holds Try.pinned (OpenSpec.ofChange groveHeightsWrong)

/-- 'whilomlaw07.GroveParts': WHATEVER THE INPUT: true; the input reads as it did. -/
def grovePartsSpec : ChangeSpec := { name := "groveParts", fn := fun _ => fun
  | [d1, d2, d3] => { results := [.lit (.bool true)], args := [d1, d2, d3] }
  | _ => none }
def grovePartsRow : OpenClaim := { program := "ytbanmblbgoajdaa", sum := "370ac59cfb2939c72daf29bc3d3bfa7cc1faaed8d2399a740868cf3df5631a8a", func := "whilom/whilomlaw07.GroveParts", spec := "groveParts", unfollowed := true, recurses := true, apart := false }
def GrovePartsSaid : Prop := grovePartsRow.holds Try.pinned (OpenSpec.ofChange grovePartsSpec)

/-- ITS FALSE NEIGHBOUR: 'it returns false'. Refute it at one input. -/
def grovePartsWrong : ChangeSpec := { name := "groveParts", fn := fun _ => fun
  | [d1, d2, d3] => { results := [.lit (.bool false)], args := [d1, d2, d3] }
  | _ => none }
def GrovePartsWrongFalsely : Prop := grovePartsRow.holds Try.pinned (OpenSpec.ofChange grovePartsWrong)

/-- 'whilomlaw10.BridgeVisits': WHATEVER THE INPUT: true; the input reads as it did. -/
def bridgeVisitsSpec : ChangeSpec := { name := "bridgeVisits", fn := fun _ => fun
  | [d1, d2, d3] => { results := [.lit (.bool true)], args := [d1, d2, d3] }
  | _ => none }
def bridgeVisitsRow : OpenClaim := { program := "ytbanmblbgoajdaa", sum := "370ac59cfb2939c72daf29bc3d3bfa7cc1faaed8d2399a740868cf3df5631a8a", func := "whilom/whilomlaw10.BridgeVisits", spec := "bridgeVisits", unfollowed := true, recurses := true, apart := false }
def BridgeVisitsSaid : Prop := bridgeVisitsRow.holds Try.pinned (OpenSpec.ofChange bridgeVisitsSpec)

/-- ITS FALSE NEIGHBOUR: 'it returns false'. Refute it at one input. -/
def bridgeVisitsWrong : ChangeSpec := { name := "bridgeVisits", fn := fun _ => fun
  | [d1, d2, d3] => { results := [.lit (.bool false)], args := [d1, d2, d3] }
  | _ => none }
def BridgeVisitsWrongFalsely : Prop := bridgeVisitsRow.holds Try.pinned (OpenSpec.ofChange bridgeVisitsWrong)

/- THE SECOND FORM. 'bulk': how many values and letters a reading holds, each counted each time it is reached (what is shared counts as often as it is met; a slice's spare places count too). A statement '..UptoSaid' is the law's where the arguments, and the package variables that the reading takes, are together of bulk at most 1048576: NARROWER than '..Said'. Prove '..Said' where nothing that the law and all that it calls make is longer than what came in: it says more and counts as full. Else prove '..UptoSaid'. A law counts once. -/
mutual
def uptoBulk {H : Type} : DataW H → Nat
  | .lit (.string bytes) => bytes.length + 1
  | .lit _ => 1
  | .nil => 1
  | .ptr d => uptoBulk d + 1
  | .slice elems spare => uptoBulkAll elems + uptoBulkAll spare + 1
  | .agg parts => uptoBulkAll parts + 1
  | .iface _ d => uptoBulk d + 1
  | .map entries => uptoBulkEntries entries + 1
  | .held _ => 1
def uptoBulkAll {H : Type} : List (DataW H) → Nat
  | [] => 0
  | d :: r => uptoBulk d + uptoBulkAll r
def uptoBulkEntries {H : Type} : List (Lit × DataW H) → Nat
  | [] => 0
  | x :: r => uptoBulkEntry x + uptoBulkEntries r
def uptoBulkEntry {H : Type} : Lit × DataW H → Nat
  | (.string bytes, d) => bytes.length + uptoBulk d + 1
  | (_, d) => uptoBulk d + 1
 end
def uptoSmall : (H : Type) → List (DataW H) → Bool := fun _ ds => decide (uptoBulkAll ds ≤ 1048576)
def OpenSpec.upto (s : _root_.Go.ChangeSpec) : _root_.Go.OpenSpec := { _root_.Go.OpenSpec.ofChange s with cond := some uptoSmall }

/-- 'whilomlaw19.FrameNumbers', WHERE WHAT IT READS IS OF BULK AT MOST 1048576: true; the input reads as it did. -/
def frameNumbersUptoRow : OpenClaim := { program := "ytbanmblbgoajdaa", sum := "370ac59cfb2939c72daf29bc3d3bfa7cc1faaed8d2399a740868cf3df5631a8a", func := "whilom/whilomlaw19.FrameNumbers", spec := "frameNumbers", unfollowed := true, recurses := true, apart := false, narrowed := true }
def FrameNumbersUptoSaid : Prop := frameNumbersUptoRow.holds Try.pinned (OpenSpec.upto frameNumbersSpec)

/-- 'whilomlaw07.GroveHeights', WHERE WHAT IT READS IS OF BULK AT MOST 1048576: true; the input reads as it did. -/
def groveHeightsUptoRow : OpenClaim := { program := "ytbanmblbgoajdaa", sum := "370ac59cfb2939c72daf29bc3d3bfa7cc1faaed8d2399a740868cf3df5631a8a", func := "whilom/whilomlaw07.GroveHeights", spec := "groveHeights", unfollowed := true, recurses := true, apart := false, narrowed := true }
def GroveHeightsUptoSaid : Prop := groveHeightsUptoRow.holds Try.pinned (OpenSpec.upto groveHeightsSpec)

/-- 'whilomlaw07.GroveParts', WHERE WHAT IT READS IS OF BULK AT MOST 1048576: true; the input reads as it did. -/
def grovePartsUptoRow : OpenClaim := { program := "ytbanmblbgoajdaa", sum := "370ac59cfb2939c72daf29bc3d3bfa7cc1faaed8d2399a740868cf3df5631a8a", func := "whilom/whilomlaw07.GroveParts", spec := "groveParts", unfollowed := true, recurses := true, apart := false, narrowed := true }
def GrovePartsUptoSaid : Prop := grovePartsUptoRow.holds Try.pinned (OpenSpec.upto grovePartsSpec)

/-- 'whilomlaw10.BridgeVisits', WHERE WHAT IT READS IS OF BULK AT MOST 1048576: true; the input reads as it did. -/
def bridgeVisitsUptoRow : OpenClaim := { program := "ytbanmblbgoajdaa", sum := "370ac59cfb2939c72daf29bc3d3bfa7cc1faaed8d2399a740868cf3df5631a8a", func := "whilom/whilomlaw10.BridgeVisits", spec := "bridgeVisits", unfollowed := true, recurses := true, apart := false, narrowed := true }
def BridgeVisitsUptoSaid : Prop := bridgeVisitsUptoRow.holds Try.pinned (OpenSpec.upto bridgeVisitsSpec)

end Rows
end Go.Proofs.Ytbanmblbgoajdaa
