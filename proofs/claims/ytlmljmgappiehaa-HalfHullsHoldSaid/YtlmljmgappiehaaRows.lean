/-
  No cell of these rows narrows 'for every input' (looked for: loops, veiled, ifaces, maps, wideKeys, modest, calm, conditions, laid).
  DERIVED. THE GIVEN ROWS OF THIS SEAT. 10 by the template 'for every input the law returns true; each argument reads behind the call as it read before'; 0 by the template 'total and deterministic' (their statements: YtlmljmgappiehaaTotals.lean).
  GIVEN WITH THE SEED: the statements are not yours to turn. If you find one false, say at which input.
  Laid BY PROGRAM, IN A SANDBOX (cutbox-rows.mjs): the forced cells as the released guide's own fill.sh prints them over the translation e16b1097284e4d01… (all of the seat's roots in one cut). By AI agents, Wed Nov 11 2026. No macro, syntax, notation, axiom, sorry.
-/
import Derived.Test.YtlmljmgappiehaaChecked
import GoSem.Claim
import GoSem.ClaimJoined
import GoSem.ClaimMapViews
import Derived.JoinedTies
import Derived.KernelRfl
namespace Go.Proofs.Ytlmljmgappiehaa
/- THE CELL 'sum', in the pinned program and in every row, IS THE sha256 OF THE DUMP (.gsa) THAT YtlmljmgappiehaaProg.lean LOADS. Nothing in Lean hashes anything: it is a label: what it is worth is what the hold of that sum in a sandbox is worth. -/
noncomputable def Try.pinned : Pinned := { name := "ytlmljmgappiehaa", sum := "e16b1097284e4d012a5044a4a6e1e2509dc06556ba26a6a0c00e09029b90d545", checked := Try.checked }
namespace Rows
def none {H : Type} : Left H := { results := [], args := [] }

/-- 'firetowerlaw03.HalfChecks': WHATEVER THE INPUT: true; the input reads as it did. -/
def halfChecksSpec : ChangeSpec := { name := "halfChecks", fn := fun _ => fun
  | [d1, d2, d3] => { results := [.lit (.bool true)], args := [d1, d2, d3] }
  | _ => none }
def halfChecksRow : OpenClaim := { program := "ytlmljmgappiehaa", sum := "e16b1097284e4d012a5044a4a6e1e2509dc06556ba26a6a0c00e09029b90d545", func := "firetower/firetowerlaw03.HalfChecks", spec := "halfChecks", unfollowed := true, recurses := true, apart := false }
def HalfChecksSaid : Prop := halfChecksRow.holds Try.pinned (OpenSpec.ofChange halfChecksSpec)

/-- ITS FALSE NEIGHBOUR: 'it returns false'. Refute it at one input. -/
def halfChecksWrong : ChangeSpec := { name := "halfChecks", fn := fun _ => fun
  | [d1, d2, d3] => { results := [.lit (.bool false)], args := [d1, d2, d3] }
  | _ => none }
def HalfChecksWrongFalsely : Prop := halfChecksRow.holds Try.pinned (OpenSpec.ofChange halfChecksWrong)

/-- 'firetowerlaw03.HalfHulls': WHATEVER THE INPUT: true; the input reads as it did. -/
def halfHullsSpec : ChangeSpec := { name := "halfHulls", fn := fun _ => fun
  | [d] => { results := [.lit (.bool true)], args := [d] }
  | _ => none }
def halfHullsRow : OpenClaim := { program := "ytlmljmgappiehaa", sum := "e16b1097284e4d012a5044a4a6e1e2509dc06556ba26a6a0c00e09029b90d545", func := "firetower/firetowerlaw03.HalfHulls", spec := "halfHulls", unfollowed := true, recurses := true, apart := false }
def HalfHullsSaid : Prop := halfHullsRow.holds Try.pinned (OpenSpec.ofChange halfHullsSpec)

/-- ITS FALSE NEIGHBOUR: 'it returns false'. Refute it at one input. -/
def halfHullsWrong : ChangeSpec := { name := "halfHulls", fn := fun _ => fun
  | [d] => { results := [.lit (.bool false)], args := [d] }
  | _ => none }
def HalfHullsWrongFalsely : Prop := halfHullsRow.holds Try.pinned (OpenSpec.ofChange halfHullsWrong)

/-- 'firetowerlaw03.HalfOrder': WHATEVER THE INPUT: true; the input reads as it did. -/
def halfOrderSpec : ChangeSpec := { name := "halfOrder", fn := fun _ => fun
  | [d1, d2, d3] => { results := [.lit (.bool true)], args := [d1, d2, d3] }
  | _ => none }
def halfOrderRow : OpenClaim := { program := "ytlmljmgappiehaa", sum := "e16b1097284e4d012a5044a4a6e1e2509dc06556ba26a6a0c00e09029b90d545", func := "firetower/firetowerlaw03.HalfOrder", spec := "halfOrder", unfollowed := true, recurses := true, apart := false }
def HalfOrderSaid : Prop := halfOrderRow.holds Try.pinned (OpenSpec.ofChange halfOrderSpec)

/-- ITS FALSE NEIGHBOUR: 'it returns false'. Refute it at one input. -/
def halfOrderWrong : ChangeSpec := { name := "halfOrder", fn := fun _ => fun
  | [d1, d2, d3] => { results := [.lit (.bool false)], args := [d1, d2, d3] }
  | _ => none }
def HalfOrderWrongFalsely : Prop := halfOrderRow.holds Try.pinned (OpenSpec.ofChange halfOrderWrong)

/-- 'firetowerlaw03.HalfSeparates': WHATEVER THE INPUT: true; the input reads as it did. -/
def halfSeparatesSpec : ChangeSpec := { name := "halfSeparates", fn := fun _ => fun
  | [d1, d2] => { results := [.lit (.bool true)], args := [d1, d2] }
  | _ => none }
def halfSeparatesRow : OpenClaim := { program := "ytlmljmgappiehaa", sum := "e16b1097284e4d012a5044a4a6e1e2509dc06556ba26a6a0c00e09029b90d545", func := "firetower/firetowerlaw03.HalfSeparates", spec := "halfSeparates", unfollowed := true, recurses := true, apart := false }
def HalfSeparatesSaid : Prop := halfSeparatesRow.holds Try.pinned (OpenSpec.ofChange halfSeparatesSpec)

/-- ITS FALSE NEIGHBOUR: 'it returns false'. Refute it at one input. -/
def halfSeparatesWrong : ChangeSpec := { name := "halfSeparates", fn := fun _ => fun
  | [d1, d2] => { results := [.lit (.bool false)], args := [d1, d2] }
  | _ => none }
def HalfSeparatesWrongFalsely : Prop := halfSeparatesRow.holds Try.pinned (OpenSpec.ofChange halfSeparatesWrong)

/-- 'firetowerlaw03.HalfAllows': WHATEVER THE INPUT: true; the input reads as it did. -/
def halfAllowsSpec : ChangeSpec := { name := "halfAllows", fn := fun _ => fun
  | [d1, d2] => { results := [.lit (.bool true)], args := [d1, d2] }
  | _ => none }
def halfAllowsRow : OpenClaim := { program := "ytlmljmgappiehaa", sum := "e16b1097284e4d012a5044a4a6e1e2509dc06556ba26a6a0c00e09029b90d545", func := "firetower/firetowerlaw03.HalfAllows", spec := "halfAllows", unfollowed := true, recurses := true, apart := false }
def HalfAllowsSaid : Prop := halfAllowsRow.holds Try.pinned (OpenSpec.ofChange halfAllowsSpec)

/-- ITS FALSE NEIGHBOUR: 'it returns false'. Refute it at one input. -/
def halfAllowsWrong : ChangeSpec := { name := "halfAllows", fn := fun _ => fun
  | [d1, d2] => { results := [.lit (.bool false)], args := [d1, d2] }
  | _ => none }
def HalfAllowsWrongFalsely : Prop := halfAllowsRow.holds Try.pinned (OpenSpec.ofChange halfAllowsWrong)

/-- 'firetowerlaw03.HalfHullsHold': WHATEVER THE INPUT: true; the input reads as it did. -/
def halfHullsHoldSpec : ChangeSpec := { name := "halfHullsHold", fn := fun _ => fun
  | [d] => { results := [.lit (.bool true)], args := [d] }
  | _ => none }
def halfHullsHoldRow : OpenClaim := { program := "ytlmljmgappiehaa", sum := "e16b1097284e4d012a5044a4a6e1e2509dc06556ba26a6a0c00e09029b90d545", func := "firetower/firetowerlaw03.HalfHullsHold", spec := "halfHullsHold", unfollowed := true, recurses := true, apart := false }
def HalfHullsHoldSaid : Prop := halfHullsHoldRow.holds Try.pinned (OpenSpec.ofChange halfHullsHoldSpec)

/-- ITS FALSE NEIGHBOUR: 'it returns false'. Refute it at one input. -/
def halfHullsHoldWrong : ChangeSpec := { name := "halfHullsHold", fn := fun _ => fun
  | [d] => { results := [.lit (.bool false)], args := [d] }
  | _ => none }
def HalfHullsHoldWrongFalsely : Prop := halfHullsHoldRow.holds Try.pinned (OpenSpec.ofChange halfHullsHoldWrong)

/-- 'firetowerlaw03.HalfCornersHold': WHATEVER THE INPUT: true; the input reads as it did. -/
def halfCornersHoldSpec : ChangeSpec := { name := "halfCornersHold", fn := fun _ => fun
  | [d1, d2, d3] => { results := [.lit (.bool true)], args := [d1, d2, d3] }
  | _ => none }
def halfCornersHoldRow : OpenClaim := { program := "ytlmljmgappiehaa", sum := "e16b1097284e4d012a5044a4a6e1e2509dc06556ba26a6a0c00e09029b90d545", func := "firetower/firetowerlaw03.HalfCornersHold", spec := "halfCornersHold", unfollowed := true, recurses := true, apart := false }
def HalfCornersHoldSaid : Prop := halfCornersHoldRow.holds Try.pinned (OpenSpec.ofChange halfCornersHoldSpec)

/-- ITS FALSE NEIGHBOUR: 'it returns false'. Refute it at one input. -/
def halfCornersHoldWrong : ChangeSpec := { name := "halfCornersHold", fn := fun _ => fun
  | [d1, d2, d3] => { results := [.lit (.bool false)], args := [d1, d2, d3] }
  | _ => none }
def HalfCornersHoldWrongFalsely : Prop := halfCornersHoldRow.holds Try.pinned (OpenSpec.ofChange halfCornersHoldWrong)

/-- 'firetowerlaw03.HalfMore': WHATEVER THE INPUT: true; the input reads as it did. -/
def halfMoreSpec : ChangeSpec := { name := "halfMore", fn := fun _ => fun
  | [d1, d2, d3, d4] => { results := [.lit (.bool true)], args := [d1, d2, d3, d4] }
  | _ => none }
def halfMoreRow : OpenClaim := { program := "ytlmljmgappiehaa", sum := "e16b1097284e4d012a5044a4a6e1e2509dc06556ba26a6a0c00e09029b90d545", func := "firetower/firetowerlaw03.HalfMore", spec := "halfMore", unfollowed := true, recurses := true, apart := false }
def HalfMoreSaid : Prop := halfMoreRow.holds Try.pinned (OpenSpec.ofChange halfMoreSpec)

/-- ITS FALSE NEIGHBOUR: 'it returns false'. Refute it at one input. -/
def halfMoreWrong : ChangeSpec := { name := "halfMore", fn := fun _ => fun
  | [d1, d2, d3, d4] => { results := [.lit (.bool false)], args := [d1, d2, d3, d4] }
  | _ => none }
def HalfMoreWrongFalsely : Prop := halfMoreRow.holds Try.pinned (OpenSpec.ofChange halfMoreWrong)

/-- 'firetowerlaw03.HalfFewer': WHATEVER THE INPUT: true; the input reads as it did. -/
def halfFewerSpec : ChangeSpec := { name := "halfFewer", fn := fun _ => fun
  | [d] => { results := [.lit (.bool true)], args := [d] }
  | _ => none }
def halfFewerRow : OpenClaim := { program := "ytlmljmgappiehaa", sum := "e16b1097284e4d012a5044a4a6e1e2509dc06556ba26a6a0c00e09029b90d545", func := "firetower/firetowerlaw03.HalfFewer", spec := "halfFewer", unfollowed := true, recurses := true, apart := false }
def HalfFewerSaid : Prop := halfFewerRow.holds Try.pinned (OpenSpec.ofChange halfFewerSpec)

/-- ITS FALSE NEIGHBOUR: 'it returns false'. Refute it at one input. -/
def halfFewerWrong : ChangeSpec := { name := "halfFewer", fn := fun _ => fun
  | [d] => { results := [.lit (.bool false)], args := [d] }
  | _ => none }
def HalfFewerWrongFalsely : Prop := halfFewerRow.holds Try.pinned (OpenSpec.ofChange halfFewerWrong)

/-- 'firetowerlaw03.HalfDual': WHATEVER THE INPUT: true; the input reads as it did. -/
def halfDualSpec : ChangeSpec := { name := "halfDual", fn := fun _ => fun
  | [d1, d2, d3, d4, d5] => { results := [.lit (.bool true)], args := [d1, d2, d3, d4, d5] }
  | _ => none }
def halfDualRow : OpenClaim := { program := "ytlmljmgappiehaa", sum := "e16b1097284e4d012a5044a4a6e1e2509dc06556ba26a6a0c00e09029b90d545", func := "firetower/firetowerlaw03.HalfDual", spec := "halfDual", unfollowed := true, recurses := true, apart := false }
def HalfDualSaid : Prop := halfDualRow.holds Try.pinned (OpenSpec.ofChange halfDualSpec)

/-- ITS FALSE NEIGHBOUR: 'it returns false'. Refute it at one input. -/
def halfDualWrong : ChangeSpec := { name := "halfDual", fn := fun _ => fun
  | [d1, d2, d3, d4, d5] => { results := [.lit (.bool false)], args := [d1, d2, d3, d4, d5] }
  | _ => none }
def HalfDualWrongFalsely : Prop := halfDualRow.holds Try.pinned (OpenSpec.ofChange halfDualWrong)

/- THE SECOND FORM. 'bulk': how many values and letters a reading holds, each counted each time it is reached (what is shared counts as often as it is met; a slice's spare places count too). A statement '..UptoSaid' is the law's where the arguments, and the package variables that the reading takes, are together of bulk at most 1048576: NARROWER than '..Said'. Prove '..Said' where nothing that the law and all that it calls make is longer than what came in: it says more and counts as full. Else prove '..UptoSaid'. A law counts once. -/
mutual
def uptoBulk {H : Type} : DataW H → Nat
  | .lit (.string bytes) => bytes.length + 1
  | .lit _ => 1
  | .nil => 1
  | .ptr d => uptoBulk d + 1
  | .slice elems spare => uptoBulkAll elems + uptoBulkAll spare + 1
  | .agg parts => uptoBulkAll parts + 1
  | .iface _ d => uptoBulk d + 1
  | .map entries => uptoBulkEntries entries + 1
  | .held _ => 1
def uptoBulkAll {H : Type} : List (DataW H) → Nat
  | [] => 0
  | d :: r => uptoBulk d + uptoBulkAll r
def uptoBulkEntries {H : Type} : List (Lit × DataW H) → Nat
  | [] => 0
  | x :: r => uptoBulkEntry x + uptoBulkEntries r
def uptoBulkEntry {H : Type} : Lit × DataW H → Nat
  | (.string bytes, d) => bytes.length + uptoBulk d + 1
  | (_, d) => uptoBulk d + 1
 end
def uptoSmall : (H : Type) → List (DataW H) → Bool := fun _ ds => decide (uptoBulkAll ds ≤ 1048576)
def OpenSpec.upto (s : _root_.Go.ChangeSpec) : _root_.Go.OpenSpec := { _root_.Go.OpenSpec.ofChange s with cond := some uptoSmall }

/-- 'firetowerlaw03.HalfChecks', WHERE WHAT IT READS IS OF BULK AT MOST 1048576: true; the input reads as it did. -/
def halfChecksUptoRow : OpenClaim := { program := "ytlmljmgappiehaa", sum := "e16b1097284e4d012a5044a4a6e1e2509dc06556ba26a6a0c00e09029b90d545", func := "firetower/firetowerlaw03.HalfChecks", spec := "halfChecks", unfollowed := true, recurses := true, apart := false, narrowed := true }
def HalfChecksUptoSaid : Prop := halfChecksUptoRow.holds Try.pinned (OpenSpec.upto halfChecksSpec)

/-- 'firetowerlaw03.HalfHulls', WHERE WHAT IT READS IS OF BULK AT MOST 1048576: true; the input reads as it did. -/
def halfHullsUptoRow : OpenClaim := { program := "ytlmljmgappiehaa", sum := "e16b1097284e4d012a5044a4a6e1e2509dc06556ba26a6a0c00e09029b90d545", func := "firetower/firetowerlaw03.HalfHulls", spec := "halfHulls", unfollowed := true, recurses := true, apart := false, narrowed := true }
def HalfHullsUptoSaid : Prop := halfHullsUptoRow.holds Try.pinned (OpenSpec.upto halfHullsSpec)

/-- 'firetowerlaw03.HalfOrder', WHERE WHAT IT READS IS OF BULK AT MOST 1048576: true; the input reads as it did. -/
def halfOrderUptoRow : OpenClaim := { program := "ytlmljmgappiehaa", sum := "e16b1097284e4d012a5044a4a6e1e2509dc06556ba26a6a0c00e09029b90d545", func := "firetower/firetowerlaw03.HalfOrder", spec := "halfOrder", unfollowed := true, recurses := true, apart := false, narrowed := true }
def HalfOrderUptoSaid : Prop := halfOrderUptoRow.holds Try.pinned (OpenSpec.upto halfOrderSpec)

/-- 'firetowerlaw03.HalfSeparates', WHERE WHAT IT READS IS OF BULK AT MOST 1048576: true; the input reads as it did. -/
def halfSeparatesUptoRow : OpenClaim := { program := "ytlmljmgappiehaa", sum := "e16b1097284e4d012a5044a4a6e1e2509dc06556ba26a6a0c00e09029b90d545", func := "firetower/firetowerlaw03.HalfSeparates", spec := "halfSeparates", unfollowed := true, recurses := true, apart := false, narrowed := true }
def HalfSeparatesUptoSaid : Prop := halfSeparatesUptoRow.holds Try.pinned (OpenSpec.upto halfSeparatesSpec)

/-- 'firetowerlaw03.HalfAllows', WHERE WHAT IT READS IS OF BULK AT MOST 1048576: true; the input reads as it did. -/
def halfAllowsUptoRow : OpenClaim := { program := "ytlmljmgappiehaa", sum := "e16b1097284e4d012a5044a4a6e1e2509dc06556ba26a6a0c00e09029b90d545", func := "firetower/firetowerlaw03.HalfAllows", spec := "halfAllows", unfollowed := true, recurses := true, apart := false, narrowed := true }
def HalfAllowsUptoSaid : Prop := halfAllowsUptoRow.holds Try.pinned (OpenSpec.upto halfAllowsSpec)

/-- 'firetowerlaw03.HalfHullsHold', WHERE WHAT IT READS IS OF BULK AT MOST 1048576: true; the input reads as it did. -/
def halfHullsHoldUptoRow : OpenClaim := { program := "ytlmljmgappiehaa", sum := "e16b1097284e4d012a5044a4a6e1e2509dc06556ba26a6a0c00e09029b90d545", func := "firetower/firetowerlaw03.HalfHullsHold", spec := "halfHullsHold", unfollowed := true, recurses := true, apart := false, narrowed := true }
def HalfHullsHoldUptoSaid : Prop := halfHullsHoldUptoRow.holds Try.pinned (OpenSpec.upto halfHullsHoldSpec)

/-- 'firetowerlaw03.HalfCornersHold', WHERE WHAT IT READS IS OF BULK AT MOST 1048576: true; the input reads as it did. -/
def halfCornersHoldUptoRow : OpenClaim := { program := "ytlmljmgappiehaa", sum := "e16b1097284e4d012a5044a4a6e1e2509dc06556ba26a6a0c00e09029b90d545", func := "firetower/firetowerlaw03.HalfCornersHold", spec := "halfCornersHold", unfollowed := true, recurses := true, apart := false, narrowed := true }
def HalfCornersHoldUptoSaid : Prop := halfCornersHoldUptoRow.holds Try.pinned (OpenSpec.upto halfCornersHoldSpec)

/-- 'firetowerlaw03.HalfMore', WHERE WHAT IT READS IS OF BULK AT MOST 1048576: true; the input reads as it did. -/
def halfMoreUptoRow : OpenClaim := { program := "ytlmljmgappiehaa", sum := "e16b1097284e4d012a5044a4a6e1e2509dc06556ba26a6a0c00e09029b90d545", func := "firetower/firetowerlaw03.HalfMore", spec := "halfMore", unfollowed := true, recurses := true, apart := false, narrowed := true }
def HalfMoreUptoSaid : Prop := halfMoreUptoRow.holds Try.pinned (OpenSpec.upto halfMoreSpec)

/-- 'firetowerlaw03.HalfFewer', WHERE WHAT IT READS IS OF BULK AT MOST 1048576: true; the input reads as it did. -/
def halfFewerUptoRow : OpenClaim := { program := "ytlmljmgappiehaa", sum := "e16b1097284e4d012a5044a4a6e1e2509dc06556ba26a6a0c00e09029b90d545", func := "firetower/firetowerlaw03.HalfFewer", spec := "halfFewer", unfollowed := true, recurses := true, apart := false, narrowed := true }
def HalfFewerUptoSaid : Prop := halfFewerUptoRow.holds Try.pinned (OpenSpec.upto halfFewerSpec)

/-- 'firetowerlaw03.HalfDual', WHERE WHAT IT READS IS OF BULK AT MOST 1048576: true; the input reads as it did. -/
def halfDualUptoRow : OpenClaim := { program := "ytlmljmgappiehaa", sum := "e16b1097284e4d012a5044a4a6e1e2509dc06556ba26a6a0c00e09029b90d545", func := "firetower/firetowerlaw03.HalfDual", spec := "halfDual", unfollowed := true, recurses := true, apart := false, narrowed := true }
def HalfDualUptoSaid : Prop := halfDualUptoRow.holds Try.pinned (OpenSpec.upto halfDualSpec)

end Rows
end Go.Proofs.Ytlmljmgappiehaa
