/-
  No cell of these rows narrows 'for every input' (looked for: loops, veiled, ifaces, maps, wideKeys, modest, calm, conditions, laid).
  DERIVED. THE GIVEN ROWS OF THIS SEAT. 9 by the template 'for every input the law returns true; each argument reads behind the call as it read before'; 0 by the template 'total and deterministic' (their statements: YtggkeodoenhmoaaTotals.lean).
  GIVEN WITH THE SEED: the statements are not yours to turn. If you find one false, say at which input.
  Laid BY PROGRAM, IN A SANDBOX (cutbox-rows.mjs): the forced cells as the released guide's own fill.sh prints them over the translation 0e23d7ae0aba0c1b… (all of the seat's roots in one cut). By AI agents, Wed Nov 11 2026. No macro, syntax, notation, axiom, sorry.
-/
import Derived.Test.YtggkeodoenhmoaaChecked
import GoSem.Claim
import GoSem.ClaimJoined
import GoSem.ClaimMapViews
import Derived.JoinedTies
import Derived.KernelRfl
namespace Go.Proofs.Ytggkeodoenhmoaa
/- THE CELL 'sum', in the pinned program and in every row, IS THE sha256 OF THE DUMP (.gsa) THAT YtggkeodoenhmoaaProg.lean LOADS. Nothing in Lean hashes anything: it is a label: what it is worth is what the hold of that sum in a sandbox is worth. -/
noncomputable def Try.pinned : Pinned := { name := "ytggkeodoenhmoaa", sum := "0e23d7ae0aba0c1b70281d3a3f8dd28cfb02c26f6164965a498e1228dd3fae85", checked := Try.checked }
namespace Rows
def none {H : Type} : Left H := { results := [], args := [] }

/-- 'soffitlaw12.FlowNext': WHATEVER THE INPUT: true; the input reads as it did. -/
def flowNextSpec : ChangeSpec := { name := "flowNext", fn := fun _ => fun
  | [d1, d2] => { results := [.lit (.bool true)], args := [d1, d2] }
  | _ => none }
def flowNextRow : OpenClaim := { program := "ytggkeodoenhmoaa", sum := "0e23d7ae0aba0c1b70281d3a3f8dd28cfb02c26f6164965a498e1228dd3fae85", func := "soffit/soffitlaw12.FlowNext", spec := "flowNext", unfollowed := true, recurses := true, apart := false }
def FlowNextSaid : Prop := flowNextRow.holds Try.pinned (OpenSpec.ofChange flowNextSpec)

/-- ITS FALSE NEIGHBOUR: 'it returns false'. Refute it at one input. -/
def flowNextWrong : ChangeSpec := { name := "flowNext", fn := fun _ => fun
  | [d1, d2] => { results := [.lit (.bool false)], args := [d1, d2] }
  | _ => none }
def FlowNextWrongFalsely : Prop := flowNextRow.holds Try.pinned (OpenSpec.ofChange flowNextWrong)

/-- 'soffitlaw12.FlowReach': WHATEVER THE INPUT: true; the input reads as it did. -/
def flowReachSpec : ChangeSpec := { name := "flowReach", fn := fun _ => fun
  | [d] => { results := [.lit (.bool true)], args := [d] }
  | _ => none }
def flowReachRow : OpenClaim := { program := "ytggkeodoenhmoaa", sum := "0e23d7ae0aba0c1b70281d3a3f8dd28cfb02c26f6164965a498e1228dd3fae85", func := "soffit/soffitlaw12.FlowReach", spec := "flowReach", unfollowed := true, recurses := true, apart := false }
def FlowReachSaid : Prop := flowReachRow.holds Try.pinned (OpenSpec.ofChange flowReachSpec)

/-- ITS FALSE NEIGHBOUR: 'it returns false'. Refute it at one input. -/
def flowReachWrong : ChangeSpec := { name := "flowReach", fn := fun _ => fun
  | [d] => { results := [.lit (.bool false)], args := [d] }
  | _ => none }
def FlowReachWrongFalsely : Prop := flowReachRow.holds Try.pinned (OpenSpec.ofChange flowReachWrong)

/-- 'soffitlaw12.FlowEdges': WHATEVER THE INPUT: true; the input reads as it did. -/
def flowEdgesSpec : ChangeSpec := { name := "flowEdges", fn := fun _ => fun
  | [d1, d2] => { results := [.lit (.bool true)], args := [d1, d2] }
  | _ => none }
def flowEdgesRow : OpenClaim := { program := "ytggkeodoenhmoaa", sum := "0e23d7ae0aba0c1b70281d3a3f8dd28cfb02c26f6164965a498e1228dd3fae85", func := "soffit/soffitlaw12.FlowEdges", spec := "flowEdges", unfollowed := true, recurses := true, apart := false }
def FlowEdgesSaid : Prop := flowEdgesRow.holds Try.pinned (OpenSpec.ofChange flowEdgesSpec)

/-- ITS FALSE NEIGHBOUR: 'it returns false'. Refute it at one input. -/
def flowEdgesWrong : ChangeSpec := { name := "flowEdges", fn := fun _ => fun
  | [d1, d2] => { results := [.lit (.bool false)], args := [d1, d2] }
  | _ => none }
def FlowEdgesWrongFalsely : Prop := flowEdgesRow.holds Try.pinned (OpenSpec.ofChange flowEdgesWrong)

/-- 'soffitlaw12.FlowBlocks': WHATEVER THE INPUT: true; the input reads as it did. -/
def flowBlocksSpec : ChangeSpec := { name := "flowBlocks", fn := fun _ => fun
  | [d] => { results := [.lit (.bool true)], args := [d] }
  | _ => none }
def flowBlocksRow : OpenClaim := { program := "ytggkeodoenhmoaa", sum := "0e23d7ae0aba0c1b70281d3a3f8dd28cfb02c26f6164965a498e1228dd3fae85", func := "soffit/soffitlaw12.FlowBlocks", spec := "flowBlocks", unfollowed := true, recurses := true, apart := false }
def FlowBlocksSaid : Prop := flowBlocksRow.holds Try.pinned (OpenSpec.ofChange flowBlocksSpec)

/-- ITS FALSE NEIGHBOUR: 'it returns false'. Refute it at one input. -/
def flowBlocksWrong : ChangeSpec := { name := "flowBlocks", fn := fun _ => fun
  | [d] => { results := [.lit (.bool false)], args := [d] }
  | _ => none }
def FlowBlocksWrongFalsely : Prop := flowBlocksRow.holds Try.pinned (OpenSpec.ofChange flowBlocksWrong)

/-- 'soffitlaw12.FlowCloses': WHATEVER THE INPUT: true; the input reads as it did. -/
def flowClosesSpec : ChangeSpec := { name := "flowCloses", fn := fun _ => fun
  | [d] => { results := [.lit (.bool true)], args := [d] }
  | _ => none }
def flowClosesRow : OpenClaim := { program := "ytggkeodoenhmoaa", sum := "0e23d7ae0aba0c1b70281d3a3f8dd28cfb02c26f6164965a498e1228dd3fae85", func := "soffit/soffitlaw12.FlowCloses", spec := "flowCloses", unfollowed := true, recurses := true, apart := false }
def FlowClosesSaid : Prop := flowClosesRow.holds Try.pinned (OpenSpec.ofChange flowClosesSpec)

/-- ITS FALSE NEIGHBOUR: 'it returns false'. Refute it at one input. -/
def flowClosesWrong : ChangeSpec := { name := "flowCloses", fn := fun _ => fun
  | [d] => { results := [.lit (.bool false)], args := [d] }
  | _ => none }
def FlowClosesWrongFalsely : Prop := flowClosesRow.holds Try.pinned (OpenSpec.ofChange flowClosesWrong)

/-- 'soffitlaw13.DomAsks': WHATEVER THE INPUT: true; the input reads as it did. -/
def domAsksSpec : ChangeSpec := { name := "domAsks", fn := fun _ => fun
  | [d1, d2, d3] => { results := [.lit (.bool true)], args := [d1, d2, d3] }
  | _ => none }
def domAsksRow : OpenClaim := { program := "ytggkeodoenhmoaa", sum := "0e23d7ae0aba0c1b70281d3a3f8dd28cfb02c26f6164965a498e1228dd3fae85", func := "soffit/soffitlaw13.DomAsks", spec := "domAsks", unfollowed := true, recurses := true, apart := false }
def DomAsksSaid : Prop := domAsksRow.holds Try.pinned (OpenSpec.ofChange domAsksSpec)

/-- ITS FALSE NEIGHBOUR: 'it returns false'. Refute it at one input. -/
def domAsksWrong : ChangeSpec := { name := "domAsks", fn := fun _ => fun
  | [d1, d2, d3] => { results := [.lit (.bool false)], args := [d1, d2, d3] }
  | _ => none }
def DomAsksWrongFalsely : Prop := domAsksRow.holds Try.pinned (OpenSpec.ofChange domAsksWrong)

/-- 'soffitlaw13.DomTree': WHATEVER THE INPUT: true; the input reads as it did. -/
def domTreeSpec : ChangeSpec := { name := "domTree", fn := fun _ => fun
  | [d] => { results := [.lit (.bool true)], args := [d] }
  | _ => none }
def domTreeRow : OpenClaim := { program := "ytggkeodoenhmoaa", sum := "0e23d7ae0aba0c1b70281d3a3f8dd28cfb02c26f6164965a498e1228dd3fae85", func := "soffit/soffitlaw13.DomTree", spec := "domTree", unfollowed := true, recurses := true, apart := false }
def DomTreeSaid : Prop := domTreeRow.holds Try.pinned (OpenSpec.ofChange domTreeSpec)

/-- ITS FALSE NEIGHBOUR: 'it returns false'. Refute it at one input. -/
def domTreeWrong : ChangeSpec := { name := "domTree", fn := fun _ => fun
  | [d] => { results := [.lit (.bool false)], args := [d] }
  | _ => none }
def DomTreeWrongFalsely : Prop := domTreeRow.holds Try.pinned (OpenSpec.ofChange domTreeWrong)

/-- 'soffitlaw13.DomClimbs': WHATEVER THE INPUT: true; the input reads as it did. -/
def domClimbsSpec : ChangeSpec := { name := "domClimbs", fn := fun _ => fun
  | [d1, d2, d3] => { results := [.lit (.bool true)], args := [d1, d2, d3] }
  | _ => none }
def domClimbsRow : OpenClaim := { program := "ytggkeodoenhmoaa", sum := "0e23d7ae0aba0c1b70281d3a3f8dd28cfb02c26f6164965a498e1228dd3fae85", func := "soffit/soffitlaw13.DomClimbs", spec := "domClimbs", unfollowed := true, recurses := true, apart := false }
def DomClimbsSaid : Prop := domClimbsRow.holds Try.pinned (OpenSpec.ofChange domClimbsSpec)

/-- ITS FALSE NEIGHBOUR: 'it returns false'. Refute it at one input. -/
def domClimbsWrong : ChangeSpec := { name := "domClimbs", fn := fun _ => fun
  | [d1, d2, d3] => { results := [.lit (.bool false)], args := [d1, d2, d3] }
  | _ => none }
def DomClimbsWrongFalsely : Prop := domClimbsRow.holds Try.pinned (OpenSpec.ofChange domClimbsWrong)

/-- 'soffitlaw13.DomEdges': WHATEVER THE INPUT: true; the input reads as it did. -/
def domEdgesSpec : ChangeSpec := { name := "domEdges", fn := fun _ => fun
  | [d1, d2] => { results := [.lit (.bool true)], args := [d1, d2] }
  | _ => none }
def domEdgesRow : OpenClaim := { program := "ytggkeodoenhmoaa", sum := "0e23d7ae0aba0c1b70281d3a3f8dd28cfb02c26f6164965a498e1228dd3fae85", func := "soffit/soffitlaw13.DomEdges", spec := "domEdges", unfollowed := true, recurses := true, apart := false }
def DomEdgesSaid : Prop := domEdgesRow.holds Try.pinned (OpenSpec.ofChange domEdgesSpec)

/-- ITS FALSE NEIGHBOUR: 'it returns false'. Refute it at one input. -/
def domEdgesWrong : ChangeSpec := { name := "domEdges", fn := fun _ => fun
  | [d1, d2] => { results := [.lit (.bool false)], args := [d1, d2] }
  | _ => none }
def DomEdgesWrongFalsely : Prop := domEdgesRow.holds Try.pinned (OpenSpec.ofChange domEdgesWrong)

/- THE SECOND FORM. 'bulk': how many values and letters a reading holds, each counted each time it is reached (what is shared counts as often as it is met; a slice's spare places count too). A statement '..UptoSaid' is the law's where the arguments, and the package variables that the reading takes, are together of bulk at most 1048576: NARROWER than '..Said'. Prove '..Said' where nothing that the law and all that it calls make is longer than what came in: it says more and counts as full. Else prove '..UptoSaid'. A law counts once. -/
mutual
def uptoBulk {H : Type} : DataW H → Nat
  | .lit (.string bytes) => bytes.length + 1
  | .lit _ => 1
  | .nil => 1
  | .ptr d => uptoBulk d + 1
  | .slice elems spare => uptoBulkAll elems + uptoBulkAll spare + 1
  | .agg parts => uptoBulkAll parts + 1
  | .iface _ d => uptoBulk d + 1
  | .map entries => uptoBulkEntries entries + 1
  | .held _ => 1
def uptoBulkAll {H : Type} : List (DataW H) → Nat
  | [] => 0
  | d :: r => uptoBulk d + uptoBulkAll r
def uptoBulkEntries {H : Type} : List (Lit × DataW H) → Nat
  | [] => 0
  | x :: r => uptoBulkEntry x + uptoBulkEntries r
def uptoBulkEntry {H : Type} : Lit × DataW H → Nat
  | (.string bytes, d) => bytes.length + uptoBulk d + 1
  | (_, d) => uptoBulk d + 1
 end
def uptoSmall : (H : Type) → List (DataW H) → Bool := fun _ ds => decide (uptoBulkAll ds ≤ 1048576)
def OpenSpec.upto (s : _root_.Go.ChangeSpec) : _root_.Go.OpenSpec := { _root_.Go.OpenSpec.ofChange s with cond := some uptoSmall }

/-- 'soffitlaw12.FlowNext', WHERE WHAT IT READS IS OF BULK AT MOST 1048576: true; the input reads as it did. -/
def flowNextUptoRow : OpenClaim := { program := "ytggkeodoenhmoaa", sum := "0e23d7ae0aba0c1b70281d3a3f8dd28cfb02c26f6164965a498e1228dd3fae85", func := "soffit/soffitlaw12.FlowNext", spec := "flowNext", unfollowed := true, recurses := true, apart := false, narrowed := true }
def FlowNextUptoSaid : Prop := flowNextUptoRow.holds Try.pinned (OpenSpec.upto flowNextSpec)

/-- 'soffitlaw12.FlowReach', WHERE WHAT IT READS IS OF BULK AT MOST 1048576: true; the input reads as it did. -/
def flowReachUptoRow : OpenClaim := { program := "ytggkeodoenhmoaa", sum := "0e23d7ae0aba0c1b70281d3a3f8dd28cfb02c26f6164965a498e1228dd3fae85", func := "soffit/soffitlaw12.FlowReach", spec := "flowReach", unfollowed := true, recurses := true, apart := false, narrowed := true }
def FlowReachUptoSaid : Prop := flowReachUptoRow.holds Try.pinned (OpenSpec.upto flowReachSpec)

/-- 'soffitlaw12.FlowEdges', WHERE WHAT IT READS IS OF BULK AT MOST 1048576: true; the input reads as it did. -/
def flowEdgesUptoRow : OpenClaim := { program := "ytggkeodoenhmoaa", sum := "0e23d7ae0aba0c1b70281d3a3f8dd28cfb02c26f6164965a498e1228dd3fae85", func := "soffit/soffitlaw12.FlowEdges", spec := "flowEdges", unfollowed := true, recurses := true, apart := false, narrowed := true }
def FlowEdgesUptoSaid : Prop := flowEdgesUptoRow.holds Try.pinned (OpenSpec.upto flowEdgesSpec)

/-- 'soffitlaw12.FlowBlocks', WHERE WHAT IT READS IS OF BULK AT MOST 1048576: true; the input reads as it did. -/
def flowBlocksUptoRow : OpenClaim := { program := "ytggkeodoenhmoaa", sum := "0e23d7ae0aba0c1b70281d3a3f8dd28cfb02c26f6164965a498e1228dd3fae85", func := "soffit/soffitlaw12.FlowBlocks", spec := "flowBlocks", unfollowed := true, recurses := true, apart := false, narrowed := true }
def FlowBlocksUptoSaid : Prop := flowBlocksUptoRow.holds Try.pinned (OpenSpec.upto flowBlocksSpec)

/-- 'soffitlaw12.FlowCloses', WHERE WHAT IT READS IS OF BULK AT MOST 1048576: true; the input reads as it did. -/
def flowClosesUptoRow : OpenClaim := { program := "ytggkeodoenhmoaa", sum := "0e23d7ae0aba0c1b70281d3a3f8dd28cfb02c26f6164965a498e1228dd3fae85", func := "soffit/soffitlaw12.FlowCloses", spec := "flowCloses", unfollowed := true, recurses := true, apart := false, narrowed := true }
def FlowClosesUptoSaid : Prop := flowClosesUptoRow.holds Try.pinned (OpenSpec.upto flowClosesSpec)

/-- 'soffitlaw13.DomAsks', WHERE WHAT IT READS IS OF BULK AT MOST 1048576: true; the input reads as it did. -/
def domAsksUptoRow : OpenClaim := { program := "ytggkeodoenhmoaa", sum := "0e23d7ae0aba0c1b70281d3a3f8dd28cfb02c26f6164965a498e1228dd3fae85", func := "soffit/soffitlaw13.DomAsks", spec := "domAsks", unfollowed := true, recurses := true, apart := false, narrowed := true }
def DomAsksUptoSaid : Prop := domAsksUptoRow.holds Try.pinned (OpenSpec.upto domAsksSpec)

/-- 'soffitlaw13.DomTree', WHERE WHAT IT READS IS OF BULK AT MOST 1048576: true; the input reads as it did. -/
def domTreeUptoRow : OpenClaim := { program := "ytggkeodoenhmoaa", sum := "0e23d7ae0aba0c1b70281d3a3f8dd28cfb02c26f6164965a498e1228dd3fae85", func := "soffit/soffitlaw13.DomTree", spec := "domTree", unfollowed := true, recurses := true, apart := false, narrowed := true }
def DomTreeUptoSaid : Prop := domTreeUptoRow.holds Try.pinned (OpenSpec.upto domTreeSpec)

/-- 'soffitlaw13.DomClimbs', WHERE WHAT IT READS IS OF BULK AT MOST 1048576: true; the input reads as it did. -/
def domClimbsUptoRow : OpenClaim := { program := "ytggkeodoenhmoaa", sum := "0e23d7ae0aba0c1b70281d3a3f8dd28cfb02c26f6164965a498e1228dd3fae85", func := "soffit/soffitlaw13.DomClimbs", spec := "domClimbs", unfollowed := true, recurses := true, apart := false, narrowed := true }
def DomClimbsUptoSaid : Prop := domClimbsUptoRow.holds Try.pinned (OpenSpec.upto domClimbsSpec)

/-- 'soffitlaw13.DomEdges', WHERE WHAT IT READS IS OF BULK AT MOST 1048576: true; the input reads as it did. -/
def domEdgesUptoRow : OpenClaim := { program := "ytggkeodoenhmoaa", sum := "0e23d7ae0aba0c1b70281d3a3f8dd28cfb02c26f6164965a498e1228dd3fae85", func := "soffit/soffitlaw13.DomEdges", spec := "domEdges", unfollowed := true, recurses := true, apart := false, narrowed := true }
def DomEdgesUptoSaid : Prop := domEdgesUptoRow.holds Try.pinned (OpenSpec.upto domEdgesSpec)

end Rows
end Go.Proofs.Ytggkeodoenhmoaa
