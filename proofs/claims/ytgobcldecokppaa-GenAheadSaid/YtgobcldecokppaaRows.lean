/-
  NARROWER THAN 'FOR EVERY INPUT', by the rows' own cells (each row's printed sentence says how): GenAhead: loops · GenStraight: loops.
  DERIVED. THE GIVEN ROWS OF THIS SEAT. 3 by the template 'for every input the law returns true; each argument reads behind the call as it read before'; 0 by the template 'total and deterministic' (their statements: YtgobcldecokppaaTotals.lean).
  GIVEN WITH THE SEED: the statements are not yours to turn. If you find one false, say at which input.
  Laid BY PROGRAM, IN A SANDBOX (cutbox-rows.mjs): the forced cells as the released guide's own fill.sh prints them over the translation 5cb88839583a6483… (all of the seat's roots in one cut). By AI agents, Wed Nov 11 2026. No macro, syntax, notation, axiom, sorry.
-/
import Derived.Test.YtgobcldecokppaaChecked
import GoSem.Claim
import GoSem.ClaimJoined
import GoSem.ClaimMapViews
import Derived.JoinedTies
import Derived.KernelRfl
namespace Go.Proofs.Ytgobcldecokppaa
/- THE CELL 'sum', in the pinned program and in every row, IS THE sha256 OF THE DUMP (.gsa) THAT YtgobcldecokppaaProg.lean LOADS. Nothing in Lean hashes anything: it is a label: what it is worth is what the hold of that sum in a sandbox is worth. -/
noncomputable def Try.pinned : Pinned := { name := "ytgobcldecokppaa", sum := "5cb88839583a64834304c71ec2ba2f67ed838f01519150124bc5338ed9bf4aba", checked := Try.checked }
namespace Rows
def none {H : Type} : Left H := { results := [], args := [] }

/-- 'soffitlaw22.GenNames': WHATEVER THE INPUT: true; the input reads as it did. -/
def genNamesSpec : ChangeSpec := { name := "genNames", fn := fun _ => fun
  | [] => { results := [.lit (.bool true)], args := [] }
  | _ => none }
def genNamesRow : OpenClaim := { program := "ytgobcldecokppaa", sum := "5cb88839583a64834304c71ec2ba2f67ed838f01519150124bc5338ed9bf4aba", func := "soffit/soffitlaw22.GenNames", spec := "genNames", unfollowed := true, recurses := true, apart := false }
def GenNamesSaid : Prop := genNamesRow.holds Try.pinned (OpenSpec.ofChange genNamesSpec)

/-- ITS FALSE NEIGHBOUR: 'it returns false'. Refute it at one input. -/
def genNamesWrong : ChangeSpec := { name := "genNames", fn := fun _ => fun
  | [] => { results := [.lit (.bool false)], args := [] }
  | _ => none }
def GenNamesWrongFalsely : Prop := genNamesRow.holds Try.pinned (OpenSpec.ofChange genNamesWrong)

/-- 'soffitlaw22.GenAhead': WHATEVER THE INPUT: true; the input reads as it did. -/
def genAheadSpec : ChangeSpec := { name := "genAhead", fn := fun _ => fun
  | [d1, d2] => { results := [.lit (.bool true)], args := [d1, d2] }
  | _ => none }
def genAheadRow : OpenClaim := { program := "ytgobcldecokppaa", sum := "5cb88839583a64834304c71ec2ba2f67ed838f01519150124bc5338ed9bf4aba", func := "soffit/soffitlaw22.GenAhead", spec := "genAhead", unfollowed := true, recurses := true, loops := true, apart := false }
def GenAheadSaid : Prop := genAheadRow.holds Try.pinned (OpenSpec.ofChange genAheadSpec)

/-- ITS FALSE NEIGHBOUR: 'it returns false'. Refute it at one input. -/
def genAheadWrong : ChangeSpec := { name := "genAhead", fn := fun _ => fun
  | [d1, d2] => { results := [.lit (.bool false)], args := [d1, d2] }
  | _ => none }
def GenAheadWrongFalsely : Prop := genAheadRow.holds Try.pinned (OpenSpec.ofChange genAheadWrong)

/-- 'soffitlaw22.GenStraight': WHATEVER THE INPUT: true; the input reads as it did. -/
def genStraightSpec : ChangeSpec := { name := "genStraight", fn := fun _ => fun
  | [d1, d2] => { results := [.lit (.bool true)], args := [d1, d2] }
  | _ => none }
def genStraightRow : OpenClaim := { program := "ytgobcldecokppaa", sum := "5cb88839583a64834304c71ec2ba2f67ed838f01519150124bc5338ed9bf4aba", func := "soffit/soffitlaw22.GenStraight", spec := "genStraight", unfollowed := true, recurses := true, loops := true, apart := false }
def GenStraightSaid : Prop := genStraightRow.holds Try.pinned (OpenSpec.ofChange genStraightSpec)

/-- ITS FALSE NEIGHBOUR: 'it returns false'. Refute it at one input. -/
def genStraightWrong : ChangeSpec := { name := "genStraight", fn := fun _ => fun
  | [d1, d2] => { results := [.lit (.bool false)], args := [d1, d2] }
  | _ => none }
def GenStraightWrongFalsely : Prop := genStraightRow.holds Try.pinned (OpenSpec.ofChange genStraightWrong)

/- THE SECOND FORM. 'bulk': how many values and letters a reading holds, each counted each time it is reached (what is shared counts as often as it is met; a slice's spare places count too). A statement '..UptoSaid' is the law's where the arguments, and the package variables that the reading takes, are together of bulk at most 1048576: NARROWER than '..Said'. Prove '..Said' where nothing that the law and all that it calls make is longer than what came in: it says more and counts as full. Else prove '..UptoSaid'. A law counts once. -/
mutual
def uptoBulk {H : Type} : DataW H → Nat
  | .lit (.string bytes) => bytes.length + 1
  | .lit _ => 1
  | .nil => 1
  | .ptr d => uptoBulk d + 1
  | .slice elems spare => uptoBulkAll elems + uptoBulkAll spare + 1
  | .agg parts => uptoBulkAll parts + 1
  | .iface _ d => uptoBulk d + 1
  | .map entries => uptoBulkEntries entries + 1
  | .held _ => 1
def uptoBulkAll {H : Type} : List (DataW H) → Nat
  | [] => 0
  | d :: r => uptoBulk d + uptoBulkAll r
def uptoBulkEntries {H : Type} : List (Lit × DataW H) → Nat
  | [] => 0
  | x :: r => uptoBulkEntry x + uptoBulkEntries r
def uptoBulkEntry {H : Type} : Lit × DataW H → Nat
  | (.string bytes, d) => bytes.length + uptoBulk d + 1
  | (_, d) => uptoBulk d + 1
 end
def uptoSmall : (H : Type) → List (DataW H) → Bool := fun _ ds => decide (uptoBulkAll ds ≤ 1048576)
def OpenSpec.upto (s : _root_.Go.ChangeSpec) : _root_.Go.OpenSpec := { _root_.Go.OpenSpec.ofChange s with cond := some uptoSmall }

/-- 'soffitlaw22.GenNames', WHERE WHAT IT READS IS OF BULK AT MOST 1048576: true; the input reads as it did. -/
def genNamesUptoRow : OpenClaim := { program := "ytgobcldecokppaa", sum := "5cb88839583a64834304c71ec2ba2f67ed838f01519150124bc5338ed9bf4aba", func := "soffit/soffitlaw22.GenNames", spec := "genNames", unfollowed := true, recurses := true, apart := false, narrowed := true }
def GenNamesUptoSaid : Prop := genNamesUptoRow.holds Try.pinned (OpenSpec.upto genNamesSpec)

/-- 'soffitlaw22.GenAhead', WHERE WHAT IT READS IS OF BULK AT MOST 1048576: true; the input reads as it did. -/
def genAheadUptoRow : OpenClaim := { program := "ytgobcldecokppaa", sum := "5cb88839583a64834304c71ec2ba2f67ed838f01519150124bc5338ed9bf4aba", func := "soffit/soffitlaw22.GenAhead", spec := "genAhead", unfollowed := true, recurses := true, loops := true, apart := false, narrowed := true }
def GenAheadUptoSaid : Prop := genAheadUptoRow.holds Try.pinned (OpenSpec.upto genAheadSpec)

/-- 'soffitlaw22.GenStraight', WHERE WHAT IT READS IS OF BULK AT MOST 1048576: true; the input reads as it did. -/
def genStraightUptoRow : OpenClaim := { program := "ytgobcldecokppaa", sum := "5cb88839583a64834304c71ec2ba2f67ed838f01519150124bc5338ed9bf4aba", func := "soffit/soffitlaw22.GenStraight", spec := "genStraight", unfollowed := true, recurses := true, loops := true, apart := false, narrowed := true }
def GenStraightUptoSaid : Prop := genStraightUptoRow.holds Try.pinned (OpenSpec.upto genStraightSpec)

end Rows
end Go.Proofs.Ytgobcldecokppaa
