/-
  NARROWER THAN 'FOR EVERY INPUT', by the rows' own cells (each row's printed sentence says how): RangesCheck: loops · RangesStraight: loops.
  DERIVED. THE GIVEN ROWS OF THIS SEAT. 2 by the template 'for every input the law returns true; each argument reads behind the call as it read before'; 0 by the template 'total and deterministic' (their statements: YtgcplcffejbniaaGreatTotals.lean).
  GIVEN WITH THE SEED: the statements are not yours to turn. If you find one false, say at which input.
  Laid BY PROGRAM, IN A SANDBOX (cutbox-rows.mjs): the forced cells as the released guide's own fill.sh prints them over the translation 3cfa8d12d723c59a… (all of the seat's roots in one cut). By AI agents, Wed Nov 11 2026. No macro, syntax, notation, axiom, sorry.
-/
import Derived.Test.YtgcplcffejbniaaGreatChecked
import GoSem.Claim
import GoSem.ClaimJoined
import GoSem.ClaimMapViews
import Derived.JoinedTies
import Derived.KernelRfl
namespace Go.Proofs.YtgcplcffejbniaaGreat
/- THE CELL 'sum', in the pinned program and in every row, IS THE sha256 OF THE DUMP (.gsa) THAT YtgcplcffejbniaaGreatProg.lean LOADS. Nothing in Lean hashes anything: it is a label: what it is worth is what the hold of that sum in a sandbox is worth. -/
noncomputable def Tryz.pinned : Pinned := { name := "ytgcplcffejbniaagreat", sum := "3cfa8d12d723c59a0aafe361b8362888b67d4cb68240f2fd5000709333f78fec", checked := Tryz.checked }
namespace Rows
def none {H : Type} : Left H := { results := [], args := [] }

/-- 'soffitlaw05.RangesCheck': WHATEVER THE INPUT: true; the input reads as it did. -/
def rangesCheckSpec : ChangeSpec := { name := "rangesCheck", fn := fun _ => fun
  | [d] => { results := [.lit (.bool true)], args := [d] }
  | _ => none }
def rangesCheckRow : OpenClaim := { program := "ytgcplcffejbniaagreat", sum := "3cfa8d12d723c59a0aafe361b8362888b67d4cb68240f2fd5000709333f78fec", func := "soffit/soffitlaw05.RangesCheck", spec := "rangesCheck", unfollowed := true, recurses := true, loops := true, apart := false }
def RangesCheckSaid : Prop := rangesCheckRow.holds Tryz.pinned (OpenSpec.ofChange rangesCheckSpec)

/-- ITS FALSE NEIGHBOUR: 'it returns false'. Refute it at one input. -/
def rangesCheckWrong : ChangeSpec := { name := "rangesCheck", fn := fun _ => fun
  | [d] => { results := [.lit (.bool false)], args := [d] }
  | _ => none }
def RangesCheckWrongFalsely : Prop := rangesCheckRow.holds Tryz.pinned (OpenSpec.ofChange rangesCheckWrong)

/-- 'soffitlaw05.RangesStraight': WHATEVER THE INPUT: true; the input reads as it did. -/
def rangesStraightSpec : ChangeSpec := { name := "rangesStraight", fn := fun _ => fun
  | [d1, d2, d3] => { results := [.lit (.bool true)], args := [d1, d2, d3] }
  | _ => none }
def rangesStraightRow : OpenClaim := { program := "ytgcplcffejbniaagreat", sum := "3cfa8d12d723c59a0aafe361b8362888b67d4cb68240f2fd5000709333f78fec", func := "soffit/soffitlaw05.RangesStraight", spec := "rangesStraight", unfollowed := true, recurses := true, loops := true, apart := false }
def RangesStraightSaid : Prop := rangesStraightRow.holds Tryz.pinned (OpenSpec.ofChange rangesStraightSpec)

/-- ITS FALSE NEIGHBOUR: 'it returns false'. Refute it at one input. -/
def rangesStraightWrong : ChangeSpec := { name := "rangesStraight", fn := fun _ => fun
  | [d1, d2, d3] => { results := [.lit (.bool false)], args := [d1, d2, d3] }
  | _ => none }
def RangesStraightWrongFalsely : Prop := rangesStraightRow.holds Tryz.pinned (OpenSpec.ofChange rangesStraightWrong)

/- THE SECOND FORM. 'bulk': how many values and letters a reading holds, each counted each time it is reached (what is shared counts as often as it is met; a slice's spare places count too). A statement '..UptoSaid' is the law's where the arguments, and the package variables that the reading takes, are together of bulk at most 1048576: NARROWER than '..Said'. Prove '..Said' where nothing that the law and all that it calls make is longer than what came in: it says more and counts as full. Else prove '..UptoSaid'. A law counts once. -/
mutual
def uptoBulk {H : Type} : DataW H → Nat
  | .lit (.string bytes) => bytes.length + 1
  | .lit _ => 1
  | .nil => 1
  | .ptr d => uptoBulk d + 1
  | .slice elems spare => uptoBulkAll elems + uptoBulkAll spare + 1
  | .agg parts => uptoBulkAll parts + 1
  | .iface _ d => uptoBulk d + 1
  | .map entries => uptoBulkEntries entries + 1
  | .held _ => 1
def uptoBulkAll {H : Type} : List (DataW H) → Nat
  | [] => 0
  | d :: r => uptoBulk d + uptoBulkAll r
def uptoBulkEntries {H : Type} : List (Lit × DataW H) → Nat
  | [] => 0
  | x :: r => uptoBulkEntry x + uptoBulkEntries r
def uptoBulkEntry {H : Type} : Lit × DataW H → Nat
  | (.string bytes, d) => bytes.length + uptoBulk d + 1
  | (_, d) => uptoBulk d + 1
 end
def uptoSmall : (H : Type) → List (DataW H) → Bool := fun _ ds => decide (uptoBulkAll ds ≤ 1048576)
def OpenSpec.upto (s : _root_.Go.ChangeSpec) : _root_.Go.OpenSpec := { _root_.Go.OpenSpec.ofChange s with cond := some uptoSmall }

/-- 'soffitlaw05.RangesCheck', WHERE WHAT IT READS IS OF BULK AT MOST 1048576: true; the input reads as it did. -/
def rangesCheckUptoRow : OpenClaim := { program := "ytgcplcffejbniaagreat", sum := "3cfa8d12d723c59a0aafe361b8362888b67d4cb68240f2fd5000709333f78fec", func := "soffit/soffitlaw05.RangesCheck", spec := "rangesCheck", unfollowed := true, recurses := true, loops := true, apart := false, narrowed := true }
def RangesCheckUptoSaid : Prop := rangesCheckUptoRow.holds Tryz.pinned (OpenSpec.upto rangesCheckSpec)

/-- 'soffitlaw05.RangesStraight', WHERE WHAT IT READS IS OF BULK AT MOST 1048576: true; the input reads as it did. -/
def rangesStraightUptoRow : OpenClaim := { program := "ytgcplcffejbniaagreat", sum := "3cfa8d12d723c59a0aafe361b8362888b67d4cb68240f2fd5000709333f78fec", func := "soffit/soffitlaw05.RangesStraight", spec := "rangesStraight", unfollowed := true, recurses := true, loops := true, apart := false, narrowed := true }
def RangesStraightUptoSaid : Prop := rangesStraightUptoRow.holds Tryz.pinned (OpenSpec.upto rangesStraightSpec)

end Rows
end Go.Proofs.YtgcplcffejbniaaGreat
