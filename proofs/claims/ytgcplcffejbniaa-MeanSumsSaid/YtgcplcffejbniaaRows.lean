/-
  NARROWER THAN 'FOR EVERY INPUT', by the rows' own cells (each row's printed sentence says how): RangesAhead: loops · RangesSteps: loops · RangesArity: loops · RangesKeeps: loops · RangesWraps: loops · MeanMost: loops · MeanAhead: loops.
  DERIVED. THE GIVEN ROWS OF THIS SEAT. 10 by the template 'for every input the law returns true; each argument reads behind the call as it read before'; 0 by the template 'total and deterministic' (their statements: YtgcplcffejbniaaTotals.lean).
  GIVEN WITH THE SEED: the statements are not yours to turn. If you find one false, say at which input.
  Laid BY PROGRAM, IN A SANDBOX (cutbox-rows.mjs): the forced cells as the released guide's own fill.sh prints them over the translation b0b0b365b034ef8e… (all of the seat's roots in one cut). By AI agents, Wed Nov 11 2026. No macro, syntax, notation, axiom, sorry.
-/
import Derived.Test.YtgcplcffejbniaaChecked
import GoSem.Claim
import GoSem.ClaimJoined
import GoSem.ClaimMapViews
import Derived.JoinedTies
import Derived.KernelRfl
namespace Go.Proofs.Ytgcplcffejbniaa
/- THE CELL 'sum', in the pinned program and in every row, IS THE sha256 OF THE DUMP (.gsa) THAT YtgcplcffejbniaaProg.lean LOADS. Nothing in Lean hashes anything: it is a label: what it is worth is what the hold of that sum in a sandbox is worth. -/
noncomputable def Try.pinned : Pinned := { name := "ytgcplcffejbniaa", sum := "b0b0b365b034ef8e5f0f643edfd22438eaf9aa001417f9ff022c453c4675e296", checked := Try.checked }
namespace Rows
def none {H : Type} : Left H := { results := [], args := [] }

/-- 'soffitlaw05.RangesNames': WHATEVER THE INPUT: true; the input reads as it did. -/
def rangesNamesSpec : ChangeSpec := { name := "rangesNames", fn := fun _ => fun
  | [] => { results := [.lit (.bool true)], args := [] }
  | _ => none }
def rangesNamesRow : OpenClaim := { program := "ytgcplcffejbniaa", sum := "b0b0b365b034ef8e5f0f643edfd22438eaf9aa001417f9ff022c453c4675e296", func := "soffit/soffitlaw05.RangesNames", spec := "rangesNames", unfollowed := true, recurses := true, apart := false }
def RangesNamesSaid : Prop := rangesNamesRow.holds Try.pinned (OpenSpec.ofChange rangesNamesSpec)

/-- ITS FALSE NEIGHBOUR: 'it returns false'. Refute it at one input. -/
def rangesNamesWrong : ChangeSpec := { name := "rangesNames", fn := fun _ => fun
  | [] => { results := [.lit (.bool false)], args := [] }
  | _ => none }
def RangesNamesWrongFalsely : Prop := rangesNamesRow.holds Try.pinned (OpenSpec.ofChange rangesNamesWrong)

/-- 'soffitlaw05.RangesAhead': WHATEVER THE INPUT: true; the input reads as it did. -/
def rangesAheadSpec : ChangeSpec := { name := "rangesAhead", fn := fun _ => fun
  | [d1, d2, d3] => { results := [.lit (.bool true)], args := [d1, d2, d3] }
  | _ => none }
def rangesAheadRow : OpenClaim := { program := "ytgcplcffejbniaa", sum := "b0b0b365b034ef8e5f0f643edfd22438eaf9aa001417f9ff022c453c4675e296", func := "soffit/soffitlaw05.RangesAhead", spec := "rangesAhead", unfollowed := true, recurses := true, loops := true, apart := false }
def RangesAheadSaid : Prop := rangesAheadRow.holds Try.pinned (OpenSpec.ofChange rangesAheadSpec)

/-- ITS FALSE NEIGHBOUR: 'it returns false'. Refute it at one input. -/
def rangesAheadWrong : ChangeSpec := { name := "rangesAhead", fn := fun _ => fun
  | [d1, d2, d3] => { results := [.lit (.bool false)], args := [d1, d2, d3] }
  | _ => none }
def RangesAheadWrongFalsely : Prop := rangesAheadRow.holds Try.pinned (OpenSpec.ofChange rangesAheadWrong)

/-- 'soffitlaw05.RangesSteps': WHATEVER THE INPUT: true; the input reads as it did. -/
def rangesStepsSpec : ChangeSpec := { name := "rangesSteps", fn := fun _ => fun
  | [d1, d2] => { results := [.lit (.bool true)], args := [d1, d2] }
  | _ => none }
def rangesStepsRow : OpenClaim := { program := "ytgcplcffejbniaa", sum := "b0b0b365b034ef8e5f0f643edfd22438eaf9aa001417f9ff022c453c4675e296", func := "soffit/soffitlaw05.RangesSteps", spec := "rangesSteps", unfollowed := true, recurses := true, loops := true, apart := false }
def RangesStepsSaid : Prop := rangesStepsRow.holds Try.pinned (OpenSpec.ofChange rangesStepsSpec)

/-- ITS FALSE NEIGHBOUR: 'it returns false'. Refute it at one input. -/
def rangesStepsWrong : ChangeSpec := { name := "rangesSteps", fn := fun _ => fun
  | [d1, d2] => { results := [.lit (.bool false)], args := [d1, d2] }
  | _ => none }
def RangesStepsWrongFalsely : Prop := rangesStepsRow.holds Try.pinned (OpenSpec.ofChange rangesStepsWrong)

/-- 'soffitlaw05.RangesArity': WHATEVER THE INPUT: true; the input reads as it did. -/
def rangesAritySpec : ChangeSpec := { name := "rangesArity", fn := fun _ => fun
  | [d1, d2, d3, d4] => { results := [.lit (.bool true)], args := [d1, d2, d3, d4] }
  | _ => none }
def rangesArityRow : OpenClaim := { program := "ytgcplcffejbniaa", sum := "b0b0b365b034ef8e5f0f643edfd22438eaf9aa001417f9ff022c453c4675e296", func := "soffit/soffitlaw05.RangesArity", spec := "rangesArity", unfollowed := true, recurses := true, loops := true, apart := false }
def RangesAritySaid : Prop := rangesArityRow.holds Try.pinned (OpenSpec.ofChange rangesAritySpec)

/-- ITS FALSE NEIGHBOUR: 'it returns false'. Refute it at one input. -/
def rangesArityWrong : ChangeSpec := { name := "rangesArity", fn := fun _ => fun
  | [d1, d2, d3, d4] => { results := [.lit (.bool false)], args := [d1, d2, d3, d4] }
  | _ => none }
def RangesArityWrongFalsely : Prop := rangesArityRow.holds Try.pinned (OpenSpec.ofChange rangesArityWrong)

/-- 'soffitlaw05.RangesKeeps': WHATEVER THE INPUT: true; the input reads as it did. -/
def rangesKeepsSpec : ChangeSpec := { name := "rangesKeeps", fn := fun _ => fun
  | [d1, d2] => { results := [.lit (.bool true)], args := [d1, d2] }
  | _ => none }
def rangesKeepsRow : OpenClaim := { program := "ytgcplcffejbniaa", sum := "b0b0b365b034ef8e5f0f643edfd22438eaf9aa001417f9ff022c453c4675e296", func := "soffit/soffitlaw05.RangesKeeps", spec := "rangesKeeps", unfollowed := true, recurses := true, loops := true, apart := false }
def RangesKeepsSaid : Prop := rangesKeepsRow.holds Try.pinned (OpenSpec.ofChange rangesKeepsSpec)

/-- ITS FALSE NEIGHBOUR: 'it returns false'. Refute it at one input. -/
def rangesKeepsWrong : ChangeSpec := { name := "rangesKeeps", fn := fun _ => fun
  | [d1, d2] => { results := [.lit (.bool false)], args := [d1, d2] }
  | _ => none }
def RangesKeepsWrongFalsely : Prop := rangesKeepsRow.holds Try.pinned (OpenSpec.ofChange rangesKeepsWrong)

/-- 'soffitlaw05.RangesWraps': WHATEVER THE INPUT: true; the input reads as it did. -/
def rangesWrapsSpec : ChangeSpec := { name := "rangesWraps", fn := fun _ => fun
  | [d1, d2] => { results := [.lit (.bool true)], args := [d1, d2] }
  | _ => none }
def rangesWrapsRow : OpenClaim := { program := "ytgcplcffejbniaa", sum := "b0b0b365b034ef8e5f0f643edfd22438eaf9aa001417f9ff022c453c4675e296", func := "soffit/soffitlaw05.RangesWraps", spec := "rangesWraps", unfollowed := true, recurses := true, loops := true, apart := false }
def RangesWrapsSaid : Prop := rangesWrapsRow.holds Try.pinned (OpenSpec.ofChange rangesWrapsSpec)

/-- ITS FALSE NEIGHBOUR: 'it returns false'. Refute it at one input. -/
def rangesWrapsWrong : ChangeSpec := { name := "rangesWraps", fn := fun _ => fun
  | [d1, d2] => { results := [.lit (.bool false)], args := [d1, d2] }
  | _ => none }
def RangesWrapsWrongFalsely : Prop := rangesWrapsRow.holds Try.pinned (OpenSpec.ofChange rangesWrapsWrong)

/-- 'soffitlaw06.MeanNames': WHATEVER THE INPUT: true; the input reads as it did. -/
def meanNamesSpec : ChangeSpec := { name := "meanNames", fn := fun _ => fun
  | [] => { results := [.lit (.bool true)], args := [] }
  | _ => none }
def meanNamesRow : OpenClaim := { program := "ytgcplcffejbniaa", sum := "b0b0b365b034ef8e5f0f643edfd22438eaf9aa001417f9ff022c453c4675e296", func := "soffit/soffitlaw06.MeanNames", spec := "meanNames", unfollowed := true, recurses := true, apart := false }
def MeanNamesSaid : Prop := meanNamesRow.holds Try.pinned (OpenSpec.ofChange meanNamesSpec)

/-- ITS FALSE NEIGHBOUR: 'it returns false'. Refute it at one input. -/
def meanNamesWrong : ChangeSpec := { name := "meanNames", fn := fun _ => fun
  | [] => { results := [.lit (.bool false)], args := [] }
  | _ => none }
def MeanNamesWrongFalsely : Prop := meanNamesRow.holds Try.pinned (OpenSpec.ofChange meanNamesWrong)

/-- 'soffitlaw06.MeanMost': WHATEVER THE INPUT: true; the input reads as it did. -/
def meanMostSpec : ChangeSpec := { name := "meanMost", fn := fun _ => fun
  | [d1, d2, d3, d4, d5] => { results := [.lit (.bool true)], args := [d1, d2, d3, d4, d5] }
  | _ => none }
def meanMostRow : OpenClaim := { program := "ytgcplcffejbniaa", sum := "b0b0b365b034ef8e5f0f643edfd22438eaf9aa001417f9ff022c453c4675e296", func := "soffit/soffitlaw06.MeanMost", spec := "meanMost", unfollowed := true, recurses := true, loops := true, apart := false }
def MeanMostSaid : Prop := meanMostRow.holds Try.pinned (OpenSpec.ofChange meanMostSpec)

/-- ITS FALSE NEIGHBOUR: 'it returns false'. Refute it at one input. -/
def meanMostWrong : ChangeSpec := { name := "meanMost", fn := fun _ => fun
  | [d1, d2, d3, d4, d5] => { results := [.lit (.bool false)], args := [d1, d2, d3, d4, d5] }
  | _ => none }
def MeanMostWrongFalsely : Prop := meanMostRow.holds Try.pinned (OpenSpec.ofChange meanMostWrong)

/-- 'soffitlaw06.MeanAhead': WHATEVER THE INPUT: true; the input reads as it did. -/
def meanAheadSpec : ChangeSpec := { name := "meanAhead", fn := fun _ => fun
  | [d1, d2, d3, d4] => { results := [.lit (.bool true)], args := [d1, d2, d3, d4] }
  | _ => none }
def meanAheadRow : OpenClaim := { program := "ytgcplcffejbniaa", sum := "b0b0b365b034ef8e5f0f643edfd22438eaf9aa001417f9ff022c453c4675e296", func := "soffit/soffitlaw06.MeanAhead", spec := "meanAhead", unfollowed := true, recurses := true, loops := true, apart := false }
def MeanAheadSaid : Prop := meanAheadRow.holds Try.pinned (OpenSpec.ofChange meanAheadSpec)

/-- ITS FALSE NEIGHBOUR: 'it returns false'. Refute it at one input. -/
def meanAheadWrong : ChangeSpec := { name := "meanAhead", fn := fun _ => fun
  | [d1, d2, d3, d4] => { results := [.lit (.bool false)], args := [d1, d2, d3, d4] }
  | _ => none }
def MeanAheadWrongFalsely : Prop := meanAheadRow.holds Try.pinned (OpenSpec.ofChange meanAheadWrong)

/-- 'soffitlaw06.MeanSums': WHATEVER THE INPUT: true; the input reads as it did. -/
def meanSumsSpec : ChangeSpec := { name := "meanSums", fn := fun _ => fun
  | [d1, d2] => { results := [.lit (.bool true)], args := [d1, d2] }
  | _ => none }
def meanSumsRow : OpenClaim := { program := "ytgcplcffejbniaa", sum := "b0b0b365b034ef8e5f0f643edfd22438eaf9aa001417f9ff022c453c4675e296", func := "soffit/soffitlaw06.MeanSums", spec := "meanSums", unfollowed := true, recurses := true, apart := false }
def MeanSumsSaid : Prop := meanSumsRow.holds Try.pinned (OpenSpec.ofChange meanSumsSpec)

/-- ITS FALSE NEIGHBOUR: 'it returns false'. Refute it at one input. -/
def meanSumsWrong : ChangeSpec := { name := "meanSums", fn := fun _ => fun
  | [d1, d2] => { results := [.lit (.bool false)], args := [d1, d2] }
  | _ => none }
def MeanSumsWrongFalsely : Prop := meanSumsRow.holds Try.pinned (OpenSpec.ofChange meanSumsWrong)

/- THE SECOND FORM. 'bulk': how many values and letters a reading holds, each counted each time it is reached (what is shared counts as often as it is met; a slice's spare places count too). A statement '..UptoSaid' is the law's where the arguments, and the package variables that the reading takes, are together of bulk at most 1048576: NARROWER than '..Said'. Prove '..Said' where nothing that the law and all that it calls make is longer than what came in: it says more and counts as full. Else prove '..UptoSaid'. A law counts once. -/
mutual
def uptoBulk {H : Type} : DataW H → Nat
  | .lit (.string bytes) => bytes.length + 1
  | .lit _ => 1
  | .nil => 1
  | .ptr d => uptoBulk d + 1
  | .slice elems spare => uptoBulkAll elems + uptoBulkAll spare + 1
  | .agg parts => uptoBulkAll parts + 1
  | .iface _ d => uptoBulk d + 1
  | .map entries => uptoBulkEntries entries + 1
  | .held _ => 1
def uptoBulkAll {H : Type} : List (DataW H) → Nat
  | [] => 0
  | d :: r => uptoBulk d + uptoBulkAll r
def uptoBulkEntries {H : Type} : List (Lit × DataW H) → Nat
  | [] => 0
  | x :: r => uptoBulkEntry x + uptoBulkEntries r
def uptoBulkEntry {H : Type} : Lit × DataW H → Nat
  | (.string bytes, d) => bytes.length + uptoBulk d + 1
  | (_, d) => uptoBulk d + 1
 end
def uptoSmall : (H : Type) → List (DataW H) → Bool := fun _ ds => decide (uptoBulkAll ds ≤ 1048576)
def OpenSpec.upto (s : _root_.Go.ChangeSpec) : _root_.Go.OpenSpec := { _root_.Go.OpenSpec.ofChange s with cond := some uptoSmall }

/-- 'soffitlaw05.RangesNames', WHERE WHAT IT READS IS OF BULK AT MOST 1048576: true; the input reads as it did. -/
def rangesNamesUptoRow : OpenClaim := { program := "ytgcplcffejbniaa", sum := "b0b0b365b034ef8e5f0f643edfd22438eaf9aa001417f9ff022c453c4675e296", func := "soffit/soffitlaw05.RangesNames", spec := "rangesNames", unfollowed := true, recurses := true, apart := false, narrowed := true }
def RangesNamesUptoSaid : Prop := rangesNamesUptoRow.holds Try.pinned (OpenSpec.upto rangesNamesSpec)

/-- 'soffitlaw05.RangesAhead', WHERE WHAT IT READS IS OF BULK AT MOST 1048576: true; the input reads as it did. -/
def rangesAheadUptoRow : OpenClaim := { program := "ytgcplcffejbniaa", sum := "b0b0b365b034ef8e5f0f643edfd22438eaf9aa001417f9ff022c453c4675e296", func := "soffit/soffitlaw05.RangesAhead", spec := "rangesAhead", unfollowed := true, recurses := true, loops := true, apart := false, narrowed := true }
def RangesAheadUptoSaid : Prop := rangesAheadUptoRow.holds Try.pinned (OpenSpec.upto rangesAheadSpec)

/-- 'soffitlaw05.RangesSteps', WHERE WHAT IT READS IS OF BULK AT MOST 1048576: true; the input reads as it did. -/
def rangesStepsUptoRow : OpenClaim := { program := "ytgcplcffejbniaa", sum := "b0b0b365b034ef8e5f0f643edfd22438eaf9aa001417f9ff022c453c4675e296", func := "soffit/soffitlaw05.RangesSteps", spec := "rangesSteps", unfollowed := true, recurses := true, loops := true, apart := false, narrowed := true }
def RangesStepsUptoSaid : Prop := rangesStepsUptoRow.holds Try.pinned (OpenSpec.upto rangesStepsSpec)

/-- 'soffitlaw05.RangesArity', WHERE WHAT IT READS IS OF BULK AT MOST 1048576: true; the input reads as it did. -/
def rangesArityUptoRow : OpenClaim := { program := "ytgcplcffejbniaa", sum := "b0b0b365b034ef8e5f0f643edfd22438eaf9aa001417f9ff022c453c4675e296", func := "soffit/soffitlaw05.RangesArity", spec := "rangesArity", unfollowed := true, recurses := true, loops := true, apart := false, narrowed := true }
def RangesArityUptoSaid : Prop := rangesArityUptoRow.holds Try.pinned (OpenSpec.upto rangesAritySpec)

/-- 'soffitlaw05.RangesKeeps', WHERE WHAT IT READS IS OF BULK AT MOST 1048576: true; the input reads as it did. -/
def rangesKeepsUptoRow : OpenClaim := { program := "ytgcplcffejbniaa", sum := "b0b0b365b034ef8e5f0f643edfd22438eaf9aa001417f9ff022c453c4675e296", func := "soffit/soffitlaw05.RangesKeeps", spec := "rangesKeeps", unfollowed := true, recurses := true, loops := true, apart := false, narrowed := true }
def RangesKeepsUptoSaid : Prop := rangesKeepsUptoRow.holds Try.pinned (OpenSpec.upto rangesKeepsSpec)

/-- 'soffitlaw05.RangesWraps', WHERE WHAT IT READS IS OF BULK AT MOST 1048576: true; the input reads as it did. -/
def rangesWrapsUptoRow : OpenClaim := { program := "ytgcplcffejbniaa", sum := "b0b0b365b034ef8e5f0f643edfd22438eaf9aa001417f9ff022c453c4675e296", func := "soffit/soffitlaw05.RangesWraps", spec := "rangesWraps", unfollowed := true, recurses := true, loops := true, apart := false, narrowed := true }
def RangesWrapsUptoSaid : Prop := rangesWrapsUptoRow.holds Try.pinned (OpenSpec.upto rangesWrapsSpec)

/-- 'soffitlaw06.MeanNames', WHERE WHAT IT READS IS OF BULK AT MOST 1048576: true; the input reads as it did. -/
def meanNamesUptoRow : OpenClaim := { program := "ytgcplcffejbniaa", sum := "b0b0b365b034ef8e5f0f643edfd22438eaf9aa001417f9ff022c453c4675e296", func := "soffit/soffitlaw06.MeanNames", spec := "meanNames", unfollowed := true, recurses := true, apart := false, narrowed := true }
def MeanNamesUptoSaid : Prop := meanNamesUptoRow.holds Try.pinned (OpenSpec.upto meanNamesSpec)

/-- 'soffitlaw06.MeanMost', WHERE WHAT IT READS IS OF BULK AT MOST 1048576: true; the input reads as it did. -/
def meanMostUptoRow : OpenClaim := { program := "ytgcplcffejbniaa", sum := "b0b0b365b034ef8e5f0f643edfd22438eaf9aa001417f9ff022c453c4675e296", func := "soffit/soffitlaw06.MeanMost", spec := "meanMost", unfollowed := true, recurses := true, loops := true, apart := false, narrowed := true }
def MeanMostUptoSaid : Prop := meanMostUptoRow.holds Try.pinned (OpenSpec.upto meanMostSpec)

/-- 'soffitlaw06.MeanAhead', WHERE WHAT IT READS IS OF BULK AT MOST 1048576: true; the input reads as it did. -/
def meanAheadUptoRow : OpenClaim := { program := "ytgcplcffejbniaa", sum := "b0b0b365b034ef8e5f0f643edfd22438eaf9aa001417f9ff022c453c4675e296", func := "soffit/soffitlaw06.MeanAhead", spec := "meanAhead", unfollowed := true, recurses := true, loops := true, apart := false, narrowed := true }
def MeanAheadUptoSaid : Prop := meanAheadUptoRow.holds Try.pinned (OpenSpec.upto meanAheadSpec)

/-- 'soffitlaw06.MeanSums', WHERE WHAT IT READS IS OF BULK AT MOST 1048576: true; the input reads as it did. -/
def meanSumsUptoRow : OpenClaim := { program := "ytgcplcffejbniaa", sum := "b0b0b365b034ef8e5f0f643edfd22438eaf9aa001417f9ff022c453c4675e296", func := "soffit/soffitlaw06.MeanSums", spec := "meanSums", unfollowed := true, recurses := true, apart := false, narrowed := true }
def MeanSumsUptoSaid : Prop := meanSumsUptoRow.holds Try.pinned (OpenSpec.upto meanSumsSpec)

end Rows
end Go.Proofs.Ytgcplcffejbniaa
