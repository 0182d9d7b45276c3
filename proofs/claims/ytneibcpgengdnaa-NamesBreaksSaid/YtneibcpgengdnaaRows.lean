/-
  NARROWER THAN 'FOR EVERY INPUT', by the rows' own cells (each row's printed sentence says how): NamesCheck: loops · NamesCalls: loops · NamesAhead: loops · NamesBreaks: loops · NamesKeeps: loops · NamesWraps: loops.
  DERIVED. THE GIVEN ROWS OF THIS SEAT. 7 by the template 'for every input the law returns true; each argument reads behind the call as it read before'; 0 by the template 'total and deterministic' (their statements: YtneibcpgengdnaaTotals.lean).
  GIVEN WITH THE SEED: the statements are not yours to turn. If you find one false, say at which input.
  Laid BY PROGRAM, IN A SANDBOX (cutbox-rows.mjs): the forced cells as the released guide's own fill.sh prints them over the translation 939616c99206098a… (all of the seat's roots in one cut). By AI agents, Wed Nov 11 2026. No macro, syntax, notation, axiom, sorry.
-/
import Derived.Test.YtneibcpgengdnaaChecked
import GoSem.Claim
import GoSem.ClaimJoined
import GoSem.ClaimMapViews
import Derived.JoinedTies
import Derived.KernelRfl
namespace Go.Proofs.Ytneibcpgengdnaa
/- THE CELL 'sum', in the pinned program and in every row, IS THE sha256 OF THE DUMP (.gsa) THAT YtneibcpgengdnaaProg.lean LOADS. Nothing in Lean hashes anything: it is a label: what it is worth is what the hold of that sum in a sandbox is worth. -/
noncomputable def Try.pinned : Pinned := { name := "ytneibcpgengdnaa", sum := "939616c99206098a54f93780149f32c43ef1be56db89bcca55babcba3cc2b2a6", checked := Try.checked }
namespace Rows
def none {H : Type} : Left H := { results := [], args := [] }

/-- 'soffitlaw04.NamesNames': WHATEVER THE INPUT: true; the input reads as it did. -/
def namesNamesSpec : ChangeSpec := { name := "namesNames", fn := fun _ => fun
  | [] => { results := [.lit (.bool true)], args := [] }
  | _ => none }
def namesNamesRow : OpenClaim := { program := "ytneibcpgengdnaa", sum := "939616c99206098a54f93780149f32c43ef1be56db89bcca55babcba3cc2b2a6", func := "soffit/soffitlaw04.NamesNames", spec := "namesNames", unfollowed := true, recurses := true, apart := false }
def NamesNamesSaid : Prop := namesNamesRow.holds Try.pinned (OpenSpec.ofChange namesNamesSpec)

/-- ITS FALSE NEIGHBOUR: 'it returns false'. Refute it at one input. -/
def namesNamesWrong : ChangeSpec := { name := "namesNames", fn := fun _ => fun
  | [] => { results := [.lit (.bool false)], args := [] }
  | _ => none }
def NamesNamesWrongFalsely : Prop := namesNamesRow.holds Try.pinned (OpenSpec.ofChange namesNamesWrong)

/-- 'soffitlaw04.NamesCheck': WHATEVER THE INPUT: true; the input reads as it did. -/
def namesCheckSpec : ChangeSpec := { name := "namesCheck", fn := fun _ => fun
  | [d] => { results := [.lit (.bool true)], args := [d] }
  | _ => none }
def namesCheckRow : OpenClaim := { program := "ytneibcpgengdnaa", sum := "939616c99206098a54f93780149f32c43ef1be56db89bcca55babcba3cc2b2a6", func := "soffit/soffitlaw04.NamesCheck", spec := "namesCheck", unfollowed := true, recurses := true, loops := true, apart := false }
def NamesCheckSaid : Prop := namesCheckRow.holds Try.pinned (OpenSpec.ofChange namesCheckSpec)

/-- ITS FALSE NEIGHBOUR: 'it returns false'. Refute it at one input. -/
def namesCheckWrong : ChangeSpec := { name := "namesCheck", fn := fun _ => fun
  | [d] => { results := [.lit (.bool false)], args := [d] }
  | _ => none }
def NamesCheckWrongFalsely : Prop := namesCheckRow.holds Try.pinned (OpenSpec.ofChange namesCheckWrong)

/-- 'soffitlaw04.NamesCalls': WHATEVER THE INPUT: true; the input reads as it did. -/
def namesCallsSpec : ChangeSpec := { name := "namesCalls", fn := fun _ => fun
  | [d1, d2] => { results := [.lit (.bool true)], args := [d1, d2] }
  | _ => none }
def namesCallsRow : OpenClaim := { program := "ytneibcpgengdnaa", sum := "939616c99206098a54f93780149f32c43ef1be56db89bcca55babcba3cc2b2a6", func := "soffit/soffitlaw04.NamesCalls", spec := "namesCalls", unfollowed := true, recurses := true, loops := true, apart := false }
def NamesCallsSaid : Prop := namesCallsRow.holds Try.pinned (OpenSpec.ofChange namesCallsSpec)

/-- ITS FALSE NEIGHBOUR: 'it returns false'. Refute it at one input. -/
def namesCallsWrong : ChangeSpec := { name := "namesCalls", fn := fun _ => fun
  | [d1, d2] => { results := [.lit (.bool false)], args := [d1, d2] }
  | _ => none }
def NamesCallsWrongFalsely : Prop := namesCallsRow.holds Try.pinned (OpenSpec.ofChange namesCallsWrong)

/-- 'soffitlaw04.NamesAhead': WHATEVER THE INPUT: true; the input reads as it did. -/
def namesAheadSpec : ChangeSpec := { name := "namesAhead", fn := fun _ => fun
  | [d1, d2] => { results := [.lit (.bool true)], args := [d1, d2] }
  | _ => none }
def namesAheadRow : OpenClaim := { program := "ytneibcpgengdnaa", sum := "939616c99206098a54f93780149f32c43ef1be56db89bcca55babcba3cc2b2a6", func := "soffit/soffitlaw04.NamesAhead", spec := "namesAhead", unfollowed := true, recurses := true, loops := true, apart := false }
def NamesAheadSaid : Prop := namesAheadRow.holds Try.pinned (OpenSpec.ofChange namesAheadSpec)

/-- ITS FALSE NEIGHBOUR: 'it returns false'. Refute it at one input. -/
def namesAheadWrong : ChangeSpec := { name := "namesAhead", fn := fun _ => fun
  | [d1, d2] => { results := [.lit (.bool false)], args := [d1, d2] }
  | _ => none }
def NamesAheadWrongFalsely : Prop := namesAheadRow.holds Try.pinned (OpenSpec.ofChange namesAheadWrong)

/-- 'soffitlaw04.NamesBreaks': WHATEVER THE INPUT: true; the input reads as it did. -/
def namesBreaksSpec : ChangeSpec := { name := "namesBreaks", fn := fun _ => fun
  | [d1, d2] => { results := [.lit (.bool true)], args := [d1, d2] }
  | _ => none }
def namesBreaksRow : OpenClaim := { program := "ytneibcpgengdnaa", sum := "939616c99206098a54f93780149f32c43ef1be56db89bcca55babcba3cc2b2a6", func := "soffit/soffitlaw04.NamesBreaks", spec := "namesBreaks", unfollowed := true, recurses := true, loops := true, apart := false }
def NamesBreaksSaid : Prop := namesBreaksRow.holds Try.pinned (OpenSpec.ofChange namesBreaksSpec)

/-- ITS FALSE NEIGHBOUR: 'it returns false'. Refute it at one input. -/
def namesBreaksWrong : ChangeSpec := { name := "namesBreaks", fn := fun _ => fun
  | [d1, d2] => { results := [.lit (.bool false)], args := [d1, d2] }
  | _ => none }
def NamesBreaksWrongFalsely : Prop := namesBreaksRow.holds Try.pinned (OpenSpec.ofChange namesBreaksWrong)

/-- 'soffitlaw04.NamesKeeps': WHATEVER THE INPUT: true; the input reads as it did. -/
def namesKeepsSpec : ChangeSpec := { name := "namesKeeps", fn := fun _ => fun
  | [d1, d2] => { results := [.lit (.bool true)], args := [d1, d2] }
  | _ => none }
def namesKeepsRow : OpenClaim := { program := "ytneibcpgengdnaa", sum := "939616c99206098a54f93780149f32c43ef1be56db89bcca55babcba3cc2b2a6", func := "soffit/soffitlaw04.NamesKeeps", spec := "namesKeeps", unfollowed := true, recurses := true, loops := true, apart := false }
def NamesKeepsSaid : Prop := namesKeepsRow.holds Try.pinned (OpenSpec.ofChange namesKeepsSpec)

/-- ITS FALSE NEIGHBOUR: 'it returns false'. Refute it at one input. -/
def namesKeepsWrong : ChangeSpec := { name := "namesKeeps", fn := fun _ => fun
  | [d1, d2] => { results := [.lit (.bool false)], args := [d1, d2] }
  | _ => none }
def NamesKeepsWrongFalsely : Prop := namesKeepsRow.holds Try.pinned (OpenSpec.ofChange namesKeepsWrong)

/-- 'soffitlaw04.NamesWraps': WHATEVER THE INPUT: true; the input reads as it did. -/
def namesWrapsSpec : ChangeSpec := { name := "namesWraps", fn := fun _ => fun
  | [d1, d2] => { results := [.lit (.bool true)], args := [d1, d2] }
  | _ => none }
def namesWrapsRow : OpenClaim := { program := "ytneibcpgengdnaa", sum := "939616c99206098a54f93780149f32c43ef1be56db89bcca55babcba3cc2b2a6", func := "soffit/soffitlaw04.NamesWraps", spec := "namesWraps", unfollowed := true, recurses := true, loops := true, apart := false }
def NamesWrapsSaid : Prop := namesWrapsRow.holds Try.pinned (OpenSpec.ofChange namesWrapsSpec)

/-- ITS FALSE NEIGHBOUR: 'it returns false'. Refute it at one input. -/
def namesWrapsWrong : ChangeSpec := { name := "namesWraps", fn := fun _ => fun
  | [d1, d2] => { results := [.lit (.bool false)], args := [d1, d2] }
  | _ => none }
def NamesWrapsWrongFalsely : Prop := namesWrapsRow.holds Try.pinned (OpenSpec.ofChange namesWrapsWrong)

/- THE SECOND FORM. 'bulk': how many values and letters a reading holds, each counted each time it is reached (what is shared counts as often as it is met; a slice's spare places count too). A statement '..UptoSaid' is the law's where the arguments, and the package variables that the reading takes, are together of bulk at most 1048576: NARROWER than '..Said'. Prove '..Said' where nothing that the law and all that it calls make is longer than what came in: it says more and counts as full. Else prove '..UptoSaid'. A law counts once. -/
mutual
def uptoBulk {H : Type} : DataW H → Nat
  | .lit (.string bytes) => bytes.length + 1
  | .lit _ => 1
  | .nil => 1
  | .ptr d => uptoBulk d + 1
  | .slice elems spare => uptoBulkAll elems + uptoBulkAll spare + 1
  | .agg parts => uptoBulkAll parts + 1
  | .iface _ d => uptoBulk d + 1
  | .map entries => uptoBulkEntries entries + 1
  | .held _ => 1
def uptoBulkAll {H : Type} : List (DataW H) → Nat
  | [] => 0
  | d :: r => uptoBulk d + uptoBulkAll r
def uptoBulkEntries {H : Type} : List (Lit × DataW H) → Nat
  | [] => 0
  | x :: r => uptoBulkEntry x + uptoBulkEntries r
def uptoBulkEntry {H : Type} : Lit × DataW H → Nat
  | (.string bytes, d) => bytes.length + uptoBulk d + 1
  | (_, d) => uptoBulk d + 1
 end
def uptoSmall : (H : Type) → List (DataW H) → Bool := fun _ ds => decide (uptoBulkAll ds ≤ 1048576)
def OpenSpec.upto (s : _root_.Go.ChangeSpec) : _root_.Go.OpenSpec := { _root_.Go.OpenSpec.ofChange s with cond := some uptoSmall }

/-- 'soffitlaw04.NamesNames', WHERE WHAT IT READS IS OF BULK AT MOST 1048576: true; the input reads as it did. -/
def namesNamesUptoRow : OpenClaim := { program := "ytneibcpgengdnaa", sum := "939616c99206098a54f93780149f32c43ef1be56db89bcca55babcba3cc2b2a6", func := "soffit/soffitlaw04.NamesNames", spec := "namesNames", unfollowed := true, recurses := true, apart := false, narrowed := true }
def NamesNamesUptoSaid : Prop := namesNamesUptoRow.holds Try.pinned (OpenSpec.upto namesNamesSpec)

/-- 'soffitlaw04.NamesCheck', WHERE WHAT IT READS IS OF BULK AT MOST 1048576: true; the input reads as it did. -/
def namesCheckUptoRow : OpenClaim := { program := "ytneibcpgengdnaa", sum := "939616c99206098a54f93780149f32c43ef1be56db89bcca55babcba3cc2b2a6", func := "soffit/soffitlaw04.NamesCheck", spec := "namesCheck", unfollowed := true, recurses := true, loops := true, apart := false, narrowed := true }
def NamesCheckUptoSaid : Prop := namesCheckUptoRow.holds Try.pinned (OpenSpec.upto namesCheckSpec)

/-- 'soffitlaw04.NamesCalls', WHERE WHAT IT READS IS OF BULK AT MOST 1048576: true; the input reads as it did. -/
def namesCallsUptoRow : OpenClaim := { program := "ytneibcpgengdnaa", sum := "939616c99206098a54f93780149f32c43ef1be56db89bcca55babcba3cc2b2a6", func := "soffit/soffitlaw04.NamesCalls", spec := "namesCalls", unfollowed := true, recurses := true, loops := true, apart := false, narrowed := true }
def NamesCallsUptoSaid : Prop := namesCallsUptoRow.holds Try.pinned (OpenSpec.upto namesCallsSpec)

/-- 'soffitlaw04.NamesAhead', WHERE WHAT IT READS IS OF BULK AT MOST 1048576: true; the input reads as it did. -/
def namesAheadUptoRow : OpenClaim := { program := "ytneibcpgengdnaa", sum := "939616c99206098a54f93780149f32c43ef1be56db89bcca55babcba3cc2b2a6", func := "soffit/soffitlaw04.NamesAhead", spec := "namesAhead", unfollowed := true, recurses := true, loops := true, apart := false, narrowed := true }
def NamesAheadUptoSaid : Prop := namesAheadUptoRow.holds Try.pinned (OpenSpec.upto namesAheadSpec)

/-- 'soffitlaw04.NamesBreaks', WHERE WHAT IT READS IS OF BULK AT MOST 1048576: true; the input reads as it did. -/
def namesBreaksUptoRow : OpenClaim := { program := "ytneibcpgengdnaa", sum := "939616c99206098a54f93780149f32c43ef1be56db89bcca55babcba3cc2b2a6", func := "soffit/soffitlaw04.NamesBreaks", spec := "namesBreaks", unfollowed := true, recurses := true, loops := true, apart := false, narrowed := true }
def NamesBreaksUptoSaid : Prop := namesBreaksUptoRow.holds Try.pinned (OpenSpec.upto namesBreaksSpec)

/-- 'soffitlaw04.NamesKeeps', WHERE WHAT IT READS IS OF BULK AT MOST 1048576: true; the input reads as it did. -/
def namesKeepsUptoRow : OpenClaim := { program := "ytneibcpgengdnaa", sum := "939616c99206098a54f93780149f32c43ef1be56db89bcca55babcba3cc2b2a6", func := "soffit/soffitlaw04.NamesKeeps", spec := "namesKeeps", unfollowed := true, recurses := true, loops := true, apart := false, narrowed := true }
def NamesKeepsUptoSaid : Prop := namesKeepsUptoRow.holds Try.pinned (OpenSpec.upto namesKeepsSpec)

/-- 'soffitlaw04.NamesWraps', WHERE WHAT IT READS IS OF BULK AT MOST 1048576: true; the input reads as it did. -/
def namesWrapsUptoRow : OpenClaim := { program := "ytneibcpgengdnaa", sum := "939616c99206098a54f93780149f32c43ef1be56db89bcca55babcba3cc2b2a6", func := "soffit/soffitlaw04.NamesWraps", spec := "namesWraps", unfollowed := true, recurses := true, loops := true, apart := false, narrowed := true }
def NamesWrapsUptoSaid : Prop := namesWrapsUptoRow.holds Try.pinned (OpenSpec.upto namesWrapsSpec)

end Rows
end Go.Proofs.Ytneibcpgengdnaa
