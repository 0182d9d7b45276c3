/-
  NARROWER THAN 'FOR EVERY INPUT', by the rows' own cells (each row's printed sentence says how): GenMay: loops, laid.
  DERIVED. THE GIVEN ROWS OF THIS SEAT. 1 by the template 'for every input the law returns true; each argument reads behind the call as it read before'; 0 by the template 'total and deterministic' (their statements: YtgobcldecokppaaDoorTotals.lean).
  GIVEN WITH THE SEED: the statements are not yours to turn. If you find one false, say at which input.
  Laid BY PROGRAM, IN A SANDBOX (cutbox-rows.mjs): the forced cells as the released guide's own fill.sh prints them over the translation d42ce95b18f7bd39… (all of the seat's roots in one cut). By AI agents, Wed Nov 11 2026. No macro, syntax, notation, axiom, sorry.
-/
import Derived.Test.YtgobcldecokppaaDoorChecked
import GoSem.Claim
import GoSem.ClaimJoined
import GoSem.ClaimMapViews
import Derived.JoinedTies
import Derived.KernelRfl
namespace Go.Proofs.YtgobcldecokppaaDoor
/- THE CELL 'sum', in the pinned program and in every row, IS THE sha256 OF THE DUMP (.gsa) THAT YtgobcldecokppaaDoorProg.lean LOADS. Nothing in Lean hashes anything: it is a label: what it is worth is what the hold of that sum in a sandbox is worth. -/
noncomputable def Tryd.pinned : Pinned := { name := "ytgobcldecokppaadoor", sum := "d42ce95b18f7bd394cee1aebee783369ad70d0c7cf2e3e4543fa6eb3bfee8dbf", checked := Tryd.checked }
namespace Rows
def none {H : Type} : Left H := { results := [], args := [] }

/- WHAT THE LISTED PACKAGE-LEVEL VARIABLES READ AS WHEN THE CALL BEGINS. Each datum BY PROGRAM (the guide's laid-datum.mjs) off the statement by which the dump's own 'gosem.cut.vars' lays the variable. In a bare row this is a premise. The card (YtgobcldecokppaaDoorCards.lean) ties it to the program's text. -/
def laid_soffit_code_rows {H : Type} : DataW H := .agg [.agg [.lit (.string [114, 101, 116]), .lit (.int .i64 1), .lit (.bool true), .lit (.bool false), .lit (.bool false), .lit (.int .i64 0), .lit (.bool false)], .agg [.lit (.string [115, 101, 116]), .lit (.int .i64 1), .lit (.bool true), .lit (.bool false), .lit (.bool false), .lit (.int .i64 1), .lit (.bool true)], .agg [.lit (.string [109, 111, 118, 101]), .lit (.int .i64 1), .lit (.bool true), .lit (.bool true), .lit (.bool false), .lit (.int .i64 0), .lit (.bool true)], .agg [.lit (.string [97, 100, 100]), .lit (.int .i64 1), .lit (.bool true), .lit (.bool true), .lit (.bool true), .lit (.int .i64 0), .lit (.bool true)], .agg [.lit (.string [115, 117, 98]), .lit (.int .i64 1), .lit (.bool true), .lit (.bool true), .lit (.bool true), .lit (.int .i64 0), .lit (.bool true)], .agg [.lit (.string [109, 117, 108]), .lit (.int .i64 3), .lit (.bool true), .lit (.bool true), .lit (.bool true), .lit (.int .i64 0), .lit (.bool true)], .agg [.lit (.string [100, 105, 118]), .lit (.int .i64 8), .lit (.bool true), .lit (.bool true), .lit (.bool true), .lit (.int .i64 0), .lit (.bool true)], .agg [.lit (.string [114, 101, 109]), .lit (.int .i64 8), .lit (.bool true), .lit (.bool true), .lit (.bool true), .lit (.int .i64 0), .lit (.bool true)], .agg [.lit (.string [108, 101, 115, 115]), .lit (.int .i64 1), .lit (.bool true), .lit (.bool true), .lit (.bool true), .lit (.int .i64 0), .lit (.bool true)], .agg [.lit (.string [101, 113, 117, 97, 108]), .lit (.int .i64 1), .lit (.bool true), .lit (.bool true), .lit (.bool true), .lit (.int .i64 0), .lit (.bool true)], .agg [.lit (.string [110, 111, 116]), .lit (.int .i64 1), .lit (.bool true), .lit (.bool true), .lit (.bool false), .lit (.int .i64 0), .lit (.bool true)], .agg [.lit (.string [108, 111, 97, 100]), .lit (.int .i64 2), .lit (.bool true), .lit (.bool true), .lit (.bool false), .lit (.int .i64 1), .lit (.bool true)], .agg [.lit (.string [115, 116, 111, 114, 101]), .lit (.int .i64 2), .lit (.bool true), .lit (.bool true), .lit (.bool false), .lit (.int .i64 1), .lit (.bool false)], .agg [.lit (.string [99, 104, 101, 99, 107]), .lit (.int .i64 1), .lit (.bool true), .lit (.bool false), .lit (.bool false), .lit (.int .i64 3), .lit (.bool false)], .agg [.lit (.string [106, 117, 109, 112]), .lit (.int .i64 1), .lit (.bool false), .lit (.bool false), .lit (.bool false), .lit (.int .i64 2), .lit (.bool false)], .agg [.lit (.string [105, 102]), .lit (.int .i64 1), .lit (.bool true), .lit (.bool false), .lit (.bool false), .lit (.int .i64 2), .lit (.bool false)], .agg [.lit (.string [117, 110, 108, 101, 115, 115]), .lit (.int .i64 1), .lit (.bool true), .lit (.bool false), .lit (.bool false), .lit (.int .i64 2), .lit (.bool false)], .agg [.lit (.string [99, 111, 117, 110, 116]), .lit (.int .i64 1), .lit (.bool true), .lit (.bool true), .lit (.bool false), .lit (.int .i64 2), .lit (.bool false)], .agg [.lit (.string [115, 116, 101, 112]), .lit (.int .i64 1), .lit (.bool true), .lit (.bool false), .lit (.bool false), .lit (.int .i64 2), .lit (.bool true)], .agg [.lit (.string [99, 97, 108, 108]), .lit (.int .i64 4), .lit (.bool true), .lit (.bool true), .lit (.bool false), .lit (.int .i64 4), .lit (.bool true)]]

/-- 'soffitlaw22.GenMay': WHATEVER THE INPUT: true; the input reads as it did. -/
def genMaySpec : ChangeSpec := { name := "genMay", fn := fun _ => fun
  | [d] => { results := [.lit (.bool true)], args := [d] }
  | _ => none }
def genMayRow : OpenClaim := { program := "ytgobcldecokppaadoor", sum := "d42ce95b18f7bd394cee1aebee783369ad70d0c7cf2e3e4543fa6eb3bfee8dbf", func := "soffit/soffitlaw22.GenMay", spec := "genMay", unfollowed := true, recurses := true, named := ["soffit/code.rows"], loops := true, apart := false, laid := [("soffit/code.rows", laid_soffit_code_rows)] }
def GenMaySaid : Prop := genMayRow.holds Tryd.pinned (OpenSpec.ofChange genMaySpec)

/-- ITS FALSE NEIGHBOUR: 'it returns false'. Refute it at one input. -/
def genMayWrong : ChangeSpec := { name := "genMay", fn := fun _ => fun
  | [d] => { results := [.lit (.bool false)], args := [d] }
  | _ => none }
def GenMayWrongFalsely : Prop := genMayRow.holds Tryd.pinned (OpenSpec.ofChange genMayWrong)

/- THE SECOND FORM. 'bulk': how many values and letters a reading holds, each counted each time it is reached (what is shared counts as often as it is met; a slice's spare places count too). A statement '..UptoSaid' is the law's where the arguments, and the package variables that the reading takes, are together of bulk at most 1048576: NARROWER than '..Said'. Prove '..Said' where nothing that the law and all that it calls make is longer than what came in: it says more and counts as full. Else prove '..UptoSaid'. A law counts once. -/
mutual
def uptoBulk {H : Type} : DataW H → Nat
  | .lit (.string bytes) => bytes.length + 1
  | .lit _ => 1
  | .nil => 1
  | .ptr d => uptoBulk d + 1
  | .slice elems spare => uptoBulkAll elems + uptoBulkAll spare + 1
  | .agg parts => uptoBulkAll parts + 1
  | .iface _ d => uptoBulk d + 1
  | .map entries => uptoBulkEntries entries + 1
  | .held _ => 1
def uptoBulkAll {H : Type} : List (DataW H) → Nat
  | [] => 0
  | d :: r => uptoBulk d + uptoBulkAll r
def uptoBulkEntries {H : Type} : List (Lit × DataW H) → Nat
  | [] => 0
  | x :: r => uptoBulkEntry x + uptoBulkEntries r
def uptoBulkEntry {H : Type} : Lit × DataW H → Nat
  | (.string bytes, d) => bytes.length + uptoBulk d + 1
  | (_, d) => uptoBulk d + 1
 end
def uptoSmall : (H : Type) → List (DataW H) → Bool := fun _ ds => decide (uptoBulkAll ds ≤ 1048576)
def OpenSpec.upto (s : _root_.Go.ChangeSpec) : _root_.Go.OpenSpec := { _root_.Go.OpenSpec.ofChange s with cond := some uptoSmall }

/-- 'soffitlaw22.GenMay', WHERE WHAT IT READS IS OF BULK AT MOST 1048576: true; the input reads as it did. -/
def genMayUptoRow : OpenClaim := { program := "ytgobcldecokppaadoor", sum := "d42ce95b18f7bd394cee1aebee783369ad70d0c7cf2e3e4543fa6eb3bfee8dbf", func := "soffit/soffitlaw22.GenMay", spec := "genMay", unfollowed := true, recurses := true, named := ["soffit/code.rows"], loops := true, apart := false, laid := [("soffit/code.rows", laid_soffit_code_rows)], narrowed := true }
def GenMayUptoSaid : Prop := genMayUptoRow.holds Tryd.pinned (OpenSpec.upto genMaySpec)

end Rows
end Go.Proofs.YtgobcldecokppaaDoor
