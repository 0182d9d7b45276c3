/-
  DERIVED. GIVEN WITH THE SEED: THE CARDS: each row of YtgobcldecokppaaDoorRows.lean that lists a variable, with what it lists TIED to the program's text (the seventh form; the later family's looks); each row that meets fmt, with fmt's text TOLD by the authors' own Lean function (tested against real Go, not proved from fmt's source: count such statements apart). THE CARD IS WHAT COUNTS. Prove the row's statement (the work); the ties are given (YtgobcldecokppaaDoorTie.lean); close each card by the builder's one call (the guide's Derived/Test/ToyasCard.lean, 'card_holds'). Laid BY PROGRAM, IN A SANDBOX (cutbox-door.mjs). By AI agents, Wed Nov 11 2026. No macro, syntax, notation, axiom, sorry.
-/
import Derived.Test.YtgobcldecokppaaDoorRows
import GoSem.ClaimSeven
namespace Go.Proofs.YtgobcldecokppaaDoor
namespace Rows

/-- THE TIED CARD OF 'soffitlaw22.GenMay'. -/
def genMayCard : Claim7 := { stood := { row := genMayRow, standIns := [], harness := (true, "058ae5eb9a27b61101fbe5db177eabf935555835e3d8fa07f59e30aee0fa46af"), looks := false }, kinds := [], alts := [], laidByText := true, laidKinds := [.data], laidTests := true, laidLooks := .later }
def GenMayCardSaid : Prop := Claim7.holds Tryd.pinned (.plain (OpenSpec.ofChange genMaySpec)) genMayCard

/-- THE SECOND FORM's CARD OF 'soffitlaw22.GenMay'. -/
def genMayUptoCard : Claim7 := { stood := { row := genMayUptoRow, standIns := [], harness := (true, "058ae5eb9a27b61101fbe5db177eabf935555835e3d8fa07f59e30aee0fa46af"), looks := false }, kinds := [], alts := [], laidByText := true, laidKinds := [.data], laidTests := true, laidLooks := .later }
def GenMayUptoCardSaid : Prop := Claim7.holds Tryd.pinned (.plain (OpenSpec.upto genMaySpec)) genMayUptoCard
end Rows
end Go.Proofs.YtgobcldecokppaaDoor
